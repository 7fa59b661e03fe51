/- The laws of the state package, walked: each returns true at whatever input, and leaves what came in as it was. -/
import Derived.Test.YtmingejcddhdeaaState
import Derived.Deep.Slices
namespace Go.Den
open Go Go.RowKit
theorem SH.old {w0 w : World} {L : List Atom} (h : SH w0 w L) {a : Addr} {v : Value} (hc : w0.cell? a = some v) : w.cell? a = some v := by
  have hlt := World.block_lt_of_cell? w0 a hc
  rw [← hc]; exact World.cell?_of_block (w := w0) (h.below.block a.block hlt)
end Go.Den
namespace Go.Proofs.Ytmingejcddhdeaa
open Go Go.Den
/-- A row of steps, as it lies in memory. -/
def Steps (w : World) (a : Option Addr) (len : Nat) (D : Nat → Bool) (Z : Nat → Nat) : Prop :=
  ∀ i, i < len → ∃ x, a = some x ∧ w.cell? ((x.add (i * 2)).add 0) = some (.bool (D i)) ∧ w.cell? ((x.add (i * 2)).add 1) = some (.int .u8 (Z i : Nat)) ∧ Z i < 256
def least (p : Nat) : Int := if p = 1 then 60 else if p = 17 then 120 else 240
theorem begin_ok (p fl : Nat) : (begin_ p fl).2 = 0 → (begin_ p fl).1.k = p ∧ (begin_ p fl).1.ok ∧ (p = 6 ∨ p = 17 ∨ p = 1) := by
  unfold begin_
  by_cases h6 : p = 6
  · subst h6
    cases opens fl
    · intro h; exact absurd h (by decide)
    · intro _; exact ⟨rfl, ⟨by decide, by decide⟩, .inl rfl⟩
  · rw [if_neg h6]
    by_cases h : p = 17 ∨ p = 1
    · rw [if_pos h]; intro _; exact ⟨rfl, ⟨show (0 : Nat) < 256 by decide, show (0 : Nat) < 256 by decide⟩, .inr h⟩
    · rw [if_neg h]; intro h; exact absurd h (by decide)
theorem next_ok (s : St) (d : Bool) (z : Nat) (h : s.ok) : (next s d z).ok := by
  unfold next
  split
  · exact h
  split
  · exact ⟨show (2 : Nat) < 256 by decide, show (0 : Nat) < 256 by decide⟩
  cases d
  · exact ⟨h.1, Nat.lt_of_le_of_lt Nat.and_le_right (by decide)⟩
  · exact ⟨Nat.lt_of_le_of_lt Nat.and_le_right (by decide), h.2⟩
theorem next_k (s : St) (d : Bool) (z : Nat) : (next s d z).k = s.k := by
  unfold next
  split
  · rfl
  split
  · rfl
  cases d <;> rfl
theorem next_fixed (s : St) (d : Bool) (z : Nat) (h : s.k ≠ 6) : next s d z = s := by unfold next; rw [if_pos h]
theorem life_least (s : St) (a b c d : Int) (h : right a b c d = true) (hk : s.k = 6 ∨ s.k = 17 ∨ s.k = 1) : least s.k ≤ life s a b c d ∧ life s a b c d ≤ most a b c d ∧ ((s.f && !s.c) = true → s.k = 6 → 7440 ≤ life s a b c d) := by
  simp only [right, Bool.and_eq_true, decide_eq_true_eq] at h
  have hm : a ≤ most a b c d ∧ b ≤ most a b c d ∧ c ≤ most a b c d ∧ d ≤ most a b c d := by
    unfold most; simp only []
    split <;> split <;> split <;> omega
  unfold least life
  rcases hk with hk | hk | hk <;> rw [hk] <;> simp <;> (try split) <;> (try omega)
  all_goals (try simp_all)
  all_goals omega
theorem begin_f (p fl : Nat) : (begin_ p fl).1.f = false := by
  unfold begin_
  split
  · split <;> rfl
  · split <;> rfl
attribute [local irreducible] wpC
set_option maxHeartbeats 4000000 in
theorem lives_walk (p fl : Nat) (hfl : fl < 256) (a : Option Addr) (len cap : Nat) (t0 t1 t2 t3 : Int) (D : Nat → Bool) (Z : Nat → Nat) (w : World) (hS : Steps w a len D Z) :
    Does Try.prog 3 [.int .u8 p, .int .u8 fl, .slice a len cap, Tm t0 t1 t2 t3] w fun v w' => v = .bool true ∧ Grows w w' := by
  refine s3 rfl ?_
  refine row_in ?_
  refine (SH.nil w).boxK [_, _, _, _] fun b7 w1 hL => ?_
  refine if_in ?_
  refine (alive_spec _).mono ?_
  rintro _ w2 ⟨rfl, hg⟩
  have hL := hL.grows hg
  refine ⟨_, rfl, ?_⟩
  refine skip_in ?_
  refine row_in ?_
  refine (begin_spec p fl hfl _).mono ?_
  rintro _ w3 ⟨rfl, hg⟩
  have hL := hL.grows hg
  refine hL.newK fun b9 w4 hL => ?_
  refine hL.stK [_, _, _, _, _] fun w5 hL => ?_
  refine if_in ?_
  refine ⟨decide ((200 : Int) < len), rfl, ?_⟩
  cases h200 : decide ((200 : Int) < len)
  rotate_left
  · refine row_in ?_
    refine ret_in ?_
    exact ⟨rfl, hL.grown⟩
  refine ⟨decide ((begin_ p fl).2 ≠ 0), rfl, ?_⟩
  cases hb : decide ((begin_ p fl).2 ≠ 0)
  rotate_left
  · refine row_in ?_
    refine ret_in ?_
    exact ⟨rfl, hL.grown⟩
  refine ⟨_, hL.lds rfl, ?_⟩
  refine (right_spec t0 t1 t2 t3 _).mono ?_
  rintro _ w6 ⟨rfl, hg⟩
  have hL := hL.grows hg
  refine ⟨!right t0 t1 t2 t3, rfl, ?_⟩
  cases hr : right t0 t1 t2 t3
  · refine row_in ?_
    refine ret_in ?_
    exact ⟨rfl, hL.grown⟩
  refine skip_in ?_
  have hb0 : (begin_ p fl).2 = 0 := by simpa using hb
  obtain ⟨hk, hok, hpp⟩ := begin_ok p fl hb0
  have hf := begin_f p fl
  have hlen : len ≤ 200 := by have := of_decide_eq_false h200; omega
  generalize (begin_ p fl).1 = s0 at *
  refine reframe [0, 2, 7, 9] [.int .u8 p, .slice a len cap, .pointer (some ⟨b7, 0, none⟩), .pointer (some ⟨b9, 0, none⟩)] rfl fun g0 => ?_
  refine seq_in (row_in ?_)
  refine block_in ?_
  refine loop_rule (8 :: 11 :: 12 :: 13 :: 14 :: List.range' 35 63) rfl [11] (fun (s : Nat × St) => [.int .i64 s.1])
    (fun s w' => s.1 ≤ len ∧ s.2.k = p ∧ s.2.ok ∧ (p = 6 ∨ s.2.f = false) ∧ SH w w' [Cl b9 28 s.2.l, Cl b7 25 [.int .u64 t0, .int .u64 t1, .int .u64 t2, .int .u64 t3]]) (fun s => len - s.1) (0, s0) rfl
    ⟨Nat.zero_le _, hk, hok, .inr hf, hL⟩ ?_
  clear hL hok hk hf
  rintro g1 ⟨i, s⟩ w7 ⟨hi, hk, hok, hf, hL⟩
  have hi : i ≤ len := hi
  have hk : s.k = p := hk
  have hok : s.ok := hok
  have hf : p = 6 ∨ s.f = false := hf
  refine if_in ?_
  refine ⟨decide ((i : Int) < len), rfl, ?_⟩
  cases hil : decide ((i : Int) < len)
  · refine exit_in ?_
    refine row_in ?_
    refine ret_in ?_
    exact ⟨rfl, hL.grown⟩
  have hil : i < len := by have := of_decide_eq_true hil; omega
  obtain ⟨x, rfl, hs0, hs1, hz⟩ := hS i hil
  refine skip_in ?_
  refine block_then ?_
  refine row_in ?_
  refine ⟨_, hL.lds rfl, ?_⟩
  refine hL.newK fun b12 w8 hL => ?_
  refine hL.stK [_, _, _, _, _] fun w9 hL => ?_
  refine draw_in ?_
  have hL := hL.drew
  refine ⟨_, hL.lds rfl, ?_⟩
  refine ⟨⟨by omega, by omega⟩, x.add (i * 2), rfl, ?_⟩
  refine ⟨_, hL.old hs0, ?_⟩
  refine ⟨⟨by omega, by omega⟩, x.add (i * 2), rfl, ?_⟩
  refine ⟨_, hL.old hs1, ?_⟩
  refine (next_spec s (D i) (Z i) hz hok _).mono ?_
  rintro _ w10 ⟨rfl, hg⟩
  have hL := hL.grows hg
  have hk2 := next_k s (D i) (Z i)
  have hok2 := next_ok s (D i) (Z i) hok
  have hfix : s.k ≠ 6 → next s (D i) (Z i) = s := next_fixed s (D i) (Z i)
  refine ⟨⟨hL.old hs1, hL.old hs0, ⟨_, hL.lds rfl, rfl⟩, trivial⟩, ?_⟩
  generalize next s (D i) (Z i) = s' at *
  refine hL.stK [_, _, _, _, _] fun w11 hL => ?_
  refine row_in ?_
  refine cut_rule [13, 54, 55] rfl [13] (fun (m : Int) => [.int .u64 m]) (fun m w' => m = (if p = 17 then 120 else 240) ∧ SH w w' [Cl b9 28 s'.l, Cl b12 28 s.l, Cl b7 25 [.int .u64 t0, .int .u64 t1, .int .u64 t2, .int .u64 t3]]) ?_ ?_
  · refine seq_in (ops_in ?_)
    by_cases h17 : p = 17
    · refine ⟨true, decide_eq_true (show (p : Int) = _ by omega), ?_⟩
      refine cond_in ?_
      refine ops_in ?_
      exact ⟨_, rfl, by rw [if_pos h17], hL⟩
    · refine ⟨false, decide_eq_false (show ¬ (p : Int) = _ by omega), ?_⟩
      refine cond_in ?_
      refine skip_in ?_
      exact ⟨_, rfl, by rw [if_neg h17], hL⟩
  clear hL
  rintro g2 m w12 ⟨hm, hL⟩
  refine cut_rule [13, 56, 57] rfl [13] (fun (m : Int) => [.int .u64 m]) (fun m w' => m = least p ∧ SH w w' [Cl b9 28 s'.l, Cl b12 28 s.l, Cl b7 25 [.int .u64 t0, .int .u64 t1, .int .u64 t2, .int .u64 t3]]) ?_ ?_
  · refine seq_in (ops_in ?_)
    by_cases h1 : p = 1
    · refine ⟨true, decide_eq_true (show (p : Int) = _ by omega), ?_⟩
      refine cond_in ?_
      refine ops_in ?_
      exact ⟨_, rfl, by unfold least; rw [if_pos h1], hL⟩
    · refine ⟨false, decide_eq_false (show ¬ (p : Int) = _ by omega), ?_⟩
      refine cond_in ?_
      refine skip_in ?_
      exact ⟨_, rfl, by unfold least; rw [if_neg h1]; exact hm, hL⟩
  clear hL hm
  rintro g3 m w13 ⟨hm, hL⟩
  have hm : m = least p := hm
  have hk' : s'.k = p := hk2.trans hk
  obtain ⟨l1, l2, l3⟩ := life_least s' t0 t1 t2 t3 hr (by rw [hk']; exact hpp)
  have hf' : p = 6 ∨ s'.f = false := hf.elim .inl fun h => by
    by_cases h6 : p = 6
    · exact .inl h6
    · exact .inr ((congrArg St.f (hfix (by rw [hk]; exact h6))).trans h)
  refine row_in ?_
  refine ⟨_, hL.lds rfl, ?_⟩
  refine ⟨_, hL.lds rfl, ?_⟩
  refine (life_spec s' t0 t1 t2 t3 _).mono ?_
  rintro _ w14 ⟨rfl, hg⟩
  have hL := hL.grows hg
  generalize life s' t0 t1 t2 t3 = lf at *
  refine seq_in (ops_in ?_)
  refine ⟨_, hL.ld rfl, ?_⟩
  refine ⟨false, decide_eq_false (by rw [hk']; exact fun h => h rfl), ?_⟩
  refine ⟨false, decide_eq_false (by rw [hm, ← hk']; omega), ?_⟩
  refine ⟨_, hL.lds rfl, ?_⟩
  refine (most_spec t0 t1 t2 t3 _).mono ?_
  rintro _ w15 ⟨rfl, hg⟩
  have hL := hL.grows hg
  refine ⟨false, decide_eq_false (by omega), ?_⟩
  refine ⟨_, hL.ld rfl, ?_⟩
  cases hf1 : s'.f
  case false =>
    by_cases h6 : p = 6
    · refine ⟨false, decide_eq_false (fun h => h (show (p : Int) = _ by omega)), ?_⟩
      refine cond_in ?_
      refine skip_in ?_
      refine ops_in ?_
      refine ⟨((i + 1 : Nat) : Int), (IntWalk.i64_in _ (by omega)).trans (by omega), ?_⟩
      exact ⟨(i + 1, s'), rfl, ⟨hil, hk', hok2, hf', hL.sub (.cons_cons _ (.cons _ (.refl _)))⟩, show len - (i + 1) < len - i by omega⟩
    · refine ⟨true, decide_eq_true (show (p : Int) ≠ _ by omega), ?_⟩
      refine ⟨_, hL.lds rfl, ?_⟩
      refine ⟨_, hL.lds rfl, ?_⟩
      have hss : s' = s := hfix (by rw [hk]; exact h6)
      refine ⟨false, (by subst hss; simp), ?_⟩
      refine cond_in ?_
      refine skip_in ?_
      refine ops_in ?_
      refine ⟨((i + 1 : Nat) : Int), (IntWalk.i64_in _ (by omega)).trans (by omega), ?_⟩
      exact ⟨(i + 1, s'), rfl, ⟨hil, hk', hok2, hf', hL.sub (.cons_cons _ (.cons _ (.refl _)))⟩, show len - (i + 1) < len - i by omega⟩
  refine ⟨_, hL.ld rfl, ?_⟩
  refine ⟨!s'.c, rfl, ?_⟩
  cases hc1 : s'.c
  case true =>
    by_cases h6 : p = 6
    · refine ⟨false, decide_eq_false (fun h => h (show (p : Int) = _ by omega)), ?_⟩
      refine cond_in ?_
      refine skip_in ?_
      refine ops_in ?_
      refine ⟨((i + 1 : Nat) : Int), (IntWalk.i64_in _ (by omega)).trans (by omega), ?_⟩
      exact ⟨(i + 1, s'), rfl, ⟨hil, hk', hok2, hf', hL.sub (.cons_cons _ (.cons _ (.refl _)))⟩, show len - (i + 1) < len - i by omega⟩
    · refine ⟨true, decide_eq_true (show (p : Int) ≠ _ by omega), ?_⟩
      refine ⟨_, hL.lds rfl, ?_⟩
      refine ⟨_, hL.lds rfl, ?_⟩
      have hss : s' = s := hfix (by rw [hk]; exact h6)
      refine ⟨false, (by subst hss; simp), ?_⟩
      refine cond_in ?_
      refine skip_in ?_
      refine ops_in ?_
      refine ⟨((i + 1 : Nat) : Int), (IntWalk.i64_in _ (by omega)).trans (by omega), ?_⟩
      exact ⟨(i + 1, s'), rfl, ⟨hil, hk', hok2, hf', hL.sub (.cons_cons _ (.cons _ (.refl _)))⟩, show len - (i + 1) < len - i by omega⟩
  refine ⟨false, decide_eq_false (fun h => by
    have h6 : s'.k = 6 := hk'.trans (hf'.elim id fun h => by rw [hf1] at h; cases h)
    have := l3 (by rw [hf1, hc1]; rfl) h6
    omega), ?_⟩
  by_cases h6 : p = 6
  · refine ⟨false, decide_eq_false (fun h => h (show (p : Int) = _ by omega)), ?_⟩
    refine cond_in ?_
    refine skip_in ?_
    refine ops_in ?_
    refine ⟨((i + 1 : Nat) : Int), (IntWalk.i64_in _ (by omega)).trans (by omega), ?_⟩
    exact ⟨(i + 1, s'), rfl, ⟨hil, hk', hok2, hf', hL.sub (.cons_cons _ (.cons _ (.refl _)))⟩, show len - (i + 1) < len - i by omega⟩
  · refine ⟨true, decide_eq_true (show (p : Int) ≠ _ by omega), ?_⟩
    refine ⟨_, hL.lds rfl, ?_⟩
    refine ⟨_, hL.lds rfl, ?_⟩
    have hss : s' = s := hfix (by rw [hk]; exact h6)
    refine ⟨false, (by subst hss; simp), ?_⟩
    refine cond_in ?_
    refine skip_in ?_
    refine ops_in ?_
    refine ⟨((i + 1 : Nat) : Int), (IntWalk.i64_in _ (by omega)).trans (by omega), ?_⟩
    exact ⟨(i + 1, s'), rfl, ⟨hil, hk', hok2, hf', hL.sub (.cons_cons _ (.cons _ (.refl _)))⟩, show len - (i + 1) < len - i by omega⟩
end Go.Proofs.Ytmingejcddhdeaa
