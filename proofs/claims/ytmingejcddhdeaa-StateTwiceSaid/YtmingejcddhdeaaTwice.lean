/- The laws of the state package, walked: StateTwice. -/
import Derived.Test.YtmingejcddhdeaaOnce
namespace Go.Proofs.Ytmingejcddhdeaa
open Go Go.Den
attribute [local irreducible] wpC
set_option maxHeartbeats 4000000 in
theorem twice_walk (fl : Nat) (hfl : fl < 256) (a : Option Addr) (len cap : Nat) (d1 : Bool) (z1 : Nat) (hz1 : z1 < 256) (d2 : Bool) (z2 : Nat) (hz2 : z2 < 256) (D : Nat → Bool) (Z : Nat → Nat) (w : World) (hS : Steps w a len D Z) :
    Does Try.prog 5 [.int .u8 fl, .slice a len cap, .agg #[.bool d1, .int .u8 z1], .agg #[.bool d2, .int .u8 z2]] w fun v w' => v = .bool true ∧ Grows w w' := by
  refine s5 rfl ?_
  refine row_in ?_
  refine (SH.nil w).boxK [_, _] fun b6 w1 hL => ?_
  refine hL.boxK [_, _] fun b7 w1' hL => ?_
  refine if_in ?_
  refine (alive_spec _).mono ?_
  rintro _ w2 ⟨rfl, hg⟩
  have hL := hL.grows hg
  refine ⟨_, rfl, ?_⟩
  refine skip_in ?_
  refine row_in ?_
  refine (begin_spec 6 fl hfl _).mono ?_
  rintro _ w3 ⟨rfl, hg⟩
  have hL := hL.grows hg
  refine hL.newK fun b9 w4 hL => ?_
  refine hL.stK [_, _, _, _, _] fun w5 hL => ?_
  refine if_in ?_
  refine ⟨decide ((200 : Int) < len), rfl, ?_⟩
  cases h200 : decide ((200 : Int) < len)
  rotate_left
  · refine row_in ?_
    refine ret_in ?_
    exact ⟨rfl, hL.grown⟩
  refine ⟨decide ((begin_ 6 fl).2 ≠ 0), rfl, ?_⟩
  cases hb : decide ((begin_ 6 fl).2 ≠ 0)
  rotate_left
  · refine row_in ?_
    refine ret_in ?_
    exact ⟨rfl, hL.grown⟩
  refine skip_in ?_
  have hI := begin_inv fl (by simpa using hb)
  have hlen : len ≤ 200 := by have := of_decide_eq_false h200; omega
  generalize (begin_ 6 fl).1 = s0 at *
  refine reframe [1, 6, 7, 9] [.slice a len cap, .pointer (some ⟨b6, 0, none⟩), .pointer (some ⟨b7, 0, none⟩), .pointer (some ⟨b9, 0, none⟩)] rfl fun g0 => ?_
  refine cut_rule (11 :: List.range' 30 18) rfl [] (fun (_ : St) => []) (fun s w' => Inv s ∧ SH w w' [Cl b9 28 s.l, Cl b7 34 [.bool d2, .int .u8 z2], Cl b6 34 [.bool d1, .int .u8 z1]]) ?_ ?_
  · refine row_in ?_
    refine block_in ?_
    refine loop_rule (11 :: List.range' 30 18) rfl [11] (fun (s : Nat × St) => [.int .i64 s.1])
      (fun s w' => s.1 ≤ len ∧ Inv s.2 ∧ SH w w' [Cl b9 28 s.2.l, Cl b7 34 [.bool d2, .int .u8 z2], Cl b6 34 [.bool d1, .int .u8 z1]]) (fun s => len - s.1) (0, s0) rfl
      ⟨Nat.zero_le _, hI, hL⟩ ?_
    clear hL hI
    rintro g1 ⟨i, s⟩ w7 ⟨hi, hI, hL⟩
    have hi : i ≤ len := hi
    have hI : Inv s := hI
    refine if_in ?_
    refine ⟨decide ((i : Int) < len), rfl, ?_⟩
    cases hil : decide ((i : Int) < len)
    · refine exit_in ?_
      exact ⟨s, rfl, hI, hL⟩
    have hil : i < len := by have := of_decide_eq_true hil; omega
    obtain ⟨x, rfl, hs0, hs1, hzi⟩ := hS i hil
    refine skip_in ?_
    refine block_then ?_
    refine drawn_in ?_
    have hL := hL.drew
    refine ⟨_, hL.lds rfl, ?_⟩
    refine ⟨⟨by omega, by omega⟩, x.add (i * 2), rfl, ?_⟩
    refine ⟨_, hL.old hs0, ?_⟩
    refine ⟨⟨by omega, by omega⟩, x.add (i * 2), rfl, ?_⟩
    refine ⟨_, hL.old hs1, ?_⟩
    refine (next_spec s (D i) (Z i) hzi hI.ok _).mono ?_
    rintro _ w10 ⟨rfl, hg⟩
    have hL := hL.grows hg
    have hI2 := hI.next (D i) (Z i)
    refine ⟨⟨hL.old hs1, hL.old hs0, ⟨_, hL.lds rfl, rfl⟩, trivial⟩, ?_⟩
    generalize next s (D i) (Z i) = s' at *
    refine hL.stK [_, _, _, _, _] fun w11 hL => ?_
    refine ops_in ?_
    refine ⟨((i + 1 : Nat) : Int), (IntWalk.i64_in _ (by omega)).trans (by omega), ?_⟩
    exact ⟨(i + 1, s'), rfl, ⟨hil, hI2, hL⟩, show len - (i + 1) < len - i by omega⟩
  clear hL hI
  rintro g2 s w6 ⟨hI, hL⟩
  have hI : Inv s := hI
  have hT : twiceB s d1 z1 d2 z2 = true := by
    obtain ⟨a, b, ha, hb, rfl⟩ := hI
    have h7 : ∀ z : Nat, z &&& 7 < 8 := fun z => Nat.lt_of_le_of_lt Nat.and_le_right (by decide)
    have := twice_all a ha b hb d1 _ (h7 z1) d2 _ (h7 z2)
    simp only [twiceB, ← next_low] at this
    exact this
  simp only [twiceB] at hT
  refine row_in ?_
  refine ⟨_, hL.lds rfl, ?_⟩
  refine ⟨_, hL.ld rfl, ?_⟩
  refine ⟨_, hL.ld rfl, ?_⟩
  refine (next_spec s d1 z1 hz1 hI.ok _).mono ?_
  rintro v w10 ⟨rfl, hg⟩
  have hL := hL.grows hg
  have hI1 := hI.next d1 z1
  have e1 := next_spec s d1 z1 hz1 hI.ok
  generalize hh1 : next s d1 z1 = n1 at *
  refine hL.newK fun b12 w11 hL => ?_
  refine hL.stK [_, _, _, _, _] fun w12 hL => ?_
  refine row_in ?_
  refine ⟨_, hL.lds rfl, ?_⟩
  refine ⟨_, hL.ld rfl, ?_⟩
  refine ⟨_, hL.ld rfl, ?_⟩
  refine (next_spec s d2 z2 hz2 hI.ok _).mono ?_
  rintro v w20 ⟨rfl, hg⟩
  have hL := hL.grows hg
  have hI2 := hI.next d2 z2
  have e2 := next_spec s d2 z2 hz2 hI.ok
  generalize hh2 : next s d2 z2 = n2 at *
  refine hL.newK fun b13 w21 hL => ?_
  refine hL.stK [_, _, _, _, _] fun w22 hL => ?_
  refine row_in ?_
  refine ⟨_, hL.lds rfl, ?_⟩
  refine ⟨_, hL.ld rfl, ?_⟩
  refine ⟨_, hL.ld rfl, ?_⟩
  refine (next_spec n1 d2 z2 hz2 hI1.ok _).mono ?_
  rintro v w30 ⟨rfl, hg⟩
  have hL := hL.grows hg
  have hI3 := hI1.next d2 z2
  have e3 := next_spec n1 d2 z2 hz2 hI1.ok
  generalize hh3 : next n1 d2 z2 = n12 at *
  refine hL.newK fun b14 w31 hL => ?_
  refine hL.stK [_, _, _, _, _] fun w32 hL => ?_
  refine row_in ?_
  refine ⟨_, hL.lds rfl, ?_⟩
  refine ⟨_, hL.ld rfl, ?_⟩
  refine ⟨_, hL.ld rfl, ?_⟩
  refine (next_spec n2 d1 z1 hz1 hI2.ok _).mono ?_
  rintro v w40 ⟨rfl, hg⟩
  have hL := hL.grows hg
  have hI4 := hI2.next d1 z1
  have e4 := next_spec n2 d1 z1 hz1 hI2.ok
  generalize hh4 : next n2 d1 z1 = n21 at *
  refine hL.newK fun b15 w41 hL => ?_
  refine hL.stK [_, _, _, _, _] fun w42 hL => ?_
  refine reframe [6, 7, 9, 12, 13, 14, 15] [.pointer (some ⟨b6, 0, none⟩), .pointer (some ⟨b7, 0, none⟩), .pointer (some ⟨b9, 0, none⟩), .pointer (some ⟨b12, 0, none⟩), .pointer (some ⟨b13, 0, none⟩), .pointer (some ⟨b14, 0, none⟩), .pointer (some ⟨b15, 0, none⟩)] rfl fun g4 => ?_
  have e5 := next_spec n1 d1 z1 hz1 hI1.ok
  generalize hh5 : next n1 d1 z1 = n11 at *
  refine if_in ?_
  refine ⟨_, hL.ld rfl, ?_⟩
  cases hsc : s.c
  case true =>
    refine row_in ?_
    refine ret_in ?_
    exact ⟨rfl, hL.grown⟩
  refine ⟨_, hL.ld rfl, ?_⟩
  cases hn1c : n1.c
  case true =>
    refine row_in ?_
    refine ret_in ?_
    exact ⟨rfl, hL.grown⟩
  refine ⟨_, hL.ld rfl, ?_⟩
  cases hn2c : n2.c
  case true =>
    refine row_in ?_
    refine ret_in ?_
    exact ⟨rfl, hL.grown⟩
  refine ⟨_, hL.ld rfl, ?_⟩
  cases hn12c : n12.c
  case true =>
    refine row_in ?_
    refine ret_in ?_
    exact ⟨rfl, hL.grown⟩
  refine skip_in ?_
  rw [hsc, hn1c, hn2c, hn12c] at hT
  simp only [Bool.or_self, Bool.false_or, Bool.and_eq_true, decide_eq_true_eq, Bool.not_eq_true'] at hT
  obtain ⟨⟨hA, hB⟩, hC⟩ := hT
  refine draw_in ?_
  have hL := hL.drew
  refine ⟨_, hL.lds rfl, ?_⟩
  refine ⟨_, hL.lds rfl, ?_⟩
  refine ⟨true, (congrArg (false ^^ ·) (eq_st n12 n21)).trans (by rw [decide_eq_true hA]; rfl), ?_⟩
  refine ⟨_, hL.lds rfl, ?_⟩
  refine ⟨_, hL.ld rfl, ?_⟩
  refine ⟨_, hL.ld rfl, ?_⟩
  refine ⟨_, hL.lds rfl, ?_⟩
  refine (e5 _).mono ?_
  rintro v w50 ⟨rfl, hg⟩
  have hL := hL.grows hg
  refine ⟨⟨⟨_, hL.lds rfl, rfl⟩, hL.ld rfl, hL.ld rfl, ⟨_, hL.lds rfl, rfl⟩, ⟨_, hL.lds rfl, rfl⟩, ⟨_, hL.lds rfl, rfl⟩, trivial⟩, ?_⟩
  refine ⟨true, (congrArg (false ^^ ·) (eq_st n11 n1)).trans (by rw [decide_eq_true hB]; rfl), ?_⟩
  refine ⟨_, (hL.ld rfl).trans (congrArg (fun b => some (.bool b)) hC), ?_⟩
  refine ⟨_, rfl, ?_⟩
  refine ret_in ?_
  exact ⟨rfl, hL.grown⟩
end Go.Proofs.Ytmingejcddhdeaa
