/- The laws of the state package, walked: StateOnce. -/
import Derived.Test.YtmingejcddhdeaaWalks
import Derived.Test.YtmingejcddhdeaaPure
namespace Go.Proofs.Ytmingejcddhdeaa
open Go Go.Den
theorem begin_inv (fl : Nat) (h : (begin_ 6 fl).2 = 0) : Inv (begin_ 6 fl).1 := by
  unfold begin_ at *
  rw [if_pos rfl] at *
  cases ho : opens fl
  · rw [ho] at h; exact absurd h (by decide)
  · exact ⟨2, 0, by decide, by decide, by simp [mk]⟩
theorem eq_st (s u : St) : (decide ((s.k : Int) = u.k) && (decide ((s.a : Int) = u.a) && (decide ((s.b : Int) = u.b) && ((s.f == u.f) && ((s.c == u.c) && true))))) = decide (s = u) := by
  obtain ⟨k, a, b, f, c⟩ := s
  obtain ⟨k', a', b', f', c'⟩ := u
  rw [Bool.eq_iff_iff]
  simp [Int.natCast_inj]
attribute [local irreducible] wpC
set_option maxHeartbeats 4000000 in
theorem once_walk (fl : Nat) (hfl : fl < 256) (a : Option Addr) (len cap : Nat) (d : Bool) (z : Nat) (hz : z < 256) (D : Nat → Bool) (Z : Nat → Nat) (w : World) (hS : Steps w a len D Z) :
    Does Try.prog 4 [.int .u8 fl, .slice a len cap, .agg #[.bool d, .int .u8 z]] w fun v w' => v = .bool true ∧ Grows w w' := by
  refine s4 rfl ?_
  refine row_in ?_
  refine (SH.nil w).boxK [_, _] fun b5 w1 hL => ?_
  refine if_in ?_
  refine (alive_spec _).mono ?_
  rintro _ w2 ⟨rfl, hg⟩
  have hL := hL.grows hg
  refine ⟨_, rfl, ?_⟩
  refine skip_in ?_
  refine row_in ?_
  refine (begin_spec 6 fl hfl _).mono ?_
  rintro _ w3 ⟨rfl, hg⟩
  have hL := hL.grows hg
  refine hL.newK fun b7 w4 hL => ?_
  refine hL.stK [_, _, _, _, _] fun w5 hL => ?_
  refine if_in ?_
  refine ⟨decide ((200 : Int) < len), rfl, ?_⟩
  cases h200 : decide ((200 : Int) < len)
  rotate_left
  · refine row_in ?_
    refine ret_in ?_
    exact ⟨rfl, hL.grown⟩
  refine ⟨decide ((begin_ 6 fl).2 ≠ 0), rfl, ?_⟩
  cases hb : decide ((begin_ 6 fl).2 ≠ 0)
  rotate_left
  · refine row_in ?_
    refine ret_in ?_
    exact ⟨rfl, hL.grown⟩
  refine skip_in ?_
  have hI := begin_inv fl (by simpa using hb)
  have hlen : len ≤ 200 := by have := of_decide_eq_false h200; omega
  generalize (begin_ 6 fl).1 = s0 at *
  refine reframe [1, 5, 7] [.slice a len cap, .pointer (some ⟨b5, 0, none⟩), .pointer (some ⟨b7, 0, none⟩)] rfl fun g0 => ?_
  refine cut_rule (9 :: List.range' 29 18) rfl [] (fun (_ : St) => []) (fun s w' => Inv s ∧ SH w w' [Cl b7 28 s.l, Cl b5 34 [.bool d, .int .u8 z]]) ?_ ?_
  · refine row_in ?_
    refine block_in ?_
    refine loop_rule (9 :: List.range' 29 18) rfl [9] (fun (s : Nat × St) => [.int .i64 s.1])
      (fun s w' => s.1 ≤ len ∧ Inv s.2 ∧ SH w w' [Cl b7 28 s.2.l, Cl b5 34 [.bool d, .int .u8 z]]) (fun s => len - s.1) (0, s0) rfl
      ⟨Nat.zero_le _, hI, hL⟩ ?_
    clear hL hI
    rintro g1 ⟨i, s⟩ w7 ⟨hi, hI, hL⟩
    have hi : i ≤ len := hi
    have hI : Inv s := hI
    refine if_in ?_
    refine ⟨decide ((i : Int) < len), rfl, ?_⟩
    cases hil : decide ((i : Int) < len)
    · refine exit_in ?_
      exact ⟨s, rfl, hI, hL⟩
    have hil : i < len := by have := of_decide_eq_true hil; omega
    obtain ⟨x, rfl, hs0, hs1, hzi⟩ := hS i hil
    refine skip_in ?_
    refine block_then ?_
    refine drawn_in ?_
    have hL := hL.drew
    refine ⟨_, hL.lds rfl, ?_⟩
    refine ⟨⟨by omega, by omega⟩, x.add (i * 2), rfl, ?_⟩
    refine ⟨_, hL.old hs0, ?_⟩
    refine ⟨⟨by omega, by omega⟩, x.add (i * 2), rfl, ?_⟩
    refine ⟨_, hL.old hs1, ?_⟩
    refine (next_spec s (D i) (Z i) hzi hI.ok _).mono ?_
    rintro _ w10 ⟨rfl, hg⟩
    have hL := hL.grows hg
    have hI2 := hI.next (D i) (Z i)
    refine ⟨⟨hL.old hs1, hL.old hs0, ⟨_, hL.lds rfl, rfl⟩, trivial⟩, ?_⟩
    generalize next s (D i) (Z i) = s' at *
    refine hL.stK [_, _, _, _, _] fun w11 hL => ?_
    refine ops_in ?_
    refine ⟨((i + 1 : Nat) : Int), (IntWalk.i64_in _ (by omega)).trans (by omega), ?_⟩
    exact ⟨(i + 1, s'), rfl, ⟨hil, hI2, hL⟩, show len - (i + 1) < len - i by omega⟩
  clear hL hI
  rintro g2 s w6 ⟨hI, hL⟩
  have hI : Inv s := hI
  have hz7 : z &&& 7 < 256 := Nat.lt_of_le_of_lt Nat.and_le_right (by decide)
  have hO : onceB s d (z &&& 7) = true := by
    obtain ⟨a, b, ha, hb, rfl⟩ := hI
    exact once_all a ha b hb d _ (Nat.lt_of_le_of_lt Nat.and_le_right (by decide))
  have e2 := next_low (next s d (z &&& 7)) d z
  simp only [onceB] at hO
  refine row_in ?_
  refine ⟨_, hL.lds rfl, ?_⟩
  refine ⟨_, hL.ld rfl, ?_⟩
  refine ⟨_, hL.ld rfl, ?_⟩
  refine (next_spec s d z hz hI.ok _).mono ?_
  rintro v w10 ⟨hv, hg⟩
  rw [next_low] at hv
  subst hv
  have hL := hL.grows hg
  have hI1 := hI.next d (z &&& 7)
  have h7 := next_spec s d (z &&& 7) hz7 hI.ok
  generalize hn : next s d (z &&& 7) = n at *
  refine hL.newK fun b10 w11 hL => ?_
  refine hL.stK [_, _, _, _, _] fun w12 hL => ?_
  refine row_in ?_
  refine ⟨_, hL.lds rfl, ?_⟩
  refine ⟨_, hL.ld rfl, ?_⟩
  refine ⟨_, hL.ld rfl, ?_⟩
  refine (next_spec n d z hz hI1.ok _).mono ?_
  rintro v w13 ⟨hv, hg⟩
  rw [e2] at hv
  subst hv
  have hL := hL.grows hg
  generalize hn2 : next n d (z &&& 7) = n2 at *
  refine hL.newK fun b11 w14 hL => ?_
  refine hL.stK [_, _, _, _, _] fun w15 hL => ?_
  refine row_in ?_
  refine ⟨_, hL.ld rfl, ?_⟩
  refine ⟨_, and8 z 7 hz (by decide), ?_⟩
  generalize z &&& 7 = zz at *
  refine cut_rule (6 :: List.range' 62 16) rfl [] (fun (_ : Unit) => []) (fun _ w' => SH w w' [Cl b11 28 n2.l, Cl b10 28 n.l, Cl b7 28 s.l, Cl b5 34 [.bool d, .int .u8 z]]) ?_ ?_
  · refine seq_in (drawn_in ?_)
    have hL := hL.drew
    refine ⟨_, hL.lds rfl, ?_⟩
    refine ⟨_, hL.ld rfl, ?_⟩
    refine ⟨_, hL.lds rfl, ?_⟩
    refine (h7 _).mono ?_
    rintro _ w16 ⟨rfl, hg⟩
    have hL := hL.grows hg
    refine ⟨⟨⟨_, hL.lds rfl, rfl⟩, hL.ld rfl, ⟨_, hL.lds rfl, rfl⟩, trivial⟩, ?_⟩
    refine ⟨false, (congrArg (true ^^ ·) (eq_st n n)).trans (by rw [decide_eq_true rfl]; rfl), ?_⟩
    by_cases hzz : zz = 0
    · refine ⟨true, decide_eq_true (show (zz : Int) = _ by omega), ?_⟩
      refine ⟨_, hL.lds rfl, ?_⟩
      refine ⟨_, hL.lds rfl, ?_⟩
      have hns : n = s := by
        by_cases hns : n = s
        · exact hns
        · exact absurd hO (by simp [hzz, hns])
      refine ⟨false, (congrArg (true ^^ ·) (eq_st n s)).trans (by rw [decide_eq_true hns]; rfl), ?_⟩
      refine cond_in ?_
      refine skip_in ?_
      exact ⟨(), rfl, hL⟩
    · refine ⟨false, decide_eq_false (show ¬ (zz : Int) = _ by omega), ?_⟩
      refine cond_in ?_
      refine skip_in ?_
      exact ⟨(), rfl, hL⟩
  clear hL
  rintro g3 _ w17 hL
  have hL : SH w w17 [Cl b11 28 n2.l, Cl b10 28 n.l, Cl b7 28 s.l, Cl b5 34 [.bool d, .int .u8 z]] := hL
  replace hO := (Bool.and_eq_true _ _ ▸ hO).2
  refine row_in ?_
  refine (begin_spec 6 2 (by decide) _).mono ?_
  rintro v w18 ⟨hv, hg⟩
  rw [show begin_ 6 2 = (⟨6, 2, 0, false, false⟩, 0) by decide] at hv
  subst hv
  have hL := hL.grows hg
  refine hL.newK fun b13 w19 hL => ?_
  refine hL.stK [_, _, _, _, _] fun w20 hL => ?_
  refine reframe [5, 7, 10, 11, 12, 13] [.pointer (some ⟨b5, 0, none⟩), .pointer (some ⟨b7, 0, none⟩), .pointer (some ⟨b10, 0, none⟩), .pointer (some ⟨b11, 0, none⟩), .int .u8 zz, .pointer (some ⟨b13, 0, none⟩)] rfl fun g4 => ?_
  refine if_in ?_
  refine ⟨_, hL.ld rfl, ?_⟩
  cases hsc : s.c
  case false =>
    refine skip_in ?_
    rw [hsc] at hO
    have hA : s.f = true → n.f = true := fun h => by rw [h] at hO; revert hO; cases n.f <;> simp
    have hC : n.c = false → n2 = n := fun h => by rw [h] at hO; revert hO; by_cases hh : n2 = n <;> simp [hh]
    refine row_in ?_
    refine ⟨_, hL.ld rfl, ?_⟩
    refine ⟨!s.f, rfl, ?_⟩
    cases hsf : s.f
    case false =>
      refine ⟨_, (hL.ld rfl).trans (congrArg (fun b => some (.bool b)) hsc), ?_⟩
      refine ⟨_, rfl, ?_⟩
      refine ⟨_, hL.ld rfl, ?_⟩
      cases hnc : n.c
      case true =>
        refine ret_in ?_
        exact ⟨rfl, hL.grown⟩
      refine ⟨_, hL.lds rfl, ?_⟩
      refine ⟨_, hL.lds rfl, ?_⟩
      refine ⟨true, (congrArg (false ^^ ·) (eq_st n2 n)).trans (by rw [decide_eq_true (hC hnc)]; rfl), ?_⟩
      refine ret_in ?_
      exact ⟨rfl, hL.grown⟩
    refine ⟨_, (hL.ld rfl).trans (congrArg (fun b => some (.bool b)) (hA hsf)), ?_⟩
    refine ⟨_, (hL.ld rfl).trans (congrArg (fun b => some (.bool b)) hsc), ?_⟩
    refine ⟨_, rfl, ?_⟩
    refine ⟨_, hL.ld rfl, ?_⟩
    cases hnc : n.c
    case true =>
      refine ret_in ?_
      exact ⟨rfl, hL.grown⟩
    refine ⟨_, hL.lds rfl, ?_⟩
    refine ⟨_, hL.lds rfl, ?_⟩
    refine ⟨true, (congrArg (false ^^ ·) (eq_st n2 n)).trans (by rw [decide_eq_true (hC hnc)]; rfl), ?_⟩
    refine ret_in ?_
    exact ⟨rfl, hL.grown⟩
  rw [hsc] at hO
  refine ⟨_, hL.ld rfl, ?_⟩
  cases hnc : n.c
  case true =>
    refine ⟨_, rfl, ?_⟩
    refine skip_in ?_
    rw [hnc] at hO
    have hA : s.f = true → n.f = true := fun h => by rw [h] at hO; revert hO; cases n.f <;> simp
    refine row_in ?_
    refine ⟨_, hL.ld rfl, ?_⟩
    refine ⟨!s.f, rfl, ?_⟩
    cases hsf : s.f
    case false =>
      refine ⟨_, (hL.ld rfl).trans (congrArg (fun b => some (.bool b)) hsc), ?_⟩
      refine ⟨_, rfl, ?_⟩
      refine ⟨_, (hL.ld rfl).trans (congrArg (fun b => some (.bool b)) hnc), ?_⟩
      refine ⟨_, (hL.ld rfl).trans (congrArg (fun b => some (.bool b)) hnc), ?_⟩
      refine ret_in ?_
      exact ⟨rfl, hL.grown⟩
    refine ⟨_, (hL.ld rfl).trans (congrArg (fun b => some (.bool b)) (hA hsf)), ?_⟩
    refine ⟨_, (hL.ld rfl).trans (congrArg (fun b => some (.bool b)) hsc), ?_⟩
    refine ⟨_, rfl, ?_⟩
    refine ⟨_, (hL.ld rfl).trans (congrArg (fun b => some (.bool b)) hnc), ?_⟩
    refine ⟨_, (hL.ld rfl).trans (congrArg (fun b => some (.bool b)) hnc), ?_⟩
    refine ret_in ?_
    exact ⟨rfl, hL.grown⟩
  refine ⟨_, rfl, ?_⟩
  rw [hnc] at hO
  simp only [Bool.not_false, Bool.and_self, if_true, Bool.and_eq_true, decide_eq_true_eq] at hO
  obtain ⟨⟨⟨hf, hd⟩, h2⟩, hnn⟩ := hO
  refine row_in ?_
  refine ⟨_, hL.lds rfl, ?_⟩
  refine ⟨_, hL.lds rfl, ?_⟩
  refine ⟨true, (congrArg (false ^^ ·) (eq_st n ⟨6, 2, 0, false, false⟩)).trans (by rw [decide_eq_true hf]; rfl), ?_⟩
  refine ⟨_, (hL.ld rfl).trans (congrArg (fun b => some (.bool b)) hd), ?_⟩
  refine ⟨true, decide_eq_true (show (zz : Int) = _ by omega), ?_⟩
  refine ⟨_, hL.lds rfl, ?_⟩
  refine ⟨_, hL.lds rfl, ?_⟩
  refine ⟨true, (congrArg (false ^^ ·) (eq_st n2 n)).trans (by rw [decide_eq_true hnn]; rfl), ?_⟩
  refine ret_in ?_
  exact ⟨rfl, hL.grown⟩
end Go.Proofs.Ytmingejcddhdeaa
