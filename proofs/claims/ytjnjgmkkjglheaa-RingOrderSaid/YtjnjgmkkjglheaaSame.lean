/- Rows of numbers and of bytes, held against one another. -/
import Derived.Test.YtjnjgmkkjglheaaCopy
namespace Go.Proofs.Ytjnjgmkkjglheaa
open Go Go.Den
attribute [local irreducible] wpC
theorem sameints_spec {w : World} {x y : Value} {a b : List Int} (hx : Reads w 1 x a.length (ints a)) (hy : Reads w 1 y b.length (ints b)) (hlen : a.length ≤ 1000000) :
    Does Try.prog 19 [x, y] w fun v w' => v = .bool (decide (a = b)) ∧ Grows w w' := by
  obtain ⟨_, xa, xc, rfl, hxn, _⟩ := id hx
  obtain ⟨_, ya, yc, rfl, hyn, _⟩ := id hy
  refine s19 rfl ?_
  refine row_in ?_
  refine if_in ?_
  by_cases hl : a.length = b.length
  rotate_left
  · refine ⟨true, decide_eq_true (show (a.length : Int) ≠ b.length by omega), ?_⟩
    refine row_in ?_
    refine ret_in ?_
    exact ⟨(rfl : _ = Value.bool false).trans (by rw [decide_eq_false (fun h => hl (by rw [h]))]), Grows.refl w⟩
  refine ⟨false, decide_eq_false (show ¬ (a.length : Int) ≠ b.length by omega), ?_⟩
  refine skip_in ?_
  refine seq_in (row_in ?_)
  refine block_in ?_
  refine loop_rule (4 :: 5 :: List.range' 11 15) rfl [5] (fun (i : Nat) => [.int .i64 i]) (fun i w' => i ≤ a.length ∧ (∀ j : Nat, j < i → a[j]? = b[j]?) ∧ Grows w w') (fun i => a.length - i) 0 rfl ⟨Nat.zero_le _, fun j h => absurd h (Nat.not_lt_zero _), Grows.refl w⟩ ?_
  rintro g i w1 ⟨hi, hlow, hg⟩
  refine if_in ?_
  by_cases hil : i < a.length
  rotate_left
  · refine ⟨false, decide_eq_false (by omega), ?_⟩
    refine exit_in ?_
    refine row_in ?_
    refine ret_in ?_
    have hab : a = b := List.ext_getElem? fun j => by
      by_cases hj : j < i
      · exact hlow j hj
      · rw [List.getElem?_eq_none (by omega), List.getElem?_eq_none (by omega)]
    exact ⟨(rfl : _ = Value.bool true).trans (by rw [decide_eq_true hab]), hg⟩
  refine ⟨true, decide_eq_true (by omega), ?_⟩
  refine skip_in ?_
  obtain ⟨z, hz⟩ : ∃ z, a[i]? = some z := ⟨a[i], List.getElem?_eq_getElem (by omega)⟩
  obtain ⟨u, hu⟩ : ∃ u, b[i]? = some u := ⟨b[i], List.getElem?_eq_getElem (by omega)⟩
  obtain ⟨xd, rfl⟩ : ∃ d, xa = some d := by cases xa with | none => have := hxn rfl; omega | some d => exact ⟨d, rfl⟩
  obtain ⟨yd, rfl⟩ : ∃ d, ya = some d := by cases ya with | none => have := hyn rfl; omega | some d => exact ⟨d, rfl⟩
  have hx := hx.grows (hg.trans (Grows.drew w1))
  have hy := hy.grows (hg.trans (Grows.drew w1))
  have cx : w1.drew.cell? (xd.add (i * 1)) = some (.int .i64 z) := by
    obtain ⟨_, _, _, e, _, h⟩ := hx
    cases e
    rw [Nat.mul_one]
    exact h xd rfl i _ (by simp [ints, hz])
  have cy : w1.drew.cell? (yd.add (i * 1)) = some (.int .i64 u) := by
    obtain ⟨_, _, _, e, _, h⟩ := hy
    cases e
    rw [Nat.mul_one]
    exact h yd rfl i _ (by simp [ints, hu])
  refine block_then ?_
  refine seq_in (drawn_in ?_)
  refine ⟨⟨by omega, by omega⟩, _, rfl, ?_⟩
  refine ⟨_, cx, ?_⟩
  refine ⟨⟨by omega, by omega⟩, _, rfl, ?_⟩
  refine ⟨_, cy, ?_⟩
  by_cases he : z = u
  · refine ⟨false, decide_eq_false (fun h => h he), ?_⟩
    refine cond_in ?_
    refine skip_in ?_
    refine ops_in ?_
    refine ⟨((i + 1 : Nat) : Int), (IntWalk.i64_in _ (by omega)).trans (by omega), ?_⟩
    refine ⟨i + 1, rfl, ⟨hil, fun j hj => ?_, hg.trans (Grows.drew w1)⟩, by omega⟩
    by_cases hji : j < i
    · exact hlow j hji
    · have : j = i := by omega
      subst this
      rw [hz, hu, he]
  · refine ⟨true, decide_eq_true he, ?_⟩
    refine cond_in ?_
    refine row_in ?_
    refine ret_in ?_
    have hab : a ≠ b := fun h => by subst h; rw [hz] at hu; exact he (Option.some.inj hu)
    exact ⟨(rfl : _ = Value.bool false).trans (by rw [decide_eq_false hab]), hg.trans (Grows.drew w1)⟩
theorem samebytes_spec {w : World} {x y : Value} {a b : List Int} (hx : Reads w 1 x a.length (vals a)) (hy : Reads w 1 y b.length (vals b)) (hlen : a.length ≤ 1000000) :
    Does Try.prog 28 [x, y] w fun v w' => v = .bool (decide (a = b)) ∧ Grows w w' := by
  obtain ⟨_, xa, xc, rfl, hxn, _⟩ := id hx
  obtain ⟨_, ya, yc, rfl, hyn, _⟩ := id hy
  refine s28 rfl ?_
  refine row_in ?_
  refine if_in ?_
  by_cases hl : a.length = b.length
  rotate_left
  · refine ⟨true, decide_eq_true (show (a.length : Int) ≠ b.length by omega), ?_⟩
    refine row_in ?_
    refine ret_in ?_
    exact ⟨(rfl : _ = Value.bool false).trans (by rw [decide_eq_false (fun h => hl (by rw [h]))]), Grows.refl w⟩
  refine ⟨false, decide_eq_false (show ¬ (a.length : Int) ≠ b.length by omega), ?_⟩
  refine skip_in ?_
  refine seq_in (row_in ?_)
  refine block_in ?_
  refine loop_rule (4 :: 5 :: List.range' 11 15) rfl [5] (fun (i : Nat) => [.int .i64 i]) (fun i w' => i ≤ a.length ∧ (∀ j : Nat, j < i → a[j]? = b[j]?) ∧ Grows w w') (fun i => a.length - i) 0 rfl ⟨Nat.zero_le _, fun j h => absurd h (Nat.not_lt_zero _), Grows.refl w⟩ ?_
  rintro g i w1 ⟨hi, hlow, hg⟩
  refine if_in ?_
  by_cases hil : i < a.length
  rotate_left
  · refine ⟨false, decide_eq_false (by omega), ?_⟩
    refine exit_in ?_
    refine row_in ?_
    refine ret_in ?_
    have hab : a = b := List.ext_getElem? fun j => by
      by_cases hj : j < i
      · exact hlow j hj
      · rw [List.getElem?_eq_none (by omega), List.getElem?_eq_none (by omega)]
    exact ⟨(rfl : _ = Value.bool true).trans (by rw [decide_eq_true hab]), hg⟩
  refine ⟨true, decide_eq_true (by omega), ?_⟩
  refine skip_in ?_
  obtain ⟨z, hz⟩ : ∃ z, a[i]? = some z := ⟨a[i], List.getElem?_eq_getElem (by omega)⟩
  obtain ⟨u, hu⟩ : ∃ u, b[i]? = some u := ⟨b[i], List.getElem?_eq_getElem (by omega)⟩
  obtain ⟨xd, rfl⟩ : ∃ d, xa = some d := by cases xa with | none => have := hxn rfl; omega | some d => exact ⟨d, rfl⟩
  obtain ⟨yd, rfl⟩ : ∃ d, ya = some d := by cases ya with | none => have := hyn rfl; omega | some d => exact ⟨d, rfl⟩
  have hx := hx.grows (hg.trans (Grows.drew w1))
  have hy := hy.grows (hg.trans (Grows.drew w1))
  have cx : w1.drew.cell? (xd.add (i * 1)) = some (.int .u8 z) := by
    obtain ⟨_, _, _, e, _, h⟩ := hx
    cases e
    rw [Nat.mul_one]
    exact h xd rfl i _ (by simp [vals, hz])
  have cy : w1.drew.cell? (yd.add (i * 1)) = some (.int .u8 u) := by
    obtain ⟨_, _, _, e, _, h⟩ := hy
    cases e
    rw [Nat.mul_one]
    exact h yd rfl i _ (by simp [vals, hu])
  refine block_then ?_
  refine seq_in (drawn_in ?_)
  refine ⟨⟨by omega, by omega⟩, _, rfl, ?_⟩
  refine ⟨_, cx, ?_⟩
  refine ⟨⟨by omega, by omega⟩, _, rfl, ?_⟩
  refine ⟨_, cy, ?_⟩
  by_cases he : z = u
  · refine ⟨false, decide_eq_false (fun h => h he), ?_⟩
    refine cond_in ?_
    refine skip_in ?_
    refine ops_in ?_
    refine ⟨((i + 1 : Nat) : Int), (IntWalk.i64_in _ (by omega)).trans (by omega), ?_⟩
    refine ⟨i + 1, rfl, ⟨hil, fun j hj => ?_, hg.trans (Grows.drew w1)⟩, by omega⟩
    by_cases hji : j < i
    · exact hlow j hji
    · have : j = i := by omega
      subst this
      rw [hz, hu, he]
  · refine ⟨true, decide_eq_true he, ?_⟩
    refine cond_in ?_
    refine row_in ?_
    refine ret_in ?_
    have hab : a ≠ b := fun h => by subst h; rw [hz] at hu; exact he (Option.some.inj hu)
    exact ⟨(rfl : _ = Value.bool false).trans (by rw [decide_eq_false hab]), hg.trans (Grows.drew w1)⟩
end Go.Proofs.Ytjnjgmkkjglheaa
