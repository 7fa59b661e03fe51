/- What every pool keeps: a free buffer has no bytes; an owner is one of 1 to 255. -/
import Derived.Test.YtjnjgmkkjglheaaDo
namespace Go.Proofs.Ytjnjgmkkjglheaa
open Go Go.Den
def GoodB (B : Buf) : Prop := (B.own = 0 ∧ B.bs = []) ∨ (1 ≤ B.own ∧ B.own ≤ 255 ∧ B.bs.length ≤ 1514)
def Good (b : List Buf) : Prop := ∀ B ∈ b, GoodB B
theorem Good.new (n : Nat) : Good (List.replicate n noBuf) := fun B hB => by
  obtain rfl := List.eq_of_mem_replicate hB
  exact .inl ⟨rfl, rfl⟩
theorem Good.set {b : List Buf} (h : Good b) {i : Nat} {B : Buf} (hB : GoodB B) : Good (b.set i B) := fun C hC => by
  rcases List.mem_or_eq_of_mem_set hC with hC | rfl
  · exact h C hC
  · exact hB
theorem owns_iff {o : Int} : owns o = true ↔ 1 ≤ o ∧ o ≤ 255 := by
  unfold owns
  simp only [Bool.and_eq_true, decide_eq_true_eq]
  omega
theorem Good.take {b : List Buf} (h : Good b) (o : Int) (s : Value) (bs : List Int) : Good (takeB b o s bs) := by
  unfold takeB
  split
  · rename_i he
    refine h.set (.inr ?_)
    unfold takeE at he
    by_cases hr : owns o = false ∨ 1514 < bs.length
    · rw [if_pos hr] at he; exact absurd he (by decide)
    · have ho : owns o = true := by cases ho : owns o; exact absurd (.inl ho) hr; rfl
      have := owns_iff.1 ho
      exact ⟨this.1, this.2, by have : ¬ 1514 < bs.length := fun h => hr (.inr h); show bs.length ≤ 1514; omega⟩
  · exact h
theorem Good.hand {b : List Buf} (h : Good b) (k a c : Int) : Good (handB b k a c) := by
  unfold handB
  split
  · rename_i he
    obtain ⟨h1, h2⟩ := handE_zero he
    obtain ⟨ho, i, B, rfl, hB, rfl⟩ := errOf_zero h1
    rw [Int.toNat_natCast, modify_at _ hB]
    refine h.set (.inr ?_)
    have hc := owns_iff.1 h2
    have ha := owns_iff.1 ho
    rcases h B (List.mem_of_getElem? hB) with hg | hg
    · omega
    · exact ⟨hc.1, hc.2, hg.2.2⟩
  · exact h
theorem Good.free {b : List Buf} (h : Good b) (k o : Int) : Good (freeB b k o) := by
  unfold freeB
  split
  · rename_i he
    obtain ⟨ho, i, B, rfl, hB, rfl⟩ := errOf_zero he
    rw [Int.toNat_natCast, modify_at _ hB]
    exact h.set (.inl ⟨rfl, rfl⟩)
  · exact h
theorem Good.doB {b : List Buf} (h : Good b) (k : Call) (s : Value) : Good (doB b k s) := by
  unfold Go.Proofs.Ytjnjgmkkjglheaa.doB
  split
  · exact h.take _ _ _
  split
  · exact h.hand _ _ _
  split
  · exact h.free _ _
  · exact h
theorem takeB_length (b : List Buf) (o : Int) (s : Value) (bs : List Int) : (takeB b o s bs).length = b.length := by
  unfold takeB; split <;> simp
theorem handB_length (b : List Buf) (k a c : Int) : (handB b k a c).length = b.length := by
  unfold handB; split <;> simp
theorem freeB_length (b : List Buf) (k o : Int) : (freeB b k o).length = b.length := by
  unfold freeB; split <;> simp
theorem doB_length (b : List Buf) (k : Call) (s : Value) : (doB b k s).length = b.length := by
  unfold doB
  split
  · exact takeB_length _ _ _ _
  split
  · exact handB_length _ _ _ _
  split
  · exact freeB_length _ _ _
  · rfl
theorem held_same {b c : List Buf} (h : abs b = abs c) (hb : Good b) (o : Int) : heldOf b o = rheldOf c o := by
  unfold heldOf rheldOf heldUpto rheldUpto
  rw [abs_length h]
  congr 1
  apply List.filter_congr
  intro i hi
  unfold hits rhits
  have := abs_at h i
  cases hbi : b[i]? <;> cases hci : c[i]? <;> rw [hbi, hci] at this <;> simp at this
  rename_i B C
  show (decide (B.own = o) && owns o) = (decide (0 < o) && decide (C.own = o))
  rw [← this.1]
  have hg := hb B (List.mem_of_getElem? hbi)
  by_cases he : B.own = o
  · subst he
    rw [decide_eq_true rfl, Bool.true_and, Bool.and_true]
    rw [Bool.eq_iff_iff, owns_iff, decide_eq_true_eq]
    rcases hg with hg | hg <;> omega
  · rw [decide_eq_false he, Bool.false_and, Bool.and_false]
end Go.Proofs.Ytjnjgmkkjglheaa
