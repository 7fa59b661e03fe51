/- A ring has just the buffers of its owner: how each step keeps that. -/
import Derived.Test.YtjnjgmkkjglheaaRMoves
namespace Go.Proofs.Ytjnjgmkkjglheaa
open Go Go.Den
def ofOwner (o : Int) (B : Buf) : Bool := decide (B.own = o)
/-- How many buffers are an owner's. -/
def cnt (b : List Buf) (o : Int) : Nat := b.countP (ofOwner o)
theorem left_cnt (b : List Buf) : leftOf b = cnt b 0 := rfl
theorem held_cnt (b : List Buf) {o : Int} (ho : owns o = true) : (heldOf b o).length = cnt b o := by
  rw [held_len]
  unfold cnt
  apply List.countP_congr
  intro B _
  unfold ownedBy ofOwner
  rw [ho, Bool.and_true]
theorem cnt_set {b : List Buf} {i : Nat} {B : Buf} (hB : b[i]? = some B) (C : Buf) (o : Int) : cnt (b.set i C) o + (if B.own = o then 1 else 0) = cnt b o + (if C.own = o then 1 else 0) := by
  unfold cnt
  induction b generalizing i with
  | nil => simp at hB
  | cons D b ih =>
    cases i with
    | zero =>
      simp at hB
      subst hB
      simp only [List.set_cons_zero, List.countP_cons, ofOwner, decide_eq_true_eq]
      omega
    | succ i =>
      have := ih (i := i) (by simpa using hB)
      simp only [List.set_cons_succ, List.countP_cons]
      omega
theorem cnt_le (b : List Buf) (o : Int) : cnt b o ≤ b.length := List.countP_le_length
/-- A ring has just the buffers of its owner, each once. -/
structure Has (o : Int) (G : Rg) (b : List Buf) : Prop where
  own : G.own = o
  nodup : G.rows.Nodup
  owned : ∀ z ∈ G.rows, ownerOf b z = o
  cnt : cnt b o = G.many
theorem Has.new (o : Int) (n s : Nat) (ho : o ≠ 0) : Has o ⟨o, List.replicate s 0, 0, 0, 0⟩ (List.replicate n noBuf) := by
  refine ⟨rfl, List.Pairwise.nil, fun z hz => by simp [Rg.rows] at hz, ?_⟩
  show Go.Proofs.Ytjnjgmkkjglheaa.cnt _ _ = 0
  unfold Go.Proofs.Ytjnjgmkkjglheaa.cnt
  rw [List.countP_eq_zero]
  intro B hB
  obtain rfl := List.eq_of_mem_replicate hB
  intro h
  exact ho (of_decide_eq_true h).symm
theorem Has.lost {o : Int} {G : Rg} {b : List Buf} (H : Has o G b) : Has o G.lost b := ⟨H.own, H.nodup, H.owned, H.cnt⟩
theorem owner_set {b : List Buf} {i : Nat} {B C : Buf} (hB : b[i]? = some B) {z : Int} {o : Int} (hz : ownerOf b z = o) (hne : B.own ≠ o) : z ≠ i ∧ ownerOf (b.set i C) z = o := by
  have h1 : z ≠ i := fun h => by subst h; rw [ownerOf_at hB] at hz; exact hne hz
  refine ⟨h1, ?_⟩
  by_cases h0 : z < 0
  · rw [ownerOf_neg h0] at hz ⊢; exact hz
  · obtain ⟨k, rfl⟩ : ∃ k : Nat, z = k := ⟨z.toNat, by omega⟩
    rw [ownerOf_set C (by omega)]
    exact hz
/-- Another's buffer is changed, and stays another's. -/
theorem Has.other {o : Int} {G : Rg} {b : List Buf} (H : Has o G b) {i : Nat} {B C : Buf} (hB : b[i]? = some B) (h1 : B.own ≠ o) (h2 : C.own ≠ o) : Has o G (b.set i C) := by
  refine ⟨H.own, H.nodup, fun z hz => (owner_set hB (H.owned z hz) h1).2, ?_⟩
  have := cnt_set hB C o
  rw [if_neg h1, if_neg h2] at this
  have := H.cnt
  omega
/-- A buffer comes to be the ring's. -/
theorem Has.lay {o : Int} {G : Rg} {b : List Buf} (H : Has o G b) (ok : G.ok) (hr : G.many < G.slots.length) {i : Nat} {B C : Buf} (hB : b[i]? = some B) (h1 : B.own ≠ o) (h2 : C.own = o) : Has o (G.lay i) (b.set i C) := by
  have hi := (List.getElem?_eq_some_iff.1 hB).1
  have hrows := rows_lay ok hr (i : Int)
  refine ⟨H.own, ?_, fun z hz => ?_, ?_⟩
  · rw [hrows]
    refine List.nodup_append.2 ⟨H.nodup, by simp, fun z hz y hy => ?_⟩
    simp only [List.mem_singleton] at hy
    subst hy
    exact (owner_set (C := C) hB (H.owned z hz) h1).1
  · rw [hrows] at hz
    rcases List.mem_append.1 hz with hz | hz
    · exact (owner_set hB (H.owned z hz) h1).2
    · simp only [List.mem_singleton] at hz
      subst hz
      rw [ownerOf_at (set_at hi C), h2]
  · have := cnt_set hB C o
    rw [if_neg h1, if_pos h2] at this
    have h3 := H.cnt
    show Go.Proofs.Ytjnjgmkkjglheaa.cnt (b.set i C) o = G.many + 1
    omega
/-- The first buffer goes. -/
theorem Has.took {o : Int} {G : Rg} {b : List Buf} (H : Has o G b) (h0 : 0 < G.many) (ho : owns o = true) : ∃ (i : Nat) (B : Buf), G.at 0 = i ∧ b[i]? = some B ∧ B.own = o ∧ freeB b (G.at 0) G.own = b.set i noBuf ∧ Has o G.took (b.set i noBuf) := by
  have hr := rows_took h0
  have hown : ownerOf b (G.at 0) = o := H.owned _ (by rw [hr]; exact .head _)
  have hop := owns_iff.1 ho
  have hnn : ¬ G.at 0 < 0 := fun h => by rw [ownerOf_neg h] at hown; omega
  obtain ⟨i, hi⟩ : ∃ i : Nat, G.at 0 = i := ⟨(G.at 0).toNat, by omega⟩
  rw [hi] at hown hr
  obtain ⟨B, hB⟩ : ∃ B, b[i]? = some B := by
    cases hb : b[i]? with
    | some B => exact ⟨B, rfl⟩
    | none =>
      have : b.length ≤ i := List.getElem?_eq_none_iff.1 hb
      rw [ownerOf_big (by omega)] at hown
      omega
  have hBo : B.own = o := by rw [← ownerOf_at hB]; exact hown
  refine ⟨i, B, hi, hB, hBo, ?_, H.own, ?_, fun z hz => ?_, ?_⟩
  · unfold freeB
    rw [hi, H.own, ← hBo, errOf_hit hB (by rw [hBo]; exact ho), if_pos rfl, Int.toNat_natCast, modify_at _ hB]
  · have := H.nodup
    rw [hr] at this
    exact (List.nodup_cons.1 this).2
  · have hnd := H.nodup
    rw [hr] at hnd
    have hne : z ≠ i := fun h => by subst h; exact (List.nodup_cons.1 hnd).1 hz
    have hzo := H.owned z (by rw [hr]; exact .tail _ hz)
    by_cases h0 : z < 0
    · rw [ownerOf_neg h0] at hzo ⊢; exact hzo
    · obtain ⟨k, rfl⟩ : ∃ k : Nat, z = k := ⟨z.toNat, by omega⟩
      rw [ownerOf_set noBuf (by omega)]
      exact hzo
  · have := cnt_set hB noBuf o
    have hn0 : noBuf.own ≠ o := by show (0 : Int) ≠ o; omega
    rw [if_pos hBo, if_neg hn0] at this
    have h3 := H.cnt
    show Go.Proofs.Ytjnjgmkkjglheaa.cnt _ o = G.many - 1
    omega
end Go.Proofs.Ytjnjgmkkjglheaa
