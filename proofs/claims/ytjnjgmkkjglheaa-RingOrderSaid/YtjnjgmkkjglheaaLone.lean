/- One pool alone, in play; and the plain laws of what is taken, freed and held. -/
import Derived.Test.YtjnjgmkkjglheaaCalls
namespace Go.Proofs.Ytjnjgmkkjglheaa
open Go Go.Den
attribute [local irreducible] wpC
structure Lone (w0 w : World) (R : List Atom) (p : Nat) (h : Home) (n : Nat) (b : List Buf) : Prop where
  hL : SH w0 w (PoolS 82 87 p h b R)
  good : Good b
  len : b.length = n
theorem Lone.grows {w0 w w' : World} {R : List Atom} {p : Nat} {h : Home} {n : Nat} {b : List Buf} (B : Lone w0 w R p h n b) (g : Grows w w') : Lone w0 w' R p h n b := ⟨B.hL.grows g, B.good, B.len⟩
theorem Lone.p {w0 w : World} {R : List Atom} {p : Nat} {h : Home} {n : Nat} {b : List Buf} (B : Lone w0 w R p h n b) : PoolR 82 87 w p h b := B.hL.poolR
theorem lone_do {w0 w : World} {R : List Atom} {p r : Nat} {h : Home} {n : Nat} {b : List Buf} (hL : SH w0 w (Cl r 50 [.slice none 0 0] :: PoolS 82 87 p h b R)) (hg : Good b) (hlen : b.length = n) (k : Call) (hx : Reads w0 1 k.x k.bs.length (vals k.bs)) (hn : n ≤ 1000000) (hbs : k.bs.length ≤ 1600) :
    Does Try.prog 15 [ptr p, ptr r, k.v] w fun v w' => ∃ t b', v = .bool t ∧ Lone w0 w' R p h n b' := by
  have hL : SH w0 w (PoolS 82 87 p h b (nilRef r :: R)) := pool_in (X := [_]) hL
  refine (donil_spec hL k hx (by omega) hbs).mono ?_
  rintro v w' ⟨t, s, rfl, hL⟩
  exact ⟨t, _, rfl, hL.sub (.cons_cons _ (.cons_cons _ (.cons_cons _ (.cons _ (.refl _))))), hg.doB k s, by rw [doB_length]; exact hlen⟩
/-! ### What is taken -/
theorem take_zero {b : List Buf} {o : Int} {m : Nat} (h : takeE b o m = 0) : owns o = true ∧ m ≤ 1514 ∧ ∃ (i : Nat) (B : Buf), freeAt b = i ∧ b[i]? = some B ∧ B.own = 0 ∧ ∀ (j : Nat) C, j < i → b[j]? = some C → isFree C = false := by
  unfold takeE at h
  by_cases hr : owns o = false ∨ 1514 < m
  · rw [if_pos hr] at h; exact absurd h (by decide)
  rw [if_neg hr] at h
  have ho : owns o = true := by cases ho : owns o; exact absurd (.inl ho) hr; rfl
  have hm : ¬ 1514 < m := fun h => hr (.inr h)
  rcases freeAt_spec b with ⟨hf, _⟩ | ⟨i, B, hf, hB, hfree, hlow⟩
  · rw [if_pos (by omega)] at h; exact absurd h (by decide)
  · exact ⟨ho, by omega, i, B, hf, hB, of_decide_eq_true hfree, hlow⟩
theorem take_yes {b : List Buf} {o : Int} {bs : List Int} {i : Nat} (h : takeE b o bs.length = 0) (hf : freeAt b = i) (s : Value) : takeN b o bs.length = i ∧ takeB b o s bs = b.set i ⟨o, s, bs⟩ := by
  unfold takeN takeB
  rw [h, if_pos rfl, if_pos rfl, hf, Int.toNat_natCast]
  exact ⟨rfl, rfl⟩
theorem leftOf_set {b : List Buf} {i : Nat} {B C : Buf} (hB : b[i]? = some B) (hf : isFree B = true) (hC : isFree C = false) : leftOf (b.set i C) + 1 = leftOf b := by
  unfold leftOf
  induction b generalizing i with
  | nil => simp at hB
  | cons D b ih =>
    cases i with
    | zero =>
      simp at hB
      subst hB
      simp [hf, hC]
    | succ i =>
      have := ih (i := i) (by simpa using hB)
      simp only [List.set_cons_succ, List.countP_cons]
      omega
theorem leftOf_free {b : List Buf} {i : Nat} {B C : Buf} (hB : b[i]? = some B) (hf : isFree B = false) (hC : isFree C = true) : leftOf (b.set i C) = leftOf b + 1 := by
  have hB2 : (b.set i C)[i]? = some C := by
    have := (List.getElem?_eq_some_iff.1 hB).1
    simp [this]
  have := leftOf_set hB2 hC hf
  rw [List.set_set] at this
  have e : b.set i B = b := by
    apply List.ext_getElem?
    intro j
    rw [List.getElem?_set]
    split
    · rename_i h; subst h; have := (List.getElem?_eq_some_iff.1 hB).1; simp [this, hB]; exact ((List.getElem?_eq_some_iff.1 hB).2).symm
    · rfl
  rw [e] at this
  omega
theorem owns_nz {o : Int} (h : owns o = true) (s : Value) (bs : List Int) : isFree ⟨o, s, bs⟩ = false := decide_eq_false (by have := owns_iff.1 h; show ¬ o = 0; omega)
/-! ### What is held -/
def ownedBy (o : Int) (B : Buf) : Bool := decide (B.own = o) && owns o
theorem held_count (b : List Buf) (o : Int) (i : Nat) (hi : i ≤ b.length) : (heldUpto b o i).length = (b.take i).countP (ownedBy o) := by
  induction i with
  | zero => simp [heldUpto]
  | succ i ih =>
    obtain ⟨B, hB⟩ : ∃ B, b[i]? = some B := ⟨b[i], List.getElem?_eq_getElem (by omega)⟩
    rw [heldUpto_more, List.length_append, ih (by omega), take_more hB, List.countP_append, List.countP_singleton]
    have hh : hits b o i = ownedBy o B := by unfold hits ownedBy; rw [hB]
    rw [hh]
    cases ownedBy o B <;> rfl
theorem held_len (b : List Buf) (o : Int) : (heldOf b o).length = b.countP (ownedBy o) := by
  unfold heldOf
  rw [held_count b o _ (Nat.le_refl _), List.take_length]
theorem held_mem {b : List Buf} {o z : Int} (h : z ∈ heldOf b o) : ownerOf b z = o := by
  unfold heldOf heldUpto at h
  obtain ⟨j, hj, rfl⟩ := List.mem_map.1 h
  have hj := (List.mem_filter.1 hj).2
  unfold hits at hj
  cases hb : b[j]? with
  | none => rw [hb] at hj; cases hj
  | some B =>
    rw [hb] at hj
    simp only [Bool.and_eq_true, decide_eq_true_eq] at hj
    rw [ownerOf_at hb]
    exact hj.1
def upTo (m : Nat) (B : Buf) : Bool := decide (1 ≤ B.own) && decide (B.own ≤ m)
theorem upTo_more (b : List Buf) (m : Nat) (hm : m < 255) : b.countP (upTo (m + 1)) = b.countP (upTo m) + (heldOf b ((m + 1 : Nat) : Int)).length := by
  rw [held_len]
  have ho : owns ((m + 1 : Nat) : Int) = true := owns_iff.2 (by omega)
  induction b with
  | nil => rfl
  | cons B b ih =>
    simp only [List.countP_cons, ih]
    have h1 : ((if upTo (m + 1) B = true then 1 else 0) : Nat) = (if upTo m B = true then 1 else 0) + (if ownedBy ((m + 1 : Nat) : Int) B = true then 1 else 0) := by
      unfold upTo ownedBy
      simp only [ho, Bool.and_true, Bool.and_eq_true, decide_eq_true_eq]
      split <;> split <;> split <;> omega
    omega
theorem upTo_zero (b : List Buf) : b.countP (upTo 0) = 0 := by
  rw [List.countP_eq_zero]
  intro B _ h
  unfold upTo at h
  simp only [Bool.and_eq_true, decide_eq_true_eq] at h
  omega
theorem upTo_all {b : List Buf} (hg : Good b) : b.countP (upTo 255) + leftOf b = b.length := by
  unfold leftOf
  induction b with
  | nil => rfl
  | cons B b ih =>
    have ih := ih fun C hC => hg C (.tail _ hC)
    simp only [List.countP_cons, List.length_cons]
    have hB := hg B (.head _)
    have : ((if upTo 255 B = true then 1 else 0) : Nat) + (if isFree B = true then 1 else 0) = 1 := by
      unfold upTo isFree
      simp only [Bool.and_eq_true, decide_eq_true_eq]
      rcases hB with hB | hB <;> split <;> split <;> omega
    omega
end Go.Proofs.Ytjnjgmkkjglheaa
