/- The pool's functions that only read it: what each answers. -/
import Derived.Test.YtjnjgmkkjglheaaSmall
namespace Go.Proofs.Ytjnjgmkkjglheaa
open Go Go.Den
attribute [local irreducible] wpC
def ptr (b : Nat) : Value := .pointer (some ⟨b, 0, none⟩)
def owns (o : Int) : Bool := decide (0 < o) && decide (o ≤ 255)
theorem owns_spec (o : Int) (w : World) : Does Try.prog 51 [.int .i64 o] w fun v w' => v = .bool (owns o) ∧ w' = w := by
  refine s51 rfl ?_
  refine row_in ?_
  refine row_in ?_
  refine ⟨decide (0 < o), rfl, ?_⟩
  unfold owns
  cases h : decide (0 < o)
  · refine ret_in ?_
    exact ⟨rfl, rfl⟩
  refine ⟨decide (o ≤ 255), rfl, ?_⟩
  refine ret_in ?_
  exact ⟨rfl, rfl⟩
def ownerOf (bufs : List Buf) (k : Int) : Int := if k < 0 then -1 else match bufs[k.toNat]? with | some B => B.own | none => -1
theorem ownerOf_neg {bufs : List Buf} {k : Int} (h : k < 0) : ownerOf bufs k = -1 := by unfold ownerOf; rw [if_pos h]
theorem ownerOf_big {bufs : List Buf} {k : Int} (h : (bufs.length : Int) ≤ k) : ownerOf bufs k = -1 := by unfold ownerOf; rw [if_neg (by omega), List.getElem?_eq_none (by omega)]
theorem ownerOf_at {bufs : List Buf} {i : Nat} {B : Buf} (h : bufs[i]? = some B) : ownerOf bufs i = B.own := by unfold ownerOf; rw [if_neg (by omega), Int.toNat_natCast, h]
theorem owner_spec {w : World} {bp : Nat} {bb : Home} {bufs : List Buf} (hp : PoolR 82 87 w bp bb bufs) (k : Int) : Does Try.prog 25 [ptr bp, .int .i64 k] w fun v w' => v = .int .i64 (ownerOf bufs k) ∧ w' = w := by
  refine s25 rfl ?_
  refine row_in ?_
  refine if_in ?_
  by_cases h0 : k < 0
  · refine ⟨true, decide_eq_true h0, ?_⟩
    refine row_in ?_
    refine ret_in ?_
    exact ⟨by rw [ownerOf_neg h0]; rfl, rfl⟩
  refine ⟨false, decide_eq_false h0, ?_⟩
  refine ⟨_, hp.slice, ?_⟩
  by_cases h1 : (bufs.length : Int) ≤ k
  · refine ⟨true, decide_eq_true h1, ?_⟩
    refine row_in ?_
    refine ret_in ?_
    exact ⟨by rw [ownerOf_big h1]; rfl, rfl⟩
  refine ⟨false, decide_eq_false h1, ?_⟩
  refine skip_in ?_
  obtain ⟨i, rfl⟩ : ∃ i : Nat, k = i := ⟨k.toNat, by omega⟩
  obtain ⟨B, hB⟩ : ∃ B, bufs[i]? = some B := ⟨bufs[i], List.getElem?_eq_getElem (by omega)⟩
  refine row_in ?_
  refine ⟨_, hp.slice, ?_⟩
  refine ⟨⟨by omega, by omega⟩, _, rfl, ?_⟩
  refine ⟨_, hp.own hB, ?_⟩
  refine ret_in ?_
  exact ⟨by rw [ownerOf_at hB]; rfl, rfl⟩
theorem many_spec {w : World} {bp : Nat} {bb : Home} {bufs : List Buf} (hp : PoolR 82 87 w bp bb bufs) : Does Try.prog 46 [ptr bp] w fun v w' => v = .int .i64 bufs.length ∧ w' = w := by
  refine s46 rfl ?_
  refine row_in ?_
  refine row_in ?_
  refine ⟨_, hp.slice, ?_⟩
  refine ret_in ?_
  exact ⟨rfl, rfl⟩
/-- The bytes of a buffer, as new memory; of a free one: none. -/
def bytesOf (bufs : List Buf) (k : Int) : List Int := if 0 < ownerOf bufs k then (match bufs[k.toNat]? with | some B => B.bs | none => []) else []
theorem bytes_spec {w : World} {bp : Nat} {bb : Home} {bufs : List Buf} (hp : PoolR 82 87 w bp bb bufs) (k : Int) (hlen : ∀ B ∈ bufs, B.bs.length ≤ 1000000) :
    Does Try.prog 27 [ptr bp, .int .i64 k] w fun v w' => ∃ s A, v = .tuple #[s, .bool (decide (0 < ownerOf bufs k))] ∧ OwnRow 5 1 s (bytesOf bufs k).length (vals (bytesOf bufs k)) A ∧ SH w w' A := by
  refine s27 rfl ?_
  refine row_in ?_
  refine if_in ?_
  refine (owner_spec hp k).mono ?_
  rintro _ _ ⟨rfl, rfl⟩
  unfold bytesOf
  by_cases h0 : ownerOf bufs k ≤ 0
  · refine ⟨true, decide_eq_true h0, ?_⟩
    refine row_in ?_
    refine ret_in ?_
    rw [if_neg (by omega), decide_eq_false (by omega)]
    exact ⟨_, [], rfl, .none none, SH.nil _⟩
  refine ⟨false, decide_eq_false h0, ?_⟩
  refine skip_in ?_
  rw [if_pos (by omega), decide_eq_true (by omega : 0 < ownerOf bufs k)]
  have hk : 0 ≤ k ∧ k < bufs.length := by
    constructor
    · by_cases h : k < 0
      · rw [ownerOf_neg h] at h0; omega
      · omega
    · by_cases h : (bufs.length : Int) ≤ k
      · rw [ownerOf_big h] at h0; omega
      · omega
  obtain ⟨i, rfl⟩ : ∃ i : Nat, k = i := ⟨k.toNat, by omega⟩
  obtain ⟨B, hB⟩ : ∃ B, bufs[i]? = some B := ⟨bufs[i], List.getElem?_eq_getElem (by omega)⟩
  rw [Int.toNat_natCast, hB]
  have hm := List.mem_of_getElem? hB
  refine row_in ?_
  refine ⟨_, hp.slice, ?_⟩
  refine ⟨⟨by omega, by omega⟩, _, rfl, ?_⟩
  refine ⟨_, hp.sl hB, ?_⟩
  refine (clone23_spec (hp.bytes B hm) (vals_one _) (hlen B hm)).mono ?_
  rintro s w' ⟨A, hs, hL⟩
  refine ret_in ?_
  exact ⟨s, A, rfl, hs, hL⟩
end Go.Proofs.Ytjnjgmkkjglheaa
