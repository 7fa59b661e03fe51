/- Two pools that say the same are found to agree. -/
import Derived.Test.YtjnjgmkkjglheaaDoNil
namespace Go.Proofs.Ytjnjgmkkjglheaa
open Go Go.Den
attribute [local irreducible] wpC
theorem bytesOf_at {b : List Buf} (hb : Good b) {i : Nat} {B : Buf} (hB : b[i]? = some B) : bytesOf b i = B.bs := by
  unfold bytesOf
  rw [ownerOf_at hB, Int.toNat_natCast, hB]
  rcases hb B (List.mem_of_getElem? hB) with h | h
  · rw [if_neg (by omega), h.2]
  · rw [if_pos (by omega)]
theorem Good.small {b : List Buf} (h : Good b) : ∀ B ∈ b, B.bs.length ≤ 1514 := fun B hB => by
  rcases h B hB with h | h
  · rw [h.2]; decide
  · exact h.2.2
set_option maxHeartbeats 8000000 in
theorem agree_spec {w : World} {p r : Nat} {h h' : Home} {b c : List Buf} (hp : PoolR 82 87 w p h b) (hr : PoolR 50 84 w r h' c) (hab : abs b = abs c) (hg : Good b) (hlen : b.length ≤ 1000000) :
    Does Try.prog 16 [ptr p, ptr r] w fun v w' => v = .bool true ∧ Grows w w' := by
  have hl := abs_length hab
  refine s16 rfl ?_
  refine row_in ?_
  refine row_in ?_
  refine seq_in (row_in ?_)
  refine block_in ?_
  refine loop_rule (4 :: 5 :: 6 :: 7 :: 8 :: List.range' 9 57) rfl [6, 5] (fun (i : Nat) => [.int .i64 i, .int .i64 (leftOf (b.take i))]) (fun i w' => i ≤ b.length ∧ Grows w w') (fun i => b.length - i) 0 rfl ⟨Nat.zero_le _, Grows.refl w⟩ ?_
  rintro g i w1 ⟨hi, hg1⟩
  have hp := hp.grows hg1
  have hr := hr.grows hg1
  refine if_in ?_
  refine ⟨_, hr.slice, ?_⟩
  by_cases hil : i < b.length
  rotate_left
  · refine ⟨false, decide_eq_false (by omega), ?_⟩
    refine exit_in ?_
    have e : i = b.length := by omega
    subst e
    rw [List.take_length]
    refine draw_in ?_
    have hp := hp.grows (Grows.drew w1)
    have hr := hr.grows (Grows.drew w1)
    refine (left_spec hp hlen).mono ?_
    rintro _ w2 ⟨rfl, hg2⟩
    have hp := hp.grows hg2
    have hr := hr.grows hg2
    refine ⟨trivial, ?_⟩
    refine ⟨true, decide_eq_true rfl, ?_⟩
    refine ⟨_, hr.slice, ?_⟩
    refine (many_spec hp).mono ?_
    rintro _ _ ⟨rfl, rfl⟩
    refine ⟨⟨hr.slice, trivial⟩, ?_⟩
    refine ⟨true, decide_eq_true (by omega), ?_⟩
    refine (owner_spec hp (-1)).mono ?_
    rintro _ _ ⟨rfl, rfl⟩
    refine ⟨⟨hr.slice, trivial⟩, ?_⟩
    refine ⟨true, decide_eq_true (ownerOf_neg (by decide)), ?_⟩
    refine ⟨_, hr.slice, ?_⟩
    refine (owner_spec hp c.length).mono ?_
    rintro _ _ ⟨rfl, rfl⟩
    refine ⟨⟨hr.slice, hr.slice, trivial⟩, ?_⟩
    refine ⟨true, decide_eq_true (ownerOf_big (by omega)), ?_⟩
    refine ret_in ?_
    exact ⟨rfl, (hg1.trans (Grows.drew w1)).trans hg2⟩
  refine ⟨true, decide_eq_true (by omega), ?_⟩
  refine skip_in ?_
  obtain ⟨B, hB⟩ : ∃ B, b[i]? = some B := ⟨b[i], List.getElem?_eq_getElem (by omega)⟩
  obtain ⟨C, hC⟩ : ∃ C, c[i]? = some C := ⟨c[i], List.getElem?_eq_getElem (by omega)⟩
  obtain ⟨hBC, hbs⟩ : B.own = C.own ∧ B.bs = C.bs := by have := abs_at hab i; rw [hB, hC] at this; simpa using this
  have hown := ownerOf_at hB
  have hby := bytesOf_at hg hB
  have hc : leftOf (b.take (i + 1)) = leftOf (b.take i) + (if isFree B then 1 else 0) := by
    unfold leftOf; rw [take_more hB, List.countP_append, List.countP_singleton]
  have hcl : leftOf (b.take i) ≤ i := Nat.le_trans List.countP_le_length (List.length_take_le _ _)
  refine block_then ?_
  refine row_in ?_
  refine (bytes_spec hp i (fun B hB => Nat.le_trans (hg.small B hB) (by decide))).mono ?_
  rintro _ w2 ⟨s, A, rfl, hs, hA⟩
  rw [hby] at hs
  have hreads := hs.reads hA.holds
  have hg2 := hA.grown
  have hp := hp.grows (hg2.trans (Grows.drew w2))
  have hr := hr.grows (hg2.trans (Grows.drew w2))
  have hreads := hreads.grows (Grows.drew w2)
  have hrb := hr.bytes C (List.mem_of_getElem? hC)
  obtain ⟨_, ca, cc, hsl, _⟩ := id hrb
  refine ifd_in ?_
  refine ⟨_, hr.slice, ?_⟩
  refine ⟨⟨by omega, by omega⟩, _, rfl, ?_⟩
  refine ⟨_, hr.own hC, ?_⟩
  refine (owner_spec hp i).mono ?_
  rintro _ _ ⟨rfl, rfl⟩
  refine ⟨⟨hr.own hC, hr.slice, trivial⟩, ?_⟩
  refine ⟨false, decide_eq_false (fun h => h (hown.trans hBC)), ?_⟩
  refine ⟨_, hr.slice, ?_⟩
  refine ⟨⟨by omega, by omega⟩, _, rfl, ?_⟩
  refine ⟨_, hr.own hC, ?_⟩
  refine ⟨decide (0 < C.own), rfl, ?_⟩
  refine ⟨false, (by rw [hown, hBC]; simp), ?_⟩
  refine reframeD [0, 1, 5, 6, 7, 8, 36, 47] [ptr p, ptr r, .int .i64 (leftOf (b.take i)), .int .i64 i, s, .bool (decide (0 < ownerOf b i)), .bool false, .bool false] rfl fun g2 => ?_
  refine ⟨_, hr.slice, ?_⟩
  refine ⟨⟨by omega, by omega⟩, _, rfl, ?_⟩
  refine ⟨_, hr.sl hC, ?_⟩
  refine (samebytes_spec hreads hrb (by have := hg.small B (List.mem_of_getElem? hB); omega)).mono ?_
  rintro _ w3 ⟨rfl, hg3⟩
  have hr := hr.grows hg3
  have hgall := ((hg1.trans hg2).trans (Grows.drew w2)).trans hg3
  refine ⟨⟨hr.sl hC, hr.slice, hr.own hC, hr.slice, hr.own hC, hr.slice, trivial⟩, ?_⟩
  refine ⟨false, (by rw [decide_eq_true hbs]; rfl), ?_⟩
  refine skip_in ?_
  refine seq_in (ops_in ?_)
  by_cases hf : B.own = 0
  · refine ⟨true, (by rw [hown, hf]; rfl), ?_⟩
    refine cond_in ?_
    refine ops_in ?_
    refine ⟨((leftOf (b.take i) + 1 : Nat) : Int), (IntWalk.i64_in _ (by omega)).trans (by omega), ?_⟩
    refine ops_in ?_
    refine ⟨((i + 1 : Nat) : Int), (IntWalk.i64_in _ (by omega)).trans (by omega), ?_⟩
    refine ⟨i + 1, ?_, ⟨hil, hgall⟩, by omega⟩
    rw [hc, show isFree B = true from decide_eq_true hf]
    rfl
  · have hpos : 0 < B.own := by
      rcases hg B (List.mem_of_getElem? hB) with h | h
      · exact absurd h.1 hf
      · omega
    refine ⟨false, (by rw [hown, decide_eq_true hpos]; rfl), ?_⟩
    refine cond_in ?_
    refine skip_in ?_
    refine ops_in ?_
    refine ⟨((i + 1 : Nat) : Int), (IntWalk.i64_in _ (by omega)).trans (by omega), ?_⟩
    refine ⟨i + 1, ?_, ⟨hil, hgall⟩, by omega⟩
    rw [hc, show isFree B = false from decide_eq_false hf]
    rfl
end Go.Proofs.Ytjnjgmkkjglheaa
