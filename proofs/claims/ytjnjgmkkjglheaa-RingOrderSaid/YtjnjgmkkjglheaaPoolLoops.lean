/- The pool's loops: how many are free, which an owner has, which is the first free one. -/
import Derived.Test.YtjnjgmkkjglheaaPoolRead
namespace Go.Proofs.Ytjnjgmkkjglheaa
open Go Go.Den
attribute [local irreducible] wpC
def isFree (B : Buf) : Bool := decide (B.own = 0)
def leftOf (bufs : List Buf) : Nat := bufs.countP isFree
theorem take_more {bufs : List Buf} {i : Nat} {B : Buf} (h : bufs[i]? = some B) : bufs.take (i + 1) = bufs.take i ++ [B] := by
  rw [List.take_add_one, h]; rfl
theorem left_spec {w : World} {bp : Nat} {bb : Home} {bufs : List Buf} (hp : PoolR 82 87 w bp bb bufs) (hlen : bufs.length ≤ 1000000) : Does Try.prog 22 [ptr bp] w fun v w' => v = .int .i64 (leftOf bufs) ∧ Grows w w' := by
  refine s22 rfl ?_
  refine row_in ?_
  refine row_in ?_
  refine seq_in (row_in ?_)
  refine ⟨_, hp.slice, ?_⟩
  refine block_in ?_
  refine loop_rule (5 :: 3 :: List.range' 11 10) rfl [11, 3] (fun (i : Nat) => [.int .i64 i, .int .i64 (leftOf (bufs.take i))]) (fun i w' => i ≤ bufs.length ∧ SH w w' []) (fun i => bufs.length - i) 0 rfl ⟨Nat.zero_le _, SH.nil w⟩ ?_
  rintro g i w1 ⟨hi, hL⟩
  have hp := hp.grows hL.grown
  refine row_in ?_
  by_cases hil : i < bufs.length
  rotate_left
  · refine ⟨false, decide_eq_false (by omega), ?_⟩
    refine seq_in (cond_in ?_)
    refine exit_in ?_
    refine row_in ?_
    refine ret_in ?_
    have e : i = bufs.length := by omega
    subst e
    rw [List.take_length]
    exact ⟨rfl, hL.grown⟩
  refine ⟨true, decide_eq_true (by omega), ?_⟩
  refine seq_in (cond_in ?_)
  refine skip_in ?_
  obtain ⟨B, hB⟩ : ∃ B, bufs[i]? = some B := ⟨bufs[i], List.getElem?_eq_getElem (by omega)⟩
  have hc : leftOf (bufs.take (i + 1)) = leftOf (bufs.take i) + (if isFree B then 1 else 0) := by
    unfold leftOf; rw [take_more hB, List.countP_append, List.countP_singleton]
  have hcl : leftOf (bufs.take i) ≤ i := Nat.le_trans List.countP_le_length (List.length_take_le _ _)
  refine block_then ?_
  refine row_in ?_
  refine ⟨⟨by omega, by omega⟩, _, rfl, ?_⟩
  obtain ⟨_, sa, sc, hsl, _⟩ := hp.bytes B (List.mem_of_getElem? hB)
  have hbo := hp.both hB
  rw [hsl] at hbo
  refine ⟨_, hbo, ?_⟩
  refine hL.newK fun b5 w2 hL => ?_
  refine hL.stK [_, _] fun w3 hL => ?_
  refine seq_in (ops_in ?_)
  refine ⟨_, hL.ld rfl, ?_⟩
  by_cases hf : B.own = 0
  · refine ⟨true, decide_eq_true hf, ?_⟩
    refine cond_in ?_
    refine ops_in ?_
    refine ⟨((leftOf (bufs.take i) + 1 : Nat) : Int), (IntWalk.i64_in _ (by omega)).trans (by omega), ?_⟩
    refine ops_in ?_
    refine ⟨((i + 1 : Nat) : Int), (IntWalk.i64_in _ (by omega)).trans (by omega), ?_⟩
    refine ⟨i + 1, ?_, ⟨hil, hL.empty⟩, by omega⟩
    rw [hc, show isFree B = true from decide_eq_true hf]
    rfl
  · refine ⟨false, decide_eq_false hf, ?_⟩
    refine cond_in ?_
    refine skip_in ?_
    refine ops_in ?_
    refine ⟨((i + 1 : Nat) : Int), (IntWalk.i64_in _ (by omega)).trans (by omega), ?_⟩
    refine ⟨i + 1, ?_, ⟨hil, hL.empty⟩, by omega⟩
    rw [hc, show isFree B = false from decide_eq_false hf]
    rfl
theorem free1_spec (o : Int) (sa : Option Addr) (n c : Nat) (w : World) : Does Try.prog 53 [.agg #[.int .i64 o, .slice sa n c]] w fun v w' => v = .bool (decide (o = 0)) ∧ Grows w w' := by
  refine s53 rfl ?_
  refine row_in ?_
  refine (SH.nil w).boxK [_, _] fun b w1 hL => ?_
  refine row_in ?_
  refine ⟨_, hL.ld rfl, ?_⟩
  refine ⟨_, rfl, ?_⟩
  refine ret_in ?_
  exact ⟨rfl, hL.grown⟩
/-- The first free buffer's number; -1: there is none. -/
def freeAt (bufs : List Buf) : Int := match bufs.findIdx? isFree with | some i => (i : Nat) | none => -1
theorem freeAt_some {bufs : List Buf} {i : Nat} {B : Buf} (hB : bufs[i]? = some B) (hf : isFree B = true) (hlow : ∀ (j : Nat) C, j < i → bufs[j]? = some C → isFree C = false) : freeAt bufs = i := by
  have hlt : i < bufs.length := (List.getElem?_eq_some_iff.1 hB).1
  have : bufs.findIdx? isFree = some i := List.findIdx?_eq_some_iff_getElem.2 ⟨hlt, by rw [(List.getElem?_eq_some_iff.1 hB).2]; exact hf, fun j hj => by
    rw [hlow j _ hj (List.getElem?_eq_getElem (by omega))]; decide⟩
  unfold freeAt; rw [this]
theorem freeAt_none {bufs : List Buf} (h : ∀ (j : Nat) C, bufs[j]? = some C → isFree C = false) : freeAt bufs = -1 := by
  have : bufs.findIdx? isFree = none := List.findIdx?_eq_none_iff.2 fun C hC => by
    obtain ⟨j, hj⟩ := List.mem_iff_getElem?.1 hC
    exact h j C hj
  unfold freeAt; rw [this]
theorem index_spec {w : World} {bp : Nat} {bb : Home} {bufs : List Buf} (hp : PoolR 82 87 w bp bb bufs) (hlen : bufs.length ≤ 1000000) :
    Does Try.prog 52 [.slice (some ⟨bb.b, 0, none⟩) bufs.length bb.c, .func (.func 53) #[] #[]] w fun v w' => v = .int .i64 (freeAt bufs) ∧ Grows w w' := by
  refine s52 rfl ?_
  refine row_in ?_
  refine seq_in (row_in ?_)
  refine block_in ?_
  refine loop_rule (4 :: 5 :: List.range' 8 11) rfl [8] (fun (i : Nat) => [.int .i64 i]) (fun i w' => i ≤ bufs.length ∧ (∀ (j : Nat) C, j < i → bufs[j]? = some C → isFree C = false) ∧ Grows w w') (fun i => bufs.length - i) 0 rfl ⟨Nat.zero_le _, fun j C h => absurd h (Nat.not_lt_zero _), Grows.refl w⟩ ?_
  rintro g i w1 ⟨hi, hlow, hg⟩
  have hp := hp.grows hg
  refine row_in ?_
  by_cases hil : i < bufs.length
  rotate_left
  · refine ⟨false, decide_eq_false (by omega), ?_⟩
    refine seq_in (cond_in ?_)
    refine exit_in ?_
    refine row_in ?_
    refine ret_in ?_
    exact ⟨by rw [freeAt_none fun j C hC => hlow j C (by have := (List.getElem?_eq_some_iff.1 hC).1; omega) hC]; rfl, hg⟩
  refine ⟨true, decide_eq_true (by omega), ?_⟩
  refine seq_in (cond_in ?_)
  refine skip_in ?_
  obtain ⟨B, hB⟩ : ∃ B, bufs[i]? = some B := ⟨bufs[i], List.getElem?_eq_getElem (by omega)⟩
  obtain ⟨_, sa, sc, hsl, _⟩ := hp.bytes B (List.mem_of_getElem? hB)
  have hbo := hp.both hB
  rw [hsl] at hbo
  refine block_then ?_
  refine row_in ?_
  refine seq_in (ops_in ?_)
  refine ⟨⟨by omega, by omega⟩, _, rfl, ?_⟩
  refine ⟨_, hbo, ?_⟩
  refine ⟨c53, ?_⟩
  refine (free1_spec _ _ _ _ _).mono ?_
  rintro _ w2 ⟨rfl, hg2⟩
  cases hf : decide (B.own = 0)
  · refine cond_in ?_
    refine skip_in ?_
    refine ops_in ?_
    refine ⟨((i + 1 : Nat) : Int), (IntWalk.i64_in _ (by omega)).trans (by omega), ?_⟩
    refine ⟨i + 1, rfl, ⟨hil, fun j C hj hC => ?_, hg.trans hg2⟩, by omega⟩
    by_cases hji : j < i
    · exact hlow j C hji hC
    · have : j = i := by omega
      subst this
      rw [hB] at hC
      cases hC
      exact hf
  · refine cond_in ?_
    refine row_in ?_
    refine ret_in ?_
    exact ⟨by rw [freeAt_some hB hf hlow]; rfl, hg.trans hg2⟩
/-- The numbers of an owner's buffers among the first so many. -/
def hits (bufs : List Buf) (o : Int) (j : Nat) : Bool := match bufs[j]? with | some B => decide (B.own = o) && owns o | none => false
def heldUpto (bufs : List Buf) (o : Int) (i : Nat) : List Int := ((List.range i).filter (hits bufs o)).map fun (j : Nat) => (j : Int)
def heldOf (bufs : List Buf) (o : Int) : List Int := heldUpto bufs o bufs.length
theorem heldUpto_more (bufs : List Buf) (o : Int) (i : Nat) : heldUpto bufs o (i + 1) = heldUpto bufs o i ++ (if hits bufs o i then [(i : Int)] else []) := by
  unfold heldUpto
  rw [List.range_succ, List.filter_append, List.map_append]
  congr 1
  cases h : hits bufs o i <;> simp [h]
theorem heldUpto_length (bufs : List Buf) (o : Int) (i : Nat) : (heldUpto bufs o i).length ≤ i := by
  unfold heldUpto
  rw [List.length_map]
  exact Nat.le_trans (List.length_filter_le _ _) (by simp)
theorem held_spec {w : World} {bp : Nat} {bb : Home} {bufs : List Buf} (hp : PoolR 82 87 w bp bb bufs) (o : Int) (hlen : bufs.length ≤ 1000000) :
    Does Try.prog 20 [ptr bp, .int .i64 o] w (NewRow 3 1 (heldOf bufs o).length (ints (heldOf bufs o)) w) := by
  refine s20 rfl ?_
  refine row_in ?_
  refine row_in ?_
  refine seq_in (row_in ?_)
  refine ⟨_, hp.slice, ?_⟩
  refine block_in ?_
  refine loop_rule (7 :: 6 :: 5 :: List.range' 13 18) rfl [13, 5] (fun (s : Nat × Value × List Atom) => [.int .i64 s.1, s.2.1])
    (fun s w' => s.1 ≤ bufs.length ∧ OwnRow 3 1 s.2.1 (heldUpto bufs o s.1).length (ints (heldUpto bufs o s.1)) s.2.2 ∧ SH w w' s.2.2) (fun s => bufs.length - s.1) (0, .slice none 0 0, []) rfl ⟨Nat.zero_le _, .none none, SH.nil w⟩ ?_
  rintro g ⟨i, v, A⟩ w1 ⟨hi, hv, hL⟩
  have hi : i ≤ bufs.length := hi
  have hv : OwnRow 3 1 v (heldUpto bufs o i).length (ints (heldUpto bufs o i)) A := hv
  have hL : SH w w1 A := hL
  have hp := hp.grows hL.grown
  refine row_in ?_
  by_cases hil : i < bufs.length
  rotate_left
  · refine ⟨false, decide_eq_false (by omega), ?_⟩
    refine seq_in (cond_in ?_)
    refine exit_in ?_
    refine row_in ?_
    refine ret_in ?_
    have e : i = bufs.length := by omega
    subst e
    exact ⟨A, hv, hL⟩
  refine ⟨true, decide_eq_true (by omega), ?_⟩
  refine seq_in (cond_in ?_)
  refine skip_in ?_
  obtain ⟨B, hB⟩ : ∃ B, bufs[i]? = some B := ⟨bufs[i], List.getElem?_eq_getElem (by omega)⟩
  obtain ⟨_, sa, sc, hsl, _⟩ := hp.bytes B (List.mem_of_getElem? hB)
  have hbo := hp.both hB
  rw [hsl] at hbo
  have hh : hits bufs o i = (decide (B.own = o) && owns o) := by unfold hits; rw [hB]
  have hmore := heldUpto_more bufs o i
  have hsize := heldUpto_length bufs o i
  refine block_then ?_
  refine row_in ?_
  refine ⟨⟨by omega, by omega⟩, _, rfl, ?_⟩
  refine ⟨_, hbo, ?_⟩
  refine hL.newK fun b7 w2 hL => ?_
  refine hL.stK [_, _] fun w3 hL => ?_
  refine seq_in (ops_in ?_)
  refine ⟨_, hL.ld rfl, ?_⟩
  refine ⟨decide (B.own = o), rfl, ?_⟩
  have no : hits bufs o i = false → (∀ w', SH w w' A → ∃ s' : Nat × Value × List Atom, [Value.int .i64 ((i + 1 : Nat) : Int), v] = [Value.int .i64 s'.1, s'.2.1] ∧ (s'.1 ≤ bufs.length ∧ OwnRow 3 1 s'.2.1 (heldUpto bufs o s'.1).length (ints (heldUpto bufs o s'.1)) s'.2.2 ∧ SH w w' s'.2.2) ∧ bufs.length - s'.1 < bufs.length - i) := fun h w' hL => by
    rw [h] at hmore
    refine ⟨(i + 1, v, A), rfl, ⟨hil, ?_, hL⟩, by simp only []; omega⟩
    simp only []
    rw [hmore]
    simpa using hv
  cases ho : decide (B.own = o)
  · refine cond_in ?_
    refine skip_in ?_
    refine ops_in ?_
    refine ⟨((i + 1 : Nat) : Int), (IntWalk.i64_in _ (by omega)).trans (by omega), ?_⟩
    exact no (by rw [hh, ho]; rfl) _ hL.tail
  refine (owns_spec _ _).mono ?_
  rintro _ _ ⟨rfl, rfl⟩
  cases ho2 : owns o
  · refine cond_in ?_
    refine skip_in ?_
    refine ops_in ?_
    refine ⟨((i + 1 : Nat) : Int), (IntWalk.i64_in _ (by omega)).trans (by omega), ?_⟩
    exact no (by rw [hh, ho, ho2]; rfl) _ hL.tail
  have hyes : hits bufs o i = true := by rw [hh, ho, ho2]; rfl
  rw [hyes] at hmore
  refine cond_in ?_
  refine ops_in ?_
  refine ⟨rfl, _, rfl, ?_⟩
  refine hL.tail.newK fun b8 w4 hL => ?_
  have hL : SH w w4 (Cl b8 3 [.int .i64 i] :: A) := hL
  refine app _ _ el40 rfl rfl rfl (A := A) (R := [Cl b8 3 [.int .i64 i]]) (m := 1) (news := [.int .i64 i]) (hL.perm ?_) hv ⟨rfl, _, _, rfl, fun h => (by cases h), ?_⟩ ?_ (by simp only [maxLen]; omega) (by omega) fun v' w5 A' hv' hL => ?_
  · exact (List.perm_append_singleton _ _).symm
  · intro ad e j u hu
    cases e
    rw [add_plain]
    match j, hu with
    | 0, hu => exact hL.ld hu
  · intro u hu
    simp only [List.mem_singleton] at hu
    subst hu
    rfl
  refine ops_in ?_
  refine ⟨((i + 1 : Nat) : Int), (IntWalk.i64_in _ (by omega)).trans (by omega), ?_⟩
  refine ⟨(i + 1, v', A'), rfl, ⟨hil, ?_, hL.sub (List.sublist_append_left _ _)⟩, by simp only []; omega⟩
  simp only []
  rw [hmore]
  simpa [ints] using hv'
end Go.Proofs.Ytjnjgmkkjglheaa
