/- The document's answer for pools: which buffers an owner has. -/
import Derived.Test.YtjnjgmkkjglheaaSame
namespace Go.Proofs.Ytjnjgmkkjglheaa
open Go Go.Den
attribute [local irreducible] wpC
def rhits (bufs : List Buf) (o : Int) (j : Nat) : Bool := match bufs[j]? with | some B => decide (0 < o) && decide (B.own = o) | none => false
def rheldUpto (bufs : List Buf) (o : Int) (i : Nat) : List Int := ((List.range i).filter (rhits bufs o)).map fun (j : Nat) => (j : Int)
def rheldOf (bufs : List Buf) (o : Int) : List Int := rheldUpto bufs o bufs.length
theorem rheldUpto_more (bufs : List Buf) (o : Int) (i : Nat) : rheldUpto bufs o (i + 1) = rheldUpto bufs o i ++ (if rhits bufs o i then [(i : Int)] else []) := by
  unfold rheldUpto
  rw [List.range_succ, List.filter_append, List.map_append]
  congr 1
  cases h : rhits bufs o i <;> simp [h]
theorem rheldUpto_length (bufs : List Buf) (o : Int) (i : Nat) : (rheldUpto bufs o i).length ≤ i := by
  unfold rheldUpto
  rw [List.length_map]
  exact Nat.le_trans (List.length_filter_le _ _) (by simp)
set_option maxHeartbeats 4000000 in
theorem rheld_spec {w : World} {bp : Nat} {bb : Home} {bufs : List Buf} (hp : PoolR 50 84 w bp bb bufs) (o : Int) (hlen : bufs.length ≤ 1000000) :
    Does Try.prog 21 [ptr bp, .int .i64 o] w (NewRow 3 1 (rheldOf bufs o).length (ints (rheldOf bufs o)) w) := by
  refine s21 rfl ?_
  refine row_in ?_
  refine row_in ?_
  refine ⟨rfl, _, rfl, ?_⟩
  refine (SH.nil w).newG fun bz w0 hL0 hg0 => ?_
  refine seq_in (row_in ?_)
  refine block_in ?_
  refine loop_rule (4 :: 5 :: 6 :: List.range' 8 30) rfl [6, 5] (fun (s : Nat × Value × List Atom) => [.int .i64 s.1, s.2.1])
    (fun s w' => s.1 ≤ bufs.length ∧ OwnRow 3 1 s.2.1 (rheldUpto bufs o s.1).length (ints (rheldUpto bufs o s.1)) s.2.2 ∧ SH w w' s.2.2) (fun s => bufs.length - s.1) (0, .slice (some ⟨bz, 0, none⟩) 0 0, []) rfl ⟨Nat.zero_le _, .none _, hL0.empty⟩ ?_
  rintro g ⟨i, v, A⟩ w1 ⟨hi, hv, hL⟩
  have hi : i ≤ bufs.length := hi
  have hv : OwnRow 3 1 v (rheldUpto bufs o i).length (ints (rheldUpto bufs o i)) A := hv
  have hL : SH w w1 A := hL
  have hp := hp.grows hL.grown
  refine if_in ?_
  refine ⟨_, hp.slice, ?_⟩
  by_cases hil : i < bufs.length
  rotate_left
  · refine ⟨false, decide_eq_false (by omega), ?_⟩
    refine exit_in ?_
    refine row_in ?_
    refine ret_in ?_
    have e : i = bufs.length := by omega
    subst e
    exact ⟨A, hv, hL⟩
  refine ⟨true, decide_eq_true (by omega), ?_⟩
  refine skip_in ?_
  obtain ⟨B, hB⟩ : ∃ B, bufs[i]? = some B := ⟨bufs[i], List.getElem?_eq_getElem (by omega)⟩
  have hh : rhits bufs o i = (decide (0 < o) && decide (B.own = o)) := by unfold rhits; rw [hB]
  have hmore := rheldUpto_more bufs o i
  have hsize := rheldUpto_length bufs o i
  refine block_then ?_
  refine seq_in (ops_in ?_)
  refine ⟨decide (0 < o), rfl, ?_⟩
  have no : rhits bufs o i = false → (∀ w', SH w w' A → ∃ s' : Nat × Value × List Atom, [Value.int .i64 ((i + 1 : Nat) : Int), v] = [Value.int .i64 s'.1, s'.2.1] ∧ (s'.1 ≤ bufs.length ∧ OwnRow 3 1 s'.2.1 (rheldUpto bufs o s'.1).length (ints (rheldUpto bufs o s'.1)) s'.2.2 ∧ SH w w' s'.2.2) ∧ bufs.length - s'.1 < bufs.length - i) := fun h w' hL => by
    rw [h] at hmore
    refine ⟨(i + 1, v, A), rfl, ⟨hil, ?_, hL⟩, by simp only []; omega⟩
    simp only []
    rw [hmore]
    simpa using hv
  cases ho : decide (0 < o)
  · refine cond_in ?_
    refine skip_in ?_
    refine ops_in ?_
    refine ⟨((i + 1 : Nat) : Int), (IntWalk.i64_in _ (by omega)).trans (by omega), ?_⟩
    exact no (by rw [hh, ho]; rfl) _ hL
  refine ⟨_, hp.slice, ?_⟩
  refine ⟨⟨by omega, by omega⟩, _, rfl, ?_⟩
  refine ⟨_, hp.own hB, ?_⟩
  refine ⟨decide (B.own = o), rfl, ?_⟩
  cases ho2 : decide (B.own = o)
  · refine cond_in ?_
    refine skip_in ?_
    refine ops_in ?_
    refine ⟨((i + 1 : Nat) : Int), (IntWalk.i64_in _ (by omega)).trans (by omega), ?_⟩
    exact no (by rw [hh, ho, ho2]; rfl) _ hL
  have hyes : rhits bufs o i = true := by rw [hh, ho, ho2]; rfl
  rw [hyes] at hmore
  refine cond_in ?_
  refine ops_in ?_
  refine ⟨rfl, _, rfl, ?_⟩
  refine hL.newK fun b8 w4 hL => ?_
  have hL : SH w w4 (Cl b8 3 [.int .i64 i] :: A) := hL
  refine app _ _ el40 rfl rfl rfl (A := A) (R := [Cl b8 3 [.int .i64 i]]) (m := 1) (news := [.int .i64 i]) (hL.perm ?_) hv ⟨rfl, _, _, rfl, fun h => (by cases h), ?_⟩ ?_ (by simp only [maxLen]; omega) (by omega) fun v' w5 A' hv' hL => ?_
  · exact (List.perm_append_singleton _ _).symm
  · intro ad e j u hu
    cases e
    rw [add_plain]
    match j, hu with
    | 0, hu => exact hL.ld hu
  · intro u hu
    simp only [List.mem_singleton] at hu
    subst hu
    rfl
  refine ops_in ?_
  refine ⟨((i + 1 : Nat) : Int), (IntWalk.i64_in _ (by omega)).trans (by omega), ?_⟩
  refine ⟨(i + 1, v', A'), rfl, ⟨hil, ?_, hL.sub (List.sublist_append_left _ _)⟩, by simp only []; omega⟩
  simp only []
  rw [hmore]
  simpa [ints] using hv'
end Go.Proofs.Ytjnjgmkkjglheaa
