/- The document's answer for pools: its functions, over the same picture of memory. -/
import Derived.Test.YtjnjgmkkjglheaaPoolWrite
namespace Go.Proofs.Ytjnjgmkkjglheaa
open Go Go.Den
attribute [local irreducible] wpC
/-- Who owns what, as it is read: of a pool, and of one that has no rows. -/
structure Own2 (w : World) (bp : Nat) (ab : Option Addr) (bufs : List Buf) : Prop where
  hdr : ∃ c, w.cell? ((⟨bp, 0, none⟩ : Addr).add 0) = some (.slice ab bufs.length c)
  own : ∀ (i : Nat) (B : Buf), bufs[i]? = some B → ∃ a, ab = some a ∧ w.cell? ((a.add (i * 2)).add 0) = some (.int .i64 B.own)
theorem _root_.Go.Den.PoolR.own2 {T bT : TypeId} {w : World} {bp : Nat} {bb : Home} {bufs : List Buf} (h : PoolR T bT w bp bb bufs) : Own2 w bp (some ⟨bb.b, 0, none⟩) bufs   := ⟨⟨_, h.slice⟩, fun _ _ hB => ⟨_, rfl, h.own hB⟩⟩
theorem own2_empty {w : World} {bp : Nat} {T : TypeId} (h : w.heap[bp]? = some (.cells [Value.slice none 0 0].toArray T (0, 0))) : Own2 w bp none [] :=
  ⟨⟨0, by rw [add_plain]; exact cell_of h 0⟩, fun _ _ hB => by simp at hB⟩
theorem owns_no1 {o : Int} (h : o < 1) : owns o = false := by unfold owns; rw [decide_eq_false (show ¬ 0 < o by omega)]; rfl
theorem owns_no2 {o : Int} (h : 255 < o) : owns o = false := by unfold owns; rw [decide_eq_false (show ¬ o ≤ 255 by omega)]; simp
theorem owns_yes {o : Int} (h : ¬ o < 1) (h2 : ¬ 255 < o) : owns o = true := by unfold owns; rw [decide_eq_true (show 0 < o by omega), decide_eq_true (show o ≤ 255 by omega)]; rfl
theorem errOf_range {bufs : List Buf} {k o : Int} (h : owns o = false) : errOf bufs k o = 11 := by unfold errOf; rw [h]; rfl
theorem check_spec {w : World} {bp : Nat} {ab : Option Addr} {bufs : List Buf} (hp : Own2 w bp ab bufs) (k o : Int) : Does Try.prog 65 [ptr bp, .int .i64 k, .int .i64 o] w fun v w' => v = .int .i64 (errOf bufs k o) ∧ w' = w := by
  obtain ⟨cc, hd⟩ := hp.hdr
  refine s65 rfl ?_
  refine row_in ?_
  refine if_in ?_
  by_cases h1 : o < 1
  · refine ⟨true, decide_eq_true h1, ?_⟩
    refine row_in ?_
    refine ret_in ?_
    exact ⟨(rfl : _ = Value.int .i64 11).trans (by rw [errOf_range (owns_no1 h1)]), rfl⟩
  refine ⟨false, decide_eq_false h1, ?_⟩
  by_cases h2 : 255 < o
  · refine ⟨true, decide_eq_true h2, ?_⟩
    refine row_in ?_
    refine ret_in ?_
    exact ⟨(rfl : _ = Value.int .i64 11).trans (by rw [errOf_range (owns_no2 h2)]), rfl⟩
  refine ⟨false, decide_eq_false h2, ?_⟩
  have ho := owns_yes h1 h2
  refine skip_in ?_
  refine if_in ?_
  by_cases h0 : k < 0
  · refine ⟨true, decide_eq_true h0, ?_⟩
    refine row_in ?_
    refine ret_in ?_
    exact ⟨(rfl : _ = Value.int .i64 17).trans (by unfold errOf; rw [ho, if_pos rfl, if_pos (.inl h0)]), rfl⟩
  refine ⟨false, decide_eq_false h0, ?_⟩
  refine ⟨_, hd, ?_⟩
  by_cases h3 : (bufs.length : Int) ≤ k
  · refine ⟨true, decide_eq_true h3, ?_⟩
    refine row_in ?_
    refine ret_in ?_
    exact ⟨(rfl : _ = Value.int .i64 17).trans (by unfold errOf; rw [ho, if_pos rfl, if_pos (.inr h3)]), rfl⟩
  refine ⟨false, decide_eq_false h3, ?_⟩
  refine skip_in ?_
  obtain ⟨i, rfl⟩ : ∃ i : Nat, k = i := ⟨k.toNat, by omega⟩
  obtain ⟨B, hB⟩ : ∃ B, bufs[i]? = some B := ⟨bufs[i], List.getElem?_eq_getElem (by omega)⟩
  obtain ⟨a, rfl, hown⟩ := hp.own i B hB
  refine if_in ?_
  refine ⟨_, hd, ?_⟩
  refine ⟨⟨by omega, by omega⟩, _, rfl, ?_⟩
  refine ⟨_, hown, ?_⟩
  by_cases he : B.own = o
  · refine ⟨false, decide_eq_false (fun h => h he), ?_⟩
    refine skip_in ?_
    refine row_in ?_
    refine ret_in ?_
    exact ⟨(rfl : _ = Value.int .i64 0).trans (by unfold errOf; rw [ho, if_pos rfl, if_neg (by omega), ownerOf_at hB, if_pos he]), rfl⟩
  · refine ⟨true, decide_eq_true he, ?_⟩
    refine row_in ?_
    refine ret_in ?_
    exact ⟨(rfl : _ = Value.int .i64 19).trans (by unfold errOf; rw [ho, if_pos rfl, if_neg (by omega), ownerOf_at hB, if_neg he]), rfl⟩
theorem handE_zero {bufs : List Buf} {k a b : Int} (h : handE bufs k a b = 0) : errOf bufs k a = 0 ∧ owns b = true := by
  unfold handE at h
  cases ho : owns b
  · rw [ho] at h; exact absurd h (by simp)
  · rw [ho, if_pos rfl] at h; exact ⟨h, rfl⟩
theorem pool_own {w0 w : World} {R : List Atom} {T bT : TypeId} {bp i : Nat} {bb : Home} {bufs : List Buf} {B : Buf} {b : Int} (hB : bufs[i]? = some B)
    (hL : SH w0 w (Cl bb.b bT (put1 (flat bufs ++ bb.sp) (i * 2) [.int .i64 b]) :: Cl bp T [.slice (some ⟨bb.b, 0, none⟩) bufs.length bb.c] :: Shr 1 (shr bufs) :: R)) : SH w0 w (PoolS T bT bp bb (bufs.set i (withOwn b B)) R) := by
  have hf := flat_own' bb.sp b hB
  rw [hf] at hL
  have hS : SH w0 w (Cl bb.b bT (flat (bufs.set i (withOwn b B)) ++ bb.sp) :: Cl bp T [.slice (some ⟨bb.b, 0, none⟩) bufs.length bb.c] :: Shr 1 (shr bufs) :: R) := hL
  have hS := hS.perm (List.Perm.swap _ _ _)
  rw [← shr_own b hB] at hS
  simpa [PoolS] using hS
theorem pool_gone {w0 w : World} {R : List Atom} {T bT : TypeId} {bp i : Nat} {bb : Home} {bufs : List Buf} (hi : i < bufs.length)
    (hL : SH w0 w (Cl bb.b bT (put1 (flat bufs ++ bb.sp) (i * 2) [.int .i64 0, .slice none 0 0]) :: Cl bp T [.slice (some ⟨bb.b, 0, none⟩) bufs.length bb.c] :: Shr 1 (shr bufs) :: R)) : SH w0 w (PoolS T bT bp bb (bufs.set i noBuf) R) :=
  pool_lay (A := []) (e := 0) (bs := []) (.none none) hi hL
theorem rhand_spec {w0 w : World} {R : List Atom} {bp : Nat} {bb : Home} {bufs : List Buf} (hL : SH w0 w (PoolS 50 84 bp bb bufs R)) (k a b : Int) :
    Does Try.prog 48 [ptr bp, .int .i64 k, .int .i64 a, .int .i64 b] w fun v w' => v = .int .i64 (handE bufs k a b) ∧ SH w0 w' (PoolS 50 84 bp bb (handB bufs k a b) R) := by
  have hno : owns b = false → ∀ w', SH w0 w' (PoolS 50 84 bp bb bufs R) → (Value.int .i64 11 = .int .i64 (handE bufs k a b)) ∧ SH w0 w' (PoolS 50 84 bp bb (handB bufs k a b) R) := fun ho w' hL => by
    have hE : handE bufs k a b = 11 := by unfold handE; rw [ho]; rfl
    unfold handB
    rw [hE, if_neg (by decide)]
    exact ⟨rfl, hL⟩
  refine s48 rfl ?_
  refine row_in ?_
  refine if_in ?_
  by_cases h1 : b < 1
  · refine ⟨true, decide_eq_true h1, ?_⟩
    refine row_in ?_
    refine ret_in ?_
    exact hno (owns_no1 h1) _ hL
  refine ⟨false, decide_eq_false h1, ?_⟩
  by_cases h2 : 255 < b
  · refine ⟨true, decide_eq_true h2, ?_⟩
    refine row_in ?_
    refine ret_in ?_
    exact hno (owns_no2 h2) _ hL
  refine ⟨false, decide_eq_false h2, ?_⟩
  have ho := owns_yes h1 h2
  refine skip_in ?_
  refine row_in ?_
  refine (check_spec hL.poolR.own2 k a).mono ?_
  rintro _ _ ⟨rfl, rfl⟩
  have hE : handE bufs k a b = errOf bufs k a := by unfold handE; rw [ho]; rfl
  unfold handB
  rw [hE]
  refine seq_in (seq_in (ops_in ?_))
  by_cases he : errOf bufs k a = 0
  · rw [if_pos he]
    obtain ⟨_, i, B, rfl, hB, hBo⟩ := errOf_zero he
    have hi : i < bufs.length := (List.getElem?_eq_some_iff.1 hB).1
    refine ⟨true, decide_eq_true he, ?_⟩
    refine cond_in ?_
    refine ops_in ?_
    refine ⟨_, hL.poolR.slice, ?_⟩
    refine ⟨⟨by omega, by omega⟩, (⟨bb.b, 0 + i * 2, none⟩ : Addr), add_plain _ _ _, ?_⟩
    obtain ⟨w2, hs, hL2⟩ := SH.st (w0 := w0) (L := PoolS 50 84 bp bb bufs R) hL (b := bb.b) (o := 0 + i * 2 + 0) [.int .i64 b] (Nat.ble_eq_true_of_le (by rw [List.length_append, flat_length]; simp; omega)) rfl
    rw [← add_plain] at hs
    refine ⟨rfl, w2, hs, ?_⟩
    refine row_in ?_
    refine ret_in ?_
    rw [Int.toNat_natCast, modify_at _ hB]
    rw [show (0 + i * 2 + 0) = i * 2 by omega] at hL2
    exact ⟨rfl, pool_own hB hL2⟩
  · rw [if_neg he]
    refine ⟨false, decide_eq_false he, ?_⟩
    refine cond_in ?_
    refine skip_in ?_
    refine row_in ?_
    refine ret_in ?_
    exact ⟨rfl, hL⟩
theorem rfree_spec {w0 w : World} {R : List Atom} {bp : Nat} {bb : Home} {bufs : List Buf} (hL : SH w0 w (PoolS 50 84 bp bb bufs R)) (k o : Int) :
    Does Try.prog 49 [ptr bp, .int .i64 k, .int .i64 o] w fun v w' => v = .int .i64 (errOf bufs k o) ∧ SH w0 w' (PoolS 50 84 bp bb (freeB bufs k o) R) := by
  refine s49 rfl ?_
  refine row_in ?_
  refine row_in ?_
  refine (check_spec hL.poolR.own2 k o).mono ?_
  rintro _ _ ⟨rfl, rfl⟩
  unfold freeB
  refine seq_in (seq_in (ops_in ?_))
  by_cases he : errOf bufs k o = 0
  · rw [if_pos he]
    obtain ⟨_, i, B, rfl, hB, hBo⟩ := errOf_zero he
    have hi : i < bufs.length := (List.getElem?_eq_some_iff.1 hB).1
    refine ⟨true, decide_eq_true he, ?_⟩
    refine cond_in ?_
    refine ops_in ?_
    refine ⟨_, hL.poolR.slice, ?_⟩
    refine ⟨rfl, _, rfl, ?_⟩
    refine ⟨⟨by omega, by omega⟩, (⟨bb.b, 0 + i * 2, none⟩ : Addr), add_plain _ _ _, ?_⟩
    obtain ⟨w2, hs, hL2⟩ := SH.st (w0 := w0) (L := PoolS 50 84 bp bb bufs R) hL (b := bb.b) (o := 0 + i * 2) [.int .i64 0, .slice none 0 0] (Nat.ble_eq_true_of_le (by rw [List.length_append, flat_length]; simp; omega)) rfl
    refine ⟨rfl, w2, hs, ?_⟩
    refine row_in ?_
    refine ret_in ?_
    rw [Int.toNat_natCast, modify_at _ hB]
    rw [show (0 + i * 2) = i * 2 by omega] at hL2
    exact ⟨rfl, pool_gone hi hL2⟩
  · rw [if_neg he]
    refine ⟨false, decide_eq_false he, ?_⟩
    refine cond_in ?_
    refine skip_in ?_
    refine row_in ?_
    refine ret_in ?_
    exact ⟨rfl, hL⟩
end Go.Proofs.Ytjnjgmkkjglheaa
