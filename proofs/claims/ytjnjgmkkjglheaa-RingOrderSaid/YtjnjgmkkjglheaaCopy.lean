/- Copies of pools: new buffers, the same bytes. -/
import Derived.Test.YtjnjgmkkjglheaaRefTake
namespace Go.Den
open Go Go.RowKit
theorem PoolR.rowReads {T bT : TypeId} {w : World} {bp : Nat} {bb : Home} {bufs : List Buf} (h : PoolR T bT w bp bb bufs) : Reads w 2 (.slice (some ⟨bb.b, 0, none⟩) bufs.length bb.c) bufs.length (flat bufs) := by
  refine ⟨flat_length bufs, _, _, rfl, fun h => (by cases h), fun ad e j u hu => ?_⟩
  cases e
  rw [add_plain, cell_of h.row, Nat.zero_add]
  exact flat_sp bb.sp hu
theorem flat_one {bufs : List Buf} (h : ∀ B ∈ bufs, ∃ a n c, B.sl = .slice a n c) : ∀ u ∈ flat bufs, u.oneCell' = true := by
  intro u hu
  obtain ⟨B, hB, hu⟩ := List.mem_flatMap.1 hu
  obtain ⟨a, n, c, hs⟩ := h B hB
  simp only [List.mem_cons, List.not_mem_nil, or_false] at hu
  rcases hu with rfl | rfl
  · rfl
  · rw [hs]; rfl
theorem PoolR.slices {T bT : TypeId} {w : World} {bp : Nat} {bb : Home} {bufs : List Buf} (h : PoolR T bT w bp bb bufs) : ∀ B ∈ bufs, ∃ a n c, B.sl = .slice a n c := fun B hB => by
  obtain ⟨_, a, c, hs, _⟩ := h.bytes B hB
  exact ⟨a, _, c, hs⟩
/-- A row of buffers that was appended whole: its block holds just these. -/
theorem OwnRow.flatBlock {e : TypeId} {v : Value} {n : Nat} {xs : List Value} {A : List Atom} (h : OwnRow e 2 v n xs A) (hn : 0 < n) : ∃ g cs cap, v = .slice (some ⟨g, 0, Option.none⟩) n cap ∧ A = [Cl g e cs] ∧ xs = cs.take (n * 2) ∧ cs.length = cap * 2 ∧ n ≤ cap := by
  cases h with
  | none b => omega
  | «at» g cs n cap hl hn hm => exact ⟨g, cs, cap, rfl, rfl, rfl, hl, hn⟩
/-- A copied row of buffers, as a pool's home. -/
theorem OwnRow.home {e : TypeId} {v : Value} {bufs : List Buf} {A : List Atom} (h : OwnRow e 2 v bufs.length (flat bufs) A) (hn : 0 < bufs.length) : ∃ bb : Home, v = .slice (some ⟨bb.b, 0, Option.none⟩) bufs.length bb.c ∧ A = [Cl bb.b e (flat bufs ++ bb.sp)] := by
  obtain ⟨g, cs, cap, hv, hA, hx, hl, hc⟩ := h.flatBlock hn
  refine ⟨⟨g, cap, cs.drop (bufs.length * 2)⟩, hv, ?_⟩
  rw [hA]
  simp only []
  rw [hx, List.take_append_drop]
/-- A second pool over the same bytes. -/
theorem SH.copied {w0 w : World} {R : List Atom} {T bT : TypeId} {bp bp' : Nat} {bb bb' : Home} {bufs : List Buf} (h : SH w0 w (Cl bp' T [.slice (some ⟨bb'.b, 0, none⟩) bufs.length bb'.c] :: Cl bb'.b bT (flat bufs ++ bb'.sp) :: PoolS T bT bp bb bufs R)) :
    SH w0 w (PoolS T bT bp' bb' bufs (PoolS T bT bp bb bufs R)) := by
  have hd := h.dup (Shr 1 (shr bufs)) (by simp) (fun b hb => hb.elim)
  exact hd.perm (List.Perm.trans (List.Perm.swap _ _ _) (List.Perm.cons _ (List.Perm.swap _ _ _)))
end Go.Den
namespace Go.Proofs.Ytjnjgmkkjglheaa
open Go Go.Den
attribute [local irreducible] wpC
theorem clone80_spec {w : World} {bp : Nat} {bb : Home} {bufs : List Buf} (hp : PoolR 82 87 w bp bb bufs) (hlen : bufs.length ≤ 1000000) :
    Does Try.prog 50 [.slice (some ⟨bb.b, 0, none⟩) bufs.length bb.c] w (NewRow 87 2 bufs.length (flat bufs) w) := by
  refine s50 rfl ?_
  refine row_in ?_
  refine if_in ?_
  refine ⟨_, rfl, ?_⟩
  refine skip_in ?_
  refine row_in ?_
  refine ⟨rfl, _, rfl, ?_⟩
  refine (SH.nil w).newG fun b w1 hL hg => ?_
  refine app0 _ _ el80 rfl rfl rfl hL.empty (hp.grows hg).rowReads (flat_one hp.slices) (by simp only [maxLen]; omega) (by omega) fun a c w2 A hv hL => ?_
  refine ret_in ?_
  exact ⟨A, hv, by simpa using hL⟩
theorem clone_spec {w0 w : World} {R : List Atom} {bp : Nat} {bb : Home} {bufs : List Buf} (hL : SH w0 w (PoolS 82 87 bp bb bufs R)) (hlen : bufs.length ≤ 1000000) (hpos : 0 < bufs.length) :
    Does Try.prog 17 [ptr bp] w fun v w' => ∃ (bp' : Nat) (bb' : Home), v = ptr bp' ∧ SH w0 w' (PoolS 82 87 bp' bb' bufs (PoolS 82 87 bp bb bufs R)) := by
  refine s17 rfl ?_
  refine row_in ?_
  refine row_in ?_
  refine ⟨_, hL.poolR.slice, ?_⟩
  refine (clone80_spec hL.poolR hlen).mono ?_
  rintro v w1 ⟨A, hv, hA⟩
  have hL := hL.join hA hv.unshared
  obtain ⟨bb', rfl, rfl⟩ := hv.home hpos
  refine ⟨rfl, _, rfl, ?_⟩
  refine hL.boxK [_] fun bp' w2 hL => ?_
  refine ret_in ?_
  exact ⟨bp', bb', rfl, hL.copied⟩
theorem copy_spec {w0 w : World} {R : List Atom} {bp : Nat} {bb : Home} {bufs : List Buf} (hL : SH w0 w (PoolS 50 84 bp bb bufs R)) (hlen : bufs.length ≤ 1000000) (hpos : 0 < bufs.length) :
    Does Try.prog 18 [ptr bp] w fun v w' => ∃ (bp' : Nat) (bb' : Home), v = ptr bp' ∧ SH w0 w' (PoolS 50 84 bp' bb' bufs (PoolS 50 84 bp bb bufs R)) := by
  refine s18 rfl ?_
  refine row_in ?_
  refine row_in ?_
  refine ⟨rfl, _, rfl, ?_⟩
  refine hL.newG fun b w1 hL hg => ?_
  have hL := hL.tail
  refine ⟨_, hL.poolR.slice, ?_⟩
  refine app0 _ _ el48 rfl rfl rfl hL hL.poolR.rowReads (flat_one hL.poolR.slices) (by simp only [maxLen]; omega) (by omega) fun a c w2 A hv hL => ?_
  obtain ⟨bb', hvv, rfl⟩ := hv.home hpos
  cases hvv
  refine ⟨rfl, _, rfl, ?_⟩
  refine hL.boxK [_] fun bp' w3 hL => ?_
  refine ret_in ?_
  exact ⟨bp', bb', rfl, hL.copied⟩
end Go.Proofs.Ytjnjgmkkjglheaa
