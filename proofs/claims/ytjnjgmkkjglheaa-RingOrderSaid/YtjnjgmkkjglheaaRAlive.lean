/- The ring is one that answers: what the laws of rings ask first. -/
import Derived.Test.YtjnjgmkkjglheaaRGreat
namespace Go.Proofs.Ytjnjgmkkjglheaa
open Go Go.Den
attribute [local irreducible] wpC
theorem ring_unshared (rp p : Nat) (sb : Home) (G : Rg) : ∀ a ∈ RingS rp sb p G [], ∀ b, ¬ a.sh b := by
  intro a ha b hb
  simp only [List.mem_cons, List.not_mem_nil, or_false] at ha
  rcases ha with rfl | rfl <;> exact hb
theorem two_rings {w0 w : World} {R : List Atom} {rp p rp' p' : Nat} {sb sb' : Home} {G G' : Rg} (hL : SH w0 w (RingS rp sb p G (RingS rp' sb' p' G' R))) : SH w0 w (RingS rp' sb' p' G' (RingS rp sb p G R)) :=
  hL.perm (List.perm_append_comm_assoc (RingS rp sb p G []) (RingS rp' sb' p' G' []) R)
theorem turn3 {α : Type} (A B C R : List α) : (A ++ (B ++ (C ++ R))).Perm (C ++ (B ++ (A ++ R))) :=
  ((List.perm_append_comm_assoc A B (C ++ R)).trans (List.Perm.append_left B (List.perm_append_comm_assoc A C R))).trans (List.perm_append_comm_assoc B C (A ++ R))
set_option maxHeartbeats 16000000 in
theorem alive2_spec (w : World) : Does Try.prog 30 [] w fun v w' => v = .bool true ∧ Grows w w' := by
  refine s30 rfl ?_
  refine row_in ?_
  refine row_in ?_
  refine (new_spec 2 w).mono ?_
  rintro _ w1 ⟨_, hn⟩
  obtain ⟨p, h, _, rfl, hL⟩ := hn (by decide)
  have hL : SH w w1 (PoolS 82 87 p h [noBuf, noBuf] []) := hL
  refine if_in ?_
  refine ⟨false, rfl, ?_⟩
  refine skip_in ?_
  refine reframe [1] [ptr p] rfl fun g => ?_
  refine row_in ?_
  refine (ringnew_spec p 1 5 w1).mono ?_
  rintro _ w2 ⟨_, hn⟩
  obtain ⟨rp, sb, rfl, hR⟩ := hn (by decide) (by decide) (by decide)
  have hL : SH w w2 (RingS rp sb p ⟨5, [0], 0, 0, 0⟩ (PoolS 82 87 p h [noBuf, noBuf] [])) := hL.join hR (ring_unshared _ _ _ _)
  clear hR
  refine row_in ?_
  refine (ringnew_spec p 0 5 w2).mono ?_
  rintro _ w2 ⟨hn, _⟩
  obtain ⟨rfl, rfl⟩ := hn (.inl (by decide))
  refine if_in ?_
  refine ⟨false, rfl, ?_⟩
  refine ⟨false, rfl, ?_⟩
  refine ⟨false, rfl, ?_⟩
  refine skip_in ?_
  refine reframe [1, 3] [ptr p, ptr rp] rfl fun g => ?_
  refine row_in ?_
  refine ⟨rfl, _, rfl, ?_⟩
  refine hL.newK fun b47 w3 hL => ?_
  have hL : SH w w3 (Cl b47 5 (vals [9]) :: RingS rp sb p ⟨5, [0], 0, 0, 0⟩ (PoolS 82 87 p h [noBuf, noBuf] [])) := hL
  have hx : Reads w3 1 (.slice (some ⟨b47, 0, none⟩) 1 1) 1 (vals [9]) := hL.readsRow 1 1 rfl
  have hL := hL.tail
  refine (put_spec (bs := [9]) hL ⟨by decide, by decide, by decide, by decide⟩ hx (by decide)).mono ?_
  rintro _ w4 ⟨rfl, s, hL⟩
  have hL : SH w w4 (RingS rp sb p ⟨5, [0], 0, 1, 0⟩ (PoolS 82 87 p h [⟨5, s, [9]⟩, noBuf] [])) := hL
  clear hx
  refine reframe [1, 3, 7] [ptr p, ptr rp, .int .i64 0] rfl fun g => ?_
  refine row_in ?_
  refine ⟨rfl, _, rfl, ?_⟩
  refine hL.newK fun b50 w5 hL => ?_
  have hL : SH w w5 (Cl b50 5 (vals [8]) :: RingS rp sb p ⟨5, [0], 0, 1, 0⟩ (PoolS 82 87 p h [⟨5, s, [9]⟩, noBuf] [])) := hL
  have hx : Reads w5 1 (.slice (some ⟨b50, 0, none⟩) 1 1) 1 (vals [8]) := hL.readsRow 1 1 rfl
  have hL := hL.tail
  refine (put_spec (bs := [8]) hL ⟨by decide, by decide, by decide, by decide⟩ hx (by simp)).mono ?_
  rintro _ w6 ⟨rfl, s', hL⟩
  have hL : SH w w6 (RingS rp sb p ⟨5, [0], 0, 1, 1⟩ (PoolS 82 87 p h [⟨5, s, [9]⟩, noBuf] [])) := hL
  clear hx
  refine reframe [1, 3, 7, 8] [ptr p, ptr rp, .int .i64 0, .int .i64 18] rfl fun g => ?_
  refine row_in ?_
  refine (left_spec (ring_pool hL).poolR (by simp)).mono ?_
  rintro _ w7 ⟨rfl, hg7⟩
  have hL := hL.grows hg7
  refine row_in ?_
  refine (clone_spec (ring_pool hL) (by simp) (by simp)).mono ?_
  rintro _ w8 ⟨p', h', rfl, hL⟩
  have hL : SH w w8 (RingS rp sb p ⟨5, [0], 0, 1, 1⟩ (PoolS 82 87 p h [⟨5, s, [9]⟩, noBuf] (PoolS 82 87 p' h' [⟨5, s, [9]⟩, noBuf] []))) := hL.perm (turn3 (PoolS 82 87 p' h' [⟨5, s, [9]⟩, noBuf] []) (PoolS 82 87 p h [⟨5, s, [9]⟩, noBuf] []) (RingS rp sb p ⟨5, [0], 0, 1, 1⟩ []) [])
  refine reframe [1, 3, 7, 8, 9, 10] [ptr p, ptr rp, .int .i64 0, .int .i64 18, .int .i64 1, ptr p'] rfl fun g => ?_
  refine row_in ?_
  refine (ringclone_spec hL ⟨by decide, by decide, by decide, by decide⟩ p').mono ?_
  rintro _ w9 ⟨rp', sb', rfl, hN⟩
  have hL := hL.join hN (ring_unshared _ _ _ _)
  have hL : SH w w9 (RingS rp sb p ⟨5, [0], 0, 1, 1⟩ (PoolS 82 87 p h [⟨5, s, [9]⟩, noBuf] (RingS rp' sb' p' ⟨5, [0], 0, 1, 1⟩ (PoolS 82 87 p' h' [⟨5, s, [9]⟩, noBuf] [])))) := hL.perm (pins_out (RingS rp' sb' p' ⟨5, [0], 0, 1, 1⟩ []) _)
  clear hN
  refine row_in ?_
  refine (ringtake_spec hL ⟨by decide, by decide, by decide, by decide⟩ (by simp [noBuf])).mono ?_
  rintro _ w10 ⟨x, A, rfl, hx, hL⟩
  have hx : OwnRow 5 1 x 1 (vals [9]) A := hx
  have hL : SH w w10 (RingS rp sb p ⟨5, [0], 0, 0, 1⟩ (PoolS 82 87 p h [noBuf, noBuf] (A ++ RingS rp' sb' p' ⟨5, [0], 0, 1, 1⟩ (PoolS 82 87 p' h' [⟨5, s, [9]⟩, noBuf] [])))) := hL
  refine reframe [1, 3, 7, 8, 9, 10, 11, 12, 13] [ptr p, ptr rp, .int .i64 0, .int .i64 18, .int .i64 1, ptr p', ptr rp', x, .bool true] rfl fun g => ?_
  refine row_in ?_
  refine (ringtake_spec hL ⟨by decide, by decide, by decide, by decide⟩ (by simp [noBuf])).mono ?_
  rintro _ w11 ⟨y, A2, rfl, hy, hL⟩
  have hL : SH w w11 (RingS rp sb p ⟨5, [0], 0, 0, 1⟩ (PoolS 82 87 p h [noBuf, noBuf] (A2 ++ (A ++ RingS rp' sb' p' ⟨5, [0], 0, 1, 1⟩ (PoolS 82 87 p' h' [⟨5, s, [9]⟩, noBuf] []))))) := hL
  have hL : SH w w11 (RingS rp sb p ⟨5, [0], 0, 0, 1⟩ (PoolS 82 87 p h [noBuf, noBuf] (A ++ RingS rp' sb' p' ⟨5, [0], 0, 1, 1⟩ (PoolS 82 87 p' h' [⟨5, s, [9]⟩, noBuf] [])))) := hL.sub (.cons_cons _ (.cons_cons _ (.cons_cons _ (.cons_cons _ (.cons_cons _ (List.sublist_append_right A2 _))))))
  refine reframe [1, 3, 7, 8, 9, 10, 11, 12, 13, 15] [ptr p, ptr rp, .int .i64 0, .int .i64 18, .int .i64 1, ptr p', ptr rp', x, .bool true, .bool false] rfl fun g => ?_
  refine row_in ?_
  refine ⟨rfl, _, rfl, ?_⟩
  refine hL.newK fun b71 w12 hL => ?_
  have hL : SH w w12 (Cl b71 5 (vals [3]) :: RingS rp sb p ⟨5, [0], 0, 0, 1⟩ (PoolS 82 87 p h [noBuf, noBuf] (A ++ RingS rp' sb' p' ⟨5, [0], 0, 1, 1⟩ (PoolS 82 87 p' h' [⟨5, s, [9]⟩, noBuf] [])))) := hL
  have hz : Reads w12 1 (.slice (some ⟨b71, 0, none⟩) 1 1) 1 (vals [3]) := hL.readsRow 1 1 rfl
  have hL := ring_pool hL.tail
  refine (take_spec (bs := [3]) hL 7 hz (by simp)).mono ?_
  rintro _ w13 ⟨s2, rfl, hL⟩
  have hL : SH w w13 (RingS rp sb p ⟨5, [0], 0, 0, 1⟩ (PoolS 82 87 p h [⟨7, s2, [3]⟩, noBuf] (A ++ RingS rp' sb' p' ⟨5, [0], 0, 1, 1⟩ (PoolS 82 87 p' h' [⟨5, s, [9]⟩, noBuf] [])))) := pool_ring hL
  clear hz
  refine reframe [1, 3, 7, 8, 9, 10, 11, 12, 13, 15, 16] [ptr p, ptr rp, .int .i64 0, .int .i64 18, .int .i64 1, ptr p', ptr rp', x, .bool true, .bool false, .int .i64 0] rfl fun g => ?_
  refine row_in ?_
  refine (move_spec hL ⟨by decide, by decide, by decide, by decide⟩).mono ?_
  rintro _ w14 ⟨rfl, hL⟩
  have hL : SH w w14 (RingS rp sb p ⟨5, [0], 0, 0, 2⟩ (PoolS 82 87 p h [⟨7, s2, [3]⟩, noBuf] (A ++ RingS rp' sb' p' ⟨5, [0], 0, 1, 1⟩ (PoolS 82 87 p' h' [⟨5, s, [9]⟩, noBuf] [])))) := hL
  refine reframe [1, 3, 7, 8, 9, 10, 11, 12, 13, 15, 16, 18] [ptr p, ptr rp, .int .i64 0, .int .i64 18, .int .i64 1, ptr p', ptr rp', x, .bool true, .bool false, .int .i64 0, .int .i64 19] rfl fun g => ?_
  refine row_in ?_
  refine (move_spec hL ⟨by decide, by decide, by decide, by decide⟩).mono ?_
  rintro _ w15 ⟨rfl, hL⟩
  have hL : SH w w15 (RingS rp sb p ⟨5, [0], 0, 1, 2⟩ (PoolS 82 87 p h [⟨5, s2, [3]⟩, noBuf] (A ++ RingS rp' sb' p' ⟨5, [0], 0, 1, 1⟩ (PoolS 82 87 p' h' [⟨5, s, [9]⟩, noBuf] [])))) := hL
  have hx : Reads w15 1 x 1 (vals [9]) := hx.reads fun a ha => hL.holds a (by simp [ha])
  have hL : SH w w15 (RingS rp sb p ⟨5, [0], 0, 1, 2⟩ (PoolS 82 87 p h [⟨5, s2, [3]⟩, noBuf] (RingS rp' sb' p' ⟨5, [0], 0, 1, 1⟩ (PoolS 82 87 p' h' [⟨5, s, [9]⟩, noBuf] [])))) := hL.sub (.cons_cons _ (.cons_cons _ (.cons_cons _ (.cons_cons _ (.cons_cons _ (List.sublist_append_right A _))))))
  refine reframe [1, 3, 7, 8, 9, 10, 11, 12, 13, 15, 16, 18, 19] [ptr p, ptr rp, .int .i64 0, .int .i64 18, .int .i64 1, ptr p', ptr rp', x, .bool true, .bool false, .int .i64 0, .int .i64 19, .int .i64 0] rfl fun g => ?_
  refine row_in ?_
  refine ⟨true, rfl, ?_⟩
  refine ⟨true, rfl, ?_⟩
  refine ⟨true, rfl, ?_⟩
  refine ⟨true, rfl, ?_⟩
  refine ⟨true, rfl, ?_⟩
  refine ⟨rfl, _, rfl, ?_⟩
  refine hL.newG fun b w16 hL hg16 => ?_
  have hL : SH w w16 (Cl b 5 (vals [9]) :: RingS rp sb p ⟨5, [0], 0, 1, 2⟩ (PoolS 82 87 p h [⟨5, s2, [3]⟩, noBuf] (RingS rp' sb' p' ⟨5, [0], 0, 1, 1⟩ (PoolS 82 87 p' h' [⟨5, s, [9]⟩, noBuf] [])))) := hL
  have hz : Reads w16 1 (.slice (some ⟨b, 0, none⟩) 1 1) 1 (vals [9]) := hL.readsRow 1 1 rfl
  refine (samebytes_spec (a := [9]) (b := [9]) (hx.grows hg16) hz (by decide)).mono ?_
  rintro _ w17 ⟨rfl, hg17⟩
  have hL := (hL.tail).grows hg17
  refine ⟨true, rfl, ?_⟩
  refine ⟨true, rfl, ?_⟩
  refine ⟨true, rfl, ?_⟩
  refine reframeL [1, 3, 10, 11, 16, 115, 117] [ptr p, ptr rp, ptr p', ptr rp', .int .i64 0, .bool true, .bool true] rfl fun g => ?_
  refine (len_spec hL).mono ?_
  rintro _ w18 ⟨rfl, rfl⟩
  refine ⟨true, rfl, ?_⟩
  refine (dropped_spec hL).mono ?_
  rintro _ w18 ⟨rfl, rfl⟩
  refine ⟨true, rfl, ?_⟩
  refine (size_spec hL).mono ?_
  rintro _ w18 ⟨rfl, rfl⟩
  refine ⟨true, rfl, ?_⟩
  refine (owner_spec (ring_pool hL).poolR 0).mono ?_
  rintro _ w18 ⟨rfl, rfl⟩
  refine ⟨true, rfl, ?_⟩
  refine reframeL [10, 11, 134, 138] [ptr p', ptr rp', .bool true, .bool true] rfl fun g => ?_
  have hL := hL.tail.tail.tail.tail.tail
  refine (len_spec hL).mono ?_
  rintro _ w18 ⟨rfl, rfl⟩
  refine ⟨true, rfl, ?_⟩
  refine (dropped_spec hL).mono ?_
  rintro _ w18 ⟨rfl, rfl⟩
  refine ⟨true, rfl, ?_⟩
  refine (all_spec hL ⟨by decide, by decide, by decide, by decide⟩ (by simp [noBuf])).mono ?_
  rintro v w19 ⟨hg19, _, vs, ⟨_, va, vc, rfl, _⟩, _⟩
  have hL := hL.grows hg19
  refine ⟨true, rfl, ?_⟩
  refine (left_spec (ring_pool hL).poolR (by simp)).mono ?_
  rintro _ w20 ⟨rfl, hg20⟩
  have hL := hL.grows hg20
  refine ⟨true, rfl, ?_⟩
  refine ret_in ?_
  exact ⟨rfl, hL.grown⟩
end Go.Proofs.Ytjnjgmkkjglheaa
