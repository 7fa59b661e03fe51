/- The pool is one that answers: what the laws of pools ask first. -/
import Derived.Test.YtjnjgmkkjglheaaAgree
namespace Go.Den
open Go Go.RowKit
theorem SH.readsRow {w0 w : World} {L R : List Atom} (h : SH w0 w L) {b : Nat} {t : TypeId} {cs : List Value} [p : AtB L b t cs R] (n c : Nat) (hn : n = cs.length) : Reads w 1 (.slice (some ⟨b, 0, none⟩) n c) n cs := by
  refine ⟨by omega, _, _, rfl, fun h => (by cases h), fun ad e j u hu => ?_⟩
  cases e
  rw [add_plain, Nat.zero_add]
  exact h.ld hu
end Go.Den
namespace Go.Proofs.Ytjnjgmkkjglheaa
open Go Go.Den
attribute [local irreducible] wpC
set_option maxHeartbeats 8000000 in
theorem alive_spec (w : World) : Does Try.prog 11 [] w fun v w' => v = .bool true ∧ Grows w w' := by
  refine s11 rfl ?_
  refine row_in ?_
  refine row_in ?_
  refine (new_spec 2 w).mono ?_
  rintro _ w1 ⟨_, hn⟩
  obtain ⟨p, h, _, rfl, hL⟩ := hn (by decide)
  have hL : SH w w1 (PoolS 82 87 p h [noBuf, noBuf] []) := hL
  refine row_in ?_
  refine (new_spec 0 w1).mono ?_
  rintro _ _ ⟨hn, _⟩
  obtain ⟨rfl, rfl⟩ := hn (by decide)
  refine if_in ?_
  refine ⟨false, rfl, ?_⟩
  refine ⟨false, rfl, ?_⟩
  refine ⟨false, rfl, ?_⟩
  refine skip_in ?_
  refine reframe [1] [ptr p] rfl fun g => ?_
  refine row_in ?_
  refine ⟨rfl, _, rfl, ?_⟩
  refine hL.newK fun b41 w2 hL => ?_
  have hL : SH w w2 (Cl b41 5 (vals [9]) :: PoolS 82 87 p h [noBuf, noBuf] []) := hL
  have hx : Reads w2 1 (.slice (some ⟨b41, 0, none⟩) 1 1) 1 (vals [9]) := hL.readsRow 1 1 rfl
  have hL := pool_in (X := [_]) hL
  refine (take_spec (bs := [9]) hL 1 hx (by decide)).mono ?_
  rintro _ w3 ⟨s, rfl, hL⟩
  have hL : SH w w3 (PoolS 82 87 p h [⟨1, s, [9]⟩, noBuf] [Cl b41 5 (vals [9])]) := hL
  refine row_in ?_
  refine (take_spec (bs := []) hL 2 (reads_nil _ 1 none 0) (by simp)).mono ?_
  rintro _ w4 ⟨s2, rfl, hL⟩
  have hL : SH w w4 (PoolS 82 87 p h [⟨1, s, [9]⟩, ⟨2, s2, []⟩] [Cl b41 5 (vals [9])]) := hL
  refine row_in ?_
  refine (take_spec (bs := []) hL 2 (reads_nil _ 1 none 0) (by simp)).mono ?_
  rintro _ w5 ⟨s3, rfl, hL⟩
  have hL : SH w w5 (PoolS 82 87 p h [⟨1, s, [9]⟩, ⟨2, s2, []⟩] [Cl b41 5 (vals [9])]) := hL
  refine row_in ?_
  refine (hand_spec hL 0 1 3).mono ?_
  rintro _ w6 ⟨rfl, hL⟩
  have hL : SH w w6 (PoolS 82 87 p h [⟨3, s, [9]⟩, ⟨2, s2, []⟩] [Cl b41 5 (vals [9])]) := hL
  refine row_in ?_
  refine (hand_spec hL 0 1 3).mono ?_
  rintro _ w7 ⟨rfl, hL⟩
  have hL : SH w w7 (PoolS 82 87 p h [⟨3, s, [9]⟩, ⟨2, s2, []⟩] [Cl b41 5 (vals [9])]) := hL
  refine row_in ?_
  refine (clone_spec hL (by simp) (by simp)).mono ?_
  rintro _ w8 ⟨p', h', rfl, hL⟩
  have hL := pool_swap hL
  refine row_in ?_
  refine (free_spec hL 1 2).mono ?_
  rintro _ w9 ⟨rfl, hL⟩
  have hL : SH w w9 (PoolS 82 87 p h [⟨3, s, [9]⟩, noBuf] (PoolS 82 87 p' h' [⟨3, s, [9]⟩, ⟨2, s2, []⟩] [Cl b41 5 (vals [9])])) := hL
  refine row_in ?_
  refine (free_spec hL 2 2).mono ?_
  rintro _ w10 ⟨rfl, hL⟩
  have hL : SH w w10 (PoolS 82 87 p h [⟨3, s, [9]⟩, noBuf] (PoolS 82 87 p' h' [⟨3, s, [9]⟩, ⟨2, s2, []⟩] [Cl b41 5 (vals [9])])) := hL
  refine row_in ?_
  refine (free_spec hL 0 256).mono ?_
  rintro _ w11 ⟨rfl, hL⟩
  have hL : SH w w11 (PoolS 82 87 p h [⟨3, s, [9]⟩, noBuf] (PoolS 82 87 p' h' [⟨3, s, [9]⟩, ⟨2, s2, []⟩] [Cl b41 5 (vals [9])])) := hL
  refine row_in ?_
  refine (bytes_spec hL.poolR 0 (by simp [noBuf])).mono ?_
  rintro _ w12 ⟨x, A, rfl, hx, hA⟩
  have hx : Reads w12 1 x 1 (vals [9]) := hx.reads hA.holds
  have hL := hL.grows hA.grown
  refine row_in ?_
  refine (bytes_spec hL.poolR 1 (by simp [noBuf])).mono ?_
  rintro _ w13 ⟨y, A2, rfl, hy, hA2⟩
  have hx := hx.grows hA2.grown
  have hL := hL.grows hA2.grown
  refine reframe [1, 13, 5, 6, 7, 8, 10, 11, 12, 14, 15, 16, 17, 18, 20] [ptr p, ptr p', .int .i64 0, .int .i64 0, .int .i64 1, .int .i64 0, .int .i64 18, .int .i64 0, .int .i64 19, .int .i64 0, .int .i64 17, .int .i64 11, x, .bool true, .bool false] rfl fun g => ?_
  refine row_in ?_
  refine ⟨true, rfl, ?_⟩
  refine ⟨true, rfl, ?_⟩
  refine ⟨true, rfl, ?_⟩
  refine ⟨true, rfl, ?_⟩
  refine ⟨true, rfl, ?_⟩
  refine ⟨true, rfl, ?_⟩
  refine ⟨true, rfl, ?_⟩
  refine ⟨true, rfl, ?_⟩
  refine ⟨true, rfl, ?_⟩
  refine ⟨true, rfl, ?_⟩
  refine ⟨true, rfl, ?_⟩
  refine reframeL [1, 13, 17, 18, 20, 115, 117] [ptr p, ptr p', x, .bool true, .bool false, .bool true, .bool true] rfl fun g => ?_
  refine ⟨rfl, _, rfl, ?_⟩
  refine hL.newG fun b w14 hL hg14 => ?_
  have hL : SH w w14 (Cl b 5 (vals [9]) :: PoolS 82 87 p h [⟨3, s, [9]⟩, noBuf] (PoolS 82 87 p' h' [⟨3, s, [9]⟩, ⟨2, s2, []⟩] [Cl b41 5 (vals [9])])) := hL
  have hz : Reads w14 1 (.slice (some ⟨b, 0, none⟩) 1 1) 1 (vals [9]) := hL.readsRow 1 1 rfl
  refine (samebytes_spec (a := [9]) (b := [9]) (hx.grows hg14) hz (by decide)).mono ?_
  rintro _ w15 ⟨rfl, hg15⟩
  have hL := (hL.tail).grows hg15
  refine ⟨true, rfl, ?_⟩
  refine reframeL [1, 13, 127, 129] [ptr p, ptr p', .bool true, .bool true] rfl fun g => ?_
  refine (owner_spec hL.poolR 0).mono ?_
  rintro _ _ ⟨rfl, rfl⟩
  refine ⟨true, rfl, ?_⟩
  refine (owner_spec hL.poolR 1).mono ?_
  rintro _ _ ⟨rfl, rfl⟩
  refine ⟨true, rfl, ?_⟩
  refine (owner_spec hL.poolR 2).mono ?_
  rintro _ _ ⟨rfl, rfl⟩
  refine ⟨true, rfl, ?_⟩
  refine (left_spec hL.poolR (by simp)).mono ?_
  rintro _ w16 ⟨rfl, hg16⟩
  have hL := hL.grows hg16
  refine ⟨true, rfl, ?_⟩
  refine (many_spec hL.poolR).mono ?_
  rintro _ _ ⟨rfl, rfl⟩
  refine ⟨true, rfl, ?_⟩
  refine reframeL [1, 13, 151, 154] [ptr p, ptr p', .bool true, .bool true] rfl fun g => ?_
  refine (held_spec hL.poolR 3 (by simp)).mono ?_
  rintro v w17 ⟨A3, hv, hA3⟩
  have hv : Reads w17 1 v 1 (ints [0]) := hv.reads hA3.holds
  have hL := hL.grows hA3.grown
  refine ⟨rfl, _, rfl, ?_⟩
  refine hL.newG fun b w18 hL hg18 => ?_
  have hL : SH w w18 (Cl b 3 (ints [0]) :: PoolS 82 87 p h [⟨3, s, [9]⟩, noBuf] (PoolS 82 87 p' h' [⟨3, s, [9]⟩, ⟨2, s2, []⟩] [Cl b41 5 (vals [9])])) := hL
  have hz : Reads w18 1 (.slice (some ⟨b, 0, none⟩) 1 1) 1 (ints [0]) := hL.readsRow 1 1 rfl
  refine (sameints_spec (a := [0]) (b := [0]) (hv.grows hg18) hz (by decide)).mono ?_
  rintro _ w19 ⟨rfl, hg19⟩
  have hL := pool_tail ((hL.tail).grows hg19)
  refine reframeL [1, 13, 156, 160] [ptr p, ptr p', .bool true, .bool true] rfl fun g => ?_
  refine (left_spec hL.poolR (by simp)).mono ?_
  rintro _ w20 ⟨rfl, hg20⟩
  have hL := hL.grows hg20
  refine ⟨true, rfl, ?_⟩
  refine ret_in ?_
  exact ⟨rfl, hL.grown⟩
end Go.Proofs.Ytjnjgmkkjglheaa
