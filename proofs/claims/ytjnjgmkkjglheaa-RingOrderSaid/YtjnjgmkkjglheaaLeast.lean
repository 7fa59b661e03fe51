/- PoolLeast, walked: the buffer that is taken is the least that was free; the others stay. -/
import Derived.Test.YtjnjgmkkjglheaaBack
namespace Go.Proofs.Ytjnjgmkkjglheaa
open Go Go.Den
attribute [local irreducible] wpC
theorem ownerOf_set {b : List Buf} {i j : Nat} (B : Buf) (h : i ≠ j) : ownerOf (b.set j B) i = ownerOf b i := by
  unfold ownerOf
  rw [Int.toNat_natCast, List.getElem?_set_ne (Ne.symm h)]
theorem bytesOf_set {b : List Buf} {i j : Nat} (B : Buf) (h : i ≠ j) : bytesOf (b.set j B) i = bytesOf b i := by
  unfold bytesOf
  rw [ownerOf_set B h, Int.toNat_natCast, List.getElem?_set_ne (Ne.symm h)]
theorem bytesOf_small {b : List Buf} (hg : Good b) (k : Int) : (bytesOf b k).length ≤ 1514 := by
  unfold bytesOf
  split
  · cases hb : b[k.toNat]? with
    | none => simp
    | some B => exact hg.small B (List.mem_of_getElem? hb)
  · simp
set_option maxHeartbeats 8000000 in
theorem poolleast_walk {w : World} {a : Option Addr} {len cap : Nat} {C : Nat → Call} (hC : CallsIn w a len C) (many x : Int) {ba : Option Addr} {bc : Nat} {bs : List Int} (hx : Reads w 1 (.slice ba bs.length bc) bs.length (vals bs)) :
    Does Try.prog 6 [.int .i64 many, .slice a len cap, .int .i64 x, .slice ba bs.length bc] w fun v w' => v = .bool true ∧ Grows w w' := by
  refine s6 rfl ?_
  refine row_in ?_
  refine if_in ?_
  refine (alive_spec w).mono ?_
  rintro _ w1 ⟨rfl, hg1⟩
  refine ⟨false, rfl, ?_⟩
  refine skip_in ?_
  refine if_in ?_
  refine (great_spec (hC.grows hg1) many).mono ?_
  rintro _ w1 ⟨rfl, g, rfl, hgr⟩
  cases g
  rotate_left
  · refine row_in ?_
    refine ret_in ?_
    exact ⟨rfl, hg1⟩
  obtain ⟨hmany, hlen, hbs⟩ := hgr rfl
  by_cases hbig : (1600 : Int) < bs.length
  · refine ⟨true, decide_eq_true hbig, ?_⟩
    refine row_in ?_
    refine ret_in ?_
    exact ⟨rfl, hg1⟩
  refine ⟨false, decide_eq_false hbig, ?_⟩
  refine skip_in ?_
  refine row_in ?_
  refine (new_spec many w1).mono ?_
  rintro _ w2 ⟨hno, hyes⟩
  by_cases hout : many < 1 ∨ 1024 < many
  · obtain ⟨rfl, rfl⟩ := hno hout
    refine if_in ?_
    refine ⟨true, rfl, ?_⟩
    refine row_in ?_
    refine ⟨true, rfl, ?_⟩
    refine ret_in ?_
    exact ⟨rfl, hg1⟩
  obtain ⟨p, h, _, rfl, hP⟩ := hyes (by omega)
  have hL : SH w w2 (PoolS 82 87 p h (List.replicate many.toNat noBuf) []) := ((SH.nil w).grows hg1).join hP (newpool_unshared _ _ _ _ _)
  clear hyes hno hP
  obtain ⟨n, hn, rfl⟩ : ∃ n : Nat, n ≤ 100 ∧ many = n := ⟨many.toNat, by omega, by omega⟩
  have hpos : 0 < n := by omega
  rw [Int.toNat_natCast] at hL
  have hB : Lone w w2 [] p h n (List.replicate n noBuf) := ⟨hL, Good.new n, by simp⟩
  clear hL hout hmany hg1 hgr
  refine if_in ?_
  refine ⟨false, rfl, ?_⟩
  refine ⟨false, rfl, ?_⟩
  refine skip_in ?_
  refine reframe [0, 1, 2, 3, 9] [.int .i64 n, .slice a len cap, .int .i64 x, .slice ba bs.length bc, ptr p] rfl fun g => ?_
  refine seq_in (row_in ?_)
  refine block_in ?_
  refine loop_rule (11 :: List.range' 43 14) rfl [11] (fun (s : Nat × List Buf) => [.int .i64 s.1]) (fun s w' => s.1 ≤ len ∧ Lone w w' [] p h n s.2) (fun s => len - s.1) (0, _) rfl ⟨Nat.zero_le _, hB⟩ ?_
  clear hB
  rintro g2 ⟨i, b⟩ w3 ⟨hi, hB⟩
  have hi : i ≤ len := hi
  have hB : Lone w w3 [] p h n b := hB
  refine if_in ?_
  by_cases hil : i < len
  · refine ⟨true, decide_eq_true (by omega), ?_⟩
    refine skip_in ?_
    have hg3 : Grows w w3 := hB.hL.grown
    refine block_then ?_
    refine ops_in ?_
    refine ⟨rfl, _, rfl, ?_⟩
    refine hB.hL.boxK [_] fun r w4 hL => ?_
    obtain ⟨xa, rfl, hlds⟩ := (hC.grows hL.grown).lds hil
    refine ⟨⟨by omega, by omega⟩, _, rfl, ?_⟩
    refine ⟨_, hlds, ?_⟩
    refine (lone_do hL hB.good hB.len (C i) (hC.bytes i hil) (by omega) (hbs i hil)).mono ?_
    rintro _ w5 ⟨t, b', rfl, hB⟩
    refine ops_in ?_
    refine ⟨((i + 1 : Nat) : Int), (IntWalk.i64_in _ (by omega)).trans (by omega), ?_⟩
    exact ⟨(i + 1, b'), rfl, ⟨hil, hB⟩, by simp only []; omega⟩
  refine ⟨false, decide_eq_false (by omega), ?_⟩
  refine exit_in ?_
  clear hbs hlen hC hi hil
  have hlbn := hB.len
  refine row_in ?_
  refine (clone_spec hB.hL (by rw [hB.len]; omega) (by rw [hB.len]; omega)).mono ?_
  rintro _ w4 ⟨p', h', rfl, hL⟩
  have hL := pool_swap hL
  refine reframe [0, 2, 3, 9, 12] [.int .i64 n, .int .i64 x, .slice ba bs.length bc, ptr p, ptr p'] rfl fun g3 => ?_
  refine row_in ?_
  refine (own_spec (hx.old hL) (vals_one _) (by omega)).mono ?_
  rintro v w5 ⟨A, hv, hA⟩
  have hr := hv.reads hA.holds
  have hL := hL.grows hA.grown
  refine (take_spec hL x hr (by rw [hB.len]; omega)).mono ?_
  rintro _ w6 ⟨s, rfl, hL⟩
  refine reframe [0, 2, 9, 12, 13, 14] [.int .i64 n, .int .i64 x, ptr p, ptr p', .int .i64 (takeN b x bs.length), .int .i64 (takeE b x bs.length)] rfl fun g4 => ?_
  refine if_in ?_
  refine ⟨false, rfl, ?_⟩
  by_cases he : takeE b x bs.length = 0
  rotate_left
  · obtain ⟨hN, hTB⟩ := take_no rfl he s
    refine ⟨true, decide_eq_true he, ?_⟩
    refine row_in ?_
    refine ⟨true, rfl, ?_⟩
    refine ⟨true, decide_eq_true hN, ?_⟩
    refine ret_in ?_
    exact ⟨rfl, hL.grown⟩
  obtain ⟨ho, hm, j, B, hf, hBj, hBo, hlow⟩ := take_zero he
  obtain ⟨hN, hTB⟩ := take_yes he hf s
  have hj : j < b.length := (List.getElem?_eq_some_iff.1 hBj).1
  have hgood := hB.good.take x s bs
  have hgb := hB.good
  rw [hTB] at hL hgood
  refine ⟨false, decide_eq_false (fun h => h he), ?_⟩
  refine skip_in ?_
  rw [hN]
  have hown2 : ownerOf (b.set j ⟨x, s, bs⟩) j = x := ownerOf_at (set_at hj _)
  have hown1 : ownerOf b j = 0 := (ownerOf_at hBj).trans hBo
  have hne : ∀ i : Nat, i ≠ j → ownerOf (b.set j ⟨x, s, bs⟩) i = ownerOf b i ∧ bytesOf (b.set j ⟨x, s, bs⟩) i = bytesOf b i := fun i h => ⟨ownerOf_set _ h, bytesOf_set _ h⟩
  have hlb2 : (b.set j ⟨x, s, bs⟩).length = n := by rw [List.length_set]; exact hlbn
  have hxo := owns_iff.1 ho
  generalize b.set j ⟨x, s, bs⟩ = b2 at *
  clear hB
  refine reframe [0, 2, 9, 12, 13] [.int .i64 n, .int .i64 x, ptr p, ptr p', .int .i64 j] rfl fun g5 => ?_
  refine seq_in (row_in ?_)
  refine block_in ?_
  refine loop_rule (8 :: 15 :: 16 :: 17 :: 18 :: 19 :: List.range' 79 68) rfl [15] (fun (s : Nat) => [.int .i64 s]) (fun s w' => s ≤ n ∧ SH w w' (PoolS 82 87 p h b2 (PoolS 82 87 p' h' b []))) (fun s => n - s) 0 rfl ⟨Nat.zero_le _, hL⟩ ?_
  clear hL
  rintro g6 i w7 ⟨hi, hL⟩
  refine if_in ?_
  by_cases hil : i < n
  rotate_left
  · refine ⟨false, decide_eq_false (by omega), ?_⟩
    refine exit_in ?_
    refine row_in ?_
    refine ⟨true, decide_eq_true (by omega), ?_⟩
    refine ⟨true, decide_eq_true (by omega), ?_⟩
    refine ret_in ?_
    exact ⟨rfl, hL.grown⟩
  refine ⟨true, decide_eq_true (by omega), ?_⟩
  refine skip_in ?_
  refine block_then ?_
  refine row_in ?_
  refine (bytes_spec (pool_tail hL).poolR i (fun B hB2 => Nat.le_trans (hgb.small B hB2) (by decide))).mono ?_
  rintro _ w8 ⟨u, A, rfl, hu, hA⟩
  have hu := hu.reads hA.holds
  have hL := hL.grows hA.grown
  refine row_in ?_
  refine (bytes_spec hL.poolR i (fun B hB2 => Nat.le_trans (hgood.small B hB2) (by decide))).mono ?_
  rintro _ w9 ⟨v, A, rfl, hv, hA⟩
  have hv := hv.reads hA.holds
  have hu := hu.grows hA.grown
  have hL := hL.grows hA.grown
  have hsm := bytesOf_small hgb i
  refine reframe [0, 2, 9, 12, 13, 15, 16, 17, 18, 19] [.int .i64 n, .int .i64 x, ptr p, ptr p', .int .i64 j, .int .i64 i, u, .bool (decide (0 < ownerOf b i)), v, .bool (decide (0 < ownerOf b2 i))] rfl fun g7 => ?_
  refine row_in ?_
  by_cases hij : i = j
  · subst hij
    rw [hown1, hown2, decide_eq_true (show 0 < x by omega), decide_eq_false (show ¬ (0 : Int) < 0 by decide)]
    refine ⟨false, decide_eq_false (by omega), ?_⟩
    refine ⟨true, decide_eq_true rfl, ?_⟩
    refine ⟨false, rfl, ?_⟩
    refine (owner_spec hL.poolR i).mono ?_
    rintro _ w10 ⟨rfl, rfl⟩
    refine ⟨false, decide_eq_false (fun h => h hown2), ?_⟩
    refine ⟨false, decide_eq_false (fun h => h rfl), ?_⟩
    refine cond_in ?_
    refine skip_in ?_
    refine ops_in ?_
    refine ⟨((i + 1 : Nat) : Int), (IntWalk.i64_in _ (by omega)).trans (by omega), ?_⟩
    exact ⟨i + 1, rfl, ⟨hil, hL⟩, by omega⟩
  obtain ⟨ho2, hb2⟩ := hne i hij
  rw [hb2] at hv
  rw [ho2]
  have hlt : i < j → 0 < ownerOf b i := fun h => by
    have hB : b[i]? = some b[i] := List.getElem?_eq_getElem (by omega)
    rw [ownerOf_at hB]
    have hfr := hlow i _ h hB
    have hg := hgb _ (List.mem_of_getElem? hB)
    have : ¬ b[i].own = 0 := of_decide_eq_false hfr
    rcases hg with hg | hg <;> omega
  by_cases hlj : i < j
  · refine ⟨true, decide_eq_true (by omega), ?_⟩
    refine ⟨false, (by rw [decide_eq_true (hlt hlj)]; rfl), ?_⟩
    refine ⟨false, decide_eq_false (by omega), ?_⟩
    refine reframeL [0, 2, 9, 12, 13, 15, 16, 17, 18, 19, 103, 106] [.int .i64 n, .int .i64 x, ptr p, ptr p', .int .i64 j, .int .i64 i, u, .bool (decide (0 < ownerOf b i)), v, .bool (decide (0 < ownerOf b i)), .bool false, .bool false] rfl fun g8 => ?_
    refine ⟨true, decide_eq_true (by omega), ?_⟩
    refine ⟨false, (by cases decide (0 < ownerOf b i) <;> rfl), ?_⟩
    refine (samebytes_spec hu hv (by omega)).mono ?_
    rintro _ w10 ⟨rfl, hg10⟩
    have hL := hL.grows hg10
    refine ⟨false, (by rw [decide_eq_true rfl]; rfl), ?_⟩
    refine (owner_spec (pool_tail hL).poolR i).mono ?_
    rintro _ w10 ⟨rfl, rfl⟩
    refine (owner_spec hL.poolR i).mono ?_
    rintro _ w10 ⟨rfl, rfl⟩
    refine ⟨false, decide_eq_false (fun h => h ho2.symm), ?_⟩
    refine cond_in ?_
    refine skip_in ?_
    refine ops_in ?_
    refine ⟨((i + 1 : Nat) : Int), (IntWalk.i64_in _ (by omega)).trans (by omega), ?_⟩
    exact ⟨i + 1, rfl, ⟨hil, hL⟩, by omega⟩
  · refine ⟨false, decide_eq_false (by omega), ?_⟩
    refine ⟨false, decide_eq_false (by omega), ?_⟩
    refine reframeL [0, 2, 9, 12, 13, 15, 16, 17, 18, 19, 103, 106] [.int .i64 n, .int .i64 x, ptr p, ptr p', .int .i64 j, .int .i64 i, u, .bool (decide (0 < ownerOf b i)), v, .bool (decide (0 < ownerOf b i)), .bool false, .bool false] rfl fun g8 => ?_
    refine ⟨true, decide_eq_true (by omega), ?_⟩
    refine ⟨false, (by cases decide (0 < ownerOf b i) <;> rfl), ?_⟩
    refine (samebytes_spec hu hv (by omega)).mono ?_
    rintro _ w10 ⟨rfl, hg10⟩
    have hL := hL.grows hg10
    refine ⟨false, (by rw [decide_eq_true rfl]; rfl), ?_⟩
    refine (owner_spec (pool_tail hL).poolR i).mono ?_
    rintro _ w10 ⟨rfl, rfl⟩
    refine (owner_spec hL.poolR i).mono ?_
    rintro _ w10 ⟨rfl, rfl⟩
    refine ⟨false, decide_eq_false (fun h => h ho2.symm), ?_⟩
    refine cond_in ?_
    refine skip_in ?_
    refine ops_in ?_
    refine ⟨((i + 1 : Nat) : Int), (IntWalk.i64_in _ (by omega)).trans (by omega), ?_⟩
    exact ⟨i + 1, rfl, ⟨hil, hL⟩, by omega⟩
end Go.Proofs.Ytjnjgmkkjglheaa
