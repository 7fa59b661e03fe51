/- RingMoves, walked: a buffer that is moved keeps its bytes; one that is not stays its owner's. -/
import Derived.Test.YtjnjgmkkjglheaaRSolo
namespace Go.Proofs.Ytjnjgmkkjglheaa
open Go Go.Den
attribute [local irreducible] wpC
theorem takeE_nil {b : List Buf} {o : Int} {m : Nat} (h : 1 ≤ o ∧ o ≤ 255 ∧ m ≤ 1514) (he : takeE b o m ≠ 0) : leftOf b = 0 := by
  by_cases h0 : leftOf b = 0
  · exact h0
  · exfalso
    apply he
    unfold takeE
    rw [if_neg, if_neg (fun h => h0 (left_none.2 h))]
    rw [owns_iff.2 ⟨h.1, h.2.1⟩]
    rintro (h | h)
    · exact absurd h (by decide)
    · omega
theorem handB_set {b : List Buf} {i : Nat} {B : Buf} {t : Int} (hB : b[i]? = some B) (ho : owns B.own = true) (ht : owns t = true) : handE b i B.own t = 0 ∧ handB b i B.own t = b.set i (withOwn t B) := by
  have hE : handE b i B.own t = 0 := by unfold handE; rw [ht, if_pos rfl]; exact errOf_hit hB ho
  refine ⟨hE, ?_⟩
  unfold handB
  rw [hE, if_pos rfl, Int.toNat_natCast, modify_at _ hB]
theorem bytesOf_own {b : List Buf} {i : Nat} {B : Buf} {t : Int} (hB : b[i]? = some B) (ho : 0 < B.own) (ht : 0 < t) (z : Int) : bytesOf (b.set i (withOwn t B)) z = bytesOf b z := by
  have hi : i < b.length := (List.getElem?_eq_some_iff.1 hB).1
  by_cases hz : z < 0
  · unfold bytesOf
    rw [ownerOf_neg hz, ownerOf_neg hz, if_neg (by decide), if_neg (by decide)]
  obtain ⟨k, rfl⟩ : ∃ k : Nat, z = k := ⟨z.toNat, by omega⟩
  by_cases hk : k = i
  · subst hk
    unfold bytesOf
    rw [ownerOf_at hB, ownerOf_at (set_at hi _), if_pos ho, if_pos (show 0 < (withOwn t B).own from ht), Int.toNat_natCast, hB, set_at hi]
    rfl
  · exact bytesOf_set _ hk
set_option maxHeartbeats 16000000 in
theorem ringmoves_walk {w : World} {a : Option Addr} {len cap : Nat} {C : Nat → Call2} (hC : CallsIn2 w a len C) (many size : Int) {ba : Option Addr} {bc : Nat} {bs : List Int} (hx : Reads w 1 (.slice ba bs.length bc) bs.length (vals bs)) :
    Does Try.prog 7 [.int .i64 many, .int .i64 size, .slice a len cap, .slice ba bs.length bc] w fun v w' => v = .bool true ∧ Grows w w' := by
  refine s7 rfl ?_
  refine row_in ?_
  refine if_in ?_
  refine (alive2_spec w).mono ?_
  rintro _ w1 ⟨rfl, hg1⟩
  refine ⟨false, rfl, ?_⟩
  refine skip_in ?_
  refine if_in ?_
  refine (great2_spec (hC.grows hg1) many).mono ?_
  rintro _ w1 ⟨rfl, g, rfl, hgr⟩
  cases g
  rotate_left
  · refine row_in ?_
    refine ret_in ?_
    exact ⟨rfl, hg1⟩
  obtain ⟨hmany, hlen, hbs⟩ := hgr rfl
  by_cases hbig : (1514 : Int) < bs.length
  · refine ⟨true, decide_eq_true hbig, ?_⟩
    refine row_in ?_
    refine ret_in ?_
    exact ⟨rfl, hg1⟩
  refine ⟨false, decide_eq_false hbig, ?_⟩
  refine skip_in ?_
  refine row_in ?_
  refine (new_spec many w1).mono ?_
  rintro _ w2 ⟨hno, hyes⟩
  by_cases hout : many < 1 ∨ 1024 < many
  · obtain ⟨rfl, rfl⟩ := hno hout
    refine if_in ?_
    refine ⟨true, rfl, ?_⟩
    refine row_in ?_
    refine ⟨true, decide_eq_true (by omega), ?_⟩
    refine ret_in ?_
    exact ⟨rfl, hg1⟩
  obtain ⟨p, h, _, rfl, hP⟩ := hyes (by omega)
  have hL : SH w w2 (PoolS 82 87 p h (List.replicate many.toNat noBuf) []) := ((SH.nil w).grows hg1).join hP (newpool_unshared _ _ _ _ _)
  clear hyes hno hP
  obtain ⟨n, hn, rfl⟩ : ∃ n : Nat, n ≤ 100 ∧ many = n := ⟨many.toNat, by omega, by omega⟩
  have hpos : 1 ≤ n := by omega
  rw [Int.toNat_natCast] at hL
  refine if_in ?_
  refine ⟨false, rfl, ?_⟩
  refine skip_in ?_
  refine reframe [0, 1, 2, 3, 9] [.int .i64 n, .int .i64 size, .slice a len cap, .slice ba bs.length bc, ptr p] rfl fun g => ?_
  refine row_in ?_
  refine (ringnew_spec p size 9 w2).mono ?_
  rintro _ w3 ⟨hno, hyes⟩
  by_cases hout2 : size < 1 ∨ 256 < size ∨ owns 9 = false
  · obtain ⟨rfl, rfl⟩ := hno hout2
    refine if_in ?_
    refine ⟨true, rfl, ?_⟩
    refine row_in ?_
    refine ⟨true, rfl, ?_⟩
    refine ret_in ?_
    exact ⟨rfl, hL.grown⟩
  obtain ⟨rp, sb, rfl, hR⟩ := hyes (by omega) (by omega) rfl
  have hL := hL.join hR (ring_unshared _ _ _ _)
  clear hyes hno hR
  obtain ⟨s, rfl⟩ : ∃ s : Nat, size = s := ⟨size.toNat, by omega⟩
  rw [Int.toNat_natCast] at hL
  have H : Solo w w3 [] rp p sb h n 9 ⟨9, List.replicate s 0, 0, 0, 0⟩ (List.replicate n noBuf) := ⟨hL, ⟨by simp; omega, by simp; omega, by simp; omega, by simp⟩, Good.new n, by simp, rfl⟩
  clear hL
  refine if_in ?_
  refine ⟨false, rfl, ?_⟩
  refine ⟨false, rfl, ?_⟩
  refine skip_in ?_
  refine reframe [2, 3, 9, 11] [.slice a len cap, .slice ba bs.length bc, ptr p, ptr rp] rfl fun g => ?_
  refine seq_in (row_in ?_)
  refine block_in ?_
  refine loop_rule (13 :: List.range' 53 22) rfl [13] (fun (i : Nat) => [.int .i64 i]) (fun i w' => i ≤ len ∧ ∃ G b, Solo w w' [] rp p sb h n 9 G b) (fun i => len - i) 0 rfl ⟨Nat.zero_le _, _, _, H⟩ ?_
  clear H
  rintro g2 i w4 ⟨hi, G, b, H⟩
  refine if_in ?_
  by_cases hil : i < len
  · refine ⟨true, decide_eq_true (by omega), ?_⟩
    refine skip_in ?_
    have hg4 : Grows w w4 := H.hL.grown
    obtain ⟨x, rfl, hc⟩ := (hC.grows hg4).cells i hil
    refine block_then ?_
    refine seq_in (ops_in ?_)
    refine ⟨⟨by omega, by omega⟩, _, rfl, ?_⟩
    refine ⟨_, hc 0 _ rfl, ?_⟩
    by_cases h2 : (C i).what = 2
    · refine ⟨true, decide_eq_true h2, ?_⟩
      refine cond_in ?_
      refine ops_in ?_
      refine (solo_take H).mono ?_
      rintro _ w5 ⟨x1, A, rfl, _, H⟩
      refine ops_in ?_
      refine ⟨((i + 1 : Nat) : Int), (IntWalk.i64_in _ (by omega)).trans (by omega), ?_⟩
      exact ⟨i + 1, rfl, ⟨hil, _, _, solo_sub H (List.nil_sublist _)⟩, by omega⟩
    · refine ⟨false, decide_eq_false h2, ?_⟩
      refine cond_in ?_
      refine ops_in ?_
      refine ⟨⟨by omega, by omega⟩, _, rfl, ?_⟩
      refine ⟨_, hc 3 _ rfl, ?_⟩
      refine (own_spec ((hC.bytes i hil).grows hg4) (vals_one _) (by have := hbs i hil; omega)).mono ?_
      rintro v w5 ⟨A, hv, hA⟩
      have hr := hv.reads hA.holds
      have H := H.grows hA.grown
      obtain ⟨va, vc, rfl⟩ := hv.slice
      refine (solo_put H (by omega) hr).mono ?_
      rintro _ w6 ⟨rfl, s', H⟩
      refine ops_in ?_
      refine ⟨((i + 1 : Nat) : Int), (IntWalk.i64_in _ (by omega)).trans (by omega), ?_⟩
      exact ⟨i + 1, rfl, ⟨hil, _, _, H⟩, by omega⟩
  refine ⟨false, decide_eq_false (by omega), ?_⟩
  refine exit_in ?_
  clear hbs hlen hC hi hil
  refine row_in ?_
  refine (own_spec (hx.old H.hL) (vals_one _) (by omega)).mono ?_
  rintro v w5 ⟨A, hv, hA⟩
  have hr := hv.reads hA.holds
  have H := H.grows hA.grown
  obtain ⟨va, vc, rfl⟩ := hv.slice
  refine (solo_ptake H 7 (by omega) hr).mono ?_
  rintro _ w6 ⟨rfl, s', H2⟩
  have hlb := H.len
  refine reframe [3, 9, 11, 14, 15] [.slice ba bs.length bc, ptr p, ptr rp, .int .i64 (takeN b 7 bs.length), .int .i64 (takeE b 7 bs.length)] rfl fun g => ?_
  refine if_in ?_
  by_cases he : takeE b 7 bs.length = 0
  rotate_left
  · obtain ⟨_, hTB⟩ := take_no rfl he s'
    rw [hTB] at H2
    refine ⟨true, decide_eq_true he, ?_⟩
    refine row_in ?_
    refine (left_spec H2.pool (by omega)).mono ?_
    rintro _ w7 ⟨rfl, hg7⟩
    have h0 : leftOf b = 0 := takeE_nil ⟨by decide, by decide, by omega⟩ he
    refine ⟨true, decide_eq_true (by omega), ?_⟩
    refine ret_in ?_
    exact ⟨rfl, H2.hL.grown.trans hg7⟩
  obtain ⟨ho, hm, i, B, hf, hBi, hBo, _⟩ := take_zero he
  obtain ⟨hN, hTB⟩ := take_yes he hf s'
  have hi : i < b.length := (List.getElem?_eq_some_iff.1 hBi).1
  have hb2 : (takeB b 7 s' bs)[i]? = some ⟨7, s', bs⟩ := by rw [hTB]; exact set_at hi _
  rw [hN]
  generalize takeB b 7 s' bs = b2 at *
  clear H hTB hN hf hBi hBo hA hr hv hg1
  have H := H2
  clear H2
  have hlb2 := H.len
  have hi2 : i < b2.length := (List.getElem?_eq_some_iff.1 hb2).1
  have hmany2 := H.ok.many
  have hsz2 := H.ok.size
  have hrlen : (rb b2 G.rows).length = G.many := by unfold rb; rw [List.length_map, rows_length]
  refine ⟨false, decide_eq_false (fun h => h he), ?_⟩
  refine skip_in ?_
  refine row_in ?_
  refine (len_spec H.hL).mono ?_
  rintro _ w7 ⟨rfl, rfl⟩
  refine (size_spec H.hL).mono ?_
  rintro _ w7 ⟨rfl, rfl⟩
  refine ⟨decide (G.many = G.slots.length), (by simp only [decide_eq_decide]; omega), ?_⟩
  refine row_in ?_
  refine (all_new H.hL H.ok H.small).mono ?_
  rintro x w8 ⟨X, hXL, hXu, hXr⟩
  have H : Solo w w8 (X ++ []) rp p sb h n 9 G b2 := ⟨(H.hL.join hXL hXu).perm (pins_out X []), H.ok, H.good, H.len, H.own⟩
  obtain ⟨⟨xa, xc, rfl, hxc⟩, _⟩ := hXr w8 hXL.holds
  refine reframe [3, 9, 11, 14, 16, 17] [.slice ba bs.length bc, ptr p, ptr rp, .int .i64 i, .bool (decide (G.many = G.slots.length)), .slice xa (rb b2 G.rows).length xc] rfl fun g => ?_
  refine row_in ?_
  refine (solo_move H i 7).mono ?_
  rintro _ w9 ⟨rfl, H2⟩
  have hxr := hXr w9 fun a ha => H2.hL.holds a (by simp [ha])
  refine reframe [3, 9, 11, 14, 16, 17, 18] [.slice ba bs.length bc, ptr p, ptr rp, .int .i64 i, .bool (decide (G.many = G.slots.length)), .slice xa (rb b2 G.rows).length xc, .int .i64 (moveE G b2 i 7)] rfl fun g => ?_
  refine row_in ?_
  refine (all_spec H2.hL H2.ok H2.small).mono ?_
  rintro y w10 ⟨hg10, hyr⟩
  have H2 := H2.grows hg10
  have hxr := hxr.grows hg10
  have hlb3 := H2.len
  refine if_in ?_
  by_cases hfull : G.many = G.slots.length
  · have hE : moveE G b2 i 7 = 18 := if_neg (by omega)
    have hGr : (moveG G b2 i 7).rows = G.rows := by unfold moveG; rw [hE, if_neg (by decide)]; rfl
    have hBr : moveB G b2 i 7 = b2 := if_neg (by omega)
    rw [hGr, hBr] at hyr
    rw [hBr] at H2
    rw [hE, decide_eq_true hfull]
    refine row_in ?_
    refine ⟨true, rfl, ?_⟩
    refine (owner_spec H2.pool i).mono ?_
    rintro _ w11 ⟨rfl, rfl⟩
    refine ⟨true, decide_eq_true (ownerOf_at hb2), ?_⟩
    refine (samerows_spec hxr hyr (by omega) (rb_small H2.good _)).mono ?_
    rintro _ w12 ⟨rfl, hg12⟩
    refine ret_in ?_
    exact ⟨(rfl : _ = Value.bool (decide (rb b2 G.rows = rb b2 G.rows))).trans (by rw [decide_eq_true rfl]), H2.hL.grown.trans hg12⟩
  have hroom : G.many < G.slots.length := by omega
  have hown : G.own = 9 := H.own
  obtain ⟨hE9, hB9⟩ := handB_set (t := 9) hb2 (by rfl) (by rfl)
  have hE : moveE G b2 i 7 = 0 := by unfold moveE; rw [if_pos hroom, hown]; exact hE9
  have hGr : (moveG G b2 i 7).rows = G.rows ++ [(i : Int)] := by unfold moveG; rw [hE, if_pos rfl]; exact rows_lay H.ok hroom _
  have hBr : moveB G b2 i 7 = b2.set i (withOwn 9 ⟨7, s', bs⟩) := by unfold moveB; rw [if_pos hroom, hown]; exact hB9
  have hb3 : (b2.set i (withOwn 9 ⟨7, s', bs⟩))[i]? = some ⟨9, s', bs⟩ := set_at hi2 _
  have hby : ∀ z, bytesOf (b2.set i (withOwn 9 ⟨7, s', bs⟩)) z = bytesOf b2 z := bytesOf_own hb2 (show (0 : Int) < 7 by decide) (by decide)
  have hrb : rb (b2.set i (withOwn 9 ⟨7, s', bs⟩)) (G.rows ++ [(i : Int)]) = rb b2 G.rows ++ [bs] := by
    unfold rb
    rw [List.map_append]
    congr 1
    · exact List.map_congr_left fun z _ => hby z
    · show [bytesOf _ (i : Int)] = [bs]
      rw [hby, bytesOf_at H.good hb2]
  rw [hGr, hBr, hrb] at hyr
  rw [hBr] at H2 hlb3
  generalize b2.set i (withOwn 9 ⟨7, s', bs⟩) = b3 at *
  rw [hE, decide_eq_false hfull]
  obtain ⟨⟨ya, yc, rfl, hyc⟩, _⟩ := id hyr
  have hlen1 : (rb b2 G.rows ++ [bs]).length = G.many + 1 := by rw [List.length_append, hrlen]; rfl
  refine skip_in ?_
  refine row_in ?_
  refine ⟨true, rfl, ?_⟩
  refine (owner_spec H2.pool i).mono ?_
  rintro _ w11 ⟨rfl, rfl⟩
  refine ⟨true, decide_eq_true (ownerOf_at hb3), ?_⟩
  refine ⟨((G.many + 1 : Nat) : Int), (IntWalk.i64_in _ (by omega)).trans (by omega), ?_⟩
  refine ⟨true, decide_eq_true (by omega), ?_⟩
  obtain ⟨hmc, hpre⟩ := RowsAre.take hyr G.many (by omega)
  refine ⟨G.many, ⟨by omega, hmc⟩, _, rfl, ?_⟩
  have htk : (rb b2 G.rows ++ [bs]).take G.many = rb b2 G.rows := by rw [← hrlen]; exact List.take_left
  rw [htk] at hpre
  refine (samerows_spec hpre hxr (by omega) (rb_small H.good _)).mono ?_
  rintro v12 w12 ⟨hv12, hg12⟩
  rw [decide_eq_true rfl] at hv12
  subst hv12
  have H2 := H2.grows hg12
  have hyr := RowsAre.grows hyr hg12
  refine reframeL [3, 11, 14, 17, 19, 129, 135] [.slice ba bs.length bc, ptr rp, .int .i64 i, .slice xa (rb b2 G.rows).length xc, .slice ya (rb b2 G.rows ++ [bs]).length yc, .bool true, .bool true] rfl fun g => ?_
  obtain ⟨_, ys, hyr1, hyk⟩ := hyr
  obtain ⟨la, lc, hyi, hll⟩ := hyk G.many bs (by rw [← hrlen]; simp)
  obtain ⟨yd, rfl⟩ : ∃ d, ya = some d := by
    cases ya with
    | none => obtain ⟨_, _, _, e, hn0, _⟩ := hyr1; cases e; have := hn0 rfl; omega
    | some d => exact ⟨d, rfl⟩
  have cy : w12.cell? (yd.add (G.many * 1)) = some (.slice la bs.length lc) := by
    obtain ⟨_, _, _, e, _, h⟩ := hyr1
    cases e
    rw [Nat.mul_one]
    exact h yd rfl _ _ hyi
  refine ⟨⟨by omega, by omega⟩, _, rfl, ?_⟩
  refine ⟨_, (by rw [hrlen]; exact cy), ?_⟩
  refine (samebytes_spec hll (hx.old H2.hL) (by omega)).mono ?_
  rintro v13 w13 ⟨hv13, hg13⟩
  rw [decide_eq_true rfl] at hv13
  subst hv13
  have H2 := H2.grows hg13
  have hE2 : moveE (moveG G b2 i 7) b3 i 7 ≠ 0 := by
    unfold moveE
    split
    · rw [H2.own]
      have hl3 := (List.getElem?_eq_some_iff.1 hb3).1
      unfold handE errOf
      rw [show owns 9 = true from rfl, show owns 7 = true from rfl, if_pos rfl, if_pos rfl, if_neg (by omega), ownerOf_at hb3]
      show (if (9 : Int) = 7 then (0 : Int) else 19) ≠ 0
      decide
    · decide
  refine reframeL [3, 11, 14, 137, 144] [.slice ba bs.length bc, ptr rp, .int .i64 i, .bool true, .bool true] rfl fun g => ?_
  refine (solo_move H2 i 7).mono ?_
  rintro _ w14 ⟨rfl, H3⟩
  refine ⟨true, decide_eq_true hE2, ?_⟩
  refine ret_in ?_
  exact ⟨rfl, H3.hL.grown⟩
end Go.Proofs.Ytjnjgmkkjglheaa
