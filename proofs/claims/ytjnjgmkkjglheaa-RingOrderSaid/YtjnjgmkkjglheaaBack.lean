/- PoolBack, walked: what is taken and freed leaves the pool as it was. -/
import Derived.Test.YtjnjgmkkjglheaaLone
namespace Go.Proofs.Ytjnjgmkkjglheaa
open Go Go.Den
attribute [local irreducible] wpC
theorem left_none {b : List Buf} : leftOf b = 0 ↔ freeAt b < 0 := by
  unfold leftOf
  rw [List.countP_eq_zero]
  rcases freeAt_spec b with ⟨hf, hno⟩ | ⟨i, B, hf, hB, hfree, _⟩
  · constructor
    · intro _; omega
    · intro _ C hC
      obtain ⟨j, hj⟩ := List.mem_iff_getElem?.1 hC
      rw [hno j C hj]; decide
  · constructor
    · intro h; exact absurd hfree (h B (List.mem_of_getElem? hB))
    · intro h; omega
theorem takeE_range {b : List Buf} {o : Int} {m : Nat} (h : ¬ (1 ≤ o ∧ o ≤ 255 ∧ m ≤ 1514)) : takeE b o m = 11 := by
  unfold takeE
  rw [if_pos]
  by_cases ho : owns o = true
  · have := owns_iff.1 ho; right; omega
  · left; simpa using ho
theorem takeE_full {b : List Buf} {o : Int} {m : Nat} (h : 1 ≤ o ∧ o ≤ 255 ∧ m ≤ 1514) (h0 : leftOf b = 0) : takeE b o m = 18 := by
  unfold takeE
  rw [if_neg, if_pos (left_none.1 h0)]
  rw [owns_iff.2 ⟨h.1, h.2.1⟩]
  rintro (h | h)
  · exact absurd h (by decide)
  · omega
theorem takeE_left {b : List Buf} {o : Int} {m : Nat} (h : takeE b o m ≠ 0) (h0 : leftOf b ≠ 0) : takeE b o m = 11 := by
  by_cases hr : 1 ≤ o ∧ o ≤ 255 ∧ m ≤ 1514
  · refine absurd ?_ h
    unfold takeE
    rw [if_neg, if_neg (fun h => h0 (left_none.2 h))]
    rw [owns_iff.2 ⟨hr.1, hr.2.1⟩]
    rintro (h | h)
    · exact absurd h (by decide)
    · omega
  · exact takeE_range hr
theorem errOf_hit {b : List Buf} {i : Nat} {B : Buf} (hB : b[i]? = some B) (ho : owns B.own = true) : errOf b i B.own = 0 := by
  have := (List.getElem?_eq_some_iff.1 hB).1
  unfold errOf
  rw [ho, if_pos rfl, if_neg (by omega), ownerOf_at hB, if_pos rfl]
theorem set_at {b : List Buf} {i : Nat} (hi : i < b.length) (B : Buf) : (b.set i B)[i]? = some B := by simp [hi]
set_option maxHeartbeats 8000000 in
theorem poolback_walk {w : World} {a : Option Addr} {len cap : Nat} {C : Nat → Call} (hC : CallsIn w a len C) (many x y : Int) {ba : Option Addr} {bc : Nat} {bs : List Int} (hx : Reads w 1 (.slice ba bs.length bc) bs.length (vals bs)) :
    Does Try.prog 5 [.int .i64 many, .slice a len cap, .int .i64 x, .int .i64 y, .slice ba bs.length bc] w fun v w' => v = .bool true ∧ Grows w w' := by
  refine s5 rfl ?_
  refine row_in ?_
  refine if_in ?_
  refine (alive_spec w).mono ?_
  rintro _ w1 ⟨rfl, hg1⟩
  refine ⟨false, rfl, ?_⟩
  refine skip_in ?_
  refine if_in ?_
  refine (great_spec (hC.grows hg1) many).mono ?_
  rintro _ w1 ⟨rfl, g, rfl, hgr⟩
  cases g
  rotate_left
  · refine row_in ?_
    refine ret_in ?_
    exact ⟨rfl, hg1⟩
  obtain ⟨hmany, hlen, hbs⟩ := hgr rfl
  by_cases hbig : (1600 : Int) < bs.length
  · refine ⟨true, decide_eq_true hbig, ?_⟩
    refine row_in ?_
    refine ret_in ?_
    exact ⟨rfl, hg1⟩
  refine ⟨false, decide_eq_false hbig, ?_⟩
  refine skip_in ?_
  refine row_in ?_
  refine (new_spec many w1).mono ?_
  rintro _ w2 ⟨hno, hyes⟩
  by_cases hout : many < 1 ∨ 1024 < many
  · obtain ⟨rfl, rfl⟩ := hno hout
    refine if_in ?_
    refine ⟨true, rfl, ?_⟩
    refine row_in ?_
    refine ⟨true, rfl, ?_⟩
    refine ret_in ?_
    exact ⟨rfl, hg1⟩
  obtain ⟨p, h, _, rfl, hP⟩ := hyes (by omega)
  have hL : SH w w2 (PoolS 82 87 p h (List.replicate many.toNat noBuf) []) := ((SH.nil w).grows hg1).join hP (newpool_unshared _ _ _ _ _)
  clear hyes hno hP
  obtain ⟨n, hn, rfl⟩ : ∃ n : Nat, n ≤ 100 ∧ many = n := ⟨many.toNat, by omega, by omega⟩
  have hpos : 0 < n := by omega
  rw [Int.toNat_natCast] at hL
  have hB : Lone w w2 [] p h n (List.replicate n noBuf) := ⟨hL, Good.new n, by simp⟩
  clear hL hout hmany hg1 hgr
  refine if_in ?_
  refine ⟨false, rfl, ?_⟩
  refine ⟨false, rfl, ?_⟩
  refine skip_in ?_
  refine reframe [1, 2, 3, 4, 11] [.slice a len cap, .int .i64 x, .int .i64 y, .slice ba bs.length bc, ptr p] rfl fun g => ?_
  refine seq_in (row_in ?_)
  refine block_in ?_
  refine loop_rule (13 :: List.range' 43 14) rfl [13] (fun (s : Nat × List Buf) => [.int .i64 s.1]) (fun s w' => s.1 ≤ len ∧ Lone w w' [] p h n s.2) (fun s => len - s.1) (0, _) rfl ⟨Nat.zero_le _, hB⟩ ?_
  clear hB
  rintro g2 ⟨i, b⟩ w3 ⟨hi, hB⟩
  have hi : i ≤ len := hi
  have hB : Lone w w3 [] p h n b := hB
  refine if_in ?_
  by_cases hil : i < len
  · refine ⟨true, decide_eq_true (by omega), ?_⟩
    refine skip_in ?_
    have hg3 : Grows w w3 := hB.hL.grown
    refine block_then ?_
    refine ops_in ?_
    refine ⟨rfl, _, rfl, ?_⟩
    refine hB.hL.boxK [_] fun r w4 hL => ?_
    obtain ⟨xa, rfl, hlds⟩ := (hC.grows hL.grown).lds hil
    refine ⟨⟨by omega, by omega⟩, _, rfl, ?_⟩
    refine ⟨_, hlds, ?_⟩
    refine (lone_do hL hB.good hB.len (C i) (hC.bytes i hil) (by omega) (hbs i hil)).mono ?_
    rintro _ w5 ⟨t, b', rfl, hB⟩
    refine ops_in ?_
    refine ⟨((i + 1 : Nat) : Int), (IntWalk.i64_in _ (by omega)).trans (by omega), ?_⟩
    exact ⟨(i + 1, b'), rfl, ⟨hil, hB⟩, by simp only []; omega⟩
  refine ⟨false, decide_eq_false (by omega), ?_⟩
  refine exit_in ?_
  clear hbs hlen hC hi hil
  refine row_in ?_
  refine (left_spec hB.p (by rw [hB.len]; omega)).mono ?_
  rintro _ w4 ⟨rfl, hg4⟩
  have hB := hB.grows hg4
  refine reframe [2, 3, 4, 11, 14] [.int .i64 x, .int .i64 y, .slice ba bs.length bc, ptr p, .int .i64 (leftOf b)] rfl fun g3 => ?_
  refine row_in ?_
  refine (own_spec (hx.old hB.hL) (vals_one _) (by omega)).mono ?_
  rintro v w5 ⟨A, hv, hA⟩
  have hr := hv.reads hA.holds
  have hB := hB.grows hA.grown
  refine (take_spec hB.hL x hr (by rw [hB.len]; omega)).mono ?_
  rintro _ w6 ⟨s, rfl, hL⟩
  refine reframe [2, 3, 4, 11, 14, 15, 16] [.int .i64 x, .int .i64 y, .slice ba bs.length bc, ptr p, .int .i64 (leftOf b), .int .i64 (takeN b x bs.length), .int .i64 (takeE b x bs.length)] rfl fun g4 => ?_
  refine if_in ?_
  by_cases he : takeE b x bs.length = 0
  rotate_left
  · obtain ⟨_, hTB⟩ := take_no rfl he s
    rw [hTB] at hL
    refine ⟨true, decide_eq_true he, ?_⟩
    refine row_in ?_
    refine (left_spec hL.poolR (by rw [hB.len]; omega)).mono ?_
    rintro _ w7 ⟨rfl, hg7⟩
    have hgr := hL.grown.trans hg7
    refine ⟨true, decide_eq_true rfl, ?_⟩
    by_cases h0 : leftOf b = 0
    rotate_left
    · refine ⟨false, decide_eq_false (by rw [takeE_left he h0]; decide), ?_⟩
      refine ⟨false, decide_eq_false (by omega), ?_⟩
      refine ⟨true, rfl, ?_⟩
      refine ret_in ?_
      exact ⟨rfl, hgr⟩
    by_cases h1 : 1 ≤ x
    rotate_left
    · refine ⟨false, decide_eq_false (by rw [takeE_range (by omega)]; decide), ?_⟩
      refine ⟨true, decide_eq_true (by omega), ?_⟩
      refine ⟨false, decide_eq_false h1, ?_⟩
      refine ⟨true, rfl, ?_⟩
      refine ret_in ?_
      exact ⟨rfl, hgr⟩
    by_cases h2 : x ≤ 255
    rotate_left
    · refine ⟨false, decide_eq_false (by rw [takeE_range (by omega)]; decide), ?_⟩
      refine ⟨true, decide_eq_true (by omega), ?_⟩
      refine ⟨true, decide_eq_true h1, ?_⟩
      refine ⟨false, decide_eq_false h2, ?_⟩
      refine ⟨true, rfl, ?_⟩
      refine ret_in ?_
      exact ⟨rfl, hgr⟩
    by_cases h3 : bs.length ≤ 1514
    rotate_left
    · refine ⟨false, decide_eq_false (by rw [takeE_range (by omega)]; decide), ?_⟩
      refine ⟨true, decide_eq_true (by omega), ?_⟩
      refine ⟨true, decide_eq_true h1, ?_⟩
      refine ⟨true, decide_eq_true h2, ?_⟩
      refine ⟨false, decide_eq_false (by omega), ?_⟩
      refine ⟨true, rfl, ?_⟩
      refine ret_in ?_
      exact ⟨rfl, hgr⟩
    refine ⟨true, decide_eq_true (takeE_full ⟨h1, h2, h3⟩ h0), ?_⟩
    refine ⟨true, decide_eq_true (by omega), ?_⟩
    refine ⟨true, decide_eq_true h1, ?_⟩
    refine ⟨true, decide_eq_true h2, ?_⟩
    refine ⟨true, decide_eq_true (by omega), ?_⟩
    refine ⟨true, rfl, ?_⟩
    refine ret_in ?_
    exact ⟨rfl, hgr⟩
  obtain ⟨ho, hm, i, B, hf, hBi, hBo, _⟩ := take_zero he
  obtain ⟨hN, hTB⟩ := take_yes he hf s
  have hi : i < b.length := (List.getElem?_eq_some_iff.1 hBi).1
  have hgood := hB.good.take x s bs
  have hlb : (takeB b x s bs).length = n := by rw [takeB_length]; exact hB.len
  have hlbn := hB.len
  rw [hTB] at hL hgood hlb
  have hB : Lone w w6 [] p h n (b.set i ⟨x, s, bs⟩) := ⟨hL, hgood, hlb⟩
  refine ⟨false, decide_eq_false (fun h => h he), ?_⟩
  refine skip_in ?_
  rw [hN]
  refine row_in ?_
  refine reframe [2, 3, 4, 11, 14, 15, 17] [.int .i64 x, .int .i64 y, .slice ba bs.length bc, ptr p, .int .i64 (leftOf b), .int .i64 i, .int .i64 x] rfl fun g5 => ?_
  refine cut_rule (17 :: List.range' 94 7) rfl [17] (fun (t : Int) => [.int .i64 t]) (fun t w' => Lone w w' [] p h n (b.set i ⟨t, s, bs⟩) ∧ owns t = true) ?_ ?_
  · refine row_in ?_
    refine (hand_spec hB.hL i x y).mono ?_
    rintro _ w7 ⟨rfl, hL⟩
    have herr : errOf (b.set i ⟨x, s, bs⟩) i x = 0 := errOf_hit (set_at hi ⟨x, s, bs⟩) ho
    cases hy : owns y
    · have hE : handE (b.set i ⟨x, s, bs⟩) i x y = 11 := by unfold handE; rw [hy]; rfl
      refine ⟨false, decide_eq_false (by rw [hE]; decide), ?_⟩
      refine cond_in ?_
      refine skip_in ?_
      refine ⟨x, rfl, ⟨?_, hgood, hlb⟩, ho⟩
      unfold handB at hL
      rw [hE, if_neg (by decide)] at hL
      exact hL
    · have hE : handE (b.set i ⟨x, s, bs⟩) i x y = 0 := by unfold handE; rw [hy, if_pos rfl, herr]
      refine ⟨true, decide_eq_true hE, ?_⟩
      refine cond_in ?_
      refine ops_in ?_
      have hgood := hgood.hand i x y
      unfold handB at hL hgood
      rw [hE, if_pos rfl, Int.toNat_natCast, modify_at _ (set_at hi _), List.set_set] at hL hgood
      exact ⟨y, rfl, ⟨hL, hgood, by rw [List.length_set]; exact hlbn⟩, hy⟩
  clear hB hgood hlb hL
  rintro g6 t w7 ⟨hB, ht⟩
  have hb2 : (b.set i ⟨t, s, bs⟩)[i]? = some ⟨t, s, bs⟩ := set_at hi _
  have hleft : leftOf (b.set i ⟨t, s, bs⟩) + 1 = leftOf b := leftOf_set hBi (decide_eq_true hBo) (owns_nz ht s bs)
  have hfr := leftOf_free hb2 (owns_nz ht s bs) (C := noBuf) rfl
  have htp := owns_iff.1 ht
  have hown := ownerOf_at hb2
  have hby := bytesOf_at hB.good hb2
  generalize hb : b.set i ⟨t, s, bs⟩ = b2 at *
  refine row_in ?_
  refine (bytes_spec hB.p i (fun B hB2 => Nat.le_trans (hB.good.small B hB2) (by decide))).mono ?_
  rintro _ w8 ⟨u, A, rfl, hu, hA⟩
  rw [hby] at hu
  have hu : Reads w8 1 u bs.length (vals bs) := hu.reads hA.holds
  have hB := hB.grows hA.grown
  rw [hown, decide_eq_true (show 0 < t by omega)]
  refine reframe [4, 11, 14, 15, 17, 18, 19] [.slice ba bs.length bc, ptr p, .int .i64 (leftOf b), .int .i64 i, .int .i64 t, u, .bool true] rfl fun g7 => ?_
  refine row_in ?_
  refine (samebytes_spec hu (hx.old hB.hL) (by omega)).mono ?_
  rintro _ w9 ⟨rfl, hg9⟩
  have hB := hB.grows hg9
  rw [decide_eq_true rfl]
  refine (owner_spec hB.p i).mono ?_
  rintro _ w9 ⟨rfl, rfl⟩
  refine ⟨true, decide_eq_true hown, ?_⟩
  refine (free_spec hB.hL i t).mono ?_
  rintro _ w10 ⟨rfl, hL⟩
  have herr : errOf b2 i t = 0 := errOf_hit hb2 ht
  have hi2 : i < b2.length := (List.getElem?_eq_some_iff.1 hb2).1
  unfold freeB at hL
  rw [herr, if_pos rfl, Int.toNat_natCast, modify_at _ hb2] at hL
  refine ⟨true, decide_eq_true herr, ?_⟩
  refine (left_spec hL.poolR (by rw [List.length_set, hB.len]; omega)).mono ?_
  rintro _ w11 ⟨rfl, hg11⟩
  have hL := hL.grows hg11
  refine ⟨true, decide_eq_true (by rw [hfr]; omega), ?_⟩
  refine (owner_spec hL.poolR i).mono ?_
  rintro _ w12 ⟨rfl, rfl⟩
  refine ⟨true, decide_eq_true (ownerOf_at (set_at hi2 noBuf)), ?_⟩
  refine ret_in ?_
  exact ⟨rfl, hL.grown⟩
end Go.Proofs.Ytjnjgmkkjglheaa
