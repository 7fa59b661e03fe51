/- PoolOwners, walked: each buffer is free, or held by one owner. -/
import Derived.Test.YtjnjgmkkjglheaaLone
namespace Go.Proofs.Ytjnjgmkkjglheaa
open Go Go.Den
attribute [local irreducible] wpC
set_option maxHeartbeats 8000000 in
theorem poolowners_walk {w : World} {a : Option Addr} {len cap : Nat} {C : Nat → Call} (hC : CallsIn w a len C) (many : Int) :
    Does Try.prog 4 [.int .i64 many, .slice a len cap] w fun v w' => v = .bool true ∧ Grows w w' := by
  refine s4 rfl ?_
  refine row_in ?_
  refine if_in ?_
  refine (alive_spec w).mono ?_
  rintro _ w1 ⟨rfl, hg1⟩
  refine ⟨false, rfl, ?_⟩
  refine skip_in ?_
  refine if_in ?_
  refine (great_spec (hC.grows hg1) many).mono ?_
  rintro _ w1 ⟨rfl, g, rfl, hgr⟩
  cases g
  rotate_left
  · refine row_in ?_
    refine ret_in ?_
    exact ⟨rfl, hg1⟩
  obtain ⟨hmany, hlen, hbs⟩ := hgr rfl
  refine skip_in ?_
  refine row_in ?_
  refine (new_spec many w1).mono ?_
  rintro _ w2 ⟨hno, hyes⟩
  by_cases hout : many < 1 ∨ 1024 < many
  · obtain ⟨rfl, rfl⟩ := hno hout
    refine if_in ?_
    refine ⟨true, rfl, ?_⟩
    refine row_in ?_
    refine ⟨true, rfl, ?_⟩
    refine ret_in ?_
    exact ⟨rfl, hg1⟩
  obtain ⟨p, h, _, rfl, hP⟩ := hyes (by omega)
  have hL : SH w w2 (PoolS 82 87 p h (List.replicate many.toNat noBuf) []) := ((SH.nil w).grows hg1).join hP (newpool_unshared _ _ _ _ _)
  clear hyes hno hP
  obtain ⟨n, hn, rfl⟩ : ∃ n : Nat, n ≤ 100 ∧ many = n := ⟨many.toNat, by omega, by omega⟩
  have hpos : 0 < n := by omega
  rw [Int.toNat_natCast] at hL
  have hB : Lone w w2 [] p h n (List.replicate n noBuf) := ⟨hL, Good.new n, by simp⟩
  clear hL hout hmany hg1 hgr
  refine if_in ?_
  refine ⟨false, rfl, ?_⟩
  refine ⟨false, rfl, ?_⟩
  refine skip_in ?_
  refine reframe [0, 1, 5] [.int .i64 n, .slice a len cap, ptr p] rfl fun g => ?_
  refine seq_in (row_in ?_)
  refine block_in ?_
  refine loop_rule (4 :: List.range' 7 10 ++ List.range' 35 104) rfl [7] (fun (s : Nat × List Buf) => [.int .i64 s.1]) (fun s w' => s.1 ≤ len ∧ Lone w w' [] p h n s.2) (fun s => len - s.1) (0, _) rfl ⟨Nat.zero_le _, hB⟩ ?_
  clear hB
  rintro g2 ⟨i, b⟩ w3 ⟨hi, hB⟩
  have hi : i ≤ len := hi
  have hB : Lone w w3 [] p h n b := hB
  refine if_in ?_
  by_cases hil : i < len
  rotate_left
  · refine ⟨false, decide_eq_false (by omega), ?_⟩
    refine exit_in ?_
    refine row_in ?_
    refine (held_spec hB.p 0 (by rw [hB.len]; omega)).mono ?_
    rintro v w4 ⟨A, hv, hA⟩
    have hg4 := hB.hL.grown.trans hA.grown
    obtain ⟨sa, sc, rfl⟩ := hv.slice
    have h0 : (heldOf b 0).length = 0 := by rw [held_len, List.countP_eq_zero]; intro B _ h; unfold ownedBy at h; simp [owns] at h
    refine ⟨true, decide_eq_true (by omega), ?_⟩
    refine ret_in ?_
    exact ⟨rfl, hg4⟩
  refine ⟨true, decide_eq_true (by omega), ?_⟩
  refine skip_in ?_
  have hg3 : Grows w w3 := hB.hL.grown
  obtain ⟨x, rfl, hlds⟩ := (hC.grows hg3).lds hil
  refine block_then ?_
  refine row_in ?_
  refine ⟨⟨by omega, by omega⟩, _, rfl, ?_⟩
  refine ⟨_, hlds, ?_⟩
  refine hB.hL.newK fun b8 w4 hL => ?_
  refine hL.stK [_, _, _, _, _] fun w5 hL => ?_
  have hL : SH w w5 (Cl b8 25 (C i).l :: PoolS 82 87 p h b []) := hL
  have hk := hC.bytes i hil
  have hkb := hbs i hil
  refine reframe [0, 1, 5, 7, 8] [.int .i64 n, .slice (some x) len cap, ptr p, .int .i64 i, ptr b8] rfl fun g3 => ?_
  generalize hkk : C i = k at *
  refine cut_rule (4 :: List.range' 9 4 ++ List.range' 45 63) rfl [] (fun (_ : List Buf) => []) (fun s w' => Lone w w' [] p h n s) ?_ ?_
  · refine row_in ?_
    refine ⟨_, hL.ld rfl, ?_⟩
    by_cases h0 : k.what = 0
    rotate_left
    · refine ⟨false, decide_eq_false h0, ?_⟩
      refine cond_in ?_
      refine ops_in ?_
      refine ⟨rfl, _, rfl, ?_⟩
      refine hL.boxK [_] fun r w6 hL => ?_
      refine ⟨_, hL.lds rfl, ?_⟩
      have hL : SH w w6 (Cl r 50 [.slice none 0 0] :: PoolS 82 87 p h b []) := hL.sub (.cons_cons _ (.cons _ (.refl _)))
      refine (lone_do hL hB.good hB.len k hk (by omega) hkb).mono ?_
      rintro _ w7 ⟨t, b', rfl, hB⟩
      exact ⟨b', rfl, hB⟩
    refine ⟨true, decide_eq_true h0, ?_⟩
    refine cond_in ?_
    have hL : SH w w5 (PoolS 82 87 p h b [Cl b8 25 k.l]) := pool_in (X := [_]) hL
    refine row_in ?_
    refine (left_spec hL.poolR (by rw [hB.len]; omega)).mono ?_
    rintro _ w6 ⟨rfl, hg6⟩
    have hL := hL.grows hg6
    refine row_in ?_
    refine (clone_spec hL (by rw [hB.len]; omega) (by rw [hB.len]; omega)).mono ?_
    rintro _ w7 ⟨p', h', rfl, hL⟩
    have hL := pool_swap hL
    refine draw_in ?_
    have hL := hL.drew
    refine ⟨_, hL.ld rfl, ?_⟩
    refine ⟨_, hL.ld rfl, ?_⟩
    refine (own_spec (hk.old hL) (vals_one _) (by omega)).mono ?_
    rintro v w8 ⟨A, hv, hA⟩
    have hr := hv.reads hA.holds
    have hL := hL.grows hA.grown
    refine ⟨⟨hL.ld rfl, hL.ld rfl, trivial⟩, ?_⟩
    refine (take_spec hL k.owner hr (by rw [hB.len]; omega)).mono ?_
    rintro _ w9 ⟨s, rfl, hL⟩
    refine ⟨⟨hL.ld rfl, hL.ld rfl, trivial⟩, ?_⟩
    refine reframe [5, 8, 9, 10, 11, 12] [ptr p, ptr b8, .int .i64 (leftOf b), ptr p', .int .i64 (takeN b k.owner k.bs.length), .int .i64 (takeE b k.owner k.bs.length)] rfl fun g4 => ?_
    have hgood := hB.good.take k.owner s k.bs
    have hlb : (takeB b k.owner s k.bs).length = n := by rw [takeB_length]; exact hB.len
    have hfin : ∀ w', SH w w' (PoolS 82 87 p h (takeB b k.owner s k.bs) (PoolS 82 87 p' h' b [Cl b8 25 k.l])) → Lone w w' [] p h n (takeB b k.owner s k.bs) := fun w' hL => ⟨hL.sub (.cons_cons _ (.cons_cons _ (.cons_cons _ (List.nil_sublist _)))), hgood, hlb⟩
    refine seq_in (drawn_in ?_)
    have hL := hL.drew
    refine ⟨false, rfl, ?_⟩
    by_cases he : takeE b k.owner k.bs.length = 0
    · obtain ⟨ho, hm, j, B, hf, hBj, hBo, _⟩ := take_zero he
      obtain ⟨hN, hTB⟩ := take_yes he hf s
      rw [hN]
      have hj : j < b.length := (List.getElem?_eq_some_iff.1 hBj).1
      have hown1 : ownerOf b j = 0 := (ownerOf_at hBj).trans hBo
      have hown2 : ownerOf (takeB b k.owner s k.bs) j = k.owner := by
        rw [hTB]; exact ownerOf_at (B := ⟨k.owner, s, k.bs⟩) (by rw [List.getElem?_set]; simp [hj])
      have hleft : leftOf (takeB b k.owner s k.bs) + 1 = leftOf b := by rw [hTB]; exact leftOf_set hBj (decide_eq_true hBo) (owns_nz ho s k.bs)
      refine ⟨true, decide_eq_true he, ?_⟩
      refine (owner_spec (pool_tail hL).poolR j).mono ?_
      rintro _ w10 ⟨rfl, rfl⟩
      refine ⟨trivial, ?_⟩
      refine ⟨false, decide_eq_false (fun h => h hown1), ?_⟩
      refine ⟨_, hL.ld rfl, ?_⟩
      refine (owner_spec hL.poolR j).mono ?_
      rintro _ w10 ⟨rfl, rfl⟩
      refine ⟨⟨hL.ld rfl, trivial⟩, ?_⟩
      refine ⟨false, decide_eq_false (fun h => h hown2), ?_⟩
      refine ⟨((leftOf (takeB b k.owner s k.bs) : Nat) : Int), (IntWalk.i64_in _ (by have := hB.len; have : leftOf b ≤ b.length := List.countP_le_length; omega)).trans (by omega), ?_⟩
      refine (left_spec hL.poolR (by rw [hlb]; omega)).mono ?_
      rintro _ w11 ⟨rfl, hg11⟩
      have hL := hL.grows hg11
      refine ⟨⟨hL.ld rfl, trivial⟩, ?_⟩
      refine ⟨false, decide_eq_false (fun h => h rfl), ?_⟩
      refine ⟨false, decide_eq_false (fun h => h he), ?_⟩
      refine cond_in ?_
      refine skip_in ?_
      exact ⟨_, rfl, hfin _ hL⟩
    · obtain ⟨hN, hTB⟩ := take_no rfl he s
      refine ⟨false, decide_eq_false he, ?_⟩
      refine ⟨true, decide_eq_true he, ?_⟩
      refine ⟨false, decide_eq_false (fun h => h hN), ?_⟩
      refine (left_spec hL.poolR (by rw [hlb]; omega)).mono ?_
      rintro _ w11 ⟨rfl, hg11⟩
      have hL := hL.grows hg11
      refine ⟨trivial, ?_⟩
      refine ⟨false, decide_eq_false (fun h => h (by rw [hTB])), ?_⟩
      refine cond_in ?_
      refine skip_in ?_
      exact ⟨_, rfl, hfin _ hL⟩
  clear hL hB hg3 hlds hk hkb
  rintro g4 b w6 hB
  have hB : Lone w w6 [] p h n b := hB
  refine reframe [0, 1, 5, 7] [.int .i64 n, .slice (some x) len cap, ptr p, .int .i64 i] rfl fun g5 => ?_
  refine row_in ?_
  refine seq_in (row_in ?_)
  refine block_in ?_
  refine loop_rule (4 :: List.range' 13 4 ++ List.range' 108 25) rfl [13, 14] (fun (s : Nat) => [.int .i64 (b.countP (upTo s) : Nat), .int .i64 ((s + 1 : Nat) : Int)]) (fun s w' => s ≤ 255 ∧ Lone w w' [] p h n b) (fun s => 255 - s) 0 (by rw [upTo_zero]; rfl) ⟨Nat.zero_le _, hB⟩ ?_
  clear hB
  rintro g6 o w7 ⟨ho, hB⟩
  have ho : o ≤ 255 := ho
  have hB : Lone w w7 [] p h n b := hB
  have hcl : b.countP (upTo o) ≤ n := by rw [← hB.len]; exact List.countP_le_length
  refine if_in ?_
  by_cases ho2 : o < 255
  rotate_left
  · refine ⟨false, decide_eq_false (by omega), ?_⟩
    refine exit_in ?_
    have e : o = 255 := by omega
    subst e
    have hall := upTo_all hB.good
    refine row_in ?_
    refine (left_spec hB.p (by rw [hB.len]; omega)).mono ?_
    rintro _ w8 ⟨rfl, hg8⟩
    refine ⟨(n : Int), (IntWalk.i64_in _ (by have := hB.len; omega)).trans (by have := hB.len; omega), ?_⟩
    refine ⟨false, decide_eq_false (fun h => h rfl), ?_⟩
    refine cond_in ?_
    refine skip_in ?_
    refine ops_in ?_
    refine ⟨((i + 1 : Nat) : Int), (IntWalk.i64_in _ (by omega)).trans (by omega), ?_⟩
    exact ⟨(i + 1, b), rfl, ⟨hil, hB.grows hg8⟩, by simp only []; omega⟩
  refine ⟨true, decide_eq_true (by omega), ?_⟩
  refine skip_in ?_
  refine block_then ?_
  refine row_in ?_
  refine (held_spec hB.p ((o + 1 : Nat) : Int) (by rw [hB.len]; omega)).mono ?_
  rintro v w8 ⟨A, hv, hA⟩
  have hr := hv.reads hA.holds
  have hB := hB.grows hA.grown
  have hsz : (heldOf b ((o + 1 : Nat) : Int)).length ≤ 100 := Nat.le_trans (heldUpto_length _ _ _) (by rw [hB.len]; omega)
  have hmore := upTo_more b o ho2
  generalize hl : heldOf b ((o + 1 : Nat) : Int) = l at *
  obtain ⟨_, sa, sc, rfl, hsn, _⟩ := id hr
  refine seq_in (row_in ?_)
  refine block_in ?_
  refine loop_rule (4 :: 16 :: List.range' 115 14) rfl [16] (fun (s : Nat) => [.int .i64 s]) (fun s w' => s ≤ l.length ∧ Lone w w' [] p h n b ∧ Grows w8 w') (fun s => l.length - s) 0 rfl ⟨Nat.zero_le _, hB, Grows.refl _⟩ ?_
  clear hB
  rintro g7 j w9 ⟨hj, hB, hg9⟩
  refine if_in ?_
  by_cases hjl : j < l.length
  rotate_left
  · refine ⟨false, decide_eq_false (by omega), ?_⟩
    refine exit_in ?_
    refine ops_in ?_
    refine ⟨((b.countP (upTo (o + 1)) : Nat) : Int), (IntWalk.i64_in _ (by omega)).trans (by omega), ?_⟩
    refine ops_in ?_
    refine ⟨((o + 1 + 1 : Nat) : Int), (IntWalk.i64_in _ (by omega)).trans (by omega), ?_⟩
    exact ⟨o + 1, rfl, ⟨by omega, hB⟩, by omega⟩
  refine ⟨true, decide_eq_true (by omega), ?_⟩
  refine skip_in ?_
  obtain ⟨z, hz⟩ : ∃ z, l[j]? = some z := ⟨l[j], List.getElem?_eq_getElem (by omega)⟩
  obtain ⟨xd, rfl⟩ : ∃ d, sa = some d := by cases sa with | none => have := hsn rfl; omega | some d => exact ⟨d, rfl⟩
  have cx : w9.cell? (xd.add (j * 1)) = some (.int .i64 z) := by
    obtain ⟨_, _, _, e, _, h⟩ := hr.grows hg9
    cases e
    rw [Nat.mul_one]
    exact h xd rfl j _ (by simp [ints, hz])
  have hoz : ownerOf b z = ((o + 1 : Nat) : Int) := held_mem (by rw [hl]; exact List.mem_of_getElem? hz)
  refine block_then ?_
  refine row_in ?_
  refine ⟨⟨by omega, by omega⟩, _, rfl, ?_⟩
  refine ⟨_, cx, ?_⟩
  refine (owner_spec hB.p z).mono ?_
  rintro _ w10 ⟨rfl, rfl⟩
  refine ⟨false, decide_eq_false (fun h => h hoz), ?_⟩
  refine cond_in ?_
  refine skip_in ?_
  refine ops_in ?_
  refine ⟨((j + 1 : Nat) : Int), (IntWalk.i64_in _ (by omega)).trans (by omega), ?_⟩
  exact ⟨j + 1, rfl, ⟨hjl, hB, hg9⟩, by omega⟩
end Go.Proofs.Ytjnjgmkkjglheaa
