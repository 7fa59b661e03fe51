/- RingCalls, walked: whatever the calls, the law answers true. -/
import Derived.Test.YtjnjgmkkjglheaaRDo
namespace Go.Proofs.Ytjnjgmkkjglheaa
open Go Go.Den
attribute [local irreducible] wpC
theorem rb_abs {b c : List Buf} (h : abs b = abs c) (rows : List Int) : rb b rows = rb c rows := by
  unfold rb
  exact List.map_congr_left fun z _ => bytesOf_abs h z
theorem rb_small {b : List Buf} (hg : Good b) (rows : List Int) : ∀ r ∈ rb b rows, r.length ≤ 1000000 := fun r hr => by
  obtain ⟨z, _, rfl⟩ := List.mem_map.1 hr
  exact Nat.le_trans (bytesOf_small hg z) (by decide)
set_option maxHeartbeats 16000000 in
theorem agree2_spec {w0 w : World} {R : List Atom} {rp p sp q : Nat} {sb h h' : Home} {n : Nat} {G : Rg} {S : Rr} {b c : List Buf} {v : Value} {A : List Atom} (H : Quad w0 w R rp p sp q sb h h' n G S b c v A) (hn : n ≤ 1000) :
    Does Try.prog 42 [ptr p, ptr rp, ptr q, ptr sp] w fun u w' => u = .bool true ∧ Grows w w' := by
  obtain ⟨va, vc, rfl⟩ := H.own.slice
  have hg0 := Grows.drew w
  refine s42 rfl ?_
  refine row_in ?_
  refine draw_in ?_
  have H := H.grows (Grows.drew _)
  refine ⟨_, H.ref.hL.ld rfl, ?_⟩
  refine (len_spec H.hL).mono ?_
  rintro _ w1 ⟨rfl, rfl⟩
  refine ⟨⟨H.ref.hL.ld rfl, trivial⟩, ?_⟩
  refine ⟨true, decide_eq_true (by rw [H.rel.many]), ?_⟩
  refine ⟨_, H.ref.hL.ld rfl, ?_⟩
  refine (size_spec H.hL).mono ?_
  rintro _ w1 ⟨rfl, rfl⟩
  refine ⟨⟨H.ref.hL.ld rfl, H.ref.hL.ld rfl, trivial⟩, ?_⟩
  refine ⟨true, decide_eq_true H.rel.size, ?_⟩
  refine ⟨_, H.ref.hL.ld rfl, ?_⟩
  refine (dropped_spec H.hL).mono ?_
  rintro _ w1 ⟨rfl, rfl⟩
  refine ⟨⟨H.ref.hL.ld rfl, H.ref.hL.ld rfl, H.ref.hL.ld rfl, trivial⟩, ?_⟩
  refine ⟨true, decide_eq_true H.rel.drop, ?_⟩
  refine reframeD [0, 1, 2, 3, 26, 33] [ptr p, ptr rp, ptr q, ptr sp, .bool true, .bool true] rfl fun g => ?_
  refine (all_spec H.hL H.rel.ok (fun B hB => Nat.le_trans (H.rel.good.small B hB) (by decide))).mono ?_
  rintro x w2 ⟨hg2, hx⟩
  have H := H.grows hg2
  refine ⟨⟨H.ref.hL.ld rfl, H.ref.hL.ld rfl, H.ref.hL.ld rfl, trivial⟩, ?_⟩
  refine (rall_spec H.ref H.rel.inPool H.rel.goodc H.rel.rlen).mono ?_
  rintro y w3 ⟨hg3, hy⟩
  have hx := hx.grows hg3
  have H := H.grows hg3
  refine ⟨⟨H.ref.hL.ld rfl, H.ref.hL.ld rfl, H.ref.hL.ld rfl, trivial⟩, ?_⟩
  rw [← H.rel.rows, ← rb_abs H.rel.abs] at hy
  have hmany := H.rel.ok.many
  have hsize := H.rel.ok.size
  refine (samerows_spec hx hy (by unfold rb; rw [List.length_map, rows_length]; omega) (rb_small H.rel.good _)).mono ?_
  rintro _ w4 ⟨rfl, hg4⟩
  have H := H.grows hg4
  refine ⟨⟨H.ref.hL.ld rfl, H.ref.hL.ld rfl, H.ref.hL.ld rfl, trivial⟩, ?_⟩
  rw [decide_eq_true rfl]
  refine (agree_spec H.pool H.rpool H.rel.abs H.rel.good (by rw [H.rel.len]; omega)).mono ?_
  rintro _ w5 ⟨rfl, hg5⟩
  have H := H.grows hg5
  refine ⟨⟨H.ref.hL.ld rfl, H.ref.hL.ld rfl, H.ref.hL.ld rfl, trivial⟩, ?_⟩
  refine ret_in ?_
  exact ⟨rfl, (((hg0.trans hg2).trans hg3).trans hg4).trans hg5⟩
theorem copy_perm {α : Type} (M A s A' Rr Pq Pp K : List α) : (M ++ (A ++ ((s ++ A') ++ (Rr ++ (Pq ++ (Pp ++ K)))))).Perm (Rr ++ (Pp ++ (s ++ (Pq ++ (A' ++ (M ++ (A ++ K))))))) := by
  have h1 : ((s ++ A') ++ (Rr ++ (Pq ++ (Pp ++ K)))).Perm (Rr ++ (Pp ++ (s ++ (Pq ++ (A' ++ K))))) := by
    refine (List.perm_append_comm_assoc (s ++ A') Rr _).trans (List.Perm.append_left Rr ?_)
    refine (List.Perm.append_left (s ++ A') (List.perm_append_comm_assoc Pq Pp K)).trans ?_
    refine (List.perm_append_comm_assoc (s ++ A') Pp _).trans (List.Perm.append_left Pp ?_)
    rw [List.append_assoc]
    exact List.Perm.append_left s (List.perm_append_comm_assoc A' Pq K)
  refine (List.Perm.append_left M (List.Perm.append_left A h1)).trans ?_
  have h2 : ∀ Z : List α, (M ++ (A ++ (A' ++ Z))).Perm (A' ++ (M ++ (A ++ Z))) := fun Z => (List.Perm.append_left M (List.perm_append_comm_assoc A A' Z)).trans (List.perm_append_comm_assoc M A' _)
  have h3 : ∀ X Z : List α, (M ++ (A ++ (X ++ Z))).Perm (X ++ (M ++ (A ++ Z))) := fun X Z => (List.Perm.append_left M (List.perm_append_comm_assoc A X Z)).trans (List.perm_append_comm_assoc M X _)
  refine (h3 Rr _).trans (List.Perm.append_left Rr ?_)
  refine (h3 Pp _).trans (List.Perm.append_left Pp ?_)
  refine (h3 s _).trans (List.Perm.append_left s ?_)
  exact (h3 Pq _).trans (List.Perm.append_left Pq (h2 K))
set_option maxHeartbeats 16000000 in
theorem ringcalls_walk {w : World} {a : Option Addr} {len cap : Nat} {C : Nat → Call2} (hC : CallsIn2 w a len C) (many size owner : Int) (k : Call2) (hk : Reads w 1 k.x k.bs.length (vals k.bs)) :
    Does Try.prog 8 [.int .i64 many, .int .i64 size, .int .i64 owner, .slice a len cap, k.v] w fun v w' => v = .bool true ∧ Grows w w' := by
  refine s8 rfl ?_
  refine row_in ?_
  refine (SH.nil w).boxK [_, _, _, _] fun b9 w1 hL => ?_
  refine if_in ?_
  refine (alive2_spec w1).mono ?_
  rintro _ w2 ⟨rfl, hg2⟩
  have hL := hL.grows hg2
  refine ⟨false, rfl, ?_⟩
  refine skip_in ?_
  refine if_in ?_
  refine (great2_spec (hC.grows hL.grown) many).mono ?_
  rintro _ w2 ⟨rfl, g, rfl, hgr⟩
  cases g
  rotate_left
  · refine row_in ?_
    refine ret_in ?_
    exact ⟨rfl, hL.grown⟩
  obtain ⟨hmany, hlen, hbs⟩ := hgr rfl
  refine ⟨_, hL.lds rfl, ?_⟩
  refine ⟨rfl, _, rfl, ?_⟩
  refine hL.newG fun b22 w3 hL3 hg3 => ?_
  have hL3 : SH w w3 (Cl b22 64 k.l :: Cl b9 64 k.l :: []) := hL3
  refine (great2_spec (callsIn2_one hL3 k (hk.grows hL3.grown)) 1).mono ?_
  rintro _ w3 ⟨rfl, g, rfl, hgr⟩
  cases g
  rotate_left
  · refine row_in ?_
    refine ret_in ?_
    exact ⟨rfl, hL3.grown⟩
  obtain ⟨_, _, hkb⟩ := hgr rfl
  have hkb : k.bs.length ≤ 1600 := hkb 0 (by decide)
  have hL := hL3.tail
  clear hL3 hg3 hg2 hgr
  refine skip_in ?_
  refine reframe [0, 1, 2, 3, 9] [.int .i64 many, .int .i64 size, .int .i64 owner, .slice a len cap, ptr b9] rfl fun g => ?_
  refine row_in ?_
  refine (new_spec many w3).mono ?_
  rintro _ w4 ⟨hno, hyes⟩
  by_cases hout : many < 1 ∨ 1024 < many
  · obtain ⟨rfl, rfl⟩ := hno hout
    refine row_in ?_
    refine (rnew_spec many w4).mono ?_
    rintro _ w5 ⟨hno, _⟩
    obtain ⟨rfl, rfl⟩ := hno hout
    refine if_in ?_
    refine ⟨true, rfl, ?_⟩
    refine row_in ?_
    refine ⟨true, rfl, ?_⟩
    refine ⟨true, rfl, ?_⟩
    refine ret_in ?_
    exact ⟨rfl, hL.grown⟩
  obtain ⟨p, h, _, rfl, hP⟩ := hyes (by omega)
  have hL : SH w w4 (PoolS 82 87 p h (List.replicate many.toNat noBuf) [Cl b9 64 k.l]) := hL.join hP (newpool_unshared _ _ _ _ _)
  clear hyes hno hP
  refine row_in ?_
  refine (rnew_spec many w4).mono ?_
  rintro _ w5 ⟨_, hyes⟩
  obtain ⟨q, h', _, rfl, hP⟩ := hyes (by omega)
  have hL : SH w w5 (PoolS 50 84 q h' (List.replicate many.toNat noBuf) (PoolS 82 87 p h (List.replicate many.toNat noBuf) [Cl b9 64 k.l])) := hL.join hP (newpool_unshared _ _ _ _ _)
  clear hyes hP
  obtain ⟨n, hn, rfl⟩ : ∃ n : Nat, n ≤ 100 ∧ many = n := ⟨many.toNat, by omega, by omega⟩
  have hpos : 1 ≤ n := by omega
  rw [Int.toNat_natCast] at hL
  refine if_in ?_
  refine ⟨false, rfl, ?_⟩
  refine ⟨false, rfl, ?_⟩
  refine skip_in ?_
  refine reframe [0, 1, 2, 3, 9, 11, 13] [.int .i64 n, .int .i64 size, .int .i64 owner, .slice a len cap, ptr b9, ptr p, ptr q] rfl fun g => ?_
  refine row_in ?_
  refine (ringnew_spec p size owner w5).mono ?_
  rintro _ w6 ⟨hno, hyes⟩
  by_cases hout : size < 1 ∨ 256 < size ∨ owns owner = false
  · obtain ⟨rfl, rfl⟩ := hno hout
    refine row_in ?_
    refine (refnew_spec q size owner w6).mono ?_
    rintro _ w7 ⟨hno, _⟩
    obtain ⟨rfl, rfl⟩ := hno hout
    refine if_in ?_
    refine ⟨false, rfl, ?_⟩
    refine ⟨true, rfl, ?_⟩
    refine ⟨true, rfl, ?_⟩
    refine ⟨false, rfl, ?_⟩
    refine skip_in ?_
    refine if_in ?_
    refine ⟨true, rfl, ?_⟩
    refine row_in ?_
    refine ret_in ?_
    exact ⟨rfl, hL.grown⟩
  have ho : owns owner = true := by cases ho : owns owner; exact absurd (.inr (.inr ho)) hout; rfl
  obtain ⟨rp, sb, rfl, hR⟩ := hyes (by omega) (by omega) ho
  have hL := hL.join hR (ring_unshared _ _ _ _)
  clear hyes hno hR
  refine row_in ?_
  refine (refnew_spec q size owner w6).mono ?_
  rintro _ w7 ⟨_, hyes⟩
  obtain ⟨sp, rfl, hS⟩ := hyes (by omega) (by omega) ho
  have hL := hL.join hS
  clear hyes hS
  obtain ⟨s, rfl⟩ : ∃ s : Nat, size = s := ⟨size.toNat, by omega⟩
  rw [Int.toNat_natCast] at hL
  have H : Quad w w7 [Cl b9 64 k.l] rp p sp q sb h h' n ⟨owner, List.replicate s 0, 0, 0, 0⟩ ⟨s, owner, [], 0⟩ (List.replicate n noBuf) (List.replicate n noBuf) (.slice none 0 0) [] := by
    refine ⟨hL.perm ?_, .none none, Rel2.new n s owner (by omega) (by omega)⟩
    refine (List.perm_append_comm_assoc [_] (RingS rp sb p ⟨owner, List.replicate s 0, 0, 0, 0⟩ []) _).trans (List.Perm.append_left (RingS rp sb p ⟨owner, List.replicate s 0, 0, 0, 0⟩ []) ?_)
    exact (List.perm_append_comm_assoc ([_] ++ PoolS 50 84 q h' (List.replicate n noBuf) []) (PoolS 82 87 p h (List.replicate n noBuf) []) [Cl b9 64 k.l])
  clear hL
  refine if_in ?_
  refine ⟨false, rfl, ?_⟩
  refine ⟨false, rfl, ?_⟩
  refine ⟨false, rfl, ?_⟩
  refine ⟨false, rfl, ?_⟩
  refine skip_in ?_
  refine if_in ?_
  refine ⟨false, rfl, ?_⟩
  refine ⟨false, rfl, ?_⟩
  refine skip_in ?_
  refine reframe [3, 9, 11, 13, 15, 17] [.slice a len cap, ptr b9, ptr p, ptr q, ptr rp, ptr sp] rfl fun g => ?_
  refine seq_in (row_in ?_)
  refine block_in ?_
  refine loop_rule (10 :: 19 :: List.range' 85 24) rfl [19] (fun (i : Nat) => [.int .i64 i]) (fun i w' => i ≤ len ∧ ∃ G S b c v A, Quad w w' [Cl b9 64 k.l] rp p sp q sb h h' n G S b c v A) (fun i => len - i) 0 rfl ⟨Nat.zero_le _, _, _, _, _, _, _, H⟩ ?_
  clear H
  rintro g2 i w8 ⟨hi, G, S, b, c, v, A, H⟩
  refine if_in ?_
  by_cases hil : i < len
  · refine ⟨true, decide_eq_true (by omega), ?_⟩
    refine skip_in ?_
    have hg8 : Grows w w8 := H.hL.grown
    obtain ⟨x, rfl, hlds⟩ := (hC.grows hg8).lds hil
    refine block_then ?_
    refine row_in ?_
    refine ⟨⟨by omega, by omega⟩, _, rfl, ?_⟩
    refine ⟨_, hlds, ?_⟩
    refine (do2_spec H (C i) (hC.bytes i hil) (by omega) (hbs i hil)).mono ?_
    rintro _ w9 ⟨rfl, G, S, b, c, v, A, H⟩
    refine ⟨false, rfl, ?_⟩
    refine (agree2_spec H (by omega)).mono ?_
    rintro _ w10 ⟨rfl, hg⟩
    refine ⟨false, rfl, ?_⟩
    refine cond_in ?_
    refine skip_in ?_
    refine ops_in ?_
    refine ⟨((i + 1 : Nat) : Int), (IntWalk.i64_in _ (by omega)).trans (by omega), ?_⟩
    exact ⟨i + 1, rfl, ⟨hil, _, _, _, _, _, _, H.grows hg⟩, by omega⟩
  refine ⟨false, decide_eq_false (by omega), ?_⟩
  refine exit_in ?_
  clear hbs hlen hmany hC hi hil
  refine row_in ?_
  have hlb := H.rel.len
  have hlc := H.rel.lenc
  refine (clone_spec (ring_pool H.hL) (by omega) (by omega)).mono ?_
  rintro _ w9 ⟨p', j, rfl, hL⟩
  have hL : SH w w9 (PoolS 82 87 p' j b [] ++ RingS rp sb p G (PoolS 82 87 p h b (Cl sp 101 (S.hdr q v) :: PoolS 50 84 q h' c (A ++ [Cl b9 64 k.l])))) := hL.perm (List.Perm.append_left (PoolS 82 87 p' j b []) (List.perm_append_comm_assoc (PoolS 82 87 p h b []) (RingS rp sb p G []) _))
  have H2 : Quad w w9 (PoolS 82 87 p' j b [Cl b9 64 k.l]) rp p sp q sb h h' n G S b c v A := quad_in (PoolS 82 87 p' j b []) hL H.own H.rel
  clear hL
  refine row_in ?_
  refine (copy_spec H2.ref.pool (by omega) (by omega)).mono ?_
  rintro _ w10 ⟨q', j', rfl, hL⟩
  have hL : SH w w10 (PoolS 50 84 q' j' c [] ++ RingS rp sb p G (PoolS 82 87 p h b (Cl sp 101 (S.hdr q v) :: PoolS 50 84 q h' c (A ++ (PoolS 82 87 p' j b [Cl b9 64 k.l]))))) := by
    refine hL.perm (List.Perm.append_left (PoolS 50 84 q' j' c []) ?_)
    refine (List.perm_append_comm_assoc (PoolS 50 84 q h' c []) [Cl sp 101 (S.hdr q v)] _).trans ?_
    exact (quad_perm (RingS rp sb p G (PoolS 82 87 p h b [])) (Cl sp 101 (S.hdr q v) :: PoolS 50 84 q h' c []) A _).symm
  have H3 : Quad w w10 (PoolS 50 84 q' j' c (PoolS 82 87 p' j b [Cl b9 64 k.l])) rp p sp q sb h h' n G S b c v A := quad_in (PoolS 50 84 q' j' c []) hL H.own H.rel
  clear hL H2
  refine if_in ?_
  refine ⟨false, rfl, ?_⟩
  refine skip_in ?_
  refine reframe [9, 11, 13, 15, 17, 20, 21] [ptr b9, ptr p, ptr q, ptr rp, ptr sp, ptr p', ptr q'] rfl fun g3 => ?_
  refine row_in ?_
  refine (ringclone_spec H3.hL H.rel.ok p').mono ?_
  rintro _ w11 ⟨rp', sb', rfl, hN⟩
  have hL := H3.hL.join hN (ring_unshared _ _ _ _)
  have H4 : Quad w w11 (RingS rp' sb' p' G (PoolS 50 84 q' j' c (PoolS 82 87 p' j b [Cl b9 64 k.l]))) rp p sp q sb h h' n G S b c v A := quad_in (RingS rp' sb' p' G []) hL H.own H.rel
  clear hL hN H3
  refine reframe [9, 11, 13, 15, 17, 20, 21, 22] [ptr b9, ptr p, ptr q, ptr rp, ptr sp, ptr p', ptr q', ptr rp'] rfl fun g3 => ?_
  refine draw_in ?_
  have H4 := H4.grows (Grows.drew _)
  refine ⟨true, rfl, ?_⟩
  refine ⟨_, H4.aside.lds rfl, ?_⟩
  refine (rcopy_spec H4.ref q' H.rel.rlen).mono ?_
  rintro _ w12 ⟨sp', v', A', rfl, hv', hN⟩
  have hunsh : ∀ a ∈ (Cl sp' 101 (S.hdr q' v') :: A'), ∀ b, ¬ a.sh b := by
    intro a ha
    rcases List.mem_cons.1 ha with rfl | ha
    · exact fun b hb => hb
    · exact hv'.unshared a ha
  have hL := H4.hL.join hN hunsh
  have H5 : Quad w w12 ((Cl sp' 101 (S.hdr q' v') :: A') ++ (RingS rp' sb' p' G (PoolS 50 84 q' j' c (PoolS 82 87 p' j b [Cl b9 64 k.l])))) rp p sp q sb h h' n G S b c v A := quad_in (Cl sp' 101 (S.hdr q' v') :: A') hL H.own H.rel
  clear hL hN H4
  have H6 : Quad w w12 (RingS rp sb p G (PoolS 82 87 p h b (Cl sp 101 (S.hdr q v) :: PoolS 50 84 q h' c (A ++ [Cl b9 64 k.l])))) rp' p' sp' q' sb' j j' n G S b c v' A' :=
    ⟨H5.hL.perm (copy_perm (RingS rp sb p G (PoolS 82 87 p h b (Cl sp 101 (S.hdr q v) :: PoolS 50 84 q h' c []))) A [Cl sp' 101 (S.hdr q' v')] A' (RingS rp' sb' p' G []) (PoolS 50 84 q' j' c []) (PoolS 82 87 p' j b []) [Cl b9 64 k.l]), hv', H5.rel⟩
  clear H5
  have kl : ∀ {w' : World}, SH w w' (RingS rp sb p G (PoolS 82 87 p h b (Cl sp 101 (S.hdr q v) :: PoolS 50 84 q h' c (A ++ [Cl b9 64 k.l])))) → loadIs w' ⟨b9, 0, none⟩ (some 4) (.agg k.l.toArray) := fun hL => ⟨_, (hL.sub ((List.sublist_append_right A _).trans (List.sublist_append_right (RingS rp sb p G (PoolS 82 87 p h b (Cl sp 101 (S.hdr q v) :: PoolS 50 84 q h' c []))) _))).lds rfl, rfl⟩
  refine ⟨⟨kl H6.aside, trivial⟩, ?_⟩
  refine (do2_spec H6 k hk (by omega) hkb).mono ?_
  rintro _ w13 ⟨rfl, _, _, _, _, _, _, H7⟩
  have hL := H7.aside
  clear H7 H6
  refine ⟨⟨kl hL, trivial⟩, ?_⟩
  have H8 : Quad w w13 [Cl b9 64 k.l] rp p sp q sb h h' n G S b c v A := ⟨hL, H.own, H.rel⟩
  refine (agree2_spec H8 (by omega)).mono ?_
  rintro _ w14 ⟨rfl, hg⟩
  have H8 := H8.grows hg
  refine ⟨⟨kl H8.hL, trivial⟩, ?_⟩
  refine ret_in ?_
  exact ⟨rfl, H8.hL.grown⟩
end Go.Proofs.Ytjnjgmkkjglheaa
