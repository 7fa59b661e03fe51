/- PoolCalls, walked: whatever the calls, the law answers true. -/
import Derived.Test.YtjnjgmkkjglheaaAlive
namespace Go.Proofs.Ytjnjgmkkjglheaa
open Go Go.Den
attribute [local irreducible] wpC
theorem CallsIn.lds {w : World} {a : Option Addr} {len : Nat} {C : Nat → Call} (h : CallsIn w a len C) {i : Nat} (hi : i < len) : ∃ x, a = some x ∧ cellsAt w (x.add (i * 5)) 0 5 = some (C i).l := by
  obtain ⟨x, hx, hc⟩ := h.cells i hi
  refine ⟨x, hx, ?_⟩
  simp only [cellsAt]
  rw [hc 0 _ rfl, hc 1 _ rfl, hc 2 _ rfl, hc 3 _ rfl, hc 4 _ rfl]
  rfl
theorem callsIn_one {w0 w : World} {L R : List Atom} (h : SH w0 w L) (k : Call) {b : Nat} {t : TypeId} [p : AtB L b t k.l R] (hk : Reads w 1 k.x k.bs.length (vals k.bs)) : CallsIn w (some ⟨b, 0, none⟩) 1 (fun _ => k) :=
  ⟨fun i hi => ⟨_, rfl, fun j v hv => by
    have : i = 0 := by omega
    subst this
    rw [add_plain, add_plain, Nat.zero_mul, Nat.zero_add]
    exact h.ld hv⟩, fun i hi => hk⟩
theorem new_len {n : Int} (h1 : 1 ≤ n) : (List.replicate n.toNat noBuf).length = n.toNat := by simp
theorem newpool_unshared (T bT : TypeId) (p : Nat) (h : Home) (n : Nat) : ∀ a ∈ PoolS T bT p h (List.replicate n noBuf) [], ∀ b, ¬ a.sh b := by
  intro a ha b hb
  simp only [List.mem_cons, List.not_mem_nil, or_false] at ha
  rcases ha with rfl | rfl | rfl
  · exact hb
  · exact hb
  · obtain ⟨q, hq, h0, _⟩ := hb
    obtain ⟨B, hB, rfl⟩ := List.mem_map.1 hq
    obtain rfl := List.eq_of_mem_replicate hB
    exact h0 rfl
/-- The state of the plays: both pools, who say the same. -/
structure Both (w0 w : World) (R : List Atom) (p r : Nat) (h h' : Home) (n : Nat) (b c : List Buf) : Prop where
  hL : SH w0 w (PoolS 82 87 p h b (PoolS 50 84 r h' c R))
  hab : abs b = abs c
  good : Good b
  len : b.length = n
theorem Both.lenc {w0 w : World} {R : List Atom} {p r : Nat} {h h' : Home} {n : Nat} {b c : List Buf} (B : Both w0 w R p r h h' n b c) : c.length = n := by rw [← abs_length B.hab]; exact B.len
theorem Both.grows {w0 w w' : World} {R : List Atom} {p r : Nat} {h h' : Home} {n : Nat} {b c : List Buf} (B : Both w0 w R p r h h' n b c) (g : Grows w w') : Both w0 w' R p r h h' n b c := ⟨B.hL.grows g, B.hab, B.good, B.len⟩
theorem Both.p {w0 w : World} {R : List Atom} {p r : Nat} {h h' : Home} {n : Nat} {b c : List Buf} (B : Both w0 w R p r h h' n b c) : PoolR 82 87 w p h b := B.hL.poolR
theorem Both.r {w0 w : World} {R : List Atom} {p r : Nat} {h h' : Home} {n : Nat} {b c : List Buf} (B : Both w0 w R p r h h' n b c) : PoolR 50 84 w r h' c := (pool_tail B.hL).poolR
theorem doboth_spec {w0 w : World} {R : List Atom} {p r : Nat} {h h' : Home} {n : Nat} {b c : List Buf} (B : Both w0 w R p r h h' n b c) (k : Call) (hx : Reads w0 1 k.x k.bs.length (vals k.bs)) (hn : n ≤ 1000000) (hbs : k.bs.length ≤ 1600) :
    Does Try.prog 15 [ptr p, ptr r, k.v] w fun v w' => v = .bool true ∧ ∃ b' c', Both w0 w' R p r h h' n b' c' := by
  refine (do_spec B.hL B.hab k hx (by rw [B.len]; exact hn) hbs).mono ?_
  rintro v w' ⟨hv, s, s', hL⟩
  exact ⟨hv, _, _, hL, doB_abs B.hab k s s', B.good.doB k s, by rw [doB_length]; exact B.len⟩
theorem agreeboth_spec {w0 w : World} {R : List Atom} {p r : Nat} {h h' : Home} {n : Nat} {b c : List Buf} (B : Both w0 w R p r h h' n b c) (hn : n ≤ 1000000) :
    Does Try.prog 16 [ptr p, ptr r] w fun v w' => v = .bool true ∧ Grows w w' :=
  agree_spec B.p B.r B.hab B.good (by rw [B.len]; exact hn)
theorem turn4 {α : Type} (A B C D X : List α) : (A ++ (B ++ (C ++ (D ++ X)))).Perm (C ++ (A ++ (D ++ (B ++ X)))) := by
  refine ((List.perm_append_comm_assoc B C (D ++ X)).append_left A).trans ?_
  refine (List.perm_append_comm_assoc A C (B ++ (D ++ X))).trans ?_
  exact (((List.perm_append_comm_assoc B D X)).append_left A).append_left C
set_option maxHeartbeats 8000000 in
theorem poolcalls_walk {w : World} {a : Option Addr} {len cap : Nat} {C : Nat → Call} (hC : CallsIn w a len C) (many : Int) (k : Call) (hk : Reads w 1 k.x k.bs.length (vals k.bs)) (owner : Int) :
    Does Try.prog 3 [.int .i64 many, .slice a len cap, k.v, .int .i64 owner] w fun v w' => v = .bool true ∧ Grows w w' := by
  refine s3 rfl ?_
  refine row_in ?_
  refine (SH.nil w).boxK [_, _, _, _, _] fun b6 w1 hL => ?_
  refine if_in ?_
  refine (alive_spec w1).mono ?_
  rintro _ w2 ⟨rfl, hg2⟩
  have hL := hL.grows hg2
  refine ⟨false, rfl, ?_⟩
  refine skip_in ?_
  refine if_in ?_
  refine (great_spec (hC.grows hL.grown) many).mono ?_
  rintro _ w2 ⟨rfl, g, rfl, hgr⟩
  cases g
  rotate_left
  · refine row_in ?_
    refine ret_in ?_
    exact ⟨rfl, hL.grown⟩
  obtain ⟨hmany, hlen, hbs⟩ := hgr rfl
  refine ⟨_, hL.lds rfl, ?_⟩
  refine ⟨rfl, _, rfl, ?_⟩
  refine hL.newG fun b22 w3 hL3 hg3 => ?_
  have hL3 : SH w w3 (Cl b22 25 k.l :: Cl b6 25 k.l :: []) := hL3
  refine (great_spec (callsIn_one hL3 k (hk.grows hL3.grown)) 1).mono ?_
  rintro _ w3 ⟨rfl, g, rfl, hgr⟩
  cases g
  rotate_left
  · refine row_in ?_
    refine ret_in ?_
    exact ⟨rfl, hL3.grown⟩
  obtain ⟨_, _, hkb⟩ := hgr rfl
  have hkb : k.bs.length ≤ 1600 := hkb 0 (by decide)
  have hL := hL3.tail
  clear hL3 hg3 hg2 hgr
  refine skip_in ?_
  refine reframe [0, 1, 3, 6] [.int .i64 many, .slice a len cap, .int .i64 owner, ptr b6] rfl fun g => ?_
  refine row_in ?_
  refine (new_spec many w3).mono ?_
  rintro _ w4 ⟨hno, hyes⟩
  by_cases hout : many < 1 ∨ 1024 < many
  · obtain ⟨rfl, rfl⟩ := hno hout
    refine row_in ?_
    refine (rnew_spec many w4).mono ?_
    rintro _ w5 ⟨hno, _⟩
    obtain ⟨rfl, rfl⟩ := hno hout
    refine if_in ?_
    refine ⟨false, rfl, ?_⟩
    refine ⟨true, rfl, ?_⟩
    refine ⟨true, rfl, ?_⟩
    refine ⟨false, rfl, ?_⟩
    refine skip_in ?_
    refine if_in ?_
    refine ⟨true, rfl, ?_⟩
    refine row_in ?_
    refine ret_in ?_
    exact ⟨rfl, hL.grown⟩
  obtain ⟨p, h, _, rfl, hP⟩ := hyes (by omega)
  have hL : SH w w4 (PoolS 82 87 p h (List.replicate many.toNat noBuf) [Cl b6 25 k.l]) := hL.join hP (newpool_unshared _ _ _ _ _)
  clear hyes hno hP
  refine row_in ?_
  refine (rnew_spec many w4).mono ?_
  rintro _ w5 ⟨_, hyes⟩
  obtain ⟨r, h', _, rfl, hP⟩ := hyes (by omega)
  have hL : SH w w5 (PoolS 50 84 r h' (List.replicate many.toNat noBuf) (PoolS 82 87 p h (List.replicate many.toNat noBuf) [Cl b6 25 k.l])) := hL.join hP (newpool_unshared _ _ _ _ _)
  clear hyes hP
  obtain ⟨n, hn, rfl⟩ : ∃ n : Nat, n ≤ 100 ∧ many = n := ⟨many.toNat, by omega, by omega⟩
  rw [Int.toNat_natCast] at hL
  have hB : Both w w5 [Cl b6 25 k.l] p r h h' n (List.replicate n noBuf) (List.replicate n noBuf) := ⟨pool_swap hL, rfl, Good.new n, by simp⟩
  clear hL
  refine if_in ?_
  refine ⟨false, rfl, ?_⟩
  refine ⟨false, rfl, ?_⟩
  refine ⟨false, rfl, ?_⟩
  refine ⟨false, rfl, ?_⟩
  refine skip_in ?_
  refine if_in ?_
  refine ⟨false, rfl, ?_⟩
  refine ⟨false, rfl, ?_⟩
  refine skip_in ?_
  refine reframe [1, 3, 6, 9, 11] [.slice a len cap, .int .i64 owner, ptr b6, ptr p, ptr r] rfl fun g => ?_
  refine seq_in (row_in ?_)
  refine block_in ?_
  refine loop_rule (13 :: 8 :: List.range' 51 20) rfl [13] (fun (s : Nat × List Buf × List Buf) => [.int .i64 s.1]) (fun s w' => s.1 ≤ len ∧ Both w w' [Cl b6 25 k.l] p r h h' n s.2.1 s.2.2) (fun s => len - s.1) (0, _, _) rfl ⟨Nat.zero_le _, hB⟩ ?_
  clear hB
  rintro g2 ⟨i, b, c⟩ w6 ⟨hi, hB⟩
  have hi : i ≤ len := hi
  have hB : Both w w6 [Cl b6 25 k.l] p r h h' n b c := hB
  refine if_in ?_
  by_cases hil : i < len
  · refine ⟨true, decide_eq_true (by omega), ?_⟩
    refine skip_in ?_
    have hg6 : Grows w w6 := hB.hL.grown
    obtain ⟨x, rfl, hlds⟩ := (hC.grows hg6).lds hil
    refine block_then ?_
    refine row_in ?_
    refine ⟨⟨by omega, by omega⟩, _, rfl, ?_⟩
    refine ⟨_, hlds, ?_⟩
    refine (doboth_spec hB (C i) (hC.bytes i hil) (by omega) (hbs i hil)).mono ?_
    rintro _ w7 ⟨rfl, b, c, hB⟩
    refine ⟨false, rfl, ?_⟩
    refine (agreeboth_spec hB (by omega)).mono ?_
    rintro _ w8 ⟨rfl, hg⟩
    refine ⟨false, rfl, ?_⟩
    refine cond_in ?_
    refine skip_in ?_
    refine ops_in ?_
    refine ⟨((i + 1 : Nat) : Int), (IntWalk.i64_in _ (by omega)).trans (by omega), ?_⟩
    exact ⟨(i + 1, b, c), rfl, ⟨hil, hB.grows hg⟩, by simp only []; omega⟩
  refine ⟨false, decide_eq_false (by omega), ?_⟩
  refine exit_in ?_
  clear hbs hlen hmany hC hi hil
  refine row_in ?_
  have hg6 := hB.hL.grown
  refine (clone_spec hB.hL (by rw [hB.len]; omega) (by rw [hB.len]; omega)).mono ?_
  rintro _ w7 ⟨p', j, rfl, hL⟩
  refine reframe [3, 6, 9, 11, 14] [.int .i64 owner, ptr b6, ptr p, ptr r, ptr p'] rfl fun g3 => ?_
  refine draw_in ?_
  have hL := hL.drew
  refine ⟨true, rfl, ?_⟩
  have hk6 : ∀ {w' : World} {L : List Atom}, SH w w' (L ++ [Cl b6 25 k.l]) → cellsAt w' ⟨b6, 0, none⟩ 0 5 = some k.l := fun {w' L} hL => (hL.sub (List.sublist_append_right L _)).lds rfl
  have hL : SH w w7.drew (PoolS 82 87 p' j b (PoolS 82 87 p h b (PoolS 50 84 r h' c [Cl b6 25 k.l]))) := hL
  refine ⟨_, hk6 (L := PoolS 82 87 p' j b (PoolS 82 87 p h b (PoolS 50 84 r h' c []))) hL, ?_⟩
  have hL : SH w w7.drew (PoolS 50 84 r h' c (PoolS 82 87 p' j b (PoolS 82 87 p h b [Cl b6 25 k.l]))) := hL.perm (((List.perm_append_comm_assoc (PoolS 82 87 p h b []) (PoolS 50 84 r h' c []) [Cl b6 25 k.l]).append_left (PoolS 82 87 p' j b [])).trans (List.perm_append_comm_assoc (PoolS 82 87 p' j b []) (PoolS 50 84 r h' c []) _))
  refine (copy_spec hL (by rw [hB.lenc]; omega) (by rw [hB.lenc]; omega)).mono ?_
  rintro _ w8 ⟨r', j', rfl, hL⟩
  have hL : SH w w8 (PoolS 82 87 p' j b (PoolS 50 84 r' j' c (PoolS 82 87 p h b (PoolS 50 84 r h' c [Cl b6 25 k.l])))) := hL.perm (turn4 (PoolS 50 84 r' j' c []) (PoolS 50 84 r h' c []) (PoolS 82 87 p' j b []) (PoolS 82 87 p h b []) [Cl b6 25 k.l])
  have hB2 : Both w w8 (PoolS 82 87 p h b (PoolS 50 84 r h' c [Cl b6 25 k.l])) p' r' j j' n b c := ⟨hL, hB.hab, hB.good, hB.len⟩
  refine ⟨⟨⟨_, hk6 (L := PoolS 82 87 p' j b (PoolS 50 84 r' j' c (PoolS 82 87 p h b (PoolS 50 84 r h' c [])))) hL, rfl⟩, trivial⟩, ?_⟩
  refine (doboth_spec hB2 k hk (by omega) hkb).mono ?_
  rintro _ w9 ⟨rfl, b9, c9, hB9⟩
  have hL9 : SH w w9 (PoolS 82 87 p h b (PoolS 50 84 r h' c [Cl b6 25 k.l])) := pool_tail (pool_tail hB9.hL)
  have hB10 : Both w w9 [Cl b6 25 k.l] p r h h' n b c := ⟨hL9, hB.hab, hB.good, hB.len⟩
  have pin : ∀ {w'}, Both w w' [Cl b6 25 k.l] p r h h' n b c → loadIs w' ⟨b6, 0, none⟩ (some 5) (.agg k.l.toArray) := fun {w'} B => ⟨_, hk6 (L := PoolS 82 87 p h b (PoolS 50 84 r h' c [])) B.hL, rfl⟩
  clear hB9 hL9 hB2 hL hB
  refine ⟨⟨pin hB10, trivial⟩, ?_⟩
  refine (agreeboth_spec hB10 (by omega)).mono ?_
  rintro _ w10 ⟨rfl, hg⟩
  have hB := hB10.grows hg
  refine ⟨⟨pin hB, trivial⟩, ?_⟩
  refine (held_spec hB.p owner (by rw [hB.len]; omega)).mono ?_
  rintro v w11 ⟨A, hv, hA⟩
  have hv := hv.reads hA.holds
  have hB := hB.grows hA.grown
  refine ⟨⟨pin hB, trivial⟩, ?_⟩
  refine (rheld_spec hB.r owner (by rw [hB.lenc]; omega)).mono ?_
  rintro u w12 ⟨A2, hu, hA2⟩
  have hu := hu.reads hA2.holds
  have hv := hv.grows hA2.grown
  have hB := hB.grows hA2.grown
  refine ⟨⟨pin hB, trivial⟩, ?_⟩
  have hsz : (heldOf b owner).length ≤ 1000000 := Nat.le_trans (heldUpto_length _ _ _) (by rw [hB.len]; omega)
  refine (sameints_spec hv hu hsz).mono ?_
  rintro _ w13 ⟨rfl, hg⟩
  have hB := hB.grows hg
  refine ⟨⟨pin hB, trivial⟩, ?_⟩
  refine ret_in ?_
  exact ⟨(rfl : _ = Value.bool (decide (heldOf b owner = rheldOf c owner))).trans (by rw [decide_eq_true (held_same hB.hab hB.good owner)]), hB.hL.grown⟩
end Go.Proofs.Ytjnjgmkkjglheaa
