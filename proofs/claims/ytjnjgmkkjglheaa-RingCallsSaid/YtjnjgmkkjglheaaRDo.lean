/- A call on a ring and on the document's ring: they answer alike, and stay alike. -/
import Derived.Test.YtjnjgmkkjglheaaRPure
namespace Go.Proofs.Ytjnjgmkkjglheaa
open Go Go.Den
attribute [local irreducible] wpC
/-- Both rings over both pools, in memory. -/
structure Quad (w0 w : World) (R : List Atom) (rp p sp q : Nat) (sb h h' : Home) (n : Nat) (G : Rg) (S : Rr) (b c : List Buf) (v : Value) (A : List Atom) : Prop where
  hL : SH w0 w (RingS rp sb p G (PoolS 82 87 p h b (Cl sp 101 (S.hdr q v) :: PoolS 50 84 q h' c (A ++ R))))
  own : OwnRow 3 1 v S.rows.length (ints S.rows) A
  rel : Rel2 n G S b c
theorem quad_perm {α : Type} (X Y A R : List α) : (X ++ (Y ++ (A ++ R))).Perm (Y ++ (A ++ (X ++ R))) :=
  (List.perm_append_comm_assoc X Y (A ++ R)).trans (List.Perm.append_left Y (List.perm_append_comm_assoc X A R))
section
variable {w0 w : World} {R : List Atom} {rp p sp q : Nat} {sb h h' : Home} {n : Nat} {G : Rg} {S : Rr} {b c : List Buf} {v : Value} {A : List Atom}
theorem Quad.grows {w' : World} (H : Quad w0 w R rp p sp q sb h h' n G S b c v A) (g : Grows w w') : Quad w0 w' R rp p sp q sb h h' n G S b c v A := ⟨H.hL.grows g, H.own, H.rel⟩
/-- The document's ring first. -/
theorem quad_ref (hL : SH w0 w (RingS rp sb p G (PoolS 82 87 p h b (Cl sp 101 (S.hdr q v) :: PoolS 50 84 q h' c (A ++ R))))) (hv : OwnRow 3 1 v S.rows.length (ints S.rows) A) : RefIn w0 w sp q h' S c v A (RingS rp sb p G (PoolS 82 87 p h b R)) :=
  ⟨hv, hL.perm (quad_perm (RingS rp sb p G (PoolS 82 87 p h b [])) (Cl sp 101 (S.hdr q v) :: PoolS 50 84 q h' c []) A R)⟩
theorem Quad.ref (H : Quad w0 w R rp p sp q sb h h' n G S b c v A) : RefIn w0 w sp q h' S c v A (RingS rp sb p G (PoolS 82 87 p h b R)) := quad_ref H.hL H.own
theorem ref_quad (H : RefIn w0 w sp q h' S c v A (RingS rp sb p G (PoolS 82 87 p h b R))) : SH w0 w (RingS rp sb p G (PoolS 82 87 p h b (Cl sp 101 (S.hdr q v) :: PoolS 50 84 q h' c (A ++ R)))) :=
  H.hL.perm (quad_perm (RingS rp sb p G (PoolS 82 87 p h b [])) (Cl sp 101 (S.hdr q v) :: PoolS 50 84 q h' c []) A R).symm
theorem Quad.pool (H : Quad w0 w R rp p sp q sb h h' n G S b c v A) : PoolR 82 87 w p h b := (ring_pool H.hL).poolR
theorem Quad.rpool (H : Quad w0 w R rp p sp q sb h h' n G S b c v A) : PoolR 50 84 w q h' c := H.ref.pool.poolR
/-- What lies aside may be put away, or come to. -/
theorem quad_sub {R' : List Atom} (H : Quad w0 w R' rp p sp q sb h h' n G S b c v A) (hs : R.Sublist R') : Quad w0 w R rp p sp q sb h h' n G S b c v A :=
  ⟨H.hL.sub (.cons_cons _ (.cons_cons _ (.cons_cons _ (.cons_cons _ (.cons_cons _ (.cons_cons _ (.cons_cons _ (.cons_cons _ (.cons_cons _ (hs.append_left A)))))))))), H.own, H.rel⟩
theorem quad_in (X : List Atom) (hL : SH w0 w (X ++ RingS rp sb p G (PoolS 82 87 p h b (Cl sp 101 (S.hdr q v) :: PoolS 50 84 q h' c (A ++ R))))) (hv : OwnRow 3 1 v S.rows.length (ints S.rows) A) (hr : Rel2 n G S b c) : Quad w0 w (X ++ R) rp p sp q sb h h' n G S b c v A := by
  refine ⟨hL.perm ?_, hv, hr⟩
  refine (List.perm_append_comm_assoc X (RingS rp sb p G (PoolS 82 87 p h b (Cl sp 101 (S.hdr q v) :: PoolS 50 84 q h' c []))) (A ++ R)).trans ?_
  exact List.Perm.append_left (RingS rp sb p G (PoolS 82 87 p h b (Cl sp 101 (S.hdr q v) :: PoolS 50 84 q h' c []))) (List.perm_append_comm_assoc X A R)
theorem Quad.out (X : List Atom) (H : Quad w0 w (X ++ R) rp p sp q sb h h' n G S b c v A) : SH w0 w (X ++ RingS rp sb p G (PoolS 82 87 p h b (Cl sp 101 (S.hdr q v) :: PoolS 50 84 q h' c (A ++ R)))) := by
  refine H.hL.perm ?_
  refine List.Perm.trans ?_ (List.perm_append_comm_assoc (RingS rp sb p G (PoolS 82 87 p h b (Cl sp 101 (S.hdr q v) :: PoolS 50 84 q h' c []))) X (A ++ R))
  exact List.Perm.append_left (RingS rp sb p G (PoolS 82 87 p h b (Cl sp 101 (S.hdr q v) :: PoolS 50 84 q h' c []))) (List.perm_append_comm_assoc A X R)
theorem Quad.aside (H : Quad w0 w R rp p sp q sb h h' n G S b c v A) : SH w0 w R := (H.hL.sub ((List.sublist_append_right A R).trans (List.sublist_append_right (RingS rp sb p G (PoolS 82 87 p h b (Cl sp 101 (S.hdr q v) :: PoolS 50 84 q h' c []))) (A ++ R))))
/-! ### One step on both -/
theorem quad_put (H : Quad w0 w R rp p sp q sb h h' n G S b c v A) {a : Option Addr} {cc : Nat} {bs : List Int} (hn : n ≤ 1000000) (hx : Reads w 1 (.slice a bs.length cc) bs.length (vals bs)) :
    Does Try.prog 34 [ptr rp, .slice a bs.length cc] w fun u w' => u = .int .i64 (putE G b bs.length) ∧ ∃ s, RefIn w0 w' sp q h' S c v A (RingS rp sb p (putG G b bs.length) (PoolS 82 87 p h (putB G b s bs) R)) := by
  refine (put_spec H.hL H.rel.ok hx (by rw [H.rel.len]; exact hn)).mono ?_
  rintro _ w' ⟨rfl, s, hL⟩
  exact ⟨rfl, s, quad_ref hL H.own⟩
theorem quad_move (H : Quad w0 w R rp p sp q sb h h' n G S b c v A) (z o : Int) :
    Does Try.prog 38 [ptr rp, .int .i64 z, .int .i64 o] w fun u w' => u = .int .i64 (moveE G b z o) ∧ RefIn w0 w' sp q h' S c v A (RingS rp sb p (moveG G b z o) (PoolS 82 87 p h (moveB G b z o) R)) := by
  refine (move_spec H.hL H.rel.ok).mono ?_
  rintro _ w' ⟨rfl, hL⟩
  exact ⟨rfl, quad_ref hL H.own⟩
end
section
variable {w0 w : World} {R : List Atom} {rp p sp q : Nat} {sb h h' : Home} {n : Nat} {G : Rg} {S : Rr} {b c : List Buf} {v : Value} {A : List Atom}
/-- Both, whatever they are by now. -/
def Fine (w0 : World) (R : List Atom) (rp p sp q : Nat) (sb h h' : Home) (n : Nat) (own : Int) (w : World) : Prop := ∃ G S b c v A, Quad w0 w R rp p sp q sb h h' n G S b c v A ∧ S.own = own
end
set_option maxHeartbeats 16000000 in
theorem do2_spec {w0 w : World} {R : List Atom} {rp p sp q : Nat} {sb h h' : Home} {n : Nat} {G : Rg} {S : Rr} {b c : List Buf} {v : Value} {A : List Atom} (H : Quad w0 w R rp p sp q sb h h' n G S b c v A) (k : Call2) (hk : Reads w0 1 k.x k.bs.length (vals k.bs)) (hn : n ≤ 1000) (hbs : k.bs.length ≤ 1600) :
    Does Try.prog 41 [ptr p, ptr rp, ptr q, ptr sp, k.v] w fun u w' => u = .bool true ∧ ∃ G S b c v A, Quad w0 w' R rp p sp q sb h h' n G S b c v A := by
  refine s41 rfl ?_
  refine row_in ?_
  refine H.hL.boxK [_, _, _, _] fun b9 w1 hL => ?_
  refine row_in ?_
  refine ⟨_, hL.ld rfl, ?_⟩
  refine (own_spec (hk.old hL) (vals_one _) (by omega)).mono ?_
  rintro ov w2 ⟨Ao, hv, hA⟩
  have hL := hL.join hA hv.unshared
  obtain ⟨oa, oc, rfl⟩ := hv.slice
  have hL : SH w0 w2 ((Cl b9 64 k.l :: Ao) ++ RingS rp sb p G (PoolS 82 87 p h b (Cl sp 101 (S.hdr q v) :: PoolS 50 84 q h' c (A ++ R)))) := hL.perm List.perm_middle
  have H : Quad w0 w2 (Cl b9 64 k.l :: (Ao ++ R)) rp p sp q sb h h' n G S b c v A := quad_in (Cl b9 64 k.l :: Ao) hL H.own H.rel
  clear hL
  have hown : Reads w2 1 (.slice oa k.bs.length oc) k.bs.length (vals k.bs) := hv.reads fun a ha => H.aside.holds a (by simp [ha])
  refine row_in ?_
  refine reframe [0, 1, 2, 3, 9, 11, 12] [ptr p, ptr rp, ptr q, ptr sp, ptr b9, .slice oa k.bs.length oc, .bool true] rfl fun g => ?_
  have kld : ∀ {w' : World} {G' : Rg} {S' : Rr} {b' c' : List Buf} {v' : Value} {A' : List Atom}, Quad w0 w' (Cl b9 64 k.l :: (Ao ++ R)) rp p sp q sb h h' n G' S' b' c' v' A' → ∀ (j : Nat) (u : Value), k.l[j]? = some u → w'.cell? ⟨b9, j, none⟩ = some u := fun H j u hu => H.aside.ld hu
  have fin : ∀ {w' : World} {G' : Rg} {S' : Rr} {b' c' : List Buf} {v' : Value} {A' : List Atom}, Quad w0 w' (Cl b9 64 k.l :: (Ao ++ R)) rp p sp q sb h h' n G' S' b' c' v' A' → ∃ G S b c v A, Quad w0 w' R rp p sp q sb h h' n G S b c v A := fun H => ⟨_, _, _, _, _, _, quad_sub H (.cons _ (List.sublist_append_right Ao R))⟩
  refine cut_rule (10 :: 12 :: List.range' 13 8 ++ List.range' 25 101) rfl [12] (fun (_ : Rg × Rr × List Buf × List Buf × Value × List Atom) => [.bool true]) (fun s w' => Quad w0 w' (Cl b9 64 k.l :: (Ao ++ R)) rp p sp q sb h h' n s.1 s.2.1 s.2.2.1 s.2.2.2.1 s.2.2.2.2.1 s.2.2.2.2.2) ?_ ?_
  · refine row_in ?_
    refine ⟨_, kld H 0 _ rfl, ?_⟩
    refine block_in ?_
    refine row_in ?_
    by_cases h0 : k.what = 0
    · refine ⟨true, decide_eq_true h0, ?_⟩
      refine cond_in ?_
      refine drawn_in ?_
      have H := H.grows (Grows.drew _)
      refine ⟨_, kld H 3 _ rfl, ?_⟩
      refine (quad_put H (by omega) (hown.grows (Grows.drew _))).mono ?_
      rintro _ w3 ⟨rfl, s, F⟩
      refine ⟨⟨(F.hL.sub ((List.sublist_append_right (RingS rp sb p (putG G b k.bs.length) (PoolS 82 87 p h (putB G b s k.bs) [])) _).trans ((List.sublist_append_right A _).trans (List.sublist_append_right (Cl sp 101 (S.hdr q v) :: PoolS 50 84 q h' c []) _)))).ld rfl, trivial⟩, ?_⟩
      refine (rput_spec F (hk) (by rw [H.rel.lenc]; omega) H.rel.rsize).mono ?_
      rintro _ w4 ⟨rfl, s', v', A', F⟩
      obtain ⟨hE, hrel⟩ := H.rel.put s s' k.bs
      have H := Quad.mk (ref_quad F) F.own hrel
      refine ⟨⟨kld H 3 _ rfl, trivial⟩, ?_⟩
      refine ⟨true, decide_eq_true hE, ?_⟩
      exact ⟨(_, _, _, _, _, _), rfl, H⟩
    refine ⟨false, decide_eq_false h0, ?_⟩
    refine cond_in ?_
    refine row_in ?_
    by_cases h1 : k.what = 1
    · refine ⟨true, decide_eq_true h1, ?_⟩
      refine cond_in ?_
      refine ifd_in ?_
      have H := H.grows (Grows.drew _)
      have hown := hown.grows (Grows.drew _)
      refine ⟨_, kld H 2 _ rfl, ?_⟩
      refine ⟨_, H.ref.hL.ld rfl, ?_⟩
      by_cases hfo : k.frm = S.own
      · refine ⟨true, decide_eq_true hfo, ?_⟩
        refine row_in ?_
        refine ret_in ?_
        exact ⟨rfl, fin H⟩
      refine ⟨false, decide_eq_false hfo, ?_⟩
      refine skip_in ?_
      refine row_in ?_
      refine ⟨_, kld H 2 _ rfl, ?_⟩
      refine (take_spec (ring_pool H.hL) k.frm hown (by rw [H.rel.len]; omega)).mono ?_
      rintro _ w3 ⟨s, rfl, hL⟩
      have F := quad_ref (pool_ring hL) H.own
      refine row_in ?_
      have kf : ∀ {w' : World} {b' c' : List Buf} {S' : Rr} {v' : Value} {A' : List Atom}, RefIn w0 w' sp q h' S' c' v' A' (RingS rp sb p G (PoolS 82 87 p h b' (Cl b9 64 k.l :: (Ao ++ R)))) → ∀ (j : Nat) (u : Value), k.l[j]? = some u → w'.cell? ⟨b9, j, none⟩ = some u := fun {w' b' c' S' v' A'} F j u hu =>
        (F.hL.sub ((List.sublist_append_right (RingS rp sb p G (PoolS 82 87 p h b' [])) _).trans ((List.sublist_append_right A' _).trans (List.sublist_append_right (Cl sp 101 (S'.hdr q v') :: PoolS 50 84 q h' c' []) _)))).ld hu
      refine ⟨_, kf F 2 _ rfl, ?_⟩
      refine ⟨_, kf F 3 _ rfl, ?_⟩
      refine (rtake_spec F.pool k.frm (hk.old F.hL) (by rw [H.rel.lenc]; omega)).mono ?_
      rintro _ w4 ⟨s', rfl, hL⟩
      have F := RefIn.back F.own hL
      have hrel := H.rel.ptake k.frm s s' k.bs
      have hN := takeN_abs H.rel.abs k.frm k.bs.length
      have hE := takeE_abs H.rel.abs k.frm k.bs.length
      have H := Quad.mk (ref_quad F) F.own hrel
      rw [← hN, ← hE]
      generalize takeB b k.frm s k.bs = b2 at *
      generalize takeB c k.frm s' k.bs = c2 at *
      generalize takeN b k.frm k.bs.length = N at *
      generalize takeE b k.frm k.bs.length = E at *
      refine reframe [1, 3, 9, 12, 13, 14, 15, 16] [ptr rp, ptr sp, ptr b9, .bool true, .int .i64 N, .int .i64 E, .int .i64 N, .int .i64 E] rfl fun g => ?_
      refine drawn_in ?_
      have H := H.grows (Grows.drew _)
      refine ⟨true, decide_eq_true rfl, ?_⟩
      refine ⟨true, decide_eq_true rfl, ?_⟩
      refine ⟨_, kld H 2 _ rfl, ?_⟩
      refine ⟨_, kld H 2 _ rfl, ?_⟩
      refine (quad_move H N k.frm).mono ?_
      rintro _ w5 ⟨rfl, F⟩
      have kf : w5.cell? ⟨b9, 2, none⟩ = some (.int .i64 k.frm) := (F.hL.sub ((List.sublist_append_right (RingS rp sb p (moveG G b2 N k.frm) (PoolS 82 87 p h (moveB G b2 N k.frm) [])) _).trans ((List.sublist_append_right A _).trans (List.sublist_append_right (Cl sp 101 (S.hdr q v) :: PoolS 50 84 q h' c2 []) _)))).ld rfl
      refine ⟨⟨kf, kf, trivial⟩, ?_⟩
      refine (rmove_spec F N k.frm H.rel.rsize).mono ?_
      rintro _ w6 ⟨rfl, v', A', F⟩
      obtain ⟨hE, hrel⟩ := H.rel.move N k.frm
      have H := Quad.mk (ref_quad F) F.own hrel
      refine ⟨⟨kld H 2 _ rfl, kld H 2 _ rfl, trivial⟩, ?_⟩
      refine ⟨true, decide_eq_true hE, ?_⟩
      exact ⟨(_, _, _, _, _, _), rfl, H⟩
    refine ⟨false, decide_eq_false h1, ?_⟩
    refine cond_in ?_
    refine row_in ?_
    by_cases h2 : k.what = 2
    · refine ⟨true, decide_eq_true h2, ?_⟩
      refine cond_in ?_
      refine row_in ?_
      refine (ringtake_spec H.hL H.rel.ok (fun B hB => Nat.le_trans (H.rel.good.small B hB) (by decide))).mono ?_
      rintro _ w3 ⟨x, Ax, rfl, hx, hL⟩
      have H0 := H.rel
      obtain ⟨hV, hd, hrel⟩ := H.rel.take
      have F : RefIn w0 w3 sp q h' S c v A (RingS rp sb p (takeoG G) (PoolS 82 87 p h (takeoB G b) (Ax ++ (Cl b9 64 k.l :: (Ao ++ R))))) := ⟨H.own, hL.perm (by
        refine (List.Perm.append_left (RingS rp sb p (takeoG G) (PoolS 82 87 p h (takeoB G b) [])) ?_).trans (quad_perm (RingS rp sb p (takeoG G) (PoolS 82 87 p h (takeoB G b) [])) (Cl sp 101 (S.hdr q v) :: PoolS 50 84 q h' c []) A (Ax ++ (Cl b9 64 k.l :: (Ao ++ R))))
        refine (List.perm_append_comm_assoc Ax (Cl sp 101 (S.hdr q v) :: PoolS 50 84 q h' c []) (A ++ (Cl b9 64 k.l :: (Ao ++ R)))).trans ?_
        exact List.Perm.append_left (Cl sp 101 (S.hdr q v) :: PoolS 50 84 q h' c []) (List.perm_append_comm_assoc Ax A _))⟩
      refine row_in ?_
      refine (rringtake_spec F H.rel.inPool H.rel.goodc H.rel.rlen).mono ?_
      rintro _ w4 ⟨y, rfl, hy, v', A', F⟩
      have H := Quad.mk (ref_quad F) F.own hrel
      have hxr := hx.reads (w := w4) fun a ha => H.aside.holds a (by simp [ha])
      refine ops_in ?_
      have hsm : (takeoV G b).length ≤ 1000000 := by
        unfold takeoV
        split
        · simp
        · exact Nat.le_trans (bytesOf_small (Good.abs H0.abs.symm H0.goodc) _) (by decide)
      refine (samebytes_spec hxr hy hsm).mono ?_
      rintro _ w5 ⟨rfl, hg5⟩
      rw [decide_eq_true hV, ← hd]
      have H := quad_sub (H.grows hg5) (List.sublist_append_right Ax _)
      refine ⟨true, (by cases decide (0 < G.many) <;> rfl), ?_⟩
      exact ⟨(_, _, _, _, _, _), rfl, H⟩
    refine ⟨false, decide_eq_false h2, ?_⟩
    refine cond_in ?_
    refine row_in ?_
    by_cases h3 : k.what = 3
    · refine ⟨true, decide_eq_true h3, ?_⟩
      refine cond_in ?_
      refine ifd_in ?_
      have H := H.grows (Grows.drew _)
      refine ⟨_, kld H 2 _ rfl, ?_⟩
      refine ⟨_, H.ref.hL.ld rfl, ?_⟩
      by_cases hfo : k.frm = S.own
      · refine ⟨true, decide_eq_true hfo, ?_⟩
        refine row_in ?_
        refine ret_in ?_
        exact ⟨rfl, fin H⟩
      refine ⟨false, decide_eq_false hfo, ?_⟩
      refine skip_in ?_
      refine drawn_in ?_
      have H := H.grows (Grows.drew _)
      refine ⟨_, kld H 1 _ rfl, ?_⟩
      refine ⟨_, kld H 2 _ rfl, ?_⟩
      refine ⟨_, kld H 1 _ rfl, ?_⟩
      refine ⟨_, kld H 2 _ rfl, ?_⟩
      refine (quad_move H k.buffer k.frm).mono ?_
      rintro _ w5 ⟨rfl, F⟩
      have kf : ∀ (j : Nat) (u : Value), k.l[j]? = some u → w5.cell? ⟨b9, j, none⟩ = some u := fun j u hu => (F.hL.sub ((List.sublist_append_right (RingS rp sb p (moveG G b k.buffer k.frm) (PoolS 82 87 p h (moveB G b k.buffer k.frm) [])) _).trans ((List.sublist_append_right A _).trans (List.sublist_append_right (Cl sp 101 (S.hdr q v) :: PoolS 50 84 q h' c []) _)))).ld hu
      refine ⟨⟨kf 2 _ rfl, kf 1 _ rfl, kf 2 _ rfl, kf 1 _ rfl, trivial⟩, ?_⟩
      refine (rmove_spec F k.buffer k.frm H.rel.rsize).mono ?_
      rintro _ w6 ⟨rfl, v', A', F⟩
      obtain ⟨hE, hrel⟩ := H.rel.move k.buffer k.frm
      have H := Quad.mk (ref_quad F) F.own hrel
      refine ⟨⟨kld H 2 _ rfl, kld H 1 _ rfl, kld H 2 _ rfl, kld H 1 _ rfl, trivial⟩, ?_⟩
      refine ⟨true, decide_eq_true hE, ?_⟩
      exact ⟨(_, _, _, _, _, _), rfl, H⟩
    refine ⟨false, decide_eq_false h3, ?_⟩
    refine cond_in ?_
    refine skip_in ?_
    exact ⟨(_, _, _, _, _, _), rfl, H⟩
  clear H hown kld fin
  rintro g ⟨G, S, b, c, v, A⟩ w3 H
  have H : Quad w0 w3 (Cl b9 64 k.l :: (Ao ++ R)) rp p sp q sb h h' n G S b c v A := H
  have H : Quad w0 w3 (Ao ++ R) rp p sp q sb h h' n G S b c v A := quad_sub H (List.sublist_cons_self _ _)
  refine seq_in (row_in ?_)
  refine block_in ?_
  refine loop_rule (21 :: List.range' 126 12) rfl [21] (fun (t : Nat × List Value × List Atom) => [.int .i64 t.1])
    (fun t w' => t.1 ≤ k.bs.length ∧ OwnRow 5 1 (.slice oa k.bs.length oc) k.bs.length t.2.1 t.2.2 ∧ (∀ x ∈ t.2.1, ∃ z, x = Value.int .u8 z) ∧ Quad w0 w' (t.2.2 ++ R) rp p sp q sb h h' n G S b c v A) (fun t => k.bs.length - t.1) (0, vals k.bs, Ao) rfl
    ⟨Nat.zero_le _, hv, fun x hx => by obtain ⟨z, _, rfl⟩ := List.mem_map.1 hx; exact ⟨z, rfl⟩, H⟩ ?_
  clear H hv hA
  rintro g2 ⟨i, xs, A'⟩ w4 ⟨hi, hv, hz, H⟩
  have hi : i ≤ k.bs.length := hi
  have hv : OwnRow 5 1 (.slice oa k.bs.length oc) k.bs.length xs A' := hv
  have hz : ∀ x ∈ xs, ∃ z, x = Value.int .u8 z := hz
  have H : Quad w0 w4 (A' ++ R) rp p sp q sb h h' n G S b c v A := H
  refine if_in ?_
  by_cases hil : i < k.bs.length
  rotate_left
  · refine ⟨false, decide_eq_false (by omega), ?_⟩
    refine exit_in ?_
    refine row_in ?_
    refine ret_in ?_
    exact ⟨rfl, _, _, _, _, _, _, quad_sub H (List.sublist_append_right A' R)⟩
  refine ⟨true, decide_eq_true (by omega), ?_⟩
  refine skip_in ?_
  obtain ⟨gb, cs, cap, he, rfl, hxs, hcl, hcap, hmax⟩ := hv.blk (by omega)
  simp only [Value.slice.injEq, true_and] at he
  obtain ⟨rfl, rfl⟩ := he
  obtain ⟨x, hx1⟩ : ∃ x, cs[i]? = some x := ⟨cs[i]'(by omega), List.getElem?_eq_getElem _⟩
  obtain ⟨z, rfl⟩ := hz x (by rw [hxs]; exact List.mem_of_getElem? (i := i) (by rw [List.getElem?_take, if_pos (by omega)]; exact hx1))
  have hL := Quad.out [Cl gb 5 cs] H
  have hL : SH w0 w4 (Cl gb 5 cs :: RingS rp sb p G (PoolS 82 87 p h b (Cl sp 101 (S.hdr q v) :: PoolS 50 84 q h' c (A ++ R)))) := hL
  refine block_then ?_
  refine ops_in ?_
  refine ⟨⟨by omega, by omega⟩, (⟨gb, 0 + i * 1, none⟩ : Addr), add_plain _ _ _, ?_⟩
  refine ⟨_, hL.ld (by rw [Nat.zero_add, Nat.mul_one]; exact hx1), ?_⟩
  refine ⟨_, rfl, ?_⟩
  refine ⟨⟨by omega, by omega⟩, (⟨gb, 0 + i * 1, none⟩ : Addr), add_plain _ _ _, ?_⟩
  refine hL.stK [_] (fun w5 hL => ?_) rfl (Nat.ble_eq_true_of_le (by simp; omega)) rfl
  refine ops_in ?_
  refine ⟨((i + 1 : Nat) : Int), (IntWalk.i64_in _ (by omega)).trans (by omega), ?_⟩
  refine ⟨(i + 1, _, [Cl gb 5 (put1 cs (0 + i * 1) [.int .u8 (IntKind.wrap .u8 (z + 1))])]), rfl, ⟨hil, .at gb _ k.bs.length oc (by show (cs.set _ _).length = _; rw [List.length_set]; exact hcl) hcap hmax, fun x hx => ?_, quad_in [_] hL H.own H.rel⟩, by simp only []; omega⟩
  have hx : x ∈ (cs.set (0 + i * 1) (Value.int .u8 (IntKind.wrap .u8 (z + 1)))).take (k.bs.length * 1) := hx
  rw [List.take_set] at hx
  rcases List.mem_or_eq_of_mem_set hx with h | h
  · exact hz x (by rw [hxs]; exact h)
  · exact ⟨_, h⟩
end Go.Proofs.Ytjnjgmkkjglheaa
