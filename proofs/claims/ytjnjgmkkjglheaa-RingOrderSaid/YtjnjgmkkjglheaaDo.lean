/- A call on a pool and on the document's answer: they answer alike, and stay alike. -/
import Derived.Test.YtjnjgmkkjglheaaGreat
namespace Go.Den
open Go Go.RowKit
theorem Reads.old {w0 w : World} {L : List Atom} {size : Nat} {v : Value} {n : Nat} {xs : List Value} (h : Reads w0 size v n xs) (hL : SH w0 w L) : Reads w size v n xs := by
  obtain ⟨hl, a, c, rfl, ha, hc⟩ := h
  refine ⟨hl, a, c, rfl, ha, fun ad e j u hu => ?_⟩
  have hh := hc ad e j u hu
  have hlt := World.block_lt_of_cell? w0 _ hh
  rw [← hh]
  exact World.cell?_of_block (w := w0) (hL.below.block _ hlt)
theorem OwnRow.blk {e : TypeId} {size : Nat} {v : Value} {n : Nat} {xs : List Value} {A : List Atom} (h : OwnRow e size v n xs A) (hn : 0 < n) : ∃ g cs cap, v = .slice (some ⟨g, 0, Option.none⟩) n cap ∧ A = [Cl g e cs] ∧ xs = cs.take (n * size) ∧ cs.length = cap * size ∧ n ≤ cap ∧ cap ≤ maxLen := by
  cases h with
  | none b => omega
  | «at» g cs n cap hl hn hm => exact ⟨g, cs, cap, rfl, rfl, rfl, hl, hn, hm⟩
end Go.Den
namespace Go.Proofs.Ytjnjgmkkjglheaa
open Go Go.Den
attribute [local irreducible] wpC
/-- Two pictures that say the same: owners and bytes. -/
def abs (bufs : List Buf) : List (Int × List Int) := bufs.map fun B => (B.own, B.bs)
theorem abs_length {b r : List Buf} (h : abs b = abs r) : b.length = r.length := by
  have := congrArg List.length h
  simpa [abs] using this
theorem abs_at {b r : List Buf} (h : abs b = abs r) (i : Nat) : (b[i]?.map fun B => (B.own, B.bs)) = r[i]?.map fun B => (B.own, B.bs) := by
  have := congrArg (fun l => l[i]?) h
  simpa [abs] using this
theorem ownerOf_abs {b r : List Buf} (h : abs b = abs r) (k : Int) : ownerOf b k = ownerOf r k := by
  unfold ownerOf
  split
  · rfl
  have := abs_at h k.toNat
  cases hb : b[k.toNat]? <;> cases hr : r[k.toNat]? <;> rw [hb, hr] at this <;> simp at this
  exact this.1
theorem errOf_abs {b r : List Buf} (h : abs b = abs r) (k o : Int) : errOf b k o = errOf r k o := by
  unfold errOf; rw [ownerOf_abs h, abs_length h]
theorem handE_abs {b r : List Buf} (h : abs b = abs r) (k a c : Int) : handE b k a c = handE r k a c := by
  unfold handE; rw [errOf_abs h]
theorem freeAt_abs {b r : List Buf} (h : abs b = abs r) : freeAt b = freeAt r := by
  have e : ∀ l : List Buf, l.findIdx? isFree = (abs l).findIdx? fun p => decide (p.1 = 0) := fun l => by
    unfold abs
    rw [List.findIdx?_map]
    rfl
  unfold freeAt
  rw [e b, e r, h]
theorem takeE_abs {b r : List Buf} (h : abs b = abs r) (o : Int) (m : Nat) : takeE b o m = takeE r o m := by unfold takeE; rw [freeAt_abs h]
theorem takeN_abs {b r : List Buf} (h : abs b = abs r) (o : Int) (m : Nat) : takeN b o m = takeN r o m := by unfold takeN; rw [freeAt_abs h, takeE_abs h]
theorem abs_set (b : List Buf) (i : Nat) (B : Buf) : abs (b.set i B) = (abs b).set i (B.own, B.bs) := by unfold abs; rw [List.map_set]
theorem takeB_abs {b r : List Buf} (h : abs b = abs r) (o : Int) (s s' : Value) (bs : List Int) : abs (takeB b o s bs) = abs (takeB r o s' bs) := by
  unfold takeB
  rw [takeE_abs h, freeAt_abs h]
  split
  · rw [abs_set, abs_set, h]
  · exact h
theorem abs_modify (b : List Buf) (i : Nat) (f : Buf → Buf) (g : Int × List Int → Int × List Int) (hfg : ∀ B, ((f B).own, (f B).bs) = g (B.own, B.bs)) : abs (b.modify i f) = (abs b).modify i g := by
  unfold abs
  apply List.ext_getElem?
  intro j
  rw [List.getElem?_map, List.getElem?_modify, List.getElem?_modify, List.getElem?_map]
  cases b[j]? with
  | none => split <;> rfl
  | some B => split <;> simp [hfg]
theorem handB_abs {b r : List Buf} (h : abs b = abs r) (k a c : Int) : abs (handB b k a c) = abs (handB r k a c) := by
  unfold handB
  rw [handE_abs h]
  split
  · rw [abs_modify b _ (withOwn c) (fun p => (c, p.2)) (fun _ => rfl), abs_modify r _ (withOwn c) (fun p => (c, p.2)) (fun _ => rfl), h]
  · exact h
theorem freeB_abs {b r : List Buf} (h : abs b = abs r) (k o : Int) : abs (freeB b k o) = abs (freeB r k o) := by
  unfold freeB
  rw [errOf_abs h]
  split
  · rw [abs_modify b _ (fun _ => noBuf) (fun _ => (0, [])) (fun _ => rfl), abs_modify r _ (fun _ => noBuf) (fun _ => (0, [])) (fun _ => rfl), h]
  · exact h
/-- A pool behind a call. -/
def doB (bufs : List Buf) (k : Call) (s : Value) : List Buf :=
  if k.what = 0 then takeB bufs k.owner s k.bs else if k.what = 1 then handB bufs k.buffer k.owner k.to else if k.what = 2 then freeB bufs k.buffer k.owner else bufs
theorem doB_abs {b r : List Buf} (h : abs b = abs r) (k : Call) (s s' : Value) : abs (doB b k s) = abs (doB r k s') := by
  unfold doB
  split
  · exact takeB_abs h _ _ _ _
  split
  · exact handB_abs h _ _ _
  split
  · exact freeB_abs h _ _
  · exact h
theorem pool_in {w0 w : World} {X R : List Atom} {T bT : TypeId} {p : Nat} {h : Home} {b : List Buf} (hL : SH w0 w (X ++ PoolS T bT p h b R)) : SH w0 w (PoolS T bT p h b (X ++ R)) :=
  hL.perm (List.perm_append_comm_assoc X (PoolS T bT p h b []) R)
theorem pool_swap {w0 w : World} {R : List Atom} {T bT T' bT' : TypeId} {p p' : Nat} {h h' : Home} {b b' : List Buf} (hL : SH w0 w (PoolS T bT p h b (PoolS T' bT' p' h' b' R))) : SH w0 w (PoolS T' bT' p' h' b' (PoolS T bT p h b R)) :=
  hL.perm (List.perm_append_comm_assoc (PoolS T bT p h b []) (PoolS T' bT' p' h' b' []) R)
theorem pool_tail {w0 w : World} {R : List Atom} {T bT : TypeId} {p : Nat} {h : Home} {b : List Buf} (hL : SH w0 w (PoolS T bT p h b R)) : SH w0 w R := hL.tail.tail.tail
theorem perm_in2 (X R : List Atom) {T bT T' bT' : TypeId} {p p' : Nat} {h h' : Home} {b b' : List Buf} : (X ++ PoolS T bT p h b (PoolS T' bT' p' h' b' R)).Perm (PoolS T bT p h b (PoolS T' bT' p' h' b' (X ++ R))) :=
  (List.perm_append_comm_assoc X (PoolS T bT p h b []) (PoolS T' bT' p' h' b' R)).trans (List.Perm.append_left (PoolS T bT p h b []) (List.perm_append_comm_assoc X (PoolS T' bT' p' h' b' []) R))
set_option maxHeartbeats 4000000 in
theorem do_spec {w0 w : World} {R : List Atom} {p r : Nat} {h h' : Home} {b c : List Buf} (hL : SH w0 w (PoolS 82 87 p h b (PoolS 50 84 r h' c R))) (hab : abs b = abs c) (k : Call) (hx : Reads w0 1 k.x k.bs.length (vals k.bs)) (hlen : b.length ≤ 1000000) (hbs : k.bs.length ≤ 1600) :
    Does Try.prog 15 [ptr p, ptr r, k.v] w fun v w' => v = .bool true ∧ ∃ s s', SH w0 w' (PoolS 82 87 p h (doB b k s) (PoolS 50 84 r h' (doB c k s') R)) := by
  refine s15 rfl ?_
  refine row_in ?_
  refine hL.boxK [_, _, _, _, _] fun b5 w1 hL => ?_
  refine row_in ?_
  refine ⟨_, hL.ld rfl, ?_⟩
  refine (own_spec (hx.old hL) (vals_one _) (by omega)).mono ?_
  rintro v w2 ⟨A, hv, hA⟩
  have hL := hL.join hA hv.unshared
  obtain ⟨oa, oc, rfl⟩ := hv.slice
  have hL : SH w0 w2 (Cl b5 25 k.l :: PoolS 82 87 p h b (PoolS 50 84 r h' c (A ++ R))) := hL.perm (List.perm_middle.trans (List.Perm.cons _ (perm_in2 A R)))
  refine row_in ?_
  refine cut_rule (8 :: 9 :: 10 :: 11 :: 12 :: List.range' 17 63) rfl [8] (fun (_ : Value × Value) => [.bool true]) (fun s w' => SH w0 w' (PoolS 82 87 p h (doB b k s.1) (PoolS 50 84 r h' (doB c k s.2) (A ++ R)))) ?_ ?_
  · refine row_in ?_
    refine ⟨_, hL.ld rfl, ?_⟩
    refine block_in ?_
    refine row_in ?_
    have hown : Reads w2 1 (.slice oa k.bs.length oc) k.bs.length (vals k.bs) := hv.reads fun a ha => hL.holds a (by simp [ha])
    have hL : SH w0 w2 (PoolS 82 87 p h b (PoolS 50 84 r h' c (Cl b5 25 k.l :: (A ++ R)))) := hL.perm (perm_in2 [Cl b5 25 k.l] (A ++ R))
    have fin : ∀ (w' : World) (b' c' : List Buf) (s s' : Value), b' = doB b k s → c' = doB c k s' → SH w0 w' (PoolS 82 87 p h b' (PoolS 50 84 r h' c' (Cl b5 25 k.l :: (A ++ R)))) → SH w0 w' (PoolS 82 87 p h (doB b k s) (PoolS 50 84 r h' (doB c k s') (A ++ R))) := fun w' b' c' s s' h1 h2 hL => by
      subst h1 h2
      exact hL.sub (.cons_cons _ (.cons_cons _ (.cons_cons _ (.cons_cons _ (.cons_cons _ (.cons_cons _ (.cons _ (.refl _))))))))
    by_cases h0 : k.what = 0
    · refine ⟨true, decide_eq_true h0, ?_⟩
      refine cond_in ?_
      refine row_in ?_
      refine ⟨_, hL.ld rfl, ?_⟩
      refine (take_spec hL k.owner hown hlen).mono ?_
      rintro _ w3 ⟨s, rfl, hL⟩
      refine row_in ?_
      refine ⟨_, hL.ld rfl, ?_⟩
      refine ⟨_, hL.ld rfl, ?_⟩
      refine (rtake_spec (pool_swap hL) k.owner (hx.old hL) (by rw [← abs_length hab]; exact hlen)).mono ?_
      rintro _ w4 ⟨s', rfl, hL⟩
      have hL := pool_swap hL
      refine ops_in ?_
      refine ⟨true, decide_eq_true (takeN_abs hab _ _), ?_⟩
      refine ⟨true, decide_eq_true (takeE_abs hab _ _), ?_⟩
      exact ⟨(s, s'), rfl, fin _ _ _ s s' (by unfold doB; rw [if_pos h0]) (by unfold doB; rw [if_pos h0]) hL⟩
    refine ⟨false, decide_eq_false h0, ?_⟩
    refine cond_in ?_
    refine row_in ?_
    by_cases h1 : k.what = 1
    · refine ⟨true, decide_eq_true h1, ?_⟩
      refine cond_in ?_
      refine drawn_in ?_
      have hL := hL.drew
      refine ⟨_, hL.ld rfl, ?_⟩
      refine ⟨_, hL.ld rfl, ?_⟩
      refine ⟨_, hL.ld rfl, ?_⟩
      refine ⟨_, hL.ld rfl, ?_⟩
      refine ⟨_, hL.ld rfl, ?_⟩
      refine ⟨_, hL.ld rfl, ?_⟩
      refine (hand_spec hL k.buffer k.owner k.to).mono ?_
      rintro _ w3 ⟨rfl, hL⟩
      refine ⟨⟨hL.ld rfl, hL.ld rfl, hL.ld rfl, hL.ld rfl, hL.ld rfl, hL.ld rfl, trivial⟩, ?_⟩
      refine (rhand_spec (pool_swap hL) k.buffer k.owner k.to).mono ?_
      rintro _ w4 ⟨rfl, hL⟩
      have hL := pool_swap hL
      refine ⟨⟨hL.ld rfl, hL.ld rfl, hL.ld rfl, hL.ld rfl, hL.ld rfl, hL.ld rfl, trivial⟩, ?_⟩
      refine ⟨true, decide_eq_true (handE_abs hab _ _ _), ?_⟩
      exact ⟨(undef, undef), rfl, fin _ _ _ undef undef (by unfold doB; rw [if_neg h0, if_pos h1]) (by unfold doB; rw [if_neg h0, if_pos h1]) hL⟩
    refine ⟨false, decide_eq_false h1, ?_⟩
    refine cond_in ?_
    refine row_in ?_
    by_cases h2 : k.what = 2
    · refine ⟨true, decide_eq_true h2, ?_⟩
      refine cond_in ?_
      refine drawn_in ?_
      have hL := hL.drew
      refine ⟨_, hL.ld rfl, ?_⟩
      refine ⟨_, hL.ld rfl, ?_⟩
      refine ⟨_, hL.ld rfl, ?_⟩
      refine ⟨_, hL.ld rfl, ?_⟩
      refine (free_spec hL k.buffer k.owner).mono ?_
      rintro _ w3 ⟨rfl, hL⟩
      refine ⟨⟨hL.ld rfl, hL.ld rfl, hL.ld rfl, hL.ld rfl, trivial⟩, ?_⟩
      refine (rfree_spec (pool_swap hL) k.buffer k.owner).mono ?_
      rintro _ w4 ⟨rfl, hL⟩
      have hL := pool_swap hL
      refine ⟨⟨hL.ld rfl, hL.ld rfl, hL.ld rfl, hL.ld rfl, trivial⟩, ?_⟩
      refine ⟨true, decide_eq_true (errOf_abs hab _ _), ?_⟩
      exact ⟨(undef, undef), rfl, fin _ _ _ undef undef (by unfold doB; rw [if_neg h0, if_neg h1, if_pos h2]) (by unfold doB; rw [if_neg h0, if_neg h1, if_pos h2]) hL⟩
    refine ⟨false, decide_eq_false h2, ?_⟩
    refine cond_in ?_
    refine skip_in ?_
    exact ⟨(undef, undef), rfl, fin _ _ _ undef undef (by unfold doB; rw [if_neg h0, if_neg h1, if_neg h2]) (by unfold doB; rw [if_neg h0, if_neg h1, if_neg h2]) hL⟩
  clear hL
  rintro g ⟨s, s'⟩ w3 hL
  have hL : SH w0 w3 (PoolS 82 87 p h (doB b k s) (PoolS 50 84 r h' (doB c k s') (A ++ R))) := hL
  refine seq_in (row_in ?_)
  refine block_in ?_
  refine loop_rule (13 :: List.range' 80 12) rfl [13] (fun (t : Nat × List Value × List Atom) => [.int .i64 t.1])
    (fun t w' => t.1 ≤ k.bs.length ∧ OwnRow 5 1 (.slice oa k.bs.length oc) k.bs.length t.2.1 t.2.2 ∧ (∀ x ∈ t.2.1, ∃ z, x = Value.int .u8 z) ∧ SH w0 w' (PoolS 82 87 p h (doB b k s) (PoolS 50 84 r h' (doB c k s') (t.2.2 ++ R)))) (fun t => k.bs.length - t.1) (0, vals k.bs, A) rfl
    ⟨Nat.zero_le _, hv, fun x hx => by obtain ⟨z, _, rfl⟩ := List.mem_map.1 hx; exact ⟨z, rfl⟩, hL⟩ ?_
  clear hL hv hA
  rintro g2 ⟨i, xs, A'⟩ w4 ⟨hi, hv, hz, hL⟩
  have hi : i ≤ k.bs.length := hi
  have hv : OwnRow 5 1 (.slice oa k.bs.length oc) k.bs.length xs A' := hv
  have hz : ∀ x ∈ xs, ∃ z, x = Value.int .u8 z := hz
  have hL : SH w0 w4 (PoolS 82 87 p h (doB b k s) (PoolS 50 84 r h' (doB c k s') (A' ++ R))) := hL
  refine if_in ?_
  by_cases hil : i < k.bs.length
  rotate_left
  · refine ⟨false, decide_eq_false (by omega), ?_⟩
    refine exit_in ?_
    refine row_in ?_
    refine ret_in ?_
    exact ⟨rfl, s, s', hL.perm (List.Perm.refl _) |>.sub (.cons_cons _ (.cons_cons _ (.cons_cons _ (.cons_cons _ (.cons_cons _ (.cons_cons _ (List.sublist_append_right A' R)))))))⟩
  refine ⟨true, decide_eq_true (by omega), ?_⟩
  refine skip_in ?_
  obtain ⟨gb, cs, cap, he, rfl, hxs, hcl, hcap, hmax⟩ := hv.blk (by omega)
  simp only [Value.slice.injEq, true_and] at he
  obtain ⟨rfl, rfl⟩ := he
  obtain ⟨x, hx1⟩ : ∃ x, cs[i]? = some x := ⟨cs[i]'(by omega), List.getElem?_eq_getElem _⟩
  obtain ⟨z, rfl⟩ := hz x (by rw [hxs]; exact List.mem_of_getElem? (i := i) (by rw [List.getElem?_take, if_pos (by omega)]; exact hx1))
  have hL : SH w0 w4 (PoolS 82 87 p h (doB b k s) (PoolS 50 84 r h' (doB c k s') (Cl gb 5 cs :: R))) := hL
  refine block_then ?_
  refine ops_in ?_
  refine ⟨⟨by omega, by omega⟩, (⟨gb, 0 + i * 1, none⟩ : Addr), add_plain _ _ _, ?_⟩
  refine ⟨_, hL.ld (by rw [Nat.zero_add, Nat.mul_one]; exact hx1), ?_⟩
  refine ⟨_, rfl, ?_⟩
  refine ⟨⟨by omega, by omega⟩, (⟨gb, 0 + i * 1, none⟩ : Addr), add_plain _ _ _, ?_⟩
  refine hL.stK [_] (fun w5 hL => ?_) rfl (Nat.ble_eq_true_of_le (by simp; omega)) rfl
  refine ops_in ?_
  refine ⟨((i + 1 : Nat) : Int), (IntWalk.i64_in _ (by omega)).trans (by omega), ?_⟩
  have hL := hL.perm (perm_in2 [_] R)
  refine ⟨(i + 1, _, [Cl gb 5 (put1 cs (0 + i * 1) [.int .u8 (IntKind.wrap .u8 (z + 1))])]), rfl, ⟨hil, .at gb _ k.bs.length oc (by show (cs.set _ _).length = _; rw [List.length_set]; exact hcl) hcap hmax, fun x hx => ?_, hL⟩, by simp only []; omega⟩
  have hx : x ∈ (cs.set (0 + i * 1) (Value.int .u8 (IntKind.wrap .u8 (z + 1)))).take (k.bs.length * 1) := hx
  rw [List.take_set] at hx
  rcases List.mem_or_eq_of_mem_set hx with h | h
  · exact hz x (by rw [hxs]; exact h)
  · exact ⟨_, h⟩
end Go.Proofs.Ytjnjgmkkjglheaa
