/- The ring's functions that change it: what is laid in, what is taken out. -/
import Derived.Test.YtjnjgmkkjglheaaRing
namespace Go.Den
open Go Go.RowKit
theorem SH.boxG {w0 w : World} {L : List Atom} (cs : List Value) {t : TypeId} {C : Nat → World → Prop} (h : SH w0 w L) (k : ∀ b w', SH w0 w' (Cl b t cs :: L) → Grows w w' → C b w') : ∃ b w', NewB w (.cells cs.toArray t) b w' ∧ C b w' := h.newG k
end Go.Den
namespace Go.Proofs.Ytjnjgmkkjglheaa
open Go Go.Den
attribute [local irreducible] wpC
theorem ring_pool {w0 w : World} {R : List Atom} {rp p q : Nat} {sb h : Home} {G : Rg} {T bT : TypeId} {b : List Buf} (hL : SH w0 w (RingS rp sb p G (PoolS T bT q h b R))) : SH w0 w (PoolS T bT q h b (RingS rp sb p G R)) :=
  hL.perm (List.perm_append_comm_assoc (RingS rp sb p G []) (PoolS T bT q h b []) R)
theorem pool_ring {w0 w : World} {R : List Atom} {rp p q : Nat} {sb h : Home} {G : Rg} {T bT : TypeId} {b : List Buf} (hL : SH w0 w (PoolS T bT q h b (RingS rp sb p G R))) : SH w0 w (RingS rp sb p G (PoolS T bT q h b R)) :=
  hL.perm (List.perm_append_comm_assoc (PoolS T bT q h b []) (RingS rp sb p G []) R)
theorem ints_set (zs : List Int) (j : Nat) (z : Int) (sp : List Value) (hj : j < zs.length) : put1 (ints zs ++ sp) j [.int .i64 z] = ints (zs.set j z) ++ sp := by
  rw [put1_append _ _ _ _ (by simp [ints]; omega)]
  unfold ints
  rw [List.map_set]
  rfl
set_option maxHeartbeats 4000000 in
theorem lay_spec {w0 w : World} {R : List Atom} {rp p : Nat} {sb h : Home} {G : Rg} {b : List Buf} {kf : Nat} {caps : List Value} {Z E : Int} {F : Value → List Buf} (hL : SH w0 w (RingS rp sb p G (PoolS 82 87 p h b R))) (ok : G.ok) (hk : funcOK Try.prog kf = true)
    (hget : ∀ w1, Grows w w1 → SH w0 w1 (RingS rp sb p G (PoolS 82 87 p h b R)) → Does Try.prog kf caps w1 fun v w2 => ∃ s, v = .tuple #[.int .i64 Z, .int .i64 E] ∧ SH w0 w2 (RingS rp sb p G (PoolS 82 87 p h (F s) R))) :
    Does Try.prog 57 [ptr rp, .func (.func kf) #[] caps.toArray] w fun v w' =>
      (G.many < G.slots.length → v = .int .i64 E ∧ ∃ s, SH w0 w' (RingS rp sb p (if E = 0 then G.lay Z else G.lost) (PoolS 82 87 p h (F s) R))) ∧
      (¬ G.many < G.slots.length → v = .int .i64 18 ∧ SH w0 w' (RingS rp sb p G.lost (PoolS 82 87 p h b R))) := by
  have h1 := ok.pos
  have h2 := ok.size
  have h3 := ok.first
  have h4 := ok.many
  refine s57 rfl ?_
  refine row_in ?_
  refine row_in ?_
  refine ifd_in ?_
  have hL := hL.drew
  refine ⟨_, hL.ld rfl, ?_⟩
  refine ⟨_, hL.ld rfl, ?_⟩
  by_cases hroom : G.many < G.slots.length
  rotate_left
  · refine ⟨false, decide_eq_false (by omega), ?_⟩
    refine skip_in ?_
    refine row_in ?_
    refine ⟨_, hL.ld rfl, ?_⟩
    refine ⟨_, rfl, ?_⟩
    refine hL.stK [_] (fun w2 hL => ?_)
    refine row_in ?_
    refine ret_in ?_
    exact ⟨fun h => absurd h hroom, fun _ => ⟨rfl, hL⟩⟩
  refine ⟨true, decide_eq_true (by omega), ?_⟩
  refine row_in ?_
  refine row_in ?_
  refine ⟨hk, ?_⟩
  refine (hget _ (Grows.drew w) hL).mono ?_
  clear hL
  rintro _ w2 ⟨s, rfl, hL⟩
  refine reframe [0, 5, 6] [ptr rp, .int .i64 E, .int .i64 Z] rfl fun g => ?_
  refine row_in ?_
  by_cases hE : E = 0
  rotate_left
  · refine ⟨false, decide_eq_false hE, ?_⟩
    refine cond_in ?_
    refine skip_in ?_
    refine row_in ?_
    refine ⟨_, hL.ld rfl, ?_⟩
    refine ⟨_, rfl, ?_⟩
    refine hL.stK [_] (fun w3 hL => ?_)
    refine row_in ?_
    refine ret_in ?_
    exact ⟨fun _ => ⟨rfl, s, by rw [if_neg hE]; exact hL⟩, fun h => absurd hroom h⟩
  refine ⟨true, decide_eq_true hE, ?_⟩
  refine cond_in ?_
  refine row_in ?_
  refine ⟨_, hL.ld rfl, ?_⟩
  refine (slot_spec hL ok G.many (by omega)).mono ?_
  rintro _ w3 ⟨rfl, hg3⟩
  have hL := hL.grows hg3
  have hj : (G.first + G.many) % G.slots.length < G.slots.length := Nat.mod_lt _ h1
  have hQ : SH w0 w3 (Cl sb.b 3 (ints G.slots ++ sb.sp) :: Cl rp 95 (G.hdr p sb) :: PoolS 82 87 p h (F s) R) := hL.perm (List.Perm.swap _ _ _)
  obtain ⟨w4, hst, hQ⟩ := SH.st hQ (b := sb.b) (o := (G.first + G.many) % G.slots.length) [.int .i64 Z] (Nat.ble_eq_true_of_le (by simp [ints]; omega)) rfl
  refine ⟨rfl, w4, hst, ?_⟩
  rw [ints_set _ _ _ _ hj] at hQ
  refine reframe [0] [ptr rp] rfl fun g => ?_
  refine row_in ?_
  refine ⟨_, hQ.ld rfl, ?_⟩
  refine ⟨((G.many + 1 : Nat) : Int), (IntWalk.i64_in _ (by omega)).trans (by omega), ?_⟩
  refine hQ.stK [_] (fun w5 hL => ?_)
  refine row_in ?_
  refine ret_in ?_
  refine ⟨fun _ => ⟨by rw [hE]; rfl, s, ?_⟩, fun h => absurd hroom h⟩
  rw [if_pos hE]
  have hlen : (G.lay Z).slots.length = G.slots.length := List.length_set
  have hL : SH w0 w5 (Cl rp 95 ((G.lay Z).hdr p sb) :: Cl sb.b 3 (ints (G.lay Z).slots ++ sb.sp) :: PoolS 82 87 p h (F s) R) := by
    unfold Rg.hdr
    rw [hlen]
    exact hL
  exact hL
def putE (G : Rg) (b : List Buf) (m : Nat) : Int := if G.many < G.slots.length then takeE b G.own m else 18
def putG (G : Rg) (b : List Buf) (m : Nat) : Rg := if putE G b m = 0 then G.lay (takeN b G.own m) else G.lost
def putB (G : Rg) (b : List Buf) (s : Value) (bs : List Int) : List Buf := if G.many < G.slots.length then takeB b G.own s bs else b
def moveE (G : Rg) (b : List Buf) (z o : Int) : Int := if G.many < G.slots.length then handE b z o G.own else 18
def moveG (G : Rg) (b : List Buf) (z o : Int) : Rg := if moveE G b z o = 0 then G.lay z else G.lost
def moveB (G : Rg) (b : List Buf) (z o : Int) : List Buf := if G.many < G.slots.length then handB b z o G.own else b
theorem pins_out (X R : List Atom) {rp p q : Nat} {sb h : Home} {G : Rg} {T bT : TypeId} {b : List Buf} : (X ++ RingS rp sb p G (PoolS T bT q h b R)).Perm (RingS rp sb p G (PoolS T bT q h b (X ++ R))) :=
  (List.perm_append_comm_assoc X (RingS rp sb p G []) (PoolS T bT q h b R)).trans (List.Perm.append_left (RingS rp sb p G []) (List.perm_append_comm_assoc X (PoolS T bT q h b []) R))
set_option maxHeartbeats 4000000 in
theorem put1_spec {w0 w : World} {R : List Atom} {rp p : Nat} {sb h : Home} {G : Rg} {b : List Buf} {b2 b3 : Nat} {x : Value} {bs : List Int} (hL : SH w0 w (RingS rp sb p G (PoolS 82 87 p h b (Cl b3 23 [x] :: Cl b2 60 [ptr rp] :: R)))) (hx : Reads w 1 x bs.length (vals bs)) (hlen : b.length ≤ 1000000) :
    Does Try.prog 58 [ptr b2, ptr b3] w fun v w2 => ∃ s, v = .tuple #[.int .i64 (takeN b G.own bs.length), .int .i64 (takeE b G.own bs.length)] ∧ SH w0 w2 (RingS rp sb p G (PoolS 82 87 p h (takeB b G.own s bs) (Cl b3 23 [x] :: Cl b2 60 [ptr rp] :: R))) := by
  refine s58 rfl ?_
  refine row_in ?_
  refine draw_in ?_
  have hL := hL.drew
  refine ⟨_, hL.ld rfl, ?_⟩
  refine ⟨_, hL.ld rfl, ?_⟩
  refine ⟨_, hL.ld rfl, ?_⟩
  refine ⟨_, hL.ld rfl, ?_⟩
  refine ⟨_, hL.ld rfl, ?_⟩
  refine (take_spec (ring_pool hL) G.own (hx.grows (Grows.drew w)) hlen).mono ?_
  rintro _ w2 ⟨s, rfl, hL⟩
  have hL := pool_ring hL
  refine ⟨⟨hL.ld rfl, hL.ld rfl, hL.ld rfl, hL.ld rfl, hL.ld rfl, trivial⟩, ?_⟩
  refine ret_in ?_
  exact ⟨s, rfl, hL⟩
set_option maxHeartbeats 4000000 in
theorem move1_spec {w0 w : World} {R : List Atom} {rp p : Nat} {sb h : Home} {G : Rg} {b : List Buf} {b2 b3 b4 : Nat} {z o : Int} (hL : SH w0 w (RingS rp sb p G (PoolS 82 87 p h b (Cl b4 3 [.int .i64 o] :: Cl b3 3 [.int .i64 z] :: Cl b2 60 [ptr rp] :: R)))) :
    Does Try.prog 59 [ptr b3, ptr b2, ptr b4] w fun v w2 => ∃ s : Value, v = .tuple #[.int .i64 z, .int .i64 (handE b z o G.own)] ∧ SH w0 w2 (RingS rp sb p G (PoolS 82 87 p h (handB b z o G.own) (Cl b4 3 [.int .i64 o] :: Cl b3 3 [.int .i64 z] :: Cl b2 60 [ptr rp] :: R))) := by
  refine s59 rfl ?_
  refine row_in ?_
  refine draw_in ?_
  have hL := hL.drew
  refine ⟨_, hL.ld rfl, ?_⟩
  refine ⟨_, hL.ld rfl, ?_⟩
  refine ⟨_, hL.ld rfl, ?_⟩
  refine ⟨_, hL.ld rfl, ?_⟩
  refine ⟨_, hL.ld rfl, ?_⟩
  refine ⟨_, hL.ld rfl, ?_⟩
  refine ⟨_, hL.ld rfl, ?_⟩
  refine (hand_spec (ring_pool hL) z o G.own).mono ?_
  rintro _ w2 ⟨rfl, hL⟩
  have hL := pool_ring hL
  refine ⟨⟨hL.ld rfl, hL.ld rfl, hL.ld rfl, hL.ld rfl, hL.ld rfl, hL.ld rfl, hL.ld rfl, trivial⟩, ?_⟩
  refine ret_in ?_
  exact ⟨undef, rfl, hL⟩
theorem put_spec {w0 w : World} {R : List Atom} {rp p : Nat} {sb h : Home} {G : Rg} {b : List Buf} {a : Option Addr} {c : Nat} {bs : List Int} (hL : SH w0 w (RingS rp sb p G (PoolS 82 87 p h b R))) (ok : G.ok) (hx : Reads w 1 (.slice a bs.length c) bs.length (vals bs)) (hlen : b.length ≤ 1000000) :
    Does Try.prog 34 [ptr rp, .slice a bs.length c] w fun v w' => v = .int .i64 (putE G b bs.length) ∧ ∃ s, SH w0 w' (RingS rp sb p (putG G b bs.length) (PoolS 82 87 p h (putB G b s bs) R)) := by
  refine s34 rfl ?_
  refine row_in ?_
  refine hL.boxG [_] fun b2 w1 hL hg1 => ?_
  refine hL.boxG [_] fun b3 w2 hL hg2 => ?_
  have hL : SH w0 w2 (RingS rp sb p G (PoolS 82 87 p h b (Cl b3 23 [.slice a bs.length c] :: Cl b2 60 [ptr rp] :: R))) := hL.perm (pins_out [_, _] R)
  refine row_in ?_
  refine ⟨_, hL.ld rfl, ?_⟩
  refine (lay_spec (kf := 58) (caps := [ptr b2, ptr b3]) (Z := takeN b G.own bs.length) (E := takeE b G.own bs.length) (F := fun s => takeB b G.own s bs) hL ok c58 fun w3 hg hL => put1_spec hL (hx.grows ((hg1.trans hg2).trans hg)) hlen).mono ?_
  rintro v w3 ⟨hyes, hno⟩
  refine ret_in ?_
  by_cases hroom : G.many < G.slots.length
  · obtain ⟨rfl, s, hL⟩ := hyes hroom
    have hE : putE G b bs.length = takeE b G.own bs.length := if_pos hroom
    have hG : putG G b bs.length = if takeE b G.own bs.length = 0 then G.lay (takeN b G.own bs.length) else G.lost := by unfold putG; rw [hE]
    have hB : putB G b s bs = takeB b G.own s bs := if_pos hroom
    rw [← hG, ← hB] at hL
    exact ⟨(rfl : _ = Value.int .i64 (takeE b G.own bs.length)).trans (by rw [hE]), s, hL.sub (.cons_cons _ (.cons_cons _ (.cons_cons _ (.cons_cons _ (.cons_cons _ (.cons _ (.cons _ (.refl _))))))))⟩
  · obtain ⟨rfl, hL⟩ := hno hroom
    have hE : putE G b bs.length = 18 := if_neg hroom
    have hG : putG G b bs.length = G.lost := by unfold putG; rw [hE, if_neg (by decide)]
    have hB : putB G b undef bs = b := if_neg hroom
    exact ⟨(rfl : _ = Value.int .i64 18).trans (by rw [hE]), undef, by rw [hG, hB]; exact hL.sub (.cons_cons _ (.cons_cons _ (.cons_cons _ (.cons_cons _ (.cons_cons _ (.cons _ (.cons _ (.refl _))))))))⟩
theorem move_spec {w0 w : World} {R : List Atom} {rp p : Nat} {sb h : Home} {G : Rg} {b : List Buf} {z o : Int} (hL : SH w0 w (RingS rp sb p G (PoolS 82 87 p h b R))) (ok : G.ok) :
    Does Try.prog 38 [ptr rp, .int .i64 z, .int .i64 o] w fun v w' => v = .int .i64 (moveE G b z o) ∧ SH w0 w' (RingS rp sb p (moveG G b z o) (PoolS 82 87 p h (moveB G b z o) R)) := by
  refine s38 rfl ?_
  refine row_in ?_
  refine hL.boxK [_] fun b2 w1 hL => ?_
  refine hL.boxK [_] fun b3 w2 hL => ?_
  refine hL.boxK [_] fun b4 w3 hL => ?_
  have hL : SH w0 w3 (RingS rp sb p G (PoolS 82 87 p h b (Cl b4 3 [.int .i64 o] :: Cl b3 3 [.int .i64 z] :: Cl b2 60 [ptr rp] :: R))) := hL.perm (pins_out [_, _, _] R)
  refine row_in ?_
  refine ⟨_, hL.ld rfl, ?_⟩
  refine (lay_spec (kf := 59) (caps := [ptr b3, ptr b2, ptr b4]) (Z := z) (E := handE b z o G.own) (F := fun _ => handB b z o G.own) hL ok c59 fun w3 _ hL => move1_spec hL).mono ?_
  rintro v w4 ⟨hyes, hno⟩
  refine ret_in ?_
  by_cases hroom : G.many < G.slots.length
  · obtain ⟨rfl, s, hL⟩ := hyes hroom
    have hE : moveE G b z o = handE b z o G.own := if_pos hroom
    have hG : moveG G b z o = if handE b z o G.own = 0 then G.lay z else G.lost := by unfold moveG; rw [hE]
    have hB : moveB G b z o = handB b z o G.own := if_pos hroom
    rw [← hG, ← hB] at hL
    exact ⟨(rfl : _ = Value.int .i64 (handE b z o G.own)).trans (by rw [hE]), hL.sub (.cons_cons _ (.cons_cons _ (.cons_cons _ (.cons_cons _ (.cons_cons _ (.cons _ (.cons _ (.cons _ (.refl _)))))))))⟩
  · obtain ⟨rfl, hL⟩ := hno hroom
    have hE : moveE G b z o = 18 := if_neg hroom
    have hG : moveG G b z o = G.lost := by unfold moveG; rw [hE, if_neg (by decide)]
    have hB : moveB G b z o = b := if_neg hroom
    exact ⟨(rfl : _ = Value.int .i64 18).trans (by rw [hE]), by rw [hG, hB]; exact hL.sub (.cons_cons _ (.cons_cons _ (.cons_cons _ (.cons_cons _ (.cons_cons _ (.cons _ (.cons _ (.cons _ (.refl _)))))))))⟩
/-! ### Taken out -/
theorem at_cell {G : Rg} (ok : G.ok) (sp : List Value) (k : Nat) : (ints G.slots ++ sp)[(G.first + k) % G.slots.length]? = some (.int .i64 (G.at k)) := by
  have hj : (G.first + k) % G.slots.length < G.slots.length := Nat.mod_lt _ ok.pos
  refine flat_sp sp ?_
  unfold ints Rg.at
  rw [List.getElem?_map, List.getElem?_eq_getElem hj, List.getD_eq_getElem?_getD, List.getElem?_eq_getElem hj]
  rfl
def takeoG (G : Rg) : Rg := if G.many = 0 then G else G.took
def takeoB (G : Rg) (b : List Buf) : List Buf := if G.many = 0 then b else freeB b (G.at 0) G.own
def takeoV (G : Rg) (b : List Buf) : List Int := if G.many = 0 then [] else bytesOf b (G.at 0)
set_option maxHeartbeats 4000000 in
theorem ringtake_spec {w0 w : World} {R : List Atom} {rp p : Nat} {sb h : Home} {G : Rg} {b : List Buf} (hL : SH w0 w (RingS rp sb p G (PoolS 82 87 p h b R))) (ok : G.ok) (hsm : ∀ B ∈ b, B.bs.length ≤ 1000000) :
    Does Try.prog 33 [ptr rp] w fun v w' => ∃ x A, v = .tuple #[x, .bool (decide (0 < G.many))] ∧ OwnRow 5 1 x (takeoV G b).length (vals (takeoV G b)) A ∧ SH w0 w' (RingS rp sb p (takeoG G) (PoolS 82 87 p h (takeoB G b) (A ++ R))) := by
  have h1 := ok.pos
  have h2 := ok.size
  have h3 := ok.first
  have h4 := ok.many
  refine s33 rfl ?_
  refine row_in ?_
  refine if_in ?_
  refine ⟨_, hL.ld rfl, ?_⟩
  by_cases h0 : G.many = 0
  · refine ⟨true, decide_eq_true (by omega), ?_⟩
    refine row_in ?_
    refine ret_in ?_
    have e1 : takeoV G b = [] := if_pos h0
    have e2 : takeoG G = G := if_pos h0
    have e3 : takeoB G b = b := if_pos h0
    rw [e1, e2, e3]
    exact ⟨_, [], (rfl : _ = Value.tuple #[.slice none 0 0, .bool false]).trans (by rw [decide_eq_false (by omega)]), .none none, hL⟩
  have e1 : takeoV G b = bytesOf b (G.at 0) := if_neg h0
  have e2 : takeoG G = G.took := if_neg h0
  have e3 : takeoB G b = freeB b (G.at 0) G.own := if_neg h0
  rw [e1, e2, e3]
  refine ⟨false, decide_eq_false (by omega), ?_⟩
  refine skip_in ?_
  refine row_in ?_
  refine (slot_spec hL ok 0 (by omega)).mono ?_
  rintro _ w1 ⟨rfl, hg1⟩
  have hL := hL.grows hg1
  have hQ : SH w0 w1 (Cl sb.b 3 (ints G.slots ++ sb.sp) :: Cl rp 95 (G.hdr p sb) :: PoolS 82 87 p h b R) := hL.perm (List.Perm.swap _ _ _)
  refine ⟨_, hQ.ld (at_cell ok sb.sp 0), ?_⟩
  refine reframe [0, 4] [ptr rp, .int .i64 (G.at 0)] rfl fun g => ?_
  refine row_in ?_
  refine ⟨_, hL.ld rfl, ?_⟩
  refine (bytes_spec (ring_pool hL).poolR (G.at 0) hsm).mono ?_
  rintro _ w2 ⟨x, A, rfl, hx, hA⟩
  have hL := hL.join hA hx.unshared
  have hL : SH w0 w2 (RingS rp sb p G (PoolS 82 87 p h b (A ++ R))) := hL.perm (pins_out A R)
  refine reframe [0, 4, 5] [ptr rp, .int .i64 (G.at 0), x] rfl fun g => ?_
  refine draw_in ?_
  have hL := hL.drew
  refine ⟨_, hL.ld rfl, ?_⟩
  refine ⟨_, hL.ld rfl, ?_⟩
  refine (free_spec (ring_pool hL) (G.at 0) G.own).mono ?_
  rintro _ w3 ⟨rfl, hL⟩
  have hL := pool_ring hL
  refine reframe [0, 5] [ptr rp, x] rfl fun g => ?_
  refine draw_in ?_
  have hL := hL.drew
  refine ⟨_, hL.ld rfl, ?_⟩
  refine ⟨((G.first + 1 : Nat) : Int), (IntWalk.i64_in _ (by omega)).trans (by omega), ?_⟩
  refine ⟨_, hL.ld rfl, ?_⟩
  refine ⟨(show (G.slots.length : Int) ≠ 0 by omega), (((G.first + 1) % G.slots.length : Nat) : Int), ?_, ?_⟩
  · show ((G.first + 1 : Nat) : Int).tmod (G.slots.length : Int) = _
    rw [Int.natCast_emod]
    exact Int.tmod_eq_emod_of_nonneg (by omega)
  refine hL.stK [_] (fun w4 hL => ?_)
  refine reframe [0, 5] [ptr rp, x] rfl fun g => ?_
  refine row_in ?_
  refine ⟨_, hL.ld rfl, ?_⟩
  refine ⟨((G.many - 1 : Nat) : Int), (IntWalk.i64_in _ (by omega)).trans (by omega), ?_⟩
  refine hL.stK [_] (fun w5 hL => ?_)
  refine row_in ?_
  refine ret_in ?_
  have hL : SH w0 w5 (RingS rp sb p G.took (PoolS 82 87 p h (freeB b (G.at 0) G.own) (A ++ R))) := hL
  exact ⟨x, A, (rfl : _ = Value.tuple #[x, .bool true]).trans (by rw [decide_eq_true (show 0 < G.many by omega)]), hx, hL⟩
end Go.Proofs.Ytjnjgmkkjglheaa
