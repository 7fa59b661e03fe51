/- All that a ring has; and rows of rows of bytes, held against one another. -/
import Derived.Test.YtjnjgmkkjglheaaRingW
namespace Go.Proofs.Ytjnjgmkkjglheaa
open Go Go.Den
attribute [local irreducible] wpC
theorem _root_.Go.Den.OwnRow.room {e : TypeId} {size n : Nat} {v : Value} {xs : List Value} {A : List Atom} (h : OwnRow e size v n xs A) : ∃ a c, v = .slice a n c ∧ n ≤ c := by
  cases h with
  | none b => exact ⟨_, _, rfl, Nat.le_refl _⟩
  | «at» g cs n cap hl hn hm => exact ⟨_, _, rfl, hn⟩
/-- A slice of slices of bytes, as it reads. -/
def RowsAre (w : World) (v : Value) (rows : List (List Int)) : Prop :=
  (∃ a c, v = .slice a rows.length c ∧ rows.length ≤ c) ∧ ∃ vs : List Value, Reads w 1 v rows.length vs ∧ ∀ (k : Nat) (r : List Int), rows[k]? = some r → ∃ a c, vs[k]? = some (.slice a r.length c) ∧ Reads w 1 (.slice a r.length c) r.length (vals r)
theorem RowsAre.grows {w w' : World} {v : Value} {rows : List (List Int)} (h : RowsAre w v rows) (g : Grows w w') : RowsAre w' v rows := by
  obtain ⟨hc, vs, hr, hk⟩ := h
  refine ⟨hc, vs, hr.grows g, fun k r hkr => ?_⟩
  obtain ⟨a, c, h1, h2⟩ := hk k r hkr
  exact ⟨a, c, h1, h2.grows g⟩
/-- The first so many rows. -/
theorem RowsAre.take {w : World} {a : Option Addr} {c : Nat} {rows : List (List Int)} (h : RowsAre w (.slice a rows.length c) rows) (m : Nat) (hm : m ≤ rows.length) :
    m ≤ c ∧ RowsAre w (.slice (if c = 0 then a else a.map (·.add (0 * 1))) (m - 0) (c - 0)) (rows.take m) := by
  obtain ⟨⟨a', c', he, hc⟩, vs, hr, hk⟩ := h
  cases he
  have hl : (rows.take m).length = m := by rw [List.length_take]; omega
  have hz : ∀ d : Addr, d.add (0 * 1) = d := fun d => by unfold Addr.add; simp
  have ha : (if c = 0 then a else a.map (·.add (0 * 1))) = a := by
    split
    · rfl
    · cases a with
      | none => rfl
      | some d => show some (d.add (0 * 1)) = some d; rw [hz]
  rw [ha]
  refine ⟨by omega, ⟨a, c - 0, by rw [hl]; rfl, by rw [hl]; omega⟩, vs.take m, ?_, fun k r hkr => ?_⟩
  · rw [hl]
    obtain ⟨hlen, a2, c2, he, hn, hcell⟩ := hr
    cases he
    refine ⟨by rw [List.length_take]; omega, _, _, rfl, fun h0 => by have := hn h0; omega, fun ad e j u hu => hcell ad e j u ?_⟩
    rw [List.getElem?_take] at hu
    split at hu
    · exact hu
    · cases hu
  · rw [List.getElem?_take] at hkr
    split at hkr
    · rename_i hkm
      obtain ⟨x, y, h1, h2⟩ := hk k r hkr
      exact ⟨x, y, by rw [List.getElem?_take, if_pos hkm]; exact h1, h2⟩
    · cases hkr
/-- Rows under way: the slice of slices is owned (A), and so are the bytes (X). -/
structure Rows1 (w w' : World) (v : Value) (A X : List Atom) (rs : List (Value × List Int)) : Prop where
  own : OwnRow 23 1 v rs.length (rs.map (·.1)) A
  each : ∀ r ∈ rs, ∃ Ar, OwnRow 5 1 r.1 r.2.length (vals r.2) Ar ∧ ∀ x ∈ Ar, x ∈ X
  uns : ∀ x ∈ X, ∀ b, ¬ x.sh b
  hL : SH w w' (A ++ X)
/-- New rows, and what they lie in. -/
def RowsNew (w w' : World) (v : Value) (rows : List (List Int)) : Prop :=
  ∃ A, SH w w' A ∧ (∀ x ∈ A, ∀ b, ¬ x.sh b) ∧ ∀ w'', (∀ a ∈ A, a.holds w'') → RowsAre w'' v rows
theorem Rows1.new {w w' : World} {v : Value} {A X : List Atom} {rs : List (Value × List Int)} (h : Rows1 w w' v A X rs) : RowsNew w w' v (rs.map (·.2)) := by
  refine ⟨A ++ X, h.hL, fun x hx => ?_, fun w'' hh => ?_⟩
  · rcases List.mem_append.1 hx with hx | hx
    · exact h.own.unshared x hx
    · exact h.uns x hx
  refine ⟨by rw [List.length_map]; exact h.own.room, rs.map (·.1), by rw [List.length_map]; exact h.own.reads fun a ha => hh a (by simp [ha]), fun k r hkr => ?_⟩
  rw [List.getElem?_map] at hkr
  cases hp : rs[k]? with
  | none => rw [hp] at hkr; cases hkr
  | some q =>
    rw [hp] at hkr
    cases hkr
    obtain ⟨Ar, hq, hsub⟩ := h.each q (List.mem_of_getElem? hp)
    obtain ⟨a, c, he⟩ := hq.slice
    refine ⟨a, c, by rw [List.getElem?_map, hp]; exact congrArg some he, ?_⟩
    have he : q.1 = .slice a q.2.length c := he
    rw [← he]
    exact hq.reads fun x hx => hh x (by simp [hsub x hx])
theorem RowsNew.are {w w' : World} {v : Value} {rows : List (List Int)} (h : RowsNew w w' v rows) : Grows w w' ∧ RowsAre w' v rows := by
  obtain ⟨A, hL, _, hr⟩ := h
  exact ⟨hL.grown, hr w' hL.holds⟩
/-- One more row of bytes, behind the row. -/
theorem Rows1.more {w w1 : World} {x v v' : Value} {A A2 A' X : List Atom} {w2 : World} {rs : List (Value × List Int)} {bs : List Int} {b29 : Nat} {e : TypeId} {cs : List Value} (h : Rows1 w w2 v A X rs)
    (hx : OwnRow 5 1 x bs.length (vals bs) A2) (hv : OwnRow 23 1 v' (rs.length + 1) (rs.map (·.1) ++ [x]) A') (hL : SH w w1 (A' ++ (Cl b29 e cs :: (A2 ++ X)))) : Rows1 w w1 v' A' (A2 ++ X) (rs ++ [(x, bs)]) := by
  refine ⟨by simpa using hv, fun r hr => ?_, fun y hy => ?_, hL.sub ((List.sublist_cons_self _ _).append_left A')⟩
  · rcases List.mem_append.1 hr with hr | hr
    · obtain ⟨Ar, h1, h2⟩ := h.each r hr
      exact ⟨Ar, h1, fun y hy => List.mem_append_right _ (h2 y hy)⟩
    · simp only [List.mem_singleton] at hr
      subst hr
      exact ⟨A2, hx, fun y hy => List.mem_append_left _ hy⟩
  · rcases List.mem_append.1 hy with hy | hy
    · exact hx.unshared y hy
    · exact h.uns y hy
def rb (b : List Buf) (rows : List Int) : List (List Int) := rows.map (bytesOf b)
set_option maxHeartbeats 4000000 in
theorem all_new {w0 w : World} {R : List Atom} {rp p : Nat} {sb h : Home} {G : Rg} {b : List Buf} (hL : SH w0 w (RingS rp sb p G (PoolS 82 87 p h b R))) (ok : G.ok) (hsm : ∀ B ∈ b, B.bs.length ≤ 1000000) :
    Does Try.prog 37 [ptr rp] w fun v w' => RowsNew w w' v (rb b G.rows) := by
  have h1 := ok.pos
  have h2 := ok.size
  have h3 := ok.first
  have h4 := ok.many
  refine s37 rfl ?_
  refine row_in ?_
  refine row_in ?_
  refine seq_in (row_in ?_)
  refine ⟨_, hL.ld rfl, ?_⟩
  refine block_in ?_
  refine loop_rule (3 :: 4 :: 5 :: 6 :: List.range' 11 21) rfl [11, 3] (fun (s : Nat × Value × List Atom × List (Value × List Int) × List Atom) => [.int .i64 s.1, s.2.1])
    (fun s w' => s.1 ≤ G.many ∧ Rows1 w w' s.2.1 s.2.2.1 s.2.2.2.2 s.2.2.2.1 ∧ s.2.2.2.1.map (·.2) = (List.range s.1).map (fun k => bytesOf b (G.at k))) (fun s => G.many - s.1) (0, .slice none 0 0, [], [], []) rfl
    ⟨Nat.zero_le _, ⟨.none none, by simp, by simp, SH.nil w⟩, rfl⟩ ?_
  rintro g ⟨k, v, A, rs, X⟩ w1 ⟨hk, hr, hrs⟩
  have hk : k ≤ G.many := hk
  have hr : Rows1 w w1 v A X rs := hr
  have hrs : rs.map (·.2) = (List.range k).map (fun k => bytesOf b (G.at k)) := hrs
  have hlen : rs.length = k := by have := congrArg List.length hrs; simpa using this
  refine row_in ?_
  by_cases hkl : k < G.many
  rotate_left
  · refine ⟨false, decide_eq_false (by omega), ?_⟩
    refine seq_in (cond_in ?_)
    refine exit_in ?_
    refine row_in ?_
    refine ret_in ?_
    have e : k = G.many := by omega
    subst e
    have ha := hr.new
    rw [hrs] at ha
    have e2 : rb b G.rows = (List.range G.many).map (fun k => bytesOf b (G.at k)) := by unfold rb Rg.rows; rw [List.map_map]; rfl
    rw [e2]
    exact ha
  refine ⟨true, decide_eq_true (by omega), ?_⟩
  refine seq_in (cond_in ?_)
  refine skip_in ?_
  have hG := hL.grows hr.hL.grown
  refine block_then ?_
  refine row_in ?_
  refine draw_in ?_
  have hG := hG.drew
  refine ⟨_, hG.ld rfl, ?_⟩
  refine (slot_spec hG ok k (by omega)).mono ?_
  rintro _ w2 ⟨rfl, hg2⟩
  have hG := hG.grows hg2
  refine ⟨⟨hG.ld rfl, trivial⟩, ?_⟩
  have hQ : SH w0 w2 (Cl sb.b 3 (ints G.slots ++ sb.sp) :: Cl rp 95 (G.hdr p sb) :: PoolS 82 87 p h b R) := hG.perm (List.Perm.swap _ _ _)
  refine ⟨_, hQ.ld (at_cell ok sb.sp k), ?_⟩
  refine (bytes_spec (ring_pool hG).poolR (G.at k) hsm).mono ?_
  rintro _ w3 ⟨x, A2, rfl, hx, hA2⟩
  obtain ⟨xa, xc, rfl⟩ := hx.slice
  have hG := hG.grows hA2.grown
  have hQ : SH w0 w3 (Cl sb.b 3 (ints G.slots ++ sb.sp) :: Cl rp 95 (G.hdr p sb) :: PoolS 82 87 p h b R) := hG.perm (List.Perm.swap _ _ _)
  refine ⟨⟨hQ.ld (at_cell ok sb.sp k), hG.ld rfl, trivial⟩, ?_⟩
  have hLL := ((hr.hL.drew).grows hg2).join hA2 hx.unshared
  refine reframe [0, 10, 11, 3, 5] [ptr rp, .int .i64 G.many, .int .i64 k, v, .slice xa (bytesOf b (G.at k)).length xc] rfl fun g => ?_
  refine ops_in ?_
  refine ⟨rfl, _, rfl, ?_⟩
  refine hLL.newK fun b29 w4 hLL => ?_
  have hLL : SH w w4 (Cl b29 23 [.slice xa (bytesOf b (G.at k)).length xc] :: (A2 ++ (A ++ X))) := hLL
  refine app _ _ el67 rfl rfl rfl (A := A) (R := Cl b29 23 [.slice xa (bytesOf b (G.at k)).length xc] :: (A2 ++ X)) (m := 1) (news := [.slice xa (bytesOf b (G.at k)).length xc])
    (hLL.perm (List.perm_append_comm_assoc (Cl b29 23 [.slice xa (bytesOf b (G.at k)).length xc] :: A2) A X)) hr.own ⟨rfl, _, _, rfl, fun h => (by cases h), ?_⟩ ?_ (by simp only [maxLen]; omega) (by omega) fun v' w5 A' hv' hL' => ?_
  · intro ad e j u hu
    cases e
    rw [add_plain]
    match j, hu with
    | 0, hu => exact hLL.ld hu
  · intro u hu
    simp only [List.mem_singleton] at hu
    subst hu
    rfl
  have hr' := hr.more hx hv' hL'
  refine ops_in ?_
  refine ⟨((k + 1 : Nat) : Int), (IntWalk.i64_in _ (by omega)).trans (by omega), ?_⟩
  refine ⟨(k + 1, v', A', rs ++ [(_, bytesOf b (G.at k))], A2 ++ X), rfl, ⟨hkl, hr', ?_⟩, by simp only []; omega⟩
  simp only []
  rw [List.map_append, hrs, List.range_succ, List.map_append]
  rfl
theorem all_spec {w0 w : World} {R : List Atom} {rp p : Nat} {sb h : Home} {G : Rg} {b : List Buf} (hL : SH w0 w (RingS rp sb p G (PoolS 82 87 p h b R))) (ok : G.ok) (hsm : ∀ B ∈ b, B.bs.length ≤ 1000000) :
    Does Try.prog 37 [ptr rp] w fun v w' => Grows w w' ∧ RowsAre w' v (rb b G.rows) := (all_new hL ok hsm).mono fun _ _ h => h.are
set_option maxHeartbeats 4000000 in
theorem samerows_spec {w : World} {x y : Value} {a b : List (List Int)} (hx : RowsAre w x a) (hy : RowsAre w y b) (hlen : a.length ≤ 1000000) (hrow : ∀ r ∈ a, r.length ≤ 1000000) :
    Does Try.prog 39 [x, y] w fun v w' => v = .bool (decide (a = b)) ∧ Grows w w' := by
  obtain ⟨_, xs, hrx, _⟩ := id hx
  obtain ⟨_, ys, hry, _⟩ := id hy
  obtain ⟨hlx, xa, xc, rfl, hxn, _⟩ := id hrx
  obtain ⟨hly, ya, yc, rfl, hyn, _⟩ := id hry
  clear hrx hry hlx hly
  refine s39 rfl ?_
  refine row_in ?_
  refine if_in ?_
  by_cases hl : a.length = b.length
  rotate_left
  · refine ⟨true, decide_eq_true (show (a.length : Int) ≠ b.length by omega), ?_⟩
    refine row_in ?_
    refine ret_in ?_
    exact ⟨(rfl : _ = Value.bool false).trans (by rw [decide_eq_false (fun h => hl (by rw [h]))]), Grows.refl w⟩
  refine ⟨false, decide_eq_false (show ¬ (a.length : Int) ≠ b.length by omega), ?_⟩
  refine skip_in ?_
  refine seq_in (row_in ?_)
  refine block_in ?_
  refine loop_rule (4 :: 5 :: List.range' 11 16) rfl [5] (fun (i : Nat) => [.int .i64 i]) (fun i w' => i ≤ a.length ∧ (∀ j : Nat, j < i → a[j]? = b[j]?) ∧ Grows w w') (fun i => a.length - i) 0 rfl ⟨Nat.zero_le _, fun j h => absurd h (Nat.not_lt_zero _), Grows.refl w⟩ ?_
  rintro g i w1 ⟨hi, hlow, hg⟩
  refine if_in ?_
  by_cases hil : i < a.length
  rotate_left
  · refine ⟨false, decide_eq_false (by omega), ?_⟩
    refine exit_in ?_
    refine row_in ?_
    refine ret_in ?_
    have hab : a = b := List.ext_getElem? fun j => by
      by_cases hj : j < i
      · exact hlow j hj
      · rw [List.getElem?_eq_none (by omega), List.getElem?_eq_none (by omega)]
    exact ⟨(rfl : _ = Value.bool true).trans (by rw [decide_eq_true hab]), hg⟩
  refine ⟨true, decide_eq_true (by omega), ?_⟩
  refine skip_in ?_
  obtain ⟨r, hr⟩ : ∃ r, a[i]? = some r := ⟨a[i], List.getElem?_eq_getElem (by omega)⟩
  obtain ⟨s, hs⟩ : ∃ s, b[i]? = some s := ⟨b[i], List.getElem?_eq_getElem (by omega)⟩
  obtain ⟨xd, rfl⟩ : ∃ d, xa = some d := by cases xa with | none => have := hxn rfl; omega | some d => exact ⟨d, rfl⟩
  obtain ⟨yd, rfl⟩ : ∃ d, ya = some d := by cases ya with | none => have := hyn rfl; omega | some d => exact ⟨d, rfl⟩
  obtain ⟨_, xs, hrx, hxk⟩ := hx.grows (hg.trans (Grows.drew w1))
  obtain ⟨_, ys, hry, hyk⟩ := hy.grows (hg.trans (Grows.drew w1))
  obtain ⟨ra, rc, hxi, hrr⟩ := hxk i r hr
  obtain ⟨sa, sc, hyi, hss⟩ := hyk i s hs
  have cx : w1.drew.cell? (xd.add (i * 1)) = some (.slice ra r.length rc) := by
    obtain ⟨_, _, _, e, _, h⟩ := hrx
    cases e
    rw [Nat.mul_one]
    exact h xd rfl i _ hxi
  have cy : w1.drew.cell? (yd.add (i * 1)) = some (.slice sa s.length sc) := by
    obtain ⟨_, _, _, e, _, h⟩ := hry
    cases e
    rw [Nat.mul_one]
    exact h yd rfl i _ hyi
  refine block_then ?_
  refine seq_in (drawn_in ?_)
  refine ⟨⟨by omega, by omega⟩, _, rfl, ?_⟩
  refine ⟨_, cx, ?_⟩
  refine ⟨⟨by omega, by omega⟩, _, rfl, ?_⟩
  refine ⟨_, cy, ?_⟩
  refine (samebytes_spec hrr hss (hrow r (List.mem_of_getElem? hr))).mono ?_
  rintro _ w2 ⟨rfl, hg2⟩
  refine ⟨⟨hg2.cell cy, hg2.cell cx, trivial⟩, ?_⟩
  have hgg := (hg.trans (Grows.drew w1)).trans hg2
  by_cases he : r = s
  · refine ⟨false, (by rw [decide_eq_true he]; rfl), ?_⟩
    refine cond_in ?_
    refine skip_in ?_
    refine ops_in ?_
    refine ⟨((i + 1 : Nat) : Int), (IntWalk.i64_in _ (by omega)).trans (by omega), ?_⟩
    refine ⟨i + 1, rfl, ⟨hil, fun j hj => ?_, hgg⟩, by omega⟩
    by_cases hji : j < i
    · exact hlow j hji
    · have : j = i := by omega
      subst this
      rw [hr, hs, he]
  · refine ⟨true, (by rw [decide_eq_false he]; rfl), ?_⟩
    refine cond_in ?_
    refine row_in ?_
    refine ret_in ?_
    have hab : a ≠ b := fun h => by subst h; rw [hr] at hs; exact he (Option.some.inj hs)
    exact ⟨(rfl : _ = Value.bool false).trans (by rw [decide_eq_false hab]), hgg⟩
end Go.Proofs.Ytjnjgmkkjglheaa
