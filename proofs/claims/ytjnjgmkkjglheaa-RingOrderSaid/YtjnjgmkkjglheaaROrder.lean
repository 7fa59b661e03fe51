/- RingOrder, walked: what is laid in is taken out in that order, each once. -/
import Derived.Test.YtjnjgmkkjglheaaROff
namespace Go.Proofs.Ytjnjgmkkjglheaa
open Go Go.Den
attribute [local irreducible] wpC
/-- Values that are slices of bytes, which were there from the start. -/
def Ins (w : World) (xs : List Value) (ins : List (List Int)) : Prop :=
  xs.length = ins.length ∧ ∀ (k : Nat) (r : List Int), ins[k]? = some r → ∃ a c, xs[k]? = some (.slice a r.length c) ∧ Reads w 1 (.slice a r.length c) r.length (vals r)
theorem Ins.more {w : World} {xs : List Value} {ins : List (List Int)} (h : Ins w xs ins) {a : Option Addr} {c : Nat} {r : List Int} (hr : Reads w 1 (.slice a r.length c) r.length (vals r)) : Ins w (xs ++ [.slice a r.length c]) (ins ++ [r]) := by
  refine ⟨by simp [h.1], fun k s hk => ?_⟩
  by_cases hlt : k < ins.length
  · rw [List.getElem?_append_left hlt] at hk
    obtain ⟨a', c', h1, h2⟩ := h.2 k s hk
    exact ⟨a', c', by rw [List.getElem?_append_left (by rw [h.1]; exact hlt)]; exact h1, h2⟩
  · have hlt2 := (List.getElem?_eq_some_iff.1 hk).1
    simp at hlt2
    have : k = ins.length := by omega
    subst this
    simp at hk
    subst hk
    exact ⟨a, c, by rw [← h.1]; simp, hr⟩
theorem Ins.are {w0 w : World} {L : List Atom} {v : Value} {xs : List Value} {ins : List (List Int)} {A : List Atom} (h : Ins w0 xs ins) (hL : SH w0 w L) (hv : OffRow 23 v ins.length xs A) (hA : ∀ a ∈ A, a.holds w) : RowsAre w v ins := by
  refine ⟨hv.slice, xs, hv.reads hA, fun k r hk => ?_⟩
  obtain ⟨a, c, h1, h2⟩ := h.2 k r hk
  exact ⟨a, c, h1, h2.old hL⟩
structure Ord (w0 w : World) (R : List Atom) (rp p : Nat) (sb h : Home) (n s : Nat) (G : Rg) (b : List Buf) (v : Value) (A : List Atom) (ins : List (List Int)) (xs : List Value) : Prop where
  solo : Solo w0 w (A ++ R) rp p sb h n 9 G b
  row : OffRow 23 v ins.length xs A
  inn : Ins w0 xs ins
  has : Has 9 G b
  rb : rb b G.rows = ins
  left : leftOf b + G.many = n
  size : G.slots.length = s
theorem bytesOf_other {b : List Buf} {i : Nat} {B : Buf} (C : Buf) {z : Int} (hne : z ≠ i) : bytesOf (b.set i C) z = bytesOf b z := by
  by_cases h0 : z < 0
  · unfold bytesOf
    rw [ownerOf_neg h0, ownerOf_neg h0, if_neg (by decide), if_neg (by decide)]
  · obtain ⟨k, rfl⟩ : ∃ k : Nat, z = k := ⟨z.toNat, by omega⟩
    exact bytesOf_set _ (by omega)
/-- What a put does. -/
theorem order_put {G : Rg} {b : List Buf} {n : Nat} (ok : G.ok) (good : Good b) (len : b.length = n) (has : Has 9 G b) (left : leftOf b + G.many = n) (s : Value) (bs : List Int) :
    (putE G b bs.length = 0 → Has 9 (putG G b bs.length) (putB G b s bs) ∧ rb (putB G b s bs) (putG G b bs.length).rows = rb b G.rows ++ [bs] ∧ leftOf (putB G b s bs) + (putG G b bs.length).many = n ∧ (putG G b bs.length).slots.length = G.slots.length ∧ (putG G b bs.length).drop = G.drop) ∧
    (putE G b bs.length ≠ 0 → putB G b s bs = b ∧ putG G b bs.length = G.lost) := by
  constructor
  · intro hE
    have hr : G.many < G.slots.length := by
      by_cases hr : G.many < G.slots.length
      · exact hr
      · have : putE G b bs.length = 18 := if_neg hr
        rw [this] at hE
        exact absurd hE (by decide)
    have e1 : putE G b bs.length = takeE b G.own bs.length := if_pos hr
    have e3 : putB G b s bs = takeB b G.own s bs := if_pos hr
    have e2 : putG G b bs.length = G.lay (takeN b G.own bs.length) := by unfold putG; rw [if_pos hE]
    rw [e1] at hE
    obtain ⟨ho, _, i, B, hf, hB, hBo, _⟩ := take_zero hE
    obtain ⟨hN, hTB⟩ := take_yes hE hf s
    have hi := (List.getElem?_eq_some_iff.1 hB).1
    rw [e2, e3, hN, hTB]
    have hown := has.own
    have hgood : Good (b.set i ⟨G.own, s, bs⟩) := by rw [← hTB]; exact good.take _ _ _
    refine ⟨has.lay ok hr hB (by omega) hown, ?_, ?_, List.length_set, rfl⟩
    · rw [rows_lay ok hr]
      unfold rb
      rw [List.map_append]
      congr 1
      · apply List.map_congr_left
        intro z hz
        exact bytesOf_other (B := B) _ (owner_set (C := B) hB (has.owned z hz) (by omega)).1
      · show [bytesOf (b.set i ⟨G.own, s, bs⟩) (i : Int)] = [bs]
        rw [bytesOf_at hgood (set_at hi _)]
    · have h1 := leftOf_set (C := ⟨G.own, s, bs⟩) hB (decide_eq_true hBo) (owns_nz (by rw [hown]; rfl) s bs)
      show leftOf (b.set i ⟨G.own, s, bs⟩) + (G.many + 1) = n
      omega
  · intro hE
    refine ⟨?_, by unfold putG; rw [if_neg hE]⟩
    unfold putB
    split
    · rename_i hr
      have e1 : putE G b bs.length = takeE b G.own bs.length := if_pos hr
      rw [e1] at hE
      exact (take_no rfl hE s).2
    · rfl
/-- What a take does. -/
theorem order_take {G : Rg} {b : List Buf} {n : Nat} (has : Has 9 G b) (left : leftOf b + G.many = n) (h0 : 0 < G.many) :
    takeoG G = G.took ∧ Has 9 G.took (takeoB G b) ∧ rb b G.rows = takeoV G b :: rb (takeoB G b) G.took.rows ∧ leftOf (takeoB G b) + G.took.many = n := by
  have e2 : takeoG G = G.took := if_neg (by omega)
  have e3 : takeoB G b = freeB b (G.at 0) G.own := if_neg (by omega)
  have e1 : takeoV G b = bytesOf b (G.at 0) := if_neg (by omega)
  obtain ⟨i, B, hat, hB, hBo, hfr, hhas⟩ := has.took h0 rfl
  rw [e1, e3, hfr]
  refine ⟨e2, hhas, ?_, ?_⟩
  · rw [rows_took h0]
    unfold rb
    rw [List.map_cons]
    congr 1
    apply List.map_congr_left
    intro z hz
    have hnd := has.nodup
    rw [rows_took h0, hat] at hnd
    have hne : z ≠ i := fun h => by subst h; exact (List.nodup_cons.1 hnd).1 hz
    exact (bytesOf_other (B := B) _ hne).symm
  · have h1 := leftOf_free hB (show isFree B = false from decide_eq_false (by omega)) (C := noBuf) rfl
    show leftOf (b.set i noBuf) + (G.many - 1) = n
    omega
section
variable {w0 w : World} {R : List Atom} {rp p : Nat} {sb h : Home} {n s : Nat} {G : Rg} {b : List Buf} {v : Value} {A : List Atom} {ins : List (List Int)} {xs : List Value}
theorem Ord.grows {w' : World} (H : Ord w0 w R rp p sb h n s G b v A ins xs) (g : Grows w w') : Ord w0 w' R rp p sb h n s G b v A ins xs := ⟨H.solo.grows g, H.row, H.inn, H.has, H.rb, H.left, H.size⟩
theorem Ord.many (H : Ord w0 w R rp p sb h n s G b v A ins xs) : ins.length = G.many := by rw [← H.rb]; unfold Go.Proofs.Ytjnjgmkkjglheaa.rb; rw [List.length_map, rows_length]
theorem Ord.are (H : Ord w0 w R rp p sb h n s G b v A ins xs) : RowsAre w v ins := H.inn.are H.solo.hL H.row fun a ha => H.solo.hL.holds a (by simp [ha])
theorem Ord.aside (H : Ord w0 w R rp p sb h n s G b v A ins xs) : SH w0 w R := H.solo.hL.sub (((List.sublist_append_right A R).trans (List.sublist_append_right (RingS rp sb p G (PoolS 82 87 p h b [])) _)))
theorem ord_sub {R' : List Atom} (H : Ord w0 w R' rp p sb h n s G b v A ins xs) (hs : R.Sublist R') : Ord w0 w R rp p sb h n s G b v A ins xs :=
  ⟨solo_sub H.solo (hs.append_left A), H.row, H.inn, H.has, H.rb, H.left, H.size⟩
theorem ord_in (X : List Atom) (H : Ord w0 w R rp p sb h n s G b v A ins xs) {w' : World} (hL' : SH w0 w' (X ++ RingS rp sb p G (PoolS 82 87 p h b (A ++ R)))) : Ord w0 w' (X ++ R) rp p sb h n s G b v A ins xs := by
  refine ⟨⟨hL'.perm ?_, H.solo.ok, H.solo.good, H.solo.len, H.solo.own⟩, H.row, H.inn, H.has, H.rb, H.left, H.size⟩
  exact (pins_out X (A ++ R)).trans (List.Perm.append_left (RingS rp sb p G (PoolS 82 87 p h b [])) (List.perm_append_comm_assoc X A R))
end
set_option maxHeartbeats 16000000 in
theorem ringorder_walk {w : World} {a : Option Addr} {len cap : Nat} {C : Nat → Call2} (hC : CallsIn2 w a len C) (many size : Int) :
    Does Try.prog 9 [.int .i64 many, .int .i64 size, .slice a len cap] w fun v w' => v = .bool true ∧ Grows w w' := by
  refine s9 rfl ?_
  refine row_in ?_
  refine if_in ?_
  refine (alive2_spec w).mono ?_
  rintro _ w1 ⟨rfl, hg1⟩
  refine ⟨false, rfl, ?_⟩
  refine skip_in ?_
  refine if_in ?_
  refine (great2_spec (hC.grows hg1) many).mono ?_
  rintro _ w1 ⟨rfl, g, rfl, hgr⟩
  cases g
  rotate_left
  · refine row_in ?_
    refine ret_in ?_
    exact ⟨rfl, hg1⟩
  obtain ⟨hmany, hlen, hbs⟩ := hgr rfl
  refine skip_in ?_
  refine row_in ?_
  refine (new_spec many w1).mono ?_
  rintro _ w2 ⟨hno, hyes⟩
  by_cases hout : many < 1 ∨ 1024 < many
  · obtain ⟨rfl, rfl⟩ := hno hout
    refine if_in ?_
    refine ⟨true, rfl, ?_⟩
    refine row_in ?_
    refine ⟨true, decide_eq_true (by omega), ?_⟩
    refine ret_in ?_
    exact ⟨rfl, hg1⟩
  obtain ⟨p, h, _, rfl, hP⟩ := hyes (by omega)
  have hL : SH w w2 (PoolS 82 87 p h (List.replicate many.toNat noBuf) []) := ((SH.nil w).grows hg1).join hP (newpool_unshared _ _ _ _ _)
  clear hyes hno hP
  obtain ⟨n, hn, rfl⟩ : ∃ n : Nat, n ≤ 100 ∧ many = n := ⟨many.toNat, by omega, by omega⟩
  have hpos : 1 ≤ n := by omega
  rw [Int.toNat_natCast] at hL
  refine if_in ?_
  refine ⟨false, rfl, ?_⟩
  refine skip_in ?_
  refine reframe [0, 1, 2, 7] [.int .i64 n, .int .i64 size, .slice a len cap, ptr p] rfl fun g => ?_
  refine row_in ?_
  refine (ringnew_spec p size 9 w2).mono ?_
  rintro _ w3 ⟨hno, hyes⟩
  by_cases hout2 : size < 1 ∨ 256 < size ∨ owns 9 = false
  · obtain ⟨rfl, rfl⟩ := hno hout2
    refine if_in ?_
    refine ⟨true, rfl, ?_⟩
    refine row_in ?_
    refine ⟨true, rfl, ?_⟩
    refine ret_in ?_
    exact ⟨rfl, hL.grown⟩
  obtain ⟨rp, sb, rfl, hR⟩ := hyes (by omega) (by omega) rfl
  have hL := hL.join hR (ring_unshared _ _ _ _)
  clear hyes hno hR
  obtain ⟨s, rfl⟩ : ∃ s : Nat, size = s := ⟨size.toNat, by omega⟩
  rw [Int.toNat_natCast] at hL
  refine if_in ?_
  refine ⟨false, rfl, ?_⟩
  refine ⟨false, rfl, ?_⟩
  refine skip_in ?_
  refine row_in ?_
  refine ⟨rfl, _, rfl, ?_⟩
  refine hL.newG fun b45 w4 _ hg4 => ?_
  have hL := hL.grows hg4
  have H : Ord w w4 [] rp p sb h n s ⟨9, List.replicate s 0, 0, 0, 0⟩ (List.replicate n noBuf) (.slice (some ⟨b45, 0, none⟩) 0 0) [] [] [] := by
    refine ⟨⟨hL, ⟨by simp; omega, by simp; omega, by simp; omega, by simp⟩, Good.new n, by simp, rfl⟩, .none _, ⟨rfl, fun k r hk => by simp at hk⟩, Has.new 9 n s (by decide), rfl, ?_, by simp⟩
    show leftOf (List.replicate n noBuf) + 0 = n
    unfold leftOf
    rw [List.countP_replicate]
    rfl
  clear hL
  refine row_in ?_
  refine reframe [0, 1, 2, 7, 9, 11, 12] [.int .i64 n, .int .i64 s, .slice a len cap, ptr p, ptr rp, .slice (some ⟨b45, 0, none⟩) 0 0, .int .i64 0] rfl fun g => ?_
  refine seq_in (row_in ?_)
  refine block_in ?_
  refine loop_rule (6 :: List.range' 11 6 ++ List.range' 46 91) rfl [11, 12, 13] (fun (t : Nat × Value × Int) => [t.2.1, .int .i64 t.2.2, .int .i64 t.1]) (fun t w' => t.1 ≤ len ∧ ∃ G b A ins xs, Ord w w' [] rp p sb h n s G b t.2.1 A ins xs ∧ G.drop = t.2.2) (fun t => len - t.1) (0, _, 0) rfl ⟨Nat.zero_le _, _, _, _, _, _, H, rfl⟩ ?_
  clear H
  rintro g2 ⟨i, v, d⟩ w5 ⟨hi, G, b, A, ins, xs, H, hd⟩
  have hi : i ≤ len := hi
  have H : Ord w w5 [] rp p sb h n s G b v A ins xs := H
  have hd : G.drop = d := hd
  subst hd
  refine if_in ?_
  by_cases hil : i < len
  rotate_left
  · refine ⟨false, decide_eq_false (by omega), ?_⟩
    refine exit_in ?_
    refine row_in ?_
    refine ret_in ?_
    exact ⟨rfl, H.solo.hL.grown⟩
  refine ⟨true, decide_eq_true (by omega), ?_⟩
  refine skip_in ?_
  have hg5 : Grows w w5 := H.solo.hL.grown
  obtain ⟨x, rfl, hlds⟩ := (hC.grows hg5).lds hil
  have hk := hC.bytes i hil
  have hkb := hbs i hil
  refine block_then ?_
  refine row_in ?_
  refine ⟨⟨by omega, by omega⟩, _, rfl, ?_⟩
  refine ⟨_, hlds, ?_⟩
  generalize C i = k at *
  refine H.solo.hL.newK fun b14 w6 hL => ?_
  refine hL.stK [_, _, _, _] fun w7 hL => ?_
  have H : Ord w w7 [Cl b14 64 k.l] rp p sb h n s G b v A ins xs := ord_in [Cl b14 64 k.l] H hL
  clear hL hg5 hlds
  obtain ⟨va, vc, rfl, hvc⟩ := H.row.slice
  refine reframe [0, 1, 2, 7, 9, 11, 12, 13, 14] [.int .i64 n, .int .i64 s, .slice (some x) len cap, ptr p, ptr rp, .slice va ins.length vc, .int .i64 G.drop, .int .i64 i, ptr b14] rfl fun g => ?_
  refine cut_rule (6 :: 11 :: 12 :: 15 :: 16 :: List.range' 56 40) rfl [11, 12] (fun (t : Value × Int) => [t.1, .int .i64 t.2]) (fun t w' => ∃ G b A ins xs, Ord w w' [] rp p sb h n s G b t.1 A ins xs ∧ G.drop = t.2) ?_ ?_
  · have hm := H.many
    refine row_in ?_
    refine ⟨_, H.aside.ld rfl, ?_⟩
    by_cases h2 : k.what = 2
    · refine ⟨true, decide_eq_true h2, ?_⟩
      refine cond_in ?_
      refine row_in ?_
      refine (solo_take H.solo).mono ?_
      rintro _ w8 ⟨y, Ay, rfl, hy, HS⟩
      refine reframe [9, 11, 12, 14, 15, 16] [ptr rp, .slice va ins.length vc, .int .i64 G.drop, ptr b14, y, .bool (decide (0 < G.many))] rfl fun g => ?_
      by_cases h0 : 0 < G.many
      · obtain ⟨e2, hhas, hrb, hleft⟩ := order_take H.has H.left h0
        rw [H.rb] at hrb
        rw [decide_eq_true h0]
        have hyr := hy.reads (w := w8) fun a ha => HS.hL.holds a (by simp [ha])
        have hrow := H.row
        have hinn := H.inn
        rw [hrb] at hrow hinn hvc hm ⊢
        obtain ⟨x0, xs', rfl⟩ : ∃ x0 xs', xs = x0 :: xs' := by
          cases xs with
          | nil => have := hinn.1; simp at this
          | cons x0 xs' => exact ⟨x0, xs', rfl⟩
        obtain ⟨h1n, hnc, A', hsub, hrow'⟩ := OffRow.tail (n := (rb (takeoB G b) G.took.rows).length) hrow
        have hreads := hrow.reads (w := w8) fun a ha => HS.hL.holds a (by simp [ha])
        obtain ⟨ra, rc, hx0, hxr⟩ := hinn.2 0 _ rfl
        simp at hx0
        subst hx0
        obtain ⟨ad, rfl⟩ : ∃ ad, va = some ad := by
          cases va with
          | none => obtain ⟨_, _, _, e, hn0, _⟩ := hreads; cases e; have := hn0 rfl; simp at this
          | some d => exact ⟨d, rfl⟩
        have c0 : w8.cell? (ad.add (0 * 1)) = some (.slice ra (takeoV G b).length rc) := by
          obtain ⟨_, _, _, e, _, hc⟩ := hreads
          cases e
          exact hc ad rfl 0 _ rfl
        refine seq_in (row_in ?_)
        refine ⟨true, decide_eq_true (by simp), ?_⟩
        refine ⟨false, rfl, ?_⟩
        refine ⟨⟨by omega, by simp⟩, _, rfl, ?_⟩
        refine ⟨_, c0, ?_⟩
        refine (samebytes_spec hyr (hxr.old HS.hL) (by have := bytesOf_small H.solo.good (G.at 0); unfold takeoV; split; simp; omega)).mono ?_
        rintro u w9 ⟨hu, hg9⟩
        rw [decide_eq_true rfl] at hu
        subst hu
        refine ⟨false, rfl, ?_⟩
        refine cond_in ?_
        refine skip_in ?_
        refine row_in ?_
        refine cond_in ?_
        refine ops_in ?_
        refine ⟨1, ⟨rfl, by simp⟩, _, rfl, ?_⟩
        refine ⟨(_, G.drop), rfl, takeoG G, takeoB G b, A', _, xs', ⟨?_, hrow', ⟨by have := hinn.1; simpa using this, fun k r hk => ?_⟩, by rw [e2]; exact hhas, by rw [e2], by rw [e2]; exact hleft, ?_⟩, by rw [e2]; rfl⟩
        · refine solo_sub (HS.grows hg9) ?_
          rw [List.append_nil]
          exact hsub.trans ((List.sublist_append_left A _).trans (List.sublist_append_right Ay _))
        · have := hinn.2 (k + 1) r (by simpa using hk)
          simpa using this
        · rw [e2]; exact H.size
      · have hz : G.many = 0 := by omega
        have e2 : takeoG G = G := if_pos hz
        have e3 : takeoB G b = b := if_pos hz
        rw [e2, e3] at HS
        rw [decide_eq_false h0]
        refine seq_in (row_in ?_)
        refine ⟨false, decide_eq_false (by omega), ?_⟩
        refine ⟨false, rfl, ?_⟩
        refine cond_in ?_
        refine skip_in ?_
        refine row_in ?_
        refine cond_in ?_
        refine skip_in ?_
        refine ⟨(_, G.drop), rfl, G, b, A, ins, xs, ⟨solo_sub HS ?_, H.row, H.inn, H.has, H.rb, H.left, H.size⟩, rfl⟩
        rw [List.append_nil]
        exact (List.sublist_append_left A _).trans (List.sublist_append_right Ay _)
    refine ⟨false, decide_eq_false h2, ?_⟩
    refine cond_in ?_
    refine row_in ?_
    refine ⟨_, H.aside.ld rfl, ?_⟩
    refine (own_spec (hk.old H.solo.hL) (vals_one _) (by omega)).mono ?_
    rintro u w8 ⟨Au, hu, hAu⟩
    have hr := hu.reads hAu.holds
    have H := H.grows hAu.grown
    obtain ⟨ua, uc, rfl⟩ := hu.slice
    refine (solo_put H.solo (by omega) hr).mono ?_
    rintro _ w9 ⟨rfl, s', HS⟩
    obtain ⟨hyes, hno⟩ := order_put H.solo.ok H.solo.good H.solo.len H.has H.left s' k.bs
    by_cases hE : putE G b k.bs.length = 0
    · obtain ⟨hhas, hrb, hleft, hsl, hdr⟩ := hyes hE
      refine ⟨true, decide_eq_true hE, ?_⟩
      refine cond_in ?_
      refine ops_in ?_
      have hasi : SH w w9 [Cl b14 64 k.l] := HS.hL.sub ((List.sublist_append_right A _).trans (List.sublist_append_right (RingS rp sb p (putG G b k.bs.length) (PoolS 82 87 p h (putB G b s' k.bs) [])) _))
      refine ⟨_, hasi.ld rfl, ?_⟩
      refine ⟨rfl, _, rfl, ?_⟩
      refine HS.hL.newK fun b92 w10 hL => ?_
      have hL : SH w w10 (Cl b92 23 [k.x] :: RingS rp sb p (putG G b k.bs.length) (PoolS 82 87 p h (putB G b s' k.bs) (A ++ [Cl b14 64 k.l]))) := hL
      refine runs_append_off _ _ el67 rfl rfl rfl (A := A) (R := Cl b92 23 [k.x] :: RingS rp sb p (putG G b k.bs.length) (PoolS 82 87 p h (putB G b s' k.bs) [Cl b14 64 k.l])) (y := k.x)
        (hL.perm (List.perm_append_comm_assoc (Cl b92 23 [k.x] :: RingS rp sb p (putG G b k.bs.length) (PoolS 82 87 p h (putB G b s' k.bs) [])) A [Cl b14 64 k.l])) H.row ⟨rfl, _, _, rfl, fun h => (by cases h), ?_⟩ rfl rfl (by have := H.solo.ok.many; have := H.solo.ok.size; simp only [maxLen]; omega) (by have := H.solo.ok.many; have := H.solo.ok.size; omega) fun v' w11 A' hv' hL' => ?_
      · intro ad e j u hu
        cases e
        rw [add_plain]
        match j, hu with
        | 0, hu => exact hL.ld hu
      refine ⟨(v', G.drop), rfl, putG G b k.bs.length, putB G b s' k.bs, A', ins ++ [k.bs], xs ++ [k.x], ⟨⟨?_, HS.ok, HS.good, HS.len, HS.own⟩, by rw [List.length_append]; exact hv', H.inn.more hk, hhas, by rw [hrb, H.rb], hleft, by rw [hsl]; exact H.size⟩, hdr⟩
      have h3 : SH w w11 (A' ++ RingS rp sb p (putG G b k.bs.length) (PoolS 82 87 p h (putB G b s' k.bs) [Cl b14 64 k.l])) := hL'.sub ((List.sublist_cons_self _ _).append_left A')
      have h4 := h3.perm (List.perm_append_comm_assoc A' (RingS rp sb p (putG G b k.bs.length) (PoolS 82 87 p h (putB G b s' k.bs) [])) [Cl b14 64 k.l])
      exact h4.sub ((List.Sublist.append_left (List.nil_sublist _) A').append_left (RingS rp sb p (putG G b k.bs.length) (PoolS 82 87 p h (putB G b s' k.bs) [])))
    · obtain ⟨hB, hG⟩ := hno hE
      rw [hB, hG] at HS
      refine ⟨false, decide_eq_false hE, ?_⟩
      refine cond_in ?_
      refine ops_in ?_
      refine ⟨_, rfl, ?_⟩
      refine ⟨(_, bump G.drop), rfl, G.lost, b, A, ins, xs, ⟨solo_sub HS ?_, H.row, H.inn, H.has.lost, H.rb, H.left, H.size⟩, rfl⟩
      exact (List.Sublist.append_left (List.nil_sublist _) A)
  clear H
  rintro g3 ⟨v, d⟩ w8 ⟨G, b, A, ins, xs, H, hd⟩
  have H : Ord w w8 [] rp p sb h n s G b v A ins xs := H
  have hd : G.drop = d := hd
  subst hd
  obtain ⟨va, vc, rfl, hvc⟩ := H.row.slice
  refine reframe [0, 1, 2, 7, 9, 11, 12, 13] [.int .i64 n, .int .i64 s, .slice (some x) len cap, ptr p, ptr rp, .slice va ins.length vc, .int .i64 G.drop, .int .i64 i] rfl fun g => ?_
  have hm := H.many
  have hok1 := H.solo.ok.many
  have hok2 := H.solo.ok.size
  have hsz := H.size
  have hlf := H.left
  have hlb := H.solo.len
  have hcn := H.has.cnt
  have hh := held_cnt b (o := 9) rfl
  refine row_in ?_
  refine (len_spec H.solo.hL).mono ?_
  rintro _ w8 ⟨rfl, rfl⟩
  refine ⟨false, decide_eq_false (fun h => h (by omega)), ?_⟩
  refine (dropped_spec H.solo.hL).mono ?_
  rintro _ w8 ⟨rfl, rfl⟩
  refine ⟨false, decide_eq_false (fun h => h rfl), ?_⟩
  refine (len_spec H.solo.hL).mono ?_
  rintro _ w8 ⟨rfl, rfl⟩
  refine ⟨false, decide_eq_false (by omega), ?_⟩
  refine (left_spec H.solo.pool (by omega)).mono ?_
  rintro _ w9 ⟨rfl, hg9⟩
  have H := H.grows hg9
  refine ⟨((n - ins.length : Nat) : Int), (IntWalk.i64_in _ (by omega)).trans (by omega), ?_⟩
  refine ⟨false, decide_eq_false (fun h => h (by omega)), ?_⟩
  refine (all_spec H.solo.hL H.solo.ok H.solo.small).mono ?_
  rintro y w10 ⟨hg10, hy⟩
  have H := H.grows hg10
  rw [H.rb] at hy
  refine (samerows_spec hy H.are (by omega) (by rw [← H.rb]; exact rb_small H.solo.good _)).mono ?_
  rintro u w11 ⟨hu, hg11⟩
  rw [decide_eq_true rfl] at hu
  subst hu
  have H := H.grows hg11
  refine ⟨false, rfl, ?_⟩
  refine (held_spec H.solo.pool 9 (by omega)).mono ?_
  rintro u w12 ⟨A2, hu2, hA2⟩
  obtain ⟨ua, uc, rfl⟩ := hu2.slice
  have H := H.grows hA2.grown
  refine ⟨false, decide_eq_false (fun h => h (by omega)), ?_⟩
  refine cond_in ?_
  refine skip_in ?_
  refine ops_in ?_
  refine ⟨((i + 1 : Nat) : Int), (IntWalk.i64_in _ (by omega)).trans (by omega), ?_⟩
  exact ⟨(i + 1, _, _), rfl, ⟨hil, _, _, _, _, _, H, rfl⟩, by simp only []; omega⟩
end Go.Proofs.Ytjnjgmkkjglheaa
