/- The ring and the document's ring, side by side: what one step does to both. -/
import Derived.Test.YtjnjgmkkjglheaaRAlive
namespace Go.Proofs.Ytjnjgmkkjglheaa
open Go Go.Den
structure Rel2 (n : Nat) (G : Rg) (S : Rr) (b c : List Buf) : Prop where
  abs : abs b = abs c
  good : Good b
  len : b.length = n
  ok : G.ok
  rows : G.rows = S.rows
  owner : G.own = S.own
  size : (G.slots.length : Int) = S.size
  drop : G.drop = S.drop
  inn : ∀ z ∈ S.rows, 0 ≤ z ∧ z < n
theorem Rel2.lenc {n : Nat} {G : Rg} {S : Rr} {b c : List Buf} (H : Rel2 n G S b c) : c.length = n := by rw [← abs_length H.abs]; exact H.len
theorem Good.abs {b c : List Buf} (h : abs b = abs c) (hb : Good b) : Good c := fun C hC => by
  obtain ⟨i, hi⟩ := List.mem_iff_getElem?.1 hC
  have := abs_at h i
  rw [hi] at this
  cases hbi : b[i]? with
  | none => rw [hbi] at this; simp at this
  | some B =>
    rw [hbi] at this
    simp at this
    have hg := hb B (List.mem_of_getElem? hbi)
    unfold GoodB at hg ⊢
    rw [this.1, this.2] at hg
    exact hg
theorem Rel2.goodc {n : Nat} {G : Rg} {S : Rr} {b c : List Buf} (H : Rel2 n G S b c) : Good c := Good.abs H.abs H.good
theorem Rel2.many {n : Nat} {G : Rg} {S : Rr} {b c : List Buf} (H : Rel2 n G S b c) : G.many = S.rows.length := by rw [← H.rows, rows_length]
theorem Rel2.room {n : Nat} {G : Rg} {S : Rr} {b c : List Buf} (H : Rel2 n G S b c) : (S.rows.length : Int) < S.size ↔ G.many < G.slots.length := by
  rw [← H.size, H.many]; omega
theorem Rel2.inPool {n : Nat} {G : Rg} {S : Rr} {b c : List Buf} (H : Rel2 n G S b c) : InPool c S.rows := fun z hz => by
  obtain ⟨h1, h2⟩ := H.inn z hz
  have hl := H.lenc
  refine ⟨z.toNat, c[z.toNat]'(by omega), by omega, List.getElem?_eq_getElem _⟩
theorem Rel2.rlen {n : Nat} {G : Rg} {S : Rr} {b c : List Buf} (H : Rel2 n G S b c) : S.rows.length ≤ 256 := by
  rw [← H.many]; exact Nat.le_trans H.ok.many H.ok.size
theorem Rel2.rsize {n : Nat} {G : Rg} {S : Rr} {b c : List Buf} (H : Rel2 n G S b c) : S.size ≤ 256 := by
  rw [← H.size]; have := H.ok.size; omega
theorem Rel2.lay {n : Nat} {G : Rg} {S : Rr} {b c : List Buf} (H : Rel2 n G S b c) (hr : G.many < G.slots.length) {z : Int} (hz : 0 ≤ z ∧ z < n) : Rel2 n (G.lay z) (S.more z) b c := by
  refine ⟨H.abs, H.good, H.len, H.ok.lay hr z, ?_, H.owner, ?_, H.drop, ?_⟩
  · rw [rows_lay H.ok hr, H.rows]; rfl
  · show ((G.slots.set _ _).length : Int) = S.size; rw [List.length_set]; exact H.size
  · intro y hy
    rcases List.mem_append.1 (show y ∈ S.rows ++ [z] from hy) with hy | hy
    · exact H.inn y hy
    · simp only [List.mem_singleton] at hy; subst hy; exact hz
theorem Rel2.lost {n : Nat} {G : Rg} {S : Rr} {b c : List Buf} (H : Rel2 n G S b c) : Rel2 n G.lost S.lost b c :=
  ⟨H.abs, H.good, H.len, H.ok.lost, H.rows, H.owner, H.size, by show bump G.drop = bump S.drop; rw [H.drop], H.inn⟩
theorem Rel2.ptake {n : Nat} {G : Rg} {S : Rr} {b c : List Buf} (H : Rel2 n G S b c) (o : Int) (s s' : Value) (bs : List Int) : Rel2 n G S (takeB b o s bs) (takeB c o s' bs) :=
  ⟨takeB_abs H.abs _ _ _ _, H.good.take _ _ _, by rw [takeB_length]; exact H.len, H.ok, H.rows, H.owner, H.size, H.drop, H.inn⟩
theorem Rel2.phand {n : Nat} {G : Rg} {S : Rr} {b c : List Buf} (H : Rel2 n G S b c) (z o t : Int) : Rel2 n G S (handB b z o t) (handB c z o t) :=
  ⟨handB_abs H.abs _ _ _, H.good.hand _ _ _, by rw [handB_length]; exact H.len, H.ok, H.rows, H.owner, H.size, H.drop, H.inn⟩
theorem Rel2.pfree {n : Nat} {G : Rg} {S : Rr} {b c : List Buf} (H : Rel2 n G S b c) (z o : Int) : Rel2 n G S (freeB b z o) (freeB c z o) :=
  ⟨freeB_abs H.abs _ _, H.good.free _ _, by rw [freeB_length]; exact H.len, H.ok, H.rows, H.owner, H.size, H.drop, H.inn⟩
theorem takeN_in {b : List Buf} {o : Int} {m : Nat} (h : takeE b o m = 0) : 0 ≤ takeN b o m ∧ takeN b o m < b.length := by
  obtain ⟨_, _, i, B, hf, hB, _, _⟩ := take_zero h
  have : takeN b o m = i := by unfold takeN; rw [h, if_pos rfl, hf]
  have hi := (List.getElem?_eq_some_iff.1 hB).1
  omega
theorem handE_in {b : List Buf} {z o t : Int} (h : handE b z o t = 0) : 0 ≤ z ∧ z < b.length := by
  obtain ⟨h1, _⟩ := handE_zero h
  obtain ⟨_, i, B, rfl, hB, _⟩ := errOf_zero h1
  have hi := (List.getElem?_eq_some_iff.1 hB).1
  omega
theorem Rel2.put {n : Nat} {G : Rg} {S : Rr} {b c : List Buf} (H : Rel2 n G S b c) (s s' : Value) (bs : List Int) :
    putE G b bs.length = rputE S c bs.length ∧ Rel2 n (putG G b bs.length) (rputS S c bs.length) (putB G b s bs) (rputB S c s' bs) := by
  by_cases hr : G.many < G.slots.length
  · have hr2 := H.room.2 hr
    have e1 : putE G b bs.length = takeE b G.own bs.length := if_pos hr
    have e2 : rputE S c bs.length = takeE c S.own bs.length := if_pos hr2
    have e3 : putB G b s bs = takeB b G.own s bs := if_pos hr
    have e4 : rputB S c s' bs = takeB c S.own s' bs := if_pos hr2
    have he : takeE b G.own bs.length = takeE c S.own bs.length := by rw [H.owner]; exact takeE_abs H.abs _ _
    have hn : takeN b G.own bs.length = takeN c S.own bs.length := by rw [H.owner]; exact takeN_abs H.abs _ _
    refine ⟨by rw [e1, e2, he], ?_⟩
    unfold putG rputS
    rw [e1, e2, e3, e4, ← he, ← hn, ← H.owner]
    by_cases h0 : takeE b G.own bs.length = 0
    · rw [if_pos h0, if_pos h0]
      have hin := takeN_in h0
      rw [H.len] at hin
      exact (H.lay hr hin).ptake _ _ _ _
    · rw [if_neg h0, if_neg h0]
      exact H.lost.ptake _ _ _ _
  · have hr2 : ¬ (S.rows.length : Int) < S.size := fun h => hr (H.room.1 h)
    have e1 : putE G b bs.length = 18 := if_neg hr
    have e2 : rputE S c bs.length = 18 := if_neg hr2
    have e3 : putB G b s bs = b := if_neg hr
    have e4 : rputB S c s' bs = c := if_neg hr2
    refine ⟨by rw [e1, e2], ?_⟩
    unfold putG rputS
    rw [e1, e2, e3, e4, if_neg (by decide), if_neg (by decide)]
    exact H.lost
theorem Rel2.move {n : Nat} {G : Rg} {S : Rr} {b c : List Buf} (H : Rel2 n G S b c) (z o : Int) :
    moveE G b z o = rmoveE S c z o ∧ Rel2 n (moveG G b z o) (rmoveS S c z o) (moveB G b z o) (rmoveB S c z o) := by
  by_cases hr : G.many < G.slots.length
  · have hr2 := H.room.2 hr
    have e1 : moveE G b z o = handE b z o G.own := if_pos hr
    have e2 : rmoveE S c z o = handE c z o S.own := if_pos hr2
    have e3 : moveB G b z o = handB b z o G.own := if_pos hr
    have e4 : rmoveB S c z o = handB c z o S.own := if_pos hr2
    have he : handE b z o G.own = handE c z o S.own := by rw [H.owner]; exact handE_abs H.abs _ _ _
    refine ⟨by rw [e1, e2, he], ?_⟩
    unfold moveG rmoveS
    rw [e1, e2, e3, e4, ← he, ← H.owner]
    by_cases h0 : handE b z o G.own = 0
    · rw [if_pos h0, if_pos h0]
      have hin := handE_in h0
      rw [H.len] at hin
      exact (H.lay hr hin).phand _ _ _
    · rw [if_neg h0, if_neg h0]
      exact H.lost.phand _ _ _
  · have hr2 : ¬ (S.rows.length : Int) < S.size := fun h => hr (H.room.1 h)
    have e1 : moveE G b z o = 18 := if_neg hr
    have e2 : rmoveE S c z o = 18 := if_neg hr2
    have e3 : moveB G b z o = b := if_neg hr
    have e4 : rmoveB S c z o = c := if_neg hr2
    refine ⟨by rw [e1, e2], ?_⟩
    unfold moveG rmoveS
    rw [e1, e2, e3, e4, if_neg (by decide), if_neg (by decide)]
    exact H.lost
theorem bytesOf_abs {b c : List Buf} (h : Go.Proofs.Ytjnjgmkkjglheaa.abs b = Go.Proofs.Ytjnjgmkkjglheaa.abs c) (k : Int) : bytesOf b k = bytesOf c k := by
  unfold bytesOf
  rw [ownerOf_abs h]
  split
  · have := abs_at h k.toNat
    cases hb : b[k.toNat]? <;> cases hc : c[k.toNat]? <;> rw [hb, hc] at this <;> simp at this
    exact this.2
  · rfl
theorem rb_abs {b c : List Buf} (h : abs b = abs c) (rows : List Int) : rb b rows = rb c rows := by
  unfold rb
  exact List.map_congr_left fun z _ => bytesOf_abs h z
theorem rb_small {b : List Buf} (hg : Good b) (rows : List Int) : ∀ r ∈ rb b rows, r.length ≤ 1000000 := fun r hr => by
  obtain ⟨z, _, rfl⟩ := List.mem_map.1 hr
  exact Nat.le_trans (bytesOf_small hg z) (by decide)
theorem Rel2.take {n : Nat} {G : Rg} {S : Rr} {b c : List Buf} (H : Rel2 n G S b c) :
    takeoV G b = rtakeV S c ∧ decide (0 < G.many) = decide (0 < S.rows.length) ∧ Rel2 n (takeoG G) (rtakeS S) (takeoB G b) (rtakeB S c) := by
  have hm := H.many
  refine ⟨?_, by rw [hm], ?_⟩
  · unfold takeoV rtakeV
    cases hS : S.rows with
    | nil => rw [if_pos (by rw [hm, hS]; rfl)]
    | cons z rest =>
      have h0 : 0 < G.many := by rw [hm, hS]; simp
      rw [if_neg (by omega)]
      have := rows_took h0
      rw [H.rows, hS] at this
      have hz : z = G.at 0 := (List.cons.inj this).1
      show bytesOf b (G.at 0) = bytesOf c z
      rw [hz]
      exact bytesOf_abs H.abs _
  · unfold takeoG rtakeS takeoB rtakeB
    cases hS : S.rows with
    | nil =>
      have h0 : G.many = 0 := by rw [hm, hS]; rfl
      rw [if_pos h0, if_pos h0]
      exact ⟨H.abs, H.good, H.len, H.ok, by rw [H.rows, hS]; rfl, H.owner, H.size, H.drop, fun z hz => by simp at hz⟩
    | cons z rest =>
      have h0 : 0 < G.many := by rw [hm, hS]; simp
      rw [if_neg (by omega), if_neg (by omega)]
      have := rows_took h0
      rw [H.rows, hS] at this
      have hz : z = G.at 0 := (List.cons.inj this).1
      have hr : rest = G.took.rows := (List.cons.inj this).2
      have H2 := H.pfree z S.own
      rw [hz, H.owner] at *
      refine ⟨H2.abs, H2.good, H2.len, H.ok.took, hr.symm, H.owner, H.size, H.drop, fun y hy => H.inn y (by rw [hS]; exact .tail _ hy)⟩
theorem Rel2.new (n : Nat) (s : Nat) (o : Int) (hs : 1 ≤ s) (hs2 : s ≤ 256) : Rel2 n ⟨o, List.replicate s 0, 0, 0, 0⟩ ⟨s, o, [], 0⟩ (List.replicate n noBuf) (List.replicate n noBuf) :=
  ⟨rfl, Good.new n, by simp, ⟨by simp; omega, by simp; omega, by simp; omega, by simp⟩, rfl, rfl, by simp, rfl, fun z hz => by simp at hz⟩
end Go.Proofs.Ytjnjgmkkjglheaa
