/- The document's answer for pools: Take, Held, Copy; and a pool's clone. -/
import Derived.Test.YtjnjgmkkjglheaaRefPool
namespace Go.Den
open Go Go.RowKit
theorem SH.newG {w0 w : World} {L : List Atom} {o : Obj} {C : Nat → World → Prop} (h : SH w0 w L) (k : ∀ b w', SH w0 w' (Pt b o :: L) → Grows w w' → C b w') : ∃ b w', NewB w o b w' ∧ C b w' := by
  obtain ⟨b, w', hn, hL⟩ := h.newO o
  exact ⟨b, w', hn, k b w' hL (Grows.newB hn)⟩
/-- Appended to nothing: a new row. -/
theorem app0 {P : Program} {o : Oper} {f : Fr} {w0 w : World} {R : List Atom} {K : Value → World → Prop} {t e : TypeId} {z : Value} {size bytes : Nat} (s x : Operand) (he : ElemOf P t e z size bytes)
    (ho : o.op = .call { callee := .builtin .append, args := #[s, x], argTypes := #[t, t] })
    {m : Nat} {news : List Value} {b : Option Addr} {u : Value} (hv : ev f s = .slice b 0 0) (hu : ev f x = u) (hL : SH w0 w R) (hx : Reads w size u m news) (h1 : ∀ u ∈ news, u.oneCell' = true)
    (h63 : m ≤ maxLen) (hbytes : m * bytes ≤ 140737488355328)
    (k : ∀ a c w' A', OwnRow e size (.slice a m c) m news A' → SH w0 w' (A' ++ R) → K (.slice a m c) w') : Runs P o f w K := by
  refine app s x he ho hv hu (A := []) hL (.none b) hx h1 (by omega) (by rw [Nat.zero_add]; exact hbytes) fun v w' A' hv' hL' => ?_
  have hv' : OwnRow e size v m news A' := by simpa using hv'
  obtain ⟨a, c, rfl⟩ := hv'.slice
  exact k a c w' A' hv' hL'
end Go.Den
namespace Go.Proofs.Ytjnjgmkkjglheaa
open Go Go.Den
attribute [local irreducible] wpC
set_option maxHeartbeats 4000000 in
theorem rtake_spec {w0 w : World} {R : List Atom} {bp : Nat} {bb : Home} {bufs : List Buf} (hL : SH w0 w (PoolS 50 84 bp bb bufs R)) (o : Int) {x : Value} {bs : List Int} (hx : Reads w 1 x bs.length (vals bs)) (hlen : bufs.length ≤ 1000000) :
    Does Try.prog 47 [ptr bp, .int .i64 o, x] w fun v w' => ∃ s, v = .tuple #[.int .i64 (takeN bufs o bs.length), .int .i64 (takeE bufs o bs.length)] ∧ SH w0 w' (PoolS 50 84 bp bb (takeB bufs o s bs) R) := by
  obtain ⟨_, xa, xc, rfl, _⟩ := id hx
  have hno : ∀ (e : Int) (_ : takeE bufs o bs.length = e) (_ : e ≠ 0) (w' : World), SH w0 w' (PoolS 50 84 bp bb bufs R) → ∃ s, Value.tuple #[.int .i64 (-1), .int .i64 e] = .tuple #[.int .i64 (takeN bufs o bs.length), .int .i64 (takeE bufs o bs.length)] ∧ SH w0 w' (PoolS 50 84 bp bb (takeB bufs o s bs) R) := fun e hE he w' hL => by
    obtain ⟨hN, hB⟩ := take_no hE he (.slice none 0 0)
    exact ⟨.slice none 0 0, by rw [hN, hE], by rw [hB]; exact hL⟩
  refine s47 rfl ?_
  refine row_in ?_
  refine if_in ?_
  by_cases h1 : o < 1
  · refine ⟨true, decide_eq_true h1, ?_⟩
    refine row_in ?_
    refine ret_in ?_
    exact hno 11 (by unfold takeE; rw [if_pos (.inl (owns_no1 h1))]) (by decide) _ hL
  refine ⟨false, decide_eq_false h1, ?_⟩
  by_cases h2 : 255 < o
  · refine ⟨true, decide_eq_true h2, ?_⟩
    refine row_in ?_
    refine ret_in ?_
    exact hno 11 (by unfold takeE; rw [if_pos (.inl (owns_no2 h2))]) (by decide) _ hL
  refine ⟨false, decide_eq_false h2, ?_⟩
  by_cases h3 : (1514 : Int) < bs.length
  · refine ⟨true, decide_eq_true h3, ?_⟩
    refine row_in ?_
    refine ret_in ?_
    exact hno 11 (by unfold takeE; rw [if_pos (.inr (by omega))]) (by decide) _ hL
  refine ⟨false, decide_eq_false h3, ?_⟩
  have ho := owns_yes h1 h2
  have hnr : ¬ (owns o = false ∨ 1514 < bs.length) := by rw [ho]; rintro (h | h); exact absurd h (by decide); omega
  refine skip_in ?_
  refine seq_in (row_in ?_)
  refine block_in ?_
  refine loop_rule (8 :: 6 :: 7 :: List.range' 20 30) rfl [8] (fun (i : Nat) => [.int .i64 i]) (fun i w' => i ≤ bufs.length ∧ (∀ (j : Nat) C, j < i → bufs[j]? = some C → isFree C = false) ∧ w' = w) (fun i => bufs.length - i) 0 rfl ⟨Nat.zero_le _, fun j C h => absurd h (Nat.not_lt_zero _), rfl⟩ ?_
  rintro g i w1 ⟨hi, hlow, rfl⟩
  refine if_in ?_
  refine ⟨_, hL.poolR.slice, ?_⟩
  by_cases hil : i < bufs.length
  rotate_left
  · refine ⟨false, decide_eq_false (by omega), ?_⟩
    refine exit_in ?_
    refine row_in ?_
    refine ret_in ?_
    have hf : freeAt bufs = -1 := freeAt_none fun j C hC => hlow j C (by have := (List.getElem?_eq_some_iff.1 hC).1; omega) hC
    exact hno 18 (by unfold takeE; rw [if_neg hnr, if_pos (by omega)]) (by decide) _ hL
  refine ⟨true, decide_eq_true (by omega), ?_⟩
  refine skip_in ?_
  obtain ⟨B, hB⟩ : ∃ B, bufs[i]? = some B := ⟨bufs[i], List.getElem?_eq_getElem (by omega)⟩
  refine block_then ?_
  refine seq_in (ops_in ?_)
  refine ⟨_, hL.poolR.slice, ?_⟩
  refine ⟨⟨by omega, by omega⟩, _, rfl, ?_⟩
  refine ⟨_, hL.poolR.own hB, ?_⟩
  by_cases hf : B.own = 0
  rotate_left
  · refine ⟨false, decide_eq_false hf, ?_⟩
    refine cond_in ?_
    refine skip_in ?_
    refine ops_in ?_
    refine ⟨((i + 1 : Nat) : Int), (IntWalk.i64_in _ (by omega)).trans (by omega), ?_⟩
    refine ⟨i + 1, rfl, ⟨hil, fun j C hj hC => ?_, rfl⟩, by omega⟩
    by_cases hji : j < i
    · exact hlow j C hji hC
    · have : j = i := by omega
      subst this
      rw [hB] at hC
      cases hC
      exact decide_eq_false hf
  · have hfr : freeAt bufs = i := freeAt_some hB (decide_eq_true hf) hlow
    have hE : takeE bufs o bs.length = 0 := by unfold takeE; rw [if_neg hnr, if_neg (by omega)]
    have hN : takeN bufs o bs.length = i := by unfold takeN; rw [hE, if_pos rfl, hfr]
    have hB2 : ∀ s, takeB bufs o s bs = bufs.set i ⟨o, s, bs⟩ := fun s => by unfold takeB; rw [hE, if_pos rfl, hfr, Int.toNat_natCast]
    refine ⟨true, decide_eq_true hf, ?_⟩
    refine cond_in ?_
    refine draw_in ?_
    have hL := hL.drew
    have hx := hx.grows (Grows.drew _)
    refine ⟨_, hL.poolR.slice, ?_⟩
    refine ⟨rfl, _, rfl, ?_⟩
    refine hL.newG fun bn w2 hL hg => ?_
    have hx := hx.grows hg
    have hL := hL.tail
    refine ⟨⟨hL.poolR.slice, trivial⟩, ?_⟩
    refine app0 _ _ el23 rfl rfl rfl hL hx (vals_one _) (by simp only [maxLen]; omega) (by omega) fun sa sc w3 A hs hL => ?_
    have hP : PoolR 50 84 w3 bp bb bufs := (hL.sub (List.sublist_append_right _ _)).poolR
    refine ⟨⟨hP.slice, trivial⟩, ?_⟩
    refine ⟨rfl, _, rfl, ?_⟩
    refine ⟨⟨by omega, by omega⟩, (⟨bb.b, 0 + i * 2, none⟩ : Addr), add_plain _ _ _, ?_⟩
    have hQ := hL.perm (L' := Cl bb.b 84 (flat bufs ++ bb.sp) :: (A ++ (Cl bp 50 [.slice (some ⟨bb.b, 0, none⟩) bufs.length bb.c] :: Shr 1 (shr bufs) :: R))) (List.Perm.trans (List.Perm.append_left A (List.Perm.swap _ _ _)) List.perm_middle)
    obtain ⟨w4, hst, hQ⟩ := SH.st hQ (b := bb.b) (o := 0 + i * 2) [.int .i64 o, .slice sa bs.length sc] (Nat.ble_eq_true_of_le (by rw [List.length_append, flat_length]; simp; omega)) rfl
    refine ⟨rfl, w4, hst, ?_⟩
    refine reframe [8] [.int .i64 i] rfl fun g2 => ?_
    refine row_in ?_
    refine ret_in ?_
    rw [show (0 + i * 2) = i * 2 by omega] at hQ
    exact ⟨.slice sa bs.length sc, (rfl : _ = Value.tuple #[.int .i64 i, .int .i64 0]).trans (by rw [hN, hE]), by rw [hB2]; exact pool_lay hs hil hQ⟩
end Go.Proofs.Ytjnjgmkkjglheaa
