/- The parameters of the laws of rings, opened: calls, rows of calls. -/
import Derived.Test.YtjnjgmkkjglheaaOpen
import Derived.Test.YtjnjgmkkjglheaaRGreat
namespace Go.Proofs.Ytjnjgmkkjglheaa
open Go Go.Den Go.ChangeShapes Go.WideShapes Go.ChangeAt Go.RowKit
section
variable {H : Type} {enc : TypeId × Value → H} {P : Program} {W : World} {base : Nat} {spare : Nat → Bool} {held : Bool} {r : Reach} {b0 : Nat} {v : Value} {d : DataW H} {ps : List MemPlace}
/-- A call's four cells. -/
theorem call2_cells {t : TypeId} {f0 f1 f2 f4 : Field} {e : TypeId} {fuel : Nat} {cs : List Value} {x : DataW H × List MemPlace} (ht : P.underlying t = some (.struct #[f0, f1, f2, f4]))
    (hi : ∀ f ∈ [f0, f1, f2], P.underlying f.type = some (.int .i64) ∧ P.cellsOf f.type = 1) (h4 : P.underlying f4.type = some (.slice e)) (he : P.underlying e = some (.int .u8)) (ce : P.cellsOf e = 1) (c4 : P.cellsOf f4.type = 1) (ct : P.cellsOf t = 4)
    (o : f0.offset = 0 ∧ f1.offset = 1 ∧ f2.offset = 2 ∧ f4.offset = 3)
    (h : DataW.trod enc P W base spare held fuel t cs = some x) : ∃ k : Call2, cs = k.l ∧ Reads W 1 k.x k.bs.length (vals k.bs) := by
  obtain ⟨xs, n, _, _, hl, hlen, hf⟩ := DataW.trod_struct ht h
  rw [ct] at hl
  obtain ⟨o0, o1, o2, o4⟩ := o
  match cs, hl, xs, hlen with
  | [c0, c1, c2, c4'], _, [y0, y1, y2, y4], _ =>
    have g0 := hf 0 f0 rfl
    have g1 := hf 1 f1 rfl
    have g2 := hf 2 f2 rfl
    have g4 := hf 3 f4 rfl
    have i0 := hi f0 (by simp)
    have i1 := hi f1 (by simp)
    have i2 := hi f2 (by simp)
    simp [o0, i0.2] at g0
    simp [o1, i1.2] at g1
    simp [o2, i2.2] at g2
    simp [o4, c4] at g4
    obtain ⟨z0, hz0, _⟩ := DataW.trod_int i0.1 g0
    obtain ⟨z1, hz1, _⟩ := DataW.trod_int i1.1 g1
    obtain ⟨z2, hz2, _⟩ := DataW.trod_int i2.1 g2
    obtain ⟨a, c, bs, hb, hr⟩ := bytes_cells h4 he ce g4
    simp only [List.cons.injEq, and_true] at hz0 hz1 hz2 hb
    subst hz0 hz1 hz2 hb
    exact ⟨⟨z0, z1, z2, a, c, bs⟩, rfl, hr⟩
theorem open_call2 {t : TypeId} {f0 f1 f2 f4 : Field} {e : TypeId} (ht : P.underlying t = some (.struct #[f0, f1, f2, f4]))
    (hi : ∀ f ∈ [f0, f1, f2], P.underlying f.type = some (.int .i64) ∧ P.cellsOf f.type = 1) (h4 : P.underlying f4.type = some (.slice e)) (he : P.underlying e = some (.int .u8)) (ce : P.cellsOf e = 1) (c4 : P.cellsOf f4.type = 1) (ct : P.cellsOf t = 4)
    (o : f0.offset = 0 ∧ f1.offset = 1 ∧ f2.offset = 2 ∧ f4.offset = 3)
    (hval : Value.okWide P W r b0 t v) (hd : DataW.Trod enc P W base spare held t v d ps) : ∃ k : Call2, v = k.v ∧ Reads W 1 k.x k.bs.length (vals k.bs) := by
  obtain ⟨cs, rfl, _⟩ := okWide_struct ht hval
  obtain ⟨fuel, hf⟩ := hd
  obtain ⟨k, hk, hr⟩ := call2_cells ht hi h4 he ce c4 ct o hf
  refine ⟨k, ?_, hr⟩
  unfold Call2.v
  rw [← hk]
  simp [Value.cells]
theorem open_calls2 {t t' : TypeId} {f0 f1 f2 f4 : Field} {e : TypeId} (hs : P.underlying t' = some (.slice t)) (ht : P.underlying t = some (.struct #[f0, f1, f2, f4]))
    (hi : ∀ f ∈ [f0, f1, f2], P.underlying f.type = some (.int .i64) ∧ P.cellsOf f.type = 1) (h4 : P.underlying f4.type = some (.slice e)) (he : P.underlying e = some (.int .u8)) (ce : P.cellsOf e = 1) (c4 : P.cellsOf f4.type = 1) (ct : P.cellsOf t = 4)
    (o : f0.offset = 0 ∧ f1.offset = 1 ∧ f2.offset = 2 ∧ f4.offset = 3)
    (hval : Value.okWide P W r b0 t' v) (hd : DataW.Trod enc P W base spare held t' v d ps) : ∃ (a : Option Addr) (len cap : Nat) (C : Nat → Call2), v = .slice a len cap ∧ CallsIn2 W a len C := by
  obtain ⟨a, len, cap, rfl⟩ := okWide_slice hs hval
  obtain ⟨fuel, hf⟩ := hd
  rcases Deep.open_slice hs hf with ⟨hcs, _⟩ | ⟨x, len', cap', m, n, D, Pl, hcs, _, hl, _, hm, _, hx⟩
  · simp [Value.cells] at hcs
    obtain ⟨rfl, rfl, rfl⟩ := hcs
    exact ⟨none, 0, 0, fun _ => ⟨0, 0, 0, none, 0, []⟩, rfl, fun i hi => absurd hi (Nat.not_lt_zero _), fun i hi => absurd hi (Nat.not_lt_zero _)⟩
  · simp [Value.cells] at hcs
    obtain ⟨rfl, rfl, rfl⟩ := hcs
    have hlm : len ≤ m := by rw [hm]; split <;> omega
    have each : ∀ i, i < len → ∃ k : Call2, (∀ j v, k.l[j]? = some v → W.cell? ((x.add (i * 4)).add j) = some v) ∧ Reads W 1 k.x k.bs.length (vals k.bs) := by
      intro i hi'
      obtain ⟨cs', h1, h2⟩ := hx i (by omega)
      obtain ⟨k, rfl, hr⟩ := call2_cells ht hi h4 he ce c4 ct o h2
      rw [ct] at h1
      obtain ⟨_, hlen, hcell⟩ := World.cells?_some h1
      exact ⟨k, fun j v hv => by rw [hcell j (by have := (List.getElem?_eq_some_iff.1 hv).1; omega)]; exact hv, hr⟩
    have : Inhabited Call2 := ⟨⟨0, 0, 0, none, 0, []⟩⟩
    obtain ⟨q, hq⟩ := Deep.choose_lt each
    exact ⟨some x, len, cap, q, rfl, fun i hi => ⟨x, rfl, (hq i hi).1⟩, fun i hi => (hq i hi).2⟩
end
theorem int3 {f0 f1 f2 : Field} (h0 : f0.type = 3) (h1 : f1.type = 3) (h2 : f2.type = 3) : ∀ f ∈ [f0, f1, f2], Try.prog.underlying f.type = some (.int .i64) ∧ Try.prog.cellsOf f.type = 1 := by
  intro f hf
  have : f.type = 3 := by
    simp only [List.mem_cons, List.not_mem_nil, or_false] at hf
    rcases hf with rfl | rfl | rfl <;> assumption
  rw [this]
  exact ⟨Try.underlying3, by kernel_rfl⟩
end Go.Proofs.Ytjnjgmkkjglheaa
