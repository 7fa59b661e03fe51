/- The parameters of the State laws, opened: numbers, steps, rows of steps, times. -/
import Derived.Test.YtmingejcddhdeaaWalks
import Derived.Lib.SmallJoins
import Derived.Deep.SlicePairs
import Derived.WalkKit
import Derived.ProofKit
import Derived.OpenShut
import Derived.ChangeOld
import Derived.Below
import Derived.Carry
import Derived.SizedLaws
namespace Go.Proofs.Ytmingejcddhdeaa
open Go Go.Den Go.ChangeShapes Go.WideShapes Go.ChangeAt Go.RowKit
section
variable {H : Type} {enc : TypeId × Value → H} {P : Program} {W : World} {base : Nat} {spare : Nat → Bool} {held : Bool} {r : Reach} {b0 : Nat} {v : Value} {d : DataW H} {ps : List MemPlace}
theorem u8_nat {n : Int} (h : (Lit.int .u8 n).wf = true) : ∃ x : Nat, n = x ∧ x < 256 := by
  have := bounds_u8 h
  exact ⟨n.toNat, by omega, by omega⟩
theorem open_u8 {t : TypeId} (ht : P.underlying t = some (.int .u8)) (hval : Value.okWide P W r b0 t v) (hd : DataW.Trod enc P W base spare held t v d ps) : ∃ x : Nat, v = .int .u8 (x : Int) ∧ x < 256 := by
  obtain ⟨n, rfl, _, _, hw⟩ := open_int ht hval hd
  obtain ⟨x, rfl, hx⟩ := u8_nat hw
  exact ⟨x, rfl, hx⟩
theorem open_step {t : TypeId} {n0 n1 : Field} (ht : P.underlying t = some (.struct #[n0, n1])) (hb : P.underlying n0.type = some .bool) (hu : P.underlying n1.type = some (.int .u8)) (hone : Deep.oneCellFields P #[n0, n1] = true) (hC : P.cellsOf t = 2)
    (hval : Value.okWide P W r b0 t v) (hd : DataW.Trod enc P W base spare held t v d ps) : ∃ (b : Bool) (x : Nat), v = .agg #[.bool b, .int .u8 (x : Int)] ∧ x < 256 := by
  obtain ⟨v0, v1, y0, y1, n, rfl, _, _, h0, h1⟩ := Joins.open_agg2 ht hone hC hval hd
  obtain ⟨b, hb0, _⟩ := DataW.trod_bool hb h0
  obtain ⟨z, hz, _, hw⟩ := DataW.trod_int hu h1
  obtain ⟨x, rfl, hx⟩ := u8_nat hw
  simp only [List.cons.injEq, and_true] at hb0 hz
  subst hb0 hz
  exact ⟨b, x, rfl, hx⟩
theorem open_times {t : TypeId} {n0 n1 n2 n3 : Field} (ht : P.underlying t = some (.struct #[n0, n1, n2, n3])) (h0 : P.underlying n0.type = some (.int .u64)) (h1 : P.underlying n1.type = some (.int .u64)) (h2 : P.underlying n2.type = some (.int .u64)) (h3 : P.underlying n3.type = some (.int .u64))
    (hone : Deep.oneCellFields P #[n0, n1, n2, n3] = true) (hC : P.cellsOf t = 4)
    (hval : Value.okWide P W r b0 t v) (hd : DataW.Trod enc P W base spare held t v d ps) : ∃ a b c e : Int, v = Tm a b c e := by
  obtain ⟨v0, v1, v2, v3, y0, y1, y2, y3, n, rfl, _, _, g0, g1, g2, g3⟩ := Joins.open_agg4 ht hone hC hval hd
  obtain ⟨a, ha, _⟩ := DataW.trod_int h0 g0
  obtain ⟨b, hb, _⟩ := DataW.trod_int h1 g1
  obtain ⟨c, hc, _⟩ := DataW.trod_int h2 g2
  obtain ⟨e, he, _⟩ := DataW.trod_int h3 g3
  simp only [List.cons.injEq, and_true] at ha hb hc he
  subst ha hb hc he
  exact ⟨a, b, c, e, rfl⟩
theorem open_steps {t e : TypeId} {n0 n1 : Field} (ht : P.underlying t = some (.slice e)) (he : P.underlying e = some (.struct #[n0, n1])) (hb : P.underlying n0.type = some .bool) (hu : P.underlying n1.type = some (.int .u8))
    (ce : P.cellsOf e = 2) (o : n0.offset = 0 ∧ n1.offset = 1) (c : P.cellsOf n0.type = 1 ∧ P.cellsOf n1.type = 1)
    (hval : Value.okWide P W r b0 t v) (hd : DataW.Trod enc P W base spare held t v d ps) : ∃ (a : Option Addr) (len cap : Nat) (D : Nat → Bool) (Z : Nat → Nat), v = .slice a len cap ∧ Steps W a len D Z := by
  obtain ⟨a, len, cap, rfl⟩ := okWide_slice ht hval
  obtain ⟨fuel, hf⟩ := hd
  rcases Deep.open_slice_pairs ht he ce o.1 o.2 c.1 c.2 hf with ⟨hcs, _⟩ | ⟨x, len', cap', m, n, V0, V1, D0, D1, P0, P1, hcs, _, hl, _, hm, _, hx⟩
  · simp [Value.cells] at hcs
    obtain ⟨rfl, rfl, rfl⟩ := hcs
    exact ⟨none, 0, 0, fun _ => false, fun _ => 0, rfl, fun i hi => absurd hi (Nat.not_lt_zero _)⟩
  · simp [Value.cells] at hcs
    obtain ⟨rfl, rfl, rfl⟩ := hcs
    have hlm : len ≤ m := by rw [hm]; split <;> omega
    have each : ∀ i, i < len → ∃ q : Bool × Nat, W.cell? ((x.add (i * 2)).add 0) = some (.bool q.1) ∧ W.cell? ((x.add (i * 2)).add 1) = some (.int .u8 (q.2 : Int)) ∧ q.2 < 256 := by
      intro i hi
      obtain ⟨c0, c1, t0, t1⟩ := hx i (by omega)
      obtain ⟨b, hb0, _⟩ := DataW.trod_bool hb t0
      obtain ⟨z, hz, _, hw⟩ := DataW.trod_int hu t1
      obtain ⟨y, rfl, hy⟩ := u8_nat hw
      simp only [List.cons.injEq, and_true] at hb0 hz
      rw [hb0] at c0
      rw [hz] at c1
      refine ⟨(b, y), ?_, ?_, hy⟩
      · rw [Deep.add_add]; exact c0
      · rw [Deep.add_add]; exact c1
    obtain ⟨q, hq⟩ := Deep.choose_lt each
    exact ⟨some x, len, cap, fun i => (q i).1, fun i => (q i).2, rfl, fun i hi => ⟨x, rfl, hq i hi⟩⟩
end

end Go.Proofs.Ytmingejcddhdeaa
namespace Go.Den
open Go Go.RowKit
theorem Grows.below {w w' : World} (h : Grows w w') : Below w.heap.size w w' := ⟨h.os, h.tape, h.output, h.size, h.block⟩
end Go.Den
