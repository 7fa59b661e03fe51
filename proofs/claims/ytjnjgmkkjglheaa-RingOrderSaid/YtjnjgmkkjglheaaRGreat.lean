/- Calls on rings, as they come in; and whether they are more than are looked at. -/
import Derived.Test.YtjnjgmkkjglheaaRingRef2
namespace Go.Proofs.Ytjnjgmkkjglheaa
open Go Go.Den
attribute [local irreducible] wpC
structure Call2 where
  what : Int
  buffer : Int
  frm : Int
  a : Option Addr
  c : Nat
  bs : List Int
def Call2.x (k : Call2) : Value := .slice k.a k.bs.length k.c
def Call2.l (k : Call2) : List Value := [.int .i64 k.what, .int .i64 k.buffer, .int .i64 k.frm, k.x]
def Call2.v (k : Call2) : Value := .agg k.l.toArray
/-- A row of calls, as it lies in memory. -/
structure CallsIn2 (w : World) (a : Option Addr) (len : Nat) (C : Nat → Call2) : Prop where
  cells : ∀ i, i < len → ∃ x, a = some x ∧ ∀ j v, (C i).l[j]? = some v → w.cell? ((x.add (i * 4)).add j) = some v
  bytes : ∀ i, i < len → Reads w 1 (C i).x (C i).bs.length (vals (C i).bs)
theorem CallsIn2.grows {w w' : World} {a : Option Addr} {len : Nat} {C : Nat → Call2} (h : CallsIn2 w a len C) (g : Grows w w') : CallsIn2 w' a len C :=
  ⟨fun i hi => by obtain ⟨x, hx, hc⟩ := h.cells i hi; exact ⟨x, hx, fun j v hv => g.cell (hc j v hv)⟩, fun i hi => (h.bytes i hi).grows g⟩
theorem CallsIn2.lds {w : World} {a : Option Addr} {len : Nat} {C : Nat → Call2} (h : CallsIn2 w a len C) {i : Nat} (hi : i < len) : ∃ x, a = some x ∧ cellsAt w (x.add (i * 4)) 0 4 = some (C i).l := by
  obtain ⟨x, hx, hc⟩ := h.cells i hi
  refine ⟨x, hx, ?_⟩
  simp only [cellsAt]
  rw [hc 0 _ rfl, hc 1 _ rfl, hc 2 _ rfl, hc 3 _ rfl]
  rfl
theorem callsIn2_one {w0 w : World} {L R : List Atom} (h : SH w0 w L) (k : Call2) {b : Nat} {t : TypeId} [p : AtB L b t k.l R] (hk : Reads w 1 k.x k.bs.length (vals k.bs)) : CallsIn2 w (some ⟨b, 0, none⟩) 1 (fun _ => k) :=
  ⟨fun i hi => ⟨_, rfl, fun j v hv => by
    have : i = 0 := by omega
    subst this
    rw [add_plain, add_plain, Nat.zero_mul, Nat.zero_add]
    exact h.ld hv⟩, fun i hi => hk⟩
set_option maxHeartbeats 4000000 in
theorem great2_spec {w : World} {a : Option Addr} {len cap : Nat} {C : Nat → Call2} (hC : CallsIn2 w a len C) (many : Int) :
    Does Try.prog 31 [.int .i64 many, .slice a len cap] w fun v w' => w' = w ∧ ∃ g, v = .bool g ∧ (g = false → many ≤ 100 ∧ len ≤ 100 ∧ ∀ i, i < len → (C i).bs.length ≤ 1600) := by
  refine s31 rfl ?_
  refine row_in ?_
  refine if_in ?_
  have fin : ∀ v : Value, v = .bool true → w = w ∧ ∃ g, v = .bool g ∧ (g = false → many ≤ 100 ∧ len ≤ 100 ∧ ∀ i, i < len → (C i).bs.length ≤ 1600) := fun v h => ⟨rfl, true, h, fun h => by cases h⟩
  by_cases h1 : 100 < many
  · refine ⟨true, decide_eq_true h1, ?_⟩
    refine row_in ?_
    refine ret_in ?_
    exact fin _ rfl
  refine ⟨false, decide_eq_false h1, ?_⟩
  by_cases hl : (100 : Int) < len
  · refine ⟨true, decide_eq_true hl, ?_⟩
    refine row_in ?_
    refine ret_in ?_
    exact fin _ rfl
  refine ⟨false, decide_eq_false hl, ?_⟩
  refine skip_in ?_
  refine seq_in (row_in ?_)
  refine block_in ?_
  refine loop_rule (4 :: 5 :: List.range' 13 13) rfl [5] (fun (i : Nat) => [.int .i64 i]) (fun i w' => i ≤ len ∧ (∀ j : Nat, j < i → (C j).bs.length ≤ 1600) ∧ w' = w) (fun i => len - i) 0 rfl ⟨Nat.zero_le _, fun j h => absurd h (Nat.not_lt_zero _), rfl⟩ ?_
  rintro g i w1 ⟨hi, hlow, rfl⟩
  refine if_in ?_
  by_cases hil : i < len
  rotate_left
  · refine ⟨false, decide_eq_false (by omega), ?_⟩
    refine exit_in ?_
    refine row_in ?_
    refine ret_in ?_
    exact ⟨rfl, false, rfl, fun _ => ⟨by omega, by omega, fun j hj => hlow j (by omega)⟩⟩
  refine ⟨true, decide_eq_true (by omega), ?_⟩
  refine skip_in ?_
  obtain ⟨x, rfl, hc⟩ := hC.cells i hil
  refine block_then ?_
  refine seq_in (ops_in ?_)
  refine ⟨⟨by omega, by omega⟩, _, rfl, ?_⟩
  refine ⟨_, hc 3 _ rfl, ?_⟩
  by_cases hb : (1600 : Int) < (C i).bs.length
  · refine ⟨true, decide_eq_true hb, ?_⟩
    refine cond_in ?_
    refine row_in ?_
    refine ret_in ?_
    exact fin _ rfl
  refine ⟨false, decide_eq_false hb, ?_⟩
  refine cond_in ?_
  refine skip_in ?_
  refine ops_in ?_
  refine ⟨((i + 1 : Nat) : Int), (IntWalk.i64_in _ (by omega)).trans (by omega), ?_⟩
  refine ⟨i + 1, rfl, ⟨hil, fun j hj => ?_, rfl⟩, by omega⟩
  by_cases hji : j < i
  · exact hlow j hji
  · have : j = i := by omega
    subst this
    omega
end Go.Proofs.Ytjnjgmkkjglheaa
