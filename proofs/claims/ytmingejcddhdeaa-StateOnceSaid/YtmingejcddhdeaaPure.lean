/- What the state machine's marks come to: a finite matter, since only the three lowest bits count. -/
import Derived.Test.YtmingejcddhdeaaState
namespace Go.Proofs.Ytmingejcddhdeaa
open Go Go.Den
def mk (a b : Nat) : St := ⟨6, a, b, decide (a &&& b &&& 2 ≠ 0), decide ((a ||| b) &&& 4 ≠ 0) || decide (a &&& b &&& 1 ≠ 0)⟩
def step (a b : Nat) (d : Bool) (z : Nat) : Nat × Nat :=
  if (mk a b).c && d && decide (z = 2) then (2, 0) else match d with
    | true => (a ||| z, b)
    | false => (a, b ||| z)
def mkp (p : Nat × Nat) : St := mk p.1 p.2
theorem next_low (s : St) (d : Bool) (z : Nat) : next s d z = next s d (z &&& 7) := by
  have e : (z &&& 7) &&& 7 = z &&& 7 := by rw [Nat.and_assoc]; rfl
  have h : ∀ x : Nat, (x ||| z) &&& 7 = (x ||| (z &&& 7)) &&& 7 := fun x => by rw [Nat.and_or_distrib_right, Nat.and_or_distrib_right, e]
  have o : opens z = opens (z &&& 7) := by unfold opens; rw [e]
  unfold next
  rw [← o, ← h, ← h]
theorem next_mk : ∀ a < 8, ∀ b < 8, ∀ d : Bool, ∀ z < 8, next (mk a b) d z = mkp (step a b d z) ∧ (step a b d z).1 < 8 ∧ (step a b d z).2 < 8 := by decide +kernel
/-- A state of TCP that steps have led to. -/
def Inv (s : St) : Prop := ∃ a b : Nat, a < 8 ∧ b < 8 ∧ s = mk a b
theorem Inv.next {s : St} (h : Inv s) (d : Bool) (z : Nat) : Inv (next s d z) := by
  obtain ⟨a, b, ha, hb, rfl⟩ := h
  rw [next_low]
  obtain ⟨h1, h2, h3⟩ := next_mk a ha b hb d (z &&& 7) (Nat.lt_of_le_of_lt Nat.and_le_right (by decide))
  exact ⟨_, _, h2, h3, h1⟩
theorem Inv.ok {s : St} (h : Inv s) : s.ok := by
  obtain ⟨a, b, ha, hb, rfl⟩ := h
  exact ⟨Nat.lt_trans ha (by decide), Nat.lt_trans hb (by decide)⟩
def onceB (s : St) (d : Bool) (z : Nat) : Bool :=
  let n := next s d z
  let n2 := next n d z
  (!(decide (z = 0) && decide (n ≠ s))) &&
  (if s.c && !n.c then decide (n = ⟨6, 2, 0, false, false⟩) && d && decide (z = 2) && decide (n2 = n)
   else (!s.f || n.f) && (!s.c || n.c) && (n.c || decide (n2 = n)))
theorem once_all : ∀ a < 8, ∀ b < 8, ∀ d : Bool, ∀ z < 8, onceB (mk a b) d z = true := by decide +kernel
def twiceB (s : St) (d1 : Bool) (z1 : Nat) (d2 : Bool) (z2 : Nat) : Bool :=
  let n1 := next s d1 z1
  let n2 := next s d2 z2
  let n12 := next n1 d2 z2
  let n21 := next n2 d1 z1
  (s.c || n1.c || n2.c || n12.c) || (decide (n12 = n21) && decide (next n1 d1 z1 = n1) && !n21.c)
theorem twice_all : ∀ a < 8, ∀ b < 8, ∀ d1 : Bool, ∀ z1 < 8, ∀ d2 : Bool, ∀ z2 < 8, twiceB (mk a b) d1 z1 d2 z2 = true := by decide +kernel
end Go.Proofs.Ytmingejcddhdeaa
