/-
  No cell of these rows narrows 'for every input' (looked for: loops, veiled, ifaces, maps, wideKeys, modest, calm, conditions, laid).
  DERIVED. THE GIVEN ROWS OF THIS SEAT. 8 by the template 'for every input the law returns true; each argument reads behind the call as it read before'; 0 by the template 'total and deterministic' (their statements: YtjnjgmkkjglheaaTotals.lean).
  GIVEN WITH THE SEED: the statements are not yours to turn. If you find one false, say at which input.
  Laid BY PROGRAM, IN A SANDBOX (cutbox-rows.mjs): the forced cells as the released guide's own fill.sh prints them over the translation 735f37599176a281… (all of the seat's roots in one cut). By AI agents, Wed Nov 11 2026. No macro, syntax, notation, axiom, sorry.
-/
import Derived.Test.YtjnjgmkkjglheaaChecked
import GoSem.Claim
import GoSem.ClaimJoined
import GoSem.ClaimMapViews
import Derived.JoinedTies
import Derived.KernelRfl
namespace Go.Proofs.Ytjnjgmkkjglheaa
/- THE CELL 'sum', in the pinned program and in every row, IS THE sha256 OF THE DUMP (.gsa) THAT YtjnjgmkkjglheaaProg.lean LOADS. Nothing in Lean hashes anything: it is a label: what it is worth is what the hold of that sum in a sandbox is worth. -/
noncomputable def Try.pinned : Pinned := { name := "ytjnjgmkkjglheaa", sum := "735f37599176a2816a1e1130777baec64b90d5d3e911fc251e2d2f980a5566b4", checked := Try.checked }
namespace Rows
def none {H : Type} : Left H := { results := [], args := [] }

/-- 'vizardlaw11.PoolCalls': WHATEVER THE INPUT: true; the input reads as it did. -/
def poolCallsSpec : ChangeSpec := { name := "poolCalls", fn := fun _ => fun
  | [d1, d2, d3, d4] => { results := [.lit (.bool true)], args := [d1, d2, d3, d4] }
  | _ => none }
def poolCallsRow : OpenClaim := { program := "ytjnjgmkkjglheaa", sum := "735f37599176a2816a1e1130777baec64b90d5d3e911fc251e2d2f980a5566b4", func := "vizard/vizardlaw11.PoolCalls", spec := "poolCalls", unfollowed := true, recurses := true, apart := false }
def PoolCallsSaid : Prop := poolCallsRow.holds Try.pinned (OpenSpec.ofChange poolCallsSpec)

/-- ITS FALSE NEIGHBOUR: 'it returns false'. Refute it at one input. -/
def poolCallsWrong : ChangeSpec := { name := "poolCalls", fn := fun _ => fun
  | [d1, d2, d3, d4] => { results := [.lit (.bool false)], args := [d1, d2, d3, d4] }
  | _ => none }
def PoolCallsWrongFalsely : Prop := poolCallsRow.holds Try.pinned (OpenSpec.ofChange poolCallsWrong)

/-- 'vizardlaw11.PoolOwners': WHATEVER THE INPUT: true; the input reads as it did. -/
def poolOwnersSpec : ChangeSpec := { name := "poolOwners", fn := fun _ => fun
  | [d1, d2] => { results := [.lit (.bool true)], args := [d1, d2] }
  | _ => none }
def poolOwnersRow : OpenClaim := { program := "ytjnjgmkkjglheaa", sum := "735f37599176a2816a1e1130777baec64b90d5d3e911fc251e2d2f980a5566b4", func := "vizard/vizardlaw11.PoolOwners", spec := "poolOwners", unfollowed := true, recurses := true, apart := false }
def PoolOwnersSaid : Prop := poolOwnersRow.holds Try.pinned (OpenSpec.ofChange poolOwnersSpec)

/-- ITS FALSE NEIGHBOUR: 'it returns false'. Refute it at one input. -/
def poolOwnersWrong : ChangeSpec := { name := "poolOwners", fn := fun _ => fun
  | [d1, d2] => { results := [.lit (.bool false)], args := [d1, d2] }
  | _ => none }
def PoolOwnersWrongFalsely : Prop := poolOwnersRow.holds Try.pinned (OpenSpec.ofChange poolOwnersWrong)

/-- 'vizardlaw11.PoolBack': WHATEVER THE INPUT: true; the input reads as it did. -/
def poolBackSpec : ChangeSpec := { name := "poolBack", fn := fun _ => fun
  | [d1, d2, d3, d4, d5] => { results := [.lit (.bool true)], args := [d1, d2, d3, d4, d5] }
  | _ => none }
def poolBackRow : OpenClaim := { program := "ytjnjgmkkjglheaa", sum := "735f37599176a2816a1e1130777baec64b90d5d3e911fc251e2d2f980a5566b4", func := "vizard/vizardlaw11.PoolBack", spec := "poolBack", unfollowed := true, recurses := true, apart := false }
def PoolBackSaid : Prop := poolBackRow.holds Try.pinned (OpenSpec.ofChange poolBackSpec)

/-- ITS FALSE NEIGHBOUR: 'it returns false'. Refute it at one input. -/
def poolBackWrong : ChangeSpec := { name := "poolBack", fn := fun _ => fun
  | [d1, d2, d3, d4, d5] => { results := [.lit (.bool false)], args := [d1, d2, d3, d4, d5] }
  | _ => none }
def PoolBackWrongFalsely : Prop := poolBackRow.holds Try.pinned (OpenSpec.ofChange poolBackWrong)

/-- 'vizardlaw11.PoolLeast': WHATEVER THE INPUT: true; the input reads as it did. -/
def poolLeastSpec : ChangeSpec := { name := "poolLeast", fn := fun _ => fun
  | [d1, d2, d3, d4] => { results := [.lit (.bool true)], args := [d1, d2, d3, d4] }
  | _ => none }
def poolLeastRow : OpenClaim := { program := "ytjnjgmkkjglheaa", sum := "735f37599176a2816a1e1130777baec64b90d5d3e911fc251e2d2f980a5566b4", func := "vizard/vizardlaw11.PoolLeast", spec := "poolLeast", unfollowed := true, recurses := true, apart := false }
def PoolLeastSaid : Prop := poolLeastRow.holds Try.pinned (OpenSpec.ofChange poolLeastSpec)

/-- ITS FALSE NEIGHBOUR: 'it returns false'. Refute it at one input. -/
def poolLeastWrong : ChangeSpec := { name := "poolLeast", fn := fun _ => fun
  | [d1, d2, d3, d4] => { results := [.lit (.bool false)], args := [d1, d2, d3, d4] }
  | _ => none }
def PoolLeastWrongFalsely : Prop := poolLeastRow.holds Try.pinned (OpenSpec.ofChange poolLeastWrong)

/-- 'vizardlaw12.RingMoves': WHATEVER THE INPUT: true; the input reads as it did. -/
def ringMovesSpec : ChangeSpec := { name := "ringMoves", fn := fun _ => fun
  | [d1, d2, d3, d4] => { results := [.lit (.bool true)], args := [d1, d2, d3, d4] }
  | _ => none }
def ringMovesRow : OpenClaim := { program := "ytjnjgmkkjglheaa", sum := "735f37599176a2816a1e1130777baec64b90d5d3e911fc251e2d2f980a5566b4", func := "vizard/vizardlaw12.RingMoves", spec := "ringMoves", unfollowed := true, recurses := true, apart := false }
def RingMovesSaid : Prop := ringMovesRow.holds Try.pinned (OpenSpec.ofChange ringMovesSpec)

/-- ITS FALSE NEIGHBOUR: 'it returns false'. Refute it at one input. -/
def ringMovesWrong : ChangeSpec := { name := "ringMoves", fn := fun _ => fun
  | [d1, d2, d3, d4] => { results := [.lit (.bool false)], args := [d1, d2, d3, d4] }
  | _ => none }
def RingMovesWrongFalsely : Prop := ringMovesRow.holds Try.pinned (OpenSpec.ofChange ringMovesWrong)

/-- 'vizardlaw12.RingCalls': WHATEVER THE INPUT: true; the input reads as it did. -/
def ringCallsSpec : ChangeSpec := { name := "ringCalls", fn := fun _ => fun
  | [d1, d2, d3, d4, d5] => { results := [.lit (.bool true)], args := [d1, d2, d3, d4, d5] }
  | _ => none }
def ringCallsRow : OpenClaim := { program := "ytjnjgmkkjglheaa", sum := "735f37599176a2816a1e1130777baec64b90d5d3e911fc251e2d2f980a5566b4", func := "vizard/vizardlaw12.RingCalls", spec := "ringCalls", unfollowed := true, recurses := true, apart := false }
def RingCallsSaid : Prop := ringCallsRow.holds Try.pinned (OpenSpec.ofChange ringCallsSpec)

/-- ITS FALSE NEIGHBOUR: 'it returns false'. Refute it at one input. -/
def ringCallsWrong : ChangeSpec := { name := "ringCalls", fn := fun _ => fun
  | [d1, d2, d3, d4, d5] => { results := [.lit (.bool false)], args := [d1, d2, d3, d4, d5] }
  | _ => none }
def RingCallsWrongFalsely : Prop := ringCallsRow.holds Try.pinned (OpenSpec.ofChange ringCallsWrong)

/-- 'vizardlaw12.RingOrder': WHATEVER THE INPUT: true; the input reads as it did. -/
def ringOrderSpec : ChangeSpec := { name := "ringOrder", fn := fun _ => fun
  | [d1, d2, d3] => { results := [.lit (.bool true)], args := [d1, d2, d3] }
  | _ => none }
def ringOrderRow : OpenClaim := { program := "ytjnjgmkkjglheaa", sum := "735f37599176a2816a1e1130777baec64b90d5d3e911fc251e2d2f980a5566b4", func := "vizard/vizardlaw12.RingOrder", spec := "ringOrder", unfollowed := true, recurses := true, apart := false }
def RingOrderSaid : Prop := ringOrderRow.holds Try.pinned (OpenSpec.ofChange ringOrderSpec)

/-- ITS FALSE NEIGHBOUR: 'it returns false'. Refute it at one input. -/
def ringOrderWrong : ChangeSpec := { name := "ringOrder", fn := fun _ => fun
  | [d1, d2, d3] => { results := [.lit (.bool false)], args := [d1, d2, d3] }
  | _ => none }
def RingOrderWrongFalsely : Prop := ringOrderRow.holds Try.pinned (OpenSpec.ofChange ringOrderWrong)

/-- 'vizardlaw12.RingTwo': WHATEVER THE INPUT: true; the input reads as it did. -/
def ringTwoSpec : ChangeSpec := { name := "ringTwo", fn := fun _ => fun
  | [d1, d2] => { results := [.lit (.bool true)], args := [d1, d2] }
  | _ => none }
def ringTwoRow : OpenClaim := { program := "ytjnjgmkkjglheaa", sum := "735f37599176a2816a1e1130777baec64b90d5d3e911fc251e2d2f980a5566b4", func := "vizard/vizardlaw12.RingTwo", spec := "ringTwo", unfollowed := true, recurses := true, apart := false }
def RingTwoSaid : Prop := ringTwoRow.holds Try.pinned (OpenSpec.ofChange ringTwoSpec)

/-- ITS FALSE NEIGHBOUR: 'it returns false'. Refute it at one input. -/
def ringTwoWrong : ChangeSpec := { name := "ringTwo", fn := fun _ => fun
  | [d1, d2] => { results := [.lit (.bool false)], args := [d1, d2] }
  | _ => none }
def RingTwoWrongFalsely : Prop := ringTwoRow.holds Try.pinned (OpenSpec.ofChange ringTwoWrong)

/- THE SECOND FORM. 'bulk': how many values and letters a reading holds, each counted each time it is reached (what is shared counts as often as it is met; a slice's spare places count too). A statement '..UptoSaid' is the law's where the arguments, and the package variables that the reading takes, are together of bulk at most 1048576: NARROWER than '..Said'. Prove '..Said' where nothing that the law and all that it calls make is longer than what came in: it says more and counts as full. Else prove '..UptoSaid'. A law counts once. -/
mutual
def uptoBulk {H : Type} : DataW H → Nat
  | .lit (.string bytes) => bytes.length + 1
  | .lit _ => 1
  | .nil => 1
  | .ptr d => uptoBulk d + 1
  | .slice elems spare => uptoBulkAll elems + uptoBulkAll spare + 1
  | .agg parts => uptoBulkAll parts + 1
  | .iface _ d => uptoBulk d + 1
  | .map entries => uptoBulkEntries entries + 1
  | .held _ => 1
def uptoBulkAll {H : Type} : List (DataW H) → Nat
  | [] => 0
  | d :: r => uptoBulk d + uptoBulkAll r
def uptoBulkEntries {H : Type} : List (Lit × DataW H) → Nat
  | [] => 0
  | x :: r => uptoBulkEntry x + uptoBulkEntries r
def uptoBulkEntry {H : Type} : Lit × DataW H → Nat
  | (.string bytes, d) => bytes.length + uptoBulk d + 1
  | (_, d) => uptoBulk d + 1
 end
def uptoSmall : (H : Type) → List (DataW H) → Bool := fun _ ds => decide (uptoBulkAll ds ≤ 1048576)
def OpenSpec.upto (s : _root_.Go.ChangeSpec) : _root_.Go.OpenSpec := { _root_.Go.OpenSpec.ofChange s with cond := some uptoSmall }

/-- 'vizardlaw11.PoolCalls', WHERE WHAT IT READS IS OF BULK AT MOST 1048576: true; the input reads as it did. -/
def poolCallsUptoRow : OpenClaim := { program := "ytjnjgmkkjglheaa", sum := "735f37599176a2816a1e1130777baec64b90d5d3e911fc251e2d2f980a5566b4", func := "vizard/vizardlaw11.PoolCalls", spec := "poolCalls", unfollowed := true, recurses := true, apart := false, narrowed := true }
def PoolCallsUptoSaid : Prop := poolCallsUptoRow.holds Try.pinned (OpenSpec.upto poolCallsSpec)

/-- 'vizardlaw11.PoolOwners', WHERE WHAT IT READS IS OF BULK AT MOST 1048576: true; the input reads as it did. -/
def poolOwnersUptoRow : OpenClaim := { program := "ytjnjgmkkjglheaa", sum := "735f37599176a2816a1e1130777baec64b90d5d3e911fc251e2d2f980a5566b4", func := "vizard/vizardlaw11.PoolOwners", spec := "poolOwners", unfollowed := true, recurses := true, apart := false, narrowed := true }
def PoolOwnersUptoSaid : Prop := poolOwnersUptoRow.holds Try.pinned (OpenSpec.upto poolOwnersSpec)

/-- 'vizardlaw11.PoolBack', WHERE WHAT IT READS IS OF BULK AT MOST 1048576: true; the input reads as it did. -/
def poolBackUptoRow : OpenClaim := { program := "ytjnjgmkkjglheaa", sum := "735f37599176a2816a1e1130777baec64b90d5d3e911fc251e2d2f980a5566b4", func := "vizard/vizardlaw11.PoolBack", spec := "poolBack", unfollowed := true, recurses := true, apart := false, narrowed := true }
def PoolBackUptoSaid : Prop := poolBackUptoRow.holds Try.pinned (OpenSpec.upto poolBackSpec)

/-- 'vizardlaw11.PoolLeast', WHERE WHAT IT READS IS OF BULK AT MOST 1048576: true; the input reads as it did. -/
def poolLeastUptoRow : OpenClaim := { program := "ytjnjgmkkjglheaa", sum := "735f37599176a2816a1e1130777baec64b90d5d3e911fc251e2d2f980a5566b4", func := "vizard/vizardlaw11.PoolLeast", spec := "poolLeast", unfollowed := true, recurses := true, apart := false, narrowed := true }
def PoolLeastUptoSaid : Prop := poolLeastUptoRow.holds Try.pinned (OpenSpec.upto poolLeastSpec)

/-- 'vizardlaw12.RingMoves', WHERE WHAT IT READS IS OF BULK AT MOST 1048576: true; the input reads as it did. -/
def ringMovesUptoRow : OpenClaim := { program := "ytjnjgmkkjglheaa", sum := "735f37599176a2816a1e1130777baec64b90d5d3e911fc251e2d2f980a5566b4", func := "vizard/vizardlaw12.RingMoves", spec := "ringMoves", unfollowed := true, recurses := true, apart := false, narrowed := true }
def RingMovesUptoSaid : Prop := ringMovesUptoRow.holds Try.pinned (OpenSpec.upto ringMovesSpec)

/-- 'vizardlaw12.RingCalls', WHERE WHAT IT READS IS OF BULK AT MOST 1048576: true; the input reads as it did. -/
def ringCallsUptoRow : OpenClaim := { program := "ytjnjgmkkjglheaa", sum := "735f37599176a2816a1e1130777baec64b90d5d3e911fc251e2d2f980a5566b4", func := "vizard/vizardlaw12.RingCalls", spec := "ringCalls", unfollowed := true, recurses := true, apart := false, narrowed := true }
def RingCallsUptoSaid : Prop := ringCallsUptoRow.holds Try.pinned (OpenSpec.upto ringCallsSpec)

/-- 'vizardlaw12.RingOrder', WHERE WHAT IT READS IS OF BULK AT MOST 1048576: true; the input reads as it did. -/
def ringOrderUptoRow : OpenClaim := { program := "ytjnjgmkkjglheaa", sum := "735f37599176a2816a1e1130777baec64b90d5d3e911fc251e2d2f980a5566b4", func := "vizard/vizardlaw12.RingOrder", spec := "ringOrder", unfollowed := true, recurses := true, apart := false, narrowed := true }
def RingOrderUptoSaid : Prop := ringOrderUptoRow.holds Try.pinned (OpenSpec.upto ringOrderSpec)

/-- 'vizardlaw12.RingTwo', WHERE WHAT IT READS IS OF BULK AT MOST 1048576: true; the input reads as it did. -/
def ringTwoUptoRow : OpenClaim := { program := "ytjnjgmkkjglheaa", sum := "735f37599176a2816a1e1130777baec64b90d5d3e911fc251e2d2f980a5566b4", func := "vizard/vizardlaw12.RingTwo", spec := "ringTwo", unfollowed := true, recurses := true, apart := false, narrowed := true }
def RingTwoUptoSaid : Prop := ringTwoUptoRow.holds Try.pinned (OpenSpec.upto ringTwoSpec)

end Rows
end Go.Proofs.Ytjnjgmkkjglheaa
