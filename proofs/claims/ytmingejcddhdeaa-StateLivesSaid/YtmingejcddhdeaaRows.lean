/-
  No cell of these rows narrows 'for every input' (looked for: loops, veiled, ifaces, maps, wideKeys, modest, calm, conditions, laid).
  DERIVED. THE GIVEN ROWS OF THIS SEAT. 3 by the template 'for every input the law returns true; each argument reads behind the call as it read before'; 0 by the template 'total and deterministic' (their statements: YtmingejcddhdeaaTotals.lean).
  GIVEN WITH THE SEED: the statements are not yours to turn. If you find one false, say at which input.
  Laid BY PROGRAM, IN A SANDBOX (cutbox-rows.mjs): the forced cells as the released guide's own fill.sh prints them over the translation a34036ee6538fae2… (all of the seat's roots in one cut). By AI agents, Wed Nov 11 2026. No macro, syntax, notation, axiom, sorry.
-/
import Derived.Test.YtmingejcddhdeaaChecked
import GoSem.Claim
import GoSem.ClaimJoined
import GoSem.ClaimMapViews
import Derived.JoinedTies
import Derived.KernelRfl
namespace Go.Proofs.Ytmingejcddhdeaa
/- THE CELL 'sum', in the pinned program and in every row, IS THE sha256 OF THE DUMP (.gsa) THAT YtmingejcddhdeaaProg.lean LOADS. Nothing in Lean hashes anything: it is a label: what it is worth is what the hold of that sum in a sandbox is worth. -/
noncomputable def Try.pinned : Pinned := { name := "ytmingejcddhdeaa", sum := "a34036ee6538fae2788d2b97be8b66916bd723d4a146b6c6561e3949a22948f9", checked := Try.checked }
namespace Rows
def none {H : Type} : Left H := { results := [], args := [] }

/-- 'vizardlaw19.StateLives': WHATEVER THE INPUT: true; the input reads as it did. -/
def stateLivesSpec : ChangeSpec := { name := "stateLives", fn := fun _ => fun
  | [d1, d2, d3, d4] => { results := [.lit (.bool true)], args := [d1, d2, d3, d4] }
  | _ => none }
def stateLivesRow : OpenClaim := { program := "ytmingejcddhdeaa", sum := "a34036ee6538fae2788d2b97be8b66916bd723d4a146b6c6561e3949a22948f9", func := "vizard/vizardlaw19.StateLives", spec := "stateLives", apart := false }
def StateLivesSaid : Prop := stateLivesRow.holds Try.pinned (OpenSpec.ofChange stateLivesSpec)

/-- ITS FALSE NEIGHBOUR: 'it returns false'. Refute it at one input. -/
def stateLivesWrong : ChangeSpec := { name := "stateLives", fn := fun _ => fun
  | [d1, d2, d3, d4] => { results := [.lit (.bool false)], args := [d1, d2, d3, d4] }
  | _ => none }
def StateLivesWrongFalsely : Prop := stateLivesRow.holds Try.pinned (OpenSpec.ofChange stateLivesWrong)

/-- 'vizardlaw19.StateOnce': WHATEVER THE INPUT: true; the input reads as it did. -/
def stateOnceSpec : ChangeSpec := { name := "stateOnce", fn := fun _ => fun
  | [d1, d2, d3] => { results := [.lit (.bool true)], args := [d1, d2, d3] }
  | _ => none }
def stateOnceRow : OpenClaim := { program := "ytmingejcddhdeaa", sum := "a34036ee6538fae2788d2b97be8b66916bd723d4a146b6c6561e3949a22948f9", func := "vizard/vizardlaw19.StateOnce", spec := "stateOnce", apart := false }
def StateOnceSaid : Prop := stateOnceRow.holds Try.pinned (OpenSpec.ofChange stateOnceSpec)

/-- ITS FALSE NEIGHBOUR: 'it returns false'. Refute it at one input. -/
def stateOnceWrong : ChangeSpec := { name := "stateOnce", fn := fun _ => fun
  | [d1, d2, d3] => { results := [.lit (.bool false)], args := [d1, d2, d3] }
  | _ => none }
def StateOnceWrongFalsely : Prop := stateOnceRow.holds Try.pinned (OpenSpec.ofChange stateOnceWrong)

/-- 'vizardlaw19.StateTwice': WHATEVER THE INPUT: true; the input reads as it did. -/
def stateTwiceSpec : ChangeSpec := { name := "stateTwice", fn := fun _ => fun
  | [d1, d2, d3, d4] => { results := [.lit (.bool true)], args := [d1, d2, d3, d4] }
  | _ => none }
def stateTwiceRow : OpenClaim := { program := "ytmingejcddhdeaa", sum := "a34036ee6538fae2788d2b97be8b66916bd723d4a146b6c6561e3949a22948f9", func := "vizard/vizardlaw19.StateTwice", spec := "stateTwice", apart := false }
def StateTwiceSaid : Prop := stateTwiceRow.holds Try.pinned (OpenSpec.ofChange stateTwiceSpec)

/-- ITS FALSE NEIGHBOUR: 'it returns false'. Refute it at one input. -/
def stateTwiceWrong : ChangeSpec := { name := "stateTwice", fn := fun _ => fun
  | [d1, d2, d3, d4] => { results := [.lit (.bool false)], args := [d1, d2, d3, d4] }
  | _ => none }
def StateTwiceWrongFalsely : Prop := stateTwiceRow.holds Try.pinned (OpenSpec.ofChange stateTwiceWrong)

/- THE SECOND FORM. 'bulk': how many values and letters a reading holds, each counted each time it is reached (what is shared counts as often as it is met; a slice's spare places count too). A statement '..UptoSaid' is the law's where the arguments, and the package variables that the reading takes, are together of bulk at most 1048576: NARROWER than '..Said'. Prove '..Said' where nothing that the law and all that it calls make is longer than what came in: it says more and counts as full. Else prove '..UptoSaid'. A law counts once. -/
mutual
def uptoBulk {H : Type} : DataW H → Nat
  | .lit (.string bytes) => bytes.length + 1
  | .lit _ => 1
  | .nil => 1
  | .ptr d => uptoBulk d + 1
  | .slice elems spare => uptoBulkAll elems + uptoBulkAll spare + 1
  | .agg parts => uptoBulkAll parts + 1
  | .iface _ d => uptoBulk d + 1
  | .map entries => uptoBulkEntries entries + 1
  | .held _ => 1
def uptoBulkAll {H : Type} : List (DataW H) → Nat
  | [] => 0
  | d :: r => uptoBulk d + uptoBulkAll r
def uptoBulkEntries {H : Type} : List (Lit × DataW H) → Nat
  | [] => 0
  | x :: r => uptoBulkEntry x + uptoBulkEntries r
def uptoBulkEntry {H : Type} : Lit × DataW H → Nat
  | (.string bytes, d) => bytes.length + uptoBulk d + 1
  | (_, d) => uptoBulk d + 1
 end
def uptoSmall : (H : Type) → List (DataW H) → Bool := fun _ ds => decide (uptoBulkAll ds ≤ 1048576)
def OpenSpec.upto (s : _root_.Go.ChangeSpec) : _root_.Go.OpenSpec := { _root_.Go.OpenSpec.ofChange s with cond := some uptoSmall }

/-- 'vizardlaw19.StateLives', WHERE WHAT IT READS IS OF BULK AT MOST 1048576: true; the input reads as it did. -/
def stateLivesUptoRow : OpenClaim := { program := "ytmingejcddhdeaa", sum := "a34036ee6538fae2788d2b97be8b66916bd723d4a146b6c6561e3949a22948f9", func := "vizard/vizardlaw19.StateLives", spec := "stateLives", apart := false, narrowed := true }
def StateLivesUptoSaid : Prop := stateLivesUptoRow.holds Try.pinned (OpenSpec.upto stateLivesSpec)

/-- 'vizardlaw19.StateOnce', WHERE WHAT IT READS IS OF BULK AT MOST 1048576: true; the input reads as it did. -/
def stateOnceUptoRow : OpenClaim := { program := "ytmingejcddhdeaa", sum := "a34036ee6538fae2788d2b97be8b66916bd723d4a146b6c6561e3949a22948f9", func := "vizard/vizardlaw19.StateOnce", spec := "stateOnce", apart := false, narrowed := true }
def StateOnceUptoSaid : Prop := stateOnceUptoRow.holds Try.pinned (OpenSpec.upto stateOnceSpec)

/-- 'vizardlaw19.StateTwice', WHERE WHAT IT READS IS OF BULK AT MOST 1048576: true; the input reads as it did. -/
def stateTwiceUptoRow : OpenClaim := { program := "ytmingejcddhdeaa", sum := "a34036ee6538fae2788d2b97be8b66916bd723d4a146b6c6561e3949a22948f9", func := "vizard/vizardlaw19.StateTwice", spec := "stateTwice", apart := false, narrowed := true }
def StateTwiceUptoSaid : Prop := stateTwiceUptoRow.holds Try.pinned (OpenSpec.upto stateTwiceSpec)

end Rows
end Go.Proofs.Ytmingejcddhdeaa
