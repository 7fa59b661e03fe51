/- The closed facts: WitZ, RowZ -/
import Derived.Test.YtlhpilgmeededaaGreatDoorRows
import Derived.ProofKit
import Derived.WalkKit
import Derived.OpenShut
import Derived.LaidMore
import Derived.Lay
import Derived.SevenTiedAt
import Derived.Stop.Joined
import Derived.Test.YtlhpilgmeededaaGreatDoorCards
import Derived.Test.YtlhpilgmeededaaGreatDoorTie
set_option linter.unusedVariables false
set_option linter.unusedSimpArgs false
namespace Go.Proofs.YtlhpilgmeededaaGreatDoor
open Go Go.ChangeShapes Go.WideShapes Go.ChangeAt Go.RowKit
set_option maxRecDepth 100000
abbrev gH:List (String × DataW Unit):=[("math/bits.deBruijn32tab",Rows.laid_math_bits_deBruijn32tab),("math/bits.deBruijn64tab",Rows.laid_math_bits_deBruijn64tab),("internal/strconv.uint64pow10",Rows.laid_internal_strconv_uint64pow10),("unicode/utf8.acceptRanges",Rows.laid_unicode_utf8_acceptRanges),("strconv.ErrRange",Rows.laid_strconv_ErrRange),("strconv.ErrSyntax",Rows.laid_strconv_ErrSyntax),("unicode/utf8.first",Rows.laid_unicode_utf8_first)]
noncomputable def pf (os:Go.Os):World:=
 let w0:=World.holding Tryz.prog os ⟨#[],#[],[]⟩
 { w0 with heap:=w0.heap.modify 0 fun
   | .cells _ t frozen=> .cells #[.iface 434 (.agg #[.pointer (some ⟨9,62,none⟩)])] t frozen
   | o=>o }
noncomputable def ic (os:Go.Os):World:=(pf os).layVars Tryz.prog gH
def jo:Value:= .agg #[.int .u32 0,.int .i64 0,.int .u32 0,.int .i64 0,.int .u32 0,.int .u8 0,.int .u8 0,.int .u8 0,.int .u8 0,.int .u8 0,.int .u8 0,.int .u8 0,.int .u8 0,.int .u8 0,.int .u8 0,.int .u8 0,.int .u8 0,.int .i64 0,.int .i64 0,.int .i64 0,.int .i64 0,.int .u64 0,.int .u64 0,.int .u64 0,.int .u64 0,.int .i64 0,.int .i64 0,.int .u64 0,.int .u64 0,.int .i64 0,.int .i64 0,.int .u32 0,.int .u32 0,.int .u32 0,.int .u32 0,.int .u32 0,.int .u32 0,.int .u32 0]
theorem Cy (os:Go.Os):(pf os).layFits Tryz.prog gH []=true:=by kernel_rfl
theorem Cz (os:Go.Os):(pf os).layIfaces Tryz.prog gH (ic os)=true:=by kernel_rfl
theorem CA (os:Go.Os) (args:Array Value):(Rows.topZeroRow.laid.filter fun x=>x.2.handleName?.isSome).all (handleAtB Tryz.prog (((ic os).forCall (fun _ _=>0) ⟨#[],args,[]⟩).memory))=true:=by kernel_rfl
theorem CB (os:Go.Os):Input.okWideB Tryz.checked.prog ((ic os).forCall (fun _ _=>0) ⟨#[],#[jo,.slice none 0 0],[]⟩) 3 ⟨#[],#[jo,.slice none 0 0],[]⟩=true:=by kernel_rfl
theorem CC (os:Go.Os):((ic os).forCall (fun _ _=>0) ⟨#[],#[jo,.slice none 0 0],[]⟩).variablesZipB Tryz.checked.prog=true:=by kernel_rfl
theorem CD (os:Go.Os):((((ic os).forCall (fun _ _=>0) ⟨#[],#[jo,.slice none 0 0],[]⟩).heap.toList.drop Tryz.checked.prog.globals.size).take ((begin Tryz.checked.prog (fun _ _=>0) default).world.heap.size - Tryz.checked.prog.globals.size)=
   (begin Tryz.checked.prog (fun _ _=>0) default).world.heap.toList.drop Tryz.checked.prog.globals.size):=by kernel_rfl
theorem CE (os:Go.Os) (H:Type) (enc:TypeId × Value→H):Rows.topZeroSpec.preB enc Tryz.checked.prog Tryz.f3 Rows.topZeroRow.domain false (((ic os).forCall (fun _ _=>0) ⟨#[],#[jo,.slice none 0 0],[]⟩).memory) #[jo,.slice none 0 0] 8=true:=by kernel_rfl
theorem CF (os:Go.Os) (H:Type) (enc:TypeId × Value→H):Rows.topZeroSpec.sizedB enc Tryz.checked.prog Tryz.f3 false (((ic os).forCall (fun _ _=>0) ⟨#[],#[jo,.slice none 0 0],[]⟩).memory) #[jo,.slice none 0 0] 8=true:=by kernel_rfl
theorem CG (os:Go.Os) (args:Array Value):laidMetH Tryz.prog Rows.topZeroRow.laid (((ic os).forCall (fun _ _=>0) ⟨#[],args,[]⟩).memory):=by
 have e1:(gH.filter fun x=>(gH.map (·.1)).contains x.1)=gH:=List.filter_eq_self.2 fun x q=>List.contains_iff_mem.2 (List.mem_map.2 ⟨x,q,rfl⟩)
 have e2:(gH.filter fun x=>!(gH.map (·.1)).contains x.1)=[]:=List.filter_eq_nil_iff.2 fun x q=>by rw [List.contains_iff_mem.2 (List.mem_map.2 ⟨x,q,rfl⟩)];simp
 have h:laidMet Tryz.prog gH (ic os):=laidMet_layVars (w0:=pf os) (gH.map (·.1)) [] (by rw [e1];rfl) (by rw [e1];exact Cy os) (by rw [e1];exact Cz os) (by rw [e2];exact LaidIn.none)
 have y:laidMet Tryz.prog gH (((ic os).forCall (fun _ _=>0) ⟨#[],args,[]⟩).memory):=h.of_heap (by simp [World.memory,World.forCall,Input.heap])
 exact laidMetH_of_parts y (CA os args)
end Go.Proofs.YtlhpilgmeededaaGreatDoor
namespace Go.Proofs.YtlhpilgmeededaaGreatDoor
open Go Go.ChangeShapes Go.WideShapes Go.ChangeAt Go.RowKit
set_option maxRecDepth 100000
set_option maxHeartbeats 40000000
theorem and_tt {a b:Bool} (h:a=true) (k:b=true):(a&&b)=true:=by rw [h,k];rfl
theorem row_named:Tryz.pinned.checked.prog.funcNamed Rows.topZeroRow.func=some 3:=by kernel_rfl
theorem row_facts:joinedFacts Tryz.pinned.checked.prog 3 Tryz.f3 Rows.topZeroSpec Rows.topZeroRow=true:=by
 unfold joinedFacts
 repeat' with_reducible refine and_tt ?_ ?_
 all_goals (as_aux_lemma=>kernel_rfl)
theorem row_inst:Func.isInstance Tryz.pinned.checked.prog Tryz.f3 Rows.topZeroRow.origin Rows.topZeroRow.targs:=of_decide_eq_true (by kernel_rfl)
theorem row_wrap:Func.isWrapper Tryz.pinned.checked.prog Tryz.f3 Rows.topZeroRow.wrapper Rows.topZeroRow.mainSum:=by unfold Func.isWrapper;first | (rw [if_pos (by decide+kernel)];kernel_rfl) | (rw [if_neg (by decide+kernel)];exact ⟨rfl,rfl⟩)
theorem card_text:OpenClaim.wfByText (OpenSpec.ofChange Rows.topZeroSpec) Rows.topZeroRow=true:=by kernel_rfl
theorem card_main:Tryz.pinned.checked.prog.mainIs=some (true,"43e91d71918ff2a6a7762e5ef025b110c5684ecaf698cd20a89be441adb90687".toList):=by kernel_rfl
theorem card_looks:true=Tryz.prog.looks []:=by kernel_rfl
theorem goes_none {P:Program} {f:FuncId} (h:P.funcs.any Func.goes=false):P.goes f=false:=by
 have key: ∀ g:Nat,(P.funcs[g]?).any Func.goes=false:=fun g=>by
  cases e:P.funcs[g]? with
  | none=>rfl
  | some fn=>
   obtain ⟨hi,q⟩:=Array.getElem?_eq_some_iff.1 e
   have:=Array.any_eq_false.1 h g hi
   rw [q] at this
   simpa using this
 unfold Program.goes
 simp [key,h]
theorem no_go:Tryz.pinned.checked.prog.funcs.any Func.goes=false:=by kernel_rfl
theorem card_goes:false=Rows.topZeroRow.goesBy Tryz.pinned.checked.prog:=by
 have e: ∀ {P:Program} {s:String} {f:FuncId},P.funcNamed s=some f→P.goes f=false→false=P.goesAt .entering s:=fun {P s f} h k=>by
  unfold Program.goesAt Program.goesFrom
  rw [h]
  simp [k]
 exact e row_named (goes_none no_go)
theorem card_wants:([37,38].all fun u=>!Tryz.prog.wantsStandIn u)=true:=by kernel_rfl
theorem no_init:Tryz.checked.prog.inits.idxOf? 3=none:=by kernel_rfl
theorem own:ownKnob Tryz.prog.godebug=none:=by kernel_rfl
theorem laidOut:laidOutB Tryz.prog=true:=by kernel_rfl
theorem rd37:Tryz.prog.readableRec 37=true:=by kernel_rfl
theorem rd38:Tryz.prog.readableRec 38=true:=by kernel_rfl
theorem ty38:38<Tryz.prog.types.size:=of_decide_eq_true (by kernel_rfl)
end Go.Proofs.YtlhpilgmeededaaGreatDoor
