/- TopZero holds of every configuration and every script of events, whatever they are: a datagram without a sum is forwarded without one, and its bytes are the ones that came. Conditions: the listed variables of Go's library hold what the program's text lays (the card ties that). -/
import Derived.Test.YtlhpilgmeededaaGreatDoorM6
import Derived.Test.YtlhpilgmeededaaGreatDoorWit
import Derived.Test.YtlhpilgmeededaaGreatDoorRows
import Derived.Test.YtlhpilgmeededaaGreatDoorCards
import Derived.Test.YtlhpilgmeededaaGreatDoorTie
import Derived.LaidMore
import Derived.Lay
import Derived.SevenTiedAt
import Derived.Stop.Joined
set_option linter.unusedVariables false
set_option linter.unusedSimpArgs false
namespace Go.Proofs.YtlhpilgmeededaaGreatDoor
open Go Go.Den Go.ChangeShapes Go.WideShapes Go.ChangeAt Go.RowKit
set_option maxHeartbeats 4000000
set_option maxRecDepth 100000
theorem CM:Tryz.prog.globalNamed "errors.errorType" =some 0:=by kernel_rfl
theorem CN:(Tryz.prog.cutTypes.find? (·.1== "internal/reflectlite.rtype")).map (·.2)=some 434:=by kernel_rfl
theorem CO:Tryz.prog.types.size=610:=by kernel_rfl
theorem CP:((List.range 610).filter fun t=>Tryz.prog.rowNamed t [101,114,114,111,114])=[62]:=by kernel_rfl
theorem wC {W:World} (h:laidMetH Tryz.prog Rows.topZeroRow.laid W):laidMet Tryz.prog gH W∧handlesMet Tryz.prog [("errors.errorType",Rows.laid_errors_errorType)] W:=h
theorem CQ {W:World} (h:laidMetH Tryz.prog Rows.topZeroRow.laid W):kN.holds W:=by
 obtain ⟨name,u,ty,e1,e2,e3,e4,e5⟩:=(wC h).2 _ (List.mem_singleton.2 rfl)
 have en:name=[101,114,114,111,114]:=(Option.some.inj e1).symm
 subst en
 obtain rfl:=Option.some.inj (CN.symm.trans e2)
 have q:ty∈(List.range 610).filter fun t=>Tryz.prog.rowNamed t [101,114,114,111,114]:=List.mem_filter.2 ⟨List.mem_range.2 (by rw [←CO];exact e3),e4⟩
 rw [CP] at q
 obtain rfl:=List.mem_singleton.1 q
 have y:typeHandle Tryz.prog 62= .pointer (some ⟨9,62,none⟩):=by kernel_rfl
 rw [y] at e5
 show W.cell? ⟨0,0,none⟩=_
 simpa using World.var?_cell CM e5 0
theorem CR:Tryz.prog.globalNamed "math/bits.deBruijn64tab" =some 5:=by kernel_rfl
theorem CS:(Tryz.prog.globals[5]?).map (·.type)=some 527:=by kernel_rfl
theorem CT:(match (Rows.laid_math_bits_deBruijn64tab:DataW Unit) with | .agg l=>l | _=>[])=aW.map fun n=> .lit (.int .u8 (n:Nat)):=by kernel_rfl
theorem CU {W:World} (h:laidMetH Tryz.prog Rows.topZeroRow.laid W):Tz.holds W:=by
 obtain ⟨ps,y,_,H⟩:=(wC h).1
 obtain ⟨g1,t1,cs1,f1,p1,q1,_,_,_,_,⟨g,t,cs,fuel,p,q,hg,ht,y,hd,_,J⟩,hps1⟩:=y
 obtain rfl:=Option.some.inj (CR.symm.trans hg)
 obtain rfl:=Option.some.inj (CS.symm.trans ht)
 obtain ⟨xs,m,_,ex,_,hl,Y⟩:=DataW.trod_array Tryz.underlying527 hd
 have c5:Tryz.prog.cellsOf 5=1:=by kernel_rfl
 have e3:(xs.map (·.1))=aW.map fun n=> .lit (.int .u8 (n:Nat)):=by
  have e:=(Prod.mk.inj ex).1
  have e2:=CT
  rw [e] at e2
  exact e2
 have each: ∀ i,i<64→W.cell? ⟨5,i,none⟩=some (.int .u8 (aW.getD i 0:Nat))∧cs[i]?=some (.int .u8 (aW.getD i 0:Nat)):=fun i hi=>by
  have hE:=Y i hi
  rw [c5,Nat.mul_one,List.getElem?_eq_getElem (by omega)] at hE
  obtain ⟨z,e1,e2,_⟩:=DataW.trod_int Tryz.underlying5 hE
  have hlen:aW.length=64:=rfl
  have e4:(xs.map (·.1))[i]?=(aW.map fun n=>(DataW.lit (.int .u8 (n:Nat)):DataW Unit))[i]?:=by rw [e3]
  rw [List.getElem?_map,List.getElem?_map,List.getElem?_eq_getElem (by omega:i<xs.length),List.getElem?_eq_getElem (by omega:i<aW.length),e2] at e4
  have hz:z=(aW.getD i 0:Nat):=by
   simp only [Option.map_some,Option.some.injEq,DataW.lit.injEq,Lit.int.injEq,true_and] at e4
   rw [e4,List.getD,List.getElem?_eq_getElem (by omega:i<aW.length)];rfl
  have h1:cs[i]?=some (.int .u8 (aW.getD i 0:Nat)):=by
   have h0:((cs.toList.drop i).take 1)[0]?=some (.int .u8 z):=by rw [e1];rfl
   rw [←hz]
   simpa using h0
  exact ⟨by rw [World.var?_cell hg y i];exact h1,h1⟩
 have hcs:0<cs.size:=(Array.getElem?_eq_some_iff.1 (each 0 (by decide)).2).1
 obtain ⟨⟨c,t,hb⟩,_⟩:=H 5 0 (by
  rw [hps1,J]
  exact List.mem_append_right _ (List.mem_append_left _ (List.mem_append_left _ (MemPlace.mem_row.2 ⟨0,hcs,rfl⟩))))
 refine ⟨c,t,hb,fun i hi=>?_⟩
 have:=(each i hi).1
 simpa [World.cell?,hb] using this
end Go.Proofs.YtlhpilgmeededaaGreatDoor
namespace Go.Proofs.YtlhpilgmeededaaGreatDoor
open Go Go.Den Go.ChangeShapes Go.WideShapes Go.ChangeAt Go.RowKit
set_option maxRecDepth 100000
theorem CV {W:World} {v:Value} {l:List dO} (h:rB W v l) (h1:kN.holds W) (h2:Tz.holds W):SH W W [Es v l,kN,Tz]:=by
 refine ⟨Below.refl _ _,fun A y=>?_,?_,fun A y b q=>?_⟩
 ·rcases List.mem_cons.1 y with rfl | y
  ·refine ⟨fun a H=>?_,?_⟩
   ·rcases List.mem_cons.1 H with rfl | H
    ·intro p J
     obtain rfl:=List.mem_singleton.1 J
     exact h.1
    ·obtain rfl:=List.mem_singleton.1 H
     intro p J
     obtain ⟨x,hx,rfl⟩:=List.mem_map.1 J
     exact h.2 x hx
   ·refine List.pairwise_cons.2 ⟨fun B Y b=>⟨fun q=>q.elim,fun _ q=>?_⟩,List.pairwise_singleton _ _⟩
    obtain rfl:=List.mem_singleton.1 Y
    exact q
  ·rcases List.mem_cons.1 y with rfl | y
   ·exact h1
   ·obtain rfl:=List.mem_singleton.1 y
    exact h2
 ·have no: ∀ A∈[Es v l,kN,Tz],∀ b,¬A.ex b:=by
   intro A y b q
   rcases List.mem_cons.1 y with rfl | y
   ·obtain ⟨a,H,q⟩:=q
    rcases List.mem_cons.1 H with rfl | H
    ·exact q
    ·obtain rfl:=List.mem_singleton.1 H
     exact q
   ·rcases List.mem_cons.1 y with rfl | y
    ·exact q
    ·obtain rfl:=List.mem_singleton.1 y
     exact q
  exact List.Pairwise.imp_of_mem (fun y Y _ b=>⟨fun q=>(no _ y b q).elim,fun _ q=>no _ Y b q⟩) (List.pairwise_of_forall (R:=fun _ _=>True) (fun _ _=>trivial))
 ·rcases List.mem_cons.1 y with rfl | y
  ·obtain ⟨a,H,q⟩:=q
   rcases List.mem_cons.1 H with rfl | H
   ·exact q.elim
   ·obtain rfl:=List.mem_singleton.1 H
    exact q.elim
  ·rcases List.mem_cons.1 y with rfl | y
   ·exact q.elim
   ·obtain rfl:=List.mem_singleton.1 y
    exact q.elim
theorem lifted (os:Go.Os) (started:os.Started) (H:Type) (enc:TypeId × Value→H):
  ReturnsInHanded {} Tryz.checked os 3 .any (fun w args=>(Rows.topZeroSpec.pre enc Tryz.prog Tryz.f3 Rows.topZeroRow.domain false w args∧laidMetH Tryz.prog Rows.topZeroRow.laid w)∧sizedMet enc Tryz.prog Tryz.f3 (OpenSpec.ofChange Rows.topZeroSpec) false w args)
   (Rows.topZeroSpec.post enc Tryz.prog Tryz.f3 false true false false):=by
 refine returnsInHanded_of_change_and (C:=Tryz.checked) (X:=fun w _=>laidMetH Tryz.prog Rows.topZeroRow.laid w) (fun _ _ _ hh h=>h.of_heap hh) own started no_init Tryz.func3
  (ChangeSpec.witness_shaped (enc:=enc) (C:=Tryz.checked) (os:=os) (X:=fun w _=>laidMetH Tryz.prog Rows.topZeroRow.laid w) false (ic os) #[jo,.slice none 0 0] 8 (World.layVars_os _ _ _)
   (World.shaped_of_ZipB (CC os) (CD os)) (CB os) (CE os H enc) (CF os H enc) (CG os _)) ?_
 intro W base args ds gs before hval0 J hcnd hsz0 hLaid _
 have hval: ∀ (j:Nat) t v,Tryz.f3.params[j]?=some t→args[j]?=some v→Value.okWide Tryz.prog W .any base t v:=hval0
 have hW':=J
 obtain ⟨p,q,hA0,hV,rfl,hfz,hnd⟩:=J
 have Y:DataW.TrodAll enc Tryz.prog W 0 (fun _=>true) true Tryz.f3.params.toList args.toList ds p:=hA0
 rw [Tryz.params3] at Y hval hsz0
 obtain ⟨v0,vs0,d0,ds0,p0,q0,hargs,rfl,rfl,h0,r0⟩:=trodAll_cons Y
 obtain ⟨v1,vs1,d1,ds1,p1,q1,rfl,rfl,rfl,h1,r1⟩:=trodAll_cons r0
 obtain ⟨rfl,rfl,rfl⟩:=trodAll_nil r1
 obtain rfl:args=#[v0,v1]:=by cases args;simp_all
 obtain ⟨rfl,rfl⟩:=trodVars_none hV
 have lt0: ∀ x∈p0,x.block<W.heap.size:=by obtain ⟨m,y⟩:=h0;exact DataW.trod_lt m _ _ _ y
 have lt1: ∀ x∈p1,x.block<W.heap.size:=by obtain ⟨m,y⟩:=h1;exact DataW.trod_lt m _ _ _ y
 obtain ⟨c,rfl,hc⟩:=CI (hval 0 37 v0 rfl rfl)
 have hw: ∀ n∈d1.weights Tryz.prog 38,n≤reachBytes:=fun n hn=>by
  have:=List.all_eq_true.1 hsz0 n (by
   show n∈DataW.weightsEach Tryz.prog ([37,38]++_) _
   simp only [List.cons_append,List.nil_append,DataW.weightsEach,List.mem_append]
   exact .inr (.inl hn))
  simpa using this
 obtain ⟨l,hl,hE⟩:=CL (hval 1 38 v1 rfl rfl) h1 hw
 have hS:=CV hE (CQ hLaid) (CU hLaid)
 clear hA0 hval0 hsz0
 have run:=c3 (v:=v1) (K:=fun v w'=>v= .bool true∧SH W w' [Es v1 l,kN,Tz]) hc c4 hS hl (fun w' h=>⟨rfl,h⟩)
 refine Calls.mono run fun e W' ⟨v,he,hv,hSH⟩=>?_
 subst hv
 subst he
 have bel:=hSH.below
 exact ⟨_,rfl,_,_,_,[],_,[],hW',trodAll_mk1 (shut_bool Tryz.underlying4 _),trodAll_cons_mk (Below.trod laidOut rd37 (Nat.lt_of_succ_lt ty38) h0 bel lt0) (trodAll_cons_mk (Below.trod laidOut rd38 ty38 h1 bel lt1) trodAll_mk0),rfl,bel.frame _,fun h=>by cases h⟩
theorem CW:Rows.TopZeroSaid:=
 OpenClaim.holds_of_wide 3 Tryz.f3 rfl rfl rfl rfl rfl rfl rfl ⟨rfl,rfl,rfl,rfl,rfl⟩ rfl rfl rfl rfl rfl row_named Tryz.func3 row_facts row_inst row_wrap
  (fun os started H enc _=>lifted os started H enc)
theorem topZero_holds:Rows.TopZeroCardSaid:=
 Claim7.holds_tied_plain_at .later [] [.data,.data,.data,.data,.handle,.sentinel,.sentinel,.pinned] true (true,"43e91d71918ff2a6a7762e5ef025b110c5684ecaf698cd20a89be441adb90687") true
  CW (fun _ h=>by cases h) card_text (fun _ h=>by cases h) topZero_row_tie rfl ⟨rfl,rfl⟩ card_main rfl
  (fun f fn H q=>by
   obtain rfl:f=3:=Option.some.inj (row_named.symm.trans H) |>.symm
   obtain rfl:fn=Tryz.f3:=(Option.some.inj (Tryz.func3.symm.trans q)).symm
   exact ⟨card_looks,fun _ t y=>by
    rw [Tryz.params3] at y
    have J:t∈[37,38]:=by simpa using Array.mem_of_getElem? y
    exact (show Tryz.prog.wantsStandIn t=false by simpa using List.all_eq_true.1 card_wants t J)⟩)
  card_goes
end Go.Proofs.YtlhpilgmeededaaGreatDoor
