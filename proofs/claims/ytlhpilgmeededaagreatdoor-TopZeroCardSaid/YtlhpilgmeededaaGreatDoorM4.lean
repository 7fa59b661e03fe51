/- Part 4 of what the law leans on: BootA, DhcpM, DhcpH, Sweep, Learn, TableM, Table2, Table3, EntryM, Table4, Table5, Table6, LinkM, ConfM, ErrAs, Reason, TableOut, ErrIs, NatM, UdpLaw, NatGo, AnsM, GateM, GateE, GateS -/
import Derived.Test.YtlhpilgmeededaaGreatDoorM3
import Derived.WideKeyEntry
import Derived.WalkKit
import Derived.LaidEql
import Derived.Stop.Asserts
import Derived.RowKitTokens
import Derived.KernelRfl
import Derived.Test.YtlhpilgmeededaaGreatDoorProg
set_option linter.unusedVariables false
set_option linter.unusedSimpArgs false
namespace Go.Proofs.YtlhpilgmeededaaGreatDoor
open Go Go.Den
set_option maxHeartbeats 4000000
set_option maxRecDepth 8000
section
section
variable {w0 w:World} {L R R2 R3:List ao} {K:Value→World→Prop} {v u:Value} {bs:List Nat} {m:ji} {l:List bE}
theorem SH.AJ (q:SH w0 w L):SH w0 w (Os (sN) []::L):=SH.oM (e:=496) (n:=0) ((q.kF).rowOf (sN) 496 2)
attribute [local irreducible] ay aQ aH aY a6 aW aK aV num be over nb rowOf bD
theorem c358 {kind yi server:Nat} (hk:kind<256) (hm:ff m) (hy:yi<4294967296∧server<4294967296) (hl:l.length≤10∧ ∀ x∈l,lE x) (H:SH w0 w L) [h:dG L v l]
  (k: ∀ m' w',ff m'→m'.ol.length≤20→SH w0 w' (Os (.slice m'.oa m'.ol.length m'.oc) m'.ol::L)→K (fg m') w'):D 358 [fg m,C5 kind,C3 yi,C3 server,v] w K:=by
 obtain ⟨h1,h2,h3,h4,h5,h6,h7⟩:=hm.num
 have hmm:=hm.bq
 obtain ⟨hl1,hl2⟩:=hl
 obtain ⟨a,c,rfl,hrw,hby⟩:=SH.oN H (v:=v)
 refine s358 rfl<|ac<|H.az [C1 m.op,C3 m.xid,C2 m.secs,.bool m.wide,C3 m.ci,C3 m.yi,C3 m.si,C3 m.gi,C1 m.m0,C1 m.m1,C1 m.m2,C1 m.m3,C1 m.m4,C1 m.m5,.slice m.oa m.ol.length m.oc] fun b_5 _ H=>H.an fun b_10 _ H=>ac<|H.C9 (b:=b_5) rfl<|H.C9 (b:=b_5) rfl<|H.C9 (b:=b_5) rfl<|H.C9 (b:=b_5) rfl ⟨_,H.ar (b:=b_5) [C1 m.m0,C1 m.m1,C1 m.m2,C1 m.m3,C1 m.m4,C1 m.m5],⟨by kernel_rfl,[C1 2,C3 m.xid,C2 0,.bool m.wide,C3 m.ci,C3 yi,C3 0,C3 m.gi,C1 m.m0,C1 m.m1,C1 m.m2,C1 m.m3,C1 m.m4,C1 m.m5,sN],by kernel_rfl,H.an fun Y _ H=>H.aj (b:=Y) fun _ H=>?_⟩⟩
 refine bt [26,27,28] rfl [1,3,4,10,11] (fun (_:Nat)=>[C5 kind,C3 server,.slice a l.length c,pt b_10,pt Y]) (fun x w'=>x<4294967296∧SH w0 w' (Cl Y 381 [C1 (2:Nat),C3 m.xid,C2 (0:Nat),.bool m.wide,C3 x,C3 yi,C3 (0:Nat),C3 m.gi,C1 m.m0,C1 m.m1,C1 m.m2,C1 m.m3,C1 m.m4,C1 m.m5,sN]::Cl b_10 381 [C1 (0:Nat),C3 (0:Nat),C2 (0:Nat),.bool false,C3 (0:Nat),C3 (0:Nat),C3 (0:Nat),C3 (0:Nat),C1 (0:Nat),C1 (0:Nat),C1 (0:Nat),C1 (0:Nat),C1 (0:Nat),C1 (0:Nat),sN]::L)) ?_ ?_
 ·refine ac<|ap (fun h_27=>?_) (fun h_27=>?_)
  ·exact ai<|au<|H.aN (b:=Y) [C3 (0:Nat)] [C1 (2:Nat),C3 m.xid,C2 (0:Nat),.bool m.wide,C3 (0:Nat),C3 yi,C3 (0:Nat),C3 m.gi,C1 m.m0,C1 m.m1,C1 m.m2,C1 m.m3,C1 m.m4,C1 m.m5,sN] fun _ H=>⟨0,rfl,by decide,H.ae⟩
  ·exact ai<|ak ⟨m.ci,rfl,by omega,H.ae⟩
 rintro g ci w6 ⟨hci,H⟩
 refine aJ<|have H:=H.drew;H.C9 (b:=Y) rfl ⟨_,IntWalk.u8_in _ (by omega),c383 H ‹_› (fun a_33 c_33 _ H=>⟨⟨H.ld (b:=Y) rfl,trivial⟩,c359 H (by omega) (fun J a_35 c_35 _ _ H=>⟨⟨H.ld (b:=Y) rfl,trivial⟩,⟨rfl,[C1 53,sl a_33 c_33 [kind],C1 54,sl a_35 c_35 J],rfl,H.an fun b_36 _ H=>⟨⟨H.ld (b:=Y) rfl,trivial⟩,fy (dL (v:=sN) (u:= .slice (some ⟨b_36,0,none⟩) 2 2) rfl rfl rfl H (H.fa rfl) rfl (by omega) fun a_37 c_37 _ H=>⟨⟨H.ld (b:=Y) rfl,trivial⟩,H.aN (b:=Y) [.slice a_37 2 c_37] [C1 (2:Nat),C3 m.xid,C2 (0:Nat),.bool m.wide,C3 ci,C3 yi,C3 (0:Nat),C3 m.gi,C1 m.m0,C1 m.m1,C1 m.m2,C1 m.m3,C1 m.m4,C1 m.m5,.slice a_37 2 c_37] fun w_73 H=>?_⟩)⟩⟩⟩)⟩)⟩
 have H:SH w0 w_73 (Cl Y 381 [C1 (2:Nat),C3 m.xid,C2 (0:Nat),.bool m.wide,C3 ci,C3 yi,C3 (0:Nat),C3 m.gi,C1 m.m0,C1 m.m1,C1 m.m2,C1 m.m3,C1 m.m4,C1 m.m5,.slice a_37 2 c_37]::Row 496 2 (.slice a_37 2 c_37) 2 (cz [bE.mk 53 (sl a_33 c_33 [kind]) [kind],bE.mk 54 (sl a_35 c_35 J) J])::Cl b_36 496 (cz [bE.mk 53 (sl a_33 c_33 [kind]) [kind],bE.mk 54 (sl a_35 c_35 J) J])::By (sl a_35 c_35 J) J::By (sl a_33 c_33 [kind]) [kind]::Cl b_10 381 [C1 (0:Nat),C3 (0:Nat),C2 (0:Nat),.bool false,C3 (0:Nat),C3 (0:Nat),C3 (0:Nat),C3 (0:Nat),C1 (0:Nat),C1 (0:Nat),C1 (0:Nat),C1 (0:Nat),C1 (0:Nat),C1 (0:Nat),sN]::L):=H
 have H:SH w0 w_73 (By (sl a_35 c_35 J) J::bj []::By (sl a_33 c_33 [kind]) [kind]::Cl Y 381 [C1 (2:Nat),C3 m.xid,C2 (0:Nat),.bool m.wide,C3 ci,C3 yi,C3 (0:Nat),C3 m.gi,C1 m.m0,C1 m.m1,C1 m.m2,C1 m.m3,C1 m.m4,C1 m.m5,.slice a_37 2 c_37]::Row 496 2 (.slice a_37 2 c_37) 2 (cz [bE.mk 53 (sl a_33 c_33 [kind]) [kind],bE.mk 54 (sl a_35 c_35 J) J])::Cl b_10 381 [C1 (0:Nat),C3 (0:Nat),C2 (0:Nat),.bool false,C3 (0:Nat),C3 (0:Nat),C3 (0:Nat),C3 (0:Nat),C1 (0:Nat),C1 (0:Nat),C1 (0:Nat),C1 (0:Nat),C1 (0:Nat),C1 (0:Nat),sN]::L):=H.kF.ae
 have H:=H.jN.perm (.swap _ _ _)
 have H:SH w0 w_73 (bj (eB [bE.mk 53 (sl a_33 c_33 [kind]) [kind],bE.mk 54 (sl a_35 c_35 J) J])::Cl Y 381 [C1 (2:Nat),C3 m.xid,C2 (0:Nat),.bool m.wide,C3 ci,C3 yi,C3 (0:Nat),C3 m.gi,C1 m.m0,C1 m.m1,C1 m.m2,C1 m.m3,C1 m.m4,C1 m.m5,.slice a_37 2 c_37]::Row 496 2 (.slice a_37 2 c_37) 2 (cz [bE.mk 53 (sl a_33 c_33 [kind]) [kind],bE.mk 54 (sl a_35 c_35 J) J])::Cl b_10 381 [C1 (0:Nat),C3 (0:Nat),C2 (0:Nat),.bool false,C3 (0:Nat),C3 (0:Nat),C3 (0:Nat),C3 (0:Nat),C1 (0:Nat),C1 (0:Nat),C1 (0:Nat),C1 (0:Nat),C1 (0:Nat),C1 (0:Nat),sN]::L):=H.jN
 generalize hl0:[bE.mk 53 (sl a_33 c_33 [kind]) [kind],bE.mk 54 (sl a_35 c_35 J) J]=l0 at H
 refine av<|ac<|aM ?_
 refine bU ([13]++List.range' 41 16) rfl [10,11,39,40,41] (fun (x:Nat × Option Addr × Nat × List bE)=>[pt b_10,pt Y,.slice a l.length c,C5 l.length,C5 x.1]) (fun x w'=>(x.1≤l.length∧x.2.2.2.length=x.1+2∧ ∀ y∈x.2.2.2,lE y)∧SH w0 w' (Cl Y 381 [C1 (2:Nat),C3 m.xid,C2 (0:Nat),.bool m.wide,C3 ci,C3 yi,C3 (0:Nat),C3 m.gi,C1 m.m0,C1 m.m1,C1 m.m2,C1 m.m3,C1 m.m4,C1 m.m5,.slice x.2.1 x.2.2.2.length x.2.2.1]::Row 496 2 (.slice x.2.1 x.2.2.2.length x.2.2.1) x.2.2.2.length (cz x.2.2.2)::bj (eB x.2.2.2)::Cl b_10 381 [C1 (0:Nat),C3 (0:Nat),C2 (0:Nat),.bool false,C3 (0:Nat),C3 (0:Nat),C3 (0:Nat),C3 (0:Nat),C1 (0:Nat),C1 (0:Nat),C1 (0:Nat),C1 (0:Nat),C1 (0:Nat),C1 (0:Nat),sN]::L)) (fun x=>l.length - x.1) (0,a_37,c_37,l0) (by rw [←hl0];rfl) ⟨⟨Nat.zero_le _,by rw [←hl0];rfl,fun y hy=>?_⟩,by rw [show (0,a_37,c_37,l0).2.2.2.length=2 by rw [←hl0];rfl];exact H.ae⟩ ?_
 ·have hy:y∈[bE.mk 53 (sl a_33 c_33 [kind]) [kind],bE.mk 54 (sl a_35 c_35 J) J]:=by rw [hl0];exact hy
  rcases List.mem_cons.1 hy with rfl | hy
  ·exact ⟨by show 53<256;decide,by simp⟩
  ·rw [List.mem_singleton.1 hy];exact ⟨by show 54<256;decide,by show J.length≤1000;omega⟩
 rintro g ⟨i,a1,c1,cl⟩ w6 ⟨⟨hi,hcl,hop⟩,H⟩
 simp only at hi hcl hop H
 refine ac<|ap (fun h_9=>?_) (fun h_9=>?_)
 ·have hil:i<l.length:=by omega
  have hB:l[i]?=some l[i]:=List.getElem?_eq_getElem hil
  have hm:=List.mem_of_getElem? hB
  generalize l[i]=B at hB hm
  obtain ⟨xc,xv,xb⟩:=B
  haveI hbx:aD L xv xb:=hby _ hm
  have hbl:xc<256∧xb.length≤1000:=hl2 _ hm
  obtain ⟨aa,rfl⟩:=H.dW a
  obtain ⟨a_4,c_4,rfl,hc4,hB4,hl4⟩:=H.enter (v:=xv)
  refine av<|ai<|ak<|aG<|ac ⟨by omega,_,rfl,⟨_,SH.q9 H hB,H.an fun b_13 _ H=>H.aj (b:=b_13) fun _ H=>cv ?_⟩⟩
  have H:=H.drew
  refine H.C9 (b:=Y) rfl<|H.C9 (b:=b_13) rfl<|H.C9 (b:=b_13) rfl<|c34 (v:=sl a_4 c_4 xb) H (fun a_51 c_51 _ _ H=>⟨⟨H.ld (b:=b_13) rfl,⟨H.ld (b:=b_13) rfl,⟨H.ld (b:=Y) rfl,trivial⟩⟩⟩,⟨rfl,_,rfl,⟨rfl,_,rfl,H.an fun b_53 w_53 H=>?_⟩⟩⟩)
  have H:SH w0 w_53 (Cl b_53 496 [C1 xc,sl a_51 c_51 xb]::Nb 5 (sl a_51 c_51 xb) xb::Cl b_13 496 [C1 xc,sl a_4 c_4 xb]::Cl Y 381 [C1 (2:Nat),C3 m.xid,C2 (0:Nat),.bool m.wide,C3 ci,C3 yi,C3 (0:Nat),C3 m.gi,C1 m.m0,C1 m.m1,C1 m.m2,C1 m.m3,C1 m.m4,C1 m.m5,.slice a1 cl.length c1]::Row 496 2 (.slice a1 cl.length c1) cl.length (cz cl)::bj (eB cl)::Cl b_10 381 [C1 (0:Nat),C3 (0:Nat),C2 (0:Nat),.bool false,C3 (0:Nat),C3 (0:Nat),C3 (0:Nat),C3 (0:Nat),C1 (0:Nat),C1 (0:Nat),C1 (0:Nat),C1 (0:Nat),C1 (0:Nat),C1 (0:Nat),sN]::L):=H
  refine ⟨⟨H.ld (b:=b_13) rfl,⟨H.ld (b:=b_13) rfl,⟨H.ld (b:=Y) rfl,trivial⟩⟩⟩,fy (dL (v:= .slice a1 cl.length c1) (u:= .slice (some ⟨b_53,0,none⟩) 1 1) rfl rfl rfl H (H.fa rfl) rfl (by omega) fun a_54 c_54 _ H=>⟨⟨H.ld (b:=b_13) rfl,⟨H.ld (b:=b_13) rfl,⟨H.ld (b:=Y) rfl,trivial⟩⟩⟩,H.aN (b:=Y) [.slice a_54 (cl.length+1) c_54] [C1 (2:Nat),C3 m.xid,C2 (0:Nat),.bool m.wide,C3 ci,C3 yi,C3 (0:Nat),C3 m.gi,C1 m.m0,C1 m.m1,C1 m.m2,C1 m.m3,C1 m.m4,C1 m.m5,.slice a_54 (cl.length+1) c_54] fun w_130 H=>au (Db ?_)⟩)⟩
  have hX:(cl++[bE.mk xc (sl a_51 c_51 xb) xb]).length=cl.length+1:=by simp
  have h9:SH w0 w_130 (By (sl a_51 c_51 xb) xb::bj (eB cl)::Cl Y 381 [C1 (2:Nat),C3 m.xid,C2 (0:Nat),.bool m.wide,C3 ci,C3 yi,C3 (0:Nat),C3 m.gi,C1 m.m0,C1 m.m1,C1 m.m2,C1 m.m3,C1 m.m4,C1 m.m5,.slice a_54 (cl.length+1) c_54]::Row 496 2 (.slice a_54 (cl.length+1) c_54) (cl.length+1) (cz (cl++[bE.mk xc (sl a_51 c_51 xb) xb]))::Cl b_10 381 [C1 (0:Nat),C3 (0:Nat),C2 (0:Nat),.bool false,C3 (0:Nat),C3 (0:Nat),C3 (0:Nat),C3 (0:Nat),C1 (0:Nat),C1 (0:Nat),C1 (0:Nat),C1 (0:Nat),C1 (0:Nat),C1 (0:Nat),sN]::L):=by
   rw [vy]
   show SH w0 w_130 (By (sl a_51 c_51 xb) xb::bj (eB cl)::Cl Y 381 [C1 (2:Nat),C3 m.xid,C2 (0:Nat),.bool m.wide,C3 ci,C3 yi,C3 (0:Nat),C3 m.gi,C1 m.m0,C1 m.m1,C1 m.m2,C1 m.m3,C1 m.m4,C1 m.m5,.slice a_54 (cl.length+1) c_54]::Row 496 2 (.slice a_54 (cl.length+1) c_54) (cl.length+1) (cz cl++[C1 xc,sl a_51 c_51 xb])::Cl b_10 381 [C1 (0:Nat),C3 (0:Nat),C2 (0:Nat),.bool false,C3 (0:Nat),C3 (0:Nat),C3 (0:Nat),C3 (0:Nat),C1 (0:Nat),C1 (0:Nat),C1 (0:Nat),C1 (0:Nat),C1 (0:Nat),C1 (0:Nat),sN]::L)
   exact H.ae
  have h8:=(h9.jN).nh (Z':=eB (cl++[bE.mk xc (sl a_51 c_51 xb) xb])) (fun _ hq=>by
   simp only [eB,List.map_append,List.mem_append,List.map_cons,List.map_nil,List.mem_singleton] at hq
   rcases hq with hq | hq
   ·exact .tail _ hq
   ·rw [hq];exact .head _)
  refine ⟨(i+1,a_54,c_54,cl++[bE.mk xc (sl a_51 c_51 xb) xb]),rfl,⟨⟨by omega,by simp only [hX];omega,fun y hy=>?_⟩,by simp only [hX];exact h8.ae⟩,by show l.length - (i+1)<l.length - i;omega⟩
  rcases List.mem_append.1 hy with h | h
  ·exact hop y h
  ·rw [List.mem_singleton.1 h];exact hbl
 ·exact av<|ai<|aS<|ac<|H.Da (b:=Y) rfl<|H.aj (b:=b_10) fun _ H=>ah<|H.Da (b:=b_10) rfl<|k ⟨2,m.xid,0,m.wide,ci,yi,0,m.gi,m.m0,m.m1,m.m2,m.m3,m.m4,m.m5,a1,c1,cl⟩ _ ⟨⟨by show 2<256;decide,h2,by show 0<65536;decide,hci,hy.1,by show 0<4294967296;decide,h7⟩,hmm,⟨by show cl.length≤2000;omega,hop⟩⟩ (by show cl.length≤20;omega) (SH.oM (e:=496) (n:=cl.length) (l:=cl) H.ae)
end
end
section
structure jk where
 own:Nat
 mask:Nat
 first:Nat
 last:Nat
 time:Nat
 hold:Nat
 quiet:Nat
 bp:Nat
 b:iD
structure oO (s:jk):Prop where
 num:s.own<4294967296∧s.mask<4294967296∧s.first<4294967296∧s.last<4294967296∧s.time<4294967296∧s.hold<4294967296∧s.quiet<4294967296
abbrev nk (s:jk):List Value:=[C3 s.own,C3 s.mask,C3 s.first,C3 s.last,C3 s.time,C3 s.hold,C3 s.quiet,pt s.bp]
def Se (p:Nat) (s:jk):ao:=bi ([Cl p 202 (nk s),Bo s.bp s.b]++[Fact (oO s)])
structure oP where
 m:ji
 c:ByteArray
 wish:Nat
 server:Nat
 wished:Bool
 named:Bool
 own:Bool
 now:Nat
structure jQ (r:oP):Prop where
 msg:ff r.m
 num:r.c.size≤2000∧r.wish<4294967296∧r.server<4294967296∧r.now≤2305843009213693952
abbrev jR (r:oP):Value:= .agg #[C1 r.m.op,C3 r.m.xid,C2 r.m.secs,.bool r.m.wide,C3 r.m.ci,C3 r.m.yi,C3 r.m.si,C3 r.m.gi,C1 r.m.m0,C1 r.m.m1,C1 r.m.m2,C1 r.m.m3,C1 r.m.m4,C1 r.m.m5,.slice r.m.oa r.m.ol.length r.m.oc,.string r.c,C3 r.wish,C3 r.server,.bool r.wished,.bool r.named,.bool r.own,C4 r.now]
abbrev oQ:Value:= .agg #[C1 0,C3 0,C2 0,.bool false,C3 0,C3 0,C3 0,C3 0,C1 0,C1 0,C1 0,C1 0,C1 0,C1 0,sN]
section
variable {w0 w:World} {L R R2 R3:List ao} {K:Value→World→Prop} {p:Nat} {s:jk} {r:oP} {v:Value}
theorem SH.se (y:SH w0 w L) (p:Nat) {s:jk} [q:aC (Se p) L s R]:oO s∧SH w0 w (Cl p 202 (nk s)::Bo s.bp s.b::R):=(y.at (Se p)).kG
theorem SH.eC {p:Nat} {s:jk} (q:SH w0 w (Cl p 202 (nk s)::Bo s.bp s.b::R)) (h:oO s):SH w0 w (Se p s::R):=SH.kH q h
theorem _root_.Go.Den.SH.q' {bs:List Nat} {Z:List (Value × List Nat)} (y:SH w0 w L) [p:aC bj L Z R] [q:im (By v bs) R R2]:SH w0 w (bj ((v,bs)::Z)::R2):=
 (((y.perm p.perm).perm (q.perm.cons _)).perm (.swap _ _ _)).jN
theorem SH.ra {b:iD} (y:SH w0 w L) [q:aR L p 202 (nk s) R] [H:aC (Bo s.bp) R b R2] (h:oO s):SH w0 w (Se p { s with b:=b } ::R2):=
 SH.eC (s:= { s with b:=b }) ((y.perm q.perm).perm (H.perm.cons _)) ⟨h.1⟩
attribute [local irreducible] ay aQ aH aY a6 aW aK aV num be over nb rowOf bD
theorem c73 (y:SH w0 w L) [q:aC (Se p) L s R] (k: ∀ H,SH w0 H (Se p s::R)→K (pt s.bp) H):D 73 [pt p] w K:=by
 obtain ⟨J,y⟩:=SH.se y p
 exact s73 rfl<|ac<|ac<|y.C9 (b:=p) rfl<|ah<|k _ (SH.eC y.ae J)
theorem c260 (q:SH w0 w L) (k: ∀ H,SH w0 H L→K (.tuple #[oQ,.bool false]) H):D 260 [] w K:=by
 refine s260 rfl<|ac<|q.an fun y _ q=>ac ⟨by kernel_rfl,[C1 0,C3 0,C2 0,.bool false,C3 0,C3 0,C3 0,C3 0,C1 0,C1 0,C1 0,C1 0,C1 0,C1 0,sN],by kernel_rfl,q.aj (b:=y) fun _ q=>ah (q.Da (b:=y) rfl (k _ q.ae))⟩
theorem c316 {span:Nat} (J:jQ r) (hs:span<4294967296) (q:SH w0 w L) (k: ∀ (n:Nat) H,n≤2305843013508661248→SH w0 H L→K (C4 n) H):D 316 [jR r,C3 span] w K:=by
 obtain ⟨h1,h2,h3,h4⟩:=J.num
 refine s316 rfl<|ac<|q.az [C1 r.m.op,C3 r.m.xid,C2 r.m.secs,.bool r.m.wide,C3 r.m.ci,C3 r.m.yi,C3 r.m.si,C3 r.m.gi,C1 r.m.m0,C1 r.m.m1,C1 r.m.m2,C1 r.m.m3,C1 r.m.m4,C1 r.m.m5,.slice r.m.oa r.m.ol.length r.m.oc,Value.string r.c,C3 r.wish,C3 r.server,.bool r.wished,.bool r.named,.bool r.own,C4 r.now] fun y _ q=>ac<|q.C9 (b:=y) rfl<|Dc<|Dc<|ah<|k _ _ (by omega) q.ae
theorem c317 {kind ip:Nat} (hk:kind<256) (hi:ip<4294967296) (hr:jQ r) (H:SH w0 w L) [q:aC (Se p) L s R] [ho:dG R (.slice r.m.oa r.m.ol.length r.m.oc) r.m.ol]
  (k: ∀ m' w',ff m'→m'.ol.length≤20→SH w0 w' (Se p s::Os (.slice m'.oa m'.ol.length m'.oc) m'.ol::R)→K (.tuple #[fg m',.bool true]) w'):D 317 [pt p,jR r,C5 kind,C3 ip] w K:=by
 obtain ⟨hs,H⟩:=SH.se H p
 obtain ⟨n1,n2,n3,n4,n5,n6,n7⟩:=hs.num
 have hm:=hr.msg
 refine s317 rfl<|ac<|H.az [C1 r.m.op,C3 r.m.xid,C2 r.m.secs,.bool r.m.wide,C3 r.m.ci,C3 r.m.yi,C3 r.m.si,C3 r.m.gi,C1 r.m.m0,C1 r.m.m1,C1 r.m.m2,C1 r.m.m3,C1 r.m.m4,C1 r.m.m5,.slice r.m.oa r.m.ol.length r.m.oc,Value.string r.c,C3 r.wish,C3 r.server,.bool r.wished,.bool r.named,.bool r.own,C4 r.now] fun b_5 _ H=>H.an fun b_8 _ H=>aq<|ap (fun h_12=>?_) (fun h_12=>?_)
 ·refine aJ<|have H:=H.drew;⟨_,H.ar (b:=b_5) [C1 r.m.op,C3 r.m.xid,C2 r.m.secs,.bool r.m.wide,C3 r.m.ci,C3 r.m.yi,C3 r.m.si,C3 r.m.gi,C1 r.m.m0,C1 r.m.m1,C1 r.m.m2,C1 r.m.m3,C1 r.m.m4,C1 r.m.m5,.slice r.m.oa r.m.ol.length r.m.oc],H.C9 (b:=p) rfl ?_⟩
  have H:=SH.AJ H
  exact c358 (m:=r.m) (kind:=kind) (yi:=0) (server:=s.own) (v:=sN) (l:=[]) hk hm ⟨by decide,by omega⟩ ⟨by decide,fun x hx=>by simp at hx⟩ H (fun m' _ hb' hl' H=>⟨⟨H.ld (b:=p) rfl,⟨⟨_,H.ar (b:=b_5) _,rfl⟩,trivial⟩⟩,H.aj (b:=b_8) fun _ H=>⟨⟨H.ld (b:=p) rfl,⟨⟨_,H.ar (b:=b_5) _,rfl⟩,trivial⟩⟩,ah (H.Da (b:=b_8) rfl (k m' _ hb' hl' (SH.eC H.ae hs)))⟩⟩)
 ·refine ak<|ac ⟨_,H.ar (b:=p) [C3 s.own,C3 s.mask,C3 s.first,C3 s.last,C3 s.time,C3 s.hold,C3 s.quiet],H.an fun y _ H=>H.aj (b:=y) fun _ H=>aJ ?_⟩
  have H:=H.drew
  refine ⟨_,H.ar (b:=b_5) [C1 r.m.op,C3 r.m.xid,C2 r.m.secs,.bool r.m.wide,C3 r.m.ci,C3 r.m.yi,C3 r.m.si,C3 r.m.gi,C1 r.m.m0,C1 r.m.m1,C1 r.m.m2,C1 r.m.m3,C1 r.m.m4,C1 r.m.m5,.slice r.m.oa r.m.ol.length r.m.oc],H.C9 (b:=y) rfl (H.C9 (b:=y) rfl (H.C9 (b:=y) rfl (H.C9 (b:=y) rfl (c359 H ‹_› (fun J a_34 c_34 _ _ H=>⟨⟨H.ld (b:=y) rfl,⟨H.ld (b:=y) rfl,⟨H.ld (b:=y) rfl,⟨H.ld (b:=y) rfl,⟨⟨_,H.ar (b:=b_5) _,rfl⟩,trivial⟩⟩⟩⟩⟩,c359 H ‹_› (fun Y a_37 c_37 _ _ H=>⟨⟨H.ld (b:=y) rfl,⟨H.ld (b:=y) rfl,⟨H.ld (b:=y) rfl,⟨H.ld (b:=y) rfl,⟨⟨_,H.ar (b:=b_5) _,rfl⟩,trivial⟩⟩⟩⟩⟩,c359 H ‹_› (fun bs_40 a_40 c_40 _ _ H=>⟨⟨H.ld (b:=y) rfl,⟨H.ld (b:=y) rfl,⟨H.ld (b:=y) rfl,⟨H.ld (b:=y) rfl,⟨⟨_,H.ar (b:=b_5) _,rfl⟩,trivial⟩⟩⟩⟩⟩,⟨by kernel_rfl,[C1 1,sl a_34 c_34 J,C1 3,sl a_37 c_37 Y,C1 51,sl a_40 c_40 bs_40],by kernel_rfl,H.an fun b_41 w_41 H=>⟨⟨H.ld (b:=y) rfl,⟨H.ld (b:=y) rfl,⟨H.ld (b:=y) rfl,⟨H.ld (b:=y) rfl,⟨⟨_,H.ar (b:=b_5) _,rfl⟩,trivial⟩⟩⟩⟩⟩,?_⟩⟩⟩)⟩)⟩)))))⟩
  have H:SH w0 w_41 (Cl b_41 496 (cz [bE.mk 1 (sl a_34 c_34 J) J,bE.mk 3 (sl a_37 c_37 Y) Y,bE.mk 51 (sl a_40 c_40 bs_40) bs_40])::_):=H
  have H:=SH.kE (n:=3) H 2 rfl
  have H:=((H.kF.q' (v:=sl a_40 c_40 bs_40) (bs:=bs_40)).q' (v:=sl a_37 c_37 Y) (bs:=Y)).q' (v:=sl a_34 c_34 J) (bs:=J)
  have H:=H.rowOf (.slice (some ⟨b_41,0,none⟩) 3 3) 496 2
  have H:=SH.oM (l:=[bE.mk 1 (sl a_34 c_34 J) J,bE.mk 3 (sl a_37 c_37 Y) Y,bE.mk 51 (sl a_40 c_40 bs_40) bs_40]) H
  refine c358 (m:=r.m) (kind:=kind) (yi:=ip) (server:=s.own) (v:= .slice (some ⟨b_41,0,none⟩) 3 3) (l:=[bE.mk 1 (sl a_34 c_34 J) J,bE.mk 3 (sl a_37 c_37 Y) Y,bE.mk 51 (sl a_40 c_40 bs_40) bs_40]) hk hm ⟨hi,by omega⟩ ⟨by simp,fun x hx=>?_⟩ H (fun m' _ hb' hl' H=>?_)
  ·rcases List.mem_cons.1 hx with rfl | hx
   ·exact ⟨by show 1<256;decide,by show J.length≤1000;omega⟩
   rcases List.mem_cons.1 hx with rfl | hx
   ·exact ⟨by show 3<256;decide,by show Y.length≤1000;omega⟩
   rw [List.mem_singleton.1 hx]
   exact ⟨by show 51<256;decide,by show bs_40.length≤1000;omega⟩
  exact ⟨⟨H.ld (b:=y) rfl,⟨H.ld (b:=y) rfl,⟨H.ld (b:=y) rfl,⟨H.ld (b:=y) rfl,⟨⟨_,H.ar (b:=b_5) _,rfl⟩,trivial⟩⟩⟩⟩⟩,H.aj (b:=b_8) fun _ H=>⟨⟨H.ld (b:=y) rfl,⟨H.ld (b:=y) rfl,⟨H.ld (b:=y) rfl,⟨H.ld (b:=y) rfl,⟨⟨_,H.ar (b:=b_5) _,rfl⟩,trivial⟩⟩⟩⟩⟩,ah (H.Da (b:=b_8) rfl (k m' _ hb' hl' (SH.eC H.ae hs)))⟩⟩
theorem c318 (hr:jQ r) (y:SH w0 w L) [q:aC (Se p) L s R] [ho:dG R (.slice r.m.oa r.m.ol.length r.m.oc) r.m.ol] (k: ∀ (ip:Nat) b w',ip<4294967296→SH w0 w' (Se p s::R)→K (.tuple #[C3 ip,.bool b]) w'):D 318 [pt p,jR r] w K:=by
 obtain ⟨hs,y⟩:=SH.se y p
 obtain ⟨n1,n2,n3,n4,n5,n6,n7⟩:=hs.num
 obtain ⟨r1,r2,r3,r4⟩:=hr.num
 have hm:=hr.msg
 have hcs:r.c.size≤maxLen:=Nat.le_trans r1 (by decide)
 refine s318 rfl<|ac<|y.az [C1 r.m.op,C3 r.m.xid,C2 r.m.secs,.bool r.m.wide,C3 r.m.ci,C3 r.m.yi,C3 r.m.si,C3 r.m.gi,C1 r.m.m0,C1 r.m.m1,C1 r.m.m2,C1 r.m.m3,C1 r.m.m4,C1 r.m.m5,.slice r.m.oa r.m.ol.length r.m.oc,Value.string r.c,C3 r.wish,C3 r.server,.bool r.wished,.bool r.named,.bool r.own,C4 r.now] fun H _ y=>l3<|have y:=y.drew;y.C9 (b:=p) rfl<|y.C9 (b:=H) rfl<|y.C9 (b:=H) rfl ⟨?_,?_⟩
 ·refine c356 ‹_› y (fun Y f_17 u_17 w_17 h_174 h_175 y=>?_) (fun w_17 y=>?_)
  ·refine ⟨⟨y.ld (b:=H) rfl,⟨y.ld (b:=H) rfl,⟨y.ld (b:=p) rfl,trivial⟩⟩⟩,y.an fun J w_6 y=>⟨⟨y.ld (b:=H) rfl,⟨y.ld (b:=H) rfl,⟨y.ld (b:=p) rfl,trivial⟩⟩⟩,y.aj (b:=J) fun w_44 y=>⟨⟨y.ld (b:=H) rfl,⟨y.ld (b:=H) rfl,⟨y.ld (b:=p) rfl,trivial⟩⟩⟩,aJ ?_⟩⟩⟩
   have y:=y.drew
   refine y.C9 (b:=J) rfl<|y.C9 (b:=J) rfl<|ah ?_
   obtain ⟨n,rfl⟩: ∃ n:Nat,Y=n:=⟨Y.toNat,by omega⟩
   exact k n _ _ (by omega) (SH.eC y.ae hs)
  ·refine ⟨⟨y.ld (b:=H) rfl,⟨y.ld (b:=H) rfl,⟨y.ld (b:=p) rfl,trivial⟩⟩⟩,y.an fun J w_6 y=>⟨⟨y.ld (b:=H) rfl,⟨y.ld (b:=H) rfl,⟨y.ld (b:=p) rfl,trivial⟩⟩⟩,y.aj (b:=J) fun w_39 y=>⟨⟨y.ld (b:=H) rfl,⟨y.ld (b:=H) rfl,⟨y.ld (b:=p) rfl,trivial⟩⟩⟩,aJ ?_⟩⟩⟩
   have y:=y.drew
   exact y.C9 (b:=J) rfl<|ah<|k 0 false _ (by decide) (SH.eC y.ae hs)
 ·refine y.an fun J w_6 y=>⟨⟨y.ld (b:=H) rfl,⟨y.ld (b:=H) rfl,⟨y.ld (b:=p) rfl,trivial⟩⟩⟩,c356 ‹_› y (fun Y f_17 u_17 w_17 h_174 h_175 y=>?_) (fun w_17 y=>?_)⟩
  ·refine ⟨⟨y.ld (b:=H) rfl,⟨y.ld (b:=H) rfl,⟨y.ld (b:=p) rfl,trivial⟩⟩⟩,y.aj (b:=J) fun w_44 y=>⟨⟨y.ld (b:=H) rfl,⟨y.ld (b:=H) rfl,⟨y.ld (b:=p) rfl,trivial⟩⟩⟩,aJ ?_⟩⟩
   have y:=y.drew
   refine y.C9 (b:=J) rfl<|y.C9 (b:=J) rfl<|ah ?_
   obtain ⟨n,rfl⟩: ∃ n:Nat,Y=n:=⟨Y.toNat,by omega⟩
   exact k n _ _ (by omega) (SH.eC y.ae hs)
  ·refine ⟨⟨y.ld (b:=H) rfl,⟨y.ld (b:=H) rfl,⟨y.ld (b:=p) rfl,trivial⟩⟩⟩,y.aj (b:=J) fun w_39 y=>⟨⟨y.ld (b:=H) rfl,⟨y.ld (b:=H) rfl,⟨y.ld (b:=p) rfl,trivial⟩⟩⟩,aJ ?_⟩⟩
   have y:=y.drew
   exact y.C9 (b:=J) rfl<|ah<|k 0 false _ (by decide) (SH.eC y.ae hs)
theorem c320 {ip:Nat} (hi:ip<4294967296) (hr:jQ r) (y:SH w0 w L) [q:aC (Se p) L s R] [ho:dG R (.slice r.m.oa r.m.ol.length r.m.oc) r.m.ol] (k: ∀ s' m' w',ff m'→m'.ol.length≤20→SH w0 w' (Se p s'::Os (.slice m'.oa m'.ol.length m'.oc) m'.ol::R)→K (.tuple #[fg m',.bool true]) w'):D 320 [pt p,jR r,.int .u32 ip] w K:=by
 obtain ⟨hs,y⟩:=SH.se y p
 obtain ⟨n1,n2,n3,n4,n5,n6,n7⟩:=hs.num
 obtain ⟨r1,r2,r3,r4⟩:=hr.num
 have hm:=hr.msg
 have hcs:r.c.size≤maxLen:=Nat.le_trans r1 (by decide)
 refine s320 rfl<|ac<|y.az [.int .u8 r.m.op,.int .u32 r.m.xid,.int .u16 r.m.secs,.bool r.m.wide,.int .u32 r.m.ci,.int .u32 r.m.yi,.int .u32 r.m.si,.int .u32 r.m.gi,.int .u8 r.m.m0,.int .u8 r.m.m1,.int .u8 r.m.m2,.int .u8 r.m.m3,.int .u8 r.m.m4,.int .u8 r.m.m5,.slice r.m.oa r.m.ol.length r.m.oc,Value.string r.c,.int .u32 r.wish,.int .u32 r.server,.bool r.wished,.bool r.named,.bool r.own,.int .u64 r.now] fun H _ y=>y.an fun Y _ y=>fV<|have y:=y.drew;y.C9 (b:=p) rfl<|y.C9 (b:=H) rfl<|y.C9 (b:=H) rfl<|y.Da (b:=H) rfl<|y.C9 (b:=p) rfl<|c316 (by assumption) (by assumption) y (fun _ _ _ y=>⟨⟨y.ld (b:=p) rfl,⟨⟨_,y.af (b:=H) rfl,rfl⟩,⟨y.ld (b:=H) rfl,⟨y.ld (b:=H) rfl,⟨y.ld (b:=p) rfl,trivial⟩⟩⟩⟩⟩,c360 (by assumption) (by assumption) y (fun J _ _ y=>⟨⟨y.ld (b:=p) rfl,⟨⟨_,y.af (b:=H) rfl,rfl⟩,⟨y.ld (b:=H) rfl,⟨y.ld (b:=H) rfl,⟨y.ld (b:=p) rfl,trivial⟩⟩⟩⟩⟩,ap (fun h_25=>?_) (fun h_25=>?_)⟩)⟩)
 ·refine ac<|y.Da (b:=H) rfl ?_
  have y:=SH.ra (p:=p) (s:=s) y hs
  exact c317 (by decide) (by decide) (by assumption) y (fun m'_28 _ _ _ y=>y.aj (b:=Y) fun w_55 y=>ah (y.Da (b:=Y) rfl (k { s with b:=J } _ _ (by assumption) (by assumption) y.ae)))
 ·refine ak<|ac<|y.Da (b:=H) rfl ?_
  have y:=SH.ra (p:=p) (s:=s) y hs
  exact c317 (by decide) (by assumption) (by assumption) y (fun m'_34 _ _ _ y=>y.aj (b:=Y) fun w_55 y=>ah (y.Da (b:=Y) rfl (k { s with b:=J } _ _ (by assumption) (by assumption) y.ae)))
theorem c262 (hr:jQ r) (y:SH w0 w L) [q:aC (Se p) L s R] [ho:dG R (.slice r.m.oa r.m.ol.length r.m.oc) r.m.ol] (k: ∀ s' m' w',ff m'→m'.ol.length≤20→SH w0 w' (Se p s'::Os (.slice m'.oa m'.ol.length m'.oc) m'.ol::R)→K (.tuple #[fg m',.bool true]) w') (k2: ∀ s' w',SH w0 w' (Se p s'::R)→K (.tuple #[oQ,.bool false]) w'):D 262 [pt p,jR r] w K:=by
 obtain ⟨hs,y⟩:=SH.se y p
 obtain ⟨n1,n2,n3,n4,n5,n6,n7⟩:=hs.num
 obtain ⟨r1,r2,r3,r4⟩:=hr.num
 have hm:=hr.msg
 have hcs:r.c.size≤maxLen:=Nat.le_trans r1 (by decide)
 refine s262 rfl<|ac<|y.az [.int .u8 r.m.op,.int .u32 r.m.xid,.int .u16 r.m.secs,.bool r.m.wide,.int .u32 r.m.ci,.int .u32 r.m.yi,.int .u32 r.m.si,.int .u32 r.m.gi,.int .u8 r.m.m0,.int .u8 r.m.m1,.int .u8 r.m.m2,.int .u8 r.m.m3,.int .u8 r.m.m4,.int .u8 r.m.m5,.slice r.m.oa r.m.ol.length r.m.oc,Value.string r.c,.int .u32 r.wish,.int .u32 r.server,.bool r.wished,.bool r.named,.bool r.own,.int .u64 r.now] fun H _ y=>y.an fun Y _ y=>aJ<|have y:=y.drew;y.C9 (b:=p) rfl<|y.C9 (b:=H) rfl<|y.C9 (b:=H) rfl<|y.C9 (b:=H) rfl<|y.Da (b:=H) rfl<|y.C9 (b:=p) rfl<|c316 (by assumption) (by assumption) y (fun _ _ _ y=>⟨⟨y.ld (b:=p) rfl,⟨⟨_,y.af (b:=H) rfl,rfl⟩,⟨y.ld (b:=H) rfl,⟨y.ld (b:=H) rfl,⟨y.ld (b:=H) rfl,⟨y.ld (b:=p) rfl,trivial⟩⟩⟩⟩⟩⟩,c315 (by assumption) (by assumption) y (fun J _ _ _ _ y=>⟨⟨y.ld (b:=p) rfl,⟨⟨_,y.af (b:=H) rfl,rfl⟩,⟨y.ld (b:=H) rfl,⟨y.ld (b:=H) rfl,⟨y.ld (b:=H) rfl,⟨y.ld (b:=p) rfl,trivial⟩⟩⟩⟩⟩⟩,aq (ap (fun h_30=>?_) (fun h_30=>?_))⟩)⟩)
 ·exact ac<|c260 y (fun _ y=>y.aj (b:=Y) fun _ y=>ah (y.Da (b:=Y) rfl (k2 { s with b:=J } _ (SH.eC (s:= { s with b:=J }) y.ae ⟨hs.1⟩))))
 ·refine ak<|ac<|y.Da (b:=H) rfl ?_
  have y:=SH.ra (p:=p) (s:=s) y hs
  exact c317 (by decide) (by assumption) (by assumption) y (fun m'_37 _ _ _ y=>y.aj (b:=Y) fun _ y=>ah (y.Da (b:=Y) rfl (k { s with b:=J } _ _ (by assumption) (by assumption) y.ae)))
theorem c263 (hr:jQ r) (y:SH w0 w L) [q:aC (Se p) L s R] [ho:dG R (.slice r.m.oa r.m.ol.length r.m.oc) r.m.ol] (k: ∀ s' m' w',ff m'→m'.ol.length≤20→SH w0 w' (Se p s'::Os (.slice m'.oa m'.ol.length m'.oc) m'.ol::R)→K (.tuple #[fg m',.bool true]) w') (k2: ∀ s' w',SH w0 w' (Se p s'::R)→K (.tuple #[oQ,.bool false]) w'):D 263 [pt p,jR r] w K:=by
 have hs:=(SH.se y p).1
 obtain ⟨n1,n2,n3,n4,n5,n6,n7⟩:=hs.num
 obtain ⟨r1,r2,r3,r4⟩:=hr.num
 have hm:=hr.msg
 have hci:=hm.num.2.2.2.1
 have hcs:r.c.size≤maxLen:=Nat.le_trans r1 (by decide)
 have y:=y.at (Se p)
 refine s263 rfl<|ac<|y.az [C1 r.m.op,C3 r.m.xid,C2 r.m.secs,.bool r.m.wide,C3 r.m.ci,C3 r.m.yi,C3 r.m.si,C3 r.m.gi,C1 r.m.m0,C1 r.m.m1,C1 r.m.m2,C1 r.m.m3,C1 r.m.m4,C1 r.m.m5,.slice r.m.oa r.m.ol.length r.m.oc,Value.string r.c,C3 r.wish,C3 r.server,.bool r.wished,.bool r.named,.bool r.own,C4 r.now] fun H _ y=>y.an fun J _ y=>ac<|y.Da (b:=H) rfl<|c318 ‹_› y (fun _ _ _ _ y=>aG (ac (y.C9 (b:=H) rfl ?_)))
 generalize r.named=g_named
 cases g_named
 ·refine pa 6 rfl<|ai<|ac<|y.C9 (b:=H) rfl ?_
  generalize r.own=g_own
  cases g_own
  ·refine pa 6 rfl<|ai<|ac<|y.C9 (b:=H) rfl<|ai ?_
   generalize r.own=g_own
   cases g_own
   ·refine ac<|cG (fun h_57=>?_) (fun h_57=>?_)
    ·exact ai<|ac<|c260 y (fun w_58 y=>y.aj (b:=J) fun _ y=>ah (y.Da (b:=J) rfl (k2 s _ y.ae)))
    ·refine ai<|ac<|y.C9 (b:=H) rfl<|ai ?_
     generalize r.wished=g_wished
     cases g_wished
     ·exact ak<|ac<|y.Da (b:=H) rfl<|y.C9 (b:=H) rfl<|c320 ‹_› ‹_› y (fun Y m'_76 w_76 h_763 h_764 y=>y.aj (b:=J) fun w_53 y=>ah (y.Da (b:=J) rfl (k Y m'_76 _ ‹_› ‹_› y.ae)))
     ·exact ac<|y.Da (b:=H) rfl<|y.C9 (b:=H) rfl<|c320 ‹_› ‹_› y (fun s'_68 m'_68 w_68 h_683 h_684 y=>y.aj (b:=J) fun w_53 y=>ah (y.Da (b:=J) rfl (k s'_68 m'_68 _ ‹_› ‹_› y.ae)))
   ·exact ac<|y.Da (b:=H) rfl<|y.C9 (b:=H) rfl<|c320 ‹_› ‹_› y (fun s'_52 m'_52 w_52 h_523 h_524 y=>y.aj (b:=J) fun w_51 y=>ah (y.Da (b:=J) rfl (k s'_52 m'_52 _ ‹_› ‹_› y.ae)))
  ·refine y.C9 (b:=H) rfl<|cG (fun h_38=>?_) (fun h_38=>?_)
   ·exact pa 2 rfl<|ai<|ac<|y.Da (b:=H) rfl<|c317 (by decide) (by decide) ‹_› y (fun m'_42 w_42 h_422 h_423 y=>y.aj (b:=J) fun w_51 y=>ah (y.Da (b:=J) rfl (k s m'_42 _ ‹_› ‹_› y.ae)))
   ·refine pa 2 rfl<|ai<|ac<|y.C9 (b:=H) rfl<|ai ?_
    generalize r.own=g_own
    cases g_own
    ·refine ac<|cG (fun h_57=>?_) (fun h_57=>?_)
     ·exact ai<|ac<|c260 y (fun w_58 y=>y.aj (b:=J) fun w_49 y=>ah (y.Da (b:=J) rfl (k2 s _ y.ae)))
     ·refine ai<|ac<|y.C9 (b:=H) rfl<|ai ?_
      generalize r.wished=g_wished
      cases g_wished
      ·exact ak<|ac<|y.Da (b:=H) rfl<|y.C9 (b:=H) rfl<|c320 ‹_› ‹_› y (fun Y m'_76 w_76 h_763 h_764 y=>y.aj (b:=J) fun w_54 y=>ah (y.Da (b:=J) rfl (k Y m'_76 _ ‹_› ‹_› y.ae)))
      ·exact ac<|y.Da (b:=H) rfl<|y.C9 (b:=H) rfl<|c320 ‹_› ‹_› y (fun s'_68 m'_68 w_68 h_683 h_684 y=>y.aj (b:=J) fun w_54 y=>ah (y.Da (b:=J) rfl (k s'_68 m'_68 _ ‹_› ‹_› y.ae)))
    ·exact ac<|y.Da (b:=H) rfl<|y.C9 (b:=H) rfl<|c320 ‹_› ‹_› y (fun s'_52 m'_52 w_52 h_523 h_524 y=>y.aj (b:=J) fun w_52 y=>ah (y.Da (b:=J) rfl (k s'_52 m'_52 _ ‹_› ‹_› y.ae)))
 ·refine y.C9 (b:=H) rfl<|cG (fun h_20=>?_) (fun h_20=>?_)
  ·refine pa 2 rfl<|ai<|aJ<|have y:=y.drew;?_
   obtain ⟨_,y⟩:=SH.se y p
   exact y.C9 (b:=p) rfl<|y.C9 (b:=H) rfl<|c319 ‹_› y (fun s'_28 _ _ y=>ac (c260 y (fun _ y=>y.aj (b:=J) fun w_54 y=>ah (y.Da (b:=J) rfl (k2 { s with b:=s'_28 } _ (SH.eC (s:= { s with b:=s'_28 }) y.ae ⟨hs.1⟩))))))
  ·refine pa 2 rfl<|ai<|ac<|y.C9 (b:=H) rfl ?_
   generalize r.own=g_own
   cases g_own
   ·refine pa 6 rfl<|ai<|ac<|y.C9 (b:=H) rfl<|ai ?_
    generalize r.own=g_own
    cases g_own
    ·refine ac<|cG (fun h_57=>?_) (fun h_57=>?_)
     ·exact ai<|ac<|c260 y (fun w_58 y=>y.aj (b:=J) fun w_49 y=>ah (y.Da (b:=J) rfl (k2 s _ y.ae)))
     ·refine ai<|ac<|y.C9 (b:=H) rfl<|ai ?_
      generalize r.wished=g_wished
      cases g_wished
      ·exact ak<|ac<|y.Da (b:=H) rfl<|y.C9 (b:=H) rfl<|c320 ‹_› ‹_› y (fun Y m'_76 w_76 h_763 h_764 y=>y.aj (b:=J) fun w_54 y=>ah (y.Da (b:=J) rfl (k Y m'_76 _ ‹_› ‹_› y.ae)))
      ·exact ac<|y.Da (b:=H) rfl<|y.C9 (b:=H) rfl<|c320 ‹_› ‹_› y (fun s'_68 m'_68 w_68 h_683 h_684 y=>y.aj (b:=J) fun w_54 y=>ah (y.Da (b:=J) rfl (k s'_68 m'_68 _ ‹_› ‹_› y.ae)))
    ·exact ac<|y.Da (b:=H) rfl<|y.C9 (b:=H) rfl<|c320 ‹_› ‹_› y (fun s'_52 m'_52 w_52 h_523 h_524 y=>y.aj (b:=J) fun w_52 y=>ah (y.Da (b:=J) rfl (k s'_52 m'_52 _ ‹_› ‹_› y.ae)))
   ·refine y.C9 (b:=H) rfl<|cG (fun h_38=>?_) (fun h_38=>?_)
    ·exact pa 2 rfl<|ai<|ac<|y.Da (b:=H) rfl<|c317 (by decide) (by decide) ‹_› y (fun m'_42 w_42 h_422 h_423 y=>y.aj (b:=J) fun w_52 y=>ah (y.Da (b:=J) rfl (k s m'_42 _ ‹_› ‹_› y.ae)))
    ·refine pa 2 rfl<|ai<|ac<|y.C9 (b:=H) rfl<|ai ?_
     generalize r.own=g_own
     cases g_own
     ·refine ac<|cG (fun h_57=>?_) (fun h_57=>?_)
      ·exact ai<|ac<|c260 y (fun w_58 y=>y.aj (b:=J) fun _ y=>ah (y.Da (b:=J) rfl (k2 s _ y.ae)))
      ·refine ai<|ac<|y.C9 (b:=H) rfl<|ai ?_
       generalize r.wished=g_wished
       cases g_wished
       ·exact ak<|ac<|y.Da (b:=H) rfl<|y.C9 (b:=H) rfl<|c320 ‹_› ‹_› y (fun Y m'_76 w_76 h_763 h_764 y=>y.aj (b:=J) fun w_55 y=>ah (y.Da (b:=J) rfl (k Y m'_76 _ ‹_› ‹_› y.ae)))
       ·exact ac<|y.Da (b:=H) rfl<|y.C9 (b:=H) rfl<|c320 ‹_› ‹_› y (fun s'_68 m'_68 w_68 h_683 h_684 y=>y.aj (b:=J) fun w_55 y=>ah (y.Da (b:=J) rfl (k s'_68 m'_68 _ ‹_› ‹_› y.ae)))
     ·exact ac<|y.Da (b:=H) rfl<|y.C9 (b:=H) rfl<|c320 ‹_› ‹_› y (fun s'_52 m'_52 w_52 h_523 h_524 y=>y.aj (b:=J) fun w_53 y=>ah (y.Da (b:=J) rfl (k s'_52 m'_52 _ ‹_› ‹_› y.ae)))
theorem c264 (hr:jQ r) (y:SH w0 w L) [q:aC (Se p) L s R] [ho:dG R (.slice r.m.oa r.m.ol.length r.m.oc) r.m.ol] (k: ∀ s' w',SH w0 w' (Se p s'::R)→K (.tuple #[]) w'):D 264 [pt p,jR r] w K:=by
 have hs:=(SH.se y p).1
 obtain ⟨n1,n2,n3,n4,n5,n6,n7⟩:=hs.num
 obtain ⟨r1,r2,r3,r4⟩:=hr.num
 have hm:=hr.msg
 have hci:=hm.num.2.2.2.1
 have hcs:r.c.size≤maxLen:=Nat.le_trans r1 (by decide)
 have y:=y.at (Se p)
 refine s264 rfl<|ac<|y.az [.int .u8 r.m.op,.int .u32 r.m.xid,.int .u16 r.m.secs,.bool r.m.wide,.int .u32 r.m.ci,.int .u32 r.m.yi,.int .u32 r.m.si,.int .u32 r.m.gi,.int .u8 r.m.m0,.int .u8 r.m.m1,.int .u8 r.m.m2,.int .u8 r.m.m3,.int .u8 r.m.m4,.int .u8 r.m.m5,.slice r.m.oa r.m.ol.length r.m.oc,Value.string r.c,.int .u32 r.wish,.int .u32 r.server,.bool r.wished,.bool r.named,.bool r.own,.int .u64 r.now] fun H _ y=>ac ⟨_,y.af (b:=H) rfl,c318 (by assumption) y (fun _ b_9 _ _ y=>aM (ac ?_))⟩
 refine ⟨_,y.ld (b:=H) rfl,cG (fun h_15=>?_) (fun h_15=>?_)⟩
 ·exact ai<|ah<|k s _ y.ae
 ·refine ai<|ac ⟨_,y.ar (b:=H) [.int .u8 r.m.op,.int .u32 r.m.xid,.int .u16 r.m.secs,.bool r.m.wide,.int .u32 r.m.ci,.int .u32 r.m.yi,.int .u32 r.m.si,.int .u32 r.m.gi,.int .u8 r.m.m0,.int .u8 r.m.m1,.int .u8 r.m.m2,.int .u8 r.m.m3,.int .u8 r.m.m4,.int .u8 r.m.m5,.slice r.m.oa r.m.ol.length r.m.oc],c261 (by assumption) y (fun _ _ y=>ap (fun h_20=>?_) (fun h_20=>?_))⟩
  ·refine ⟨_,y.ld (b:=H) rfl,pa 2 rfl (ai ?_)⟩
   generalize r.wished=g_wished
   cases g_wished
   ·refine ac ⟨_,y.ar (b:=H) [.int .u8 r.m.op,.int .u32 r.m.xid,.int .u16 r.m.secs,.bool r.m.wide,.int .u32 r.m.ci,.int .u32 r.m.yi,.int .u32 r.m.si,.int .u32 r.m.gi,.int .u8 r.m.m0,.int .u8 r.m.m1,.int .u8 r.m.m2,.int .u8 r.m.m3,.int .u8 r.m.m4,.int .u8 r.m.m5,.slice r.m.oa r.m.ol.length r.m.oc],c261 (by assumption) y (fun z_46 w_46 y=>ap (fun Y=>?_) (fun Y=>?_))⟩
    ·refine pa 4 rfl ?_
     cases b_9
     ·exact pa 7 rfl<|ai<|ak<|k s _ y.ae
     ·refine ⟨_,y.ld (b:=H) rfl,ap (fun h_56=>?_) (fun h_56=>?_)⟩
      ·refine pa 2 rfl<|ai<|cv<|have y:=y.drew;?_
       obtain ⟨_,y⟩:=SH.se y p
       exact ⟨_,y.ld (b:=p) rfl,⟨_,y.ld (b:=H) rfl,c319 (by assumption) y (fun J b_64 w_64 y=>k { s with b:=J } _ (SH.eC (s:= { s with b:=J }) y.ae ⟨hs.1⟩))⟩⟩
      ·exact pa 2 rfl<|ai<|ak<|k s _ y.ae
    ·exact pa 11 rfl<|ai<|ak<|k s _ y.ae
   ·refine cv<|have y:=y.drew;?_
    obtain ⟨_,y⟩:=SH.se y p
    refine ⟨_,y.ld (b:=p) rfl,⟨_,y.ld (b:=H) rfl,⟨_,y.ld (b:=H) rfl,⟨_,y.ld (b:=H) rfl,⟨_,y.af (b:=H) rfl,⟨_,y.ld (b:=p) rfl,c316 (by assumption) (by assumption) y (fun _ _ _ y=>⟨⟨y.ld (b:=p) rfl,⟨⟨_,y.af (b:=H) rfl,rfl⟩,⟨y.ld (b:=H) rfl,⟨y.ld (b:=H) rfl,⟨y.ld (b:=H) rfl,⟨y.ld (b:=p) rfl,trivial⟩⟩⟩⟩⟩⟩,?_⟩)⟩⟩⟩⟩⟩⟩
    exact c321 (by assumption) (by assumption) y (fun s'_42 _ _ y=>k { s with b:=s'_42 } _ (SH.eC (s:= { s with b:=s'_42 }) y.ae ⟨hs.1⟩))
  ·refine pa 5 rfl<|ai<|ac ⟨_,y.ar (b:=H) [.int .u8 r.m.op,.int .u32 r.m.xid,.int .u16 r.m.secs,.bool r.m.wide,.int .u32 r.m.ci,.int .u32 r.m.yi,.int .u32 r.m.si,.int .u32 r.m.gi,.int .u8 r.m.m0,.int .u8 r.m.m1,.int .u8 r.m.m2,.int .u8 r.m.m3,.int .u8 r.m.m4,.int .u8 r.m.m5,.slice r.m.oa r.m.ol.length r.m.oc],c261 (by assumption) y (fun z_46 w_46 y=>ap (fun Y=>?_) (fun Y=>?_))⟩
   ·refine pa 4 rfl ?_
    cases b_9
    ·exact pa 7 rfl<|ai<|ak<|k s _ y.ae
    ·refine ⟨_,y.ld (b:=H) rfl,ap (fun h_56=>?_) (fun h_56=>?_)⟩
     ·refine pa 2 rfl<|ai<|cv<|have y:=y.drew;?_
      obtain ⟨_,y⟩:=SH.se y p
      exact ⟨_,y.ld (b:=p) rfl,⟨_,y.ld (b:=H) rfl,c319 (by assumption) y (fun J b_64 w_64 y=>k { s with b:=J } _ (SH.eC (s:= { s with b:=J }) y.ae ⟨hs.1⟩))⟩⟩
     ·exact pa 2 rfl<|ai<|ak<|k s _ y.ae
   ·exact pa 11 rfl<|ai<|ak<|k s _ y.ae
end
end
section
theorem jS {P:Program} {t:cF} {Q:dm} {f:Fr} {w:World} (h:dJ P (Q .normal) t (fun _=>True) f w.drew):ay P (.opsT t) Q f w:=h
section
variable {w0 w:World} {L R R2 R3:List ao} {K:Value→World→Prop} {p:Nat} {s:jk} {r:oP} {m:ji} {v:Value}
attribute [local irreducible] ay aQ aH aY a6 aW aK aV num be over nb rowOf bD
theorem c259 {now:Nat} (hm:ff m) (y:SH w0 w L) [q:aC (Se p) L s R] [ho:dG R (.slice m.oa m.ol.length m.oc) m.ol]
  (k: ∀ (c:ByteArray) (wish server:Nat) (b1 b2 b3:Bool) (n:Nat) w',jQ ⟨m,c,wish,server,b1,b2,b3,n⟩→SH w0 w' (Se p s::R)→K (jR ⟨m,c,wish,server,b1,b2,b3,n⟩) w'):D 259 [pt p,fg m,.int .u64 now] w K:=by
 obtain ⟨hs,y⟩:=SH.se y p
 have hop:=hm.opts
 refine s259 rfl<|ac<|y.az [.int .u8 m.op,.int .u32 m.xid,.int .u16 m.secs,.bool m.wide,.int .u32 m.ci,.int .u32 m.yi,.int .u32 m.si,.int .u32 m.gi,.int .u8 m.m0,.int .u8 m.m1,.int .u8 m.m2,.int .u8 m.m3,.int .u8 m.m4,.int .u8 m.m5,.slice m.oa m.ol.length m.oc] fun J _ y=>y.an fun Y _ y=>?_
 refine bt (7::List.range' 8 6) rfl [0,4,6,7] (fun (x:ByteArray × Nat × Nat)=>[pt p,pt J,pt Y,pt x.2.2]) (fun x w'=>(x.1.size≤2000∧x.2.1≤2305843009213693952)∧SH w0 w' (Cl x.2.2 450 [.int .u8 m.op,.int .u32 m.xid,.int .u16 m.secs,.bool m.wide,.int .u32 m.ci,.int .u32 m.yi,.int .u32 m.si,.int .u32 m.gi,.int .u8 m.m0,.int .u8 m.m1,.int .u8 m.m2,.int .u8 m.m3,.int .u8 m.m4,.int .u8 m.m5,.slice m.oa m.ol.length m.oc,.string x.1,.int .u32 (0:Nat),.int .u32 (0:Nat),.bool false,.bool false,.bool false,.int .u64 x.2.1]::Cl J 381 [.int .u8 m.op,.int .u32 m.xid,.int .u16 m.secs,.bool m.wide,.int .u32 m.ci,.int .u32 m.yi,.int .u32 m.si,.int .u32 m.gi,.int .u8 m.m0,.int .u8 m.m1,.int .u8 m.m2,.int .u8 m.m3,.int .u8 m.m4,.int .u8 m.m5,.slice m.oa m.ol.length m.oc]::Cl Y 450 [.int .u8 (0:Nat),.int .u32 (0:Nat),.int .u16 (0:Nat),.bool false,.int .u32 (0:Nat),.int .u32 (0:Nat),.int .u32 (0:Nat),.int .u32 (0:Nat),.int .u8 (0:Nat),.int .u8 (0:Nat),.int .u8 (0:Nat),.int .u8 (0:Nat),.int .u8 (0:Nat),.int .u8 (0:Nat),.slice none 0 0,.string (ByteArray.mk #[]),.int .u32 (0:Nat),.int .u32 (0:Nat),.bool false,.bool false,.bool false,.int .u64 (0:Nat)]::Cl p 202 (nk s)::Bo s.bp s.b::R)) ?_ ?_
 ·refine jS<|have y:=y.drew;y.Da (b:=J) rfl<|y.Da (b:=J) rfl ⟨_,cq,?_⟩
  generalize hmn:min now 2305843009213693952=mn
  have hmn2:mn≤2305843009213693952:=by omega
  refine ⟨?_,?_⟩
  ·exact c313 (by assumption) y (fun c_10 w_10 h_102 y=>⟨⟨by rw [←hmn];exact cq,⟨⟨_,y.af (b:=J) rfl,rfl⟩,⟨⟨_,y.af (b:=J) rfl,rfl⟩,trivial⟩⟩⟩,⟨by kernel_rfl,[.int .u8 m.op,.int .u32 m.xid,.int .u16 m.secs,.bool m.wide,.int .u32 m.ci,.int .u32 m.yi,.int .u32 m.si,.int .u32 m.gi,.int .u8 m.m0,.int .u8 m.m1,.int .u8 m.m2,.int .u8 m.m3,.int .u8 m.m4,.int .u8 m.m5,.slice m.oa m.ol.length m.oc,Value.string c_10,.int .u32 0,.int .u32 0,.bool false,.bool false,.bool false,.int .u64 mn],by kernel_rfl,y.an fun H w_7 y=>⟨⟨by rw [←hmn];exact cq,⟨⟨_,y.af (b:=J) rfl,rfl⟩,⟨⟨_,y.af (b:=J) rfl,rfl⟩,trivial⟩⟩⟩,y.aj (b:=H) fun w_36 y=>⟨(c_10,mn,H),rfl,⟨by assumption,hmn2⟩,y.ae⟩⟩⟩⟩)
  ·exact y.an fun H w_7 y=>⟨⟨by rw [←hmn];exact cq,⟨⟨_,y.af (b:=J) rfl,rfl⟩,⟨⟨_,y.af (b:=J) rfl,rfl⟩,trivial⟩⟩⟩,c313 (by assumption) y (fun c_10 w_10 h_102 y=>⟨⟨by rw [←hmn];exact cq,⟨⟨_,y.af (b:=J) rfl,rfl⟩,⟨⟨_,y.af (b:=J) rfl,rfl⟩,trivial⟩⟩⟩,⟨by kernel_rfl,[.int .u8 m.op,.int .u32 m.xid,.int .u16 m.secs,.bool m.wide,.int .u32 m.ci,.int .u32 m.yi,.int .u32 m.si,.int .u32 m.gi,.int .u8 m.m0,.int .u8 m.m1,.int .u8 m.m2,.int .u8 m.m3,.int .u8 m.m4,.int .u8 m.m5,.slice m.oa m.ol.length m.oc,Value.string c_10,.int .u32 0,.int .u32 0,.bool false,.bool false,.bool false,.int .u64 mn],by kernel_rfl,y.aj (b:=H) fun w_36 y=>⟨(c_10,mn,H),rfl,⟨by assumption,hmn2⟩,y.ae⟩⟩⟩)⟩
 rintro g ⟨c,n,H⟩ w6 ⟨⟨hc,hn⟩,y⟩
 simp only at hc hn y
 refine ac<|y.C9 (b:=J) rfl<|c314 (v:= .slice m.oa m.ol.length m.oc) y (by assumption) (by decide) (fun n_17 b_17 _ _ y=>y.cp (b:=H) [.int .u32 n_17] fun _ y=>y.cp (b:=H) [.bool b_17] fun _ y=>ac (y.C9 (b:=J) rfl (c314 (v:= .slice m.oa m.ol.length m.oc) y (by assumption) (by decide) (fun n_25 b_25 _ _ y=>y.cp (b:=H) [.int .u32 n_25] fun _ y=>y.cp (b:=H) [.bool b_25] fun _ y=>aJ ?_))))
 have y:=y.drew
 refine y.C9 (b:=H) rfl ?_
 cases b_25
 ·exact y.cp (b:=H) [.bool false] fun _ y=>ac<|y.Da (b:=H) rfl<|y.aj (b:=Y) fun _ y=>ah<|y.Da (b:=Y) rfl<|k c n_17 n_25 b_17 false false n _ ⟨hm,hc,by assumption,by assumption,hn⟩ (SH.eC y.ae hs)
 ·refine y.C9 (b:=H) rfl<|y.C9 (b:=p) rfl<|ap (fun h_40=>?_) (fun h_40=>?_)
  ·exact y.cp (b:=H) [.bool true] fun w_58 y=>ac<|y.Da (b:=H) rfl<|y.aj (b:=Y) fun w_60 y=>ah<|y.Da (b:=Y) rfl<|k c n_17 n_25 b_17 true true n _ ⟨hm,hc,by assumption,by assumption,hn⟩ (SH.eC y.ae hs)
  ·exact y.cp (b:=H) [.bool false] fun w_58 y=>ac<|y.Da (b:=H) rfl<|y.aj (b:=Y) fun w_60 y=>ah<|y.Da (b:=Y) rfl<|k c n_17 n_25 b_17 true false n _ ⟨hm,hc,by assumption,by assumption,hn⟩ (SH.eC y.ae hs)
theorem c208 {now:Nat} (hm:ff m) (y:SH w0 w L) [q:aC (Se p) L s R] [ho:dG R (.slice m.oa m.ol.length m.oc) m.ol]
  (k: ∀ s' m' w',ff m'→m'.ol.length≤20→SH w0 w' (Se p s'::Os (.slice m'.oa m'.ol.length m'.oc) m'.ol::R)→K (.tuple #[fg m',.bool true]) w') (k2: ∀ s' w',SH w0 w' (Se p s'::R)→K (.tuple #[oQ,.bool false]) w'):D 208 [pt p,fg m,C4 now] w K:=by
 have y:=y.at (Se p)
 refine s208 rfl<|ac<|y.az [C1 m.op,C3 m.xid,C2 m.secs,.bool m.wide,C3 m.ci,C3 m.yi,C3 m.si,C3 m.gi,C1 m.m0,C1 m.m1,C1 m.m2,C1 m.m3,C1 m.m4,C1 m.m5,.slice m.oa m.ol.length m.oc] fun b_4 _ y=>y.an fun H _ y=>ac<|y.Da (b:=b_4) rfl<|c259 ‹_› y (fun _ _ _ _ _ _ _ _ _ y=>y.an fun b_8 _ y=>?_)
 refine y.aj (b:=b_8) fun _ y=>aq<|y.C9 (b:=b_4) rfl<|ap (fun h_15=>?_) (fun h_15=>?_)
 ·exact pa 11 rfl<|ac<|c260 y (fun w_27 y=>y.aj (b:=H) fun _ y=>ah (y.Da (b:=H) rfl (k2 s _ y.ae)))
 ·refine y.C9 (b:=b_4) rfl<|ap (fun h_19=>?_) (fun h_19=>?_)
  ·exact pa 7 rfl<|ac<|c260 y (fun w_27 y=>y.aj (b:=H) fun _ y=>ah (y.Da (b:=H) rfl (k2 s _ y.ae)))
  ·refine pa 2 rfl<|y.C9 (b:=b_8) rfl<|ap (fun h_25=>?_) (fun h_25=>?_)
   ·exact ac<|c260 y (fun w_27 y=>y.aj (b:=H) fun _ y=>ah (y.Da (b:=H) rfl (k2 s _ y.ae)))
   ·refine ak<|av<|ac<|y.Da (b:=b_4) rfl<|c261 ‹_› y (fun _ _ y=>aM (aG (aM ?_)))
    refine aG<|aG<|av<|aq<|ap (fun h_33=>?_) (fun h_33=>?_)
    ·refine aS<|av<|ac<|y.Da (b:=b_8) rfl<|c262 ‹_› y (fun J m'_42 w_42 _ _ y=>?_) (fun J w_42 y=>?_)
     ·exact y.aj (b:=H) fun _ y=>ah<|y.Da (b:=H) rfl<|k J m'_42 _ ‹_› ‹_› y.ae
     ·exact y.aj (b:=H) fun _ y=>ah<|y.Da (b:=H) rfl<|k2 J _ y.ae
    ·refine ak<|aq<|ap (fun h_35=>?_) (fun h_35=>?_)
     ·refine aS<|av<|ac<|y.Da (b:=b_8) rfl<|c263 ‹_› y (fun Y m'_47 w_47 _ _ y=>?_) (fun Y w_47 y=>?_)
      ·exact y.aj (b:=H) fun w_55 y=>ah<|y.Da (b:=H) rfl<|k Y m'_47 _ ‹_› ‹_› y.ae
      ·exact y.aj (b:=H) fun w_52 y=>ah<|y.Da (b:=H) rfl<|k2 Y _ y.ae
     ·refine ak<|aq<|ap (fun h_37=>?_) (fun h_37=>?_)
      ·refine aS<|ac<|y.Da (b:=b_8) rfl<|c264 ‹_› y (fun s'_52 w_52 y=>aS (ac (c260 y (fun w_53 y=>y.aj (b:=H) fun w_55 y=>?_))))
       exact ah<|y.Da (b:=H) rfl<|k2 s'_52 _ y.ae
      ·refine ak<|ac<|ap (fun h_39=>?_) (fun h_39=>?_)
       ·refine ai<|aS<|ac<|y.Da (b:=b_8) rfl<|c264 ‹_› y (fun s'_52 w_52 y=>aS (ac (c260 y (fun w_53 y=>?_))))
        exact y.aj (b:=H) fun _ y=>ah<|y.Da (b:=H) rfl<|k2 s'_52 _ y.ae
       ·refine ai<|ak<|aS<|ac<|c260 y (fun w_53 y=>y.aj (b:=H) fun w_53 y=>ah (y.Da (b:=H) rfl ?_))
        exact k2 s _ y.ae
def jl (own first last time hold quiet:Nat):Prop:=(first≤last∧last - first<256)∧(1≤time∧1≤hold∧1≤quiet∧time≤2147483648∧hold≤2147483648∧quiet≤2147483648)∧fN own
theorem c55 {own mask first last time hold quiet:Nat} (hn:own<4294967296∧mask<4294967296∧first<4294967296∧last<4294967296∧time<4294967296∧hold<4294967296∧quiet<4294967296) (y:SH w0 w L)
  (k1:jl own first last time hold quiet→ ∀ w',SH w0 w' L→K (.bool true) w') (k2: ¬jl own first last time hold quiet→ ∀ w',SH w0 w' L→K (.bool false) w'):D 55 [.agg #[.int .u32 own,.int .u32 mask,.int .u32 first,.int .u32 last,.int .u32 time,.int .u32 hold,.int .u32 quiet]] w K:=by
 obtain ⟨n1,n2,n3,n4,n5,n6,n7⟩:=hn
 refine s55 rfl<|ac<|y.az [.int .u32 own,.int .u32 mask,.int .u32 first,.int .u32 last,.int .u32 time,.int .u32 hold,.int .u32 quiet] fun q _ y=>?_
 refine ac ⟨_,y.ld (b:=q) rfl,⟨_,y.ld (b:=q) rfl,?_⟩⟩
 have y:=y.rowOf (.slice none 0 0) 22 1
 refine c92 (zs:=[]) (a:=none) ⟨n3,n4⟩ (fun _ hz=>by simp at hz) (by decide) y (fun H _ _ w_11 _ y=>?_) (fun H w_11 y=>?_)
 ·refine ac<|ag [1,2,4,22,33,37] [pt q,.bool false,.int .i64 0,undef,undef,undef] rfl fun g=>⟨_,y.ld (b:=q) rfl,?_⟩
  refine ⟨_,y.ld (b:=q) rfl,⟨_,y.ld (b:=q) rfl,⟨_,tH rfl rfl rfl rfl,?_⟩⟩⟩
  refine ap (fun J=>?_) (fun J=>?_)
  ·refine ⟨_,y.ld (b:=q) rfl,ag [1,2,4,22,24,33,37] [pt q,.bool false,.int .i64 0,.bool true,.int .u32 time,undef,undef] rfl fun g=>⟨_,y.ld (b:=q) rfl,?_⟩⟩
   refine ⟨_,y.ld (b:=q) rfl,ir fun z_29 h_291 h_292 h_293=>ir fun z_29' h_29'1 h_29'2 h_29'3=>?_⟩
   refine ap (fun Y=>?_) (fun Y=>?_)
   ·refine pa 2 rfl<|ac ⟨true,decide_eq_true (by decide),?_⟩
    refine pa 2 rfl<|ag [1,2,37] [pt q,.bool false,.bool true] rfl fun g=>⟨_,y.ld (b:=q) rfl,?_⟩
    refine c91 y (fun h_40=>?_) (fun h_40=>?_)
    ·refine pa 2 rfl<|ah<|k1 (by (simp only [jl];refine ⟨H,by omega,by assumption⟩)) _ y.ae
    ·refine pa 2 rfl<|ah<|k2 (by (exact fun h=>absurd h.2.2 (by assumption))) _ y.ae
   ·refine pa 2 rfl<|ac<|pa 11 rfl ?_
    refine ag [2] [.bool false] rfl fun g=>ah<|k2 (by (simp only [jl];omega)) _ y.ae
  ·refine pa 11 rfl<|ag [1,2,4,5,33,37] [pt q,.bool false,.int .i64 0,.bool false,undef,undef] rfl fun g=>ac ?_
   refine pa 11 rfl<|ag [2] [.bool false] rfl fun g=>ah ?_
   refine k2 (by (simp only [jl];omega)) _ y.ae
 ·refine ac<|ag [1,2,4,22,33,37] [pt q,.bool false,.int .i64 11,undef,undef,undef] rfl fun g=>⟨_,y.ld (b:=q) rfl,?_⟩
  refine ⟨_,y.ld (b:=q) rfl,⟨_,y.ld (b:=q) rfl,⟨_,tH rfl rfl rfl rfl,?_⟩⟩⟩
  refine ap (fun J=>?_) (fun J=>?_)
  ·refine ⟨_,y.ld (b:=q) rfl,ag [1,2,4,22,24,33,37] [pt q,.bool false,.int .i64 11,.bool true,.int .u32 time,undef,undef] rfl fun g=>⟨_,y.ld (b:=q) rfl,?_⟩⟩
   refine ⟨_,y.ld (b:=q) rfl,ir fun z_29 h_291 h_292 h_293=>ir fun z_29' h_29'1 h_29'2 h_29'3=>?_⟩
   refine ap (fun Y=>?_) (fun Y=>?_)
   ·refine pa 2 rfl<|ac ⟨false,decide_eq_false (by decide),?_⟩
    refine pa 7 rfl<|ag [2] [.bool false] rfl fun g=>ah ?_
    refine k2 (by (exact fun h=>absurd h.1 H)) _ y.ae
   ·refine pa 2 rfl<|ac<|pa 11 rfl ?_
    refine ag [2] [.bool false] rfl fun g=>ah<|k2 (by (exact fun h=>absurd h.1 H)) _ y.ae
  ·refine pa 11 rfl<|ag [1,2,4,5,33,37] [pt q,.bool false,.int .i64 11,.bool false,undef,undef] rfl fun g=>ac ?_
   refine pa 11 rfl<|ag [2] [.bool false] rfl fun g=>ah ?_
   refine k2 (by (exact fun h=>absurd h.1 H)) _ y.ae
theorem c50 {own mask first last time hold quiet:Nat} (hn:own<4294967296∧mask<4294967296∧first<4294967296∧last<4294967296∧time<4294967296∧hold<4294967296∧quiet<4294967296) (q:SH w0 w L)
  (k1:jl own first last time hold quiet→ ∀ p s w',s.b.Lo=[]∧s.b.Re=[]→SH w0 w' (Se p s::L)→K (.tuple #[pt p,C5 0]) w') (k2: ¬jl own first last time hold quiet→ ∀ w',SH w0 w' L→K (.tuple #[.pointer none,C5 11]) w'):D 50 [.agg #[C3 own,C3 mask,C3 first,C3 last,C3 time,C3 hold,C3 quiet]] w K:=by
 have hn2:=hn
 obtain ⟨n1,n2,n3,n4,n5,n6,n7⟩:=hn
 refine s50 rfl<|ac<|q.az [C3 own,C3 mask,C3 first,C3 last,C3 time,C3 hold,C3 quiet] fun H _ q=>aq<|q.Da (b:=H) rfl<|c55 ‹_› q (fun h_7 w_7 q=>?_) (fun h_7 w_7 q=>?_)
 ·refine Dj<|ak<|ac<|q.C9 (b:=H) rfl<|q.C9 (b:=H) rfl<|q.C9 (b:=H) rfl ⟨rfl,[C3 own],rfl,q.an fun b_16 _ q=>?_⟩
  have q:=SH.kE (n:=1) q 1 rfl
  exact c92 (zs:=[(own:Int)]) (a:=some ⟨b_16,0,none⟩) ⟨n3,n4⟩ (fun _ hz=>by rw [List.mem_singleton.1 hz];omega) (by simp) q (fun J y Y w_17 h_174 q=>ac (q.Da (b:=H) rfl (⟨by kernel_rfl,[C3 own,C3 mask,C3 first,C3 last,C3 time,C3 hold,C3 quiet,pt y],by kernel_rfl,q.az [C3 own,C3 mask,C3 first,C3 last,C3 time,C3 hold,C3 quiet,pt y] fun _ _ q=>ah (k1 h_7 _ ⟨own,mask,first,last,time,hold,quiet,y,Y⟩ _ h_174 (SH.eC (s:=⟨own,mask,first,last,time,hold,quiet,y,Y⟩) q.ae ⟨hn2⟩))⟩))) (fun J w_17 q=>absurd h_7.1 J)
 ·refine Dj<|ac<|ah<|k2 ‹_› _ q.ae
end
end
end Go.Proofs.YtlhpilgmeededaaGreatDoor
namespace Go.Proofs.YtlhpilgmeededaaGreatDoor
open Go Go.Den Go.RowKit Go.Proofs
set_option maxHeartbeats 4000000
set_option maxRecDepth 8000
attribute [local irreducible] ay aQ aH aY a6 aW
theorem dU.drop {s:dT} (h:dU s) (H:cn s.E) {ip:Int} {ls:bQ} (hl:ls.now=s.ls.now∧aB ls.T ip=none∧TK s.ls.T ls.T):dU { s with E:=aO s.E ip,ls:=ls } :=by
 refine ⟨fun q J=>h.bq q (eK (k':=q.1) (u:=q.2) |>.1 J).2,h.rows,hl.1.trans h.lives,h.waits,h.life,h.bnd,?_,fun u y=>?_,h.rk,h.rl⟩
 ·have:=p7 s.E ip
  have:=h.ek
  show ((aO s.E ip).length:Int)≤s.room
  omega
 ·show aB (aO s.E ip) u≠none
  rw [gu H]
  split
  ·rename_i e;exact absurd (e▸hl.2.1) y
  ·exact h.el u (hl.2.2 u y)
theorem dU.release {s:dT} (h:dU s) (H:cn s.W) {ip:Int} {ws:bQ} (hl:ws.now=s.ws.now∧aB ws.T ip=none∧TK s.ws.T ws.T):dU { s with W:=aO s.W ip,ws:=ws } :=by
 refine ⟨h.bq,fun q J=>h.rows q (eK (k':=q.1) (u:=q.2) |>.1 J).2,h.lives,hl.1.trans h.waits,h.life,h.bnd,h.ek,h.el,?_,fun u y=>?_⟩
 ·have:=p7 s.W ip
  have:=h.rk
  show ((aO s.W ip).length:Int)≤s.room
  omega
 ·show aB (aO s.W ip) u≠none
  rw [gu H]
  split
  ·rename_i e;exact absurd (e▸hl.2.1) y
  ·exact h.rl u (hl.2.2 u y)
theorem rc {ν:Type} {T:List (Int × Int × Int × Int)} {E:List (Int × ν)} (q:cn T) (h: ∀ u,aB T u≠none→aB E u≠none):T.length≤E.length:=by
 have:=ni (l:=T.map Prod.fst) (m:=E.map Prod.fst) q fun x y=>kJ.1 (h x (kJ.2 y))
 rwa [List.length_map,List.length_map] at this
section
variable {w0 w:World} {L R R1 R2 R3 R4:List ao} {K:Value→World→Prop} {p:Nat} {s:dT}
theorem vA {v:Value} {ip:Int} (Y:dU s) (hv:v=sN∨ ∃ o,(ip,(v,o))∈s.W) (H:SH w0 w L) [q:aC (cj 1) L s.Z R]: ∃ zs b c,v= .slice b zs.length c∧zs.length≤64∧SH w0 w (Rd 1 v (ints zs)::L):=by
 rcases hv with rfl | ⟨o,ho⟩
 ·exact ⟨[],none,0,rfl,by decide,H.lz 1 none 0⟩
 ·obtain ⟨zs,hz,y⟩:=Y.rows _ ho
  have h1:=H.va (size:=1) hz
  obtain ⟨a,n,c,e,J⟩:=h1.vb
  rw [lA,Nat.mul_one] at J
  subst J
  exact ⟨zs,a,c,e,y,h1⟩
theorem c69 {now:Nat} (hn:now<18446744073709551616) (J:SH w0 w L) [q:aC (Ca p) L s R] [hz:cL R]
  (k: ∀ (ts:List Int) a n c s' w',ts.length=n∧n≤100000→(s.W=[]→ts=[])→SH w0 w' (Row 3 1 (.slice a n c) n (ints ts)::Ca p s'::R)→K (.slice a n c) w'):D 69 [pt p,C4 now] w K:=by
 obtain ⟨hs,J⟩:=SH.ca J p
 have hll:=hs.lives
 have hbn:=hs.bnd
 have hek:=hs.ek
 have hlen:=rc ((SH.ec J s.lb).2.apart s.ls.tb (T:=bF)) hs.el
 refine s69 rfl<|ac<|Dv [0,1] [pt p,C4 now] fun g=>?_
 refine bt (6::List.range' 10 15) rfl [0,1] (fun (_:List (Int × ((Nat × Nat × Nat × Nat × Nat × Nat) × Int)) × bQ)=>[pt p,C4 now]) (fun x w'=>dU { s with E:=x.1,ls:=x.2 } ∧SH w0 w' (Ca p { s with E:=x.1,ls:=x.2 } ::R)) ?_ ?_
 ·refine ac<|J.C9 (b:=p) rfl<|c117 ‹_› ‹_› (by omega) J (fun H a_15 c_15 _ x_15 _ J=>aM ?_)
  refine bU ([6,17]++List.range' 18 7) rfl [0,1,15,16,17] (fun (x:Nat × List (Int × ((Nat × Nat × Nat × Nat × Nat × Nat) × Int)) × bQ)=>[pt p,C4 now,.slice a_15 H.length c_15,C5 H.length,C5 x.1])
   (fun x w'=>(x.1≤H.length∧dU { s with E:=x.2.1,ls:=x.2.2 })∧SH w0 w' (Ca p { s with E:=x.2.1,ls:=x.2.2 } ::Row 22 1 (.slice a_15 H.length c_15) H.length (H.map fun z=>C3 z)::R)) (fun x=>H.length - x.1) (0,s.E,s.ls) rfl ⟨⟨Nat.zero_le _,hs⟩,SH.ed J.ae hs⟩ ?_
  rintro g ⟨i,E,ls⟩ w6 ⟨⟨hi,hok⟩,J⟩
  simp only at hi hok J
  refine Dv [0,1,15,16,17] [pt p,C4 now,.slice a_15 H.length c_15,C5 H.length,C5 i] fun g=>?_
  have J:=(SH.ca J p).2
  refine ac<|ap (fun h_18=>?_) (fun h_18=>?_)
  ·refine av<|ai<|ak<|aG<|ac ?_
   obtain ⟨ad_19,rfl⟩:=J.dW a_15
   have hr:=x_15 _ (gV (d:=0) (show i<H.length by omega))
   obtain ⟨ip,hip⟩: ∃ n:Nat,H.getD i 0=n:=⟨(H.getD i 0).toNat,by omega⟩
   have hA:=J.apart s.eb (T:=cw)
   refine ⟨by omega,_,rfl,⟨C3 (ip:Int),by rw [←hip];exact J.fe (lB (by omega)),au (c118 (ip:=ip) (by omega) J rfl fun ls' w8 h J=>?_)⟩⟩
   have hok':=hok.drop hA h
   exact au<|Db ⟨(i+1,aO E (ip:Int),ls'),rfl,⟨⟨by show i+1≤_;omega,hok'⟩,SH.ed J.ae hok'⟩,by show H.length - (i+1)<H.length - i;omega⟩
  ·exact av<|ai<|aS ⟨(E,ls),rfl,hok,SH.ed J.ae hok⟩
 rintro g ⟨E,ls⟩ w7 ⟨hok,J⟩
 simp only at hok J
 have hW:s.W=[]→({ s with E:=E,ls:=ls } :dT).W=[]:=fun h=>h
 generalize ({ s with E:=E,ls:=ls } :dT)=s at hok J hW
 refine Dv [0,1] [pt p,C4 now] fun g=>?_
 obtain ⟨hs,J⟩:=SH.ca J p
 refine ac<|av<|ac<|J.C9 (b:=p) rfl ?_
 have hrk:=hs.rk
 have hbn:=hs.bnd
 have hlen:=rc ((SH.ec J s.wb).2.apart s.ws.tb (T:=bF)) hs.rl
 refine c117 (p:=s.wb) (s:=s.ws) ‹_› hs.waits (by omega) J (fun y a_30 Y _ x_30 _ J=>aM (Dv [0,7,30,31,32] [pt p,sN,.slice a_30 y.length Y,C5 y.length,C5 0] fun g=>?_))
 have J:=(SH.ed (p:=p) (R:=Row 22 1 (.slice a_30 y.length Y) y.length (y.map fun z=>C3 z)::R) J.ae hs).rowOf (sN) 3 1
 refine bU ([7,9]++List.range' 32 10) rfl [0,7,30,31,32] (fun (x:Nat × dT × Option Addr × Nat × Nat × List Int)=>[pt p,.slice x.2.2.1 x.2.2.2.2.1 x.2.2.2.1,.slice a_30 y.length Y,C5 y.length,C5 x.1])
  (fun x w'=>(x.1≤y.length∧x.2.2.2.2.2.length=x.2.2.2.2.1∧x.2.2.2.2.1≤64*x.1∧(s.W=[]→x.2.1.W=[]∧x.2.2.2.2.2=[]))∧SH w0 w' (Row 3 1 (.slice x.2.2.1 x.2.2.2.2.1 x.2.2.2.1) x.2.2.2.2.1 (ints x.2.2.2.2.2)::Ca p x.2.1::Row 22 1 (.slice a_30 y.length Y) y.length (y.map fun z=>C3 z)::R)) (fun x=>y.length - x.1) (0,s,none,0,0,[]) rfl ⟨⟨Nat.zero_le _,rfl,Nat.le_refl _,fun h=>⟨h,rfl⟩⟩,J⟩ ?_
 rintro g ⟨i,s,a,c,n,ts⟩ w6 ⟨⟨hi,hn,hle,hemp⟩,J⟩
 simp only at hi hn hle hemp J
 refine Dv [0,7,30,31,32] [pt p,.slice a n c,.slice a_30 y.length Y,C5 y.length,C5 i] fun g=>ac<|ap (fun h_33=>?_) (fun h_33=>?_)
 rotate_left
 ·exact av<|ai<|aS<|ac<|ah<|k ts _ _ _ s _ ⟨hn,by omega⟩ (fun h=>(hemp (hW h)).2) J.ae
 refine av<|ai<|ak<|aG<|ac ?_
 obtain ⟨hs,J⟩:=SH.ca J p
 obtain ⟨ad_19,rfl⟩:=J.dW a_30
 have hr:=x_30 _ (gV (d:=0) (show i<y.length by omega))
 obtain ⟨ip,hip⟩: ∃ n:Nat,y.getD i 0=n:=⟨(y.getD i 0).toNat,by omega⟩
 have hA:=J.apart s.rb (T:=fz)
 refine ⟨by omega,_,rfl,⟨C3 (ip:Int),by rw [←hip];exact J.fe (lB (by omega)),au (c119 (ip:=ip) (by omega) J rfl fun v ws' w8 h hv J=>?_)⟩⟩
 have hok':=hs.release hA h
 obtain ⟨zs,b',c',rfl,hz,J⟩:=vA hs hv J
 have hz0:s.W=[]→zs=[]:=fun h=>by
  rcases hv with e | ⟨o,ho⟩
  ·injection e with _ e2 _
   exact List.length_eq_zero_iff.1 e2
  ·rw [h] at ho;cases ho
 refine aZ (dL (v:= .slice a n c) (u:= .slice b' zs.length c') rfl rfl rfl J J.rd (qW _) (by omega) fun a_7 c_7 _ J=>Dt [0,7,30,31,32,40] [pt p,.slice a n c,.slice (some ad_19) y.length Y,C5 y.length,C5 i,.slice a_7 (n+zs.length) c_7] fun g=>au (Db ?_))
 rw [←vd] at J
 have J:=SH.ed (p:=p) (s:= { s with W:=aO s.W (ip:Int),ws:=ws' }) (R:=Row 3 1 (.slice a_7 (n+zs.length) c_7) (n+zs.length) (ints (ts++zs))::Row 22 1 (.slice (some ad_19) y.length Y) y.length (y.map fun z=>C3 z)::R) J.ae hok'
 exact ⟨(i+1,{ s with W:=aO s.W (ip:Int),ws:=ws' },a_7,c_7,n+zs.length,ts++zs),rfl,⟨⟨by show i+1≤_;omega,by show (ts++zs).length=_;rw [List.length_append,hn],by show n+zs.length≤64*(i+1);omega,fun h=>⟨by show aO s.W (ip:Int)=[];rw [(hemp h).1];rfl,by show ts++zs=[];rw [(hemp h).2,hz0 (hemp h).1];rfl⟩⟩,J.ae⟩,by show y.length - (i+1)<y.length - i;omega⟩
end
end Go.Proofs.YtlhpilgmeededaaGreatDoor
namespace Go.Proofs.YtlhpilgmeededaaGreatDoor
open Go Go.Den Go.RowKit Go.Proofs
set_option maxHeartbeats 4000000
set_option maxRecDepth 8000
attribute [local irreducible] ay aQ aH aY a6 aW
theorem fk252:fG Tryz.prog 252=true:=by kernel_rfl
section
variable {w0 w:World} {L R R1 R2 R3 R4:List ao} {K:Value→World→Prop} {p:Nat} {s:dT}
theorem c252 {bx eb:Nat} {a b:Int} {cs:List Value} {E:List (Int × ((Nat × Nat × Nat × Nat × Nat × Nat) × Int))} (y:SH w0 w L) [q:aR L bx 118 [pt p] R] [q1:aR L p 190 cs R2] (h1:cs[4]?=some (.map (some eb))) [q2:bP L eb cw E R3]
  (ha:0≤a∧a<4294967296) (hb:0≤b∧b<4294967296) (k: ∀ (z:Int) w',SH w0 w' L→K (C5 z) w'):D 252 [C3 a,C3 b,pt bx] w K:=by
 refine s252 rfl<|ac<|aJ<|have y:=y.drew;⟨_,y.ld (b:=bx) rfl,⟨_,y.ld (b:=p) ‹_›,dh rfl rfl rfl (by omega) y (fun J=>?_) (fun _ J=>?_)⟩⟩
 ·refine ⟨_,rfl,⟨_,y.ld (b:=bx) rfl,⟨_,y.ld (b:=p) ‹_›,dh rfl rfl rfl (by omega) y (fun H=>?_) (fun Y H=>?_)⟩⟩⟩
  ·refine ⟨_,rfl,c233 (⟨⟨jK rfl rfl rfl (by omega) y ‹_›,⟨y.ld (b:=p) ‹_›,⟨y.ld (b:=bx) rfl,⟨jK rfl rfl rfl (by omega) y ‹_›,⟨y.ld (b:=p) ‹_›,⟨y.ld (b:=bx) rfl,trivial⟩⟩⟩⟩⟩⟩,ah (k _ _ y.ae)⟩)⟩
  ·refine ⟨_,rfl,c233 (⟨⟨dC rfl rfl rfl (by omega) y ‹_›,⟨y.ld (b:=p) ‹_›,⟨y.ld (b:=bx) rfl,⟨jK rfl rfl rfl (by omega) y ‹_›,⟨y.ld (b:=p) ‹_›,⟨y.ld (b:=bx) rfl,trivial⟩⟩⟩⟩⟩⟩,ah (k _ _ y.ae)⟩)⟩
 ·refine ⟨_,rfl,⟨_,y.ld (b:=bx) rfl,⟨_,y.ld (b:=p) ‹_›,dh rfl rfl rfl (by omega) y (fun H=>?_) (fun Y H=>?_)⟩⟩⟩
  ·refine ⟨_,rfl,c233 (⟨⟨jK rfl rfl rfl (by omega) y ‹_›,⟨y.ld (b:=p) ‹_›,⟨y.ld (b:=bx) rfl,⟨dC rfl rfl rfl (by omega) y ‹_›,⟨y.ld (b:=p) ‹_›,⟨y.ld (b:=bx) rfl,trivial⟩⟩⟩⟩⟩⟩,ah (k _ _ y.ae)⟩)⟩
  ·refine ⟨_,rfl,c233 (⟨⟨dC rfl rfl rfl (by omega) y ‹_›,⟨y.ld (b:=p) ‹_›,⟨y.ld (b:=bx) rfl,⟨dC rfl rfl rfl (by omega) y ‹_›,⟨y.ld (b:=p) ‹_›,⟨y.ld (b:=bx) rfl,trivial⟩⟩⟩⟩⟩⟩,ah (k _ _ y.ae)⟩)⟩
theorem c249 {bx eb n c:Nat} {a:Option Addr} {ss:List Int} {cs:List Value} {E:List (Int × ((Nat × Nat × Nat × Nat × Nat × Nat) × Int))} (hn:ss.length=n∧1≤n∧n≤1000) (hr: ∀ z∈ss,0≤z∧z<4294967296) (H:SH w0 w L) [qr:dV L a 1 n (ss.map fun z=>C3 z)]
  [q:aR L bx 118 [pt p] R] [q1:aR L p 190 cs R2] (h1:cs[4]?=some (.map (some eb))) [q2:bP L eb cw E R3] (k: ∀ z w',z∈ss→SH w0 w' L→K (C3 z) w'):D 249 [.slice a n c,.func (.func 252) #[] #[pt bx]] w K:=by
 refine s249 rfl<|ac<|aq<|Df<|ak<|ac ?_
 obtain ⟨y,rfl⟩:=H.dW a
 refine ⟨by omega,_,rfl,⟨_,H.fe (lB (by omega)),av (ac (aM (Dv [0,1,4,5,6] [.slice (some y) n c,Value.func (Fn.func 252) #[] #[pt bx],C3 0,C3 (ss.getD 0 0),C5 1] fun g=>?_)))⟩⟩
 refine bU ([5,6]++List.range' 14 18) rfl [0,1,5,6] (fun (x:Nat × Int)=>[.slice (some y) n c,Value.func (Fn.func 252) #[] #[pt bx],C3 x.2,C5 x.1]) (fun x w'=>(x.1≤n∧x.2∈ss)∧SH w0 w' L) (fun x=>n - x.1) (1,ss.getD 0 0) rfl ⟨⟨hn.2.1,gV (by omega)⟩,H⟩ ?_
 rintro g ⟨i,z⟩ w6 ⟨⟨hi,hz⟩,H⟩
 simp only at hi hz H
 have hzr:=hr z hz
 have hir:i<n→0≤ss.getD (i:Int).toNat 0∧ss.getD (i:Int).toNat 0<4294967296:=fun _=>hr _ (gV (show i<ss.length by omega))
 refine Dv [0,1,5,6] [.slice (some y) n c,Value.func (Fn.func 252) #[] #[pt bx],C3 z,C5 i] fun g=>aq<|ap (fun J=>?_) (fun J=>?_)
 ·refine ak<|aG<|ac ⟨by omega,_,rfl,⟨_,H.fe (lB (by omega)),⟨fk252,c252 H ‹_› (by omega) ‹_› (fun Y _ H=>Dt [0,1,5,6,26] [.slice (some y) n c,Value.func (Fn.func 252) #[] #[pt bx],C3 z,C5 i,C5 Y] fun g=>ap (fun h_27=>?_) (fun h_27=>?_))⟩⟩⟩
  ·exact ai<|au ⟨by omega,_,rfl,⟨_,H.fe (lB (by omega)),au (Db (⟨(i+1,ss.getD (i:Int).toNat 0),rfl,⟨⟨by show i+1≤n;omega,gV (show i<ss.length by omega)⟩,H⟩,by show n - (i+1)<n - i;omega⟩))⟩⟩
  ·exact ai<|ak<|au<|Db ⟨(i+1,z),rfl,⟨⟨by show i+1≤n;omega,hz⟩,H⟩,by show n - (i+1)<n - i;omega⟩
 ·refine aS<|ac<|ah<|k _ _ ‹_› H.ae
theorem c196 (y:SH w0 w L) [q1:aR L p 190 (jL s) R2] [q2:bP L s.eb cw s.E R3] (hE:1≤s.E.length∧s.E.length≤1000)
  (k: ∀ z w',z∈s.E.map Prod.fst→(0≤z∧z<4294967296)→SH w0 w' L→K (C3 z) w'):D 196 [pt p] w K:=by
 refine s196 rfl<|ac<|y.az [pt p] fun b_1 _ y=>ac<|y.C9 (b:=b_1) rfl<|y.C9 (b:=p) rfl<|c251 y (fun _ _ y=>c250 y (by omega) (fun H _ _ _ J y=>?_))
 have hG: ∀ z∈H,0≤z∧z<4294967296:=fun z hz=>by
  obtain ⟨q,hq,rfl⟩:=List.mem_map.1 (J.mem_iff.1 hz)
  exact y.gv s.eb (T:=cw) q hq
 have hn:H.length=s.E.length:=by rw [J.length_eq,List.length_map]
 refine c249 (E:=s.E) (eb:=s.eb) (cs:=jL s) (p:=p) (ss:=H) ⟨rfl,by omega,by omega⟩ hG y rfl (fun z_10 _ Y y=>?_)
 have hz:=hG _ Y
 exact pa 1 rfl<|ah<|k z_10 _ (J.mem_iff.1 Y) hz y.ae
theorem AK {s:dT} {ip n:Int} {m:(Nat × Nat × Nat × Nat × Nat × Nat) × Int} {E:List (Int × ((Nat × Nat × Nat × Nat × Nat × Nat) × Int))} {ls:bQ} (y:dU s) (J:bw [C1 m.1.1,C1 m.1.2.1,C1 m.1.2.2.1,C1 m.1.2.2.2.1,C1 m.1.2.2.2.2.1,C1 m.1.2.2.2.2.2]) (Y:cn s.E) (hE:E=aF s.E ip m) (hn:ls.now=s.ls.now) (hk:aB s.E ip=none→(s.E.length:Int)<s.room) (hl: ∀ u,aB ls.T u≠none→u=ip∨aB s.ls.T u≠none):dU { s with E:=E,ls:=ls,count:=n } :=by
 subst hE
 refine ⟨fun q hq=>?_,y.rows,hn.trans y.lives,y.waits,y.life,y.bnd,oC y.ek hk,fun u hu=>?_,y.rk,y.rl⟩
 ·rcases kD hq with h | h
  ·rw [h];exact J
  ·exact y.bq q h
 ·show aB (aF s.E ip _) u≠none
  rw [fq Y]
  split
  ·exact fun e=>by cases e
  ·rename_i H
   exact y.el u ((hl u hu).resolve_left H)
theorem AL {ν:Type} {m:List (Int × ν)} {k:Int} (y:k∈m.map Prod.fst):(aO m k).length<m.length:=by
 obtain ⟨q,H,rfl⟩:=List.mem_map.1 y
 exact uG H
theorem c147 {ip now:Nat} {m0 m1 m2 m3 m4 m5:Nat} (hi:ip<4294967296) (hn:now<18446744073709551616) (hm:bw (bq m0 m1 m2 m3 m4 m5)) (y:SH w0 w L) [q:aC (Ca p) L s R]
  (k: ∀ (zs:List Int) a c s' w',zs.length≤64→SH w0 w' (Rd 1 (.slice a zs.length c) (ints zs)::Ca p s'::R)→K (.slice a zs.length c) w'):D 147 [pt p,.int .u32 ip,.agg #[.int .u8 m0,.int .u8 m1,.int .u8 m2,.int .u8 m3,.int .u8 m4,.int .u8 m5],.int .u64 now] w K:=by
 refine s147 rfl<|ac<|y.az [.int .u8 m0,.int .u8 m1,.int .u8 m2,.int .u8 m3,.int .u8 m4,.int .u8 m5] fun b_6 _ y=>?_
 refine bt (List.range' 8 31) rfl [0,1,3,6] (fun (_:dT)=>[pt p,.int .u32 ip,.int .u64 now,pt b_6]) (fun x w'=>(aB x.E (ip:Int)=none→(x.E.length:Int)<x.room)∧SH w0 w' (Ca p x::Cl b_6 28 [.int .u8 m0,.int .u8 m1,.int .u8 m2,.int .u8 m3,.int .u8 m4,.int .u8 m5]::R)) ?_ ?_
 ·obtain ⟨hs,y⟩:=SH.ca y p
  have hbn:=hs.bnd
  have hek:=hs.ek
  have hA:=y.apart s.eb (T:=cw)
  refine ac ⟨_,y.ld (b:=p) rfl,dh rfl rfl rfl (by omega) y (fun h_17=>?_) (fun _ h_17=>?_)⟩
  ·refine y.an fun b_9 w_9 y=>y.aj (b:=b_9) fun _ y=>aJ ?_
   have y:=y.drew
   refine ⟨_,rfl,⟨_,y.ld (b:=p) rfl,⟨_,iz rfl rfl y,?_⟩⟩⟩
   refine ⟨_,y.ld (b:=p) rfl,ap (fun h_33=>?_) (fun h_33=>?_)⟩
   ·refine ai<|au<|c196 y (by omega) (fun z_37 w_37 h_372 _ y=>?_)
    obtain ⟨zn,rfl⟩: ∃ n:Nat,z_37=n:=⟨z_37.toNat,by omega⟩
    have hsh:=AL h_372
    refine c118 (ip:=zn) (by omega) y rfl fun ls' _ h y=>?_
    have hok:=hs.drop hA h
    exact ⟨{ s with E:=aO s.E (zn:Int),ls:=ls' },rfl,fun _=>by show ((aO s.E (zn:Int)).length:Int)<s.room;omega,SH.ed y.ae hok⟩
   ·exact ai<|ak ⟨s,rfl,fun _=>by omega,SH.ed y.ae hs⟩
  ·refine y.an fun b_9 w_9 y=>y.aj (b:=b_9) fun w_37 y=>aJ ?_
   have y:=y.drew
   refine ⟨_,rfl,ai (ak ?_)⟩
   exact ⟨s,rfl,fun e=>(by cases h_17.symm.trans (show aB s.E (ip:Int)=none from e)),SH.ed y.ae hs⟩
 rintro g s w3 ⟨hk,y⟩
 obtain ⟨hs,y⟩:=SH.ca y p
 have hlf:=hs.life
 have hA:=y.apart s.eb (T:=cw)
 have hA2:=y.apart s.rb (T:=fz)
 have hd:min now 2305843009213693952+s.life<18446744073709551616:=by omega
 refine aJ<|have y:=y.drew;⟨_,y.ld (b:=p) rfl,?_⟩
 refine ⟨_,y.af (b:=b_6) rfl,c197 y rfl (fun H _ y=>⟨⟨⟨_,y.af (b:=b_6) rfl,rfl⟩,⟨y.ld (b:=p) rfl,trivial⟩⟩,?_⟩)⟩
 refine ⟨by kernel_rfl,[.int .u8 m0,.int .u8 m1,.int .u8 m2,.int .u8 m3,.int .u8 m4,.int .u8 m5,.int .i64 H],by kernel_rfl,d' (fc (vv:= .agg #[.int .u8 m0,.int .u8 m1,.int .u8 m2,.int .u8 m3,.int .u8 m4,.int .u8 m5,.int .i64 H]) rfl rfl rfl rfl (by omega) y fun _ y=>aJ ?_)⟩
 have y:=y.drew
 refine ⟨_,y.ld (b:=p) rfl,⟨_,IntWalk.i64_in _ (by omega),⟨_,cq,?_⟩⟩⟩
 refine ⟨_,y.ld (b:=p) rfl,⟨_,ve (by omega),c198 (by omega) (by assumption) y (fun _ Y _ h_623 y=>?_)⟩⟩
 refine ac<|c119 (by assumption) y rfl (fun _ J _ h_653 h_654 y=>ah ?_)
 have hok:=AK (ip:=(ip:Int)) (n:=H) (m:=((m0,m1,m2,m3,m4,m5),H)) hs hm hA rfl h_623.1 hk h_623.2
 obtain ⟨zs,b',c',rfl,hz,y⟩:=vA hs h_654 y
 have hok':=hok.release hA2 h_653
 have y:=SH.ed (p:=p) (s:= { s with E:=aF s.E (ip:Int) ((m0,m1,m2,m3,m4,m5),H),ls:=Y,W:=aO s.W (ip:Int),ws:=J,count:=H }) (R:=Rd 1 (.slice b' zs.length c') (ints zs)::R) y.ae hok'
 exact k zs _ _ { s with E:=aF s.E (ip:Int) ((m0,m1,m2,m3,m4,m5),H),ls:=Y,W:=aO s.W (ip:Int),ws:=J,count:=H } _ hz y.ae
end
end Go.Proofs.YtlhpilgmeededaaGreatDoor
namespace Go.Proofs.YtlhpilgmeededaaGreatDoor
open Go Go.Den Go.RowKit Go.Proofs
set_option maxHeartbeats 4000000
set_option maxRecDepth 8000
abbrev gC:=Int × (Int × Int) × Int × (Int × Int) × (Int × Int × Int × Bool × Bool) × Int
abbrev re (f:gC):Value:= .agg #[C1 f.1,C3 f.2.1.1,C2 f.2.1.2,C2 f.2.2.1,C3 f.2.2.2.1.1,C2 f.2.2.2.1.2,C1 f.2.2.2.2.1.1,C1 f.2.2.2.2.1.2.1,C1 f.2.2.2.2.1.2.2.1,.bool f.2.2.2.2.1.2.2.2.1,.bool f.2.2.2.2.1.2.2.2.2,C4 f.2.2.2.2.2]
abbrev dH:bN Tryz.prog:=jb Tryz.prog 3 .i64 v3 (-9223372036854775808) 9223372036854775808 wf_i64 gC re
instance:cR Tryz.prog 278 dH 329 (.agg #[C1 0,C3 0,C2 0,C2 0,C3 0,C2 0,C1 0,C1 0,C1 0,.bool false,.bool false,C4 0]):=⟨Tryz.underlying278,by kernel_rfl⟩
instance (p a b c d e s o i l:Int) (x y:Bool):fQ dH (.agg #[C1 p,C3 a,C2 b,C2 c,C3 d,C2 e,C1 s,C1 o,C1 i,.bool x,.bool y,C4 l]) (p,(a,b),c,(d,e),(s,o,i,x,y),l):=⟨rfl⟩
instance (z:Int):fQ eQ (C5 z) z:=⟨rfl⟩
instance (z:Int):fQ eR (C5 z) z:=⟨rfl⟩
instance (a b:Int):fQ gz (.agg #[C2 a,C5 b]) (a,b):=⟨rfl⟩
attribute [local irreducible] ay aQ aH aY a6 aW
section
variable {w0 w:World} {L R:List ao} {K:Value→World→Prop}
abbrev kK (p a b c d e s o i:Int) (x y:Bool) (l:Int):Value:= .agg #[C1 p,C3 a,C2 b,C2 c,C3 d,C2 e,C1 s,C1 o,C1 i,.bool x,.bool y,C4 l]
theorem c177 {p a b c d e s o i l:Int} {x y:Bool} (q:SH w0 w L) (k: ∀ Y,SH w0 Y L→K (.agg #[C1 p,C3 a,C2 b]) Y):D 177 [kK p a b c d e s o i x y l] w K:=by
 refine s177 rfl<|ac<|q.az [C1 p,C3 a,C2 b,C2 c,C3 d,C2 e,C1 s,C1 o,C1 i,.bool x,.bool y,C4 l] fun H _ q=>q.an fun J _ q=>ac<|q.C9 (b:=H) rfl ⟨_,q.ar (b:=H) [C3 a,C2 b],⟨rfl,[C1 p,C3 a,C2 b],rfl,q.aj (b:=J) fun _ q=>ah (q.Da (b:=J) rfl (k _ q.ae))⟩⟩
theorem c175 {p a b c d e s o i l:Int} {x y:Bool} (q:SH w0 w L) (k: ∀ Y,SH w0 Y L→K (.agg #[.int .u8 p,.int .u32 a,.int .u16 b,.int .u32 d,.int .u16 e]) Y):D 175 [kK p a b c d e s o i x y l] w K:=by
 refine s175 rfl<|ac<|q.az [.int .u8 p,.int .u32 a,.int .u16 b,.int .u16 c,.int .u32 d,.int .u16 e,.int .u8 s,.int .u8 o,.int .u8 i,.bool x,.bool y,.int .u64 l] fun H _ q=>q.an fun J _ q=>aJ<|have q:=q.drew;q.Da (b:=H) rfl ⟨_,q.ar (b:=H) [.int .u32 d,.int .u16 e],c177 q (fun _ q=>⟨⟨⟨_,q.ar (b:=H) _,rfl⟩,⟨⟨_,q.af (b:=H) rfl,rfl⟩,trivial⟩⟩,⟨rfl,[.int .u8 p,.int .u32 a,.int .u16 b,.int .u32 d,.int .u16 e],rfl,q.aj (b:=J) fun _ q=>ah (q.Da (b:=J) rfl (k _ q.ae))⟩⟩)⟩
theorem c176 {p a b c d e s o i l:Int} {x y:Bool} (q:SH w0 w L) (k: ∀ Y,SH w0 Y L→K (.agg #[C1 p,C2 c,C3 d,C2 e]) Y):D 176 [kK p a b c d e s o i x y l] w K:=by
 refine s176 rfl<|ac<|q.az [C1 p,C3 a,C2 b,C2 c,C3 d,C2 e,C1 s,C1 o,C1 i,.bool x,.bool y,C4 l] fun H _ q=>q.an fun J _ q=>ac<|q.C9 (b:=H) rfl<|q.C9 (b:=H) rfl ⟨_,q.ar (b:=H) [C3 d,C2 e],⟨rfl,[C1 p,C2 c,C3 d,C2 e],rfl,q.aj (b:=J) fun _ q=>ah (q.Da (b:=J) rfl (k _ q.ae))⟩⟩
end
instance:cR Tryz.prog 276 dS 132 (.pointer none):=⟨Tryz.underlying276,by kernel_rfl⟩
instance (b:Nat):fQ dS (.pointer (some ⟨b,0,none⟩)) b:=⟨rfl⟩
structure cX where
 maps:Int
 flows:Int
 least:Int
 most:Int
 a:Nat
 b:Nat
 c:Nat
 d:Nat
 sb:Nat
 S:List (Int × gC)
 ub:Nat
 U:List ((Int × Int × Int × Int × Int) × Int)
 ib:Nat
 I:List ((Int × Int × Int × Int) × Int)
 mb:Nat
 M:List ((Int × Int × Int) × (Int × Int))
 rb:Nat
 r1:Nat
 q1:dB
 r6:Nat
 q6:dB
 r7:Nat
 q7:dB
 wb:Nat
 ws:bQ
 count:Int
abbrev jT (s:cX):List Value:=[C5 s.maps,C5 s.flows,C5 s.least,C5 s.most,C4 s.a,C4 s.b,C4 s.c,C4 s.d,.map (some s.sb),.map (some s.ub),.map (some s.ib),.map (some s.mb),.map (some s.rb),pt s.wb,C5 s.count]
abbrev iG (f:gC):Int × Int × Int × Int × Int:=(f.1,f.2.1.1,f.2.1.2,f.2.2.2.1.1,f.2.2.2.1.2)
abbrev iH (f:gC):Int × Int × Int × Int:=(f.1,f.2.2.1,f.2.2.2.1.1,f.2.2.2.1.2)
abbrev vB (p:Int):Prop:=p=6∨p=17∨p=1
abbrev kL (f:gC):Prop:=vB f.1∧cN f.2.1.1∧bz f.2.1.2∧bz f.2.2.1∧cN f.2.2.2.1.1∧bz f.2.2.2.1.2∧(0≤f.2.2.2.2.2∧f.2.2.2.2.2≤2305843009213693952)
structure dM (s:cX):Prop where
 flow: ∀ q∈s.S,kL q.2
 ids: ∀ q∈s.S,q.1≤s.count
 outs: ∀ q∈s.U,∃ f,aB s.S q.2=some f∧iG f=q.1
 ins: ∀ q∈s.I,∃ f,aB s.S q.2=some f∧iH f=q.1
 ports: ∀ q∈s.M,bz q.2.1
 len:(s.S.length:Int)≤s.flows
 now:s.ws.now=0
 keys: ∀ u,aB s.ws.T u≠none→aB s.S u≠none
 bnd:s.flows≤4096∧s.a≤4294967296∧s.b≤4294967296∧s.c≤4294967296∧s.d≤4294967296
 cnt:0≤s.count
abbrev gW (s:cX):List (Int × Nat):=[(1,s.r1),(6,s.r6),(17,s.r7)]
abbrev lF (p:Nat) (s:cX):List ao:=[Cl p 283 (jT s),Mt dH s.sb s.S,Mt eQ s.ub s.U,Mt eR s.ib s.I,Mt gz s.mb s.M,Mt dS s.rb (gW s),ck s.r1 s.q1,ck s.r6 s.q6,ck s.r7 s.q7,a8 s.wb s.ws]
def Ta (p:Nat) (s:cX):ao:=bi (lF p s++[Fact (dM s)])
section
variable {w0 w:World} {L R:List ao}
theorem SH.ta (H:SH w0 w L) (p:Nat) {s:cX} [q:aC (Ta p) L s R]:dM s∧SH w0 w (Cl p 283 (jT s)::Mt dH s.sb s.S::Mt eQ s.ub s.U::Mt eR s.ib s.I::Mt gz s.mb s.M::Mt dS s.rb (gW s)::ck s.r1 s.q1::ck s.r6 s.q6::ck s.r7 s.q7::a8 s.wb s.ws::R):=by
 have h:SH w0 w (lF p s++(Fact (dM s)::R)):=by
  have:=(H.at (Ta p)).io
  simpa using this
 have y:SH w0 w (Fact (dM s)::(lF p s++R)):=h.perm List.perm_middle
 exact ⟨y.known,y.tail⟩
theorem SH.df {p:Nat} {s:cX} (q:SH w0 w (Cl p 283 (jT s)::Mt dH s.sb s.S::Mt eQ s.ub s.U::Mt eR s.ib s.I::Mt gz s.mb s.M::Mt dS s.rb (gW s)::ck s.r1 s.q1::ck s.r6 s.q6::ck s.r7 s.q7::a8 s.wb s.ws::R)) (h:dM s):SH w0 w (Ta p s::R):=by
 have h1:SH w0 w (Fact (dM s)::(lF p s++R)):=q.fact h
 have y:SH w0 w ((lF p s++[Fact (dM s)])++R):=by
  have:=h1.perm (List.perm_middle (l₁:=lF p s) (l₂:=R) (a:=Fact (dM s))).symm
  simpa using this
 exact SH.star y
end
end Go.Proofs.YtlhpilgmeededaaGreatDoor
namespace Go.Proofs.YtlhpilgmeededaaGreatDoor
open Go Go.Den Go.RowKit Go.Proofs
set_option maxHeartbeats 4000000
set_option maxRecDepth 8000
attribute [local irreducible] ay aQ aH aY a6 aW
section
variable {w0 w:World} {L R R2 R3 R4:List ao} {K:Value→World→Prop} {p:Nat} {s:cX}
theorem c327 {id:Int} {now:Nat} (hi:cM id) (b:Bool) (hb:b=true→aB s.S id≠none) (y:SH w0 w L) [q:aC (Ta p) L s R]
  (k1: ∀ w',SH w0 w' (Ta p s::R)→K (.tuple #[kK 0 0 0 0 0 0 0 0 0 false false 0,.bool false]) w')
  (k2:b=true→ ∀ f due i j,aB s.S id=some f→aB s.ws.T id=some (due,i,j)→(now:Int)<due→ ∀ w',SH w0 w' (Ta p s::R)→K (.tuple #[re f,.bool true]) w'):D 327 [pt p,C5 id,.bool b,C4 now] w K:=by
 obtain ⟨hs,y⟩:=SH.ta y p
 refine s327 rfl<|ac<|y.an fun H _ y=>ac<|y.C9 (b:=p) rfl<|c173 ‹_› y (fun _ w_18 y=>?_) (fun due_18 i_18 j_18 h_183 _ w_18 y=>?_)
 ·refine aq<|cG (fun J=>?_) (fun J=>?_)
  ·refine pa 5 rfl<|ac ⟨by kernel_rfl,[C1 0,C3 0,C2 0,C2 0,C3 0,C2 0,C1 0,C1 0,C1 0,.bool false,.bool false,C4 0],by kernel_rfl,y.aj (b:=H) fun w_28 y=>ah (y.Da (b:=H) rfl (k1 _ (SH.df y.ae hs)))⟩
  ·refine Dg<|ac ⟨by kernel_rfl,[C1 0,C3 0,C2 0,C2 0,C3 0,C2 0,C1 0,C1 0,C1 0,.bool false,.bool false,C4 0],by kernel_rfl,y.aj (b:=H) fun w_28 y=>ah (y.Da (b:=H) rfl (k1 _ (SH.df y.ae hs)))⟩
 ·refine aq<|cG (fun J=>?_) (fun J=>?_)
  ·refine pa 5 rfl<|ac ⟨by kernel_rfl,[C1 0,C3 0,C2 0,C2 0,C3 0,C2 0,C1 0,C1 0,C1 0,.bool false,.bool false,C4 0],by kernel_rfl,y.aj (b:=H) fun _ y=>ah (y.Da (b:=H) rfl (k1 _ (SH.df y.ae hs)))⟩
  ·refine ap (fun h_26=>?_) (fun h_26=>?_)
   ·refine ac ⟨by kernel_rfl,[C1 0,C3 0,C2 0,C2 0,C3 0,C2 0,C1 0,C1 0,C1 0,.bool false,.bool false,C4 0],by kernel_rfl,y.aj (b:=H) fun _ y=>ah (y.Da (b:=H) rfl (k1 _ (SH.df y.ae hs)))⟩
   ·refine ak<|ac<|y.C9 (b:=p) rfl<|dh rfl rfl rfl (by omega) y (fun Y=>?_) (fun v_34 Y=>?_)
    ·exact y.aj (b:=H) fun _ y=>ah<|y.Da (b:=H) rfl<|absurd Y (hb (by simpa using J))
    ·exact y.aj (b:=H) fun _ y=>ah<|y.Da (b:=H) rfl<|k2 (by simpa using J) v_34 due_18 i_18 j_18 Y h_183 (by omega) _ (SH.df y.ae hs)
theorem dM.drop {s:cX} (h:dM s) (J:cn s.S) (hU:cn s.U) (hI:cn s.I) {id:Int} {f:gC} (hf:aB s.S id=some f) {ws:bQ} (Y:ws.now=s.ws.now∧aB ws.T id=none∧TK s.ws.T ws.T) {M:List ((Int × Int × Int) × (Int × Int))} (hM: ∀ q∈M,bz q.2.1) {q1 q6 q7:dB} :
  dM { s with S:=aO s.S id,U:=aO s.U (iG f),I:=aO s.I (iH f),M:=M,ws:=ws,q1:=q1,q6:=q6,q7:=q7 } :=by
 refine ⟨fun q y=>h.flow q (eK (k':=q.1) (u:=q.2) |>.1 y).2,fun q y=>h.ids q (eK (k':=q.1) (u:=q.2) |>.1 y).2,fun q y=>?_,fun q y=>?_,hM,?_,Y.1.trans h.now,fun u hu=>?_,h.bnd,h.cnt⟩
 ·have hq':=eK (k':=q.1) (u:=q.2) |>.1 y
  obtain ⟨g,H,e⟩:=h.outs q hq'.2
  refine ⟨g,?_,e⟩
  show aB (aO s.S id) q.2=some g
  rw [gu J,if_neg]
  ·exact H
  ·intro e2
   rw [e2,hf] at H
   cases H
   exact hq'.1 e.symm
 ·have hq':=eK (k':=q.1) (u:=q.2) |>.1 y
  obtain ⟨g,H,e⟩:=h.ins q hq'.2
  refine ⟨g,?_,e⟩
  show aB (aO s.S id) q.2=some g
  rw [gu J,if_neg]
  ·exact H
  ·intro e2
   rw [e2,hf] at H
   cases H
   exact hq'.1 e.symm
 ·have:=p7 s.S id
  have:=h.len
  show ((aO s.S id).length:Int)≤s.flows
  omega
 ·show aB (aO s.S id) u≠none
  rw [gu J]
  split
  ·rename_i e;exact absurd (e▸Y.2.1) hu
  ·exact h.keys u (Y.2.2 u hu)
theorem c122 {id:Int} (hi:cM id) {f:gC} (hf:aB s.S id=some f) (y:SH w0 w L) [q:aC (Ta p) L s R]
  (k: ∀ s' w',(s'.S=aO s.S id∧s'.U=aO s.U (iG f)∧s'.I=aO s.I (iH f)∧s'.count=s.count∧s'.flows=s.flows∧s'.maps=s.maps)→SH w0 w' (Ta p s'::R)→K (.tuple #[]) w'):D 122 [pt p,.int .i64 id] w K:=by
 obtain ⟨hs,y⟩:=SH.ta y p
 have hA:=y.apart s.sb (T:=dH)
 have hU:=y.apart s.ub (T:=eQ)
 have hI:=y.apart s.ib (T:=eR)
 have Y:=hs.flow _ (cU hf)
 obtain ⟨pr,⟨ia,xa⟩,pp,⟨ib,xb⟩,⟨s1,s2,s3,s4,s5⟩,l⟩:=f
 simp only at Y
 have hby:eP pr:=by omega
 have g9:eQ.good (pr,ia,xa,ib,xb):=⟨hby,Y.2.1,Y.2.2.1,Y.2.2.2.2.1,Y.2.2.2.2.2.1⟩
 have g10:eR.good (pr,pp,ib,xb):=⟨hby,Y.2.2.2.1,Y.2.2.2.2.1,Y.2.2.2.2.2.1⟩
 have g11:gz.good (pr,ia,xa):=⟨hby,Y.2.1,Y.2.2.1⟩
 refine s122 rfl<|ac ⟨_,y.ld (b:=p) rfl,⟨_,dC rfl rfl rfl (by omega) y (by assumption),y.an fun H _ y=>y.aj (b:=H) fun _ y=>ac (⟨_,y.ld (b:=p) rfl,?_⟩)⟩⟩
 refine c174 (by assumption) y (fun _ s'_17 _ h_173 y=>ac (⟨_,y.ld (b:=p) rfl,aZ (gd rfl rfl rfl (by omega) y rfl fun _ y=>aJ ?_)⟩))
 have y:=y.drew
 refine ⟨_,y.ld (b:=p) rfl,⟨_,y.af (b:=H) rfl,c175 y (fun w_28 y=>⟨⟨⟨_,y.af (b:=H) rfl,rfl⟩,⟨y.ld (b:=p) rfl,trivial⟩⟩,d' (gd (k:=(pr,ia,xa,ib,xb)) rfl rfl rfl g9 y rfl fun w_28 y=>aJ ?_)⟩)⟩⟩
 have y:=y.drew
 refine ⟨_,y.ld (b:=p) rfl,⟨_,y.af (b:=H) rfl,c176 y (fun _ y=>⟨⟨⟨_,y.af (b:=H) rfl,rfl⟩,⟨y.ld (b:=p) rfl,trivial⟩⟩,d' (gd rfl rfl rfl (by omega) y rfl fun _ y=>?_)⟩)⟩⟩
 refine bt (5::List.range' 35 7) rfl [0,4,5] (fun (x:Nat × Int × Int)=>[pt p,pt H,pt x.1]) (fun x w'=>bz x.2.1∧SH w0 w' (Cl x.1 339 [.int .u16 x.2.1,.int .i64 x.2.2]::Cl H 329 [.int .u8 pr,.int .u32 ia,.int .u16 xa,.int .u16 pp,.int .u32 ib,.int .u16 xb,.int .u8 s1,.int .u8 s2,.int .u8 s3,.bool s4,.bool s5,.int .u64 l]::Cl p 283 (jT s)::Mt dH s.sb (aO s.S id)::Mt eQ s.ub (aO s.U (pr,ia,xa,ib,xb))::Mt eR s.ib (aO s.I (pr,pp,ib,xb))::Mt gz s.mb s.M::Mt dS s.rb (gW s)::ck s.r1 s.q1::ck s.r6 s.q6::ck s.r7 s.q7::a8 s.wb s'_17::R)) ?_ ?_
 ·refine lZ<|have y:=y.drew;⟨_,y.ld (b:=p) rfl,⟨_,y.af (b:=H) rfl,⟨?_,?_⟩⟩⟩
  ·refine c177 y (fun w_40 y=>⟨⟨⟨_,y.af (b:=H) rfl,rfl⟩,⟨y.ld (b:=p) rfl,trivial⟩⟩,dh rfl rfl rfl (by omega) y (fun h_41=>?_) (fun v_41 h_41=>?_)⟩)
   ·exact y.an fun J w_5 y=>⟨⟨jK rfl rfl rfl (by omega) y (by assumption),⟨⟨_,y.af (b:=H) rfl,rfl⟩,⟨y.ld (b:=p) rfl,trivial⟩⟩⟩,y.aj (b:=J) fun w_77 y=>⟨(J,0,0),rfl,⟨(show (0:Int)≤0∧(0:Int)<65536 by decide),y.ae⟩⟩⟩
   ·exact y.an fun J w_5 y=>⟨⟨dC rfl rfl rfl (by omega) y (by assumption),⟨⟨_,y.af (b:=H) rfl,rfl⟩,⟨y.ld (b:=p) rfl,trivial⟩⟩⟩,y.aj (b:=J) fun w_78 y=>⟨(_,_,_),rfl,⟨hs.ports _ (cU (by assumption)),y.ae⟩⟩⟩
  ·refine y.an fun J w_5 y=>⟨⟨⟨_,y.af (b:=H) rfl,rfl⟩,⟨y.ld (b:=p) rfl,trivial⟩⟩,c177 y (fun w_40 y=>⟨⟨⟨_,y.af (b:=H) rfl,rfl⟩,⟨y.ld (b:=p) rfl,trivial⟩⟩,dh rfl rfl rfl (by omega) y (fun h_41=>?_) (fun v_41 h_41=>?_)⟩)⟩
   ·exact bV [0,4,5,41] [pt p,pt H,pt J,.agg #[.int .u16 0,.int .i64 0]] rfl fun g=>y.aj (b:=J) fun w_77 y=>⟨(J,0,0),rfl,⟨(show (0:Int)≤0∧(0:Int)<65536 by decide),y.ae⟩⟩
   ·exact bV [0,4,5,41] [pt p,pt H,pt J,.agg #[.int .u16 v_41.fst,.int .i64 v_41.snd]] rfl fun g=>y.aj (b:=J) fun w_78 y=>⟨(_,_,_),rfl,⟨hs.ports _ (cU (by assumption)),y.ae⟩⟩
 rintro g ⟨J,mp,mf⟩ w8 ⟨hmp,y⟩
 simp only at hmp y
 have fin: ∀ (M:List ((Int × Int × Int) × (Int × Int))) (q1 q6 q7:dB) w',(∀ q∈M,bz q.2.1)→SH w0 w' (Cl p 283 (jT s)::Mt dH s.sb (aO s.S id)::Mt eQ s.ub (aO s.U (pr,ia,xa,ib,xb))::Mt eR s.ib (aO s.I (pr,pp,ib,xb))::Mt gz s.mb M::Mt dS s.rb (gW s)::ck s.r1 q1::ck s.r6 q6::ck s.r7 q7::a8 s.wb s'_17::R)→K (.tuple #[]) w':=fun M q1 q6 q7 w' hM y=>
  k { s with S:=aO s.S id,U:=aO s.U (pr,ia,xa,ib,xb),I:=aO s.I (pr,pp,ib,xb),M:=M,ws:=s'_17,q1:=q1,q6:=q6,q7:=q7 } w' ⟨rfl,rfl,rfl,rfl,rfl,rfl⟩ (SH.df y (hs.drop hA hU hI hf h_173 hM))
 obtain ⟨mn,rfl⟩: ∃ n:Nat,mp=n:=⟨mp.toNat,by omega⟩
 generalize hmf:IntKind.i64.wrap (mf - 1)=mz
 have hM1: ∀ q∈aF s.M (pr,ia,xa) ((mn:Int),mz),bz q.2.1:=fun q hq=>by
  rcases kD hq with h | h
  ·rw [h];exact hmp
  ·exact hs.ports q h
 refine ac ⟨_,y.ld (b:=J) rfl,⟨_,hmf,y.aN (b:=J) [.int .i64 mz] [.int .u16 mn,.int .i64 mz] fun _ y=>aJ ?_⟩⟩
 have y:=y.drew
 refine ⟨_,y.ld (b:=p) rfl,⟨_,y.af (b:=H) rfl,⟨_,y.af (b:=J) rfl,c177 y (fun _ y=>⟨⟨⟨_,y.af (b:=J) rfl,rfl⟩,⟨⟨_,y.af (b:=H) rfl,rfl⟩,⟨y.ld (b:=p) rfl,trivial⟩⟩⟩,d' (fc (vv:= .agg #[.int .u16 mn,.int .i64 mz]) rfl rfl rfl rfl (by omega) y fun _ y=>ac (⟨_,y.ld (b:=J) rfl,?_⟩))⟩)⟩⟩⟩
 refine ap (fun h_55=>?_) (fun h_55=>?_)
 ·refine ai<|aJ<|have y:=y.drew;⟨_,y.ld (b:=p) rfl,⟨_,y.af (b:=H) rfl,c177 y (fun _ y=>⟨⟨⟨_,y.af (b:=H) rfl,rfl⟩,⟨y.ld (b:=p) rfl,trivial⟩⟩,d' (gd rfl rfl rfl (by omega) y rfl fun _ y=>?_)⟩)⟩⟩
  refine cv<|have y:=y.drew;⟨_,y.ld (b:=p) rfl,⟨_,y.ld (b:=H) rfl,?_⟩⟩
  have hM2: ∀ q∈aO (aF s.M (pr,ia,xa) ((mn:Int),mz)) (pr,ia,xa),bz q.2.1:=fun q hq=>hM1 q (eK (k':=q.1) (u:=q.2) |>.1 hq).2
  rcases Y.1 with rfl | rfl | rfl
  ·exact ⟨_,dC (T:=dS) (u:=s.r6) rfl rfl rfl (by omega) y rfl,⟨_,y.ld (b:=J) rfl,⟨_,IntWalk.i64_in _ (by omega),c178 (b:=s.r6) (x:=mn) (by omega) y fun q e w9 y=>fin _ s.q1 q s.q7 _ hM2 y.ae⟩⟩⟩
  ·exact ⟨_,dC (T:=dS) (u:=s.r7) rfl rfl rfl (by omega) y rfl,⟨_,y.ld (b:=J) rfl,⟨_,IntWalk.i64_in _ (by omega),c178 (b:=s.r7) (x:=mn) (by omega) y fun q e w9 y=>fin _ s.q1 s.q6 q _ hM2 y.ae⟩⟩⟩
  ·exact ⟨_,dC (T:=dS) (u:=s.r1) rfl rfl rfl (by omega) y rfl,⟨_,y.ld (b:=J) rfl,⟨_,IntWalk.i64_in _ (by omega),c178 (b:=s.r1) (x:=mn) (by omega) y fun q e w9 y=>fin _ q s.q6 s.q7 _ hM2 y.ae⟩⟩⟩
 ·exact ai<|ak<|fin _ s.q1 s.q6 s.q7 _ hM1 y.ae
end
end Go.Proofs.YtlhpilgmeededaaGreatDoor
namespace Go.Proofs.YtlhpilgmeededaaGreatDoor
open Go Go.Den Go.RowKit Go.Proofs
set_option maxHeartbeats 4000000
set_option maxRecDepth 8000
attribute [local irreducible] ay aQ aH aY a6 aW
section
variable {w0 w:World} {L R R2 R3 R4 R5:List ao} {K:Value→World→Prop} {p:Nat} {s:cX}
theorem c279 {id:Int} {now:Nat} (hi:cM id) (b:Bool) (hb:b=true→aB s.S id≠none) (y:SH w0 w L) [q:aC (Ta p) L s R]
  (k1: ∀ s' w',s'.count=s.count→SH w0 w' (Ta p s'::R)→K (.tuple #[kK 0 0 0 0 0 0 0 0 0 false false 0,.bool false]) w')
  (k2:b=true→ ∀ f due i j,aB s.S id=some f→aB s.ws.T id=some (due,i,j)→(now:Int)<due→ ∀ w',SH w0 w' (Ta p s::R)→K (.tuple #[re f,.bool true]) w'):D 279 [pt p,C5 id,.bool b,C4 now] w K:=by
 refine s279 rfl<|ac<|y.an fun J _ y=>ac<|c327 ‹_› _ ‹_› y (fun w_17 y=>?_) (fun _ _ _ _ _ _ _ _ w_17 y=>?_)
 ·refine y.an fun H w_10 y=>y.aj (b:=H) fun _ y=>aq ?_
  cases b
  ·refine pa 5 rfl<|ak<|ac<|y.Da (b:=H) rfl<|y.aj (b:=J) fun _ y=>ah<|y.Da (b:=J) rfl<|k1 _ _ rfl y.ae
  ·refine Dj<|au ?_
   obtain ⟨f,hf⟩: ∃ f,aB s.S id=some f:=Option.ne_none_iff_exists'.1 (hb rfl)
   exact c122 ‹_› ‹_› y (fun Y _ h_272 y=>ac (y.Da (b:=H) rfl (y.aj (b:=J) fun _ y=>ah (y.Da (b:=J) rfl (k1 Y _ h_272.2.2.2.1 y.ae)))))
 ·refine y.an fun H w_10 y=>y.aj (b:=H) fun _ y=>aq ?_
  cases b
  ·refine pa 5 rfl<|ak<|ac<|y.Da (b:=H) rfl<|y.aj (b:=J) fun w_39 y=>ah<|y.Da (b:=J) rfl<|k2 ‹_› _ _ _ _ ‹_› ‹_› ‹_› _ y.ae
  ·refine Dj<|ak<|ac<|y.Da (b:=H) rfl<|y.aj (b:=J) fun w_39 y=>ah<|y.Da (b:=J) rfl<|k2 rfl _ _ _ _ ‹_› ‹_› ‹_› _ y.ae
theorem c282 {id:Int} {wb sb:Nat} {cs:List Value} {a b c d:Nat} {S:List (Int × gC)} {ws:bQ} {pr ia xa pp ib xb J Y s3:Int} {s4 s5:Bool} {l:Int} (hi:cM id) (hl:0≤l∧l≤2305843009213693952) (ht:a≤4294967296∧b≤4294967296∧c≤4294967296∧d≤4294967296) {c0 c1 c2 c3 c9 c10 c11 c12 c14:Value}
  (y:SH w0 w L) [q:aR L p 283 cs R] (hcs:cs=[c0,c1,c2,c3,C4 a,C4 b,C4 c,C4 d,.map (some sb),c9,c10,c11,c12,pt wb,c14]) [q2:bP R sb dH S R2] [q3:aC (a8 wb) R2 ws R3]
  (k: ∀ ws' w',(ws'.now=ws.now∧ ∀ u,aB ws'.T u≠none→u=id∨aB ws.T u≠none)→SH w0 w' (Cl p 283 cs::Mt dH sb (aF S id (pr,(ia,xa),pp,(ib,xb),(J,Y,s3,s4,s5),l))::a8 wb ws'::R3)→K (.tuple #[]) w'):D 282 [pt p,C5 id,kK pr ia xa pp ib xb J Y s3 s4 s5 l] w K:=by
 subst hcs
 have y:SH w0 w (Cl p 283 [c0,c1,c2,c3,C4 a,C4 b,C4 c,C4 d,.map (some sb),c9,c10,c11,c12,pt wb,c14]::Mt dH sb S::a8 wb ws::R3):=y.perm (q.perm.trans ((q2.perm.trans (q3.perm.cons _)).cons _))
 obtain ⟨ln,rfl⟩: ∃ n:Nat,l=n:=⟨l.toNat,by omega⟩
 refine s282 rfl<|ac<|y.az [C1 pr,C3 ia,C2 xa,C2 pp,C3 ib,C2 xb,C1 J,C1 Y,C1 s3,.bool s4,.bool s5,C4 ln] fun H _ y=>aJ<|have y:=y.drew;y.C9 (b:=p) rfl<|y.Da (b:=H) rfl<|d' (fc (vv:= .agg #[C1 pr,C3 ia,C2 xa,C2 pp,C3 ib,C2 xb,C1 J,C1 Y,C1 s3,.bool s4,.bool s5,C4 ln]) rfl rfl rfl rfl (by omega) y fun _ y=>cv ?_)
 have y:=y.drew
 refine y.C9 (b:=p) rfl<|y.C9 (b:=H) rfl ⟨_,y.ar (b:=H) [C1 J,C1 Y,C1 s3,.bool s4,.bool s5],⟨_,y.ar (b:=p) [C4 a,C4 b,C4 c,C4 d],c334 y (fun z_26 _ _ y=>⟨⟨⟨_,y.ar (b:=p) _,rfl⟩,⟨⟨_,y.ar (b:=H) _,rfl⟩,⟨y.ld (b:=H) rfl,⟨y.ld (b:=p) rfl,trivial⟩⟩⟩⟩,⟨((ln+z_26:Nat):Int),(IntWalk.u64_in _ (by omega)).trans (by omega),c198 ‹_› (by omega) y (fun _ s'_28 _ _ y=>k _ _ ‹_› y.ae)⟩⟩)⟩⟩
theorem wrap_u16 (z:Int):bz (IntKind.u16.wrap z):=by simp [IntKind.wrap,IntKind.bits,IntKind.signed];omega
theorem dM.qI (h:dM s) {M:List ((Int × Int × Int) × (Int × Int))} (y: ∀ q∈M,bz q.2.1) {q1 q6 q7:dB} :dM { s with M:=M,q1:=q1,q6:=q6,q7:=q7 } :=⟨h.flow,h.ids,h.outs,h.ins,y,h.len,h.now,h.keys,h.bnd,h.cnt⟩
theorem c332 {pr ia xa:Int} (hp:vB pr) (hr:cN ia∧bz xa) (y:SH w0 w L) [q:aC (Ta p) L s R] [hz:cL R]
  (k1: ∀ (m:Int) (n:Int) M q1 q6 q7 w',bz m→SH w0 w' (Ta p { s with M:=M,q1:=q1,q6:=q6,q7:=q7 } ::R)→K (.tuple #[.agg #[.int .u16 m,.int .i64 n],.int .i64 0]) w')
  (k2: ∀ (m n e:Int),e≠0→ ∀ w',SH w0 w' (Ta p s::R)→K (.tuple #[.agg #[.int .u16 m,.int .i64 n],.int .i64 e]) w'):D 332 [pt p,.agg #[.int .u8 pr,.int .u32 ia,.int .u16 xa]] w K:=by
 obtain ⟨hs,y⟩:=SH.ta y p
 have fin: ∀ (m n:Int) (M:List ((Int × Int × Int) × (Int × Int))) (q1 q6 q7:dB) w',bz m→(∀ q∈M,bz q.2.1)→SH w0 w' (Cl p 283 (jT s)::Mt dH s.sb s.S::Mt eQ s.ub s.U::Mt eR s.ib s.I::Mt gz s.mb M::Mt dS s.rb (gW s)::ck s.r1 q1::ck s.r6 q6::ck s.r7 q7::a8 s.wb s.ws::R)→K (.tuple #[.agg #[.int .u16 m,.int .i64 n],.int .i64 0]) w':=fun m n M q1 q6 q7 w' hm hM y=>
  k1 m n M q1 q6 q7 w' hm (SH.df (s:= { s with M:=M,q1:=q1,q6:=q6,q7:=q7 }) y (hs.qI hM))
 have g11:gz.good (pr,ia,xa):=⟨by omega,hr.1,hr.2⟩
 refine s332 rfl<|ac<|y.az [.int .u8 pr,.int .u32 ia,.int .u16 xa] fun H _ y=>y.an fun Y _ y=>?_
 refine bt ([6,7]++List.range' 10 9) rfl [0,3,4,6,7] (fun (x:Nat × Int × Int × Bool)=>[pt p,pt H,pt Y,pt x.1,.bool x.2.2.2]) (fun x w'=>bz x.2.1∧SH w0 w' (Cl x.1 339 [.int .u16 x.2.1,.int .i64 x.2.2.1]::Cl H 331 [.int .u8 pr,.int .u32 ia,.int .u16 xa]::Cl Y 339 [.int .u16 0,.int .i64 0]::Cl p 283 (jT s)::Mt dH s.sb s.S::Mt eQ s.ub s.U::Mt eR s.ib s.I::Mt gz s.mb s.M::Mt dS s.rb (gW s)::ck s.r1 s.q1::ck s.r6 s.q6::ck s.r7 s.q7::a8 s.wb s.ws::R)) ?_ ?_
 ·refine cv<|have y:=y.drew;y.C9 (b:=p) rfl<|y.Da (b:=H) rfl<|dh (k:=(pr,ia,xa)) rfl rfl rfl g11 y (fun h_16=>?_) (fun v_16 h_16=>?_)
  ·exact Du [0,3,4,5,16] [pt p,pt H,pt Y,.int .i64 0,.tuple #[.agg #[.int .u16 0,.int .i64 0],.bool false]] fun g=>y.an fun J w_6 y=>⟨⟨jK rfl rfl rfl (by omega) y (by assumption),⟨⟨_,y.af (b:=H) rfl,rfl⟩,⟨y.ld (b:=p) rfl,trivial⟩⟩⟩,y.aj (b:=J) fun _ y=>⟨⟨jK rfl rfl rfl (by omega) y (by assumption),⟨⟨_,y.af (b:=H) rfl,rfl⟩,⟨y.ld (b:=p) rfl,trivial⟩⟩⟩,⟨(J,0,0,false),rfl,⟨(show (0:Int)≤0∧(0:Int)<65536 by decide),y.ae⟩⟩⟩⟩
  ·exact Du [0,3,4,5,16] [pt p,pt H,pt Y,.int .i64 0,.tuple #[.agg #[.int .u16 v_16.fst,.int .i64 v_16.snd],.bool true]] fun g=>y.an fun J w_6 y=>⟨⟨dC rfl rfl rfl (by omega) y (by assumption),⟨⟨_,y.af (b:=H) rfl,rfl⟩,⟨y.ld (b:=p) rfl,trivial⟩⟩⟩,y.aj (b:=J) fun _ y=>⟨⟨dC rfl rfl rfl (by omega) y (by assumption),⟨⟨_,y.af (b:=H) rfl,rfl⟩,⟨y.ld (b:=p) rfl,trivial⟩⟩⟩,⟨(J,v_16.1,v_16.2,true),rfl,⟨hs.ports _ (cU h_16),y.ae⟩⟩⟩⟩
 rintro g ⟨J,m,n,b⟩ w5 ⟨hm,y⟩
 simp only at hm y
 obtain ⟨xn,rfl⟩: ∃ n:Nat,xa=n:=⟨xa.toNat,by omega⟩
 refine bt ([4,5,8,9]++List.range' 19 35) rfl [0,3,4,6] (fun (_:Int × Int × dB × dB × dB)=>[pt p,pt H,pt Y,pt J]) (fun x w'=>bz x.1∧SH w0 w' (Cl J 339 [.int .u16 x.1,.int .i64 x.2.1]::Cl H 331 [.int .u8 pr,.int .u32 ia,.int .u16 xn]::Cl Y 339 [.int .u16 0,.int .i64 0]::Cl p 283 (jT s)::Mt dH s.sb s.S::Mt eQ s.ub s.U::Mt eR s.ib s.I::Mt gz s.mb s.M::Mt dS s.rb (gW s)::ck s.r1 x.2.2.1::ck s.r6 x.2.2.2.1::ck s.r7 x.2.2.2.2::a8 s.wb s.ws::R)) ?_ ?_
 ·refine ac ?_
  cases b
  ·refine Dj<|ai<|fV<|have y:=y.drew;y.C9 (b:=p) rfl ⟨_,iz rfl rfl y,y.C9 (b:=p) rfl (ap (fun h_31=>?_) (fun h_31=>?_))⟩
   ·refine ac<|y.Da (b:=J) rfl<|y.aj (b:=Y) fun _ y=>ah<|y.Da (b:=Y) rfl<|k2 _ _ _ (by omega) _ (SH.df y.ae hs)
   refine ak<|aJ<|have y:=y.drew;y.C9 (b:=p) rfl<|y.C9 (b:=H) rfl ?_
   rcases hp with rfl | rfl | rfl
   ·have h2:aB (gW s) 6=some s.r6:=rfl
    refine ⟨_,dC rfl rfl rfl (by omega) y h2,y.C9 (b:=H) rfl (Db (c367 (b:=s.r6) (x:=xn) (by omega) y (fun q z hz w9 y=>?_) (fun e he w9 y=>?_)))⟩
    ·exact ⟨⟨y.ld (b:=H) rfl,⟨dC rfl rfl rfl (by omega) y (by assumption),⟨y.ld (b:=H) rfl,⟨y.ld (b:=p) rfl,trivial⟩⟩⟩⟩,aq (Dh (ak (au (Dj (y.aN (b:=J) [.int .u16 (IntKind.u16.wrap ↑z)] [.int .u16 (IntKind.u16.wrap ↑z),.int .i64 n] fun w_61 y=>⟨(IntKind.u16.wrap z,n,s.q1,q,s.q7),rfl,⟨wrap_u16 _,y.ae⟩⟩)))))⟩
    ·refine ⟨⟨y.ld (b:=H) rfl,⟨dC rfl rfl rfl (by omega) y (by assumption),⟨y.ld (b:=H) rfl,⟨y.ld (b:=p) rfl,trivial⟩⟩⟩⟩,aq (Dg (ac (y.Da (b:=J) rfl (y.aj (b:=Y) fun w_60 y=>ah (y.Da (b:=Y) rfl (k2 _ _ _ (by omega) _ (SH.df y.ae hs)))))))⟩
   ·have h2:aB (gW s) 17=some s.r7:=rfl
    refine ⟨_,dC rfl rfl rfl (by omega) y h2,y.C9 (b:=H) rfl (Db (c367 (b:=s.r7) (x:=xn) (by omega) y (fun q z hz w9 y=>?_) (fun e he w9 y=>?_)))⟩
    ·exact ⟨⟨y.ld (b:=H) rfl,⟨dC rfl rfl rfl (by omega) y (by assumption),⟨y.ld (b:=H) rfl,⟨y.ld (b:=p) rfl,trivial⟩⟩⟩⟩,aq (Dh (ak (au (Dj (y.aN (b:=J) [.int .u16 (IntKind.u16.wrap ↑z)] [.int .u16 (IntKind.u16.wrap ↑z),.int .i64 n] fun w_61 y=>⟨(IntKind.u16.wrap z,n,s.q1,s.q6,q),rfl,⟨wrap_u16 _,y.ae⟩⟩)))))⟩
    ·refine ⟨⟨y.ld (b:=H) rfl,⟨dC rfl rfl rfl (by omega) y (by assumption),⟨y.ld (b:=H) rfl,⟨y.ld (b:=p) rfl,trivial⟩⟩⟩⟩,aq (Dg (ac (y.Da (b:=J) rfl (y.aj (b:=Y) fun w_60 y=>ah (y.Da (b:=Y) rfl (k2 _ _ _ (by omega) _ (SH.df y.ae hs)))))))⟩
   ·have h2:aB (gW s) 1=some s.r1:=rfl
    refine ⟨_,dC rfl rfl rfl (by omega) y h2,y.C9 (b:=H) rfl (Db (c367 (b:=s.r1) (x:=xn) (by omega) y (fun q z hz w9 y=>?_) (fun e he w9 y=>?_)))⟩
    ·exact ⟨⟨y.ld (b:=H) rfl,⟨dC rfl rfl rfl (by omega) y (by assumption),⟨y.ld (b:=H) rfl,⟨y.ld (b:=p) rfl,trivial⟩⟩⟩⟩,aq (Dh (ak (au (Dj (y.aN (b:=J) [.int .u16 (IntKind.u16.wrap ↑z)] [.int .u16 (IntKind.u16.wrap ↑z),.int .i64 n] fun w_61 y=>⟨(IntKind.u16.wrap z,n,q,s.q6,s.q7),rfl,⟨wrap_u16 _,y.ae⟩⟩)))))⟩
    ·refine ⟨⟨y.ld (b:=H) rfl,⟨dC rfl rfl rfl (by omega) y (by assumption),⟨y.ld (b:=H) rfl,⟨y.ld (b:=p) rfl,trivial⟩⟩⟩⟩,aq (Dg (ac (y.Da (b:=J) rfl (y.aj (b:=Y) fun w_60 y=>ah (y.Da (b:=Y) rfl (k2 _ _ _ (by omega) _ (SH.df y.ae hs)))))))⟩
  ·exact Dj<|ai<|ak ⟨(m,n,s.q1,s.q6,s.q7),rfl,⟨hm,y.ae⟩⟩
 rintro g ⟨m,n,q1,q6,q7⟩ w6 ⟨hm,y⟩
 simp only at hm y
 have hM: ∀ q∈aF s.M (pr,ia,(xn:Int)) (m,IntKind.i64.wrap (n+1)),bz q.2.1:=fun q hq=>by
  rcases kD hq with h | h
  ·rw [h];exact hm
  ·exact hs.ports q h
 exact ac<|y.C9 (b:=J) rfl<|Dj<|y.aN (b:=J) [.int .i64 (IntKind.i64.wrap (n+1))] [.int .u16 m,.int .i64 (IntKind.i64.wrap (n+1))] fun _ y=>aJ<|have y:=y.drew;y.C9 (b:=p) rfl<|y.Da (b:=H) rfl<|y.Da (b:=J) rfl<|d' (fc (vv:= .agg #[.int .u16 m,.int .i64 (IntKind.i64.wrap (n+1))]) rfl rfl rfl rfl (by omega) y fun _ y=>ac (y.Da (b:=J) rfl (y.aj (b:=Y) fun _ y=>ah (y.Da (b:=Y) rfl (fin m _ _ q1 q6 q7 _ hm hM y.ae)))))
end
end Go.Proofs.YtlhpilgmeededaaGreatDoor
namespace Go.Den
open Go Go.RowKit
open Go.ChangeMaps (setBlock heap_setBlock_same heap_setBlock_other modify_eq_set)
section
variable {P:Program} {T:bN P} {es:Array MapEntry} {clock:Nat} {m:List (T.κ × T.ν)} {k:T.κ} {u v:T.ν}
theorem eL.push (H:eL T es clock m) (h2: ∀ v,(k,v) ∉ m) (hk:T.good k) (u:T.ν):eL T (es.push ⟨T.ek k,T.en u,clock⟩) (clock+1) (aF m k u):=by
 refine ⟨?_,?_,H.apart.set k u,?_,?_⟩
 ·rw [iq h2];simp [H.list]
 ·rw [iq h2];intro q Y;simp only [List.mem_append,List.mem_singleton] at Y;rcases Y with Y | rfl;exact H.good q Y;exact hk
 ·simp only [Array.toList_push,List.map_append,List.map_cons,List.map_nil,List.nodup_append,List.mem_map,List.mem_singleton]
  refine ⟨H.stamp,by simp,?_⟩
  rintro _ ⟨y,J,rfl⟩ _ rfl e
  have:=H.born y J
  omega
 ·intro y J
  simp only [Array.toList_push,List.mem_append,List.mem_singleton] at J
  rcases J with J | rfl
  ·have:=H.born y J;omega
  ·exact Nat.lt_succ_self _
theorem eL.put (J:eL T es clock m) (hk:T.good k) {j:Nat} {e0:MapEntry} (h2:es.toList[j]?=some e0) (h3:e0.key=T.ek k) (h4:m[j]?=some (k,v)) (u:T.ν):eL T (es.modify j fun e=> { e with val:=T.en u }) clock (aF m k u):=by
 have hlist:(es.modify j (fun e=> { e with val:=T.en u })).toList=es.toList.set j { e0 with val:=T.en u } :=by rw [Array.toList_modify,modify_eq_set _ _ _ _ h2]
 have hin:m.any (fun p=>decide (p.1=k))=true:=jE.2 ⟨v,List.mem_of_getElem? h4⟩
 have hset:aF m k u=m.set j (k,u):=by
  rw [aF,if_pos hin]
  apply List.ext_getElem?
  intro i
  rw [List.getElem?_map,List.getElem?_set]
  by_cases Y:j=i
  ·subst Y
   have H:j<m.length:=(List.getElem?_eq_some_iff.1 h4).1
   have hm4:m[j]=(k,v):=(List.getElem?_eq_some_iff.1 h4).2
   simp [H,hm4]
  ·simp only [Y,if_false]
   cases hi2:m[i]? with
   | none=>rfl
   | some q=>
    simp only [Option.map_some,Option.some.injEq]
    rw [if_neg]
    intro hq
    have h5:(m.map Prod.fst)[j]?=some k:=by rw [List.getElem?_map,h4];rfl
    have h6:(m.map Prod.fst)[i]?=some k:=by rw [List.getElem?_map,hi2,←hq];rfl
    have H:i<(m.map Prod.fst).length:=(List.getElem?_eq_some_iff.1 h6).1
    have hlt':j<(m.map Prod.fst).length:=(List.getElem?_eq_some_iff.1 h5).1
    exact Y ((List.getElem_inj (h₀:=hlt') (h₁:=H) J.apart).1 (by rw [(List.getElem?_eq_some_iff.1 h5).2,(List.getElem?_eq_some_iff.1 h6).2]))
 refine ⟨?_,?_,J.apart.set k u,?_,?_⟩
 ·rw [hlist,hset,List.map_set,List.map_set,J.list]
  simp [h3]
 ·intro q hq
  rw [hset] at hq
  rcases List.mem_or_eq_of_mem_set hq with hq | rfl
  ·exact J.good q hq
  ·exact hk
 ·rw [hlist,List.map_set]
  have:(es.toList.map (·.born)).set j e0.born=es.toList.map (·.born):=by
   apply List.ext_getElem?
   intro i
   rw [List.getElem?_set]
   split
   ·rename_i e;subst e
    have H:j<es.toList.length:=(List.getElem?_eq_some_iff.1 h2).1
    rw [List.getElem?_map,h2]
    simp at H
    simp [H]
   ·rfl
  rw [this]
  exact J.stamp
 ·intro y hy
  rw [hlist] at hy
  rcases List.mem_or_eq_of_mem_set hy with hy | rfl
  ·exact J.born y hy
  ·exact J.born e0 (List.mem_of_getElem? h2)
theorem AM (a b:T.ν):aF (aF m k a) k b=aF m k b:=by
 by_cases y:m.any (fun p=>decide (p.1=k))=true
 ·have H:(aF m k a).any (fun p=>decide (p.1=k))=true:=jE.2 ⟨a,gr.2 (.inl ⟨rfl,rfl⟩)⟩
  rw [aF,if_pos H,aF,if_pos y,aF,if_pos y,List.map_map]
  refine List.map_congr_left fun q _=>?_
  simp only [Function.comp]
  split
  ·rw [if_pos rfl]
  ·rfl
 ·rw [iq (jF y),iq (jF y)]
  have H:(m++[(k,a)]).any (fun p=>decide (p.1=k))=true:=jE.2 ⟨a,by simp⟩
  rw [aF,if_pos H,List.map_append]
  have:m.map (fun p=>if p.1=k then (k,b) else p)=m:=by
   conv=>rhs;rw [←List.map_id m]
   refine List.map_congr_left fun q J=>?_
   rw [if_neg fun e=>jF y q.2 (by rw [←e];exact J)]
   rfl
  rw [this]
  simp
end
def Me {P:Program} (T:bN P) (b:Nat) (m:List (T.κ × T.ν)) (k:T.κ) (st:Nat):ao where
 ex:=fun x=>x=b
 sh:=fun _=>False
 holds:=fun w=> ∃ es clock,w.heap[b]?=some (.map es clock)∧T.good k∧cn m∧ ∃ (v0:T.ν) (j:Nat) (e0:MapEntry),eL T es clock (aF m k v0)∧es.toList[j]?=some e0∧e0.born=st∧e0.key=T.ek k∧(aF m k v0)[j]?=some (k,v0)
 loc:=fun w w' h ⟨es,clock,q,H⟩=>⟨es,clock,(h b (.inl rfl)).trans q,H⟩
 dom:=fun w ⟨es,clock,q,_⟩ x y=>by rcases y with rfl | y;exact eT q;exact y.elim
class oR {P:Program} (L:List ao) (b:Nat) (T:outParam (bN P)) (m:outParam (List (T.κ × T.ν))) (k:outParam T.κ) (st:outParam Nat) (R:outParam (List ao)):Prop where
 perm:L.Perm (Me T b m k st::R)
instance meHead {P:Program} (b:Nat) (T:bN P) (m:List (T.κ × T.ν)) (k:T.κ) (st:Nat) (L:List ao):oR (Me T b m k st::L) b T m k st L:=⟨.refl _⟩
instance (priority:=low) meTail {P:Program} (A:ao) (L:List ao) (b:Nat) (T:bN P) (m:List (T.κ × T.ν)) (k:T.κ) (st:Nat) (R:List ao) [h:oR L b T m k st R]:oR (A::L) b T m k st (A::R):=⟨(h.perm.cons A).trans (.swap _ _ _)⟩
section
variable {P:Program} {T:bN P} {w0 w:World} {L R:List ao} {o:Oper} {f:Fr} {b:Nat} {m:List (T.κ × T.ν)} {t e:TypeId} {z:Value} {x i v:Operand} {C:Value→World→Prop} {k:T.κ} {st:Nat}
theorem SH.rf {A B:ao} (J:SH w0 w (A::R)) {es:Array MapEntry} {clock:Nat} (H: ∀ x,A.ex x↔x=b) (Y: ∀ x,B.ex x↔x=b) (hs: ∀ x,¬B.sh x) (h:B.holds (setBlock w b (.map es clock))):SH w0 (setBlock w b (.map es clock)) (B::R):=
 SH.cQ (L:=[A]) (L':=[B]) (F:=R) J rfl rfl rfl (by simp [setBlock]) (fun k _ hk=>lr _ (fun e=>hk A (by simp) ((H k).2 e))) (fun C q=>by rcases List.mem_singleton.1 q with rfl;exact h) (by simp) (fun C q x y=>by rcases List.mem_singleton.1 q with rfl;exact .inl ⟨A,by simp,(H x).2 ((Y x).1 y)⟩) (fun C q x y=>by rcases List.mem_singleton.1 q with rfl;exact (hs x y).elim)
theorem vC (ho:o.op= .mapEntry t x i) [h:cR P t T e z] {z0:T.ν} (hz0:T.en z0=z) (hx:ev f x= .map (some b)) (hi:ev f i=T.ek k) (Y:T.good k) (hL:SH w0 w L) [p:bP L b T m R]
  (kk: ∀ v (st:Nat) w',SH w0 w' (Me T b m k st::R)→C (.tuple #[v,C5 st]) w'):aL P o f w C:=by
 obtain ⟨es,clock,J,y⟩:=hL.fY b (T:=T)
 obtain ⟨l,hl⟩:=T.key k Y
 have hL1:=hL.perm p.perm
 have hz':=tC h.zero w
 unfold aL execOp
 simp only [ho,hx,hi]
 rcases y.find w Y with ⟨h1,H⟩ | ⟨j,e0,v,h1,H,h3,h4⟩
 ·have hrun:(Instr.mapEntry t (.map (some b)) (T.ek k)).run P w= .ok (.tuple #[z,C5 (clock:Nat)]) (setBlock w b (.map (es.push ⟨T.ek k,z,clock⟩) (clock+1))):=by
   simp [Instr.mapEntry,run_underlying h.und,MapKept.run_getObj_map J,T.keyed.check w false hl,h1,hz',MapKept.run_setObj_map _ J,Result.andThen,setBlock,goInt]
  simp only [Sem.run_bind,hrun,Result.andThen_ok,Sem.run_pure,bc]
  refine kk _ clock _ (SH.rf hL1 (fun x=>Iff.rfl) (fun x=>Iff.rfl) (fun _ h=>h) ⟨_,_,heap_set J _,Y,y.apart,z0,es.size,⟨T.ek k,z,clock⟩,?_,by simp,rfl,rfl,?_⟩)
  ·have:=y.push H Y z0
   rwa [hz0] at this
  ·rw [iq H]
   have e:es.size=m.length:=y.length
   simp [e]
 ·have hj:es[j]?=some e0:=by simpa using H
  have hsame:es.modify j (fun e=> { e with key:=T.ek k })=es:=by
   apply Array.ext'
   rw [Array.toList_modify,modify_eq_set _ _ _ _ H]
   have:({ e0 with key:=T.ek k } :MapEntry)=e0:=by rw [←h3]
   rw [this]
   apply List.ext_getElem?
   intro i
   rw [List.getElem?_set]
   split
   ·rename_i e;subst e
    have hlt:=(List.getElem?_eq_some_iff.1 H).1
    simp at hlt
    simp [hlt,←H]
   ·rfl
  have hset:aF m k v=m:=by
   rw [aF,if_pos (jE.2 ⟨v,List.mem_of_getElem? h4⟩)]
   conv=>rhs;rw [←List.map_id m]
   refine List.map_congr_left fun q hq=>?_
   split
   ·rename_i e
    have h5:=y.apart.get (List.mem_of_getElem? h4)
    have h6:=y.apart.get (k:=q.1) (v:=q.2) hq
    rw [e,h5] at h6
    injection h6 with h6
    show (k,v)=q
    rw [h6,←e]
   ·rfl
  have hrun:(Instr.mapEntry t (.map (some b)) (T.ek k)).run P w= .ok (.tuple #[T.en v,C5 (e0.born:Nat)]) (setBlock w b (.map es clock)):=by
   simp [Instr.mapEntry,run_underlying h.und,MapKept.run_getObj_map J,T.keyed.check w false hl,h1,hj,h3,T.keyed.stays w hl,hsame,MapKept.run_setObj_map _ J,Result.andThen,setBlock,goInt]
  simp only [Sem.run_bind,hrun,Result.andThen_ok,Sem.run_pure,bc]
  refine kk _ e0.born _ (SH.rf hL1 (fun x=>Iff.rfl) (fun x=>Iff.rfl) (fun _ h=>h) ⟨_,_,heap_set J _,Y,y.apart,v,j,e0,?_,H,rfl,h3,?_⟩)
  ·rw [hset];exact y
  ·rw [hset];exact h4
theorem vD {s:Operand} {u:T.ν} (ho:o.op= .entryStore t x s v) (hx:ev f x= .map (some b)) (hs:ev f s=C5 st) (hv:ev f v=T.en u) (hL:SH w0 w L) [p:oR L b T m k st R]
  (kk: ∀ H,SH w0 H (Mt T b (aF m k u)::R)→C undef H):aL P o f w C:=by
 have hL1:=hL.perm p.perm
 obtain ⟨es,clock,q,hk,hap,v0,j,e0,J,Y,y,h3,h4⟩:=hL1.holds (Me T b m k st) (.head _)
 subst y
 have hidx:es.findIdx? (fun e=>((e.born:Nat):Int)==((e0.born:Nat):Int))=some j:=by
  rw [Go.WideElems.findIdx_arr]
  exact Go.WideElems.findIdx_born J.stamp Y
 have hput:=J.put hk Y h3 h4 u
 rw [AM] at hput
 have hrun:(Instr.entryStore t (.map (some b)) (C5 (e0.born:Nat)) (T.en u)).run P w= .ok () (setBlock w b (.map (es.modify j fun e=> { e with val:=T.en u }) clock)):=by
  simp [Instr.entryStore,MapKept.run_getObj_map q,asInt,asIntOf,hidx,MapKept.run_setObj_map _ q,Result.andThen,setBlock]
 unfold aL execOp
 simp only [ho,hx,hs,hv,Sem.run_bind,hrun,Result.andThen_ok,Sem.run_pure,bc]
 exact kk _ (SH.rf hL1 (fun x=>Iff.rfl) (fun x=>Iff.rfl) (fun _ h=>h) ⟨_,_,heap_set q _,hput⟩)
end
end Go.Den
namespace Go.Proofs.YtlhpilgmeededaaGreatDoor
open Go Go.Den Go.RowKit Go.Proofs
set_option maxHeartbeats 4000000
set_option maxRecDepth 8000
attribute [local irreducible] ay aQ aH aY a6 aW
theorem dM.begin {s:cX} (h:dM s) (J:cn s.S) {f:gC} (hf:kL f) (hlen:(s.S.length:Int)<s.flows) {ws:bQ} (Y:ws.now=s.ws.now∧ ∀ u,aB ws.T u≠none→u=s.count+1∨aB s.ws.T u≠none):
  dM { s with S:=aF s.S (s.count+1) f,U:=aF s.U (iG f) (s.count+1),I:=aF s.I (iH f) (s.count+1),ws:=ws,count:=s.count+1 } :=by
 have hold: ∀ i g,aB s.S i=some g→aB (aF s.S (s.count+1) f) i=some g:=fun i g y=>by
  have:=h.ids _ (cU y)
  rw [fq J,if_neg]
  ·exact y
  ·simp only at this;omega
 have hnew:aB (aF s.S (s.count+1) f) (s.count+1)=some f:=by rw [fq J,if_pos rfl]
 have hc:=h.cnt
 refine ⟨fun q H=>?_,fun q H=>?_,fun q H=>?_,fun q H=>?_,h.ports,oC h.len fun _=>hlen,Y.1.trans h.now,fun u hu=>?_,h.bnd,by show 0≤s.count+1;omega⟩
 ·rcases kD H with e | e
  ·rw [e];exact hf
  ·exact h.flow q e
 ·rcases (gr (k':=q.1) (u:=q.2)).1 H with e | e
  ·show q.1≤s.count+1;omega
  ·have:=h.ids q e.2
   show q.1≤s.count+1;omega
 ·rcases (gr (k':=q.1) (u:=q.2)).1 H with e | e
  ·exact ⟨f,by show aB (aF s.S _ f) q.2=_;rw [e.2];exact hnew,e.1.symm⟩
  ·obtain ⟨g,y,he⟩:=h.outs q e.2
   exact ⟨g,hold _ _ y,he⟩
 ·rcases (gr (k':=q.1) (u:=q.2)).1 H with e | e
  ·exact ⟨f,by show aB (aF s.S _ f) q.2=_;rw [e.2];exact hnew,e.1.symm⟩
  ·obtain ⟨g,y,he⟩:=h.ins q e.2
   exact ⟨g,hold _ _ y,he⟩
 ·show aB (aF s.S (s.count+1) f) u≠none
  rcases Y.2 u hu with e | e
  ·rw [e,hnew];exact fun e=>by cases e
  ·cases y:aB s.S u with
   | none=>exact absurd y (h.keys u e)
   | some g=>rw [hold u g y];exact fun e=>by cases e
section
variable {w0 w:World} {L R R2 R3 R4 R5:List ao} {K:Value→World→Prop} {p:Nat} {s:cX}
theorem c280 {pr ia xa ib xb l fl:Int} (hr:eP pr∧cN ia∧bz xa∧cN ib∧bz xb∧0≤l∧l≤2305843009213693952) (hc:s.count<4611686018427387904) (y:SH w0 w L) [q:aC (Ta p) L s R] [hz:cL R]
  (k: ∀ s' (z e:Int) w',(s.count≤s'.count∧s'.count≤s.count+1)∧bz z→SH w0 w' (Ta p s'::R)→K (.tuple #[.int .u16 z,.int .i64 e]) w'):D 280 [pt p,kK pr ia xa 0 ib xb 0 0 0 false false l,.int .u8 fl] w K:=by
 have k0: ∀ (e:Int) w',SH w0 w' (Ta p s::R)→K (.tuple #[.int .u16 0,.int .i64 e]) w':=fun e w' h=>k s 0 e w' ⟨⟨by omega,by omega⟩,by decide⟩ h
 have y:=y.at (Ta p)
 refine s280 rfl<|ac<|y.az [.int .u8 pr,.int .u32 ia,.int .u16 xa,.int .u16 0,.int .u32 ib,.int .u16 xb,.int .u8 0,.int .u8 0,.int .u8 0,.bool false,.bool false,.int .u64 l] fun H _ y=>ac<|y.C9 (b:=H) rfl<|c331 y (fun h_15 o_15 w_15 y=>?_) (fun _ _ w_15 y=>?_)
 ·refine y.an fun b_8 w_8 y=>y.aj (b:=b_8) fun w_32 y=>aG<|ac<|Dh<|ai<|aJ<|have y:=y.drew;?_
  obtain ⟨hs,y⟩:=SH.ta y p
  refine y.C9 (b:=p) rfl ⟨_,iz rfl rfl y,y.C9 (b:=p) rfl (ap (fun h_33=>?_) (fun h_33=>?_))⟩
  ·have y:=SH.df (p:=p) (s:=s) (R:=R) y.ae hs
   refine ai<|ac<|ah<|k0 _ _ y.ae
  have y:=SH.df (p:=p) (s:=s) (R:=Cl b_8 327 [.int .u8 pr,.int .u8 o_15,.int .u8 0,.bool false,.bool false]::Cl H 329 [.int .u8 pr,.int .u32 ia,.int .u16 xa,.int .u16 0,.int .u32 ib,.int .u16 xb,.int .u8 0,.int .u8 0,.int .u8 0,.bool false,.bool false,.int .u64 l]::R) y.ae hs
  refine ai<|ak<|ac<|y.Da (b:=H) rfl<|c177 y (fun _ y=>c332 (by assumption) (by omega) y (fun J n_38 M_38 q1_38 q6_38 q7_38 w_38 h_387 y=>?_) (fun J n_38 _ _ w_38 y=>?_))
  ·refine y.an fun Y w_10 y=>y.aj (b:=Y) fun _ y=>aq<|Dh<|ak<|ac ?_
   have hcs: ∀ x,x=({ s with M:=M_38,q1:=q1_38,q6:=q6_38,q7:=q7_38 } :cX)→x.count=s.count∧x.S=s.S∧x.flows=s.flows:=fun x e=>by subst e;exact ⟨rfl,rfl,rfl⟩
   generalize hx:({ s with M:=M_38,q1:=q1_38,q6:=q6_38,q7:=q7_38 } :cX)=x at y
   obtain ⟨hc2,hS2,hf2⟩:=hcs x hx.symm
   obtain ⟨hs2,y⟩:=SH.ta y p
   have hA:=y.apart x.sb (T:=dH)
   have hb2:=hs2.bnd
   have hct:=hs2.cnt
   have g9:eQ.good (pr,ia,xa,ib,xb):=⟨hr.1,hr.2.1,hr.2.2.1,hr.2.2.2.1,hr.2.2.2.2.1⟩
   have g10:eR.good (pr,J,ib,xb):=⟨hr.1,h_387,hr.2.2.2.1,hr.2.2.2.2.1⟩
   refine y.C9 (b:=p) rfl<|Db<|y.cp (b:=p) [.int .i64 (x.count+1)] fun _ y=>aJ<|have y:=y.drew;y.C9 (b:=Y) rfl<|y.Da (b:=b_8) rfl<|y.cp (b:=H) [.int .u16 J] fun w_76 y=>⟨⟨⟨_,y.af (b:=b_8) rfl,rfl⟩,⟨y.ld (b:=Y) rfl,trivial⟩⟩,y.cp (b:=H) [.int .u8 pr,.int .u8 o_15,.int .u8 0,.bool false,.bool false] fun w_78 y=>aJ ?_⟩
   have y:=y.drew
   refine y.C9 (b:=p) rfl<|y.Da (b:=H) rfl<|y.C9 (b:=p) rfl<|y.Da (b:=H) rfl<|y.C9 (b:=p) rfl<|y.C9 (b:=p) rfl<|c175 y (fun _ y=>⟨⟨y.ld (b:=p) rfl,⟨y.ld (b:=p) rfl,⟨⟨_,y.af (b:=H) rfl,rfl⟩,⟨y.ld (b:=p) rfl,⟨⟨_,y.af (b:=H) rfl,rfl⟩,⟨y.ld (b:=p) rfl,trivial⟩⟩⟩⟩⟩⟩,c176 y (fun _ y=>⟨⟨y.ld (b:=p) rfl,⟨y.ld (b:=p) rfl,⟨⟨_,y.af (b:=H) rfl,rfl⟩,⟨y.ld (b:=p) rfl,⟨⟨_,y.af (b:=H) rfl,rfl⟩,⟨y.ld (b:=p) rfl,trivial⟩⟩⟩⟩⟩⟩,fy (vC (T:=eQ) (k:=(pr,ia,xa,ib,xb)) (z0:=(0:Int)) rfl rfl rfl rfl g9 y fun _ _ w_76 y=>⟨⟨y.ld (b:=p) rfl,⟨y.ld (b:=p) rfl,⟨⟨_,y.af (b:=H) rfl,rfl⟩,⟨y.ld (b:=p) rfl,⟨⟨_,y.af (b:=H) rfl,rfl⟩,⟨y.ld (b:=p) rfl,trivial⟩⟩⟩⟩⟩⟩,fy (vD (T:=eQ) (u:=x.count+1) rfl rfl rfl rfl y fun _ y=>⟨⟨y.ld (b:=p) rfl,⟨y.ld (b:=p) rfl,⟨⟨_,y.af (b:=H) rfl,rfl⟩,⟨y.ld (b:=p) rfl,⟨⟨_,y.af (b:=H) rfl,rfl⟩,⟨y.ld (b:=p) rfl,trivial⟩⟩⟩⟩⟩⟩,fy (vC (T:=eR) (k:=(pr,J,ib,xb)) (z0:=(0:Int)) rfl rfl rfl rfl g10 y fun _ _ w_78 y=>⟨⟨y.ld (b:=p) rfl,⟨y.ld (b:=p) rfl,⟨⟨_,y.af (b:=H) rfl,rfl⟩,⟨y.ld (b:=p) rfl,⟨⟨_,y.af (b:=H) rfl,rfl⟩,⟨y.ld (b:=p) rfl,trivial⟩⟩⟩⟩⟩⟩,d' (vD (T:=eR) (u:=x.count+1) rfl rfl rfl rfl y fun _ y=>aJ ?_)⟩)⟩)⟩)⟩)⟩)
   have y:=y.drew
   refine y.C9 (b:=p) rfl<|y.Da (b:=H) rfl<|c282 (a:=x.a) (b:=x.b) (c:=x.c) (d:=x.d) (by omega) (by omega) (by omega) y rfl fun ws' _ h_86 y=>?_
   have hok:=hs2.begin hA (f:=(pr,(ia,xa),J,(ib,xb),(pr,o_15,0,false,false),l)) ⟨h_15,hr.2.1,hr.2.2.1,h_387,hr.2.2.2.1,hr.2.2.2.2.1,hr.2.2.2.2.2⟩ (by rw [hS2,hf2];omega) h_86
   exact ac<|y.C9 (b:=Y) rfl<|ah<|k { x with S:=aF x.S (x.count+1) (pr,(ia,xa),J,(ib,xb),(pr,o_15,0,false,false),l),U:=aF x.U (pr,ia,xa,ib,xb) (x.count+1),I:=aF x.I (pr,J,ib,xb) (x.count+1),ws:=ws',count:=x.count+1 } _ _ _ ⟨⟨by show s.count≤x.count+1;omega,by show x.count+1≤s.count+1;omega⟩,h_387⟩ (SH.df y.ae hok)
  ·refine y.an fun Y w_10 y=>y.aj (b:=Y) fun _ y=>aq<|Dg<|ac<|ah<|k0 _ _ y.ae
 ·exact y.an fun b_8 w_8 y=>y.aj (b:=b_8) fun w_32 y=>aG<|ac<|Dg<|ai<|ac<|ah<|k0 _ _ y.ae
end
end Go.Proofs.YtlhpilgmeededaaGreatDoor
namespace Go.Proofs.YtlhpilgmeededaaGreatDoor
open Go Go.Den Go.RowKit Go.Proofs
set_option maxHeartbeats 4000000
set_option maxRecDepth 8000
attribute [local irreducible] ay aQ aH aY a6 aW
theorem dM.keep {s:cX} (h:dM s) (hA:cn s.S) {id:Int} {f g:gC} (hg:aB s.S id=some g) (hf:kL f) (hp:iG f=iG g) (hd:iH f=iH g) {ws:bQ} (hw:ws.now=s.ws.now∧ ∀ u,aB ws.T u≠none→u=id∨aB s.ws.T u≠none):
  dM { s with S:=aF s.S id f,ws:=ws } :=by
 have hold: ∀ i x,aB s.S i=some x→ ∃ y,aB (aF s.S id f) i=some y∧iG y=iG x∧iH y=iH x:=fun i x H=>by
  rw [fq hA]
  split
  ·rename_i e
   rw [e,hg] at H
   cases H
   exact ⟨f,rfl,hp,hd⟩
  ·exact ⟨x,H,rfl,rfl⟩
 refine ⟨fun q J=>?_,fun q J=>?_,fun q J=>?_,fun q J=>?_,h.ports,oC h.len fun e=>?_,hw.1.trans h.now,fun u hu=>?_,h.bnd,h.cnt⟩
 ·rcases kD J with e | e
  ·rw [e];exact hf
  ·exact h.flow q e
 ·rcases (gr (k':=q.1) (u:=q.2)).1 J with e | e
  ·have:=h.ids _ (cU hg)
   show q.1≤s.count
   rw [e.1];exact this
  ·exact h.ids q e.2
 ·obtain ⟨x,H,e⟩:=h.outs q J
  obtain ⟨y,Y,h1,_⟩:=hold _ _ H
  exact ⟨y,Y,h1.trans e⟩
 ·obtain ⟨x,H,e⟩:=h.ins q J
  obtain ⟨y,Y,_,h1⟩:=hold _ _ H
  exact ⟨y,Y,h1.trans e⟩
 ·rw [hg] at e;cases e
 ·show aB (aF s.S id f) u≠none
  rcases hw.2 u hu with e | e
  ·rw [e,fq hA,if_pos rfl];exact fun e=>by cases e
  ·cases hu2:aB s.S u with
   | none=>exact absurd hu2 (h.keys u e)
   | some g2=>obtain ⟨y,Y,_⟩:=hold u g2 hu2;rw [Y];exact fun e=>by cases e
section
variable {w0 w:World} {L R R2 R3 R4 R5:List ao} {K:Value→World→Prop} {p:Nat} {s:cX}
theorem c287 {pr po ia xa:Int} {now:Nat} (hr:eP pr∧bz po∧cN ia∧bz xa) (y:SH w0 w L) [q:aC (Ta p) L s R]
  (k: ∀ (a x:Int) (b:Bool) w',cN a∧bz x→SH w0 w' (Ta p s::R)→K (.tuple #[.agg #[C3 a,C2 x],.bool b]) w'):D 287 [pt p,C1 pr,C2 po,.agg #[C3 ia,C2 xa],C4 now] w K:=by
 obtain ⟨hs,y⟩:=SH.ta y p
 have gk:eR.good (pr,po,ia,xa):=hr
 refine s287 rfl<|ac<|y.az [C3 ia,C2 xa] fun b_8 _ y=>y.an fun H _ y=>?_
 refine bt ([11,12,13]++List.range' 16 12) rfl [0,4,10,12,13] (fun (x:Int × Bool)=>[pt p,C4 now,pt H,C5 x.1,.bool x.2]) (fun x w'=>(cM x.1∧(x.2=true→ ∃ f,aB s.S x.1=some f∧iH f=(pr,po,ia,xa)))∧SH w0 w' (Ta p s::Cl H 325 [C3 0,C2 0]::R)) ?_ ?_
 ·refine cv<|have y:=y.drew;y.C9 (b:=p) rfl<|y.Da (b:=b_8) rfl ⟨rfl,[C1 pr,C2 po,C3 ia,C2 xa],rfl,dh (k:=(pr,po,ia,xa)) rfl rfl rfl gk y (fun Y=>?_) (fun v_25 Y=>?_)⟩
  ·exact ⟨(0,false),rfl,⟨⟨by decide,fun e=>(by cases e)⟩,SH.df y.ae hs⟩⟩
  ·have hv:=hs.ins _ (cU Y)
   have hvi:cM v_25:=by
    obtain ⟨f,hf,_⟩:=hv
    exact y.gv s.sb (T:=dH) _ (cU hf)
   exact ⟨(v_25,true),rfl,⟨⟨hvi,fun _=>hv⟩,SH.df y.ae hs⟩⟩
 rintro g ⟨id,b⟩ w5 ⟨⟨hi,hb⟩,y⟩
 simp only at hi hb y
 have hb':b=true→aB s.S id≠none:=fun e h=>by obtain ⟨f,hf,_⟩:=hb e;rw [h] at hf;cases hf
 refine ac ⟨_,cq,c327 hi b hb' y (fun w_34 y=>?_) (fun _ f _ _ _ hf _ _ w_34 y=>?_)⟩
 ·exact y.an fun J w_14 y=>y.aj (b:=J) fun _ y=>ac ⟨_,y.ar (b:=J) [C3 0,C2 0],y.aj (b:=H) fun _ y=>ah (y.Da (b:=H) rfl (k 0 0 false _ (by decide) y.ae))⟩
 ·have hfo:kL f:=hs.flow _ (cU hf)
  exact y.an fun J w_14 y=>y.aj (b:=J) fun _ y=>ac ⟨_,y.ar (b:=J) [C3 f.snd.fst.fst,C2 f.snd.fst.snd],y.aj (b:=H) fun _ y=>ah (y.Da (b:=H) rfl (k _ _ true _ ⟨hfo.2.1,hfo.2.2.1⟩ y.ae))⟩
theorem c272 {pr ia xa ib xb:Int} {now:Nat} (hr:eP pr∧cN ia∧bz xa∧cN ib∧bz xb) (y:SH w0 w L) [q:aC (Ta p) L s R]
  (k: ∀ (z:Int) (b:Bool) w',bz z→SH w0 w' (Ta p s::R)→K (.tuple #[C2 z,.bool b]) w'):D 272 [pt p,C1 pr,.agg #[C3 ia,C2 xa],.agg #[C3 ib,C2 xb],C4 now] w K:=by
 obtain ⟨hs,y⟩:=SH.ta y p
 have gk:eQ.good (pr,ia,xa,ib,xb):=hr
 refine s272 rfl<|ac<|y.az [C3 ia,C2 xa] fun b_7 _ y=>y.az [C3 ib,C2 xb] fun b_8 _ y=>?_
 refine bt ([10,11,12,13]++List.range' 16 13) rfl [0,4,12,13] (fun (x:Int × Bool)=>[pt p,C4 now,C5 x.1,.bool x.2]) (fun x w'=>(cM x.1∧(x.2=true→ ∃ f,aB s.S x.1=some f∧iG f=(pr,ia,xa,ib,xb)))∧SH w0 w' (Ta p s::R)) ?_ ?_
 ·refine cv<|have y:=y.drew;y.C9 (b:=p) rfl<|y.Da (b:=b_7) rfl ⟨rfl,[C1 pr,C3 ia,C2 xa],rfl,y.Da (b:=b_8) rfl (⟨rfl,[C1 pr,C3 ia,C2 xa,C3 ib,C2 xb],rfl,dh (k:=(pr,ia,xa,ib,xb)) rfl rfl rfl gk y (fun J=>?_) (fun Y J=>?_)⟩)⟩
  ·exact ⟨(0,false),rfl,⟨⟨by decide,fun e=>(by cases e)⟩,SH.df y.ae hs⟩⟩
  ·have hv:=hs.outs _ (cU J)
   have hvi:cM Y:=by
    obtain ⟨f,hf,_⟩:=hv
    exact y.gv s.sb (T:=dH) _ (cU hf)
   exact ⟨(Y,true),rfl,⟨⟨hvi,fun _=>hv⟩,SH.df y.ae hs⟩⟩
 rintro g ⟨id,b⟩ w5 ⟨⟨hi,hb⟩,y⟩
 simp only at hi hb y
 have hb':b=true→aB s.S id≠none:=fun e h=>by obtain ⟨f,hf,_⟩:=hb e;rw [h] at hf;cases hf
 refine ac ⟨_,cq,c327 hi b hb' y (fun w_34 y=>?_) (fun _ f _ _ _ hf _ _ w_34 y=>?_)⟩
 ·exact y.an fun H w_14 y=>y.aj (b:=H) fun _ y=>ac<|y.C9 (b:=H) rfl<|ah<|k 0 false _ (by decide) y.ae
 ·have hfo:kL f:=hs.flow _ (cU hf)
  exact y.an fun H w_14 y=>y.aj (b:=H) fun _ y=>ac<|y.C9 (b:=H) rfl<|ah<|k _ true _ hfo.2.2.2.1 y.ae
theorem c221 {pr po ia xa fl:Int} {now:Nat} (hr:eP pr∧bz po∧cN ia∧bz xa) (y:SH w0 w L) [q:aC (Ta p) L s R]
  (k: ∀ s' (a x e:Int) w',s'.count=s.count∧cN a∧bz x→SH w0 w' (Ta p s'::R)→K (.tuple #[.agg #[C3 a,C2 x],C5 e]) w'):D 221 [pt p,C1 pr,C2 po,.agg #[C3 ia,C2 xa],C1 fl,C4 now] w K:=by
 obtain ⟨hs,y⟩:=SH.ta y p
 have gk:eR.good (pr,po,ia,xa):=hr
 refine s221 rfl<|ac<|y.az [C3 ia,C2 xa] fun b_9 _ y=>y.an fun J _ y=>ac ⟨_,cq,pa 1 rfl ?_⟩
 generalize hm:min now 2305843009213693952=mn
 have hmn:mn≤2305843009213693952:=by omega
 refine bt ([14,15]++List.range' 20 12) rfl [0,4,5,12,14,15] (fun (x:Int × Bool)=>[pt p,C1 fl,C4 mn,pt J,C5 x.1,.bool x.2]) (fun x w'=>(cM x.1∧(x.2=true→ ∃ f,aB s.S x.1=some f∧iH f=(pr,po,ia,xa)))∧SH w0 w' (Ta p s::Cl J 325 [C3 0,C2 0]::R)) ?_ ?_
 ·refine cv<|have y:=y.drew;y.C9 (b:=p) rfl<|y.Da (b:=b_9) rfl ⟨rfl,[C1 pr,C2 po,C3 ia,C2 xa],rfl,dh (k:=(pr,po,ia,xa)) rfl rfl rfl gk y (fun h_25=>?_) (fun v_25 h_25=>?_)⟩
  ·exact ⟨(0,false),rfl,⟨⟨by decide,fun e=>(by cases e)⟩,SH.df y.ae hs⟩⟩
  ·have hv:=hs.ins _ (cU h_25)
   have hvi:cM v_25:=by
    obtain ⟨f,hf,_⟩:=hv
    exact y.gv s.sb (T:=dH) _ (cU hf)
   exact ⟨(v_25,true),rfl,⟨⟨hvi,fun _=>hv⟩,SH.df y.ae hs⟩⟩
 rintro g ⟨id,b⟩ w5 ⟨⟨hi,hb⟩,y⟩
 simp only at hi hb y
 have hb':b=true→aB s.S id≠none:=fun e h=>by obtain ⟨f,hf,_⟩:=hb e;rw [h] at hf;cases hf
 refine ac<|c279 hi b hb' y (fun s' w_34 hc y=>?_) (fun _ f _ _ _ hf _ _ w_34 y=>?_)
 ·exact y.an fun H w_16 y=>y.aj (b:=H) fun _ y=>aq<|Dj<|ac ⟨rfl,[C3 0,C2 0],rfl,y.aj (b:=J) fun _ y=>ah (y.Da (b:=J) rfl (k s' 0 0 17 _ ⟨hc,by decide⟩ y.ae))⟩
 ·have Y:kL f:=hs.flow _ (cU hf)
  obtain ⟨hs,y⟩:=SH.ta y p
  have hA:=y.apart s.sb (T:=dH)
  have hbn:=hs.bnd
  refine y.an fun H w_16 y=>y.aj (b:=H) fun _ y=>aq<|Dj<|ak<|ac ⟨_,y.ar (b:=H) [C1 f.snd.snd.snd.snd.fst.fst,C1 f.snd.snd.snd.snd.fst.snd.fst,C1 f.snd.snd.snd.snd.fst.snd.snd.fst,.bool f.snd.snd.snd.snd.fst.snd.snd.snd.fst,.bool f.snd.snd.snd.snd.fst.snd.snd.snd.snd],c281 y (fun o'_46 i'_46 l'_46 e'_46 _ y=>y.cp (b:=H) [C1 f.snd.snd.snd.snd.fst.fst,C1 o'_46,C1 i'_46,.bool l'_46,.bool e'_46] fun _ y=>y.cp (b:=H) [C4 mn] fun _ y=>ac (y.Da (b:=H) rfl (c282 (a:=s.a) (b:=s.b) (c:=s.c) (d:=s.d) hi (by omega) (by omega) y rfl fun ws' _ h_53 y=>?_)))⟩
  have hok:=hs.keep hA hf (f:=(f.1,f.2.1,f.2.2.1,f.2.2.2.1,(f.2.2.2.2.1.1,o'_46,i'_46,l'_46,e'_46),(mn:Int))) ⟨Y.1,Y.2.1,Y.2.2.1,Y.2.2.2.1,Y.2.2.2.2.1,Y.2.2.2.2.2.1,Int.natCast_nonneg mn,Int.ofNat_le.2 hmn⟩ rfl rfl h_53
  exact ac ⟨_,y.ar (b:=H) [C3 f.snd.fst.fst,C2 f.snd.fst.snd],y.aj (b:=J) fun _ y=>ah (y.Da (b:=J) rfl (k { s with S:=aF s.S id (f.1,f.2.1,f.2.2.1,f.2.2.2.1,(f.2.2.2.2.1.1,o'_46,i'_46,l'_46,e'_46),(mn:Int)),ws:=ws' } _ _ 0 _ ⟨rfl,Y.2.1,Y.2.2.1⟩ (SH.df y.ae hok)))⟩
end
end Go.Proofs.YtlhpilgmeededaaGreatDoor
namespace Go.Proofs.YtlhpilgmeededaaGreatDoor
open Go Go.Den Go.RowKit Go.Proofs
set_option maxHeartbeats 4000000
set_option maxRecDepth 8000
attribute [local irreducible] ay aQ aH aY a6 aW
theorem AN {w:World} {f:Fr} {o:Oper} (y:o.op= .build 277 #[(0,.const (C1 1)),(1,.const (C1 6)),(2,.const (C1 17))]):(execOp (ev f) o).run Tryz.prog w= .ok (.value (.agg #[C1 1,C1 6,C1 17])) w:=by
 have hz:=ij (P:=Tryz.prog) (t:=277) (z:= .agg #[C1 0,C1 0,C1 0]) (by kernel_rfl) w
 have hi:(Tryz.prog.info? 5).map (·.size)=some 1:=iT
 cases q:Tryz.prog.info? 5 with
 | none=>rw [q] at hi;cases hi
 | some inf=>
  rw [q] at hi
  simp at hi
  unfold execOp
  simp [y,hi,Instr.build,hz,run_underlying Tryz.underlying277,eG q,Instr.fill,Value.cells,ev]
theorem rh {w:World} {f:Fr} {o:Oper} {x i:Operand} {n:Nat} (H:o.op= .index 277 x i) (J:ev f x= .agg #[C1 1,C1 6,C1 17]) (hi:ev f i=C5 n) (hn:n<3):(execOp (ev f) o).run Tryz.prog w= .ok (.value (C1 (if n=0 then 1 else if n=1 then 6 else 17))) w:=by
 have q:(Tryz.prog.info? 5).map (·.size)=some 1:=iT
 cases y:Tryz.prog.info? 5 with
 | none=>rw [y] at q;cases q
 | some inf=>
  rw [y] at q
  simp at q
  unfold execOp
  rcases (by omega:n=0∨n=1∨n=2) with rfl | rfl | rfl<;>simp [H,J,hi,Instr.index,run_underlying Tryz.underlying277,eG y,q,asIntOf,part,Tryz.isAgg5]
def ee (maps flows least most:Int) (a b c d:Nat):Prop:=(1≤maps∧maps≤1024∧1≤flows∧flows≤4096)∧mN least most∧gU a b c d
section
variable {w0 w:World} {L R R2 R3 R4 R5:List ao} {K:Value→World→Prop} {p:Nat} {s:cX}
theorem c121 {now:Nat} (hn:now<18446744073709551616) (H:SH w0 w L) [q:aC (Ta p) L s R] [hz:cL R]
  (k: ∀ (ts:List Int) a c Y,(ts.Nodup∧(∀ t∈ts,aB s.S t≠none)∧ ∀ t∈ts,cM t)→SH w0 Y (Row 3 1 (.slice a ts.length c) ts.length (ints ts)::Ta p s::R)→K (.slice a ts.length c) Y):D 121 [pt p,C4 now] w K:=by
 obtain ⟨J,H⟩:=SH.ta H p
 have h0:=J.now
 refine s121 rfl<|ac<|ac<|H.C9 (b:=p) rfl<|c170 ‹_› H (fun p2_12 s2_12 _ y H=>ac ?_)
 have hbn:=J.bnd
 have hl:=J.len
 have h1:=rc ((SH.ec H s.wb).2.apart s.ws.tb (T:=bF)) J.keys
 have h2:=y.2.1.len ((SH.ec H p2_12).2.apart s2_12.tb (T:=bF))
 exact c171 (p:=p2_12) (s:=s2_12) hn (by omega) y.2.2 H (fun ts a c _ Y h H=>ac (ah (k _ _ _ _ ⟨h.1,fun t ht=>J.keys t (y.2.1 t (h.2.1 t ht)),h.2.2⟩ (SH.df (p:=p) (s:=s) (R:=Row 3 1 (.slice a ts.length c) ts.length (ints ts)::R) H.ae J).ae)))
theorem c72 {now:Nat} (Y:SH w0 w L) [q:aC (Ta p) L s R] [hz:cL R]
  (k: ∀ s' (z:Int) w',s'.count=s.count→SH w0 w' (Ta p s'::R)→K (C5 z) w'):D 72 [pt p,C4 now] w K:=by
 have hs0:=(SH.ta Y p).1
 refine s72 rfl<|ac<|ac ⟨_,cq,c121 (by (simp<;>omega)) Y (fun y J c_11 _ H Y=>av (ac (aM ?_)))⟩
 refine bU ([7]++List.range' 14 8) rfl [0,5,12,13,14] (fun (x:Nat × cX)=>[pt p,.slice J y.length c_11,.slice J y.length c_11,C5 y.length,C5 x.1])
  (fun x w'=>(x.1≤y.length∧x.2.count=s.count∧ ∀ t∈y.drop x.1,aB x.2.S t≠none)∧SH w0 w' (Row 3 1 (.slice J y.length c_11) y.length (ints y)::Ta p x.2::R)) (fun x=>y.length - x.1) (0,s) rfl ⟨⟨Nat.zero_le _,rfl,H.2.1⟩,Y⟩ ?_
 rintro g ⟨i,x⟩ w6 ⟨⟨hi,hct,hk⟩,Y⟩
 simp only at hi hct hk Y
 refine ac<|ap (fun h_15=>?_) (fun h_15=>?_)
 rotate_left
 ·exact av<|ai<|aS<|ac<|ah<|k x _ _ hct Y.ae
 have hlen:y.length≤1000000:=by
  have h1:=ni H.1 fun t ht=>kJ.1 (H.2.1 t ht)
  rw [List.length_map] at h1
  have h2:=hs0.len
  have h3:=hs0.bnd
  omega
 obtain ⟨ad_29,rfl⟩:=Y.dW J
 have hlt:i<y.length:=by omega
 obtain ⟨t,ht⟩: ∃ t,y.getD i 0=t:=⟨_,rfl⟩
 have htm:t∈y:=by rw [←ht];exact gV hlt
 have hdr:y.drop i=t::y.drop (i+1):=by
  rw [←ht,List.getD_eq_getElem?_getD,List.getElem?_eq_getElem hlt]
  exact List.drop_eq_getElem_cons hlt
 have hti:=H.2.2 t htm
 obtain ⟨f,hf⟩: ∃ f,aB x.S t=some f:=Option.ne_none_iff_exists'.1 (hk t (by rw [hdr];exact .head _))
 have hnd:(t::y.drop (i+1)).Nodup:=by rw [←hdr];exact H.1.sublist (List.drop_sublist _ _)
 have hA:=(SH.ta Y p).2.apart x.sb (T:=dH)
 refine av<|ai<|ak<|aG<|ac ⟨by omega,_,rfl,⟨C5 t,by rw [←ht];exact Y.fe (ints_at (by omega)),au (c122 hti hf Y fun s' _ h Y=>?_)⟩⟩
 have hk': ∀ u∈y.drop (i+1),aB s'.S u≠none:=fun u hu=>by
  rw [h.1,gu hA,if_neg]
  ·exact hk u (by rw [hdr];exact .tail _ hu)
  ·exact fun e=>(List.nodup_cons.1 hnd).1 (e▸hu)
 exact au<|Db ⟨(i+1,s'),rfl,⟨⟨by show i+1≤_;omega,h.2.2.2.1.trans hct,hk'⟩,Y.ae⟩,by show y.length - (i+1)<y.length - i;omega⟩
theorem c19 {maps flows least most:Int} {a b c d:Nat} (q:SH w0 w L) (k1:ee maps flows least most a b c d→ ∀ w',SH w0 w' L→K (.bool true) w') (k2: ¬ee maps flows least most a b c d→ ∀ w',SH w0 w' L→K (.bool false) w'):
  D 19 [.agg #[C5 maps,C5 flows,C5 least,C5 most,C4 a,C4 b,C4 c,C4 d]] w K:=by
 refine s19 rfl<|ac<|q.az [C5 maps,C5 flows,C5 least,C5 most,C4 a,C4 b,C4 c,C4 d] fun y _ q=>ac<|q.C9 (b:=y) rfl<|q.C9 (b:=y) rfl<|c53 q (fun h_11 _ _ w_11 q=>?_) (fun h_11 w_11 q=>?_)
 ·refine ac<|q.C9 (b:=y) rfl<|ap (fun H=>?_) (fun H=>?_)
  ·refine q.C9 (b:=y) rfl<|ap (fun J=>?_) (fun J=>?_)
   ·refine pa 2 rfl<|q.C9 (b:=y) rfl<|ap (fun Y=>?_) (fun Y=>?_)
    ·refine pa 2 rfl<|q.C9 (b:=y) rfl<|ap (fun h_30=>?_) (fun h_30=>?_)
     ·refine pa 2 rfl<|ac<|Di<|pa 2 rfl ⟨_,q.ar (b:=y) [C4 a,C4 b,C4 c,C4 d],c54 q (fun h_40 w_40 q=>?_) (fun h_40 w_40 q=>?_)⟩
      ·refine pa 2 rfl<|ah<|k1 (by trivial) _ q.ae
      ·refine pa 2 rfl<|ah<|k2 (by (simp [ee, *];done)) _ q.ae
     ·refine pa 2 rfl<|ac<|pa 11 rfl<|ah<|k2 (by (simp [ee, *];done)) _ q.ae
    ·refine pa 7 rfl<|ac<|pa 11 rfl<|ah<|k2 (by (simp [ee, *];done)) _ q.ae
   ·refine pa 12 rfl<|ac<|pa 11 rfl<|ah<|k2 (by (simp [ee, *];done)) _ q.ae
  ·refine pa 16 rfl<|ac<|pa 11 rfl<|ah<|k2 (by (simp [ee, *];done)) _ q.ae
 ·refine ac<|q.C9 (b:=y) rfl<|ap (fun H=>?_) (fun H=>?_)
  ·refine q.C9 (b:=y) rfl<|ap (fun J=>?_) (fun J=>?_)
   ·refine pa 2 rfl<|q.C9 (b:=y) rfl<|ap (fun Y=>?_) (fun Y=>?_)
    ·refine pa 2 rfl<|q.C9 (b:=y) rfl<|ap (fun h_30=>?_) (fun h_30=>?_)
     ·refine pa 2 rfl<|ac<|Dh<|pa 7 rfl<|ah<|k2 (by (simp [ee, *];done)) _ q.ae
     ·refine pa 2 rfl<|ac<|pa 11 rfl<|ah<|k2 (by (simp [ee, *];done)) _ q.ae
    ·refine pa 7 rfl<|ac<|pa 11 rfl<|ah<|k2 (by (simp [ee, *];done)) _ q.ae
   ·refine pa 12 rfl<|ac<|pa 11 rfl<|ah<|k2 (by (simp [ee, *];done)) _ q.ae
  ·refine pa 16 rfl<|ac<|pa 11 rfl<|ah<|k2 (by (simp [ee, *];done)) _ q.ae
theorem c90 {maps flows least most:Int} {a b c d:Nat} (y:SH w0 w L)
  (k1:ee maps flows least most a b c d→ ∀ p s w',(s.count=0∧s.flows=flows∧s.maps=maps)→SH w0 w' (Ta p s::L)→K (.tuple #[pt p,C5 0]) w') (k2: ¬ee maps flows least most a b c d→ ∀ w',SH w0 w' L→K (.tuple #[.pointer none,C5 11]) w'):
  D 90 [.agg #[C5 maps,C5 flows,C5 least,C5 most,C4 a,C4 b,C4 c,C4 d]] w K:=by
 refine s90 rfl<|ac<|y.az [C5 maps,C5 flows,C5 least,C5 most,C4 a,C4 b,C4 c,C4 d] fun J _ y=>aq<|y.Da (b:=J) rfl<|c19 y (fun h_10 w_10 y=>?_) (fun h_10 w_10 y=>?_)
 ·refine Dj<|ak<|ac<|aZ (eZ rfl y fun H _ y=>av (ac (⟨_,AN rfl,aM ?_⟩)))
  have hp:=h_10.2.1
  refine bU ([6,14]++List.range' 15 13) rfl [1,4,13,14] (fun (x:Nat × Nat × dB × Nat × dB × Nat × dB)=>[pt J,.map (some H),.agg #[C1 1,C1 6,C1 17],C5 x.1]) (fun x w'=>(x.1=0∧SH w0 w' (Mt dS H []::Cl J 33 [C5 maps,C5 flows,C5 least,C5 most,C4 a,C4 b,C4 c,C4 d]::L))∨(x.1=1∧SH w0 w' (Mt dS H [(1,x.2.1)]::ck x.2.1 x.2.2.1::Cl J 33 [C5 maps,C5 flows,C5 least,C5 most,C4 a,C4 b,C4 c,C4 d]::L))∨(x.1=2∧SH w0 w' (Mt dS H [(1,x.2.1),(6,x.2.2.2.1)]::ck x.2.1 x.2.2.1::ck x.2.2.2.1 x.2.2.2.2.1::Cl J 33 [C5 maps,C5 flows,C5 least,C5 most,C4 a,C4 b,C4 c,C4 d]::L))∨(x.1=3∧SH w0 w' (Mt dS H [(1,x.2.1),(6,x.2.2.2.1),(17,x.2.2.2.2.2.1)]::ck x.2.1 x.2.2.1::ck x.2.2.2.1 x.2.2.2.2.1::ck x.2.2.2.2.2.1 x.2.2.2.2.2.2::Cl J 33 [C5 maps,C5 flows,C5 least,C5 most,C4 a,C4 b,C4 c,C4 d]::L))) (fun x=>3 - x.1) (0,0,⟨0,0,0,0,0,[]⟩,0,⟨0,0,0,0,0,[]⟩,0,⟨0,0,0,0,0,[]⟩) rfl (.inl ⟨rfl,y⟩) ?_
  rintro g ⟨i,r1,q1,r6,q6,r7,q7⟩ w6 hI
  simp only at hI
  rcases hI with ⟨rfl,y⟩ | ⟨rfl,y⟩ | ⟨rfl,y⟩ | ⟨rfl,y⟩
  ·refine Dv [1,4,13,14] [pt J,.map (some H),.agg #[C1 1,C1 6,C1 17],C5 0] fun g=>ac<|Di<|av<|ai<|ak<|aG<|ac ⟨_,rh (n:=0) rfl rfl rfl (by decide),au (y.C9 (b:=J) rfl (y.C9 (b:=J) rfl (c53 y (fun Y r q w7 y=>aZ (fc (T:=dS) (k:=1) (vv:=pt r) rfl rfl rfl rfl (by omega) y fun w_8 y=>au (Db ?_))) (fun Y w7 y=>absurd hp Y))))⟩
   rw [show aF ([]:List (Int × Nat)) 1 r=[(1,r)] from rfl] at y
   exact ⟨(1,r,q,r6,q6,r7,q7),rfl,Or.inr (Or.inl ⟨rfl,y.ae⟩),by show 3 - 1<3 - 0;decide⟩
  ·refine Dv [1,4,13,14] [pt J,.map (some H),.agg #[C1 1,C1 6,C1 17],C5 1] fun g=>ac<|Di<|av<|ai<|ak<|aG<|ac ⟨_,rh (n:=1) rfl rfl rfl (by decide),au (y.C9 (b:=J) rfl (y.C9 (b:=J) rfl (c53 y (fun Y r q w7 y=>aZ (fc (T:=dS) (k:=6) (vv:=pt r) rfl rfl rfl rfl (by omega) y fun w_8 y=>au (Db ?_))) (fun Y w7 y=>absurd hp Y))))⟩
   rw [show aF [((1:Int),r1)] 6 r=[(1,r1),(6,r)] from rfl] at y
   exact ⟨(2,r1,q1,r,q,r7,q7),rfl,Or.inr (Or.inr (Or.inl ⟨rfl,y.ae⟩)),by show 3 - 2<3 - 1;decide⟩
  ·refine Dv [1,4,13,14] [pt J,.map (some H),.agg #[C1 1,C1 6,C1 17],C5 2] fun g=>ac<|Di<|av<|ai<|ak<|aG<|ac ⟨_,rh (n:=2) rfl rfl rfl (by decide),au (y.C9 (b:=J) rfl (y.C9 (b:=J) rfl (c53 y (fun Y r q w7 y=>aZ (fc (T:=dS) (k:=17) (vv:=pt r) rfl rfl rfl rfl (by omega) y fun w_8 y=>au (Db ?_))) (fun Y w7 y=>absurd hp Y))))⟩
   rw [show aF [((1:Int),r1),(6,r6)] 17 r=[(1,r1),(6,r6),(17,r)] from rfl] at y
   exact ⟨(3,r1,q1,r6,q6,r,q),rfl,Or.inr (Or.inr (Or.inr ⟨rfl,y.ae⟩)),by show 3 - 3<3 - 2;decide⟩
  ·refine Dv [1,4,13,14] [pt J,.map (some H),.agg #[C1 1,C1 6,C1 17],C5 3] fun g=>ac<|Dh<|av<|ai<|aS<|ac<|c88 y (fun p_29 s_29 _ h_293 y=>ac (y.Da (b:=J) rfl (aZ (eZ rfl y fun b_33 _ y=>aZ (eZ rfl y fun b_34 _ y=>aZ (eZ rfl y fun b_35 _ y=>aZ (eZ rfl y fun b_36 _ y=>⟨by kernel_rfl,[C5 maps,C5 flows,C5 least,C5 most,C4 a,C4 b,C4 c,C4 d,Value.map (some b_33),Value.map (some b_34),Value.map (some b_35),Value.map (some b_36),Value.map (some H),pt p_29,C5 0],by kernel_rfl,y.az [C5 maps,C5 flows,C5 least,C5 most,C4 a,C4 b,C4 c,C4 d,Value.map (some b_33),Value.map (some b_34),Value.map (some b_35),Value.map (some b_36),Value.map (some H),pt p_29,C5 0] fun b_40 _ y=>ah ?_⟩)))))))
   have hcf:=h_10
   unfold ee gU at hcf
   have hok:dM ⟨maps,flows,least,most,a,b,c,d,b_33,[],b_34,[],b_35,[],b_36,[],H,r1,q1,r6,q6,r7,q7,p_29,s_29,0⟩:=⟨by simp,by simp,by simp,by simp,by simp,by show ((0:Nat):Int)≤flows;omega,h_293.1,fun _ hu=>by simp only [h_293.2] at hu;exact absurd rfl hu,by show flows≤4096∧a≤4294967296∧b≤4294967296∧c≤4294967296∧d≤4294967296;omega,Int.le_refl 0⟩
   exact k1 h_10 b_40 ⟨maps,flows,least,most,a,b,c,d,b_33,[],b_34,[],b_35,[],b_36,[],H,r1,q1,r6,q6,r7,q7,p_29,s_29,0⟩ _ ⟨rfl,rfl,rfl⟩ (SH.df y.ae hok)
 ·refine Dj<|ac<|ah<|k2 ‹_› _ y.ae
end
end Go.Proofs.YtlhpilgmeededaaGreatDoor
namespace Go.Proofs.YtlhpilgmeededaaGreatDoor
open Go Go.Den
set_option maxHeartbeats 4000000
set_option maxRecDepth 8000
section
structure gX where
 m0:Nat
 m1:Nat
 m2:Nat
 m3:Nat
 m4:Nat
 m5:Nat
 ip:Nat
 bits:Int
 cb:Nat
 c:dT
structure rj (s:gX):Prop where
 bq:bw (bq s.m0 s.m1 s.m2 s.m3 s.m4 s.m5)
 ip:s.ip<4294967296
abbrev jU (s:gX):List Value:=[C1 s.m0,C1 s.m1,C1 s.m2,C1 s.m3,C1 s.m4,C1 s.m5,C3 s.ip,C5 s.bits,pt s.cb]
def Li (p:Nat) (s:gX):ao:=bi ([Cl p 192 (jU s),Ca s.cb s.c]++[Fact (rj s)])
abbrev eE (k:Nat) (pk fr:List Nat):Prop:=num fr 12 2=k∧fr.drop 14=pk∧fr.length=14+pk.length
abbrev oS (s q:gX):Prop:= ∃ c,q= { s with c:=c }
section
variable {w0 w:World} {L R R2:List ao} {K:Value→World→Prop} {p:Nat} {s:gX} {v:Value} {bs:List Nat}
theorem SH.li (y:SH w0 w L) (p:Nat) {s:gX} [q:aC (Li p) L s R]:rj s∧SH w0 w (Cl p 192 (jU s)::Ca s.cb s.c::R):=(y.at (Li p)).kG
theorem SH.dx {p:Nat} {s:gX} (q:SH w0 w (Cl p 192 (jU s)::Ca s.cb s.c::R)) (h:rj s):SH w0 w (Li p s::R):=SH.kH q h
theorem SH.vE {b:Nat} (H:SH w0 w (Ex b::L)): ∃ r,SH w0 w (Er b r::L):=by
 obtain ⟨r,J⟩:=H.holds (Ex b) (.head _)
 refine ⟨r,SH.cQ (L:=[Ex b]) (L':=[Er b r]) (F:=L) H rfl rfl rfl (Nat.le_refl _) (fun _ _ _=>rfl) (fun A q=>?_) (by simp) (fun A q Y y=>?_) (fun A q Y y=>?_)⟩
 ·rcases List.mem_singleton.1 q with rfl
  exact J
 ·rcases List.mem_singleton.1 q with rfl
  exact .inl ⟨_,.head _,y⟩
 ·rcases List.mem_singleton.1 q with rfl
  exact y.elim
theorem AO {t0 t1 t2 t3 t4 t5 f0 f1 f2 f3 f4 f5 kind:Nat} (hk:kind<65536) (bs:List Nat):eE kind bs ([t0,t1,t2,t3,t4,t5]++([f0,f1,f2,f3,f4,f5]++(rowOf 2 [kind]++bs))):=by
 have e:rowOf 2 [kind]=[kind / 256 % 256,kind % 256]:=by simp [rowOf,nb,List.range_succ]
 rw [e]
 refine ⟨?_,rfl,by simp;omega⟩
 show be [kind / 256 % 256,kind % 256]=kind
 simp [be]
 omega
theorem rm {P:Program} {t:cF} {Q:dm} {f:Fr} {w:World} (h:dJ P (Q .normal) t (fun _=>True) f w.drew):ay P (.opsT t) Q f w:=h
attribute [local irreducible] ay aQ aH aY a6 aW aK aV num be over nb rowOf
theorem c46 {H J Y m3 m4 m5 ip cb:Nat} {bits:Int} {cs:dT} (hm:bw (bq H J Y m3 m4 m5)) (hi:ip<4294967296) (y:SH w0 w L) [q:aC (Ca cb) L cs R]
  (k1: ¬iW (bq H J Y m3 m4 m5)→iv ip bits→ ∀ p w',SH w0 w' (Li p ⟨H,J,Y,m3,m4,m5,ip,bits,cb,cs⟩::R)→K (.tuple #[pt p,C5 0]) w')
  (k2: ¬ (¬iW (bq H J Y m3 m4 m5)∧iv ip bits)→ ∀ w',SH w0 w' (Ca cb cs::R)→K (.tuple #[.pointer none,C5 11]) w'):D 46 [.agg #[C1 H,C1 J,C1 Y,C1 m3,C1 m4,C1 m5],iu ip bits,pt cb] w K:=by
 have y:=y.at (Ca cb)
 refine s46 rfl<|ac<|y.az [C1 H,C1 J,C1 Y,C1 m3,C1 m4,C1 m5] fun b_3 _ y=>y.az [C3 ip,C5 bits] fun b_4 _ y=>aq<|y.Da (b:=b_3) rfl<|c17 y ‹_› (fun h_9 w_9 y=>?_) (fun h_9 w_9 y=>?_)
 ·exact pa 5 rfl<|ac<|ah<|k2 (fun h=>h.1 ‹_›) _ y.ae
 ·refine y.Da (b:=b_4) rfl<|c89 y (fun h_12 w_12 y=>?_) (fun h_12 w_12 y=>?_)
  ·exact Dt [2,3,4,6,7,10,12] [pt cb,pt b_3,pt b_4,.pointer none,C5 0,.bool false,.bool true] fun g=>Dj<|ak<|ac<|y.Da (b:=b_3) rfl<|y.Da (b:=b_4) rfl ⟨by kernel_rfl,[C1 H,C1 J,C1 Y,C1 m3,C1 m4,C1 m5,C3 ip,C5 bits,pt cb],by kernel_rfl,y.az [C1 H,C1 J,C1 Y,C1 m3,C1 m4,C1 m5,C3 ip,C5 bits,pt cb] fun b_19 _ y=>ah (k1 ‹_› ‹_› b_19 _ (SH.dx (s:=⟨H,J,Y,m3,m4,m5,ip,bits,cb,cs⟩) y.ae ⟨hm,hi⟩))⟩
  ·exact Dt [2,3,4,6,7,10,12] [pt cb,pt b_3,pt b_4,.pointer none,C5 0,.bool false,.bool false] fun g=>Dj<|ac<|ah<|k2 (fun h=>absurd h.2 ‹_›) _ y.ae
theorem c68 (y:SH w0 w L) [q:aC (Li p) L s R] (k: ∀ H,SH w0 H (Li p s::R)→K (pt s.cb) H):D 68 [pt p] w K:=by
 obtain ⟨J,y⟩:=SH.li y p
 exact s68 rfl<|ac<|ac<|y.C9 (b:=p) rfl<|ah<|k _ (SH.dx y.ae J)
theorem c148 {t0 t1 t2 t3 t4 t5 kind:Nat} (ht:bw (bq t0 t1 t2 t3 t4 t5)) (hk:kind<65536) (y:SH w0 w L) [q:aC (Li p) L s R] [hb:aD R v bs] (hlen:bs.length≤100000)
  (k1:bs.length≤1500→ ∀ fr a c J,eE kind bs fr→SH w0 J (Li p s::By (sl a c fr) fr::R)→K (.tuple #[sl a c fr,.nilIface]) J)
  (k2: ¬bs.length≤1500→ ∀ b J,SH w0 J (Li p s::Ex b::R)→K (.tuple #[.slice none 0 0,bu b]) J):D 148 [pt p,.agg #[.int .u8 t0,.int .u8 t1,.int .u8 t2,.int .u8 t3,.int .u8 t4,.int .u8 t5],.int .u16 kind,v] w K:=by
 obtain ⟨hs,y⟩:=SH.li y p
 have hm:=hs.bq
 obtain ⟨ad,c,rfl,hcap,hB1,hl0⟩:=y.enter (v:=v)
 refine s148 rfl<|ac<|y.az [.int .u8 t0,.int .u8 t1,.int .u8 t2,.int .u8 t3,.int .u8 t4,.int .u8 t5] fun H _ y=>aJ<|have y:=y.drew;y.Da (b:=H) rfl ⟨_,y.ar (b:=p) [.int .u8 s.m0,.int .u8 s.m1,.int .u8 s.m2,.int .u8 s.m3,.int .u8 s.m4,.int .u8 s.m5],⟨by kernel_rfl,[.int .u8 t0,.int .u8 t1,.int .u8 t2,.int .u8 t3,.int .u8 t4,.int .u8 t5,.int .u8 s.m0,.int .u8 s.m1,.int .u8 s.m2,.int .u8 s.m3,.int .u8 s.m4,.int .u8 s.m5,.int .u16 kind,sl ad c bs],by kernel_rfl,c199 y (by assumption) (by assumption) (by assumption) (by assumption) (fun Y _ _ w_18 y=>?_) (fun Y _ w_18 y=>?_)⟩⟩
 ·exact ⟨⟨⟨_,y.ar (b:=p) _,rfl⟩,⟨⟨_,y.af (b:=H) rfl,rfl⟩,trivial⟩⟩,ah (k1 (by assumption) _ _ _ _ (AO hk _) (SH.dx y.ae hs))⟩
 ·exact ⟨⟨⟨_,y.ar (b:=p) _,rfl⟩,⟨⟨_,y.af (b:=H) rfl,rfl⟩,trivial⟩⟩,ah (k2 (by assumption) _ _ (SH.dx y.ae hs))⟩
theorem c109 {t0 t1 t2 t3 t4 t5:Nat} (ht:bw (bq t0 t1 t2 t3 t4 t5)) (y:SH w0 w L) [q:aC (Li p) L s R] [hb:aD R v bs] (hlen:bs.length≤100000)
  (k1:bs.length≤1500→ ∀ fr a c H,eE 2048 bs fr→SH w0 H (Li p s::By (sl a c fr) fr::R)→K (.tuple #[sl a c fr,.nilIface]) H)
  (k2: ¬bs.length≤1500→ ∀ b H,SH w0 H (Li p s::Ex b::R)→K (.tuple #[sN,bu b]) H):D 109 [pt p,v,.agg #[C1 t0,C1 t1,C1 t2,C1 t3,C1 t4,C1 t5]] w K:=by
 refine s109 rfl<|ac<|y.az [C1 t0,C1 t1,C1 t2,C1 t3,C1 t4,C1 t5] fun b_5 _ y=>ac<|y.Da (b:=b_5) rfl<|c148 (v:=v) ‹_› (by decide) y ‹_› (fun J _ _ _ Y _ y=>?_) (fun J _ Y y=>?_)
 ·refine ah<|k1 ‹_› _ _ _ _ ‹_› y.ae
 ·refine ah<|k2 ‹_› _ _ y.ae
theorem c146 {op Y m1 m2 m3 m4 m5 ip t0 t1 t2 t3 t4 t5 tip:Nat} (hm:bw (bq Y m1 m2 m3 m4 m5)) (ht:bw (bq t0 t1 t2 t3 t4 t5)) (y:SH w0 w L) [q:aC (Li p) L s R] (k: ∀ b w',SH w0 w' (Li p s::R)→K (.bool b) w'):D 146 [pt p,kB op Y m1 m2 m3 m4 m5 ip t0 t1 t2 t3 t4 t5 tip] w K:=by
 obtain ⟨J,y⟩:=SH.li y p
 have hm2:=J.bq
 refine s146 rfl<|ac<|y.az [C5 op,C1 Y,C1 m1,C1 m2,C1 m3,C1 m4,C1 m5,C3 ip,C1 t0,C1 t1,C1 t2,C1 t3,C1 t4,C1 t5,C3 tip] fun H _ y=>?_
 refine bt (List.range' 5 18) rfl [0,3,4,5] (fun (b:Bool)=>[pt p,pt H,.bool false,.bool b]) (fun _ w'=>SH w0 w' (Cl H 287 [C5 op,C1 Y,C1 m1,C1 m2,C1 m3,C1 m4,C1 m5,C3 ip,C1 t0,C1 t1,C1 t2,C1 t3,C1 t4,C1 t5,C3 tip]::Cl p 192 (jU s)::Ca s.cb s.c::R)) ?_ ?_
 ·refine cv<|have y:=y.drew;⟨_,y.ar (b:=p) [C3 s.ip,C5 s.bits],y.C9 (b:=H) rfl (c51 y (fun h_12 w_12 y=>?_) (fun h_12 w_12 y=>?_))⟩
  ·refine ⟨⟨y.ld (b:=H) rfl,⟨⟨_,y.ar (b:=p) _,rfl⟩,trivial⟩⟩,y.C9 (b:=H) rfl (y.C9 (b:=p) rfl (ap (fun h_21=>?_) (fun h_21=>?_)))⟩
   ·exact ⟨_,rfl,y.ae⟩
   ·exact ⟨_,rfl,y.ae⟩
  ·exact ⟨⟨y.ld (b:=H) rfl,⟨⟨_,y.ar (b:=p) _,rfl⟩,trivial⟩⟩,⟨_,rfl,y.ae⟩⟩
 rintro g b w6 y
 cases b
 ·exact aJ<|have y:=y.drew;ah<|k _ _ (SH.dx y.ae J)
 ·refine aJ<|have y:=y.drew;y.C9 (b:=H) rfl<|y.C9 (b:=p) rfl<|ap (fun h_32=>?_) (fun h_32=>?_)
  ·refine y.C9 (b:=H) rfl<|ap (fun h_37=>?_) (fun h_37=>?_)
   ·exact ah<|k _ _ (SH.dx y.ae J)
   ·refine ⟨_,y.ar (b:=H) [C1 t0,C1 t1,C1 t2,C1 t3,C1 t4,C1 t5],⟨_,y.ar (b:=p) [C1 s.m0,C1 s.m1,C1 s.m2,C1 s.m3,C1 s.m4,C1 s.m5],mg (neg:=false) rfl ‹_› ‹_› rfl rfl (fun h_45=>?_) (fun h_45=>?_)⟩⟩
    ·exact ah<|k _ _ (SH.dx y.ae J)
    ·exact ah<|k _ _ (SH.dx y.ae J)
  ·exact ah<|k _ _ (SH.dx y.ae J)
theorem c289 {ip now:Nat} (hi:ip<4294967296) (y:SH w0 w L) [q:aC (Li p) L s R]
  (k1: ∀ J,SH w0 J (Li p s::R)→K (.tuple #[.agg #[C1 0,C1 0,C1 0,C1 0,C1 0,C1 0],.bool false]) J)
  (k2: ∀ m0 m1 m2 m3 m4 m5:Nat,bw (bq m0 m1 m2 m3 m4 m5)→ ∀ J,SH w0 J (Li p s::R)→K (.tuple #[.agg #[C1 m0,C1 m1,C1 m2,C1 m3,C1 m4,C1 m5],.bool true]) J):D 289 [pt p,C3 ip,C4 now] w K:=by
 obtain ⟨hs,y⟩:=SH.li y p
 refine s289 rfl<|ac<|y.an fun H _ y=>aq<|ap (fun h_9=>?_) (fun h_9=>?_)
 ·exact ac<|c60 y (fun _ y=>y.aj (b:=H) fun _ y=>ah (y.Da (b:=H) rfl (k2 255 255 255 255 255 255 ⟨255,255,255,255,255,255,rfl,by decide,by decide,by decide,by decide,by decide,by decide⟩ _ (SH.dx y.ae hs))))
 ·refine ak<|ac<|y.C9 (b:=p) rfl<|c340 ‹_› y (fun Y y=>?_) (fun m0_17 m1_17 m2_17 m3_17 m4_17 m5_17 _ Y y=>?_)
  ·exact Dt [6,7,17] [pt H,.bool false,.tuple #[.agg #[C1 0,C1 0,C1 0,C1 0,C1 0,C1 0],.bool false]] fun g=>y.aj (b:=H) fun _ y=>ah<|y.Da (b:=H) rfl<|k1 _ (SH.dx y.ae hs)
  ·exact Dt [6,7,17] [pt H,.bool false,.tuple #[.agg #[C1 m0_17,C1 m1_17,C1 m2_17,C1 m3_17,C1 m4_17,C1 m5_17],.bool true]] fun g=>y.aj (b:=H) fun _ y=>ah<|y.Da (b:=H) rfl<|k2 _ _ _ _ _ _ ‹_› _ (SH.dx y.ae hs)
theorem c103 {now:Nat} (hn:now<18446744073709551616) (y:SH w0 w L) [q:aC (Li p) L s R] [hb:aD R v bs]
  (k1: ∀ s' (zs:List Int) (rs:List Nat) a c a' c' (m0 m1 m2 m3 m4 m5 ip:Nat) w',oS s s'→zs.length≤64→rs.length≤1514→bw (bq m0 m1 m2 m3 m4 m5)→ip<4294967296→SH w0 w' (Li p s'::Rd 1 (.slice a zs.length c) (ints zs)::By (sl a' c' rs) rs::R)→
   K (.tuple #[.agg #[.slice none 0 0,sl a' c' rs,.slice a zs.length c,.int .u8 m0,.int .u8 m1,.int .u8 m2,.int .u8 m3,.int .u8 m4,.int .u8 m5,.int .u32 ip],.nilIface]) w')
  (k2: ∀ b w',SH w0 w' (Li p s::Ex b::R)→K (.tuple #[.agg #[.slice none 0 0,.slice none 0 0,.slice none 0 0,.int .u8 0,.int .u8 0,.int .u8 0,.int .u8 0,.int .u8 0,.int .u8 0,.int .u32 0],bu b]) w'):D 103 [pt p,v,.int .u64 now] w K:=by
 have y:=y.at (Li p)
 obtain ⟨ad,c,rfl,hcap,hB1,hl0⟩:=y.enter (v:=v)
 refine s103 rfl<|ac<|y.an fun b_6 _ y=>ac<|c145 (v:=sl ad c bs) y (fun op_13 m0_13 m1_13 m2_13 m3_13 m4_13 m5_13 J t0_13 t1_13 t2_13 t3_13 t4_13 t5_13 tip_13 _ _ _ _ w_13 y=>?_) (fun _ w_13 y=>?_)
 ·refine y.an fun H w_8 y=>y.aj (b:=H) fun _ y=>aG<|ac ⟨_,bg (neg:=true) rfl,ai (ac (y.Da (b:=H) rfl (c146 (by assumption) (by assumption) y (fun _ _ y=>cG (fun h_25=>?_) (fun h_25=>?_)))))⟩
  ·exact ai<|ac ⟨by kernel_rfl,[.slice none 0 0,.slice none 0 0,.slice none 0 0,.int .u8 0,.int .u8 0,.int .u8 0,.int .u8 0,.int .u8 0,.int .u8 0,.int .u32 0],by kernel_rfl,c30 y (by omega) (by omega) (fun _ _ y=>y.aj (b:=b_6) fun _ y=>ah (y.Da (b:=b_6) rfl (k2 _ _ y.ae)))⟩
  ·refine ai<|ak ?_
   obtain ⟨hs,y⟩:=SH.li y p
   have hm0:=hs.bq
   refine bt (10::List.range' 28 15) rfl [0,6,7,8,10] (fun (x:dT × List Int × Option Addr × Nat × Nat)=>[pt p,pt b_6,.nilIface,pt H,pt x.2.2.2.2]) (fun x w'=>x.2.1.length≤64∧SH w0 w' (Cl x.2.2.2.2 149 [.slice none 0 0,.slice none 0 0,.slice x.2.2.1 x.2.1.length x.2.2.2.1,.int .u8 m0_13,.int .u8 m1_13,.int .u8 m2_13,.int .u8 m3_13,.int .u8 m4_13,.int .u8 m5_13,.int .u32 J]::Rd 1 (.slice x.2.2.1 x.2.1.length x.2.2.2.1) (ints x.2.1)::Cl p 192 (jU s)::Ca s.cb x.1::Cl H 287 [.int .i64 op_13,.int .u8 m0_13,.int .u8 m1_13,.int .u8 m2_13,.int .u8 m3_13,.int .u8 m4_13,.int .u8 m5_13,.int .u32 J,.int .u8 t0_13,.int .u8 t1_13,.int .u8 t2_13,.int .u8 t3_13,.int .u8 t4_13,.int .u8 t5_13,.int .u32 tip_13]::Cl b_6 149 [.slice none 0 0,.slice none 0 0,.slice none 0 0,.int .u8 0,.int .u8 0,.int .u8 0,.int .u8 0,.int .u8 0,.int .u8 0,.int .u32 0]::R)) ?_ ?_
   ·refine rm<|have y:=y.drew;⟨_,y.ar (b:=H) [.int .u8 m0_13,.int .u8 m1_13,.int .u8 m2_13,.int .u8 m3_13,.int .u8 m4_13,.int .u8 m5_13],y.C9 (b:=H) rfl (y.C9 (b:=p) rfl (y.C9 (b:=H) rfl (⟨_,y.ar (b:=H) [.int .u8 m0_13,.int .u8 m1_13,.int .u8 m2_13,.int .u8 m3_13,.int .u8 m4_13,.int .u8 m5_13],⟨?_,?_⟩⟩)))⟩
    ·exact c147 (by omega) (by assumption) (by assumption) y (fun zs_41 a_41 c_41 s'_41 w_41 h_415 y=>⟨⟨⟨_,y.ar (b:=H) _,rfl⟩,⟨y.ld (b:=H) rfl,⟨y.ld (b:=p) rfl,⟨y.ld (b:=H) rfl,⟨⟨_,y.ar (b:=H) _,rfl⟩,trivial⟩⟩⟩⟩⟩,⟨by kernel_rfl,[.slice none 0 0,.slice none 0 0,.slice a_41 zs_41.length c_41,.int .u8 m0_13,.int .u8 m1_13,.int .u8 m2_13,.int .u8 m3_13,.int .u8 m4_13,.int .u8 m5_13,.int .u32 J],by kernel_rfl,y.an fun Y w_10 y=>⟨⟨⟨_,y.ar (b:=H) _,rfl⟩,⟨y.ld (b:=H) rfl,⟨y.ld (b:=p) rfl,⟨y.ld (b:=H) rfl,⟨⟨_,y.ar (b:=H) _,rfl⟩,trivial⟩⟩⟩⟩⟩,y.aj (b:=Y) fun w_77 y=>⟨(s'_41,zs_41,a_41,c_41,Y),rfl,by assumption,y.ae⟩⟩⟩⟩)
    ·exact y.an fun Y w_10 y=>⟨⟨⟨_,y.ar (b:=H) _,rfl⟩,⟨y.ld (b:=H) rfl,⟨y.ld (b:=p) rfl,⟨y.ld (b:=H) rfl,⟨⟨_,y.ar (b:=H) _,rfl⟩,trivial⟩⟩⟩⟩⟩,c147 (by omega) (by assumption) (by assumption) y (fun zs_41 a_41 c_41 s'_41 w_41 h_415 y=>⟨⟨⟨_,y.ar (b:=H) _,rfl⟩,⟨y.ld (b:=H) rfl,⟨y.ld (b:=p) rfl,⟨y.ld (b:=H) rfl,⟨⟨_,y.ar (b:=H) _,rfl⟩,trivial⟩⟩⟩⟩⟩,⟨by kernel_rfl,[.slice none 0 0,.slice none 0 0,.slice a_41 zs_41.length c_41,.int .u8 m0_13,.int .u8 m1_13,.int .u8 m2_13,.int .u8 m3_13,.int .u8 m4_13,.int .u8 m5_13,.int .u32 J],by kernel_rfl,y.aj (b:=Y) fun w_77 y=>⟨(s'_41,zs_41,a_41,c_41,Y),rfl,by assumption,y.ae⟩⟩⟩)⟩
   rintro g ⟨c',zs,a1,c1,Y⟩ w6 ⟨hz,y⟩
   simp only at hz y
   refine bt (List.range' 43 18) rfl [6,7,10] (fun (x:List Nat × Option Addr × Nat)=>[pt b_6,.nilIface,pt Y]) (fun x w'=>x.1.length≤1514∧SH w0 w' (Cl Y 149 [.slice none 0 0,sl x.2.1 x.2.2 x.1,.slice a1 zs.length c1,.int .u8 m0_13,.int .u8 m1_13,.int .u8 m2_13,.int .u8 m3_13,.int .u8 m4_13,.int .u8 m5_13,.int .u32 J]::By (sl x.2.1 x.2.2 x.1) x.1::Rd 1 (.slice a1 zs.length c1) (ints zs)::Cl p 192 (jU s)::Ca s.cb c'::Cl H 287 [.int .i64 op_13,.int .u8 m0_13,.int .u8 m1_13,.int .u8 m2_13,.int .u8 m3_13,.int .u8 m4_13,.int .u8 m5_13,.int .u32 J,.int .u8 t0_13,.int .u8 t1_13,.int .u8 t2_13,.int .u8 t3_13,.int .u8 t4_13,.int .u8 t5_13,.int .u32 tip_13]::Cl b_6 149 [.slice none 0 0,.slice none 0 0,.slice none 0 0,.int .u8 0,.int .u8 0,.int .u8 0,.int .u8 0,.int .u8 0,.int .u8 0,.int .u32 0]::R)) ?_ ?_
   ·refine ac<|y.C9 (b:=H) rfl<|ap (fun h_45=>?_) (fun h_45=>?_)
    ·refine ai<|cv<|have y:=y.drew;⟨_,y.ar (b:=H) [.int .u8 m0_13,.int .u8 m1_13,.int .u8 m2_13,.int .u8 m3_13,.int .u8 m4_13,.int .u8 m5_13],y.Da (b:=H) rfl (⟨_,y.ar (b:=p) [.int .u8 s.m0,.int .u8 s.m1,.int .u8 s.m2,.int .u8 s.m3,.int .u8 s.m4,.int .u8 s.m5],c149 y (fun _ y=>⟨⟨⟨_,y.ar (b:=p) _,rfl⟩,⟨⟨_,y.af (b:=H) rfl,rfl⟩,⟨⟨_,y.ar (b:=H) _,rfl⟩,trivial⟩⟩⟩,c150 y (by omega) (by assumption) (by assumption) (by omega) (fun a_56 c_56 bs_56 w_56 _ y=>⟨⟨⟨_,y.ar (b:=p) _,rfl⟩,⟨⟨_,y.af (b:=H) rfl,rfl⟩,⟨⟨_,y.ar (b:=H) _,rfl⟩,trivial⟩⟩⟩,?_⟩)⟩)⟩)⟩
     have y:SH w0 w_56 (Li p { s with c:=c' } ::By (sl a_56 c_56 bs_56) bs_56::Cl Y 149 [.slice none 0 0,.slice none 0 0,.slice a1 zs.length c1,.int .u8 m0_13,.int .u8 m1_13,.int .u8 m2_13,.int .u8 m3_13,.int .u8 m4_13,.int .u8 m5_13,.int .u32 J]::Rd 1 (.slice a1 zs.length c1) (ints zs)::Cl H 287 [.int .i64 op_13,.int .u8 m0_13,.int .u8 m1_13,.int .u8 m2_13,.int .u8 m3_13,.int .u8 m4_13,.int .u8 m5_13,.int .u32 J,.int .u8 t0_13,.int .u8 t1_13,.int .u8 t2_13,.int .u8 t3_13,.int .u8 t4_13,.int .u8 t5_13,.int .u32 tip_13]::Cl b_6 149 [.slice none 0 0,.slice none 0 0,.slice none 0 0,.int .u8 0,.int .u8 0,.int .u8 0,.int .u8 0,.int .u8 0,.int .u8 0,.int .u32 0]::R):=SH.dx (s:= { s with c:=c' }) y.ae ⟨hs.1,hs.2⟩
     refine c148 (s:= { s with c:=c' }) (v:=sl a_56 c_56 bs_56) (by assumption) (by decide) y (by omega) (fun h_57 fr a_57 c_57 w_57 hf y=>?_) (fun h_57 _ w_57 y=>absurd (by omega) h_57)
     obtain ⟨_,y⟩:=SH.li y p
     have y:SH w0 w_57 (Cl p 192 (jU s)::Ca s.cb c'::By (sl a_57 c_57 fr) fr::Cl Y 149 [.slice none 0 0,.slice none 0 0,.slice a1 zs.length c1,.int .u8 m0_13,.int .u8 m1_13,.int .u8 m2_13,.int .u8 m3_13,.int .u8 m4_13,.int .u8 m5_13,.int .u32 J]::Rd 1 (.slice a1 zs.length c1) (ints zs)::Cl H 287 [.int .i64 op_13,.int .u8 m0_13,.int .u8 m1_13,.int .u8 m2_13,.int .u8 m3_13,.int .u8 m4_13,.int .u8 m5_13,.int .u32 J,.int .u8 t0_13,.int .u8 t1_13,.int .u8 t2_13,.int .u8 t3_13,.int .u8 t4_13,.int .u8 t5_13,.int .u32 tip_13]::Cl b_6 149 [.slice none 0 0,.slice none 0 0,.slice none 0 0,.int .u8 0,.int .u8 0,.int .u8 0,.int .u8 0,.int .u8 0,.int .u8 0,.int .u32 0]::R):=SH.tail (A:=By (sl a_56 c_56 bs_56) bs_56) (y.ae)
     exact ⟨⟨⟨_,y.ar (b:=p) _,rfl⟩,⟨⟨_,y.af (b:=H) rfl,rfl⟩,⟨⟨_,y.ar (b:=H) _,rfl⟩,trivial⟩⟩⟩,y.aN (b:=Y) [sl a_57 c_57 fr] [.slice none 0 0,sl a_57 c_57 fr,.slice a1 zs.length c1,.int .u8 m0_13,.int .u8 m1_13,.int .u8 m2_13,.int .u8 m3_13,.int .u8 m4_13,.int .u8 m5_13,.int .u32 J] fun _ y=>⟨⟨⟨_,y.ar (b:=p) _,rfl⟩,⟨⟨_,y.af (b:=H) rfl,rfl⟩,⟨⟨_,y.ar (b:=H) _,rfl⟩,trivial⟩⟩⟩,⟨(fr,a_57,c_57),rfl,by have:=hf.2.2;show fr.length≤1514;omega,y.ae⟩⟩⟩
    ·exact ai<|ak ⟨([],none,0),rfl,by decide,(SH.cH y).ae⟩
   rintro g ⟨rs,a2,c2⟩ w6 ⟨hr,y⟩
   simp only at hr y
   exact ac<|y.Da (b:=Y) rfl<|y.aj (b:=b_6) fun _ y=>ah<|y.Da (b:=b_6) rfl<|k1 { s with c:=c' } zs rs _ _ _ _ _ _ _ _ _ _ _ _ ⟨c',rfl⟩ hz hr (by assumption) (by omega) (SH.dx (s:= { s with c:=c' }) y.ae ⟨hs.1,hs.2⟩)
 ·exact y.an fun H w_8 y=>y.aj (b:=H) fun _ y=>aG<|ac ⟨_,bH (neg:=true) rfl,ai (ac (⟨by kernel_rfl,[.slice none 0 0,.slice none 0 0,.slice none 0 0,.int .u8 0,.int .u8 0,.int .u8 0,.int .u8 0,.int .u8 0,.int .u8 0,.int .u32 0],by kernel_rfl,y.aj (b:=b_6) fun _ y=>ah (y.Da (b:=b_6) rfl (k2 _ _ y.ae))⟩))⟩
abbrev kM (pk rep rdy:Value) (q y H J Y m5 ip:Nat):Value:= .agg #[pk,rep,rdy,C1 q,C1 y,C1 H,C1 J,C1 Y,C1 m5,C3 ip]
theorem c63 {now:Nat} (hn:now<18446744073709551616) (y:SH w0 w L) [q:aC (Li p) L s R] [hb:aD R v bs]
  (k1:num bs 12 2=2048→ep bs→ ∀ a c w',SH w0 w' (Li p s::By (sl a c (bs.drop 14)) (bs.drop 14)::R)→K (.tuple #[kM (sl a c (bs.drop 14)) (.slice none 0 0) (.slice none 0 0) 0 0 0 0 0 0 0,.nilIface]) w')
  (k2:num bs 12 2≠2048→ep bs→ ∀ s' (zs:List Int) (rs:List Nat) a c a' c' (m0 m1 m2 m3 m4 m5 ip:Nat) w',oS s s'→zs.length≤64→rs.length≤1514→bw (bq m0 m1 m2 m3 m4 m5)→ip<4294967296→SH w0 w' (Li p s'::Rd 1 (.slice a zs.length c) (ints zs)::By (sl a' c' rs) rs::R)→
   K (.tuple #[kM (.slice none 0 0) (sl a' c' rs) (.slice a zs.length c) m0 m1 m2 m3 m4 m5 ip,.nilIface]) w')
  (k3: ∀ b r w',(¬ep bs→r=1)→SH w0 w' (Li p s::Er b r::R)→K (.tuple #[kM (.slice none 0 0) (.slice none 0 0) (.slice none 0 0) 0 0 0 0 0 0 0,bu b]) w'):D 63 [pt p,v,.int .u64 now] w K:=by
 have y:=y.at (Li p)
 have hs:=(SH.li y p).1
 obtain ⟨ad,c,rfl,hcap,hB1,hl0⟩:=y.enter (v:=v)
 refine s63 rfl<|ac<|y.an fun H _ y=>ac<|c22 (v:=sl ad c bs) y (fun Y _ a_12 c_12 w_12 y=>?_) (fun Y b_12 w_12 y=>?_)
 ·refine y.an fun J w_8 y=>y.aj (b:=J) fun _ y=>aG<|ac ⟨_,bg (neg:=true) rfl,ai ?_⟩
  refine bt (List.range' 20 17) rfl [0,2,6,7,8,20] (fun (b:Bool)=>[pt p,.int .u64 now,pt H,.nilIface,pt J,.bool b]) (fun _ w'=>SH w0 w' (Li p s::Cl J 75 [.int .u8 (bs.getD 0 0),.int .u8 (bs.getD 1 0),.int .u8 (bs.getD 2 0),.int .u8 (bs.getD 3 0),.int .u8 (bs.getD 4 0),.int .u8 (bs.getD 5 0),.int .u8 ((bs.drop 6).getD 0 0),.int .u8 ((bs.drop 6).getD 1 0),.int .u8 ((bs.drop 6).getD 2 0),.int .u8 ((bs.drop 6).getD 3 0),.int .u8 ((bs.drop 6).getD 4 0),.int .u8 ((bs.drop 6).getD 5 0),.int .u16 (num bs 12 2),sl a_12 c_12 (bs.drop 14)]::Cl H 149 [.slice none 0 0,.slice none 0 0,.slice none 0 0,.int .u8 0,.int .u8 0,.int .u8 0,.int .u8 0,.int .u8 0,.int .u8 0,.int .u32 0]::By (sl a_12 c_12 (bs.drop 14)) (bs.drop 14)::R)) ?_ ?_
  ·refine cv<|have y:=y.drew;?_
   have hm0:=hs.bq
   obtain ⟨_,y⟩:=SH.li y p
   refine y.Da (b:=J) rfl ⟨_,y.ar (b:=p) [.int .u8 s.m0,.int .u8 s.m1,.int .u8 s.m2,.int .u8 s.m3,.int .u8 s.m4,.int .u8 s.m5],?_⟩
   have hT:bw [.int .u8 (bs.getD 0 0),.int .u8 (bs.getD 1 0),.int .u8 (bs.getD 2 0),.int .u8 (bs.getD 3 0),.int .u8 (bs.getD 4 0),.int .u8 (bs.getD 5 0)]:=oe hB1 0
   have hF:bw [.int .u8 ((bs.drop 6).getD 0 0),.int .u8 ((bs.drop 6).getD 1 0),.int .u8 ((bs.drop 6).getD 2 0),.int .u8 ((bs.drop 6).getD 3 0),.int .u8 ((bs.drop 6).getD 4 0),.int .u8 ((bs.drop 6).getD 5 0)]:=iA hB1 6
   refine c25 y (by assumption) (by assumption) (fun h_26 w_26 y=>?_) (fun h_26 w_26 y=>?_)
   ·refine ⟨⟨⟨_,y.ar (b:=p) _,rfl⟩,⟨⟨_,y.af (b:=J) rfl,rfl⟩,trivial⟩⟩,Dj (⟨_,y.ar (b:=J) [.int .u8 ((List.drop 6 bs).getD 0 0),.int .u8 ((List.drop 6 bs).getD 1 0),.int .u8 ((List.drop 6 bs).getD 2 0),.int .u8 ((List.drop 6 bs).getD 3 0),.int .u8 ((List.drop 6 bs).getD 4 0),.int .u8 ((List.drop 6 bs).getD 5 0)],⟨_,y.ar (b:=p) [.int .u8 s.m0,.int .u8 s.m1,.int .u8 s.m2,.int .u8 s.m3,.int .u8 s.m4,.int .u8 s.m5],mg (neg:=false) rfl (by assumption) (by assumption) rfl rfl (fun h_35=>?_) (fun h_35=>?_)⟩⟩)⟩
    ·exact ⟨_,rfl,SH.dx y.ae hs⟩
    ·exact ⟨_,rfl,SH.dx y.ae hs⟩
   ·exact ⟨⟨⟨_,y.ar (b:=p) _,rfl⟩,⟨⟨_,y.af (b:=J) rfl,rfl⟩,trivial⟩⟩,Dj (⟨_,rfl,SH.dx y.ae hs⟩)⟩
  rintro g b w6 y
  refine ai ?_
  cases b
  ·refine ak<|av<|ac<|y.C9 (b:=J) rfl<|aM<|ac<|ap (fun h_42=>?_) (fun h_42=>?_)
   ·refine ai<|ac<|y.C9 (b:=J) rfl ⟨by kernel_rfl,[sl a_12 c_12 (List.drop 14 bs),.slice none 0 0,.slice none 0 0,.int .u8 0,.int .u8 0,.int .u8 0,.int .u8 0,.int .u8 0,.int .u8 0,.int .u32 0],by kernel_rfl,y.aj (b:=H) fun _ y=>ah (y.Da (b:=H) rfl (k1 (by omega) (by assumption) _ _ _ y.ae))⟩
   ·refine ai<|ac<|ap (fun h_47=>?_) (fun h_47=>?_)
    ·refine ai<|ac<|y.C9 (b:=J) rfl<|c103 (v:=sl a_12 c_12 (List.drop 14 bs)) (by assumption) y (fun s'_52 _ _ _ _ a'_52 c'_52 _ _ _ _ _ _ _ w_52 _ _ _ _ _ y=>?_) (fun b_52 w_52 y=>?_)
     ·refine y.aj (b:=H) fun _ y=>ah<|y.Da (b:=H) rfl<|k2 (by omega) Y _ _ _ _ _ _ _ _ _ _ _ _ _ _ _ (by assumption) (by assumption) (by assumption) (by assumption) (by assumption) y.ae
     ·refine y.aj (b:=H) fun w_54 y=>ah<|y.Da (b:=H) rfl ?_
      obtain ⟨r,hE⟩:=SH.vE (b:=b_52) (L:=Li p s::R) y.ae
      exact k3 b_52 r _ (fun h=>absurd Y h) hE.ae
    ·exact ai<|ak<|ac ⟨by kernel_rfl,[.slice none 0 0,.slice none 0 0,.slice none 0 0,.int .u8 0,.int .u8 0,.int .u8 0,.int .u8 0,.int .u8 0,.int .u8 0,.int .u32 0],by kernel_rfl,c30 y (by omega) (by omega) (fun b_56 _ y=>y.aj (b:=H) fun w_54 y=>ah (y.Da (b:=H) rfl (k3 b_56 16 _ (fun h=>absurd Y h) y.ae)))⟩
  ·exact ac ⟨by kernel_rfl,[.slice none 0 0,.slice none 0 0,.slice none 0 0,.int .u8 0,.int .u8 0,.int .u8 0,.int .u8 0,.int .u8 0,.int .u8 0,.int .u32 0],by kernel_rfl,c30 y (by omega) (by omega) (fun b_38 w_38 y=>y.aj (b:=H) fun _ y=>ah (y.Da (b:=H) rfl (k3 b_38 15 _ (fun h=>absurd Y h) y.ae)))⟩
 ·exact y.an fun J w_8 y=>y.aj (b:=J) fun w_38 y=>aG<|ac ⟨_,bH (neg:=true) rfl,ai (ac (⟨by kernel_rfl,[.slice none 0 0,.slice none 0 0,.slice none 0 0,.int .u8 0,.int .u8 0,.int .u8 0,.int .u8 0,.int .u8 0,.int .u8 0,.int .u32 0],by kernel_rfl,y.aj (b:=H) fun _ y=>ah (y.Da (b:=H) rfl (k3 b_12 1 _ (fun _=>rfl) y.ae))⟩))⟩
abbrev oU (fr:Value) (b:Bool):Value:= .agg #[fr,.bool b]
theorem c224 {next now:Nat} {tok:Int} (hi:next<4294967296) (y:SH w0 w L) [q:aC (Li p) L s R] [hb:aD R v bs] (hlen:bs.length≤100000)
  (k1: ∀ s' fr a c b w',oS s s'→(fr=[]∨eE 2048 bs fr∨ ∃ pk,eE 2054 pk fr)→fr.length≤1514→SH w0 w' (Li p s'::By (sl a c fr) fr::R)→K (.tuple #[oU (sl a c fr) b,.nilIface]) w')
  (k2: ∀ s' b w',oS s s'→SH w0 w' (Li p s'::Ex b::R)→K (.tuple #[oU (sN) false,bu b]) w'):D 224 [pt p,v,C3 next,C5 tok,C4 now] w K:=by
 have y:=y.at (Li p)
 have hs:=(SH.li y p).1
 obtain ⟨ad,c,rfl,hcap,hB1,hl0⟩:=y.enter (v:=v)
 refine s224 rfl<|ac<|y.an fun H _ y=>aq<|ap (fun h_21=>?_) (fun h_21=>?_)
 ·exact ac ⟨rfl,[sN,.bool false],rfl,c30 y (by omega) (by omega) (fun _ _ y=>y.aj (b:=H) fun _ y=>ah (y.Da (b:=H) rfl (k2 s _ _ ⟨s.c,rfl⟩ y.ae)))⟩
 ·refine ak<|av<|ac<|c289 ‹_› y (fun w_28 y=>?_) (fun m0_28 m1_28 m2_28 m3_28 m4_28 m5_28 _ w_28 y=>?_)
  ·refine Dt [0,1,2,3,4,10,11,28] [pt p,sl ad c bs,C3 next,C5 tok,C4 now,pt H,.nilIface,.tuple #[.agg #[C1 0,C1 0,C1 0,C1 0,C1 0,C1 0],.bool false]] fun g=>y.an fun b_12 w_12 y=>y.aj (b:=b_12) fun _ y=>ac<|ai<|ak<|ac ?_
   obtain ⟨_,y⟩:=SH.li y p
   have hm0:=hs.bq
   have hip:=hs.ip
   refine y.C9 (b:=p) rfl<|c290 ‹_› y (fun b_50 J w_50 y=>?_) (fun w_50 y=>?_)
   ·refine aq<|Dh<|ak<|ac ⟨rfl,[sN,.bool true],rfl,y.an fun b_18 _ y=>y.aj (b:=b_18) fun _ y=>aq ?_⟩
    cases b_50
    ·exact ak<|ac<|y.Da (b:=b_18) rfl<|y.aj (b:=H) fun _ y=>ah<|y.Da (b:=H) rfl<|k1 { s with c:=J } [] none 0 true _ ⟨J,rfl⟩ (.inl rfl) (by decide) (SH.dx (s:= { s with c:=J }) (SH.cH y).ae ⟨hs.1,hs.2⟩)
    ·refine cv<|have y:=y.drew;⟨_,y.ar (b:=p) [C1 s.m0,C1 s.m1,C1 s.m2,C1 s.m3,C1 s.m4,C1 s.m5],y.C9 (b:=p) rfl (c60 y (fun _ y=>⟨⟨y.ld (b:=p) rfl,⟨⟨_,y.ar (b:=p) _,rfl⟩,trivial⟩⟩,c291 y (fun _ y=>⟨⟨y.ld (b:=p) rfl,⟨⟨_,y.ar (b:=p) _,rfl⟩,trivial⟩⟩,?_⟩)⟩))⟩
     have hzm:bw (bq 0 0 0 0 0 0):=⟨0,0,0,0,0,0,rfl,by decide,by decide,by decide,by decide,by decide,by decide⟩
     have hfm:bw (bq 255 255 255 255 255 255):=⟨255,255,255,255,255,255,rfl,by decide,by decide,by decide,by decide,by decide,by decide⟩
     refine c150 y (by decide) hm0 hzm ⟨hip,hi⟩ (fun a_74 c_74 Y w_74 _ y=>⟨⟨y.ld (b:=p) rfl,⟨⟨_,y.ar (b:=p) _,rfl⟩,trivial⟩⟩,?_⟩)
     have y:SH w0 w_74 (Li p { s with c:=J } ::By (sl a_74 c_74 Y) Y::Cl b_18 401 [sN,.bool true]::Cl H 401 [sN,.bool false]::R):=SH.dx (s:= { s with c:=J }) y.ae ⟨hs.1,hs.2⟩
     refine c148 (t0:=255) (t1:=255) (t2:=255) (t3:=255) (t4:=255) (t5:=255) (kind:=2054) (s:= { s with c:=J }) (v:=sl a_74 c_74 Y) hfm (by decide) y (by omega) (fun h_57 fr a_57 c_57 w_57 hf y=>?_) (fun h_57 b_57 w_57 y=>absurd (by omega) h_57)
     obtain ⟨_,y⟩:=SH.li y p
     have y:SH w0 w_57 (Cl p 192 (jU s)::Ca s.cb J::By (sl a_57 c_57 fr) fr::Cl b_18 401 [sN,.bool true]::Cl H 401 [sN,.bool false]::R):=SH.tail (A:=By (sl a_74 c_74 Y) Y) (y.ae)
     exact ⟨⟨y.ld (b:=p) rfl,⟨⟨_,y.ar (b:=p) _,rfl⟩,trivial⟩⟩,y.aN (b:=b_18) [sl a_57 c_57 fr] [sl a_57 c_57 fr,.bool true] fun _ y=>⟨⟨y.ld (b:=p) rfl,⟨⟨_,y.ar (b:=p) _,rfl⟩,trivial⟩⟩,ac (y.Da (b:=b_18) rfl (y.aj (b:=H) fun _ y=>ah (y.Da (b:=H) rfl (k1 { s with c:=J } fr _ _ _ _ ⟨J,rfl⟩ (.inr (.inr ⟨_,hf⟩)) (by have:=hf.2.2;omega) (SH.dx (s:= { s with c:=J }) y.ae ⟨hs.1,hs.2⟩)))))⟩⟩
   ·exact aq<|Di<|ac ⟨rfl,[sN,.bool false],rfl,c30 y (by omega) (by omega) (fun b_57 w_57 y=>y.aj (b:=H) fun w_54 y=>ah (y.Da (b:=H) rfl (k2 { s with c:=s.c } _ _ ⟨s.c,rfl⟩ (SH.dx y.ae ⟨hs.1,hs.2⟩))))⟩
  ·refine Dt [0,1,2,3,4,10,11,28] [pt p,sl ad c bs,C3 next,C5 tok,C4 now,pt H,.nilIface,.tuple #[.agg #[C1 m0_28,C1 m1_28,C1 m2_28,C1 m3_28,C1 m4_28,C1 m5_28],.bool true]] fun g=>y.an fun b_12 w_12 y=>y.aj (b:=b_12) fun _ y=>ac<|ai<|ac<|y.Da (b:=b_12) rfl<|c109 (v:=sl ad c bs) ‹_› y ‹_› (fun h_36 fr_36 a_36 c_36 w_36 h_365 y=>?_) (fun h_36 _ w_36 y=>?_)
   ·exact ac ⟨rfl,[sl a_36 c_36 fr_36,.bool false],rfl,y.aj (b:=H) fun w_57 y=>ah (y.Da (b:=H) rfl (k1 s _ _ _ _ _ ⟨s.c,rfl⟩ (.inr (.inl ‹_›)) (by have:=h_365.2.2;omega) y.ae))⟩
   ·exact ac ⟨rfl,[sN,.bool false],rfl,y.aj (b:=H) fun w_54 y=>ah (y.Da (b:=H) rfl (k2 s _ _ ⟨s.c,rfl⟩ y.ae))⟩
end
end
section
structure fB where
 i1:Nat
 b1:Int
 i2:Nat
 b2:Int
 rt:Nat
 a0:Nat
 a1:Nat
 a2:Nat
 a3:Nat
 a4:Nat
 a5:Nat
 o0:Nat
 o1:Nat
 o2:Nat
 o3:Nat
 o4:Nat
 o5:Nat
 maps:Int
 flows:Int
 least:Int
 most:Int
 t0:Nat
 t1:Nat
 t2:Nat
 t3:Nat
 room:Int
 wait:Int
 life:Nat
 patience:Nat
 buffers:Int
 ring:Int
 own:Nat
 mask:Nat
 first:Nat
 last:Nat
 time:Nat
 hold:Nat
 quiet:Nat
structure iI (c:fB):Prop where
 map:c.i1<4294967296∧c.i2<4294967296∧c.rt<4294967296
 inM:bw (bq c.a0 c.a1 c.a2 c.a3 c.a4 c.a5)
 outM:bw (bq c.o0 c.o1 c.o2 c.o3 c.o4 c.o5)
 lend:c.own<4294967296∧c.mask<4294967296∧c.first<4294967296∧c.last<4294967296∧c.time<4294967296∧c.hold<4294967296∧c.quiet<4294967296
abbrev jm (c:fB):List Value:=[C3 c.i1,C5 c.b1,C3 c.i2,C5 c.b2,C3 c.rt,C1 c.a0,C1 c.a1,C1 c.a2,C1 c.a3,C1 c.a4,C1 c.a5,C1 c.o0,C1 c.o1,C1 c.o2,C1 c.o3,C1 c.o4,C1 c.o5,C5 c.maps,C5 c.flows,C5 c.least,C5 c.most,C4 c.t0,C4 c.t1,C4 c.t2,C4 c.t3,C5 c.room,C5 c.wait,C4 c.life,C4 c.patience,C5 c.buffers,C5 c.ring,C3 c.own,C3 c.mask,C3 c.first,C3 c.last,C3 c.time,C3 c.hold,C3 c.quiet]
abbrev iJ (c:fB):Value:= .agg #[C3 c.i1,C5 c.b1,C3 c.i2,C5 c.b2,C3 c.rt,C1 c.a0,C1 c.a1,C1 c.a2,C1 c.a3,C1 c.a4,C1 c.a5,C1 c.o0,C1 c.o1,C1 c.o2,C1 c.o3,C1 c.o4,C1 c.o5,C5 c.maps,C5 c.flows,C5 c.least,C5 c.most,C4 c.t0,C4 c.t1,C4 c.t2,C4 c.t3,C5 c.room,C5 c.wait,C4 c.life,C4 c.patience,C5 c.buffers,C5 c.ring,C3 c.own,C3 c.mask,C3 c.first,C3 c.last,C3 c.time,C3 c.hold,C3 c.quiet]
def rn (c:fB):Prop:=ey c.room c.wait c.life c.patience∧(1≤c.buffers∧c.buffers≤1024)∧1≤c.ring∧c.ring≤256
def rq (c:fB):Prop:=jl c.own c.first c.last c.time c.hold c.quiet∧(c.own=c.i1∧(c.mask:Int)=iU c.b1)∧ct c.i1 c.b1 c.first∧ct c.i1 c.b1 c.last
def jV (c:fB):Prop:=(¬iW (bq c.a0 c.a1 c.a2 c.a3 c.a4 c.a5)∧ ¬iW (bq c.o0 c.o1 c.o2 c.o3 c.o4 c.o5)∧bq c.a0 c.a1 c.a2 c.a3 c.a4 c.a5≠bq c.o0 c.o1 c.o2 c.o3 c.o4 c.o5)∧gy c.i1 c.b1 c.i2 c.b2 c.rt∧ee c.maps c.flows c.least c.most c.t0 c.t1 c.t2 c.t3∧rn c∧rq c
section
variable {w0 w:World} {L R R2 R3:List ao} {K:Value→World→Prop} {c:fB}
attribute [local irreducible] ay aQ aH aY a6 aW aK aV num be over nb rowOf bD jl ee gy ey ct iU
theorem c20 (hc:iI c) (q:SH w0 w L) (k1:rn c→ ∀ w',SH w0 w' L→K (.bool true) w') (k2: ¬rn c→ ∀ w',SH w0 w' L→K (.bool false) w'):D 20 [iJ c] w K:=by
 refine s20 rfl<|ac<|q.az [C3 c.i1,C5 c.b1,C3 c.i2,C5 c.b2,C3 c.rt,C1 c.a0,C1 c.a1,C1 c.a2,C1 c.a3,C1 c.a4,C1 c.a5,C1 c.o0,C1 c.o1,C1 c.o2,C1 c.o3,C1 c.o4,C1 c.o5,C5 c.maps,C5 c.flows,C5 c.least,C5 c.most,C4 c.t0,C4 c.t1,C4 c.t2,C4 c.t3,C5 c.room,C5 c.wait,C4 c.life,C4 c.patience,C5 c.buffers,C5 c.ring,C3 c.own,C3 c.mask,C3 c.first,C3 c.last,C3 c.time,C3 c.hold,C3 c.quiet] fun y _ q=>ac<|q.C9 (b:=y) rfl<|q.C9 (b:=y) rfl<|q.C9 (b:=y) rfl<|q.C9 (b:=y) rfl<|c45 q (fun h_18 _ _ w_18 _ q=>?_) (fun h_18 w_18 q=>?_)
 ·refine ac<|q.C9 (b:=y) rfl<|c44 q (fun h_24 p_24 s_24 w_24 h_244 q=>?_) (fun h_24 w_24 q=>?_)
  ·refine Dt [1,2,4,24,36,40] [pt y,.bool false,C5 0,.tuple #[pt p_24,C5 0],undef,undef] fun g=>ac<|q.C9 (b:=y) rfl<|c47 q (fun H J s_31 Y h_314 q=>?_) (fun H Y q=>?_)
   ·exact Dt [2,4,6,31,36,40] [.bool false,C5 0,C5 0,.tuple #[pt J,C5 0],undef,undef] fun g=>ac<|Di<|Di<|pa 3 rfl<|Di<|pa 2 rfl<|ah<|k1 ⟨by assumption,by assumption,by omega⟩ _ q.ae
   ·refine Dt [2,4,6,31,36,40] [.bool false,C5 0,C5 0,.tuple #[.pointer none,C5 11],undef,undef] fun g=>ac<|Di<|Di<|pa 3 rfl<|Dh<|pa 2 rfl<|ah<|k2 (by (rintro ⟨_,_,h⟩;omega)) _ q.ae
  ·refine Dt [1,2,4,24,36,40] [pt y,.bool false,C5 0,.tuple #[.pointer none,C5 11],undef,undef] fun g=>ac<|q.C9 (b:=y) rfl<|c47 q (fun H J s_31 Y h_314 q=>?_) (fun H Y q=>?_)
   ·refine Dt [2,4,6,31,36,40] [.bool false,C5 0,C5 11,.tuple #[pt J,C5 0],undef,undef] fun g=>ac<|Di<|Dh<|pa 6 rfl<|ah<|k2 (by (exact fun h=>absurd h.2.1 ‹_›)) _ q.ae
   ·refine Dt [2,4,6,31,36,40] [.bool false,C5 0,C5 11,.tuple #[.pointer none,C5 11],undef,undef] fun g=>ac<|Di<|Dh<|pa 6 rfl<|ah<|k2 (by (exact fun h=>absurd h.2.1 ‹_›)) _ q.ae
 ·refine ac<|q.C9 (b:=y) rfl<|c44 q (fun h_24 p_24 s_24 w_24 h_244 q=>?_) (fun h_24 w_24 q=>?_)
  ·refine Dt [1,2,4,24,36,40] [pt y,.bool false,C5 11,.tuple #[pt p_24,C5 0],undef,undef] fun g=>ac<|q.C9 (b:=y) rfl<|c47 q (fun H J s_31 Y h_314 q=>?_) (fun H Y q=>?_)
   ·refine Dt [2,4,6,31,36,40] [.bool false,C5 11,C5 0,.tuple #[pt J,C5 0],undef,undef] fun g=>ac<|Dh<|pa 9 rfl<|ah<|k2 (by (exact fun h=>absurd h.1 ‹_›)) _ q.ae
   ·refine Dt [2,4,6,31,36,40] [.bool false,C5 11,C5 0,.tuple #[.pointer none,C5 11],undef,undef] fun g=>ac<|Dh<|pa 9 rfl<|ah<|k2 (by (exact fun h=>absurd h.1 ‹_›)) _ q.ae
  ·refine Dt [1,2,4,24,36,40] [pt y,.bool false,C5 11,.tuple #[.pointer none,C5 11],undef,undef] fun g=>ac<|q.C9 (b:=y) rfl<|c47 q (fun H J s_31 Y h_314 q=>?_) (fun H Y q=>?_)
   ·refine Dt [2,4,6,31,36,40] [.bool false,C5 11,C5 11,.tuple #[pt J,C5 0],undef,undef] fun g=>ac<|Dh<|pa 9 rfl<|ah<|k2 (by (exact fun h=>absurd h.1 ‹_›)) _ q.ae
   ·refine Dt [2,4,6,31,36,40] [.bool false,C5 11,C5 11,.tuple #[.pointer none,C5 11],undef,undef] fun g=>ac<|Dh<|pa 9 rfl<|ah<|k2 (by (exact fun h=>absurd h.1 ‹_›)) _ q.ae
theorem c21 (hc:iI c) (hL:SH w0 w L) (k1:rq c→ ∀ w',SH w0 w' L→K (.bool true) w') (k2: ¬rq c→ ∀ w',SH w0 w' L→K (.bool false) w'):D 21 [iJ c] w K:=by
 have hl:=hc.lend
 refine s21 rfl ?_
 refine ac ?_
 refine hL.az [.int .u32 c.i1,.int .i64 c.b1,.int .u32 c.i2,.int .i64 c.b2,.int .u32 c.rt,.int .u8 c.a0,.int .u8 c.a1,.int .u8 c.a2,.int .u8 c.a3,.int .u8 c.a4,.int .u8 c.a5,.int .u8 c.o0,.int .u8 c.o1,.int .u8 c.o2,.int .u8 c.o3,.int .u8 c.o4,.int .u8 c.o5,.int .i64 c.maps,.int .i64 c.flows,.int .i64 c.least,.int .i64 c.most,.int .u64 c.t0,.int .u64 c.t1,.int .u64 c.t2,.int .u64 c.t3,.int .i64 c.room,.int .i64 c.wait,.int .u64 c.life,.int .u64 c.patience,.int .i64 c.buffers,.int .i64 c.ring,.int .u32 c.own,.int .u32 c.mask,.int .u32 c.first,.int .u32 c.last,.int .u32 c.time,.int .u32 c.hold,.int .u32 c.quiet] fun b_1 w_1 hL=>?_
 refine ac ?_
 refine ⟨_,hL.ar (b:=b_1) [.int .u32 c.i1,.int .i64 c.b1],?_⟩
 refine hL.an fun b_3 w_3 hL=>?_
 refine hL.aj (b:=b_3) fun w_17 hL=>?_
 refine aJ ?_
 have hL:=hL.drew
 refine ⟨_,hL.ld (b:=b_1) rfl,?_⟩
 refine ⟨_,hL.ld (b:=b_3) rfl,?_⟩
 refine ap (fun h_13=>?_) (fun h_13=>?_)
 ·refine ⟨_,hL.ld (b:=b_1) rfl,?_⟩
  refine ⟨_,hL.af (b:=b_3) rfl,?_⟩
  refine c43 hL (fun m_19 w_19 h_192 hL=>?_)
  refine ⟨⟨⟨_,hL.af (b:=b_3) rfl,rfl⟩,⟨hL.ld (b:=b_1) rfl,⟨hL.ld (b:=b_3) rfl,⟨hL.ld (b:=b_1) rfl,trivial⟩⟩⟩⟩,?_⟩
  refine ap (fun h_20=>?_) (fun h_20=>?_)
  ·refine ac ?_
   refine ⟨_,hL.ar (b:=b_1) [.int .u32 c.own,.int .u32 c.mask,.int .u32 c.first,.int .u32 c.last,.int .u32 c.time,.int .u32 c.hold,.int .u32 c.quiet],?_⟩
   refine c55 (by assumption) hL (fun h_24 w_24 hL=>?_) (fun h_24 w_24 hL=>?_)
   ·refine pa 4 rfl ?_
    refine ⟨_,hL.af (b:=b_3) rfl,?_⟩
    refine ⟨_,hL.ld (b:=b_1) rfl,?_⟩
    refine c51 hL (fun h_33 w_33 hL=>?_) (fun h_33 w_33 hL=>?_)
    ·refine pa 2 rfl ?_
     refine ⟨_,hL.af (b:=b_3) rfl,?_⟩
     refine ⟨_,hL.ld (b:=b_1) rfl,?_⟩
     refine c51 hL (fun h_40 w_40 hL=>?_) (fun h_40 w_40 hL=>?_)
     ·refine pa 2 rfl ?_
      refine ah ?_
      refine k1 (by (exact ⟨by assumption,⟨by omega,by omega⟩,by assumption,by assumption⟩)) _ hL.ae
     ·refine pa 2 rfl ?_
      refine ah ?_
      refine k2 (by (exact fun h=>absurd h.2.2.2 (by assumption))) _ hL.ae
    ·refine pa 9 rfl ?_
     refine ah ?_
     refine k2 (by (exact fun h=>absurd h.2.2.1 (by assumption))) _ hL.ae
   ·refine pa 18 rfl ?_
    refine ah ?_
    refine k2 (by (exact fun h=>absurd h.1 (by assumption))) _ hL.ae
  ·refine ac ?_
   refine ⟨_,hL.ar (b:=b_1) [.int .u32 c.own,.int .u32 c.mask,.int .u32 c.first,.int .u32 c.last,.int .u32 c.time,.int .u32 c.hold,.int .u32 c.quiet],?_⟩
   refine c55 (by assumption) hL (fun h_24 w_24 hL=>?_) (fun h_24 w_24 hL=>?_)
   ·refine pa 18 rfl ?_
    refine ah ?_
    refine k2 (by (exact fun h=>absurd h.2.1.2 (by omega))) _ hL.ae
   ·refine pa 18 rfl ?_
    refine ah ?_
    refine k2 (by (exact fun h=>absurd h.1 (by assumption))) _ hL.ae
 ·refine ac ?_
  refine ⟨_,hL.ar (b:=b_1) [.int .u32 c.own,.int .u32 c.mask,.int .u32 c.first,.int .u32 c.last,.int .u32 c.time,.int .u32 c.hold,.int .u32 c.quiet],?_⟩
  refine c55 (by assumption) hL (fun h_24 w_24 hL=>?_) (fun h_24 w_24 hL=>?_)
  ·refine pa 18 rfl ?_
   refine ah ?_
   refine k2 (by (exact fun h=>absurd h.2.1.1 (by omega))) _ hL.ae
  ·refine pa 18 rfl ?_
   refine ah ?_
   refine k2 (by (exact fun h=>absurd h.1 (by assumption))) _ hL.ae
theorem c7 (hc:iI c) (q:SH w0 w L) (k1:jV c→ ∀ H,SH w0 H L→K (.bool true) H) (k2: ¬jV c→ ∀ H,SH w0 H L→K (.bool false) H):D 7 [iJ c] w K:=by
 have hi:=hc.inM
 have ho:=hc.outM
 refine s7 rfl<|ac<|q.az [C3 c.i1,C5 c.b1,C3 c.i2,C5 c.b2,C3 c.rt,C1 c.a0,C1 c.a1,C1 c.a2,C1 c.a3,C1 c.a4,C1 c.a5,C1 c.o0,C1 c.o1,C1 c.o2,C1 c.o3,C1 c.o4,C1 c.o5,C5 c.maps,C5 c.flows,C5 c.least,C5 c.most,C4 c.t0,C4 c.t1,C4 c.t2,C4 c.t3,C5 c.room,C5 c.wait,C4 c.life,C4 c.patience,C5 c.buffers,C5 c.ring,C3 c.own,C3 c.mask,C3 c.first,C3 c.last,C3 c.time,C3 c.hold,C3 c.quiet] fun y _ q=>ac ⟨_,q.ar (b:=y) [C1 c.a0,C1 c.a1,C1 c.a2,C1 c.a3,C1 c.a4,C1 c.a5],c17 q ‹_› (fun h_6 w_6 q=>?_) (fun h_6 w_6 q=>?_)⟩
 ·exact Dj<|pa 14 rfl<|ac<|pa 20 rfl<|ah<|k2 (fun h=>h.1.1 ‹_›) _ q.ae
 ·refine Dj ⟨_,q.ar (b:=y) [C1 c.o0,C1 c.o1,C1 c.o2,C1 c.o3,C1 c.o4,C1 c.o5],c17 q ‹_› (fun J Y q=>?_) (fun J Y q=>?_)⟩
  ·exact Dj<|pa 9 rfl<|ac<|pa 20 rfl<|ah<|k2 (fun h=>h.1.2.1 ‹_›) _ q.ae
  ·refine Dj<|pa 2 rfl ⟨_,q.ar (b:=y) [C1 c.a0,C1 c.a1,C1 c.a2,C1 c.a3,C1 c.a4,C1 c.a5],⟨_,q.ar (b:=y) [C1 c.o0,C1 c.o1,C1 c.o2,C1 c.o3,C1 c.o4,C1 c.o5],mg (neg:=true) rfl ‹_› ‹_› rfl rfl (fun h_19=>?_) (fun h_19=>?_)⟩⟩
   ·exact pa 2 rfl<|ac<|pa 20 rfl<|ah<|k2 (fun h=>h.1.2.2 ‹_›) _ q.ae
   ·refine pa 2 rfl<|ac ⟨_,q.ar (b:=y) [C3 c.i1,C5 c.b1,C3 c.i2,C5 c.b2,C3 c.rt],c18 q (fun h_25 w_25 q=>?_) (fun h_25 w_25 q=>?_)⟩
    ·refine pa 2 rfl ⟨_,q.ar (b:=y) [C5 c.maps,C5 c.flows,C5 c.least,C5 c.most,C4 c.t0,C4 c.t1,C4 c.t2,C4 c.t3],c19 q (fun h_30 w_30 q=>?_) (fun h_30 w_30 q=>?_)⟩
     ·refine pa 2 rfl<|q.Da (b:=y) rfl<|c20 ‹_› q (fun h_34 w_34 q=>?_) (fun h_34 w_34 q=>?_)
      ·refine pa 2 rfl<|q.Da (b:=y) rfl<|c21 ‹_› q (fun h_38 w_38 q=>?_) (fun h_38 w_38 q=>?_)
       ·refine pa 2 rfl<|ah<|k1 (by trivial) _ q.ae
       ·exact pa 2 rfl<|ah<|k2 (fun h=>absurd h.2.2.2.2 ‹_›) _ q.ae
      ·exact pa 6 rfl<|ah<|k2 (fun h=>absurd h.2.2.2.1 ‹_›) _ q.ae
     ·exact pa 10 rfl<|ah<|k2 (fun h=>absurd h.2.2.1 ‹_›) _ q.ae
    ·exact pa 15 rfl<|ah<|k2 (fun h=>absurd h.2.1 ‹_›) _ q.ae
end
end
end Go.Proofs.YtlhpilgmeededaaGreatDoor
namespace Go.Proofs.YtlhpilgmeededaaGreatDoor
set_option maxRecDepth 100000
open Go.RowKit Go.Extern.Stop Go.Stop Go.Extern Go.Proofs
theorem AP (t:Addr) (w:World):(ReflectliteValue.unpack (.iface 296 (.pointer (some t)))).run Tryz.prog w
  = .ok (.agg #[.pointer (some ⟨9,296,none⟩),.pointer (some ⟨w.heap.size,0,none⟩),.int .u64 150]) (w.alloc (.cells #[.pointer (some t)] 296)):=by kernel_rfl
theorem AQ (a:Addr) (w:World):(ReflectliteValue.methodAny (ReflectliteValue.valueError "reflectlite.Value.Type" 0) (fun t _ _ _=>ReflectliteType.toType t) #[.agg #[.pointer (some ⟨9,296,none⟩),.pointer (some a),.int .u64 150]]).run Tryz.prog w
  = .ok (.iface 434 (.agg #[.pointer (some ⟨9,296,none⟩)])) w:=by kernel_rfl
theorem AR (h:Value) (w:World):(Go.method 710 434 (.agg #[h]) "Kind").run Tryz.prog w= .ok (409,h) w:=by kernel_rfl
theorem AS (w:World):((ReflectliteType.abiMethod fun t=>(fun a:Nat=>Value.int IntKind.u8 (a:Int))<$>Rtype.kind t) #[.pointer (some ⟨9,296,none⟩)]).run Tryz.prog w= .ok (.int .u8 22) w:=by kernel_rfl
theorem AT (w:World):((ReflectliteType.abiMethod fun t=>(fun a:Nat=>Value.int IntKind.u8 (a:Int))<$>Rtype.kind t) #[.pointer (some ⟨9,165,none⟩)]).run Tryz.prog w= .ok (.int .u8 22) w:=by kernel_rfl
theorem vF (z:Sem Value) (f:TypeId→Addr→Nat→Nat→Sem Value) (v:Value):
  ReflectliteValue.method z f #[v]=(do match ←ReflectliteValue.parts v with | none=>z | some (t,a,fl)=>f t a fl (fl % 32)):=rfl
theorem vG (a:Addr) (w:World):(ReflectliteValue.parts (.agg #[.pointer (some ⟨9,296,none⟩),.pointer (some a),.int .u64 150])).run Tryz.prog w= .ok (some (296,a,150)) w:=by kernel_rfl
theorem AU (a p:Addr) (W:World) (q:W.cell? a=some (.pointer (some p))):
  (ReflectliteValue.method (ReflectliteValue.valueError "reflectlite.Value.IsNil" 0) ReflectliteValue.isNil #[.agg #[.pointer (some ⟨9,296,none⟩),.pointer (some a),.int .u64 150]]).run Tryz.prog W= .ok (.bool false) W:=by
 rw [vF]
 simp only [Sem.run_bind,vG,Result.andThen]
 simp [ReflectliteValue.isNil,loadVar,isAgg,underlying,Tryz.underlying296,q,Result.andThen]
theorem AV (h:Value) (w:World):(Go.method 710 434 (.agg #[h]) "Elem").run Tryz.prog w= .ok (431,.agg #[h]) w:=by kernel_rfl
theorem AW (h:Value) (w:World):(Go.method 710 434 (.agg #[h]) "Implements").run Tryz.prog w= .ok (432,.agg #[h]) w:=by kernel_rfl
theorem AX (h:Value) (w:World):(Go.method 710 434 (.agg #[h]) "AssignableTo").run Tryz.prog w= .ok (429,.agg #[h]) w:=by kernel_rfl
theorem AY (w:World):(ReflectliteType.method ReflectliteType.elem #[.agg #[.pointer (some ⟨9,296,none⟩)]]).run Tryz.prog w= .ok (.iface 434 (.agg #[.pointer (some ⟨9,165,none⟩)])) w:=by kernel_rfl
theorem AZ (w:World):(ReflectliteType.relation "Implements" ReflectliteType.implements_ #[.agg #[.pointer (some ⟨9,165,none⟩)],.iface 434 (.agg #[.pointer (some ⟨9,62,none⟩)])]).run Tryz.prog w= .ok (.bool true) w:=by kernel_rfl
theorem A0 (v:Value) (w:World):(ReflectliteType.typeOf #[.iface 165 v]).run Tryz.prog w= .ok (.iface 434 (.agg #[.pointer (some ⟨9,165,none⟩)])) w:=by kernel_rfl
theorem A1 (w:World):(ReflectliteType.relation "AssignableTo" ReflectliteType.assignableTo #[.agg #[.pointer (some ⟨9,165,none⟩)],.iface 434 (.agg #[.pointer (some ⟨9,165,none⟩)])]).run Tryz.prog w= .ok (.bool true) w:=by kernel_rfl
theorem A3 (e:Addr) (w:World):(ReflectliteValue.unpack (.iface 165 (.pointer (some e)))).run Tryz.prog w
  = .ok (.agg #[.pointer (some ⟨9,165,none⟩),.pointer (some ⟨w.heap.size,0,none⟩),.int .u64 150]) (w.alloc (.cells #[.pointer (some e)] 165)):=by kernel_rfl
theorem A4 (w:World):(Rtype.elem? 296).run Tryz.prog w= .ok (some 165) w:=by kernel_rfl
theorem A5 (p:Addr) (w:World):(ReflectliteValue.mk 165 p ReflectliteValue.flagAddr).run Tryz.prog w= .ok (.agg #[.pointer (some ⟨9,165,none⟩),.pointer (some p),.int .u64 406]) w:=by kernel_rfl
theorem A6 (a p:Addr) (W:World) (q:W.cell? a=some (.pointer (some p))):
  (ReflectliteValue.method (ReflectliteValue.valueError "reflectlite.Value.Elem" 0) ReflectliteValue.elem #[.agg #[.pointer (some ⟨9,296,none⟩),.pointer (some a),.int .u64 150]]).run Tryz.prog W
   = .ok (.agg #[.pointer (some ⟨9,165,none⟩),.pointer (some p),.int .u64 406]) W:=by
 rw [vF]
 simp only [Sem.run_bind,vG,Result.andThen]
 simp [ReflectliteValue.elem,loadVar,isAgg,underlying,Tryz.underlying296,q,Result.andThen,A4,A5]
theorem A7 (v x:Value):ReflectliteValue.set #[v,x]=(do
  let (some (dst,a,fl),some (src,b,_)):=(←ReflectliteValue.parts v,←ReflectliteValue.parts x)
   | unsupported (.noEntry "extern/(internal/reflectlite.Value).Set.zeroValue")
  if fl / ReflectliteValue.flagAddr % 2==0 then unsupported (.noEntry "extern/(internal/reflectlite.Value).Set.unaddressable")
  let val ←loadVar src b
  if ←Rtype.directlyAssignable dst src then storeVar dst a val
  else if ←Rtype.implements dst src then
   if (←Rtype.kind src)==20 then
    match val with
    | .nilIface=>unsupported (.noEntry "extern/reflectlite: a nil value of one interface type handed on as a value of another")
    | _=>storeVar dst a val
   else storeVar dst a (.iface src val)
  else panicString ("reflectlite.Set: value of type " ++(←Rtype.spelt src)++ " is not assignable to type " ++(←Rtype.spelt dst))
  pure (.tuple #[])):=rfl
theorem A8 (a:Addr) (w:World):(ReflectliteValue.parts (.agg #[.pointer (some ⟨9,165,none⟩),.pointer (some a),.int .u64 406])).run Tryz.prog w= .ok (some (165,a,406)) w:=by kernel_rfl
theorem A9 (a:Addr) (w:World):(ReflectliteValue.parts (.agg #[.pointer (some ⟨9,165,none⟩),.pointer (some a),.int .u64 150])).run Tryz.prog w= .ok (some (165,a,150)) w:=by kernel_rfl
theorem Ba (w:World):(Rtype.directlyAssignable 165 165).run Tryz.prog w= .ok true w:=by kernel_rfl
theorem Bb (ta b e:Addr) (eh:Value) (W:World) (q:W.cell? b=some (.pointer (some e))) (y:W.cell? ta=some eh) (H:W.frozen? ta=false):
  (ReflectliteValue.set #[.agg #[.pointer (some ⟨9,165,none⟩),.pointer (some ta),.int .u64 406],.agg #[.pointer (some ⟨9,165,none⟩),.pointer (some b),.int .u64 150]]).run Tryz.prog W
   = .ok (.tuple #[]) (W.setCell ta (.pointer (some e))):=by
 rw [A7]
 simp only [Sem.run_bind,A8,A9,Result.andThen]
 simp [ReflectliteValue.flagAddr,loadVar,isAgg,underlying,Tryz.underlying165,q,Result.andThen,Ba,storeVar,Value.cells,storeCells,Addr.add]
 rw [run_store Tryz.prog W ta _ _ (by rfl)]
 simp [y,H]
set_option maxHeartbeats 4000000 in
theorem Bc (e t:Addr) (eh:Value) (w:World) (Y:w.cell? ⟨0,0,none⟩=some (.iface 434 (.agg #[.pointer (some ⟨9,62,none⟩)]))) (q:w.cell? t=some eh) (H:w.frozen? t=false):
  Calls Tryz.prog 151 #[.iface 165 (.pointer (some e)),.iface 296 (.pointer (some t))] w fun ev w'=>ev= .returned (.bool true)∧w'=((((w.alloc (.cells #[.pointer (some t)] 296)).alloc (.cells #[.pointer (some ⟨9,296,none⟩),.pointer (some ⟨w.heap.size,0,none⟩),.int .u64 150] 367)).alloc (.cells #[.pointer (some ⟨9,296,none⟩),.pointer (some ⟨w.heap.size,0,none⟩),.int .u64 150] 367)).alloc (.cells #[.pointer (some e)] 165)).setCell t (.pointer (some e)):=by
 have h6:= @run_callFunc_extern Tryz.prog 200 _ (fun args=>ReflectliteValue.unpack (args.getD 0 (.tuple #[]))) Tryz.func200 (by kernel_rfl) (by kernel_rfl) (by kernel_rfl) (by kernel_rfl)
 have h7:= @run_callFunc_extern Tryz.prog 201 _ (ReflectliteValue.methodAny (ReflectliteValue.valueError "reflectlite.Value.Type" 0) (fun t _ _ _=>ReflectliteType.toType t)) Tryz.func201 (by kernel_rfl) (by kernel_rfl) (by kernel_rfl) (by kernel_rfl)
 have h8:= @run_callFunc_extern Tryz.prog 202 _ (ReflectliteValue.method (ReflectliteValue.valueError "reflectlite.Value.IsNil" 0) ReflectliteValue.isNil) Tryz.func202 (by kernel_rfl) (by kernel_rfl) (by kernel_rfl) (by kernel_rfl)
 have h27:= @run_callFunc_extern Tryz.prog 409 _ (ReflectliteType.abiMethod fun t=>do pure (.int .u8 (←Rtype.kind t))) Tryz.func409 (by kernel_rfl) (by kernel_rfl) (by kernel_rfl) (by kernel_rfl)
 have h37:= @run_callFunc_extern Tryz.prog 431 _ (ReflectliteType.method ReflectliteType.elem) Tryz.func431 (by kernel_rfl) (by kernel_rfl) (by kernel_rfl) (by kernel_rfl)
 have h38:= @run_callFunc_extern Tryz.prog 432 _ (ReflectliteType.relation "Implements" ReflectliteType.implements_) Tryz.func432 (by kernel_rfl) (by kernel_rfl) (by kernel_rfl) (by kernel_rfl)
 have h10:= @run_callFunc_extern Tryz.prog 253 _ ReflectliteType.typeOf Tryz.func253 (by kernel_rfl) (by kernel_rfl) (by kernel_rfl) (by kernel_rfl)
 have h35:= @run_callFunc_extern Tryz.prog 429 _ (ReflectliteType.relation "AssignableTo" ReflectliteType.assignableTo) Tryz.func429 (by kernel_rfl) (by kernel_rfl) (by kernel_rfl) (by kernel_rfl)
 have h11:= @run_callFunc_extern Tryz.prog 254 _ (ReflectliteValue.method (ReflectliteValue.valueError "reflectlite.Value.Elem" 0) ReflectliteValue.elem) Tryz.func254 (by kernel_rfl) (by kernel_rfl) (by kernel_rfl) (by kernel_rfl)
 have h12:= @run_callFunc_extern Tryz.prog 255 _ ReflectliteValue.set Tryz.func255 (by kernel_rfl) (by kernel_rfl) (by kernel_rfl) (by kernel_rfl)
 have tO:=A0
 have mA:=AX
 have a25:=A1
 have v25:=A3
 have f6:=AP
 have f7:=AQ
 have mK:=AR
 have mE:=AV
 have mI:=AW
 have k27:=AS
 have k25:=AT
 have e27:=AY
 have i25:=AZ
 have n8:=AU ⟨w.heap.size,0,none⟩ t ((w.alloc (.cells #[.pointer (some t)] 296)).alloc (.cells #[.pointer (some ⟨9,296,none⟩),.pointer (some ⟨w.heap.size,0,none⟩),.int .u64 150] 367)) (by simp)
 have J:0<w.heap.size:=by
  rcases Nat.eq_zero_or_pos w.heap.size with h0 | h
  ·simp [World.cell?,h0] at Y
  ·exact h
 have hg2:((w.alloc (.cells #[.pointer (some t)] 296)).alloc (.cells #[.pointer (some ⟨9,296,none⟩),.pointer (some ⟨w.heap.size,0,none⟩),.int .u64 150] 367)).cell? ⟨0,0,none⟩=some (.iface 434 (.agg #[.pointer (some ⟨9,62,none⟩)])):=by
  rw [World.cell?_alloc_lt _ _ ⟨0,0,none⟩ (by simp),World.cell?_alloc_lt _ _ ⟨0,0,none⟩ J];exact Y
 have y:t.block<w.heap.size:=by
  rcases Nat.lt_or_ge t.block w.heap.size with h | h
  ·exact h
  ·simp [World.cell?,Array.getElem?_eq_none h] at q
 have el:=A6 ⟨w.heap.size,0,none⟩ t (((w.alloc (.cells #[.pointer (some t)] 296)).alloc (.cells #[.pointer (some ⟨9,296,none⟩),.pointer (some ⟨w.heap.size,0,none⟩),.int .u64 150] 367)).alloc (.cells #[.pointer (some ⟨9,296,none⟩),.pointer (some ⟨w.heap.size,0,none⟩),.int .u64 150] 367)) (by rw [World.cell?_alloc_lt _ _ ⟨w.heap.size,0,none⟩ (by simp;omega)];simp)
 have st:=Bb t ⟨w.heap.size+1+1+1,0,none⟩ e eh ((((w.alloc (.cells #[.pointer (some t)] 296)).alloc (.cells #[.pointer (some ⟨9,296,none⟩),.pointer (some ⟨w.heap.size,0,none⟩),.int .u64 150] 367)).alloc (.cells #[.pointer (some ⟨9,296,none⟩),.pointer (some ⟨w.heap.size,0,none⟩),.int .u64 150] 367)).alloc (.cells #[.pointer (some e)] 165))
  (by rw [World.cell?_alloc_at _ _ _ _ (by simp)];rfl)
  (by rw [World.cell?_alloc_lt _ _ t (by simp;omega),World.cell?_alloc_lt _ _ t (by simp;omega),World.cell?_alloc_lt _ _ t (by simp;omega),World.cell?_alloc_lt _ _ t y];exact q)
  (by rw [World.frozen?_alloc_old _ _ t (by simp;omega),World.frozen?_alloc_old _ _ t (by simp;omega),World.frozen?_alloc_old _ _ t (by simp;omega),World.frozen?_alloc_old _ _ t (Nat.ne_of_lt y)];exact H)
 go_enter Tryz.func151,Tryz.ntmps151
 go_wp2
 refine wp_loop_rounds 1 ?_
 rw [rounds_succ]
 go_wp2
 go_ret
 exact ⟨rfl,rfl⟩
end Go.Proofs.YtlhpilgmeededaaGreatDoor
namespace Go.Proofs.YtlhpilgmeededaaGreatDoor
open Go Go.Den
set_option maxHeartbeats 4000000
set_option maxRecDepth 8000
section
def kN:ao where
 ex:=fun _=>False
 sh:=fun b=>b=0
 holds:=fun w=>w.cell? ⟨0,0,none⟩=some (.iface 434 (.agg #[.pointer (some ⟨9,62,none⟩)]))
 loc:=fun w _ h q=>(World.cell?_of_block (a:=⟨0,0,none⟩) (h 0 (.inr rfl))).trans q
 dom:=fun w q b y=>by
  obtain rfl:b=0:=y.resolve_left id
  exact World.block_lt_of_cell? w _ q
class di (L:List ao):Prop where
 get: ∀ {w0 w:World},SH w0 w L→w.cell? ⟨0,0,none⟩=some (.iface 434 (.agg #[.pointer (some ⟨9,62,none⟩)]))
instance etHead (L:List ao):di (kN::L):=⟨fun h=>h.holds kN (.head _)⟩
instance (priority:=low) etTail (A:ao) (L:List ao) [h:di L]:di (A::L):=⟨fun k=>h.get k.tail⟩
section
variable {w0 w:World} {L R R2:List ao} {K:Value→World→Prop}
theorem Be {w q:World} {a:Addr} {v:Value} (h:Go.Den.stored w a 0 [v]=some q):q=w.setCell a v:=by
 have e:a.add 0=a:=rfl
 rw [Go.Den.stored] at h
 split at h
 ·rw [Go.Den.stored,e] at h
  cases h
  rfl
 ·cases h
attribute [local irreducible] ay
theorem c151 {e t:Nat} {cs:List Value} (y:SH w0 w L) [hE:di L] [q:aR L t 165 cs R] (Y:cs=[.pointer none]) (k: ∀ H,SH w0 H (Cl t 165 [pt e]::R)→K (.bool true) H):D 151 [bu e,.iface 296 (pt t)] w K:=by
 subst Y
 refine Calls.mono (Bc ⟨e,0,none⟩ ⟨t,0,none⟩ (.pointer none) w (hE.get y) (y.ld (b:=t) (i:=0) rfl) (by rw [World.frozen?];rw [y.eI t];rfl)) ?_
 rintro ev H ⟨rfl,rfl⟩
 refine ⟨_,rfl,k _ ?_⟩
 have h4:=(((y.cZ (bX.alloc w (.cells #[.pointer (some ⟨t,0,none⟩)] 296))).cZ (bX.alloc _ (.cells #[.pointer (some ⟨9,296,none⟩),.pointer (some ⟨w.heap.size,0,none⟩),C4 150] 367))).cZ (bX.alloc _ (.cells #[.pointer (some ⟨9,296,none⟩),.pointer (some ⟨w.heap.size,0,none⟩),C4 150] 367))).cZ (bX.alloc _ (.cells #[.pointer (some ⟨e,0,none⟩)] 165))
 obtain ⟨H,hs,J⟩:=h4.st (b:=t) (o:=0) [pt e] rfl rfl
 rw [Be hs] at J
 exact J
theorem SH.Bg {e:Nat} {r:Int} (y:SH w0 w L) [q:aC (Er e) L r R]:w.cell? ⟨e,0,none⟩=some (C5 r):=by
 obtain ⟨_,x,H⟩:=(y.at (Er e)).holds (Er e r) (.head _)
 rw [cell_of H]
 rfl
theorem c104 {e:Nat} {r:Int} (y:SH w0 w L) [hE:di R] [q:aC (Er e) L r R] (k: ∀ J,SH w0 J (Er e r::R)→K (C5 r) J):D 104 [bu e] w K:=by
 have y:=y.at (Er e)
 refine s104 rfl<|ac<|ac<|y.an fun H _ y=>aq<|c151 y rfl (fun _ y=>ac (y.C9 (b:=H) rfl (⟨_,SH.Bg y,Dt [0,2,10] [.iface 165 (pt e),C5 0,C5 r] fun _=>ah (k _ y.ae)⟩)))
end
end
end Go.Proofs.YtlhpilgmeededaaGreatDoor
namespace Go.Proofs.YtlhpilgmeededaaGreatDoor
open Go Go.Den Go.RowKit Go.Proofs
set_option maxHeartbeats 4000000
set_option maxRecDepth 8000
attribute [local irreducible] ay aQ aH aY a6 aW
section
variable {w0 w:World} {L R R2 R3 R4 R5:List ao} {K:Value→World→Prop} {p:Nat} {s:cX}
theorem c217 {pr ia xa ib xb fl:Int} {now:Nat} (hr:eP pr∧cN ia∧bz xa∧cN ib∧bz xb) (hc:s.count<4611686018427387904) (y:SH w0 w L) [q:aC (Ta p) L s R] [hz:cL R]
  (k: ∀ s' (z e:Int) w',(s.count≤s'.count∧s'.count≤s.count+1)∧bz z→SH w0 w' (Ta p s'::R)→K (.tuple #[.int .u16 z,.int .i64 e]) w'):D 217 [pt p,.int .u8 pr,.agg #[.int .u32 ia,.int .u16 xa],.agg #[.int .u32 ib,.int .u16 xb],.int .u8 fl,.int .u64 now] w K:=by
 obtain ⟨hs,y⟩:=SH.ta y p
 have gk:eQ.good (pr,ia,xa,ib,xb):=hr
 refine s217f rfl<|ac<|y.az [.int .u32 ia,.int .u16 xa] fun b_8 _ y=>y.az [.int .u32 ib,.int .u16 xb] fun b_9 _ y=>ac<|y.Da (b:=b_8) rfl<|y.Da (b:=b_9) rfl ⟨_,cq,?_⟩
 generalize hm:min now 2305843009213693952=mn
 have hmn:mn≤2305843009213693952:=by omega
 refine ⟨by kernel_rfl,[.int .u8 pr,.int .u32 ia,.int .u16 xa,.int .u16 0,.int .u32 ib,.int .u16 xb,.int .u8 0,.int .u8 0,.int .u8 0,.bool false,.bool false,.int .u64 mn],by kernel_rfl,y.an fun H _ y=>y.aj (b:=H) fun _ y=>?_⟩
 refine bt ([15,16]++List.range' 25 10) rfl [0,4,14,15,16] (fun (x:Int × Bool)=>[pt p,.int .u8 fl,pt H,.int .i64 x.1,.bool x.2]) (fun x w'=>(cM x.1∧(x.2=true→ ∃ f,aB s.S x.1=some f∧iG f=(pr,ia,xa,ib,xb)))∧SH w0 w' (Ta p s::Cl H 329 [.int .u8 pr,.int .u32 ia,.int .u16 xa,.int .u16 0,.int .u32 ib,.int .u16 xb,.int .u8 0,.int .u8 0,.int .u8 0,.bool false,.bool false,.int .u64 mn]::R)) ?_ ?_
 ·refine cv<|have y:=y.drew;y.Da (b:=H) rfl<|y.C9 (b:=p) rfl<|c175 y (fun _ y=>⟨⟨y.ld (b:=p) rfl,⟨⟨_,y.af (b:=H) rfl,rfl⟩,trivial⟩⟩,dh (k:=(pr,ia,xa,ib,xb)) rfl rfl rfl gk y (fun h_25=>?_) (fun v_25 h_25=>?_)⟩)
  ·exact ⟨⟨y.ld (b:=p) rfl,⟨⟨_,y.af (b:=H) rfl,rfl⟩,trivial⟩⟩,⟨(0,false),rfl,⟨⟨by decide,fun e=>(by cases e)⟩,SH.df y.ae hs⟩⟩⟩
  ·have hv:=hs.outs _ (cU h_25)
   have hvi:cM v_25:=by
    obtain ⟨f,hf,_⟩:=hv
    exact y.gv s.sb (T:=dH) _ (cU hf)
   exact ⟨⟨y.ld (b:=p) rfl,⟨⟨_,y.af (b:=H) rfl,rfl⟩,trivial⟩⟩,⟨(v_25,true),rfl,⟨⟨hvi,fun _=>hv⟩,SH.df y.ae hs⟩⟩⟩
 rintro g ⟨id,b⟩ w5 ⟨⟨hi,hb⟩,y⟩
 simp only at hi hb y
 have hb':b=true→aB s.S id≠none:=fun e h=>by obtain ⟨f,hf,_⟩:=hb e;rw [h] at hf;cases hf
 refine ac<|y.C9 (b:=H) rfl<|c279 hi b hb' y (fun s' w_34 _ y=>?_) (fun _ f _ _ _ hf _ _ w_34 y=>?_)
 ·have hr':eP pr∧cN ia∧bz xa∧cN ib∧bz xb∧0≤(mn:Int)∧(mn:Int)≤2305843009213693952:=⟨hr.1,hr.2.1,hr.2.2.1,hr.2.2.2.1,hr.2.2.2.2,Int.natCast_nonneg mn,Int.ofNat_le.2 hmn⟩
  have hcc:s'.count<4611686018427387904:=by omega
  exact y.an fun J w_17 y=>y.aj (b:=J) fun _ y=>aq<|Dj<|ac<|y.Da (b:=H) rfl<|c280 (by assumption) (by assumption) y (fun s'_49 _ _ _ h_494 y=>ah (k s'_49 _ _ _ ⟨⟨by omega,by omega⟩,h_494.2⟩ y.ae))
 ·have Y:kL f:=hs.flow _ (cU hf)
  obtain ⟨hs,y⟩:=SH.ta y p
  have hA:=y.apart s.sb (T:=dH)
  have hbn:=hs.bnd
  refine y.an fun J w_17 y=>y.aj (b:=J) fun _ y=>aq<|Dj<|ak<|aJ<|have y:=y.drew;y.C9 (b:=H) rfl ⟨_,y.ar (b:=J) [.int .u8 f.snd.snd.snd.snd.fst.fst,.int .u8 f.snd.snd.snd.snd.fst.snd.fst,.int .u8 f.snd.snd.snd.snd.fst.snd.snd.fst,.bool f.snd.snd.snd.snd.fst.snd.snd.snd.fst,.bool f.snd.snd.snd.snd.fst.snd.snd.snd.snd],⟨⟨y.ld (b:=H) rfl,trivial⟩,c281 y (fun o'_55 i'_55 l'_55 e'_55 _ y=>⟨⟨y.ld (b:=H) rfl,trivial⟩,y.cp (b:=J) [.int .u8 f.snd.snd.snd.snd.fst.fst,.int .u8 o'_55,.int .u8 i'_55,.bool l'_55,.bool e'_55] fun _ y=>⟨⟨y.ld (b:=H) rfl,trivial⟩,y.cp (b:=J) [.int .u64 mn] fun _ y=>ac (y.Da (b:=J) rfl (c282 (a:=s.a) (b:=s.b) (c:=s.c) (d:=s.d) (by assumption) (by omega) (by omega) y rfl fun ws' _ h_63 y=>?_))⟩⟩)⟩⟩
  have hok:=hs.keep hA hf (f:=(f.1,f.2.1,f.2.2.1,f.2.2.2.1,(f.2.2.2.2.1.1,o'_55,i'_55,l'_55,e'_55),(mn:Int))) ⟨Y.1,Y.2.1,Y.2.2.1,Y.2.2.2.1,Y.2.2.2.2.1,Y.2.2.2.2.2.1,Int.natCast_nonneg mn,Int.ofNat_le.2 hmn⟩ rfl rfl h_63
  exact ac<|y.C9 (b:=J) rfl<|ah<|k { s with S:=aF s.S id (f.1,f.2.1,f.2.2.1,f.2.2.2.1,(f.2.2.2.2.1.1,o'_55,i'_55,l'_55,e'_55),(mn:Int)),ws:=ws' } _ 0 _ ⟨⟨Int.le_refl _,by show s.count≤s.count+1;omega⟩,Y.2.2.2.1⟩ (SH.df y.ae hok)
end
end Go.Proofs.YtlhpilgmeededaaGreatDoor
namespace Go
open Go.RowKit
section
variable {P:Program} (w:World)
theorem Bh (d:Nat) {ti tn:TypeId} {ms:Array (String × TypeId)} {i:TypeInfo} {k:IntKind} (a b:Int)
  (hi:P.underlying ti=some (.interface ms)) (q:P.underlying tn=some (.int k)) (hinfo:P.info? tn=some i) (hcomp:i.comparable=true):
  (Op.equalIn (d+2) ti (.iface tn (.int k a)) (.iface tn (.int k b))).run P w= .ok (a==b) w:=by
 simp [Op.equalIn,run_underlying hi,run_underlying q,typeInfo,hinfo,hcomp]
theorem Bi {ti tn:TypeId} {ms:Array (String × TypeId)} {i:TypeInfo} {k:IntKind} (a b:Int)
  (hi:P.underlying ti=some (.interface ms)) (q:P.underlying tn=some (.int k)) (hinfo:P.info? tn=some i) (hcomp:i.comparable=true):
  (binOp .eql ti (.iface tn (.int k a)) (.iface tn (.int k b))).run P w= .ok (.bool (a==b)) w:=by
 simp only [binOp]
 simp [Op.equal,Op.maxDepth,Bh w 9998 a b hi q hinfo hcomp]
end
end Go
namespace Go.Proofs.YtlhpilgmeededaaGreatDoor
set_option maxRecDepth 100000
open Go.RowKit Go.Extern.Stop Go.Stop Go.Extern Go.Proofs
theorem Bj (v:Value) (w:World):(Extern.ReflectliteType.typeOf #[.iface 55 v]).run Tryz.prog w= .ok (.iface 434 (.agg #[.pointer (some ⟨9,55,none⟩)])) w:=by kernel_rfl
theorem Bk (w:World):((Extern.ReflectliteType.method fun t=>do Go.Extern.Rtype.noPackHeld "Comparable" t;(fun a=>Value.bool a.comparable)<$>typeInfo t) #[.agg #[.pointer (some ⟨9,55,none⟩)]]).run Tryz.prog w= .ok (.bool true) w:=by kernel_rfl
theorem Bl (v:Value) (w:World):(Go.method 710 434 v "Comparable").run Tryz.prog w= .ok (430,v) w:=by kernel_rfl
theorem Bn:(Tryz.prog.info? 55).map (·.comparable)=some true:=by kernel_rfl
theorem Bp (v:Value) (xT:TypeId) (w:World):(Instr.typeAssert (.iface 55 v) xT 555 true).run Tryz.prog w= .ok (.tuple #[.nilIface,.bool false]) w:=run_typeAssert_lacksB Tryz.underlying555 (by kernel_rfl) (by kernel_rfl) v xT w
theorem Bq (v:Value) (xT:TypeId) (w:World):(Instr.typeAssert (.iface 55 v) xT 442 true).run Tryz.prog w= .ok (.tuple #[.nilIface,.bool false]) w:=run_typeAssert_lacksB Tryz.underlying442 (by kernel_rfl) (by kernel_rfl) v xT w
theorem Br (v:Value) (xT:TypeId) (w:World):(Instr.typeAssert (.iface 55 v) xT 443 true).run Tryz.prog w= .ok (.tuple #[.nilIface,.bool false]) w:=run_typeAssert_lacksB Tryz.underlying443 (by kernel_rfl) (by kernel_rfl) v xT w
set_option maxHeartbeats 4000000 in
theorem Bs (a b:Int) (w:World):
  Calls Tryz.prog 283 #[.iface 55 (.int .i64 a),.iface 55 (.int .i64 b)] w fun e H=>e= .returned (.bool (a==b))∧H=w:=by
 obtain ⟨i,hi,hcmp⟩:=Option.map_eq_some_iff.1 Bn
 have h8:= @run_callFunc_extern Tryz.prog 253 _ Extern.ReflectliteType.typeOf Tryz.func253 (by kernel_rfl) (by kernel_rfl) (by kernel_rfl) (by kernel_rfl)
 have h32:= @run_callFunc_extern Tryz.prog 430 _ (Extern.ReflectliteType.method fun t=>do Go.Extern.Rtype.noPackHeld "Comparable" t;pure (.bool (←typeInfo t).comparable)) Tryz.func430 (by kernel_rfl) (by kernel_rfl) (by kernel_rfl) (by kernel_rfl)
 have tT:=Bj
 have cT:=Bk
 have mR:=Bl
 have n1:=Bp
 have n2:=Bq
 have n3:=Br
 have q:=Bi (P:=Tryz.prog) w a b Tryz.underlying62 Tryz.underlying55 hi hcmp
 by_cases y:a=b
 ·subst y
  simp only [beq_self_eq_true] at q
  go_enter Tryz.func283,Tryz.ntmps283
  go_wp2
  refine wp_loop_rounds 1 ?_
  rw [rounds_succ]
  go_wp2
  go_ret
  exact ⟨by simp,rfl⟩
 ·have J:(a==b)=false:=by simpa using y
  rw [J] at q ⊢
  go_enter Tryz.func283,Tryz.ntmps283
  go_wp2
  refine wp_loop_rounds 1 ?_
  rw [rounds_succ]
  go_wp2
  go_ret
  exact ⟨rfl,rfl⟩
end Go.Proofs.YtlhpilgmeededaaGreatDoor
namespace Go.Proofs.YtlhpilgmeededaaGreatDoor
open Go Go.Den
set_option maxHeartbeats 4000000
set_option maxRecDepth 8000
section
structure dX where
 own:Nat
 tb:Nat
 t:cX
def lG (p:Nat) (s:dX):List ao:=[Cl p 198 [C3 s.own,pt s.tb],Ta s.tb s.t]
def Na (p:Nat) (s:dX):ao:=bi (lG p s++[Fact (s.own<4294967296)])
section
variable {w0 w:World} {L R R2:List ao} {K:Value→World→Prop} {p:Nat} {s:dX} {v:Value} {bs:List Nat}
theorem SH.na (H:SH w0 w L) (p:Nat) {s:dX} [q:aC (Na p) L s R]:s.own<4294967296∧SH w0 w (Cl p 198 [C3 s.own,pt s.tb]::Ta s.tb s.t::R):=by
 have h:SH w0 w (lG p s++(Fact (s.own<4294967296)::R)):=by
  have:=(H.at (Na p)).io
  simpa using this
 have y:SH w0 w (Fact (s.own<4294967296)::(lG p s++R)):=h.perm List.perm_middle
 exact ⟨y.known,y.tail⟩
theorem SH.cO {p:Nat} {s:dX} (q:SH w0 w (Cl p 198 [C3 s.own,pt s.tb]::Ta s.tb s.t::R)) (h:s.own<4294967296):SH w0 w (Na p s::R):=by
 have h1:SH w0 w (Fact (s.own<4294967296)::(lG p s++R)):=q.fact h
 have y:SH w0 w ((lG p s++[Fact (s.own<4294967296)])++R):=by
  have:=h1.perm (List.perm_middle (l₁:=lG p s) (l₂:=R) (a:=Fact (s.own<4294967296))).symm
  simpa using this
 exact SH.star y
theorem c283 {a b:Int} (y:SH w0 w L) (k1:a=b→ ∀ q,SH w0 q L→K (.bool true) q) (k2:a≠b→ ∀ q,SH w0 q L→K (.bool false) q):D 283 [.iface 55 (C5 a),.iface 55 (C5 b)] w K:=by
 refine Calls.mono (Bs a b w) ?_
 rintro e q ⟨rfl,rfl⟩
 refine ⟨_,rfl,?_⟩
 by_cases h:a=b
 ·rw [beq_iff_eq.2 h];exact k1 h _ y
 ·rw [beq_eq_false_iff_ne.2 h];exact k2 h _ y
theorem SH.Bt {b:Nat} {r e:Int} (J:1≤r∧r<20) (H:SH w0 w (Cl b 167 [C5 r,.iface 55 (C5 e)]::L)):SH w0 w (Er b r::L):=by
 refine SH.cQ (L:=[Cl b 167 [C5 r,.iface 55 (C5 e)]]) (L':=[Er b r]) (F:=L) H rfl rfl rfl (Nat.le_refl _) (fun _ _ _=>rfl) (fun A q=>?_) (by simp) (fun A q Y y=>?_) (fun A q Y y=>?_)
 ·rcases List.mem_singleton.1 q with rfl
  exact ⟨J,e,H.holds _ (.head _)⟩
 ·rcases List.mem_singleton.1 q with rfl
  exact .inl ⟨_,.head _,y⟩
 ·rcases List.mem_singleton.1 q with rfl
  exact y.elim
attribute [local irreducible] ay aQ aH aY a6 aW aK aV num be over nb rowOf
theorem c48 {own:Nat} {maps flows least most:Int} {a b c d:Nat} (ho:own<4294967296) (q:SH w0 w L)
  (k1:ee maps flows least most a b c d→(fN own)→ ∀ p s J,s.t.count=0∧s.own=own→SH w0 J (Na p s::L)→K (.tuple #[pt p,C5 0]) J)
  (k2: ¬ (ee maps flows least most a b c d∧fN own)→ ∀ (e:Int) J,e≠0→SH w0 J L→K (.tuple #[.pointer none,C5 e]) J):
  D 48 [C3 own,.agg #[C5 maps,C5 flows,C5 least,C5 most,C4 a,C4 b,C4 c,C4 d]] w K:=by
 refine s48 rfl<|ac<|q.az [C5 maps,C5 flows,C5 least,C5 most,C4 a,C4 b,C4 c,C4 d] fun b_3 _ q=>ac<|q.Da (b:=b_3) rfl<|c90 q (fun Y y s_10 w_10 H q=>?_) (fun Y w_10 q=>?_)
 ·refine aG<|ac<|Dh<|ai<|ac<|c91 q (fun h_19=>?_) (fun h_19=>?_)
  ·exact Dj<|ai<|ak<|ac ⟨rfl,[C3 own,pt y],rfl,q.az [C3 own,pt y] fun b_24 _ q=>ah (k1 ‹_› ‹_› b_24 ⟨own,y,s_10⟩ _ ⟨H.1,rfl⟩ (SH.cO q.ae ho))⟩
  ·exact Dj<|ai<|ac<|ah<|k2 (fun h=>absurd h.2 ‹_›) 11 _ (by decide) q.ae
 ·exact aG<|ac<|Di<|ai<|ac<|ah<|k2 (fun h=>absurd h.1 ‹_›) 11 _ (by decide) q.ae
theorem c71 (y:SH w0 w L) [q:aC (Na p) L s R] (k: ∀ H,SH w0 H (Na p s::R)→K (pt s.tb) H):D 71 [pt p] w K:=by
 obtain ⟨J,y⟩:=SH.na y p
 exact s71 rfl<|ac<|ac<|y.C9 (b:=p) rfl<|ah<|k _ (SH.cO y.ae J)
theorem c216 (q:SH w0 w L) (k: ∀ b y,SH w0 y (Ex b::L)→K (bu b) y):D 216 [] w K:=by
 refine s216 rfl<|ac<|ac<|c30 q (by omega) (by omega) (fun _ _ q=>ah (k _ _ q.ae))
theorem c213 {tos id:Nat} {keep:Bool} {ttl proto fr to:Nat} (q:SH w0 w L) [hb:aD L v bs] (hlen:bs.length≤100000)
  (k1:proto=1→ ∀ Y,SH w0 Y L→K (.bool true) Y) (k2: ∀ Y,SH w0 Y L→K (.bool false) Y):D 213 [ba tos id keep ttl proto fr to v] w K:=by
 obtain ⟨ad,c,rfl,hcap,hB1,hl0⟩:=q.enter (v:=v)
 refine s213 rfl<|ac<|q.az (DI tos id keep ttl proto fr to (sl ad c bs)) fun b_1 _ q=>aq<|q.C9 (b:=b_1) rfl<|ap (fun h_7=>?_) (fun h_7=>?_)
 ·refine ac<|ah<|k2 _ q.ae
 ·refine ak<|ac<|q.C9 (b:=b_1) rfl<|c164 (v:=sl ad c bs) q ‹_› (fun h_11 _ _ _ w_11 q=>?_) (fun h_11 _ w_11 q=>?_)
  ·refine q.an fun y w_3 q=>q.aj (b:=y) fun _ q=>ac ⟨_,bg (neg:=false) rfl,q.Da (b:=y) rfl (c268 q (fun H J q=>?_) (fun H J q=>?_) (fun H J q=>?_))⟩
   ·refine Di<|pa 2 rfl<|ah<|k1 (by omega) _ q.ae
   ·refine Dh<|pa 2 rfl<|ah<|k2 _ q.ae
   ·refine Dh<|pa 2 rfl<|ah<|k2 _ q.ae
  ·refine q.an fun y w_3 q=>q.aj (b:=y) fun _ q=>ac ⟨_,bH (neg:=false) rfl,pa 6 rfl (ah (k2 _ q.ae))⟩
theorem c284 {e r:Int} (q:SH w0 w L) (H:1≤r∧r<20) (k: ∀ b y,SH w0 y (Er b r::L)→K (bu b) y):D 284 [.iface 55 (C5 e),C5 r] w K:=by
 exact s284 rfl<|ac<|aq ⟨_,bH (neg:=false) rfl,c76 q ‹_› (Dj (ak (ac (⟨rfl,[C5 r,.iface 55 (C5 e)],rfl,q.az [C5 r,.iface 55 (C5 e)] fun _ _ q=>ah (k _ _ (SH.Bt H q).ae)⟩))))⟩
theorem c218 {e:Int} (q:SH w0 w L) (k: ∀ b w',SH w0 w' (Ex b::L)→K (bu b) w'):D 218 [C5 e] w K:=by
 refine s218 rfl<|ac<|ac<|aG<|ac<|c283 q (fun J Y q=>?_) (fun J Y q=>?_)
 ·refine ai<|ac<|c284 q (by omega) (fun _ _ q=>ah (k _ _ q.ae))
 ·refine ai<|ac<|c283 q (fun y H q=>?_) (fun y H q=>?_)
  ·refine Dt [2,3,15] [.nilIface,.iface 55 (C5 e),.bool true] fun g=>ai<|ac<|c284 q (by omega) (fun _ _ q=>ah (k _ _ q.ae))
  ·refine Dt [2,3,15] [.nilIface,.iface 55 (C5 e),.bool false] fun g=>ai<|ak<|ac<|c284 q (by omega) (fun _ _ q=>ah (k _ _ q.ae))
end
end
section
theorem gY: ∀ {a b:List Nat},a.length % 2=0→aK (a++b)=aK a+aK b
 | [],b,_=>by simp [aK]
 | [x],b,h=>by simp at h
 | x::y::r,b,h=>by
  have ih:=gY (a:=r) (b:=b) (by simp only [List.length_cons] at h;omega)
  show x*256+y+aK (r++b)=x*256+y+aK r+aK b
  omega
theorem vH (x y:Nat):be [x,y]=x*256+y:=by simp [be]
theorem rr {d:List Nat} {l:Nat} (h:l+2≤d.length):num d l 2=aK ((d.drop l).take 2):=by
 have h1:((d.drop l).take 2).length=2:=by rw [List.length_take,List.length_drop];omega
 show be ((d.drop l).take 2)=_
 match (d.drop l).take 2,h1 with
 | [x,y],_=>rw [vH];simp [aK]
theorem Bu {d:List Nat} (l:Nat):d=d.take l++((d.drop l).take 2++d.drop (l+2)):=by
 have h1:(d.drop l).take 2++d.drop (l+2)=d.drop l:=by
  rw [←List.drop_drop]
  exact List.take_append_drop 2 (d.drop l)
 rw [h1,List.take_append_drop]
theorem vI {d ps:List Nat} {l:Nat} (h:l+2≤d.length) (hl:l % 2=0) (q:ps.length=2):aK (over d l ps)+num d l 2=aK d+aK ps:=by
 have h1:(d.take l).length % 2=0:=by rw [List.length_take];omega
 have y:((d.drop l).take 2).length % 2=0:=by rw [List.length_take,List.length_drop];omega
 have e1:aK d=aK (d.take l)+(aK ((d.drop l).take 2)+aK (d.drop (l+2))):=by
  have e:=congrArg aK (Bu (d:=d) l)
  rw [gY h1,gY y] at e
  exact e
 unfold over
 rw [List.append_assoc,gY h1,gY (by rw [q]),q,rr h,e1]
 omega
theorem lH {x:Nat} (h:x<65536):aK (nb x 2)=x:=by
 have e:nb x 2=[x / 256 % 256,x % 256]:=by simp [nb,List.range_succ]
 rw [e]
 show x / 256 % 256*256+x % 256+0=x
 omega
theorem Bv {d ps:List Nat} {l:Nat} (h:l+ps.length≤d.length):((over d l ps).drop l).take ps.length=ps:=by
 unfold over
 have h1:(d.take l).length=l:=by rw [List.length_take];omega
 rw [List.append_assoc,List.drop_append_of_le_length (by omega),List.drop_of_length_le (by omega),List.nil_append,List.take_left']
 rfl
theorem Bw {d:List Nat} {l x:Nat} (h:l+2≤d.length) (q:x<65536):num (over d l (nb x 2)) l 2=x:=by
 have hl:(over d l (nb x 2)).length=d.length:=eo (by rw [br];omega)
 have e:=Bv (d:=d) (ps:=nb x 2) (l:=l) (by rw [br];omega)
 rw [br] at e
 rw [rr (by omega),e,lH q]
theorem Bx (n:Nat):aV n % 65535=n % 65535:=by unfold aV;split<;>(try split)<;>omega
theorem Bz {s a b:Nat} (hs:s<65536) (ha:a<65536):(iX s a b+b) % 65535=(s+a) % 65535:=by
 have h1:=Bx ((65535 - s)+(65535 - a)+b)
 have h2:=oh ((65535 - s)+(65535 - a)+b)
 unfold iX
 omega
theorem vJ: ∀ (was now:List Nat) (s:Nat),s<65536→was.length=now.length→was.length % 2=0→(∀ x∈was,x<256)→(cu s was now+aK now) % 65535=(s+aK was) % 65535
 | [],[],s,_,_,_,_=>by simp [cu,aK]
 | [_],_,_,_,_,h,_=>by simp at h
 | a::b::r,[],_,_,h,_,_=>by simp at h
 | a::b::r,[_],_,_,h,_,_=>by simp at h
 | a::b::r,c::d::q,s,H,h,J,y=>by
  have ih:=vJ r q (iX s (a*256+b) (c*256+d)) (qe ..) (by simp only [List.length_cons] at h;omega) (by simp only [List.length_cons] at J;omega) (fun x Y=>y x (by simp [Y]))
  have ha:=y a (by simp)
  have hb':=y b (by simp)
  have h1:=Bz (b:=c*256+d) H (by omega:a*256+b<65536)
  show (cu (iX s (a*256+b) (c*256+d)) r q+(c*256+d+aK q)) % 65535=(s+(a*256+b+aK r)) % 65535
  omega
theorem vK {d:List Nat} (h: ∀ b∈d,b<256) {l:Nat} (hl:l+2≤d.length):num d l 2<65536:=by
 rw [rr hl]
 have h1:((d.drop l).take 2).length=2:=by rw [List.length_take,List.length_drop];omega
 have q: ∀ b∈(d.drop l).take 2,b<256:=fun b H=>h b (List.mem_of_mem_drop (List.mem_of_mem_take H))
 match (d.drop l).take 2,h1,q with
 | [x,y],_,q=>
  have:=q x (by simp)
  have:=q y (by simp)
  show x*256+y+0<65536
  omega
theorem BA {bs r1 r2:List Nat} {l:Nat} (h:cu (num bs l 2) r1 r2<65536):0<dA (cK bs l r1 r2)∧dA (cK bs l r1 r2)<65536∧dA (cK bs l r1 r2) % 65535=cu (num bs l 2) r1 r2 % 65535:=by
 unfold dA cK
 generalize cu (num bs l 2) r1 r2=p at h
 by_cases h1:p=65535
 ·simp [h1]
 ·by_cases q:p=0
  ·simp [q]
  ·simp [h1,q];omega
theorem BB {d F F':List Nat} {l port:Nat} (hd: ∀ b∈d,b<256) (hl:l=0∨l=2) (h8:8≤d.length) (hp:port<65536) (y:F.length=4) (hF':F'.length=4) (hb: ∀ b∈F,b<256) (hs:num d 6 2≠0):
  (aK (ch d l port (F++nb (num d l 2) 2) (F'++nb port 2))+aK F') % 65535=(aK d+aK F) % 65535∧num (ch d l port (F++nb (num d l 2) 2) (F'++nb port 2)) 6 2≠0:=by
 have hl2:l+2≤6:=by omega
 have hm:l % 2=0:=by omega
 have hn:=vK hd (l:=l) (by omega)
 have e1:(over d l (nb port 2)).length=d.length:=eo (by rw [br];omega)
 have s1:=vI (d:=d) (ps:=nb port 2) (l:=l) (by omega) hm (br _ _)
 rw [lH hp] at s1
 have b1: ∀ b∈over d l (nb port 2),b<256:=tk hd (kq _ _)
 generalize H:over d l (nb port 2)=d1 at e1 s1 b1
 have q:num d1 6 2<65536:=vK b1 (l:=6) (by omega)
 have J:=vJ (F++nb (num d l 2) 2) (F'++nb port 2) (num d1 6 2) q (by simp [br,y,hF']) (by simp [br,y]) (fun x Y=>by
  rcases List.mem_append.1 Y with h | h
  ·exact hb x h
  ·exact kq _ _ x h)
 rw [gY (by rw [hF']),gY (by rw [y]),lH hn,lH hp] at J
 have hpl:=qf (F++nb (num d l 2) 2) (F'++nb port 2) (num d1 6 2) q
 have Y: ∃ x,x=dA (cK d1 6 (F++nb (num d l 2) 2) (F'++nb port 2))∧0<x∧x<65536∧x % 65535=cu (num d1 6 2) (F++nb (num d l 2) 2) (F'++nb port 2) % 65535:=⟨_,rfl,BA hpl⟩
 obtain ⟨x,ex,x0,xl,xm⟩:=Y
 have e:ch d l port (F++nb (num d l 2) 2) (F'++nb port 2)=over d1 6 (nb x 2):=by
  unfold ch
  rw [if_neg hs,H,ex]
 have s2:aK (over d1 6 (nb x 2))+num d1 6 2=aK d1+aK (nb x 2):=vI (d:=d1) (ps:=nb x 2) (l:=6) (by omega) (by decide) (br _ _)
 rw [lH xl] at s2
 rw [e]
 refine ⟨?_,?_⟩
 ·omega
 ·have h6:num (over d1 6 (nb x 2)) 6 2=x:=Bw (d:=d1) (l:=6) (by omega) xl
  rw [h6];omega
theorem BC {bs ps:List Nat} {l k n:Nat} (h:k+n≤l) (hl:l≤bs.length):num (over bs l ps) k n=num bs k n:=by
 rw [←qn (bs:=over bs l ps) (k:=l) h,←qn (bs:=bs) (k:=l) h]
 congr 1
 unfold over
 rw [List.append_assoc,List.take_append_of_le_length (by rw [List.length_take];omega),List.take_take,Nat.min_self]
theorem vL {T:Nat} :aV T=65535↔T≠0∧T % 65535=0:=by
 unfold aV
 by_cases h:T=0
 ·simp [h]
 ·by_cases h1:T % 65535=0
  ·simp [h,h1]
  ·simp only [h,h1,if_false,ne_eq,not_false_eq_true,true_and,iff_false];omega
def fC (bs:List Nat) (qs:List Nat) (fr to:Nat):Prop:=
 da qs fr to∧(num (qs.take (num qs 4 2)) 6 2=0↔num (bs.take (num bs 4 2)) 6 2=0)∧(qs.take (num qs 4 2)).drop 8=(bs.take (num bs 4 2)).drop 8
theorem fC.trans {a b c:List Nat} {fr to fr' to':Nat} (h:fC a b fr to) (k:fC b c fr' to'):fC a c fr' to':=⟨k.1,k.2.1.trans h.2.1,k.2.2.trans h.2.2⟩
theorem vM {bs F F':List Nat} {l port fr to fr' to':Nat} (h:da bs fr to) (hB: ∀ b∈bs,b<256) (hl:l=0∨l=2) (hp:port<65536) (hF:F.length=4) (hF':F'.length=4) (Y: ∀ b∈F,b<256)
  (he:aK (nb fr' 4)+aK (nb to' 4)+aK F=aK (nb fr 4)+aK (nb to 4)+aK F'):
  fC bs (ch (bs.take (num bs 4 2)) l port (F++nb (num (bs.take (num bs 4 2)) l 2) 2) (F'++nb port 2)) fr' to':=by
 obtain ⟨h8,hn,hnl,hm,hs⟩:=h
 generalize H:bs.take (num bs 4 2)=d at hs ⊢
 have hdl:d.length=num bs 4 2:=by rw [←H,List.length_take];omega
 have hdB: ∀ b∈d,b<256:=fun b Y=>hB b (List.mem_of_mem_take (by rw [H];exact Y))
 have hd4:num d 4 2=num bs 4 2:=by rw [←H];exact qn (l:=4) (n:=2) (by omega)
 generalize J:num bs 4 2=n at*
 have o1:(over d l (nb port 2)).length=d.length:=eo (by rw [br];omega)
 have o4:num (over d l (nb port 2)) 4 2=num d 4 2:=ot (n:=4) (by rw [br];omega) (by omega)
 have o6:num (over d l (nb port 2)) 6 2=num d 6 2:=ot (n:=6) (by rw [br];omega) (by omega)
 have o8:(over d l (nb port 2)).drop 8=d.drop 8:=qm (n:=8) (by rw [br];omega) (by omega)
 have key: ∃ q,q=ch d l port (F++nb (num d l 2) 2) (F'++nb port 2)∧q.length=n∧num q 4 2=n∧(num q 6 2=0↔num d 6 2=0)∧q.drop 8=d.drop 8∧(num d 6 2≠0→(aK q+aK F') % 65535=(aK d+aK F) % 65535):=by
  refine ⟨_,rfl,?_⟩
  by_cases y:num d 6 2=0
  ·have e:ch d l port (F++nb (num d l 2) 2) (F'++nb port 2)=over d l (nb port 2):=by unfold ch;exact if_pos y
   rw [e]
   exact ⟨by omega,by omega,by rw [o6],o8,fun h=>absurd y h⟩
  ·have hk:=BB hdB hl (by omega) hp hF hF' Y y
   have e:ch d l port (F++nb (num d l 2) 2) (F'++nb port 2)=over (over d l (nb port 2)) 6 (nb (dA (cK (over d l (nb port 2)) 6 (F++nb (num d l 2) 2) (F'++nb port 2))) 2):=by unfold ch;exact if_neg y
   refine ⟨by rw [e,eo (by rw [br];omega)];omega,?_,⟨fun h=>absurd h hk.2,fun h=>absurd h y⟩,?_,fun _=>hk.1⟩
   ·rw [e]
    have t:num (over (over d l (nb port 2)) 6 (nb (dA (cK (over d l (nb port 2)) 6 (F++nb (num d l 2) 2) (F'++nb port 2))) 2)) 4 2=num (over d l (nb port 2)) 4 2:=BC (l:=6) (k:=4) (n:=2) (by omega) (by omega)
    exact t.trans (by omega)
   ·rw [e,qm (n:=8) (by rw [br];omega) (by omega),o8]
 obtain ⟨q,eq,ql,q4,q6,q8,qs⟩:=key
 rw [←eq]
 have qt:q.take (num q 4 2)=q:=List.take_of_length_le (by omega)
 refine ⟨⟨by omega,by omega,by omega,by omega,?_⟩,?_,?_⟩
 ·rw [qt,q4]
  rcases hs with y | h1
  ·exact .inl (q6.2 y)
  ·by_cases y:num d 6 2=0
   ·exact .inl (q6.2 y)
   ·refine .inr ?_
    have hq:=qs y
    have hA: ∀ a b:Nat,(nb a 4++nb b 4).length % 2=0:=fun a b=>by simp [br]
    have eA: ∀ (a b:Nat) (x:List Nat),aK (et 17 a b n++x)=aK (nb a 4)+aK (nb b 4)+aK (nb 17 2)+aK (nb n 2)+aK x:=fun a b x=>by
     have e:et 17 a b n++x=nb a 4++(nb b 4++(nb 17 2++(nb n 2++x))):=by simp [et,rowOf]
     rw [e,gY (by simp [br]),gY (by simp [br]),gY (by simp [br]),gY (by simp [br])]
     omega
    rw [eA,vL] at h1
    rw [eA,vL]
    have e17:aK (nb 17 2)=17:=lH (by decide)
    rw [e17] at h1 ⊢
    obtain ⟨h1,h2⟩:=h1
    clear eA hA e17 qs q6 o1 o4 o6 y q4 hd4 qt
    refine ⟨by omega,?_⟩
    omega
 ·rw [qt,J,H];exact q6
 ·rw [qt,J,H];exact q8
theorem BD {bs:List Nat} {fr to ip port:Nat} (h:da bs fr to) (q: ∀ b∈bs,b<256) (y:port<65536):
  fC bs (ch (bs.take (num bs 4 2)) 0 port (rowOf 4 [fr]++rowOf 2 [num (bs.take (num bs 4 2)) 0 2]) (rowOf 4 [ip]++rowOf 2 [port])) ip to:=by
 have e: ∀ n x,rowOf n [x]=nb x n:=fun n x=>by simp [rowOf]
 rw [e,e,e,e]
 exact vM (F:=nb fr 4) (F':=nb ip 4) (l:=0) h q (.inl rfl) y (br _ _) (br _ _) (kq _ _) (by omega)
theorem BE {bs:List Nat} {fr to ip port:Nat} (h:da bs fr to) (q: ∀ b∈bs,b<256) (y:port<65536):
  fC bs (ch (bs.take (num bs 4 2)) 2 port (rowOf 4 [to]++rowOf 2 [num (bs.take (num bs 4 2)) 2 2]) (rowOf 4 [ip]++rowOf 2 [port])) fr ip:=by
 have e: ∀ n x,rowOf n [x]=nb x n:=fun n x=>by simp [rowOf]
 rw [e,e,e,e]
 exact vM (F:=nb to 4) (F':=nb ip 4) (l:=2) h q (.inr rfl) y (br _ _) (br _ _) (kq _ _) (by omega)
theorem vN {bs r1 r2:List Nat} {l port fr to:Nat} (h:da bs fr to) (hl:l=0∨l=2):(ch (bs.take (num bs 4 2)) l port r1 r2).length≤100000:=by
 obtain ⟨h8,hn,hnl,hm,hs⟩:=h
 have e:(bs.take (num bs 4 2)).length=num bs 4 2:=by rw [List.length_take];omega
 rw [yL (by omega) (by omega)]
 omega
end
section
attribute [local irreducible] ay aQ aH aY a6 aW aK aV num be over nb rowOf cu cK fx da du dR ch dA fC
abbrev nm (f t:Nat):Value:=ba 0 0 false 0 0 f t (sN)
section
variable {w0 w:World} {L R R2:List ao} {K:Value→World→Prop} {p:Nat} {s:dX} {v:Value} {bs:List Nat}
theorem t272 {pr ia xa ib xb:Nat} {tb:Nat} {t:cX} {now:Nat} (hr:pr<256∧ia<4294967296∧xa<65536∧ib<4294967296∧xb<65536) (H:SH w0 w L) [q:aC (Ta tb) L t R]
  (k: ∀ (z:Nat) (b:Bool) y,z<65536→SH w0 y (Ta tb t::R)→K (.tuple #[C2 z,.bool b]) y):D 272 [pt tb,C1 pr,.agg #[C3 ia,C2 xa],.agg #[C3 ib,C2 xb],C4 now] w K:=
 c272 (by simp only [eP,cN,bz];omega) H fun z b y hz h=>by
  obtain ⟨n,rfl⟩: ∃ n:Nat,z=n:=⟨z.toNat,by simp only [bz] at hz;omega⟩
  exact k n b y (by simp only [bz] at hz;omega) h
theorem t287 {pr po ia xa:Nat} {tb:Nat} {t:cX} {now:Nat} (hr:pr<256∧po<65536∧ia<4294967296∧xa<65536) (H:SH w0 w L) [q:aC (Ta tb) L t R]
  (k: ∀ (a x:Nat) (b:Bool) y,a<4294967296∧x<65536→SH w0 y (Ta tb t::R)→K (.tuple #[.agg #[C3 a,C2 x],.bool b]) y):D 287 [pt tb,C1 pr,C2 po,.agg #[C3 ia,C2 xa],C4 now] w K:=
 c287 (by simp only [eP,cN,bz];omega) H fun a x b y hz h=>by
  simp only [cN,bz] at hz
  obtain ⟨n,rfl⟩: ∃ n:Nat,a=n:=⟨a.toNat,by omega⟩
  obtain ⟨m,rfl⟩: ∃ n:Nat,x=n:=⟨x.toNat,by omega⟩
  exact k n m b y (by omega) h
theorem t221 {pr po ia xa fl:Nat} {tb:Nat} {t:cX} {now:Nat} (hr:pr<256∧po<65536∧ia<4294967296∧xa<65536) (J:SH w0 w L) [q:aC (Ta tb) L t R]
  (k: ∀ y (a x:Nat) (e:Int) H,y.count=t.count∧a<4294967296∧x<65536→SH w0 H (Ta tb y::R)→K (.tuple #[.agg #[C3 a,C2 x],C5 e]) H):D 221 [pt tb,C1 pr,C2 po,.agg #[C3 ia,C2 xa],C1 fl,C4 now] w K:=
 c221 (by simp only [eP,cN,bz];omega) J fun y a x e H hz h=>by
  simp only [cN,bz] at hz
  obtain ⟨n,rfl⟩: ∃ n:Nat,a=n:=⟨a.toNat,by omega⟩
  obtain ⟨m,rfl⟩: ∃ n:Nat,x=n:=⟨x.toNat,by omega⟩
  exact k y n m e H ⟨hz.1,by omega,by omega⟩ h
theorem t217 {pr ia xa ib xb fl:Nat} {tb:Nat} {t:cX} {now:Nat} (hr:pr<256∧ia<4294967296∧xa<65536∧ib<4294967296∧xb<65536) (J:t.count<4611686018427387904) (Y:SH w0 w L) [q:aC (Ta tb) L t R] [hz:cL R]
  (k: ∀ y (z:Nat) (e:Int) H,(t.count≤y.count∧y.count≤t.count+1)∧z<65536→SH w0 H (Ta tb y::R)→K (.tuple #[C2 z,C5 e]) H):D 217 [pt tb,C1 pr,.agg #[C3 ia,C2 xa],.agg #[C3 ib,C2 xb],C1 fl,C4 now] w K:=
 c217 (by simp only [eP,cN,bz];omega) J Y fun y z e H hz h=>by
  simp only [bz] at hz
  obtain ⟨n,rfl⟩: ∃ n:Nat,z=n:=⟨z.toNat,by omega⟩
  exact k y n e H ⟨hz.1,by omega⟩ h
theorem t215 {tos id:Nat} {keep:Bool} {ttl proto fr to:Nat} (Y:SH w0 w L) [hb:aD L v bs] (hB:bI tos id ttl proto fr to) (hlen:bs.length≤100000)
  (k1: ∀ p q fl kind:Nat,p<65536∧q<65536→ ∀ y,SH w0 y L→K (.tuple #[eX proto fr p to q fl kind,.nilIface]) y)
  (k2: ∀ b y,SH w0 y (Ex b::L)→K (.tuple #[lm,bu b]) y):D 215 [ba tos id keep ttl proto fr to v] w K:=
 c215 Y hB hlen (fun e _ _ h1 H _ y h=>by subst e;exact k1 _ _ _ 0 ⟨h1,H⟩ y h) (fun e _ h1 H y h=>by subst e;exact k1 _ _ 0 0 ⟨h1,H⟩ y h)
  (fun e _ _ m J y h=>by subst e;exact k1 m 0 0 8 ⟨J,by decide⟩ y h) (fun e _ _ m J y h=>by subst e;exact k1 0 m 0 0 ⟨by decide,J⟩ y h) (fun _ b y h=>k2 b y h)
abbrev jn (s q:dX):Prop:=q.own=s.own∧s.t.count≤q.t.count∧q.t.count≤s.t.count+1
theorem c214 {tos id:Nat} {keep:Bool} {ttl proto fr to now:Nat} (y:SH w0 w L) [q:aC (Na p) L s R] [hb:aD R v bs] (hB:bI tos id ttl proto fr to) (hlen:bs.length≤100000)
  (k1:proto=1→ ∀ (qs:List Nat) a c w',qs.length≤100000→SH w0 w' (Na p s::By (sl a c qs) qs::R)→K (.tuple #[ba tos id keep ttl proto s.own to (sl a c qs),.nilIface]) w')
  (k2: ∀ (f:Nat) b w',f<4294967296→SH w0 w' (Na p s::Ex b::R)→K (.tuple #[nm f 0,bu b]) w'):D 214 [pt p,ba tos id keep ttl proto fr to v,.int .u64 now] w K:=by
 obtain ⟨hs,y⟩:=SH.na y p
 obtain ⟨ad,c,rfl,hcap,hB1,hl0⟩:=y.enter (v:=v)
 refine s214 rfl<|ac<|y.az [.int .u8 tos,.int .u16 id,.bool keep,.int .u8 ttl,.int .u8 proto,.int .u32 fr,.int .u32 to,sl ad c bs] fun Y _ y=>y.an fun J _ y=>ac<|y.Da (b:=Y) rfl<|c271 y (by assumption) (fun h_15 _ _ h_153 p_15 q_15 kind_15 _ _ _ _ w_15 y=>?_) (fun h_15 b_15 w_15 y=>?_)
 ·refine y.an fun b_8 w_8 y=>Dt [0,2,4,6,7,8,16,17] [pt p,.int .u64 now,pt Y,pt J,.nilIface,pt b_8,.agg #[.int .u8 ((List.drop 8 bs).getD 9 0),.int .u32 (num (List.drop 8 bs) 12 4),.int .u16 p_15,.int .u32 (num (List.drop 8 bs) 16 4),.int .u16 q_15,.int .u8 (↑0),.int .u8 kind_15],.nilIface] fun g=>y.aj (b:=b_8) fun _ y=>aq ⟨_,bg (neg:=true) rfl,ak (aJ ?_)⟩
  have y:=y.drew
  refine y.C9 (b:=p) rfl<|y.C9 (b:=b_8) rfl<|Du [0,2,4,6,7,8,9,26,28] [pt p,.int .u64 now,pt Y,pt J,.nilIface,pt b_8,.nilIface,pt s.2,.int .u8 ((List.drop 8 bs).getD 9 0)] fun g=>⟨_,y.ar (b:=b_8) [.int .u32 (num (List.drop 8 bs) 16 4),.int .u16 q_15],⟨_,y.ar (b:=b_8) [.int .u32 (num (List.drop 8 bs) 12 4),.int .u16 p_15],t272 (tb:=s.tb) (by obtain ⟨_,_,_,hp1,hp2,hp3⟩:=h_153;omega) y (fun z_34 b_34 _ _ y=>⟨⟨⟨_,y.ar (b:=b_8) _,rfl⟩,⟨⟨_,y.ar (b:=b_8) _,rfl⟩,⟨y.ld (b:=b_8) rfl,⟨y.ld (b:=p) rfl,trivial⟩⟩⟩⟩,aq (Dt [0,4,6,7,9,10,11] [pt p,pt Y,pt J,.nilIface,.nilIface,.int .u16 z_34,.bool b_34] fun g=>cG (fun h_38=>?_) (fun h_38=>?_))⟩)⟩⟩
  ·exact ac<|Dt [0,4,6,7,9,10] [pt p,pt Y,pt J,.nilIface,.nilIface,.int .u16 z_34] fun g=>⟨by kernel_rfl,[.int .u8 0,.int .u16 0,.bool false,.int .u8 0,.int .u8 0,.int .u32 0,.int .u32 0,.slice none 0 0],by kernel_rfl,c216 y (fun _ _ y=>y.aj (b:=J) fun _ y=>ah (y.Da (b:=J) rfl (k2 0 _ _ (by decide) (SH.cO y.ae hs))))⟩
  ·refine ak<|l3<|have y:=y.drew;y.Da (b:=Y) rfl<|y.C9 (b:=p) rfl ⟨rfl,[.int .u32 s.own,.int .u16 z_34],rfl,bV [0,6,7,9,42,48] [pt p,pt J,.nilIface,.nilIface,.agg #[.int .u8 tos,.int .u16 id,.bool keep,.int .u8 ttl,.int .u8 proto,.int .u32 fr,.int .u32 to,sl ad c bs],.agg #[.int .u32 s.own,.int .u16 z_34]] rfl fun g=>⟨?_,?_⟩⟩
   ·refine c273 y (by assumption) (by omega) (fun h_49 qs_49 a_49 c_49 w_49 h_495 y=>?_) (fun b_49 w_49 y=>?_)
    ·exact ⟨⟨y.ld (b:=p) rfl,⟨⟨_,y.af (b:=Y) rfl,rfl⟩,trivial⟩⟩,y.an fun H w_12 y=>⟨⟨y.ld (b:=p) rfl,⟨⟨_,y.af (b:=Y) rfl,rfl⟩,trivial⟩⟩,y.aj (b:=H) fun w_81 y=>⟨⟨y.ld (b:=p) rfl,⟨⟨_,y.af (b:=Y) rfl,rfl⟩,trivial⟩⟩,ac (y.C9 (b:=p) rfl (Dt [6,7,9,12,55] [pt J,.nilIface,.nilIface,pt H,.int .u32 s.own] fun g=>y.aN (b:=H) [.int .u32 s.own] [.int .u8 tos,.int .u16 id,.bool keep,.int .u8 ttl,.int .u8 proto,.int .u32 s.own,.int .u32 to,sl a_49 c_49 qs_49] fun w_84 y=>ac (y.Da (b:=H) rfl (y.aj (b:=J) fun w_86 y=>ah (y.Da (b:=J) rfl (k1 (by assumption) _ _ _ _ (by assumption) (SH.cO y.ae hs)))))))⟩⟩⟩
    ·exact ⟨⟨y.ld (b:=p) rfl,⟨⟨_,y.af (b:=Y) rfl,rfl⟩,trivial⟩⟩,y.an fun H w_12 y=>⟨⟨y.ld (b:=p) rfl,⟨⟨_,y.af (b:=Y) rfl,rfl⟩,trivial⟩⟩,y.aj (b:=H) fun w_77 y=>⟨⟨y.ld (b:=p) rfl,⟨⟨_,y.af (b:=Y) rfl,rfl⟩,trivial⟩⟩,ac (y.C9 (b:=p) rfl (Dt [6,7,9,12,55] [pt J,.nilIface,.iface 165 (pt b_49),pt H,.int .u32 s.own] fun g=>y.aN (b:=H) [.int .u32 s.own] [.int .u8 (↑0),.int .u16 (↑0),.bool false,.int .u8 (↑0),.int .u8 (↑0),.int .u32 s.own,.int .u32 (↑0),.slice none 0 0] fun w_80 y=>ac (y.Da (b:=H) rfl (y.aj (b:=J) fun w_82 y=>ah (y.Da (b:=J) rfl (k2 s.own _ _ hs (SH.cO y.ae hs)))))))⟩⟩⟩
   ·refine y.an fun H w_12 y=>⟨⟨y.ld (b:=p) rfl,⟨⟨_,y.af (b:=Y) rfl,rfl⟩,trivial⟩⟩,c273 y (by assumption) (by omega) (fun h_49 qs_49 a_49 c_49 w_49 h_495 y=>?_) (fun b_49 w_49 y=>?_)⟩
    ·exact ⟨⟨y.ld (b:=p) rfl,⟨⟨_,y.af (b:=Y) rfl,rfl⟩,trivial⟩⟩,y.aj (b:=H) fun w_81 y=>⟨⟨y.ld (b:=p) rfl,⟨⟨_,y.af (b:=Y) rfl,rfl⟩,trivial⟩⟩,ac (y.C9 (b:=p) rfl (Dt [6,7,9,12,55] [pt J,.nilIface,.nilIface,pt H,.int .u32 s.own] fun g=>y.aN (b:=H) [.int .u32 s.own] [.int .u8 tos,.int .u16 id,.bool keep,.int .u8 ttl,.int .u8 proto,.int .u32 s.own,.int .u32 to,sl a_49 c_49 qs_49] fun w_84 y=>ac (y.Da (b:=H) rfl (y.aj (b:=J) fun w_86 y=>ah (y.Da (b:=J) rfl (k1 (by assumption) _ _ _ _ (by assumption) (SH.cO y.ae hs)))))))⟩⟩
    ·exact ⟨⟨y.ld (b:=p) rfl,⟨⟨_,y.af (b:=Y) rfl,rfl⟩,trivial⟩⟩,y.aj (b:=H) fun w_77 y=>⟨⟨y.ld (b:=p) rfl,⟨⟨_,y.af (b:=Y) rfl,rfl⟩,trivial⟩⟩,ac (y.C9 (b:=p) rfl (Dt [6,7,9,12,55] [pt J,.nilIface,.iface 165 (pt b_49),pt H,.int .u32 s.own] fun g=>y.aN (b:=H) [.int .u32 s.own] [.int .u8 (↑0),.int .u16 (↑0),.bool false,.int .u8 (↑0),.int .u8 (↑0),.int .u32 s.own,.int .u32 (↑0),.slice none 0 0] fun w_80 y=>ac (y.Da (b:=H) rfl (y.aj (b:=J) fun w_82 y=>ah (y.Da (b:=J) rfl (k2 s.own _ _ hs (SH.cO y.ae hs)))))))⟩⟩
 ·exact y.an fun b_8 w_8 y=>Dt [0,2,4,6,7,8,16,17] [pt p,.int .u64 now,pt Y,pt J,.nilIface,pt b_8,.agg #[.int .u8 (↑0),.int .u32 (↑0),.int .u16 (↑0),.int .u32 (↑0),.int .u16 (↑0),.int .u8 (↑0),.int .u8 (↑0)],.iface 165 (pt b_15)] fun g=>y.aj (b:=b_8) fun w_49 y=>aq ⟨_,bH (neg:=true) rfl,ac (Dt [0,2,4,6,7,8,9] [pt p,.int .u64 now,pt Y,pt J,.nilIface,pt b_8,.iface 165 (pt b_15)] fun g=>⟨by kernel_rfl,[.int .u8 0,.int .u16 0,.bool false,.int .u8 0,.int .u8 0,.int .u32 0,.int .u32 0,.slice none 0 0],by kernel_rfl,y.aj (b:=J) fun _ y=>ah (y.Da (b:=J) rfl (k2 0 _ _ (by decide) (SH.cO y.ae hs)))⟩)⟩
theorem c220 {tos id:Nat} {keep:Bool} {ttl proto fr to now:Nat} (y:SH w0 w L) [q:aC (Na p) L s R] [hb:aD R v bs] (hB:bI tos id ttl proto fr to) (hlen:bs.length≤100000)
  (k1:proto=1→ ∀ (t:Nat) (qs:List Nat) a c w',t<4294967296→qs.length≤100000→SH w0 w' (Na p s::By (sl a c qs) qs::R)→K (.tuple #[ba tos id keep ttl proto fr t (sl a c qs),.nilIface]) w')
  (k2: ∀ (t:Nat) b w',t<4294967296→SH w0 w' (Na p s::Ex b::R)→K (.tuple #[nm 0 t,bu b]) w'):D 220 [pt p,ba tos id keep ttl proto fr to v,C4 now] w K:=by
 obtain ⟨hs,y⟩:=SH.na y p
 obtain ⟨ad,c,rfl,hcap,hB1,hl0⟩:=y.enter (v:=v)
 refine s220 rfl<|ac<|y.az (DI tos id keep ttl proto fr to (sl ad c bs)) fun b_4 _ y=>y.an fun H _ y=>ac<|y.Da (b:=b_4) rfl<|c271 y ‹_› (fun h_15 _ _ h_153 p_15 q_15 kind_15 _ _ _ _ w_15 y=>?_) (fun h_15 b_15 w_15 y=>?_)
 ·refine y.an fun J w_8 y=>Dt [0,2,4,6,7,8,16,17,40] [pt p,C4 now,pt b_4,pt H,.nilIface,pt J,.agg #[C1 ((List.drop 8 bs).getD 9 0),C3 (num (List.drop 8 bs) 12 4),C2 p_15,C3 (num (List.drop 8 bs) 16 4),C2 q_15,C1 (↑0),C1 kind_15],.nilIface,undef] fun g=>y.aj (b:=J) fun _ y=>aq ⟨_,bg (neg:=true) rfl,ak (l3 ?_)⟩
  have y:=y.drew
  refine y.C9 (b:=p) rfl<|y.C9 (b:=J) rfl<|bV [0,2,4,6,7,8,9,26,28,40] [pt p,C4 now,pt b_4,pt H,.nilIface,pt J,.nilIface,pt s.2,C1 ((List.drop 8 bs).getD 9 0),undef] rfl fun g=>y.C9 (b:=J) rfl ⟨_,y.ar (b:=J) [C3 (num (List.drop 8 bs) 16 4),C2 q_15],⟨?_,?_⟩⟩
  ·refine t287 (tb:=s.tb) (by obtain ⟨_,_,_,hp1,hp2,hp3⟩:=h_153;omega) y (fun hx_35 hy_35 hb_35 w_35 h_353 y=>⟨⟨⟨_,y.ar (b:=J) _,rfl⟩,⟨y.ld (b:=J) rfl,⟨y.ld (b:=J) rfl,⟨y.ld (b:=p) rfl,trivial⟩⟩⟩⟩,y.an fun Y w_10 y=>⟨⟨⟨_,y.ar (b:=J) _,rfl⟩,⟨y.ld (b:=J) rfl,⟨y.ld (b:=J) rfl,⟨y.ld (b:=p) rfl,trivial⟩⟩⟩⟩,bV [0,4,6,7,8,9,10,36,37,40] [pt p,pt b_4,pt H,.nilIface,pt J,.nilIface,pt Y,.agg #[C3 hx_35,C2 hy_35],.bool hb_35,undef] rfl fun g=>y.aj (b:=Y) fun _ y=>⟨⟨⟨_,y.ar (b:=J) _,rfl⟩,⟨y.ld (b:=J) rfl,⟨y.ld (b:=J) rfl,⟨y.ld (b:=p) rfl,trivial⟩⟩⟩⟩,fV ?_⟩⟩⟩)
   have y:=y.drew
   refine cG (fun h_39=>?_) (fun h_39=>?_)
   ·exact ac<|Dt [4,6,7,9,10] [pt b_4,pt H,.nilIface,.nilIface,pt Y] fun g=>⟨by kernel_rfl,(DI 0 0 false 0 0 0 0 (sN)),by kernel_rfl,c216 y (fun b_51 w_51 y=>y.aj (b:=H) fun w_80 y=>ah (y.Da (b:=H) rfl (k2 0 _ _ (by decide) (SH.cO y.ae hs))))⟩
   ·refine y.C9 (b:=J) rfl<|y.C9 (b:=p) rfl<|Du [4,6,7,9,10,40,43,47] [pt b_4,pt H,.nilIface,.nilIface,pt Y,.bool false,C3 (num (List.drop 8 bs) 12 4),C3 s.own] fun g=>ap (fun h_48=>?_) (fun h_48=>?_)
    ·exact ac<|Dt [4,6,7,9,10] [pt b_4,pt H,.nilIface,.nilIface,pt Y] fun g=>⟨by kernel_rfl,(DI 0 0 false 0 0 0 0 (sN)),by kernel_rfl,c216 y (fun b_51 w_51 y=>y.aj (b:=H) fun w_82 y=>ah (y.Da (b:=H) rfl (k2 0 _ _ (by decide) (SH.cO y.ae hs))))⟩
    ·refine ak<|ac<|y.Da (b:=b_4) rfl<|y.Da (b:=Y) rfl<|c288 y ‹_› ‹_› (fun h_55 qs_55 a_55 c_55 w_55 h_555 y=>?_) (fun b_55 w_55 y=>?_)
     ·exact y.an fun b_12 w_12 y=>Dt [6,7,9,10,12,56,57] [pt H,.nilIface,.nilIface,pt Y,pt b_12,ba tos id keep ttl proto fr to (sl a_55 c_55 qs_55),.nilIface] fun g=>y.aj (b:=b_12) fun w_89 y=>ac<|y.C9 (b:=Y) rfl<|y.aN (b:=b_12) [C3 hx_35] (DI tos id keep ttl proto fr hx_35 (sl a_55 c_55 qs_55)) fun w_91 y=>ac<|y.Da (b:=b_12) rfl<|y.aj (b:=H) fun w_93 y=>Dt [6,7,62] [pt H,.nilIface,.nilIface] fun g=>ah<|y.Da (b:=H) rfl<|k1 ‹_› _ _ _ _ _ h_353.1 ‹_› (SH.cO y.ae hs)
     ·exact y.an fun b_12 w_12 y=>Dt [6,7,9,10,12,56,57] [pt H,.nilIface,.nilIface,pt Y,pt b_12,ba (↑0) (↑0) false (↑0) (↑0) (↑0) (↑0) (sN),.iface 165 (pt b_55)] fun g=>y.aj (b:=b_12) fun w_85 y=>ac<|y.C9 (b:=Y) rfl<|y.aN (b:=b_12) [C3 hx_35] (DI 0 0 false 0 0 0 hx_35 (sN)) fun w_87 y=>ac<|y.Da (b:=b_12) rfl<|y.aj (b:=H) fun w_89 y=>Dt [6,7,62] [pt H,.nilIface,.iface 165 (pt b_55)] fun g=>ah<|y.Da (b:=H) rfl<|k2 _ _ _ h_353.1 (SH.cO y.ae hs)
  ·refine y.an fun Y w_10 y=>⟨⟨⟨_,y.ar (b:=J) _,rfl⟩,⟨y.ld (b:=J) rfl,⟨y.ld (b:=J) rfl,⟨y.ld (b:=p) rfl,trivial⟩⟩⟩⟩,t287 (tb:=s.tb) (by obtain ⟨_,_,_,hp1,hp2,hp3⟩:=h_153;omega) y (fun hx_35 hy_35 hb_35 w_35 h_353 y=>⟨⟨⟨_,y.ar (b:=J) _,rfl⟩,⟨y.ld (b:=J) rfl,⟨y.ld (b:=J) rfl,⟨y.ld (b:=p) rfl,trivial⟩⟩⟩⟩,y.aj (b:=Y) fun _ y=>⟨⟨⟨_,y.ar (b:=J) _,rfl⟩,⟨y.ld (b:=J) rfl,⟨y.ld (b:=J) rfl,⟨y.ld (b:=p) rfl,trivial⟩⟩⟩⟩,bV [0,4,6,7,8,9,10,37,40] [pt p,pt b_4,pt H,.nilIface,pt J,.nilIface,pt Y,.bool hb_35,undef] rfl fun g=>fV ?_⟩⟩)⟩
   have y:=y.drew
   refine cG (fun h_39=>?_) (fun h_39=>?_)
   ·exact ac<|Dt [4,6,7,9,10] [pt b_4,pt H,.nilIface,.nilIface,pt Y] fun g=>⟨by kernel_rfl,(DI 0 0 false 0 0 0 0 (sN)),by kernel_rfl,c216 y (fun b_51 w_51 y=>y.aj (b:=H) fun w_80 y=>ah (y.Da (b:=H) rfl (k2 0 _ _ (by decide) (SH.cO y.ae hs))))⟩
   ·refine y.C9 (b:=J) rfl<|y.C9 (b:=p) rfl<|Du [4,6,7,9,10,40,43,47] [pt b_4,pt H,.nilIface,.nilIface,pt Y,.bool false,C3 (num (List.drop 8 bs) 12 4),C3 s.own] fun g=>ap (fun h_48=>?_) (fun h_48=>?_)
    ·exact ac<|Dt [4,6,7,9,10] [pt b_4,pt H,.nilIface,.nilIface,pt Y] fun g=>⟨by kernel_rfl,(DI 0 0 false 0 0 0 0 (sN)),by kernel_rfl,c216 y (fun b_51 w_51 y=>y.aj (b:=H) fun w_82 y=>ah (y.Da (b:=H) rfl (k2 0 _ _ (by decide) (SH.cO y.ae hs))))⟩
    ·refine ak<|ac<|y.Da (b:=b_4) rfl<|y.Da (b:=Y) rfl<|c288 y ‹_› ‹_› (fun h_55 qs_55 a_55 c_55 w_55 h_555 y=>?_) (fun b_55 w_55 y=>?_)
     ·exact y.an fun b_12 w_12 y=>Dt [6,7,9,10,12,56,57] [pt H,.nilIface,.nilIface,pt Y,pt b_12,ba tos id keep ttl proto fr to (sl a_55 c_55 qs_55),.nilIface] fun g=>y.aj (b:=b_12) fun w_89 y=>ac<|y.C9 (b:=Y) rfl<|y.aN (b:=b_12) [C3 hx_35] (DI tos id keep ttl proto fr hx_35 (sl a_55 c_55 qs_55)) fun w_91 y=>ac<|y.Da (b:=b_12) rfl<|y.aj (b:=H) fun w_93 y=>Dt [6,7,62] [pt H,.nilIface,.nilIface] fun g=>ah<|y.Da (b:=H) rfl<|k1 ‹_› _ _ _ _ _ h_353.1 ‹_› (SH.cO y.ae hs)
     ·exact y.an fun b_12 w_12 y=>Dt [6,7,9,10,12,56,57] [pt H,.nilIface,.nilIface,pt Y,pt b_12,ba (↑0) (↑0) false (↑0) (↑0) (↑0) (↑0) (sN),.iface 165 (pt b_55)] fun g=>y.aj (b:=b_12) fun w_85 y=>ac<|y.C9 (b:=Y) rfl<|y.aN (b:=b_12) [C3 hx_35] (DI 0 0 false 0 0 0 hx_35 (sN)) fun w_87 y=>ac<|y.Da (b:=b_12) rfl<|y.aj (b:=H) fun w_89 y=>Dt [6,7,62] [pt H,.nilIface,.iface 165 (pt b_55)] fun g=>ah<|y.Da (b:=H) rfl<|k2 _ _ _ h_353.1 (SH.cO y.ae hs)
 ·exact y.an fun J w_8 y=>Dt [0,2,4,6,7,8,16,17,40] [pt p,C4 now,pt b_4,pt H,.nilIface,pt J,.agg #[C1 (↑0),C3 (↑0),C2 (↑0),C3 (↑0),C2 (↑0),C1 (↑0),C1 (↑0)],.iface 165 (pt b_15),undef] fun g=>y.aj (b:=J) fun _ y=>aq ⟨_,bH (neg:=true) rfl,ac (Dt [0,2,4,6,7,8,9,40] [pt p,C4 now,pt b_4,pt H,.nilIface,pt J,.iface 165 (pt b_15),undef] fun g=>⟨by kernel_rfl,(DI 0 0 false 0 0 0 0 (sN)),by kernel_rfl,y.aj (b:=H) fun _ y=>ah (y.Da (b:=H) rfl (k2 0 _ _ (by decide) (SH.cO y.ae hs)))⟩)⟩
theorem c166 {tos id:Nat} {keep:Bool} {ttl proto fr to now:Nat} (hc:s.t.count<4611686018427387904) (y:SH w0 w L) [q:aC (Na p) L s R] [hz:cL R] [hb:aD R v bs] (hB:bI tos id ttl proto fr to) (hlen:bs.length≤100000)
  (k1:proto=17→da bs fr to→ ∀ (s':dX) (qs:List Nat) a c w',jn s s'→fC bs qs s.own to→qs.length≤100000→SH w0 w' (Na p s'::By (sl a c qs) qs::R)→K (.tuple #[ba tos id keep ttl 17 s.own to (sl a c qs),.nilIface]) w')
  (k2:proto≠17→ ∀ (s':dX) (f:Nat) (qs:List Nat) a c w',jn s s'→f<4294967296→qs.length≤100000→SH w0 w' (Na p s'::By (sl a c qs) qs::R)→K (.tuple #[ba tos id keep ttl proto f to (sl a c qs),.nilIface]) w')
  (k3: ∀ (s':dX) (f t:Nat) b w',jn s s'→f<4294967296→t<4294967296→SH w0 w' (Na p s'::Ex b::R)→K (.tuple #[nm f t,bu b]) w'):D 166 [pt p,ba tos id keep ttl proto fr to v,.int .u64 now] w K:=by
 have hs:=(SH.na y p).1
 have y:=y.at (Na p)
 obtain ⟨ad,c,rfl,hcap,hB1,hl0⟩:=y.enter (v:=v)
 refine s166 rfl<|ac<|y.az [.int .u8 tos,.int .u16 id,.bool keep,.int .u8 ttl,.int .u8 proto,.int .u32 fr,.int .u32 to,sl ad c bs] fun J _ y=>y.an fun H _ y=>aq<|y.Da (b:=J) rfl<|c213 y (by assumption) (fun _ w_13 y=>?_) (fun w_13 y=>?_)
 ·refine ac<|y.Da (b:=J) rfl<|c214 y (by assumption) (by assumption) (fun _ qs_17 a_17 c_17 w_17 _ y=>?_) (fun f_17 b_17 w_17 _ y=>?_)
  ·exact Dt [0,2,4,6,7,17,34] [pt p,.int .u64 now,pt J,pt H,.nilIface,.tuple #[.agg #[.int .u8 tos,.int .u16 id,.bool keep,.int .u8 ttl,.int .u8 proto,.int .u32 s.own,.int .u32 to,sl a_17 c_17 qs_17],.nilIface],undef] fun g=>y.aj (b:=H) fun _ y=>ah<|y.Da (b:=H) rfl<|k2 (by omega) s s.own qs_17 _ _ _ ⟨rfl,Int.le_refl _,by omega⟩ hs (by assumption) y.ae
  ·exact Dt [0,2,4,6,7,17,34] [pt p,.int .u64 now,pt J,pt H,.nilIface,.tuple #[.agg #[.int .u8 (↑0),.int .u16 (↑0),.bool false,.int .u8 (↑0),.int .u8 (↑0),.int .u32 f_17,.int .u32 (↑0),.slice none 0 0],.iface 165 (pt b_17)],undef] fun g=>y.aj (b:=H) fun _ y=>ah<|y.Da (b:=H) rfl<|k3 s f_17 0 _ _ ⟨rfl,Int.le_refl _,by omega⟩ (by assumption) (by decide) y.ae
 ·refine ak<|ac<|y.Da (b:=J) rfl<|t215 y (by assumption) (by assumption) (fun p_22 q_22 fl_22 kd_22 _ w_22 y=>?_) (fun b_22 w_22 y=>?_)
  ·refine y.an fun Y w_8 y=>Dt [0,2,4,6,7,8,23,24,34] [pt p,.int .u64 now,pt J,pt H,.nilIface,pt Y,.agg #[.int .u8 proto,.int .u32 fr,.int .u16 p_22,.int .u32 to,.int .u16 q_22,.int .u8 fl_22,.int .u8 kd_22],.nilIface,undef] fun g=>y.aj (b:=Y) fun _ y=>?_
   refine bt (7::List.range' 25 16) rfl [0,2,4,6,7,8] (fun (_:Unit)=>[pt p,.int .u64 now,pt J,pt H,.nilIface,pt Y]) (fun _ w'=>SH w0 w' (Na p s::Cl Y 390 [.int .u8 proto,.int .u32 fr,.int .u16 p_22,.int .u32 to,.int .u16 q_22,.int .u8 fl_22,.int .u8 kd_22]::Cl J 46 [.int .u8 tos,.int .u16 id,.bool keep,.int .u8 ttl,.int .u8 proto,.int .u32 fr,.int .u32 to,sl ad c bs]::Cl H 46 [.int .u8 (0:Nat),.int .u16 (0:Nat),.bool false,.int .u8 (0:Nat),.int .u8 (0:Nat),.int .u32 (0:Nat),.int .u32 (0:Nat),.slice none 0 0]::R)) ?_ ?_
   ·refine aM<|ac ⟨_,bg (neg:=true) rfl,ai (ac (y.C9 (b:=Y) rfl (ap (fun h_33=>?_) (fun h_33=>?_))))⟩
    ·refine y.C9 (b:=Y) rfl<|Dt [0,2,4,6,7,8,34,36] [pt p,.int .u64 now,pt J,pt H,.nilIface,pt Y,.bool true,.int .u8 kd_22] fun g=>ap (fun h_37=>?_) (fun h_37=>?_)
     ·exact pa 2 rfl<|ai<|ac<|Dt [0,2,4,6,7,8] [pt p,.int .u64 now,pt J,pt H,.nilIface,pt Y] fun g=>⟨by kernel_rfl,[.int .u8 0,.int .u16 0,.bool false,.int .u8 0,.int .u8 0,.int .u32 0,.int .u32 0,.slice none 0 0],by kernel_rfl,c216 y (fun _ _ y=>y.aj (b:=H) fun _ y=>ah (y.Da (b:=H) rfl (k3 s 0 0 _ _ ⟨rfl,Int.le_refl _,by omega⟩ (by decide) (by decide) y.ae)))⟩
     ·exact pa 2 rfl<|ai<|ak ⟨(),rfl,y.ae⟩
    ·exact pa 6 rfl<|Dt [0,2,4,6,7,8,30] [pt p,.int .u64 now,pt J,pt H,.nilIface,pt Y,.bool false] fun g=>ai<|ak ⟨(),rfl,y.ae⟩
   rintro g _ w6 y
   obtain ⟨_,y⟩:=SH.na y p
   have hB2:=hB
   obtain ⟨_,_,_,hp1,hp2,hp3⟩:=hB2
   refine Dv [0,2,4,6,7,8] [pt p,.int .u64 now,pt J,pt H,.nilIface,pt Y] fun g=>aJ<|have y:=y.drew;y.C9 (b:=p) rfl<|y.C9 (b:=Y) rfl ⟨_,y.ar (b:=Y) [.int .u32 fr,.int .u16 p_22],⟨_,y.ar (b:=Y) [.int .u32 to,.int .u16 q_22],Du [0,2,4,6,7,8,45,47,49,51] [pt p,.int .u64 now,pt J,pt H,.nilIface,pt Y,pt s.2,.int .u8 proto,.agg #[.int .u32 fr,.int .u16 p_22],.agg #[.int .u32 to,.int .u16 q_22]] fun g=>y.C9 (b:=Y) rfl (t217 (tb:=s.tb) (by omega) hc y (fun t' z_55 e_55 _ h_554 y=>⟨⟨y.ld (b:=Y) rfl,⟨⟨_,y.ar (b:=Y) _,rfl⟩,⟨⟨_,y.ar (b:=Y) _,rfl⟩,⟨y.ld (b:=Y) rfl,⟨y.ld (b:=p) rfl,trivial⟩⟩⟩⟩⟩,aq (Dt [0,4,6,7,10,11] [pt p,pt J,pt H,.nilIface,.int .u16 z_55,.int .i64 e_55] fun g=>ap (fun h_59=>?_) (fun h_59=>?_))⟩))⟩⟩
   ·exact ac<|Dt [0,4,6,7,10,11] [pt p,pt J,pt H,.nilIface,.int .u16 z_55,.int .i64 e_55] fun g=>⟨by kernel_rfl,[.int .u8 0,.int .u16 0,.bool false,.int .u8 0,.int .u8 0,.int .u32 0,.int .u32 0,.slice none 0 0],by kernel_rfl,c218 y (fun _ _ y=>y.aj (b:=H) fun _ y=>ah (y.Da (b:=H) rfl (k3 ⟨s.own,s.tb,t'⟩ 0 0 _ _ ⟨rfl,h_554.1⟩ (by decide) (by decide) (SH.cO (s:=⟨s.own,s.tb,t'⟩) y.ae hs))))⟩
   ·refine ak<|aJ<|have y:=y.drew;y.Da (b:=J) rfl<|y.C9 (b:=p) rfl ⟨rfl,[.int .u32 s.own,.int .u16 z_55],rfl,Du [6,7,63,69] [pt H,.nilIface,.agg #[.int .u8 tos,.int .u16 id,.bool keep,.int .u8 ttl,.int .u8 proto,.int .u32 fr,.int .u32 to,sl ad c bs],.agg #[.int .u32 s.own,.int .u16 z_55]] fun g=>c219 y (by assumption) (by assumption) (by omega) (fun h_70 h_701 a_70 c_70 w_70 y=>?_) (fun h_70 h_701 _ _ a_70 c_70 w_70 y=>?_) (fun h_70 _ w_70 y=>?_)⟩
    ·exact ⟨⟨y.ld (b:=p) rfl,⟨⟨_,y.af (b:=J) rfl,rfl⟩,trivial⟩⟩,y.aj (b:=H) fun _ y=>⟨⟨y.ld (b:=p) rfl,⟨⟨_,y.af (b:=J) rfl,rfl⟩,trivial⟩⟩,ah (y.Da (b:=H) rfl (k1 (by assumption) (by assumption) ⟨s.own,s.tb,t'⟩ _ _ _ _ ⟨rfl,h_554.1⟩ (BD h_701 hB1.1 (by omega)) (vN h_701 (.inl rfl)) (SH.cO (s:=⟨s.own,s.tb,t'⟩) y.ae hs)))⟩⟩
    ·exact ⟨⟨y.ld (b:=p) rfl,⟨⟨_,y.af (b:=J) rfl,rfl⟩,trivial⟩⟩,y.aj (b:=H) fun _ y=>⟨⟨y.ld (b:=p) rfl,⟨⟨_,y.af (b:=J) rfl,rfl⟩,trivial⟩⟩,ah (y.Da (b:=H) rfl (k2 (by assumption) ⟨s.own,s.tb,t'⟩ s.own _ _ _ _ ⟨rfl,h_554.1⟩ hs (by omega) (SH.cO (s:=⟨s.own,s.tb,t'⟩) y.ae hs)))⟩⟩
    ·exact ⟨⟨y.ld (b:=p) rfl,⟨⟨_,y.af (b:=J) rfl,rfl⟩,trivial⟩⟩,y.aj (b:=H) fun _ y=>⟨⟨y.ld (b:=p) rfl,⟨⟨_,y.af (b:=J) rfl,rfl⟩,trivial⟩⟩,ah (y.Da (b:=H) rfl (k3 ⟨s.own,s.tb,t'⟩ 0 0 _ _ ⟨rfl,h_554.1⟩ (by decide) (by decide) (SH.cO (s:=⟨s.own,s.tb,t'⟩) y.ae hs)))⟩⟩
  ·exact y.an fun Y w_8 y=>Dt [0,2,4,6,7,8,23,24,34] [pt p,.int .u64 now,pt J,pt H,.nilIface,pt Y,.agg #[.int .u8 (↑0),.int .u32 (↑0),.int .u16 (↑0),.int .u32 (↑0),.int .u16 (↑0),.int .u8 (↑0),.int .u8 (↑0)],.iface 165 (pt b_22),undef] fun g=>y.aj (b:=Y) fun _ y=>aG<|ac ⟨_,bH (neg:=true) rfl,ai (ac (Dt [0,2,4,6,7,8,9] [pt p,.int .u64 now,pt J,pt H,.nilIface,pt Y,.iface 165 (pt b_22)] fun g=>⟨by kernel_rfl,[.int .u8 0,.int .u16 0,.bool false,.int .u8 0,.int .u8 0,.int .u32 0,.int .u32 0,.slice none 0 0],by kernel_rfl,y.aj (b:=H) fun _ y=>ah (y.Da (b:=H) rfl (k3 s 0 0 _ _ ⟨rfl,Int.le_refl _,by omega⟩ (by decide) (by decide) y.ae))⟩))⟩
abbrev oV (s q:dX):Prop:=q.own=s.own∧q.t.count=s.t.count
theorem c168 {tos id:Nat} {keep:Bool} {ttl proto fr to now:Nat} (y:SH w0 w L) [q:aC (Na p) L s R] [hb:aD R v bs] (hB:bI tos id ttl proto fr to) (hlen:bs.length≤100000)
  (k1:proto=17→da bs fr to→ ∀ (s':dX) (t:Nat) (qs:List Nat) a c w',oV s s'→fC bs qs fr t→t<4294967296→qs.length≤100000→SH w0 w' (Na p s'::By (sl a c qs) qs::R)→K (.tuple #[ba tos id keep ttl 17 fr t (sl a c qs),.nilIface]) w')
  (k2:proto≠17→ ∀ (s':dX) (t:Nat) (qs:List Nat) a c w',oV s s'→t<4294967296→qs.length≤100000→SH w0 w' (Na p s'::By (sl a c qs) qs::R)→K (.tuple #[ba tos id keep ttl proto fr t (sl a c qs),.nilIface]) w')
  (k3: ∀ (s':dX) (t:Nat) b w',oV s s'→t<4294967296→SH w0 w' (Na p s'::Ex b::R)→K (.tuple #[nm 0 t,bu b]) w'):D 168 [pt p,ba tos id keep ttl proto fr to v,C4 now] w K:=by
 have y:=y.at (Na p)
 obtain ⟨ad,c,rfl,hcap,hB1,hl0⟩:=y.enter (v:=v)
 obtain ⟨hs,y⟩:=SH.na y p
 refine s168 rfl<|ac<|y.az (DI tos id keep ttl proto fr to (sl ad c bs)) fun Y _ y=>y.an fun J _ y=>?_
 refine bt (7::List.range' 12 19) rfl [0,2,4,6,7] (fun (_:Unit)=>[pt p,C4 now,pt Y,pt J,.nilIface]) (fun _ w'=>SH w0 w' (Na p s::Cl Y 46 (DI tos id keep ttl proto fr to (sl ad c bs))::Cl J 46 (DI (0:Nat) (0:Nat) false (0:Nat) (0:Nat) (0:Nat) (0:Nat) (sN))::R)) ?_ ?_
 ·refine aM<|aJ<|have y:=y.drew;y.C9 (b:=Y) rfl<|y.C9 (b:=p) rfl<|Du [0,2,4,6,7,14,18] [pt p,C4 now,pt Y,pt J,.nilIface,C3 to,C3 s.own] fun g=>ap (fun h_19=>?_) (fun h_19=>?_)
  ·exact ai<|ac<|Dt [0,2,4,6,7] [pt p,C4 now,pt Y,pt J,.nilIface] fun g=>⟨by kernel_rfl,(DI 0 0 false 0 0 0 0 (sN)),by kernel_rfl,c216 y (fun b_21 _ y=>y.aj (b:=J) fun _ y=>ah (y.Da (b:=J) rfl (k3 s 0 b_21 _ ⟨rfl,rfl⟩ (by decide) (SH.cO y.ae hs))))⟩
  ·refine ai<|ac<|y.Da (b:=Y) rfl<|c213 y ‹_› (fun _ w_24 y=>?_) (fun w_24 y=>?_)
   ·refine ai<|ac<|y.Da (b:=Y) rfl ?_
    have y:=SH.cO (p:=p) (R:=Cl Y 46 (DI tos id keep ttl proto fr to (sl ad c bs))::Cl J 46 (DI (0:Nat) (0:Nat) false (0:Nat) (0:Nat) (0:Nat) (0:Nat) (sN))::R) y.ae hs
    refine c220 y ‹_› ‹_› (fun _ t_28 qs_28 a_28 c_28 w_28 _ _ y=>?_) (fun t_28 b_28 w_28 _ y=>?_)
    ·exact Dt [0,2,4,6,7,28] [pt p,C4 now,pt Y,pt J,.nilIface,.tuple #[ba tos id keep ttl proto fr t_28 (sl a_28 c_28 qs_28),.nilIface]] fun g=>y.aj (b:=J) fun _ y=>ah<|y.Da (b:=J) rfl<|k2 (by omega) s _ _ _ _ _ ⟨rfl,rfl⟩ ‹_› ‹_› y.ae
    ·exact Dt [0,2,4,6,7,28] [pt p,C4 now,pt Y,pt J,.nilIface,.tuple #[ba (↑0) (↑0) false (↑0) (↑0) (↑0) t_28 (sN),.iface 165 (pt b_28)]] fun g=>y.aj (b:=J) fun _ y=>ah<|y.Da (b:=J) rfl<|k3 s _ _ _ ⟨rfl,rfl⟩ ‹_› y.ae
   ·exact ai<|ak ⟨(),rfl,SH.cO y.ae hs⟩
 rintro g _ w6 y
 refine Dv [0,2,4,6,7] [pt p,C4 now,pt Y,pt J,.nilIface] fun g=>ac<|y.Da (b:=Y) rfl<|t215 y ‹_› ‹_› (fun p_33 q_33 fl_33 kd_33 _ w_33 y=>?_) (fun b_33 w_33 y=>?_)
 ·refine y.an fun H w_8 y=>y.aj (b:=H) fun _ y=>?_
  refine bt (7::List.range' 36 16) rfl [0,2,4,6,7,8] (fun (_:Unit)=>[pt p,C4 now,pt Y,pt J,.nilIface,pt H]) (fun _ w'=>SH w0 w' (Na p s::Cl H 390 [C1 proto,C3 fr,C2 p_33,C3 to,C2 q_33,C1 fl_33,C1 kd_33]::Cl Y 46 (DI tos id keep ttl proto fr to (sl ad c bs))::Cl J 46 (DI (0:Nat) (0:Nat) false (0:Nat) (0:Nat) (0:Nat) (0:Nat) (sN))::R)) ?_ ?_
  ·refine aM<|ac ⟨_,bg (neg:=true) rfl,Dt [0,2,4,6,7,8,9,38] [pt p,C4 now,pt Y,pt J,.nilIface,pt H,.nilIface,.bool !true] fun g=>ai (ac (y.C9 (b:=H) rfl (ap (fun h_44=>?_) (fun h_44=>?_))))⟩
   ·refine y.C9 (b:=H) rfl<|ap (fun h_48=>?_) (fun h_48=>?_)
    ·exact pa 2 rfl<|Dt [0,2,4,6,7,8,41] [pt p,C4 now,pt Y,pt J,.nilIface,pt H,.bool true] fun g=>ai<|ac ⟨by kernel_rfl,(DI 0 0 false 0 0 0 0 (sN)),by kernel_rfl,c216 y (fun _ _ y=>y.aj (b:=J) fun w_67 y=>ah (y.Da (b:=J) rfl (k3 s 0 _ _ ⟨rfl,rfl⟩ (by decide) y.ae)))⟩
    ·exact pa 2 rfl<|Dt [0,2,4,6,7,8,41] [pt p,C4 now,pt Y,pt J,.nilIface,pt H,.bool false] fun g=>ai<|ak ⟨(),rfl,y.ae⟩
   ·exact pa 6 rfl<|Dt [0,2,4,6,7,8,41] [pt p,C4 now,pt Y,pt J,.nilIface,pt H,.bool false] fun g=>ai<|ak ⟨(),rfl,y.ae⟩
  rintro g _ w6 y
  obtain ⟨_,y⟩:=SH.na y p
  have hB2:=hB
  obtain ⟨_,_,_,hp1,hp2,hp3⟩:=hB2
  refine Dv [0,2,4,6,7,8] [pt p,C4 now,pt Y,pt J,.nilIface,pt H] fun g=>?_
  refine bt (10::11::List.range' 52 18) rfl [4,6,7,10,11] (fun (x:cX × Nat × Nat × Int × Nat)=>[pt Y,pt J,.nilIface,pt x.2.2.2.2,C5 x.2.2.2.1]) (fun x w'=>(x.1.count=s.t.count∧x.2.1<4294967296∧x.2.2.1<65536)∧SH w0 w' (Cl x.2.2.2.2 325 [C3 x.2.1,C2 x.2.2.1]::Cl p 198 [C3 s.own,pt s.tb]::Ta s.tb x.1::Cl Y 46 (DI tos id keep ttl proto fr to (sl ad c bs))::Cl J 46 (DI (0:Nat) (0:Nat) false (0:Nat) (0:Nat) (0:Nat) (0:Nat) (sN))::R)) ?_ ?_
  ·refine rm<|have y:=y.drew;y.C9 (b:=p) rfl<|y.C9 (b:=H) rfl<|y.C9 (b:=H) rfl ⟨_,y.ar (b:=H) [C3 fr,C2 p_33],y.C9 (b:=H) rfl (⟨?_,?_⟩)⟩
   ·exact t221 (tb:=s.tb) (by omega) y (fun t2 x_67 y_67 e_67 w_67 h_675 y=>⟨⟨y.ld (b:=H) rfl,⟨⟨_,y.ar (b:=H) _,rfl⟩,⟨y.ld (b:=H) rfl,⟨y.ld (b:=H) rfl,⟨y.ld (b:=p) rfl,trivial⟩⟩⟩⟩⟩,bV [4,6,7,67] [pt Y,pt J,.nilIface,.tuple #[.agg #[C3 x_67,C2 y_67],C5 e_67]] rfl fun g=>y.an fun b_10 w_10 y=>⟨⟨y.ld (b:=H) rfl,⟨⟨_,y.ar (b:=H) _,rfl⟩,⟨y.ld (b:=H) rfl,⟨y.ld (b:=H) rfl,⟨y.ld (b:=p) rfl,trivial⟩⟩⟩⟩⟩,y.aj (b:=b_10) fun w_85 y=>⟨⟨y.ld (b:=H) rfl,⟨⟨_,y.ar (b:=H) _,rfl⟩,⟨y.ld (b:=H) rfl,⟨y.ld (b:=H) rfl,⟨y.ld (b:=p) rfl,trivial⟩⟩⟩⟩⟩,⟨(t2,x_67,y_67,e_67,b_10),rfl,⟨h_675.1,h_675.2⟩,y.ae⟩⟩⟩⟩)
   ·exact y.an fun b_10 w_10 y=>⟨⟨y.ld (b:=H) rfl,⟨⟨_,y.ar (b:=H) _,rfl⟩,⟨y.ld (b:=H) rfl,⟨y.ld (b:=H) rfl,⟨y.ld (b:=p) rfl,trivial⟩⟩⟩⟩⟩,t221 (tb:=s.tb) (by omega) y (fun t2 x_67 y_67 e_67 w_67 h_675 y=>⟨⟨y.ld (b:=H) rfl,⟨⟨_,y.ar (b:=H) _,rfl⟩,⟨y.ld (b:=H) rfl,⟨y.ld (b:=H) rfl,⟨y.ld (b:=p) rfl,trivial⟩⟩⟩⟩⟩,bV [4,6,7,10,67] [pt Y,pt J,.nilIface,pt b_10,.tuple #[.agg #[C3 x_67,C2 y_67],C5 e_67]] rfl fun g=>y.aj (b:=b_10) fun w_85 y=>⟨⟨y.ld (b:=H) rfl,⟨⟨_,y.ar (b:=H) _,rfl⟩,⟨y.ld (b:=H) rfl,⟨y.ld (b:=H) rfl,⟨y.ld (b:=p) rfl,trivial⟩⟩⟩⟩⟩,⟨(t2,x_67,y_67,e_67,b_10),rfl,⟨h_675.1,h_675.2⟩,y.ae⟩⟩⟩)⟩
  rintro g ⟨t2,x2,y2,e2,b_10⟩ w6 ⟨⟨hc2,hx2,hy2⟩,y⟩
  simp only at hc2 hx2 hy2 y
  refine Dv [4,6,7,10,11] [pt Y,pt J,.nilIface,pt b_10,C5 e2] fun g=>aq<|ap (fun h_71=>?_) (fun h_71=>?_)
  ·exact ac<|Dt [4,6,7,10] [pt Y,pt J,.nilIface,pt b_10] fun g=>⟨by kernel_rfl,(DI 0 0 false 0 0 0 0 (sN)),by kernel_rfl,c216 y (fun _ _ y=>y.aj (b:=J) fun w_91 y=>ah (y.Da (b:=J) rfl (k3 ⟨s.own,s.tb,t2⟩ 0 _ _ ⟨rfl,hc2⟩ (by decide) (SH.cO (s:=⟨s.own,s.tb,t2⟩) y.ae hs))))⟩
  ·refine ak<|ac<|y.Da (b:=Y) rfl<|y.Da (b:=b_10) rfl<|c222 y ‹_› ‹_› (by omega) (fun h_76 h_761 a_76 c_76 w_76 y=>?_) (fun h_76 h_761 _ _ a_76 c_76 w_76 y=>?_) (fun h_76 _ w_76 y=>?_)
   ·exact y.aj (b:=J) fun _ y=>ah<|y.Da (b:=J) rfl<|k1 ‹_› ‹_› ⟨s.own,s.tb,t2⟩ x2 _ _ _ _ ⟨rfl,hc2⟩ (BE ‹_› hB1.1 (by omega)) hx2 (vN ‹_› (.inr rfl)) (SH.cO (s:=⟨s.own,s.tb,t2⟩) y.ae hs)
   ·exact y.aj (b:=J) fun _ y=>ah<|y.Da (b:=J) rfl<|k2 ‹_› ⟨s.own,s.tb,t2⟩ x2 _ _ _ _ ⟨rfl,hc2⟩ hx2 (by omega) (SH.cO (s:=⟨s.own,s.tb,t2⟩) y.ae hs)
   ·exact y.aj (b:=J) fun w_91 y=>ah<|y.Da (b:=J) rfl<|k3 ⟨s.own,s.tb,t2⟩ 0 _ _ ⟨rfl,hc2⟩ (by decide) (SH.cO (s:=⟨s.own,s.tb,t2⟩) y.ae hs)
 ·exact y.an fun H w_8 y=>y.aj (b:=H) fun _ y=>aG<|ac ⟨_,bH (neg:=true) rfl,Dt [0,2,4,6,7,8,9,38] [pt p,C4 now,pt Y,pt J,.nilIface,pt H,.iface 165 (pt b_33),.bool true] fun g=>ai (ac (⟨by kernel_rfl,(DI 0 0 false 0 0 0 0 (sN)),by kernel_rfl,y.aj (b:=J) fun _ y=>ah (y.Da (b:=J) rfl (k3 s 0 _ _ ⟨rfl,rfl⟩ (by decide) y.ae))⟩))⟩
theorem jn.same {s q y:dX} (h:jn s q) (k:oV q y):jn s y:=by
 obtain ⟨h1,h2,h3⟩:=h
 obtain ⟨k1,k2⟩:=k
 exact ⟨k1.trans h1,by omega,by omega⟩
theorem c167 {tos id:Nat} {keep:Bool} {ttl proto fr to now:Nat} (hc:s.t.count<4611686018427387904) (y:SH w0 w L) [q:aC (Na p) L s R] [hz:cL R] [hb:aD R v bs] (hB:bI tos id ttl proto fr to) (hlen:bs.length≤100000)
  (k1:proto=17→da bs fr to→ ∀ (s':dX) (f t:Nat) (qs:List Nat) a c w',jn s s'→fC bs qs f t→f<4294967296∧t<4294967296→qs.length≤100000→SH w0 w' (Na p s'::By (sl a c qs) qs::R)→K (.tuple #[ba tos id keep ttl 17 f t (sl a c qs),.nilIface]) w')
  (k2:proto≠17→ ∀ (s':dX) (f t:Nat) (qs:List Nat) a c w',jn s s'→f<4294967296∧t<4294967296→qs.length≤100000→SH w0 w' (Na p s'::By (sl a c qs) qs::R)→K (.tuple #[ba tos id keep ttl proto f t (sl a c qs),.nilIface]) w')
  (k3: ∀ (s':dX) (f t:Nat) b w',jn s s'→f<4294967296∧t<4294967296→SH w0 w' (Na p s'::Ex b::R)→K (.tuple #[nm f t,bu b]) w'):D 167 [pt p,ba tos id keep ttl proto fr to v,C4 now] w K:=by
 have hs:=(SH.na y p).1
 have y:=y.at (Na p)
 obtain ⟨ad,c,rfl,hcap,hB1,hl0⟩:=y.enter (v:=v)
 refine s167 rfl<|ac<|y.az (DI tos id keep ttl proto fr to (sl ad c bs)) fun b_4 _ y=>y.an fun H _ y=>ac<|y.Da (b:=b_4) rfl<|c166 ‹_› y ‹_› ‹_› (fun h_14 _ s'_14 qs_14 a_14 c_14 w_14 J h_148 h_149 y=>?_) (fun h_14 s'_14 f_14 qs_14 a_14 c_14 w_14 J h_148 h_149 y=>?_) (fun s'_14 f_14 t_14 b_14 w_14 _ _ J y=>?_)
 ·refine y.an fun Y w_8 y=>Dt [0,2,6,7,8,15,16] [pt p,C4 now,pt H,.nilIface,pt Y,ba tos id keep ttl (↑17) s.own to (sl a_14 c_14 qs_14),.nilIface] fun g=>y.aj (b:=Y) fun w_59 y=>aq ⟨_,bg (neg:=true) rfl,ak (ac (y.Da (b:=Y) rfl (c168 (proto:=17) y (by (obtain ⟨h1,h2,h3,h4,h5,h6⟩:=hB;exact ⟨h1,h2,h3,by omega,by omega,h6⟩)) ‹_› (fun h_24 h_241 s2 t_24 qs_24 a_24 c_24 w_24 h_248 h_249 h_2410 h_2411 y=>?_) (fun h_24 s2 t_24 qs_24 a_24 c_24 w_24 h_247 h_248 h_249 y=>absurd rfl h_24) (fun s2 t_24 b_24 w_24 h_244 h_245 y=>?_))))⟩
  ·exact y.aj (b:=H) fun w_74 y=>Dt [6,7,26] [pt H,.nilIface,.nilIface] fun g=>ah<|y.Da (b:=H) rfl<|k1 ‹_› ‹_› s2 _ _ _ _ _ _ (J.same h_248) (h_148.trans h_249) ⟨hs,h_2410⟩ ‹_› y.ae
  ·exact y.aj (b:=H) fun w_68 y=>Dt [6,7,26] [pt H,.nilIface,.iface 165 (pt b_24)] fun g=>ah<|y.Da (b:=H) rfl<|k3 s2 0 _ _ _ (J.same h_244) ⟨by decide,by assumption⟩ y.ae
 ·refine y.an fun Y w_8 y=>Dt [0,2,6,7,8,15,16] [pt p,C4 now,pt H,.nilIface,pt Y,ba tos id keep ttl proto f_14 to (sl a_14 c_14 qs_14),.nilIface] fun g=>y.aj (b:=Y) fun w_59 y=>aq ⟨_,bg (neg:=true) rfl,ak (ac (y.Da (b:=Y) rfl (c168 y (by (obtain ⟨h1,h2,h3,h4,h5,h6⟩:=hB;exact ⟨h1,h2,h3,by omega,by omega,h6⟩)) ‹_› (fun h_24 h_241 s'_24 t_24 qs_24 a_24 c_24 w_24 h_248 h_249 h_2410 h_2411 y=>?_) (fun h_24 s'_24 t_24 qs_24 a_24 c_24 w_24 h_247 h_248 h_249 y=>?_) (fun s'_24 t_24 b_24 w_24 h_244 h_245 y=>?_))))⟩
  ·exact y.aj (b:=H) fun w_74 y=>Dt [6,7,26] [pt H,.nilIface,.nilIface] fun g=>ah<|y.Da (b:=H) rfl<|absurd h_24 h_14
  ·exact y.aj (b:=H) fun _ y=>Dt [6,7,26] [pt H,.nilIface,.nilIface] fun g=>ah<|y.Da (b:=H) rfl<|k2 ‹_› s'_24 _ _ _ _ _ _ (J.same h_247) ⟨by assumption,by assumption⟩ ‹_› y.ae
  ·exact y.aj (b:=H) fun w_68 y=>Dt [6,7,26] [pt H,.nilIface,.iface 165 (pt b_24)] fun g=>ah<|y.Da (b:=H) rfl<|k3 s'_24 0 _ _ _ (J.same h_244) ⟨by decide,by assumption⟩ y.ae
 ·refine y.an fun Y w_8 y=>Dt [0,2,6,7,8,15,16] [pt p,C4 now,pt H,.nilIface,pt Y,ba (↑0) (↑0) false (↑0) (↑0) f_14 t_14 (sN),.iface 165 (pt b_14)] fun g=>y.aj (b:=Y) fun _ y=>aq ⟨_,bH (neg:=true) rfl,ac (Dt [0,2,6,7,8,9] [pt p,C4 now,pt H,.nilIface,pt Y,.iface 165 (pt b_14)] fun g=>⟨by kernel_rfl,(DI 0 0 false 0 0 0 0 (sN)),by kernel_rfl,y.aj (b:=H) fun _ y=>ah (y.Da (b:=H) rfl (k3 _ _ _ _ _ ‹_› (by decide) y.ae))⟩)⟩
end
end
section
abbrev oW (kind reason:Int) (tos id:Nat) (keep:Bool) (ttl proto fr to:Nat) (body:Value):Value:= .agg #[C5 kind,C5 reason,C1 tos,C2 id,.bool keep,C1 ttl,C1 proto,C3 fr,C3 to,body]
abbrev lI (kind reason:Int):Value:=oW kind reason 0 0 false 0 0 0 0 (sN)
section
variable {w0 w:World} {L R R2:List ao} {K:Value→World→Prop} {v:Value} {bs:List Nat}
attribute [local irreducible] ay aQ aH aY a6 aW aK aV num be over nb rowOf cu cK fx da du dR ch dA fC
theorem c104a {e:Nat} (y:SH w0 w L) [q:im (Ex e) L R] [hE:di R] (k: ∀ r H,1≤r∧r<20→SH w0 H R→K (C5 r) H):D 104 [bu e] w K:=by
 obtain ⟨r,y⟩:=SH.vE (y.perm q.perm)
 have J:=(y.holds (Er e r) (.head _)).1
 exact c104 y fun H y=>k r H J y.tail
theorem c206 {r:Int} (q:SH w0 w L) (k: ∀ H,SH w0 H L→K (lI 0 r) H):D 206 [C5 r] w K:=by
 refine s206 rfl<|ac<|q.an fun y _ q=>ac ⟨by kernel_rfl,[C5 0,C5 r,C1 0,C2 0,.bool false,C1 0,C1 0,C3 0,C3 0,sN],by kernel_rfl,q.aj (b:=y) fun _ q=>ah (q.Da (b:=y) rfl (k _ q.ae))⟩
theorem c211 {own to ty code r0 r1 r2 r3:Nat} (hm:jJ ty code r0 r1 r2 r3) (q:SH w0 w L) [hb:aD L v bs] (hlen:bs.length≤100000) (k: ∀ qs a c w',qs.length≤100000→SH w0 w' (By (sl a c qs) qs::L)→K (ba 0 0 false 64 1 own to (sl a c qs)) w'):D 211 [C3 own,C3 to,gQ ty code r0 r1 r2 r3 v] w K:=by
 obtain ⟨ad,c,rfl,hcap,hB1,hl0⟩:=q.enter (v:=v)
 refine s211 rfl<|ac<|q.az [C1 ty,C1 code,C1 r0,C1 r1,C1 r2,C1 r3,sl ad c bs] fun b_5 _ q=>q.an fun y _ q=>ac<|q.Da (b:=b_5) rfl<|c269 q ‹_› ‹_› (fun H J Y w_11 q=>?_) (fun H _ w_11 q=>?_)
 ·exact ac ⟨by kernel_rfl,(DI 0 0 false 64 1 own to (sl J Y (iy ty code r0 r1 r2 r3 bs))),by kernel_rfl,q.aj (b:=y) fun _ q=>ah (q.Da (b:=y) rfl (k _ _ _ _ (by rw [qk];omega) q.ae))⟩
 ·exact ac ⟨by kernel_rfl,(DI 0 0 false 64 1 own to (sN)),by kernel_rfl,q.aj (b:=y) fun _ q=>ah (q.Da (b:=y) rfl (k [] none 0 _ (by decide) (SH.cH q.ae)))⟩
theorem c210 {tos id:Nat} {keep:Bool} {ttl proto fr to:Nat} (q:SH w0 w L) [hb:aD L v bs] (hlen:bs.length≤100000) (k: ∀ b w',SH w0 w' L→K (.bool b) w'):D 210 [ba tos id keep ttl proto fr to v] w K:=by
 obtain ⟨ad,c,rfl,hcap,hB1,hl0⟩:=q.enter (v:=v)
 refine s210 rfl<|ac<|q.az (DI tos id keep ttl proto fr to (sl ad c bs)) fun y _ q=>aq<|q.C9 (b:=y) rfl<|c91 q (fun h_7=>?_) (fun h_7=>?_)
 ·refine Dj<|q.C9 (b:=y) rfl<|c91 q (fun h_12=>?_) (fun h_12=>?_)
  ·refine Dj<|ak<|aq<|q.C9 (b:=y) rfl<|ap (fun h_17=>?_) (fun h_17=>?_)
   ·refine ac<|ah<|k _ _ q.ae
   ·refine ak<|ac<|q.C9 (b:=y) rfl<|c164 (v:=sl ad c bs) q ‹_› (fun h_21 _ a_21 c_21 w_21 q=>?_) (fun h_21 b_21 w_21 q=>?_)
    ·refine Dt [2,21,26] [.bool false,.tuple #[.agg #[C1 (bs.getD 0 0),C1 (bs.getD 1 0),C1 ((List.drop 4 bs).getD 0 0),C1 ((List.drop 4 bs).getD 1 0),C1 ((List.drop 4 bs).getD 2 0),C1 ((List.drop 4 bs).getD 3 0),sl a_21 c_21 (List.drop 8 bs)],.nilIface],undef] fun g=>q.an fun H w_3 q=>q.aj (b:=H) fun _ q=>ac ⟨_,bg (neg:=false) rfl,q.Da (b:=H) rfl (c268 q (fun J Y q=>?_) (fun J Y q=>?_) (fun J Y q=>?_))⟩
     ·refine Dh<|pa 2 rfl<|ah<|k _ _ q.ae
     ·refine Di<|pa 2 rfl<|ah<|k _ _ q.ae
     ·refine Di<|pa 2 rfl<|ah<|k _ _ q.ae
    ·refine Dt [2,21,26] [.bool false,.tuple #[.agg #[C1 (↑0),C1 (↑0),C1 (↑0),C1 (↑0),C1 (↑0),C1 (↑0),sN],.iface 165 (pt b_21)],undef] fun g=>q.an fun H w_3 q=>q.aj (b:=H) fun _ q=>ac ⟨_,bH (neg:=false) rfl,pa 6 rfl (ah (k _ _ q.ae))⟩
  ·refine Dj<|ac<|ah<|k _ _ q.ae
 ·refine Dj<|pa 6 rfl<|ac<|ah<|k _ _ q.ae
theorem c165 {own kind code tos id:Nat} {keep:Bool} {ttl proto fr to:Nat} (hk:kind<256∧code<256) (ho:own<4294967296) (hB:bI tos id ttl proto fr to) (q:SH w0 w L) [hb:aD L v bs] (hlen:bs.length≤65515)
  (k1: ∀ qs a c J,qs.length≤100000→SH w0 J (By (sl a c qs) qs::L)→K (.tuple #[ba 0 0 false 64 1 own fr (sl a c qs),.bool true]) J) (k2: ∀ J,SH w0 J L→K (.tuple #[fv,.bool false]) J):D 165 [.int .u32 own,.int .u8 kind,.int .u8 code,ba tos id keep ttl proto fr to v] w K:=by
 obtain ⟨ad,c,rfl,hcap,hB1,hl0⟩:=q.enter (v:=v)
 refine s165 rfl<|ac<|q.az [.int .u8 tos,.int .u16 id,.bool keep,.int .u8 ttl,.int .u8 proto,.int .u32 fr,.int .u32 to,sl ad c bs] fun y _ q=>q.an fun H _ q=>aq<|q.Da (b:=y) rfl<|c210 q (by omega) (fun _ _ q=>cG (fun Y=>?_) (fun Y=>?_))
 ·refine ac ⟨by kernel_rfl,[.int .u8 0,.int .u16 0,.bool false,.int .u8 0,.int .u8 0,.int .u32 0,.int .u32 0,.slice none 0 0],by kernel_rfl,q.aj (b:=H) fun _ q=>ah (q.Da (b:=H) rfl (k2 _ q.ae))⟩
 ·refine ak<|aJ<|have q:=q.drew;q.C9 (b:=y) rfl<|q.Da (b:=y) rfl<|c212 (kind:=kind) (code:=code) q (by assumption) hlen (fun a_20 c_20 _ q=>?_)
  have hh:=lk tos id keep ttl proto fr to bs.length
  have hq:(bW tos id keep ttl proto fr to bs.length++bs.take (min bs.length 8)).length≤100000:=by rw [List.length_append,hh,List.length_take];omega
  generalize bW tos id keep ttl proto fr to bs.length++bs.take (min bs.length 8)=hd at hq q ⊢
  refine ⟨⟨⟨_,q.af (b:=y) rfl,rfl⟩,⟨q.ld (b:=y) rfl,trivial⟩⟩,c211 (ty:=kind) (code:=code) (r0:=0) (r1:=0) (r2:=0) (r3:=0) (v:=sl a_20 c_20 hd) ⟨hk.1,hk.2,by decide,by decide,by decide,by decide⟩ q hq (fun _ _ _ _ _ q=>⟨⟨⟨_,q.af (b:=y) rfl,rfl⟩,⟨q.ld (b:=y) rfl,trivial⟩⟩,q.aj (b:=H) fun _ q=>⟨⟨⟨_,q.af (b:=y) rfl,rfl⟩,⟨q.ld (b:=y) rfl,trivial⟩⟩,ah (q.Da (b:=H) rfl (k1 _ _ _ _ (by assumption) q.ae))⟩⟩)⟩
theorem c204 {own tos id:Nat} {keep:Bool} {ttl proto fr to:Nat} (ho:own<4294967296) (hB:bI tos id ttl proto fr to) (q:SH w0 w L) [hE:di L] [hb:aD L v bs] (hlen:bs.length≤100000)
  (k1: ∀ qs a c w',qs.length≤100000→SH w0 w' (By (sl a c qs) qs::L)→K (oW 1 0 0 0 false 64 1 own fr (sl a c qs)) w') (k2: ∀ r w',0≤r∧r<20→SH w0 w' L→K (lI 0 r) w'):D 204 [C3 own,ba tos id keep ttl proto fr to v] w K:=by
 obtain ⟨ad,c,rfl,hcap,hB1,hl0⟩:=q.enter (v:=v)
 refine s204 rfl<|ac<|q.az (DI tos id keep ttl proto fr to (sl ad c bs)) fun b_3 _ q=>q.an fun y _ q=>ac<|q.C9 (b:=b_3) rfl<|c164 (v:=sl ad c bs) q ‹_› (fun h_10 h_101 J Y w_10 q=>?_) (fun h_10 b_10 w_10 q=>?_)
 ·refine q.an fun H w_5 q=>q.aj (b:=H) fun _ q=>aG<|ac ⟨_,bg (neg:=true) rfl,ai (ac (q.C9 (b:=H) rfl (ap (fun h_22=>?_) (fun h_22=>?_))))⟩
  ·refine pa 12 rfl<|ai<|ac<|c206 q (fun w_34 q=>q.aj (b:=y) fun _ q=>ah (q.Da (b:=y) rfl (k2 _ _ (by first | omega | decide) q.ae)))
  ·refine q.C9 (b:=H) rfl<|ap (fun h_26=>?_) (fun h_26=>?_)
   ·refine pa 8 rfl<|ai<|ac<|c206 q (fun w_34 q=>q.aj (b:=y) fun _ q=>ah (q.Da (b:=y) rfl (k2 _ _ (by first | omega | decide) q.ae)))
   ·refine pa 2 rfl<|q.C9 (b:=b_3) rfl<|ap (fun h_32=>?_) (fun h_32=>?_)
    ·refine pa 2 rfl<|ai<|ac<|c206 q (fun w_34 q=>q.aj (b:=y) fun _ q=>ah (q.Da (b:=y) rfl (k2 _ _ (by first | omega | decide) q.ae)))
    ·refine pa 2 rfl<|ai<|ak<|ac<|q.aN (b:=H) [C1 0] [C1 0,C1 (bs.getD 1 0),C1 ((List.drop 4 bs).getD 0 0),C1 ((List.drop 4 bs).getD 1 0),C1 ((List.drop 4 bs).getD 2 0),C1 ((List.drop 4 bs).getD 3 0),sl J Y (List.drop 8 bs)] fun _ q=>ac<|q.C9 (b:=b_3) rfl<|q.Da (b:=H) rfl<|c211 (ty:=0) (v:=sl J Y (List.drop 8 bs)) ⟨by decide,h_101.2⟩ q (by rw [List.length_drop];omega) (fun qs_40 a_40 c_40 _ _ q=>⟨by kernel_rfl,[C5 1,C5 0,C1 0,C2 0,.bool false,C1 64,C1 1,C3 own,C3 fr,sl a_40 c_40 qs_40],by kernel_rfl,q.aj (b:=y) fun _ q=>ah (q.Da (b:=y) rfl (k1 _ _ _ _ ‹_› q.ae))⟩)
 ·refine q.an fun H w_5 q=>q.aj (b:=H) fun _ q=>aG<|ac ⟨_,bH (neg:=true) rfl,ai (ac (c104a (e:=b_10) q (fun _ _ _ q=>c206 q (fun _ q=>q.aj (b:=y) fun _ q=>ah (q.Da (b:=y) rfl (k2 _ _ (by first | omega | decide) q.ae))))))⟩
theorem c205 {own tos id:Nat} {side:Int} {keep:Bool} {ttl proto fr to:Nat} (ho:own<4294967296) (hB:bI tos id ttl proto fr to) (q:SH w0 w L) [hE:di L] [hb:aD L v bs] (hlen:bs.length≤65515)
  (k1: ∀ qs a c w',qs.length≤100000→SH w0 w' (By (sl a c qs) qs::L)→K (oW 1 0 0 0 false 64 1 own fr (sl a c qs)) w') (k2: ∀ r w',0≤r∧r<20→SH w0 w' L→K (lI 0 r) w') (k3:side=0→ ∀ w',SH w0 w' L→K (lI 2 0) w'):D 205 [C5 side,C3 own,ba tos id keep ttl proto fr to v] w K:=by
 obtain ⟨ad,c,rfl,hcap,hB1,hl0⟩:=q.enter (v:=v)
 have hB2:=hB
 obtain ⟨_,_,_,hp1,hp2,hp3⟩:=hB2
 refine s205 rfl<|ac<|q.az (DI tos id keep ttl proto fr to (sl ad c bs)) fun H _ q=>q.an fun y _ q=>ac<|q.C9 (b:=H) rfl<|q.C9 (b:=H) rfl<|q.C9 (b:=H) rfl<|c11 (v:=sl ad c bs) q (by omega) (by omega) (fun h_18 bare_18 _ _ _ a_18 c_18 w_18 q=>?_) (fun h_18 b_18 w_18 q=>?_)
 ·refine Dt [0,1,5,6,18,30] [C5 side,C3 own,pt H,pt y,.tuple #[.agg #[C2 (num (List.take (num bs 4 2) bs) 0 2),C2 (num (List.take (num bs 4 2) bs) 2 2),.bool bare_18,sl a_18 c_18 (List.drop 8 (List.take (num bs 4 2) bs))],.nilIface],undef] fun g=>q.an fun b_7 w_7 q=>q.aj (b:=b_7) fun _ q=>aG<|ac ⟨_,bg (neg:=true) rfl,ai (ac (ap (fun h_29=>?_) (fun h_29=>?_)))⟩
  ·refine q.C9 (b:=b_7) rfl<|ap (fun h_33=>?_) (fun h_33=>?_)
   ·refine pa 2 rfl<|ai<|ac ⟨by kernel_rfl,[C5 2,C5 0,C1 0,C2 0,.bool false,C1 0,C1 0,C3 0,C3 0,sN],by kernel_rfl,q.aj (b:=y) fun _ q=>ah (q.Da (b:=y) rfl (k3 ‹_› _ q.ae))⟩
   ·refine pa 2 rfl<|ai<|ac<|q.C9 (b:=H) rfl<|ap (fun h_40=>?_) (fun h_40=>?_)
    ·refine ai<|ac<|c206 q (fun w_41 q=>q.aj (b:=y) fun _ q=>ah (q.Da (b:=y) rfl (k2 _ _ (by first | omega | decide) q.ae)))
    ·refine ai<|ak<|ac<|q.Da (b:=H) rfl<|c165 (by decide) ‹_› ‹_› q ‹_› (fun Y a_45 c_45 w_45 h_454 q=>?_) (fun w_45 q=>?_)
     ·refine q.an fun J w_9 q=>q.aj (b:=J) fun w_75 q=>aq<|Dj<|ak<|ac<|q.Da (b:=J) rfl ⟨by kernel_rfl,[C5 1,C5 0,C1 0,C2 0,.bool false,C1 64,C1 1,C3 own,C3 fr,sl a_45 c_45 Y],by kernel_rfl,q.aj (b:=y) fun _ q=>ah (q.Da (b:=y) rfl (k1 _ _ _ _ ‹_› q.ae))⟩
     ·refine q.an fun J w_9 q=>q.aj (b:=J) fun _ q=>aq<|Dj<|ac<|c206 q (fun w_50 q=>q.aj (b:=y) fun w_75 q=>ah (q.Da (b:=y) rfl (k2 _ _ (by first | omega | decide) q.ae)))
  ·refine pa 6 rfl<|ai<|ac<|q.C9 (b:=H) rfl<|ap (fun h_40=>?_) (fun h_40=>?_)
   ·refine ai<|ac<|c206 q (fun w_41 q=>q.aj (b:=y) fun _ q=>ah (q.Da (b:=y) rfl (k2 _ _ (by first | omega | decide) q.ae)))
   ·refine ai<|ak<|ac<|q.Da (b:=H) rfl<|c165 (by decide) ‹_› ‹_› q ‹_› (fun Y a_45 c_45 w_45 h_454 q=>?_) (fun w_45 q=>?_)
    ·refine q.an fun J w_9 q=>q.aj (b:=J) fun w_74 q=>aq<|Dj<|ak<|ac<|q.Da (b:=J) rfl ⟨by kernel_rfl,[C5 1,C5 0,C1 0,C2 0,.bool false,C1 64,C1 1,C3 own,C3 fr,sl a_45 c_45 Y],by kernel_rfl,q.aj (b:=y) fun _ q=>ah (q.Da (b:=y) rfl (k1 _ _ _ _ ‹_› q.ae))⟩
    ·refine q.an fun J w_9 q=>q.aj (b:=J) fun _ q=>aq<|Dj<|ac<|c206 q (fun w_50 q=>q.aj (b:=y) fun w_74 q=>ah (q.Da (b:=y) rfl (k2 _ _ (by first | omega | decide) q.ae)))
 ·refine Dt [0,1,5,6,18,30] [C5 side,C3 own,pt H,pt y,.tuple #[.agg #[C2 (↑0),C2 (↑0),.bool false,sN],.iface 165 (pt b_18)],undef] fun g=>q.an fun b_7 w_7 q=>q.aj (b:=b_7) fun _ q=>aG<|ac ⟨_,bH (neg:=true) rfl,ai (ac (c104a q (fun _ _ _ q=>c206 q (fun _ q=>q.aj (b:=y) fun _ q=>ah (q.Da (b:=y) rfl (k2 _ _ (by first | omega | decide) q.ae))))))⟩
theorem c161 {own tos id:Nat} {side:Int} {keep:Bool} {ttl proto fr to:Nat} (ho:own<4294967296) (hB:bI tos id ttl proto fr to) (q:SH w0 w L) [hE:di L] [hb:aD L v bs] (hlen:bs.length≤65515)
  (k1: ∀ qs a c H,qs.length≤100000→SH w0 H (By (sl a c qs) qs::L)→K (oW 1 0 0 0 false 64 1 own fr (sl a c qs)) H) (k2: ∀ r H,0≤r∧r<20→SH w0 H L→K (lI 0 r) H) (k3:side=0→ ∀ H,SH w0 H L→K (lI 2 0) H):D 161 [C5 side,C3 own,ba tos id keep ttl proto fr to v] w K:=by
 obtain ⟨ad,c,rfl,hcap,hB1,hl0⟩:=q.enter (v:=v)
 refine s161 rfl<|ac<|q.az (DI tos id keep ttl proto fr to (sl ad c bs)) fun Y _ q=>q.an fun y _ q=>av<|ac<|q.C9 (b:=Y) rfl<|aM<|ac<|ap (fun h_10=>?_) (fun h_10=>?_)
 ·refine ai<|ac<|q.Da (b:=Y) rfl<|c204 ‹_› ‹_› q (by omega) (fun qs_13 a_13 c_13 w_13 _ q=>?_) (fun r_13 w_13 _ q=>?_)
  ·refine Dt [6,13] [pt y,.agg #[C5 1,C5 0,C1 (↑0),C2 (↑0),.bool false,C1 (↑64),C1 (↑1),C3 own,C3 fr,sl a_13 c_13 qs_13]] fun g=>q.aj (b:=y) fun _ q=>ah<|q.Da (b:=y) rfl<|k1 _ _ _ _ ‹_› q.ae
  ·refine Dt [6,13] [pt y,.agg #[C5 0,C5 r_13,C1 (↑0),C2 (↑0),.bool false,C1 (↑0),C1 (↑0),C3 (↑0),C3 (↑0),sN]] fun g=>q.aj (b:=y) fun w_44 q=>ah<|q.Da (b:=y) rfl<|k2 _ _ (by first | omega | decide) q.ae
 ·refine ai<|ac<|ap (fun h_15=>?_) (fun h_15=>?_)
  ·refine ai<|ac<|q.Da (b:=Y) rfl<|c205 ‹_› ‹_› q ‹_› (fun _ _ _ J _ q=>?_) (fun _ J _ q=>?_) (fun _ J q=>?_)
   ·refine q.aj (b:=y) fun _ q=>ah<|q.Da (b:=y) rfl<|k1 _ _ _ _ ‹_› q.ae
   ·refine q.aj (b:=y) fun w_45 q=>ah<|q.Da (b:=y) rfl<|k2 _ _ (by first | omega | decide) q.ae
   ·refine q.aj (b:=y) fun w_45 q=>ah<|q.Da (b:=y) rfl<|k3 ‹_› _ q.ae
  ·refine ai<|ak<|ac<|c206 q (fun _ q=>q.aj (b:=y) fun w_44 q=>ah (q.Da (b:=y) rfl (k2 _ _ (by first | omega | decide) q.ae)))
end
end
section
structure cI where
 side:Int
 v:Value
 bs:List Nat
def eF (l:List cI):List Value:=l.flatMap fun x=>[C5 x.side,x.v]
def gj (l:List cI):List (Value × List Nat):=l.map fun x=>(x.v,x.bs)
structure bA where
 c:fB
 now:Nat
 pp:Nat
 l0:Nat
 l1:Nat
 r0:Nat
 r1:Nat
 np:Nat
 sp:Nat
 db:Nat
 pa:Option Addr
 pc:Nat
 po:gA
 bh:gX
 bl:gX
 ri0:jg
 ri1:jg
 na:dX
 se:jk
 D:List (Int × Int)
 pl:List cI
structure ru (s:bA):Prop where
 c:iI s.c
 now:s.now≤2305843009213693952
 pv:s.ri0.pv=some ⟨s.pp,0,none⟩∧s.ri1.pv=some ⟨s.pp,0,none⟩
abbrev bR (s:bA):List Value:=[C3 s.c.i1,C5 s.c.b1,C3 s.c.i2,C5 s.c.b2,C3 s.c.rt,C1 s.c.a0,C1 s.c.a1,C1 s.c.a2,C1 s.c.a3,C1 s.c.a4,C1 s.c.a5,C1 s.c.o0,C1 s.c.o1,C1 s.c.o2,C1 s.c.o3,C1 s.c.o4,C1 s.c.o5,C5 s.c.maps,C5 s.c.flows,C5 s.c.least,C5 s.c.most,C4 s.c.t0,C4 s.c.t1,C4 s.c.t2,C4 s.c.t3,C5 s.c.room,C5 s.c.wait,C4 s.c.life,C4 s.c.patience,C5 s.c.buffers,C5 s.c.ring,C3 s.c.own,C3 s.c.mask,C3 s.c.first,C3 s.c.last,C3 s.c.time,C3 s.c.hold,C3 s.c.quiet,C4 s.now,pt s.pp,pt s.l0,pt s.l1,pt s.r0,pt s.r1,pt s.np,pt s.sp,.map (some s.db),.slice s.pa s.pl.length s.pc]
abbrev fR (s:bA) (R:List ao):List ao:=Po s.pp s.po::Li s.l0 s.bh::Li s.l1 s.bl::Ri s.r0 s.ri0::Ri s.r1 s.ri1::Na s.np s.na::Se s.sp s.se::Row 99 2 (.slice s.pa s.pl.length s.pc) s.pl.length (eF s.pl)::bj (gj s.pl)::R
def Ga (p:Nat) (s:bA):ao:=bi ((Cl p 89 (bR s)::Mt cy s.db s.D::fR s [])++[Fact (ru s)])
section
variable {w0 w:World} {L R R2 R3:List ao} {K:Value→World→Prop} {p:Nat} {s:bA}
theorem SH.ga (y:SH w0 w L) (p:Nat) {s:bA} [q:aC (Ga p) L s R]:ru s∧SH w0 w (Cl p 89 (bR s)::Mt cy s.db s.D::fR s R):=(y.at (Ga p)).kG
theorem SH.aU {p:Nat} {s:bA} (q:SH w0 w (Cl p 89 (bR s)::Mt cy s.db s.D::fR s R)) (h:ru s):SH w0 w (Ga p s::R):=SH.kH (A:=Cl p 89 (bR s)::Mt cy s.db s.D::fR s []) q h
attribute [local irreducible] ay aQ aH aY a6 aW aK aV num be over nb rowOf bD
structure aP (P:Int→List Nat→Prop) (n:Nat) (s s':bA):Prop where
 c:s'.c=s.c
 now:s'.now=s.now
 own:s'.na.own=s.na.own
 cnt:s'.na.t.count≤s.na.t.count+n
 pl: ∀ x∈s'.pl,x∈s.pl∨(P x.side x.bs∧x.bs.length≤100000)
 len:s'.pl.length≤s.pl.length+n
theorem aP.refl {P:Int→List Nat→Prop} {n:Nat} (s:bA):aP P n s s:=⟨rfl,rfl,rfl,by omega,fun _ h=> .inl h,by omega⟩
theorem aP.trans {P:Int→List Nat→Prop} {n m:Nat} {a b c:bA} (h:aP P n a b) (k:aP P m b c):aP P (n+m) a c:=
 ⟨k.c.trans h.c,k.now.trans h.now,k.own.trans h.own,by have:=h.cnt;have:=k.cnt;omega,fun x q=>(k.pl x q).elim (h.pl x) .inr,by have:=h.len;have:=k.len;omega⟩
theorem vO (a b:List cI):eF (a++b)=eF a++eF b:=by simp [eF]
theorem SH.vP {a:List cI} {x:cI} (H:SH w0 w (By x.v x.bs::bj (gj a)::L)):SH w0 w (bj (gj (a++[x]))::L):=
 H.jN.nh fun _ y=>by
  simp only [gj,List.map_append,List.mem_append,List.map_cons,List.map_nil,List.mem_singleton] at y
  rcases y with y | y
  ·exact .tail _ y
  ·rw [y];exact .head _
theorem bL {t e:TypeId} {o:Oper} {f:Fr} {x i:Operand} {p q n:Nat} (H:Tryz.prog.underlying t=some (.array 2 e)) (y:(Tryz.prog.info? e).map (·.size)=some 1) (hn:n<2) (J:o.op= .indexAddr t x i) (Y:ev f x= .pointer (some ⟨p,q,none⟩)) (hi:ev f i=C5 n):
  (execOp (ev f) o).run Tryz.prog w= .ok (.value (.pointer (some ⟨p,q+n,none⟩))) w:=by
 have h:=jD (w:=w) (len:=2) (elem:=e) (sz:=1) J H y Y hi (by omega)
 rw [add_plain] at h
 rw [h]
 simp
instance el51:jM Tryz.prog 51 99 (.agg #[C5 0,sN]) 2 32:=⟨⟨Tryz.underlying51,by kernel_rfl,rfl,by decide⟩,by decide⟩
def bZ (D:List (Int × Int)) (r:Int):Int:=match aB D r with | some n=>n | none=>0
theorem c62 {r:Int} (hr:cM r) (y:SH w0 w L) [q:aC (Ga p) L s R] (k: ∀ w',SH w0 w' (Ga p { s with D:=aF s.D r (IntKind.i64.wrap (bZ s.D r+1)) } ::R)→K (.tuple #[]) w'):D 62 [pt p,C5 r] w K:=by
 obtain ⟨J,y⟩:=SH.ga y p
 refine s62 rfl<|au<|y.C9 (b:=p) rfl<|dh rfl rfl rfl (by omega) y (fun H=>?_) (fun Y H=>?_)
 ·refine Dj<|aZ (fc (vv:=C5 (IntKind.i64.wrap (0+1))) rfl rfl rfl rfl (by omega) y fun _ y=>k _ (SH.aU (s:= { s with D:=aF s.D r (IntKind.i64.wrap (bZ s.D r+1)) }) ?_ ⟨J.1,J.2,J.3⟩))
  have e:bZ s.D r=0:=by unfold bZ;rw [H]
  rw [e]
  exact y.ae
 ·refine Dj<|aZ (fc (vv:=C5 (IntKind.i64.wrap (Y+1))) rfl rfl rfl rfl (by omega) y fun _ y=>k _ (SH.aU (s:= { s with D:=aF s.D r (IntKind.i64.wrap (bZ s.D r+1)) }) ?_ ⟨J.1,J.2,J.3⟩))
  have e:bZ s.D r=Y:=by unfold bZ;rw [H]
  rw [e]
  exact y.ae
theorem vQ {r:Int} (h:1≤r∧r<20):cM r:=⟨by omega,by omega⟩
theorem c64 {b:Nat} (y:SH w0 w L) [q0:im (Ex b) L R] [q:aC (Ga p) R s R2] [hE:di R] (k: ∀ r H,1≤r∧r<20→SH w0 H (Ga p { s with D:=aF s.D r (IntKind.i64.wrap (bZ s.D r+1)) } ::R2)→K (.tuple #[]) H):D 64 [pt p,bu b] w K:=by
 exact s64 rfl<|au<|c104a y (fun _ _ J y=>c62 (vQ J) y (fun _ y=>k _ _ J y))
theorem c64e {b:Nat} {r:Int} (y:SH w0 w L) [q0:aC (Er b) L r R] [q:aC (Ga p) R s R2] [hE:di R] (k: ∀ H,1≤r∧r<20→SH w0 H (Ga p { s with D:=aF s.D r (IntKind.i64.wrap (bZ s.D r+1)) } ::R2)→K (.tuple #[]) H):D 64 [pt p,bu b] w K:=by
 have y:=y.at (Er b)
 have J:1≤r∧r<20:=(y.holds (Er b r) (.head _)).1
 refine s64 rfl<|au<|c104 y (fun _ y=>?_)
 have y:=y.tail
 exact c62 (vQ J) y (fun _ y=>k _ J y)
theorem c61 {v:Value} {bs:List Nat} (y:SH w0 w L) [q:aC (Ga p) L s R] [hb:aD R v bs] (hlen:bs.length≤100000)
  (k1: ∀ po' Y,SH w0 Y (Ga p { s with po:=po' } ::R)→K (.tuple #[C5 0,.bool true]) Y)
  (k2: ∀ r Y,(1514<bs.length∨ ∀ x∈s.po.l,x.o≠0)→1≤r∧r<20→SH w0 Y (Ga p s::R)→K (.tuple #[C5 r,.bool false]) Y):D 61 [pt p,v] w K:=by
 obtain ⟨hs,y⟩:=SH.ga y p
 obtain ⟨ad,c,rfl,hcap,hB1,hl0⟩:=y.enter (v:=v)
 refine s61 rfl<|ac<|ac<|y.C9 (b:=p) rfl<|c102 (v:=sl ad c bs) y ‹_› (fun h_14 _ s'_14 J y=>?_) (fun h_14 J y=>?_) (fun _ J y=>?_)
 ·exact av<|ac<|aM<|ac<|Di<|ai<|ac<|y.C9 (b:=p) rfl<|c70 y (fun H _ _ y=>ac (ah (k1 H _ (SH.aU (s:= { s with po:=H }) y.ae ⟨hs.1,hs.2,hs.3⟩))))
 ·exact av<|ac<|aM<|ac<|Dh<|ai<|ac<|Di<|ai<|ac<|ah<|k2 1 _ (.inl (by omega)) (by decide) (SH.aU y.ae hs)
 ·exact av<|ac<|aM<|ac<|Dh<|ai<|ac<|Dh<|ai<|ak<|ac<|ah<|k2 13 _ (.inr ‹_›) (by decide) (SH.aU y.ae hs)
theorem c65 {P:Int→List Nat→Prop} {v:Value} {bs:List Nat} {side:Nat} (hsd:side<2) (hP:P side bs) (hpl:s.pl.length≤100000) (Y:SH w0 w L) [q:aC (Ga p) L s R] [hb:aD R v bs] (hlen:bs.length≤100000)
  (k: ∀ s' w',aP P 1 s s'→SH w0 w' (Ga p s'::R)→K (.tuple #[]) w'):D 65 [pt p,C5 side,v] w K:=by
 obtain ⟨hs,Y⟩:=SH.ga Y p
 obtain ⟨ad,c,rfl,hcap,hB1,hl0⟩:=Y.enter (v:=v)
 rcases (by omega:side=0∨side=1) with rfl | rfl
 ·refine s65 rfl<|ac ⟨_,bL (n:=0) Tryz.underlying84 (by kernel_rfl) (by decide) rfl rfl rfl,Y.C9 (b:=p) rfl (ac ?_)⟩
  refine bt (7::List.range' 14 5) rfl [0,1,2,6,7] (fun (z:Int)=>[pt p,C5 (0:Nat),sl ad c bs,pt s.r0,C5 z]) (fun z w'=>(1≤z∧z<20)∧SH w0 w' (Cl p 89 (bR s)::Mt cy s.db s.D::fR s R)) ?_ ?_
  ·refine ac<|c105 Y (fun w_15 Y=>c106 Y (fun w_17 Y=>ap (fun h_18=>?_) (fun h_18=>?_)))
   ·exact ai<|au ⟨14,rfl,by decide,Y.ae⟩
   ·exact ai<|ak ⟨13,rfl,by decide,Y.ae⟩
  rintro g z w6 ⟨hz,Y⟩
  refine aq<|c107 (p:=s.pp) (s:=s.ri0) (v:=sl ad c bs) Y ‹_› hs.3.1 (fun ps' s1 e_21 w_21 h_214 Y=>?_)
  have Y:SH w0 w_21 (Ga p { s with po:=ps',ri0:=s1 } ::R):=SH.aU (s:= { s with po:=ps',ri0:=s1 }) Y.ae ⟨hs.1,hs.2,⟨h_214.trans hs.3.1,hs.3.2⟩⟩
  obtain ⟨y,⟨hst,hp2⟩,Y⟩: ∃ y,(aP P 0 s y∧y.pl=s.pl)∧SH w0 w_21 (Ga p y::R):=⟨{ s with po:=ps',ri0:=s1 },⟨⟨rfl,rfl,rfl,by show s.na.t.count≤s.na.t.count+((0:Nat):Int);omega,fun x h=> .inl h,Nat.le_refl _⟩,rfl⟩,Y⟩
  refine ap (fun h_22=>?_) (fun h_22=>?_)
  ·exact ac<|c62 (by omega) Y (fun w_25 Y=>ah (k { y with D:=aF y.D z (IntKind.i64.wrap (bZ y.D z+1)) } _ ⟨hst.c,hst.now,hst.own,by have:=hst.cnt;show y.na.t.count≤s.na.t.count+((1:Nat):Int);omega,hst.pl,Nat.le_trans hst.len (Nat.le_succ _)⟩ Y))
  ·refine ak<|cv<|have Y:=Y.drew;?_
   obtain ⟨hs2,Y⟩:=SH.ga Y p
   refine Y.C9 (b:=p) rfl<|c34 (v:=sl ad c bs) Y (fun H J w_33 h_333 Y=>⟨⟨Y.ld (b:=p) rfl,trivial⟩,⟨rfl,[C5 (0:Nat),sl H J bs],rfl,⟨rfl,[C5 (0:Nat),sl H J bs],rfl,Y.an fun b_35 w_35 Y=>?_⟩⟩⟩)
   have Y:SH w0 w_35 (Cl b_35 99 [C5 (0:Nat),sl H J bs]::Nb 5 (sl H J bs) bs::Cl p 89 (bR y)::Mt cy y.db y.D::fR y R):=Y
   have hlp:y.pl.length≤100000:=by rw [hp2];exact hpl
   refine ⟨⟨Y.ld (b:=p) rfl,trivial⟩,fy (dL (v:= .slice y.pa y.pl.length y.pc) (u:= .slice (some ⟨b_35,0,none⟩) 1 1) rfl rfl rfl Y (Y.fa rfl) rfl (by omega) fun a_36 c_36 w_36 Y=>⟨⟨Y.ld (b:=p) rfl,trivial⟩,Y.aN (b:=p) [.slice a_36 (y.pl.length+1) c_36] ((bR y).take 47++[.slice a_36 (y.pl.length+1) c_36]) fun w_38 Y=>?_⟩)⟩
   have hX:(y.pl++[cI.mk (0:Nat) (sl H J bs) bs]).length=y.pl.length+1:=by simp
   have h9:SH w0 w_38 (By (sl H J bs) bs::bj (gj y.pl)::Cl p 89 ((bR y).take 47++[.slice a_36 (y.pl.length+1) c_36])::Mt cy y.db y.D::Po y.pp y.po::Li y.l0 y.bh::Li y.l1 y.bl::Ri y.r0 y.ri0::Ri y.r1 y.ri1::Na y.np y.na::Se y.sp y.se::Row 99 2 (.slice a_36 (y.pl.length+1) c_36) (y.pl.length+1) (eF y.pl++[C5 (0:Nat),sl H J bs])::R):=Y.ae
   have h8:=SH.vP (x:=cI.mk (0:Nat) (sl H J bs) bs) h9
   refine k { y with pa:=a_36,pc:=c_36,pl:=y.pl++[cI.mk (0:Nat) (sl H J bs) bs] } _ ⟨hst.c,hst.now,hst.own,by have:=hst.cnt;show y.na.t.count≤s.na.t.count+((1:Nat):Int);omega,fun x hx=>?_,by show (y.pl++[cI.mk (0:Nat) (sl H J bs) bs]).length≤_;rw [hX,hp2];exact Nat.le_refl _⟩ (SH.aU (s:= { y with pa:=a_36,pc:=c_36,pl:=y.pl++[cI.mk (0:Nat) (sl H J bs) bs] }) ?_ ⟨hs2.1,hs2.2,hs2.3⟩)
   ·rcases List.mem_append.1 hx with h | h
    ·exact hst.pl x h
    ·rw [List.mem_singleton.1 h];exact .inr ⟨hP,hlen⟩
   ·show SH w0 w_38 (Cl p 89 ((bR y).take 47++[.slice a_36 (y.pl++[cI.mk (0:Nat) (sl H J bs) bs]).length c_36])::Mt cy y.db y.D::Po y.pp y.po::Li y.l0 y.bh::Li y.l1 y.bl::Ri y.r0 y.ri0::Ri y.r1 y.ri1::Na y.np y.na::Se y.sp y.se::Row 99 2 (.slice a_36 (y.pl++[cI.mk (0:Nat) (sl H J bs) bs]).length c_36) (y.pl++[cI.mk (0:Nat) (sl H J bs) bs]).length (eF (y.pl++[cI.mk (0:Nat) (sl H J bs) bs]))::bj (gj (y.pl++[cI.mk (0:Nat) (sl H J bs) bs]))::R)
    rw [hX,vO,show eF [cI.mk ((0:Nat):Int) (sl H J bs) bs]=[C5 (0:Nat),sl H J bs] from rfl]
    exact h8.ae
 ·refine s65 rfl<|ac ⟨_,bL (n:=1) Tryz.underlying84 (by kernel_rfl) (by decide) rfl rfl rfl,Y.C9 (b:=p) rfl (ac ?_)⟩
  refine bt (7::List.range' 14 5) rfl [0,1,2,6,7] (fun (z:Int)=>[pt p,C5 (1:Nat),sl ad c bs,pt s.r1,C5 z]) (fun z w'=>(1≤z∧z<20)∧SH w0 w' (Cl p 89 (bR s)::Mt cy s.db s.D::fR s R)) ?_ ?_
  ·refine ac<|c105 Y (fun w_15 Y=>c106 Y (fun w_17 Y=>ap (fun h_18=>?_) (fun h_18=>?_)))
   ·exact ai<|au ⟨14,rfl,by decide,Y.ae⟩
   ·exact ai<|ak ⟨13,rfl,by decide,Y.ae⟩
  rintro g z w6 ⟨hz,Y⟩
  refine aq<|c107 (p:=s.pp) (s:=s.ri1) (v:=sl ad c bs) Y ‹_› hs.3.2 (fun ps' s1 e_21 w_21 h_214 Y=>?_)
  have Y:SH w0 w_21 (Ga p { s with po:=ps',ri1:=s1 } ::R):=SH.aU (s:= { s with po:=ps',ri1:=s1 }) Y.ae ⟨hs.1,hs.2,⟨hs.3.1,h_214.trans hs.3.2⟩⟩
  obtain ⟨y,⟨hst,hp2⟩,Y⟩: ∃ y,(aP P 0 s y∧y.pl=s.pl)∧SH w0 w_21 (Ga p y::R):=⟨{ s with po:=ps',ri1:=s1 },⟨⟨rfl,rfl,rfl,by show s.na.t.count≤s.na.t.count+((0:Nat):Int);omega,fun x h=> .inl h,Nat.le_refl _⟩,rfl⟩,Y⟩
  refine ap (fun h_22=>?_) (fun h_22=>?_)
  ·exact ac<|c62 (by omega) Y (fun w_25 Y=>ah (k { y with D:=aF y.D z (IntKind.i64.wrap (bZ y.D z+1)) } _ ⟨hst.c,hst.now,hst.own,by have:=hst.cnt;show y.na.t.count≤s.na.t.count+((1:Nat):Int);omega,hst.pl,Nat.le_trans hst.len (Nat.le_succ _)⟩ Y))
  ·refine ak<|cv<|have Y:=Y.drew;?_
   obtain ⟨hs2,Y⟩:=SH.ga Y p
   refine Y.C9 (b:=p) rfl<|c34 (v:=sl ad c bs) Y (fun H J w_33 h_333 Y=>⟨⟨Y.ld (b:=p) rfl,trivial⟩,⟨rfl,[C5 (1:Nat),sl H J bs],rfl,⟨rfl,[C5 (1:Nat),sl H J bs],rfl,Y.an fun b_35 w_35 Y=>?_⟩⟩⟩)
   have Y:SH w0 w_35 (Cl b_35 99 [C5 (1:Nat),sl H J bs]::Nb 5 (sl H J bs) bs::Cl p 89 (bR y)::Mt cy y.db y.D::fR y R):=Y
   have hlp:y.pl.length≤100000:=by rw [hp2];exact hpl
   refine ⟨⟨Y.ld (b:=p) rfl,trivial⟩,fy (dL (v:= .slice y.pa y.pl.length y.pc) (u:= .slice (some ⟨b_35,0,none⟩) 1 1) rfl rfl rfl Y (Y.fa rfl) rfl (by omega) fun a_36 c_36 w_36 Y=>⟨⟨Y.ld (b:=p) rfl,trivial⟩,Y.aN (b:=p) [.slice a_36 (y.pl.length+1) c_36] ((bR y).take 47++[.slice a_36 (y.pl.length+1) c_36]) fun w_38 Y=>?_⟩)⟩
   have hX:(y.pl++[cI.mk (1:Nat) (sl H J bs) bs]).length=y.pl.length+1:=by simp
   have h9:SH w0 w_38 (By (sl H J bs) bs::bj (gj y.pl)::Cl p 89 ((bR y).take 47++[.slice a_36 (y.pl.length+1) c_36])::Mt cy y.db y.D::Po y.pp y.po::Li y.l0 y.bh::Li y.l1 y.bl::Ri y.r0 y.ri0::Ri y.r1 y.ri1::Na y.np y.na::Se y.sp y.se::Row 99 2 (.slice a_36 (y.pl.length+1) c_36) (y.pl.length+1) (eF y.pl++[C5 (1:Nat),sl H J bs])::R):=Y.ae
   have h8:=SH.vP (x:=cI.mk (1:Nat) (sl H J bs) bs) h9
   refine k { y with pa:=a_36,pc:=c_36,pl:=y.pl++[cI.mk (1:Nat) (sl H J bs) bs] } _ ⟨hst.c,hst.now,hst.own,by have:=hst.cnt;show y.na.t.count≤s.na.t.count+((1:Nat):Int);omega,fun x hx=>?_,by show (y.pl++[cI.mk (1:Nat) (sl H J bs) bs]).length≤_;rw [hX,hp2];exact Nat.le_refl _⟩ (SH.aU (s:= { y with pa:=a_36,pc:=c_36,pl:=y.pl++[cI.mk (1:Nat) (sl H J bs) bs] }) ?_ ⟨hs2.1,hs2.2,hs2.3⟩)
   ·rcases List.mem_append.1 hx with h | h
    ·exact hst.pl x h
    ·rw [List.mem_singleton.1 h];exact .inr ⟨hP,hlen⟩
   ·show SH w0 w_38 (Cl p 89 ((bR y).take 47++[.slice a_36 (y.pl++[cI.mk (1:Nat) (sl H J bs) bs]).length c_36])::Mt cy y.db y.D::Po y.pp y.po::Li y.l0 y.bh::Li y.l1 y.bl::Ri y.r0 y.ri0::Ri y.r1 y.ri1::Na y.np y.na::Se y.sp y.se::Row 99 2 (.slice a_36 (y.pl++[cI.mk (1:Nat) (sl H J bs) bs]).length c_36) (y.pl++[cI.mk (1:Nat) (sl H J bs) bs]).length (eF (y.pl++[cI.mk (1:Nat) (sl H J bs) bs]))::bj (gj (y.pl++[cI.mk (1:Nat) (sl H J bs) bs]))::R)
    rw [hX,vO,show eF [cI.mk ((1:Nat):Int) (sl H J bs) bs]=[C5 (1:Nat),sl H J bs] from rfl]
    exact h8.ae
end
end
section
abbrev fD (kind side:Int) (v:Value) (n:Nat):Value:= .agg #[C5 kind,C5 side,v,C4 n]
def cY (kind side:Int) (len:Nat) (n:Nat):Prop:=
 (kind=0∧(side=0∨side=1)∧n=0)∨(kind=1∧side=0∧len=0∧1≤n∧n≤1099511627776)∨(kind=2∧(side=0∨side=1)∧len=0∧1≤n∧n≤256)
section
variable {w0 w:World} {L R R2 R3:List ao} {K:Value→World→Prop} {p:Nat} {s:bA} {v:Value} {bs:List Nat}
attribute [local irreducible] ay aQ aH aY a6 aW aK aV num be over nb rowOf bD
theorem c24 {kind side:Int} {n:Nat} (q:SH w0 w L) [hb:aD L v bs] (hlen:bs.length≤1000000000) (k1:cY kind side bs.length n→ ∀ w',SH w0 w' L→K (.bool true) w') (k2: ¬cY kind side bs.length n→ ∀ w',SH w0 w' L→K (.bool false) w'):D 24 [fD kind side v n] w K:=by
 obtain ⟨ad,c,rfl,hcap,hB1,hl0⟩:=q.enter (v:=v)
 refine s24 rfl<|ac<|q.az [C5 kind,C5 side,sl ad c bs,C4 n] fun y _ q=>?_
 refine bt (List.range' 3 9) rfl [1,2,3] (fun (b:Bool)=>[pt y,.bool false,.bool b]) (fun b w'=>(b=true↔side=0∨side=1)∧SH w0 w' (Cl y 50 [C5 kind,C5 side,sl ad c bs,C4 n]::L)) ?_ ?_
 ·refine au<|q.C9 (b:=y) rfl<|ap (fun h_6=>?_) (fun h_6=>?_)
  ·exact pa 6 rfl ⟨true,rfl,by simp;omega,q⟩
  ·refine q.C9 (b:=y) rfl<|ap (fun h_10=>?_) (fun h_10=>?_)
   ·exact pa 2 rfl ⟨true,rfl,by simp;omega,q⟩
   ·exact pa 2 rfl ⟨false,rfl,by simp;omega,q⟩
 rintro g b w6 ⟨hsd,q⟩
 cases b
 ·have hsd2: ¬ (side=0∨side=1):=fun h=>by have:=hsd.2 h;cases this
  refine av<|ac<|q.C9 (b:=y) rfl<|aM<|ac<|ap (fun H=>?_) (fun H=>?_)
  ·refine ai<|ac<|pa 7 rfl<|ah<|k2 (by (simp only [cY];omega)) _ q.ae
  ·refine ai<|ac<|ap (fun J=>?_) (fun J=>?_)
   ·refine ai<|ac<|q.C9 (b:=y) rfl<|Df<|pa 17 rfl<|ah<|k2 (by (simp only [cY];omega)) _ q.ae
   ·refine ai<|ac<|ap (fun Y=>?_) (fun Y=>?_)
    ·refine ai<|ac<|pa 18 rfl<|ah<|k2 (by (simp only [cY];omega)) _ q.ae
    ·refine ai<|ak<|ac<|ah<|k2 (by (simp only [cY];omega)) _ q.ae
 ·have hsd2:side=0∨side=1:=hsd.1 rfl
  refine av<|ac<|q.C9 (b:=y) rfl<|aM<|ac<|ap (fun H=>?_) (fun H=>?_)
  ·refine ai<|ac<|q.C9 (b:=y) rfl<|ap (fun h_20=>?_) (fun h_20=>?_)
   ·refine pa 2 rfl<|ah<|k1 (by (simp only [cY];omega)) _ q.ae
   ·refine pa 2 rfl<|ah<|k2 (by (simp only [cY];omega)) _ q.ae
  ·refine ai<|ac<|ap (fun J=>?_) (fun J=>?_)
   ·refine ai<|ac<|q.C9 (b:=y) rfl<|ap (fun h_26=>?_) (fun h_26=>?_)
    ·refine q.C9 (b:=y) rfl<|ap (fun h_31=>?_) (fun h_31=>?_)
     ·refine pa 2 rfl<|q.C9 (b:=y) rfl<|ap (fun h_36=>?_) (fun h_36=>?_)
      ·refine pa 2 rfl<|q.C9 (b:=y) rfl<|ap (fun h_41=>?_) (fun h_41=>?_)
       ·refine pa 2 rfl<|ah<|k1 (by (simp only [cY];omega)) _ q.ae
       ·refine pa 2 rfl<|ah<|k2 (by (simp only [cY];omega)) _ q.ae
      ·refine pa 7 rfl<|ah<|k2 (by (simp only [cY];omega)) _ q.ae
     ·refine pa 12 rfl<|ah<|k2 (by (simp only [cY];omega)) _ q.ae
    ·refine pa 17 rfl<|ah<|k2 (by (simp only [cY];omega)) _ q.ae
   ·refine ai<|ac<|ap (fun Y=>?_) (fun Y=>?_)
    ·refine ai<|ac<|q.C9 (b:=y) rfl<|ap (fun h_50=>?_) (fun h_50=>?_)
     ·refine pa 2 rfl<|q.C9 (b:=y) rfl<|ap (fun h_55=>?_) (fun h_55=>?_)
      ·refine pa 2 rfl<|q.C9 (b:=y) rfl<|ap (fun h_60=>?_) (fun h_60=>?_)
       ·refine pa 2 rfl<|ah<|k1 (by (simp only [cY];omega)) _ q.ae
       ·refine pa 2 rfl<|ah<|k2 (by (simp only [cY];omega)) _ q.ae
      ·refine pa 7 rfl<|ah<|k2 (by (simp only [cY];omega)) _ q.ae
     ·refine pa 12 rfl<|ah<|k2 (by (simp only [cY];omega)) _ q.ae
    ·refine ai<|ak<|ac<|ah<|k2 (by (simp only [cY];omega)) _ q.ae
theorem c113 {tos id:Nat} {keep:Bool} {ttl proto fr to:Nat} (q:SH w0 w L) [hb:aD L v bs] (hlen:bs.length≤100000) (k1:proto=1→ ∀ H,SH w0 H L→K (.bool true) H) (k2: ∀ H,SH w0 H L→K (.bool false) H):D 113 [ba tos id keep ttl proto fr to v] w K:=by
 obtain ⟨ad,c,rfl,hcap,hB1,hl0⟩:=q.enter (v:=v)
 refine s113 rfl<|ac<|q.az (DI tos id keep ttl proto fr to (sl ad c bs)) fun J _ q=>aq<|q.C9 (b:=J) rfl<|ap (fun h_7=>?_) (fun h_7=>?_)
 ·refine ac<|ah<|k2 _ q.ae
 ·refine ak<|ac<|q.C9 (b:=J) rfl<|c164 (v:=sl ad c bs) q ‹_› (fun Y _ _ _ w_11 q=>?_) (fun Y _ w_11 q=>?_)
  ·refine q.an fun y w_3 q=>q.aj (b:=y) fun _ q=>ac ⟨_,bg (neg:=false) rfl,q.C9 (b:=y) rfl (ap (fun h_19=>?_) (fun h_19=>?_))⟩
   ·refine pa 2 rfl<|q.C9 (b:=y) rfl<|ap (fun h_24=>?_) (fun h_24=>?_)
    ·refine pa 2 rfl<|ah<|k1 (by omega) _ q.ae
    ·refine pa 2 rfl<|ah<|k2 _ q.ae
   ·refine pa 7 rfl<|ah<|k2 _ q.ae
  ·refine q.an fun y w_3 q=>q.aj (b:=y) fun _ q=>ac ⟨_,bH (neg:=false) rfl,pa 11 rfl (ah (k2 _ q.ae))⟩
end
end
section
def gZ (s:bA) (side:Nat):Nat:=if side=0 then s.l0 else s.l1
section
variable {w0 w:World} {L R R2 R3:List ao} {K:Value→World→Prop} {p:Nat} {s:bA} {v:Value} {bs:List Nat}
theorem SH.cD {side:Nat} (hsd:side<2) (y:SH w0 w L) [q:aR L p 89 (bR s) R]:w.cell? ⟨p,40+side,none⟩=some (pt (gZ s side)):=by
 rcases (by omega:side=0∨side=1) with rfl | rfl
 ·exact y.ld (b:=p) rfl
 ·exact y.ld (b:=p) rfl
theorem aP.drop {P:Int→List Nat→Prop} {n:Nat} {s q:bA} (h:aP P n s q) (D:List (Int × Int)):aP P n s { q with D:=D } :=⟨h.c,h.now,h.own,h.cnt,h.pl,h.len⟩
theorem aP.po {P:Int→List Nat→Prop} {n:Nat} {s q:bA} (h:aP P n s q) (x:gA):aP P n s { q with po:=x } :=⟨h.c,h.now,h.own,h.cnt,h.pl,h.len⟩
theorem aP.le {P:Int→List Nat→Prop} {n m:Nat} {s q:bA} (h:aP P n s q) (hm:n≤m:=by omega):aP P m s q:=⟨h.c,h.now,h.own,by have:=h.cnt;omega,h.pl,by have:=h.len;omega⟩
attribute [local irreducible] ay aQ aH aY a6 aW aK aV num be over nb rowOf bD
theorem c224g {P:Int→List Nat→Prop} {side next:Nat} {tok:Int} (hsd:side<2) (hi:next<4294967296) (H:SH w0 w L) [q:aC (Ga p) L s R] [hb:aD R v bs] (hlen:bs.length≤100000)
  (k1: ∀ Y fr a c b y,aP P 0 s Y→bR Y=bR s→(fr=[]∨eE 2048 bs fr∨ ∃ pk,eE 2054 pk fr)→fr.length≤1514→SH w0 y (Ga p Y::By (sl a c fr) fr::R)→K (.tuple #[oU (sl a c fr) b,.nilIface]) y)
  (k2: ∀ Y b y,aP P 0 s Y→bR Y=bR s→SH w0 y (Ga p Y::Ex b::R)→K (.tuple #[oU (sN) false,bu b]) y):D 224 [pt (gZ s side),v,C3 next,C5 tok,C4 s.now] w K:=by
 obtain ⟨J,H⟩:=SH.ga H p
 have st0: ∀ l,aP P 0 s { s with bh:=l } :=fun l=>⟨rfl,rfl,rfl,by show s.na.t.count≤s.na.t.count+((0:Nat):Int);omega,fun x h=> .inl h,Nat.le_refl _⟩
 have st1: ∀ l,aP P 0 s { s with bl:=l } :=fun l=>⟨rfl,rfl,rfl,by show s.na.t.count≤s.na.t.count+((0:Nat):Int);omega,fun x h=> .inl h,Nat.le_refl _⟩
 rcases (by omega:side=0∨side=1) with rfl | rfl
 ·refine c224 (p:=s.l0) (s:=s.bh) (v:=v) hi H hlen (fun l fr a c b y hl hf h3 H=>?_) (fun l b y hl H=>?_)
  ·exact k1 { s with bh:=l } fr a c b y (st0 l) rfl hf h3 (SH.aU (s:= { s with bh:=l }) H.ae ⟨J.1,J.2,J.3⟩)
  ·exact k2 { s with bh:=l } b y (st0 l) rfl (SH.aU (s:= { s with bh:=l }) H.ae ⟨J.1,J.2,J.3⟩)
 ·refine c224 (p:=s.l1) (s:=s.bl) (v:=v) hi H hlen (fun l fr a c b y hl hf h3 H=>?_) (fun l b y hl H=>?_)
  ·exact k1 { s with bl:=l } fr a c b y (st1 l) rfl hf h3 (SH.aU (s:= { s with bl:=l }) H.ae ⟨J.1,J.2,J.3⟩)
  ·exact k2 { s with bl:=l } b y (st1 l) rfl (SH.aU (s:= { s with bl:=l }) H.ae ⟨J.1,J.2,J.3⟩)
def dN:Option Nat→Value
 | none=> .nilIface
 | some b=>bu b
def rv:Option Nat→ao
 | none=>Fact True
 | some b=>Ex b
theorem c169 {P:Int→List Nat→Prop} {side next tos id:Nat} {keep:Bool} {ttl proto fr to:Nat} (J:side<2) (hi:next<4294967296) (hB:bI tos id ttl proto fr to) (hpl:s.pl.length≤100000)
  (hA: ∀ f,(∃ pk,eE 2054 pk f)→P side f) (hI: ∀ f,f.length≤1514→eE 2048 (bW tos id keep ttl proto fr to bs.length++bs) f→P side f)
  (y:SH w0 w L) [q:aC (Ga p) L s R] [hE:di R] [hb:aD R v bs] (hlen:bs.length≤100000)
  (k: ∀ s' w',aP P 1 s s'→SH w0 w' (Ga p s'::R)→K (.tuple #[]) w'):D 169 [pt p,C5 side,ba tos id keep ttl proto fr to v,C3 next] w K:=by
 have y:=y.at (Ga p)
 have hh:=lk tos id keep ttl proto fr to bs.length
 obtain ⟨ad,c,rfl,hcap,hB1,hl0⟩:=y.enter (v:=v)
 refine s169 rfl<|ac<|y.az (DI tos id keep ttl proto fr to (sl ad c bs)) fun b_6 _ y=>ac<|y.Da (b:=b_6) rfl<|c223 y ‹_› ‹_› (fun h_15 a_15 c_15 w_15 y=>?_) (fun h_15 b_15 w_15 y=>?_)
 ·refine aq ⟨_,bg (neg:=true) rfl,Dt [0,1,3,8,9,19] [pt p,C5 side,C3 next,sl a_15 c_15 (bW tos id keep ttl proto fr to bs.length++bs),.nilIface,.bool !true] fun g=>ak (ac ?_)⟩
  obtain ⟨hs,y⟩:=SH.ga y p
  refine y.C9 (b:=p) rfl<|Db<|c102 (v:=sl a_15 c_15 (bW tos id keep ttl proto fr to bs.length++bs)) y (by (simp<;>omega)) (fun h_31 j_31 Y w_31 y=>?_) (fun h_31 w_31 y=>?_) (fun _ w_31 y=>?_)
  ·refine aq<|Dt [0,1,3,8,9,10,11] [pt p,C5 side,C3 next,sl a_15 c_15 (bW tos id keep ttl proto fr to bs.length++bs),.nilIface,C5 j_31,C5 0] fun g=>Dh<|ak ?_
   have y:SH w0 w_31 (Ga p { s with po:=Y } ::By (sl a_15 c_15 (bW tos id keep ttl proto fr to bs.length++bs)) (bW tos id keep ttl proto fr to bs.length++bs)::R):=SH.aU (s:= { s with po:=Y }) y.ae ⟨hs.1,hs.2,hs.3⟩
   have hst:aP P 0 s { s with po:=Y } :=(aP.refl s).po _
   have hcs:bR { s with po:=Y } =bR s:=rfl
   refine bt (9::12::List.range' 38 17) rfl [0,1,9,10,12] (fun (x:bA × (Option Addr × Nat × List Nat) × Bool × Option Nat × Nat)=>[pt p,C5 side,dN x.2.2.2.1,C5 j_31,pt x.2.2.2.2]) (fun x w'=>(aP P 0 s x.1∧bR x.1=bR s∧(x.2.1.2.2=[]∨eE 2048 (bW tos id keep ttl proto fr to bs.length++bs) x.2.1.2.2∨ ∃ pk,eE 2054 pk x.2.1.2.2)∧x.2.1.2.2.length≤1514)∧SH w0 w' (Cl x.2.2.2.2 401 [sl x.2.1.1 x.2.1.2.1 x.2.1.2.2,.bool x.2.2.1]::Ga p x.1::By (sl x.2.1.1 x.2.1.2.1 x.2.1.2.2) x.2.1.2.2::rv x.2.2.2.1::R)) ?_ ?_
   ·obtain ⟨hs1,y⟩:=SH.ga y p
    have hHl:(bW tos id keep ttl proto fr to bs.length++bs).length≤100000:=by rw [List.length_append,hh];omega
    refine jS<|have y:=y.drew;⟨_,bL (n:=side) Tryz.underlying82 (by kernel_rfl) J rfl rfl rfl,⟨_,SH.cD (s:=s) J y,y.C9 (b:=p) rfl (⟨?_,?_⟩)⟩⟩
    ·have y:SH w0 _ (Ga p { s with po:=Y } ::By (sl a_15 c_15 (bW tos id keep ttl proto fr to bs.length++bs)) (bW tos id keep ttl proto fr to bs.length++bs)::R):=SH.aU (s:= { s with po:=Y }) y hs1
     refine c224g (P:=P) (p:=p) (s:= { s with po:=Y }) (side:=side) (v:=sl a_15 c_15 (bW tos id keep ttl proto fr to bs.length++bs)) J hi y hHl (fun s2 fr2 a2 c2 b2 w2 g1 g2 g3 g4 y=>?_) (fun s2 b2 w2 g1 g2 y=>?_)
     ·obtain ⟨hs2,y⟩:=SH.ga y p
      rw [g2] at y
      refine ⟨⟨y.ld (b:=p) rfl,SH.cD (s:=s) J y,bL (n:=side) Tryz.underlying82 (by kernel_rfl) J rfl rfl rfl,trivial⟩,bV [0,1,9,10,52] [pt p,C5 side,.nilIface,C5 j_31,.tuple #[.agg #[sl a2 c2 fr2,.bool b2],.nilIface]] rfl fun g=>y.an fun H w_12 y=>⟨⟨y.ld (b:=p) rfl,SH.cD (s:=s) J y,bL (n:=side) Tryz.underlying82 (by kernel_rfl) J rfl rfl rfl,trivial⟩,y.aj (b:=H) fun w_70 y=>⟨⟨y.ld (b:=p) rfl,SH.cD (s:=s) J y,bL (n:=side) Tryz.underlying82 (by kernel_rfl) J rfl rfl rfl,trivial⟩,⟨(s2,(a2,c2,fr2),b2,none,H),rfl,⟨(hst.trans g1).le,g2,g3,g4⟩,?_⟩⟩⟩⟩
      have h9:SH w0 w_70 (Cl p 89 (bR s2)::Mt cy s2.db s2.D::fR s2 (Cl H 401 [sl a2 c2 fr2,.bool b2]::By (sl a2 c2 fr2) fr2::R)):=by
       rw [g2]
       exact y.ae
      have h8:=(SH.aU h9 hs2).fact trivial
      show SH w0 w_70 (Cl H 401 [sl a2 c2 fr2,.bool b2]::Ga p s2::By (sl a2 c2 fr2) fr2::Fact True::R)
      exact h8.ae
     ·obtain ⟨hs2,y⟩:=SH.ga y p
      rw [g2] at y
      refine ⟨⟨y.ld (b:=p) rfl,SH.cD (s:=s) J y,bL (n:=side) Tryz.underlying82 (by kernel_rfl) J rfl rfl rfl,trivial⟩,bV [0,1,9,10,52] [pt p,C5 side,.nilIface,C5 j_31,.tuple #[.agg #[sN,.bool false],.iface 165 (pt b2)]] rfl fun g=>y.an fun H w_12 y=>⟨⟨y.ld (b:=p) rfl,SH.cD (s:=s) J y,bL (n:=side) Tryz.underlying82 (by kernel_rfl) J rfl rfl rfl,trivial⟩,y.aj (b:=H) fun w_70 y=>⟨⟨y.ld (b:=p) rfl,SH.cD (s:=s) J y,bL (n:=side) Tryz.underlying82 (by kernel_rfl) J rfl rfl rfl,trivial⟩,⟨(s2,(none,0,[]),false,some b2,H),rfl,⟨(hst.trans g1).le,g2,.inl rfl,Nat.zero_le _⟩,?_⟩⟩⟩⟩
      have h9:SH w0 w_70 (Cl p 89 (bR s2)::Mt cy s2.db s2.D::fR s2 (Cl H 401 [sN,.bool false]::Ex b2::R)):=by
       rw [g2]
       exact y.ae
      have h8:=SH.cH (SH.aU h9 hs2)
      show SH w0 w_70 (Cl H 401 [sN,.bool false]::Ga p s2::By (sN) []::Ex b2::R)
      exact h8.ae
    ·refine y.an fun H w_12 y=>⟨⟨y.ld (b:=p) rfl,SH.cD (s:=s) J y,bL (n:=side) Tryz.underlying82 (by kernel_rfl) J rfl rfl rfl,trivial⟩,?_⟩
     have y:SH w0 w_12 (Ga p { s with po:=Y } ::By (sl a_15 c_15 (bW tos id keep ttl proto fr to bs.length++bs)) (bW tos id keep ttl proto fr to bs.length++bs)::Cl H 401 [sN,.bool false]::R):=SH.aU (s:= { s with po:=Y }) y.ae hs1
     refine c224g (P:=P) (p:=p) (s:= { s with po:=Y }) (side:=side) (v:=sl a_15 c_15 (bW tos id keep ttl proto fr to bs.length++bs)) J hi y hHl (fun s2 fr2 a2 c2 b2 w2 g1 g2 g3 g4 y=>?_) (fun s2 b2 w2 g1 g2 y=>?_)
     ·obtain ⟨hs2,y⟩:=SH.ga y p
      rw [g2] at y
      refine ⟨⟨y.ld (b:=p) rfl,SH.cD (s:=s) J y,bL (n:=side) Tryz.underlying82 (by kernel_rfl) J rfl rfl rfl,trivial⟩,y.aj (b:=H) fun w_70 y=>⟨⟨y.ld (b:=p) rfl,SH.cD (s:=s) J y,bL (n:=side) Tryz.underlying82 (by kernel_rfl) J rfl rfl rfl,trivial⟩,⟨(s2,(a2,c2,fr2),b2,none,H),rfl,⟨(hst.trans g1).le,g2,g3,g4⟩,?_⟩⟩⟩
      have h9:SH w0 w_70 (Cl p 89 (bR s2)::Mt cy s2.db s2.D::fR s2 (Cl H 401 [sl a2 c2 fr2,.bool b2]::By (sl a2 c2 fr2) fr2::R)):=by
       rw [g2]
       exact y.ae
      have h8:=(SH.aU h9 hs2).fact trivial
      show SH w0 w_70 (Cl H 401 [sl a2 c2 fr2,.bool b2]::Ga p s2::By (sl a2 c2 fr2) fr2::Fact True::R)
      exact h8.ae
     ·obtain ⟨hs2,y⟩:=SH.ga y p
      rw [g2] at y
      refine ⟨⟨y.ld (b:=p) rfl,SH.cD (s:=s) J y,bL (n:=side) Tryz.underlying82 (by kernel_rfl) J rfl rfl rfl,trivial⟩,y.aj (b:=H) fun w_70 y=>⟨⟨y.ld (b:=p) rfl,SH.cD (s:=s) J y,bL (n:=side) Tryz.underlying82 (by kernel_rfl) J rfl rfl rfl,trivial⟩,⟨(s2,(none,0,[]),false,some b2,H),rfl,⟨(hst.trans g1).le,g2,.inl rfl,Nat.zero_le _⟩,?_⟩⟩⟩
      have h9:SH w0 w_70 (Cl p 89 (bR s2)::Mt cy s2.db s2.D::fR s2 (Cl H 401 [sN,.bool false]::Ex b2::R)):=by
       rw [g2]
       exact y.ae
      have h8:=SH.cH (SH.aU h9 hs2)
      show SH w0 w_70 (Cl H 401 [sN,.bool false]::Ga p s2::By (sN) []::Ex b2::R)
      exact h8.ae
   rintro g ⟨s2,⟨a2,c2,fr2⟩,b2,er,H⟩ w6 ⟨⟨g1,g2,g3,g4⟩,y⟩
   simp only at g1 g2 g3 g4 y
   refine Dv [0,1,9,10,12] [pt p,C5 side,dN er,C5 j_31,pt H] fun g=>?_
   have hpl2:s2.pl.length≤100000:=by have:=g1.len;omega
   refine bt (List.range' 55 11) rfl [0,1,9,12] (fun (_:bA)=>[pt p,C5 side,dN er,pt H]) (fun x w'=>(aP P 0 s x∧x.pl.length≤100000)∧SH w0 w' (Cl H 401 [sl a2 c2 fr2,.bool b2]::Ga p x::By (sl a2 c2 fr2) fr2::rv er::R)) ?_ ?_
   ·refine ac<|y.C9 (b:=H) rfl ?_
    cases b2
    ·obtain ⟨hs2,y⟩:=SH.ga y p
     exact Dj<|ai<|au<|y.C9 (b:=p) rfl<|Db<|c70 y (fun s'_65 _ _ y=>⟨{ s2 with po:=s'_65 },rfl,⟨g1.po _,hpl2⟩,(SH.aU (p:=p) (s:= { s2 with po:=s'_65 }) (R:=Cl H 401 [sl a2 c2 fr2,.bool false]::By (sl a2 c2 fr2) fr2::rv er::R) y.ae ⟨hs2.1,hs2.2,hs2.3⟩).ae⟩)
    ·exact Dj<|ai<|ak ⟨s2,rfl,⟨g1,hpl2⟩,y.ae⟩
   rintro g s3 w6 ⟨⟨e1,e2⟩,y⟩
   refine Dv [0,1,9,12] [pt p,C5 side,dN er,pt H] fun g=>?_
   cases er with
   | none=>
    have y:SH w0 w6 (Cl H 401 [sl a2 c2 fr2,.bool b2]::Ga p s3::By (sl a2 c2 fr2) fr2::R):=y.ae
    refine Dv [0,1,9,12] [pt p,C5 side,.nilIface,pt H] fun g=>aM<|ac ⟨_,bg (neg:=true) rfl,ai (ac (y.C9 (b:=H) rfl (ap (fun h_76=>?_) (fun h_76=>?_))))⟩
    ·refine ai<|au<|y.C9 (b:=H) rfl<|Dt [77,78,80] [pt p,C5 side,sl a2 c2 fr2] fun g=>?_
     have hf:P side fr2:=by
      rcases g3 with h | h | h
      ·rw [h] at h_76;simp at h_76
      ·exact hI _ g4 h
      ·exact hA _ h
     exact c65 (P:=P) (s:=s3) (v:=sl a2 c2 fr2) J hf e2 y (by omega) (fun s4 _ h4 y=>k s4 _ ((e1.trans h4).le) y.ae)
    ·exact ai<|ak<|k s3 _ e1.le y.ae
   | some eb=>
    have y:SH w0 w6 (Ex eb::Cl H 401 [sl a2 c2 fr2,.bool b2]::Ga p s3::R):=SH.ae (L':=Ex eb::Cl H 401 [sl a2 c2 fr2,.bool b2]::Ga p s3::R) (L:=Cl H 401 [sl a2 c2 fr2,.bool b2]::Ga p s3::By (sl a2 c2 fr2) fr2::Ex eb::R) y
    exact Dv [0,1,9,12] [pt p,C5 side,bu eb,pt H] fun g=>aM<|ac ⟨_,bH (neg:=true) rfl,ai (au (c64 y (fun r_71 _ _ y=>k { s3 with D:=aF s3.D r_71 (IntKind.i64.wrap (bZ s3.D r_71+1)) } _ ((e1.drop _).le) y.ae)))⟩
  ·refine aq<|Dt [0,1,3,8,9,10,11] [pt p,C5 side,C3 next,sl a_15 c_15 (bW tos id keep ttl proto fr to bs.length++bs),.nilIface,C5 (-1),C5 11] fun g=>Di<|ac ?_
   have y:SH w0 w_31 (Ga p s::R):=SH.aU y.ae hs
   exact c62 (by decide) y (fun w_37 y=>ah (k { s with D:=aF s.D 13 (IntKind.i64.wrap (bZ s.D 13+1)) } _ ((aP.refl s).drop _) y))
  ·refine aq<|Dt [0,1,3,8,9,10,11] [pt p,C5 side,C3 next,sl a_15 c_15 (bW tos id keep ttl proto fr to bs.length++bs),.nilIface,C5 (-1),C5 18] fun g=>Di<|ac ?_
   have y:SH w0 w_31 (Ga p s::R):=SH.aU y.ae hs
   exact c62 (by decide) y (fun w_37 y=>ah (k { s with D:=aF s.D 13 (IntKind.i64.wrap (bZ s.D 13+1)) } _ ((aP.refl s).drop _) y))
 ·exact aq ⟨_,bH (neg:=true) rfl,Dt [0,1,3,8,9,19] [pt p,C5 side,C3 next,sN,.iface 165 (pt b_15),.bool true] fun g=>ac (c64 y (fun r_22 _ _ y=>ah (k { s with D:=aF s.D r_22 (IntKind.i64.wrap (bZ s.D r_22+1)) } _ ((aP.refl s).drop _) y.ae)))⟩
end
end
end Go.Proofs.YtlhpilgmeededaaGreatDoor
