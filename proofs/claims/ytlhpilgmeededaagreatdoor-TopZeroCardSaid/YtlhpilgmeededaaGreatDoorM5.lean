/- Part 5 of what the law leans on: GateB, GateL, GateC, GateT, GateW, GateR, GateD, GateO, NewR, GateN, TopA, TopC, HeadL, TopZ, TextK, TextU, TextB, TextC, TextP, TextJ, TextL, TextR, TextS, RangeD, RangeI, RangeR, Parse, ParseX, Plain, Play -/
import Derived.Test.YtlhpilgmeededaaGreatDoorM4
import Derived.Lib.AppendStr
import Derived.Lib.UnsafeStr
import Derived.Lib.Builder
import Derived.Laws.IdiomStrings
import Derived.Lib.MakeNoZero
import Derived.RangeFuncIn
import Derived.RangeFuncCalls
import Derived.TacticsIn
import Derived.RangeFuncNested
import Derived.RangeFuncBound
import Derived.RangeFuncLeaves
import Derived.RangeFuncBox
import Derived.Shelf.Abstract
import Derived.Shelf.RegionOpen
import Derived.WalkKit
import Derived.OwnWalkIn
import Derived.TacticsInMore
import Derived.LoopNIn
import Derived.LoopIn
import Derived.RegionIn
import Derived.RangeFuncFrom
set_option linter.unusedVariables false
set_option linter.unusedSimpArgs false
namespace Go.Proofs.YtlhpilgmeededaaGreatDoor
open Go Go.Den
set_option maxHeartbeats 4000000
set_option maxRecDepth 8000
section
section
variable {w0 w:World} {L R R2 R3:List ao} {K:Value→World→Prop} {p:Nat} {s:bA} {v:Value} {bs:List Nat}
attribute [local irreducible] ay aQ aH aY a6 aW aK aV num be over nb rowOf bD ct
theorem c162 {P:Int→List Nat→Prop} {side tos id:Nat} {keep:Bool} {ttl proto fr to:Nat} (hsd:side<2) (hB:bI tos id ttl proto fr to) (hpl:s.pl.length≤100000) (hP: ∀ f,P side f)
  (y:SH w0 w L) [q:aC (Ga p) L s R] [hE:di R] [hb:aD R v bs] (hlen:bs.length≤100000)
  (k: ∀ s' w',aP P 1 s s'→SH w0 w' (Ga p s'::R)→K (.tuple #[]) w'):D 162 [pt p,C5 side,ba tos id keep ttl proto fr to v] w K:=by
 obtain ⟨hs,y⟩:=SH.ga y p
 obtain ⟨m1,m2,m3⟩:=hs.1.map
 have hB2:=hB
 obtain ⟨_,_,_,hp1,hp2,J⟩:=hB2
 obtain ⟨ad,c,rfl,hcap,hB1,hl0⟩:=y.enter (v:=v)
 refine s162 rfl<|ac<|y.az (DI tos id keep ttl proto fr to (sl ad c bs)) fun H _ y=>ac<|y.C9 (b:=H) rfl<|pa 1 rfl ?_
 refine bt (6::List.range' 9 19) rfl [0,1,5,6] (fun (x:Nat)=>[pt p,C5 side,pt H,C3 x]) (fun x w'=>x<4294967296∧SH w0 w' (Ga p s::Cl H 46 (DI tos id keep ttl proto fr to (sl ad c bs))::R)) ?_ ?_
 ·refine ac<|ap (fun Y=>?_) (fun Y=>?_)
  ·refine ⟨_,y.ar (b:=p) [C3 s.c.i2,C5 s.c.b2],c51 y (fun h_19 w_19 y=>?_) (fun h_19 w_19 y=>?_)⟩
   ·exact Dj<|ai<|ak ⟨to,rfl,J,(SH.aU (p:=p) (R:=Cl H 46 (DI tos id keep ttl proto fr to (sl ad c bs))::R) y.ae hs)⟩
   ·exact Dj<|ai<|au<|y.C9 (b:=p) rfl ⟨s.c.rt,rfl,m3,(SH.aU (p:=p) (R:=Cl H 46 (DI tos id keep ttl proto fr to (sl ad c bs))::R) y.ae hs)⟩
  ·exact pa 11 rfl<|ai<|ak ⟨to,rfl,J,(SH.aU (p:=p) (R:=Cl H 46 (DI tos id keep ttl proto fr to (sl ad c bs))::R) y.ae hs)⟩
 rintro g nx w6 ⟨hnx,y⟩
 refine aq<|ap (fun h_29=>?_) (fun h_29=>?_)
 ·exact ac<|c62 (by omega) y (fun _ y=>ah (k { s with D:=aF s.D 7 (IntKind.i64.wrap (bZ s.D 7+1)) } _ ((aP.refl s).drop _) y.ae))
 ·exact ak<|au<|y.Da (b:=H) rfl<|c169 (P:=P) (v:=sl ad c bs) hsd hnx hB hpl (fun f _=>hP f) (fun f _ _=>hP f) y hlen (fun s2 _ h2 y=>k s2 _ h2 y.ae)
structure ry where
 b:Nat
 t:Bool
 own:Nat
 a:Option Addr
 c:Nat
 qs:List Nat
def vR (x:ry) (fr:Nat):List Value:=if x.t then [C1 (0:Nat),C2 (0:Nat),.bool false,C1 (64:Nat),C1 (1:Nat),C3 x.own,C3 fr,sl x.a x.c x.qs] else [C1 (0:Nat),C2 (0:Nat),.bool false,C1 (0:Nat),C1 (0:Nat),C3 (0:Nat),C3 (0:Nat),sN]
def vT (x:ry):ao:=if x.t then By (sl x.a x.c x.qs) x.qs else Fact True
theorem c115 {P:Int→List Nat→Prop} {side kind code tos id:Nat} {keep:Bool} {ttl proto fr to:Nat} (hsd:side<2) (hk:kind<256∧code<256) (hB:bI tos id ttl proto fr to) (hpl:s.pl.length≤100000) (hP: ∀ f,P side f)
  (H:SH w0 w L) [q:aC (Ga p) L s R] [hE:di R] [hb:aD R v bs] (hlen:bs.length≤65515)
  (k: ∀ s' w',aP P 1 s s'→SH w0 w' (Ga p s'::R)→K (.tuple #[]) w'):D 115 [pt p,.int .i64 side,.int .u8 kind,.int .u8 code,ba tos id keep ttl proto fr to v] w K:=by
 obtain ⟨hs,H⟩:=SH.ga H p
 obtain ⟨m1,m2,m3⟩:=hs.1.map
 have hB2:=hB
 obtain ⟨_,_,_,hp1,hp2,hp3⟩:=hB2
 obtain ⟨ad,c,rfl,hcap,hB1,hl0⟩:=H.enter (v:=v)
 refine s115 rfl<|ac<|H.az [.int .u8 tos,.int .u16 id,.bool keep,.int .u8 ttl,.int .u8 proto,.int .u32 fr,.int .u32 to,sl ad c bs] fun J _ H=>?_
 refine bt ([10,11,12]++List.range' 13 13) rfl [0,1,10,11] (fun (x:ry)=>[pt p,.int .i64 side,pt x.b,.bool x.t]) (fun x w'=>(x.own<4294967296∧x.qs.length≤100000)∧SH w0 w' (Cl x.b 46 (vR x fr)::Ga p s::vT x::R)) ?_ ?_
 ·refine jS<|have H:=H.drew;⟨_,H.ar (b:=p) [.int .u32 s.c.i1,.int .i64 s.c.b1,.int .u32 s.c.i2,.int .i64 s.c.b2,.int .u32 s.c.rt],H.Da (b:=J) rfl ?_⟩
  have hz: ∀ z:Int,(((side:Int)=0→z=s.c.i1)∧((side:Int)=1→z=s.c.i2))→ ∃ n:Nat,n<4294967296∧z=n:=fun z h=>by
   rcases (by omega:side=0∨side=1) with rfl | rfl
   ·exact ⟨s.c.i1,by omega,h.1 rfl⟩
   ·exact ⟨s.c.i2,by omega,h.2 rfl⟩
  refine ⟨?_,?_⟩
  ·refine c49 H (fun z_19 h_191 w_19 H=>?_)
   obtain ⟨n,hn,rfl⟩:=hz _ h_191
   refine ⟨⟨⟨_,H.af (b:=J) rfl,rfl⟩,⟨⟨_,H.ar (b:=p) _,rfl⟩,trivial⟩⟩,⟨?_,?_⟩⟩
   ·refine c165 (v:=sl ad c bs) hk hn hB H hlen (fun qs Y c2 w2 hq H=>?_) (fun w2 H=>?_)
    ·refine ⟨⟨⟨_,H.af (b:=J) rfl,rfl⟩,⟨⟨_,H.ar (b:=p) _,rfl⟩,trivial⟩⟩,H.an fun y w_10 H=>⟨⟨⟨_,H.af (b:=J) rfl,rfl⟩,⟨⟨_,H.ar (b:=p) _,rfl⟩,trivial⟩⟩,H.aj (b:=y) fun w_24 H=>⟨⟨⟨_,H.af (b:=J) rfl,rfl⟩,⟨⟨_,H.ar (b:=p) _,rfl⟩,trivial⟩⟩,⟨⟨y,true,n,Y,c2,qs⟩,rfl,⟨hn,hq⟩,?_⟩⟩⟩⟩
     have H:SH w0 _ (Ga p s::Cl y 46 [.int .u8 (0:Nat),.int .u16 (0:Nat),.bool false,.int .u8 (64:Nat),.int .u8 (1:Nat),.int .u32 n,.int .u32 fr,sl Y c2 qs]::By (sl Y c2 qs) qs::R):=SH.aU (p:=p) (s:=s) (R:=Cl y 46 [.int .u8 (0:Nat),.int .u16 (0:Nat),.bool false,.int .u8 (64:Nat),.int .u8 (1:Nat),.int .u32 n,.int .u32 fr,sl Y c2 qs]::By (sl Y c2 qs) qs::R) H.ae hs
     show SH w0 _ (Cl y 46 [.int .u8 (0:Nat),.int .u16 (0:Nat),.bool false,.int .u8 (64:Nat),.int .u8 (1:Nat),.int .u32 n,.int .u32 fr,sl Y c2 qs]::Ga p s::By (sl Y c2 qs) qs::R)
     exact H.ae
    ·refine ⟨⟨⟨_,H.af (b:=J) rfl,rfl⟩,⟨⟨_,H.ar (b:=p) _,rfl⟩,trivial⟩⟩,H.an fun y w_10 H=>⟨⟨⟨_,H.af (b:=J) rfl,rfl⟩,⟨⟨_,H.ar (b:=p) _,rfl⟩,trivial⟩⟩,H.aj (b:=y) fun w_24 H=>⟨⟨⟨_,H.af (b:=J) rfl,rfl⟩,⟨⟨_,H.ar (b:=p) _,rfl⟩,trivial⟩⟩,⟨⟨y,false,0,none,0,[]⟩,rfl,⟨show 0<4294967296 by decide,Nat.zero_le _⟩,?_⟩⟩⟩⟩
     have H:SH w0 _ (Fact True::Ga p s::Cl y 46 [.int .u8 (0:Nat),.int .u16 (0:Nat),.bool false,.int .u8 (0:Nat),.int .u8 (0:Nat),.int .u32 (0:Nat),.int .u32 (0:Nat),.slice none 0 0]::R):=(SH.aU (p:=p) (s:=s) (R:=Cl y 46 [.int .u8 (0:Nat),.int .u16 (0:Nat),.bool false,.int .u8 (0:Nat),.int .u8 (0:Nat),.int .u32 (0:Nat),.int .u32 (0:Nat),.slice none 0 0]::R) H.ae hs).fact trivial
     show SH w0 _ (Cl y 46 [.int .u8 (0:Nat),.int .u16 (0:Nat),.bool false,.int .u8 (0:Nat),.int .u8 (0:Nat),.int .u32 (0:Nat),.int .u32 (0:Nat),.slice none 0 0]::Ga p s::Fact True::R)
     exact H.ae
   ·refine H.an fun y w_10 H=>⟨⟨⟨_,H.af (b:=J) rfl,rfl⟩,⟨⟨_,H.ar (b:=p) _,rfl⟩,trivial⟩⟩,c165 (v:=sl ad c bs) hk hn hB H hlen (fun qs Y c2 w2 hq H=>?_) (fun w2 H=>?_)⟩
    ·refine ⟨⟨⟨_,H.af (b:=J) rfl,rfl⟩,⟨⟨_,H.ar (b:=p) _,rfl⟩,trivial⟩⟩,H.aj (b:=y) fun w_24 H=>⟨⟨⟨_,H.af (b:=J) rfl,rfl⟩,⟨⟨_,H.ar (b:=p) _,rfl⟩,trivial⟩⟩,⟨⟨y,true,n,Y,c2,qs⟩,rfl,⟨hn,hq⟩,?_⟩⟩⟩
     have H:SH w0 _ (Ga p s::Cl y 46 [.int .u8 (0:Nat),.int .u16 (0:Nat),.bool false,.int .u8 (64:Nat),.int .u8 (1:Nat),.int .u32 n,.int .u32 fr,sl Y c2 qs]::By (sl Y c2 qs) qs::R):=SH.aU (p:=p) (s:=s) (R:=Cl y 46 [.int .u8 (0:Nat),.int .u16 (0:Nat),.bool false,.int .u8 (64:Nat),.int .u8 (1:Nat),.int .u32 n,.int .u32 fr,sl Y c2 qs]::By (sl Y c2 qs) qs::R) H.ae hs
     show SH w0 _ (Cl y 46 [.int .u8 (0:Nat),.int .u16 (0:Nat),.bool false,.int .u8 (64:Nat),.int .u8 (1:Nat),.int .u32 n,.int .u32 fr,sl Y c2 qs]::Ga p s::By (sl Y c2 qs) qs::R)
     exact H.ae
    ·refine ⟨⟨⟨_,H.af (b:=J) rfl,rfl⟩,⟨⟨_,H.ar (b:=p) _,rfl⟩,trivial⟩⟩,H.aj (b:=y) fun w_24 H=>⟨⟨⟨_,H.af (b:=J) rfl,rfl⟩,⟨⟨_,H.ar (b:=p) _,rfl⟩,trivial⟩⟩,⟨⟨y,false,0,none,0,[]⟩,rfl,⟨show 0<4294967296 by decide,Nat.zero_le _⟩,?_⟩⟩⟩
     have H:SH w0 _ (Fact True::Ga p s::Cl y 46 [.int .u8 (0:Nat),.int .u16 (0:Nat),.bool false,.int .u8 (0:Nat),.int .u8 (0:Nat),.int .u32 (0:Nat),.int .u32 (0:Nat),.slice none 0 0]::R):=(SH.aU (p:=p) (s:=s) (R:=Cl y 46 [.int .u8 (0:Nat),.int .u16 (0:Nat),.bool false,.int .u8 (0:Nat),.int .u8 (0:Nat),.int .u32 (0:Nat),.int .u32 (0:Nat),.slice none 0 0]::R) H.ae hs).fact trivial
     show SH w0 _ (Cl y 46 [.int .u8 (0:Nat),.int .u16 (0:Nat),.bool false,.int .u8 (0:Nat),.int .u8 (0:Nat),.int .u32 (0:Nat),.int .u32 (0:Nat),.slice none 0 0]::Ga p s::Fact True::R)
     exact H.ae
  ·refine H.an fun y w_10 H=>⟨⟨⟨_,H.af (b:=J) rfl,rfl⟩,⟨⟨_,H.ar (b:=p) _,rfl⟩,trivial⟩⟩,c49 H (fun z_19 h_191 w_19 H=>?_)⟩
   obtain ⟨n,hn,rfl⟩:=hz _ h_191
   refine ⟨⟨⟨_,H.af (b:=J) rfl,rfl⟩,⟨⟨_,H.ar (b:=p) _,rfl⟩,trivial⟩⟩,c165 (v:=sl ad c bs) hk hn hB H hlen (fun qs Y c2 w2 hq H=>?_) (fun w2 H=>?_)⟩
   ·refine ⟨⟨⟨_,H.af (b:=J) rfl,rfl⟩,⟨⟨_,H.ar (b:=p) _,rfl⟩,trivial⟩⟩,H.aj (b:=y) fun w_24 H=>⟨⟨⟨_,H.af (b:=J) rfl,rfl⟩,⟨⟨_,H.ar (b:=p) _,rfl⟩,trivial⟩⟩,⟨⟨y,true,n,Y,c2,qs⟩,rfl,⟨hn,hq⟩,?_⟩⟩⟩
    have H:SH w0 _ (Ga p s::Cl y 46 [.int .u8 (0:Nat),.int .u16 (0:Nat),.bool false,.int .u8 (64:Nat),.int .u8 (1:Nat),.int .u32 n,.int .u32 fr,sl Y c2 qs]::By (sl Y c2 qs) qs::R):=SH.aU (p:=p) (s:=s) (R:=Cl y 46 [.int .u8 (0:Nat),.int .u16 (0:Nat),.bool false,.int .u8 (64:Nat),.int .u8 (1:Nat),.int .u32 n,.int .u32 fr,sl Y c2 qs]::By (sl Y c2 qs) qs::R) H.ae hs
    show SH w0 _ (Cl y 46 [.int .u8 (0:Nat),.int .u16 (0:Nat),.bool false,.int .u8 (64:Nat),.int .u8 (1:Nat),.int .u32 n,.int .u32 fr,sl Y c2 qs]::Ga p s::By (sl Y c2 qs) qs::R)
    exact H.ae
   ·refine ⟨⟨⟨_,H.af (b:=J) rfl,rfl⟩,⟨⟨_,H.ar (b:=p) _,rfl⟩,trivial⟩⟩,H.aj (b:=y) fun w_24 H=>⟨⟨⟨_,H.af (b:=J) rfl,rfl⟩,⟨⟨_,H.ar (b:=p) _,rfl⟩,trivial⟩⟩,⟨⟨y,false,0,none,0,[]⟩,rfl,⟨show 0<4294967296 by decide,Nat.zero_le _⟩,?_⟩⟩⟩
    have H:SH w0 _ (Fact True::Ga p s::Cl y 46 [.int .u8 (0:Nat),.int .u16 (0:Nat),.bool false,.int .u8 (0:Nat),.int .u8 (0:Nat),.int .u32 (0:Nat),.int .u32 (0:Nat),.slice none 0 0]::R):=(SH.aU (p:=p) (s:=s) (R:=Cl y 46 [.int .u8 (0:Nat),.int .u16 (0:Nat),.bool false,.int .u8 (0:Nat),.int .u8 (0:Nat),.int .u32 (0:Nat),.int .u32 (0:Nat),.slice none 0 0]::R) H.ae hs).fact trivial
    show SH w0 _ (Cl y 46 [.int .u8 (0:Nat),.int .u16 (0:Nat),.bool false,.int .u8 (0:Nat),.int .u8 (0:Nat),.int .u32 (0:Nat),.int .u32 (0:Nat),.slice none 0 0]::Ga p s::Fact True::R)
    exact H.ae
 rintro g ⟨y,t,n,Y,c2,qs⟩ w6 ⟨⟨hn,hq⟩,H⟩
 simp only at hn hq H
 refine ac ?_
 cases t
 ·exact ai<|ak<|k s _ (aP.refl s) (SH.ae (L:=Cl y 46 (vR ⟨y,false,n,Y,c2,qs⟩ fr)::Ga p s::vT ⟨y,false,n,Y,c2,qs⟩::R) H)
 ·have H:SH w0 w6 (Cl y 46 [.int .u8 (0:Nat),.int .u16 (0:Nat),.bool false,.int .u8 (64:Nat),.int .u8 (1:Nat),.int .u32 n,.int .u32 fr,sl Y c2 qs]::Ga p s::By (sl Y c2 qs) qs::R):=H
  exact ai<|au<|H.Da (b:=y) rfl<|c162 (P:=P) (v:=sl Y c2 qs) hsd ⟨by decide,by decide,by decide,by decide,hn,hp2⟩ hpl hP H hq (fun s2 w2 h2 H=>k s2 _ h2 H.ae)
end
end
section
def vU (s:bA) (side:Nat):Nat:=if side=0 then s.r0 else s.r1
def vV (s:bA) (side:Nat):Nat:=if side=0 then s.bh.cb else s.bl.cb
section
variable {w0 w:World} {L R R2 R3:List ao} {K:Value→World→Prop} {p:Nat} {s:bA} {v:Value} {bs:List Nat}
theorem SH.BF {side:Nat} (hsd:side<2) (y:SH w0 w L) [q:aR L p 89 (bR s) R]:w.cell? ⟨p,42+side,none⟩=some (pt (vU s side)):=by
 rcases (by omega:side=0∨side=1) with rfl | rfl
 ·exact y.ld (b:=p) rfl
 ·exact y.ld (b:=p) rfl
attribute [local irreducible] ay aQ aH aY a6 aW aK aV num be over nb rowOf bD ct
theorem aP.bh {P:Int→List Nat→Prop} {n:Nat} {s q:bA} (h:aP P n s q) (x:gX):aP P n s { q with bh:=x } :=⟨h.c,h.now,h.own,h.cnt,h.pl,h.len⟩
theorem aP.bl {P:Int→List Nat→Prop} {n:Nat} {s q:bA} (h:aP P n s q) (x:gX):aP P n s { q with bl:=x } :=⟨h.c,h.now,h.own,h.cnt,h.pl,h.len⟩
theorem aP.se {P:Int→List Nat→Prop} {n:Nat} {s q:bA} (h:aP P n s q) (x:jk):aP P n s { q with se:=x } :=⟨h.c,h.now,h.own,h.cnt,h.pl,h.len⟩
theorem aP.na {P:Int→List Nat→Prop} {n:Nat} {s q:bA} (h:aP P n s q) (x:dX) (h1:x.own=q.na.own) (h2:x.t.count≤q.na.t.count+1):aP P (n+1) s { q with na:=x } :=⟨h.c,h.now,h1.trans h.own,by have:=h.cnt;show x.t.count≤s.na.t.count+((n+1:Nat):Int);omega,h.pl,by have:=h.len;show q.pl.length≤s.pl.length+(n+1);omega⟩
theorem c109g {side t0 t1 t2 t3 t4 t5:Nat} (hsd:side<2) (Y:bw (bq t0 t1 t2 t3 t4 t5)) (y:SH w0 w L) [q:aC (Ga p) L s R] [hb:aD R v bs] (hlen:bs.length≤100000)
  (k: ∀ fr a c e H,fr.length≤1514→SH w0 H (Ga p s::By (sl a c fr) fr::R)→K (.tuple #[sl a c fr,e]) H):D 109 [pt (gZ s side),v,.agg #[C1 t0,C1 t1,C1 t2,C1 t3,C1 t4,C1 t5]] w K:=by
 obtain ⟨J,y⟩:=SH.ga y p
 rcases (by omega:side=0∨side=1) with rfl | rfl
 ·refine c109 (p:=s.l0) (s:=s.bh) (v:=v) Y y hlen (fun h1 fr a c H h2 y=>?_) (fun h1 b H y=>?_)
  ·exact k fr a c _ H (by omega) (SH.aU y.ae J)
  ·exact k [] none 0 _ H (Nat.zero_le _) (SH.cH y |> fun y=>(SH.aU y.ae J))
 ·refine c109 (p:=s.l1) (s:=s.bl) (v:=v) Y y hlen (fun h1 fr a c H h2 y=>?_) (fun h1 b H y=>?_)
  ·exact k fr a c _ H (by omega) (SH.aU y.ae J)
  ·exact k [] none 0 _ H (Nat.zero_le _) (SH.cH y |> fun y=>(SH.aU y.ae J))
theorem c63g {P:Int→List Nat→Prop} {side:Nat} (hsd:side<2) (H:SH w0 w L) [q:aC (Ga p) L s R] [hb:aD R v bs]
  (k1:num bs 12 2=2048→ep bs→ ∀ a c y,SH w0 y (Ga p s::By (sl a c (bs.drop 14)) (bs.drop 14)::R)→K (.tuple #[kM (sl a c (bs.drop 14)) (sN) (sN) 0 0 0 0 0 0 0,.nilIface]) y)
  (k2:num bs 12 2≠2048→ep bs→ ∀ s' (zs:List Int) (rs:List Nat) a c a' c' (m0 m1 m2 m3 m4 m5 ip:Nat) y,aP P 0 s s'→bR s'=bR s→zs.length≤64→rs.length≤1514→bw (bq m0 m1 m2 m3 m4 m5)→ip<4294967296→SH w0 y (Ga p s'::Rd 1 (.slice a zs.length c) (ints zs)::By (sl a' c' rs) rs::R)→
   K (.tuple #[kM (sN) (sl a' c' rs) (.slice a zs.length c) m0 m1 m2 m3 m4 m5 ip,.nilIface]) y)
  (k3: ∀ b r y,(¬ep bs→r=1)→SH w0 y (Ga p s::Er b r::R)→K (.tuple #[kM (sN) (sN) (sN) 0 0 0 0 0 0 0,bu b]) y):D 63 [pt (gZ s side),v,C4 s.now] w K:=by
 obtain ⟨J,H⟩:=SH.ga H p
 have hn:s.now<18446744073709551616:=by have:=J.now;omega
 rcases (by omega:side=0∨side=1) with rfl | rfl
 ·refine c63 (p:=s.l0) (s:=s.bh) (v:=v) hn H (fun h1 Y a c y H=>?_) (fun h1 h0 l zs rs a c a' c' m0 m1 m2 m3 m4 m5 ip y hl Y h3 h4 h5 H=>?_) (fun b r y h H=>?_)
  ·exact k1 h1 Y a c y (SH.aU H.ae J)
  ·exact k2 h1 h0 { s with bh:=l } zs rs a c a' c' m0 m1 m2 m3 m4 m5 ip y ((aP.refl s).bh l) rfl Y h3 h4 h5 (SH.aU (s:= { s with bh:=l }) H.ae ⟨J.1,J.2,J.3⟩)
  ·exact k3 b r y h (SH.aU H.ae J)
 ·refine c63 (p:=s.l1) (s:=s.bl) (v:=v) hn H (fun h1 Y a c y H=>?_) (fun h1 h0 l zs rs a c a' c' m0 m1 m2 m3 m4 m5 ip y hl Y h3 h4 h5 H=>?_) (fun b r y h H=>?_)
  ·exact k1 h1 Y a c y (SH.aU H.ae J)
  ·exact k2 h1 h0 { s with bl:=l } zs rs a c a' c' m0 m1 m2 m3 m4 m5 ip y ((aP.refl s).bl l) rfl Y h3 h4 h5 (SH.aU (s:= { s with bl:=l }) H.ae ⟨J.1,J.2,J.3⟩)
  ·exact k3 b r y h (SH.aU H.ae J)
theorem c68g {side:Nat} (hsd:side<2) (y:SH w0 w L) [q:aC (Ga p) L s R] (k: ∀ H,SH w0 H (Ga p s::R)→K (pt (vV s side)) H):D 68 [pt (gZ s side)] w K:=by
 obtain ⟨J,y⟩:=SH.ga y p
 rcases (by omega:side=0∨side=1) with rfl | rfl
 ·exact c68 (p:=s.l0) (s:=s.bh) y (fun H y=>k H (SH.aU y.ae J))
 ·exact c68 (p:=s.l1) (s:=s.bl) y (fun H y=>k H (SH.aU y.ae J))
theorem c69g {P:Int→List Nat→Prop} {side:Nat} (hsd:side<2) (y:SH w0 w L) [q:aC (Ga p) L s R] [hz:cL R]
  (k: ∀ (ts:List Int) a n c H J,ts.length=n∧n≤100000→((if side=0 then s.bh else s.bl).c.W=[]→ts=[])→aP P 0 s H→bR H=bR s→(H.l0=s.l0∧H.l1=s.l1)→H.D=s.D→(if side=0 then H.bl=s.bl else H.bh=s.bh)→SH w0 J (Row 3 1 (.slice a n c) n (ints ts)::Ga p H::R)→K (.slice a n c) J):D 69 [pt (vV s side),C4 s.now] w K:=by
 obtain ⟨Y,y⟩:=SH.ga y p
 have hn:s.now<18446744073709551616:=by have:=Y.now;omega
 rcases (by omega:side=0∨side=1) with rfl | rfl
 ·obtain ⟨hl,y⟩:=SH.li y s.l0
  refine c69 (p:=s.bh.cb) (s:=s.bh.c) hn y (fun ts a n c cs J hts hW y=>k ts a n c { s with bh:= { s.bh with c:=cs } } J hts hW ((aP.refl s).bh _) rfl ⟨rfl,rfl⟩ rfl rfl ?_)
  have y:SH w0 J (Li s.l0 { s.bh with c:=cs } ::Row 3 1 (.slice a n c) n (ints ts)::Cl p 89 (bR s)::Mt cy s.db s.D::Po s.pp s.po::Li s.l1 s.bl::Ri s.r0 s.ri0::Ri s.r1 s.ri1::Na s.np s.na::Se s.sp s.se::Row 99 2 (.slice s.pa s.pl.length s.pc) s.pl.length (eF s.pl)::bj (gj s.pl)::R):=SH.dx (s:= { s.bh with c:=cs }) y.ae ⟨hl.1,hl.2⟩
  exact (SH.aU (p:=p) (s:= { s with bh:= { s.bh with c:=cs } }) (R:=Row 3 1 (.slice a n c) n (ints ts)::R) y.ae ⟨Y.1,Y.2,Y.3⟩).ae
 ·obtain ⟨hl,y⟩:=SH.li y s.l1
  refine c69 (p:=s.bl.cb) (s:=s.bl.c) hn y (fun ts a n c cs J hts hW y=>k ts a n c { s with bl:= { s.bl with c:=cs } } J hts hW ((aP.refl s).bl _) rfl ⟨rfl,rfl⟩ rfl rfl ?_)
  have y:SH w0 J (Li s.l1 { s.bl with c:=cs } ::Row 3 1 (.slice a n c) n (ints ts)::Cl p 89 (bR s)::Mt cy s.db s.D::Po s.pp s.po::Li s.l0 s.bh::Ri s.r0 s.ri0::Ri s.r1 s.ri1::Na s.np s.na::Se s.sp s.se::Row 99 2 (.slice s.pa s.pl.length s.pc) s.pl.length (eF s.pl)::bj (gj s.pl)::R):=SH.dx (s:= { s.bl with c:=cs }) y.ae ⟨hl.1,hl.2⟩
  exact (SH.aU (p:=p) (s:= { s with bl:= { s.bl with c:=cs } }) (R:=Row 3 1 (.slice a n c) n (ints ts)::R) y.ae ⟨Y.1,Y.2,Y.3⟩).ae
theorem c75g {P:Int→List Nat→Prop} {side:Nat} (hsd:side<2) (J:SH w0 w L) [q:aC (Ga p) L s R]
  (k: ∀ y (bs:List Nat) a c b Y,aP P 0 s y→bR y=bR s→bs.length≤1514→SH w0 Y (Ga p y::By (sl a c bs) bs::R)→K (.tuple #[sl a c bs,.bool b]) Y):D 75 [pt (vU s side)] w K:=by
 obtain ⟨H,J⟩:=SH.ga J p
 have st: ∀ y:bA,y.c=s.c→y.now=s.now→y.na=s.na→y.pl=s.pl→aP P 0 s y:=fun y h1 h2 h3 h4=>⟨h1,h2,by rw [h3],by rw [h3];omega,fun _ h=> .inl (by rw [h4] at h;exact h),by rw [h4];omega⟩
 rcases (by omega:side=0∨side=1) with rfl | rfl
 ·exact c75 (p:=s.pp) (ps:=s.po) (r:=s.r0) (s:=s.ri0) J H.pv.1 (fun po ri bs a c b Y h1 h2 J=>k { s with po:=po,ri0:=ri } bs a c b Y (st _ rfl rfl rfl rfl) rfl h2 (SH.aU (s:= { s with po:=po,ri0:=ri }) J.ae ⟨H.1,H.2,h1.trans H.pv.1,H.pv.2⟩))
 ·exact c75 (p:=s.pp) (ps:=s.po) (r:=s.r1) (s:=s.ri1) J H.pv.2 (fun po ri bs a c b Y h1 h2 J=>k { s with po:=po,ri1:=ri } bs a c b Y (st _ rfl rfl rfl rfl) rfl h2 (SH.aU (s:= { s with po:=po,ri1:=ri }) J.ae ⟨H.1,H.2,H.pv.1,h1.trans H.pv.2⟩))
end
end
section
section
variable {w0 w:World} {L R R2 R3:List ao} {K:Value→World→Prop} {p:Nat} {s:bA} {v:Value} {bs:List Nat}
attribute [local irreducible] ay aQ aH aY a6 aW aK aV num be over nb rowOf bD ct
theorem c111 {P:Int→List Nat→Prop} {side tos id:Nat} {keep:Bool} {ttl proto fr to:Nat} {d n e:Int} (hsd:side<2) (hn:0≤n∧n<20) (hB:bI tos id ttl proto fr to) (hpl:s.pl.length≤100000) (hP: ∀ f,P side f)
  (y:SH w0 w L) [q:aC (Ga p) L s R] [hE:di R] [hb:aD R v bs] (hlen:bs.length≤65515)
  (k: ∀ s' w',aP P 1 s s'→SH w0 w' (Ga p s'::R)→K (.tuple #[]) w'):D 111 [pt p,C5 side,ng d n e,ba tos id keep ttl proto fr to v] w K:=by
 have y:=y.at (Ga p)
 obtain ⟨ad,c,rfl,hcap,hB1,hl0⟩:=y.enter (v:=v)
 refine s111 rfl<|ac<|y.az [C5 d,C5 n,C3 e] fun H _ y=>y.az (DI tos id keep ttl proto fr to (sl ad c bs)) fun b_7 _ y=>ac<|y.C9 (b:=H) rfl<|c62 (r:=n) ⟨by omega,by omega⟩ y (fun _ y=>ac ?_)
 refine y.C9 (b:=H) rfl<|ap (fun J=>?_) (fun J=>?_)
 ·refine ap (fun Y=>?_) (fun Y=>?_)
  ·exact ai<|au<|y.Da (b:=b_7) rfl<|c115 (P:=P) (s:= { s with D:=aF s.D n (IntKind.i64.wrap (bZ s.D n+1)) }) (v:=sl ad c bs) hsd ⟨by decide,by decide⟩ hB hpl hP y hlen (fun s2 _ h2 y=>k s2 _ (((aP.refl (n:=0) s).drop _).trans h2 |>.le) y.ae)
  ·exact ai<|ak<|k { s with D:=aF s.D n (IntKind.i64.wrap (bZ s.D n+1)) } _ ((aP.refl s).drop _) y.ae
 ·exact pa 4 rfl<|ai<|ak<|k { s with D:=aF s.D n (IntKind.i64.wrap (bZ s.D n+1)) } _ ((aP.refl s).drop _) y.ae
theorem c209 {P:Int→List Nat→Prop} {m:ji} (hm:ff m) (hol:m.ol.length≤20) (hpl:s.pl.length≤100000) (hP: ∀ f,P 0 f)
  (H:SH w0 w L) [q:aC (Ga p) L s R] [ho:dG R (.slice m.oa m.ol.length m.oc) m.ol]
  (k: ∀ s' w',aP P 1 s s'→SH w0 w' (Ga p s'::R)→K (.tuple #[]) w'):D 209 [pt p,fg m] w K:=by
 obtain ⟨hs,H⟩:=SH.ga H p
 obtain ⟨m1,m2,m3⟩:=hs.1.map
 refine s209 rfl<|ac<|H.az [.int .u8 m.op,.int .u32 m.xid,.int .u16 m.secs,.bool m.wide,.int .u32 m.ci,.int .u32 m.yi,.int .u32 m.si,.int .u32 m.gi,.int .u8 m.m0,.int .u8 m.m1,.int .u8 m.m2,.int .u8 m.m3,.int .u8 m.m4,.int .u8 m.m5,.slice m.oa m.ol.length m.oc] fun b_3 _ H=>ac<|H.Da (b:=b_3) rfl<|c265 (by assumption) (by omega) H (fun y a_16 c_16 w_16 _ H=>?_) (fun _ w_16 _ H=>?_)
 ·refine aq<|Dh<|ak<|ac<|H.Da (b:=b_3) rfl<|c266 (by assumption) H (fun J _ _ _ _ _ _ _ Y _ H=>H.an fun b_7 _ H=>H.aj (b:=b_7) fun _ H=>ac (⟨_,H.ar (b:=p) [.int .u32 s.c.i1,.int .i64 s.c.b1,.int .u32 s.c.i2,.int .i64 s.c.b2,.int .u32 s.c.rt],c49 H (fun z_31 h_311 _ H=>ac (⟨rfl,[.int .u16 67,.int .u16 68,.bool false,sl a_16 c_16 y],rfl,?_⟩))⟩))
  obtain rfl:z_31=(s.c.i1:Int):=h_311.1 rfl
  refine c267 (bare:=false) (v:=sl a_16 c_16 y) H ⟨by decide,by decide,m1,Y⟩ (by omega) (fun _ h=>Bool.noConfusion h) (fun h1 _ n _ a c w1 H=>?_) (fun h1 b w1 H=>?_)
  ·refine aq ⟨_,bg (neg:=true) rfl,ak (ac (⟨by kernel_rfl,[.int .u8 0,.int .u16 0,.bool false,.int .u8 64,.int .u8 17,.int .u32 s.c.i1,.int .u32 J,sl a c (over (rowOf 2 [67,68,8+y.length,0]++y) 6 (nb n 2))],by kernel_rfl,?_⟩))⟩
   have hol:(over (rowOf 2 [67,68,8+y.length,0]++y) 6 (nb n 2)).length≤90000:=by
    rw [eo (by rw [List.length_append,dz,br];show 6+2≤4*2+y.length;omega),List.length_append,dz]
    show 4*2+y.length≤90000
    omega
   refine c223 (tos:=0) (id:=0) (keep:=false) (ttl:=64) (proto:=17) (fr:=s.c.i1) (to:=J) (v:=sl a c (over (rowOf 2 [67,68,8+y.length,0]++y) 6 (nb n 2))) H ⟨by decide,by decide,by decide,by decide,m1,Y⟩ (by exact Nat.le_trans hol (by decide)) (fun h2 a2 c2 w2 H=>?_) (fun h2 b w2 H=>?_)
   ·refine aq ⟨_,bg (neg:=true) rfl,ak (aJ ?_)⟩
    have H:=H.drew
    refine ⟨_,bL (n:=0) Tryz.underlying82 (by kernel_rfl) (by decide) rfl rfl rfl,H.C9 (b:=p) rfl (H.Da (b:=b_7) rfl (c109 (p:=s.l0) (s:=s.bh) (v:=sl a2 c2 (bW 0 0 false 64 17 s.c.i1 J (over (rowOf 2 [67,68,8+y.length,0]++y) 6 (nb n 2)).length++(over (rowOf 2 [67,68,8+y.length,0]++y) 6 (nb n 2)))) (by assumption) H (by rw [List.length_append,lk];omega) (fun h3 fr3 a3 c3 w3 h4 H=>?_) (fun h3 _ w3 H=>?_)))⟩
    ·refine ⟨⟨⟨_,H.af (b:=b_7) rfl,rfl⟩,⟨H.ld (b:=p) rfl,⟨bL (n:=0) Tryz.underlying82 (by kernel_rfl) (by decide) rfl rfl rfl,trivial⟩⟩⟩,au ?_⟩
     have hf3:=h4.2.2
     have H:SH w0 _ (Ga p s::By (sl a3 c3 fr3) fr3::R):=SH.aU (p:=p) (s:=s) (R:=By (sl a3 c3 fr3) fr3::R) H.ae hs
     exact c65 (P:=P) (s:=s) (side:=0) (v:=sl a3 c3 fr3) (bs:=fr3) (by decide) (hP _) hpl H (by omega) (fun s2 w5 h5 H=>k s2 _ h5 H.ae)
    ·refine ⟨⟨⟨_,H.af (b:=b_7) rfl,rfl⟩,⟨H.ld (b:=p) rfl,⟨bL (n:=0) Tryz.underlying82 (by kernel_rfl) (by decide) rfl rfl rfl,trivial⟩⟩⟩,au ?_⟩
     have H:=SH.cH H
     have H:SH w0 _ (Ga p s::By (.slice none 0 0) []::R):=SH.aU (p:=p) (s:=s) (R:=By (.slice none 0 0) []::R) H.ae hs
     exact c65 (P:=P) (s:=s) (side:=0) (v:= .slice none 0 0) (bs:=[]) (by decide) (hP _) hpl H (Nat.zero_le _) (fun s2 w5 h5 H=>k s2 _ h5 H.ae)
   ·exact aq ⟨_,bH (neg:=true) rfl,ah (k s _ (aP.refl s) (SH.aU H.ae hs))⟩
  ·exact aq ⟨_,bH (neg:=true) rfl,ah (k s _ (aP.refl s) (SH.aU H.ae hs))⟩
 ·exact aq<|Dg<|ah<|k s _ (aP.refl s) (SH.aU H.ae hs)
theorem c163 {P:Int→List Nat→Prop} {tos id:Nat} {keep:Bool} {ttl proto fr to:Nat} (hB:bI tos id ttl proto fr to) (hpl:s.pl.length≤100000) (hP: ∀ f,P 0 f)
  (y:SH w0 w L) [q:aC (Ga p) L s R] [hb:aD R v bs] (hlen:bs.length≤2000)
  (k: ∀ s' w',aP P 1 s s'→SH w0 w' (Ga p s'::R)→K (.tuple #[]) w'):D 163 [pt p,ba tos id keep ttl proto fr to v] w K:=by
 obtain ⟨hs,y⟩:=SH.ga y p
 obtain ⟨_,_,_,hp1,hp2,hp3⟩:=hB
 obtain ⟨ad,c,rfl,hcap,hB1,hl0⟩:=y.enter (v:=v)
 refine s163 rfl<|ac<|y.az [.int .u8 tos,.int .u16 id,.bool keep,.int .u8 ttl,.int .u8 proto,.int .u32 fr,.int .u32 to,sl ad c bs] fun b_3 _ y=>ac<|y.C9 (b:=b_3) rfl<|y.C9 (b:=b_3) rfl<|y.C9 (b:=b_3) rfl<|c11 (v:=sl ad c bs) y (by omega) (by omega) (fun h_17 _ _ _ _ a_17 c_17 w_17 y=>?_) (fun h_17 _ w_17 y=>?_)
 ·refine y.an fun b_4 w_4 y=>y.aj (b:=b_4) fun _ y=>ac<|y.C9 (b:=b_4) rfl<|c207 (v:=sl a_17 c_17 (List.drop 8 (List.take (num bs 4 2) bs))) y (by (simp<;>omega)) (fun m_23 w_23 h_232 y=>?_) (fun e_23 w_23 h_232 y=>?_)
  ·refine y.an fun Y w_6 y=>y.aj (b:=Y) fun w_68 y=>aq<|Dh<|ak<|l3<|have y:=y.drew;y.C9 (b:=p) rfl<|y.Da (b:=Y) rfl<|y.C9 (b:=p) rfl ⟨?_,?_⟩
   ·refine c208 (by assumption) y (fun J H w_40 h_403 h_404 y=>?_) (fun J w_40 y=>?_)
    ·refine ⟨⟨y.ld (b:=p) rfl,⟨⟨_,y.af (b:=Y) rfl,rfl⟩,⟨y.ld (b:=p) rfl,trivial⟩⟩⟩,y.an fun b_8 w_8 y=>⟨⟨y.ld (b:=p) rfl,⟨⟨_,y.af (b:=Y) rfl,rfl⟩,⟨y.ld (b:=p) rfl,trivial⟩⟩⟩,y.aj (b:=b_8) fun _ y=>⟨⟨y.ld (b:=p) rfl,⟨⟨_,y.af (b:=Y) rfl,rfl⟩,⟨y.ld (b:=p) rfl,trivial⟩⟩⟩,ac (ai (au (y.Da (b:=b_8) rfl ?_)))⟩⟩⟩
     have y:SH w0 _ (Ga p { s with se:=J } ::Os (.slice H.oa H.ol.length H.oc) H.ol::R):=SH.aU (p:=p) (s:= { s with se:=J }) (R:=Os (.slice H.oa H.ol.length H.oc) H.ol::R) y.ae ⟨hs.1,hs.2,hs.3⟩
     exact c209 (P:=P) (s:= { s with se:=J }) (m:=H) h_403 h_404 hpl hP y (fun s2 w2 h2 y=>k s2 _ (((aP.refl (n:=0) s).se _).trans h2 |>.le) y.ae)
    ·exact ⟨⟨y.ld (b:=p) rfl,⟨⟨_,y.af (b:=Y) rfl,rfl⟩,⟨y.ld (b:=p) rfl,trivial⟩⟩⟩,y.an fun b_8 w_8 y=>⟨⟨y.ld (b:=p) rfl,⟨⟨_,y.af (b:=Y) rfl,rfl⟩,⟨y.ld (b:=p) rfl,trivial⟩⟩⟩,y.aj (b:=b_8) fun _ y=>⟨⟨y.ld (b:=p) rfl,⟨⟨_,y.af (b:=Y) rfl,rfl⟩,⟨y.ld (b:=p) rfl,trivial⟩⟩⟩,ac (ai (ak (k { s with se:=J } _ ((aP.refl s).se _) (SH.aU (p:=p) (s:= { s with se:=J }) (R:=R) y.ae ⟨hs.1,hs.2,hs.3⟩))))⟩⟩⟩
   ·refine y.an fun b_8 w_8 y=>⟨⟨y.ld (b:=p) rfl,⟨⟨_,y.af (b:=Y) rfl,rfl⟩,⟨y.ld (b:=p) rfl,trivial⟩⟩⟩,c208 (by assumption) y (fun J H w_40 h_403 h_404 y=>?_) (fun J w_40 y=>?_)⟩
    ·refine ⟨⟨y.ld (b:=p) rfl,⟨⟨_,y.af (b:=Y) rfl,rfl⟩,⟨y.ld (b:=p) rfl,trivial⟩⟩⟩,y.aj (b:=b_8) fun _ y=>⟨⟨y.ld (b:=p) rfl,⟨⟨_,y.af (b:=Y) rfl,rfl⟩,⟨y.ld (b:=p) rfl,trivial⟩⟩⟩,ac (ai (au (y.Da (b:=b_8) rfl ?_)))⟩⟩
     have y:SH w0 _ (Ga p { s with se:=J } ::Os (.slice H.oa H.ol.length H.oc) H.ol::R):=SH.aU (p:=p) (s:= { s with se:=J }) (R:=Os (.slice H.oa H.ol.length H.oc) H.ol::R) y.ae ⟨hs.1,hs.2,hs.3⟩
     exact c209 (P:=P) (s:= { s with se:=J }) (m:=H) h_403 h_404 hpl hP y (fun s2 w2 h2 y=>k s2 _ (((aP.refl (n:=0) s).se _).trans h2 |>.le) y.ae)
    ·exact ⟨⟨y.ld (b:=p) rfl,⟨⟨_,y.af (b:=Y) rfl,rfl⟩,⟨y.ld (b:=p) rfl,trivial⟩⟩⟩,y.aj (b:=b_8) fun w_78 y=>⟨⟨y.ld (b:=p) rfl,⟨⟨_,y.af (b:=Y) rfl,rfl⟩,⟨y.ld (b:=p) rfl,trivial⟩⟩⟩,ac (ai (ak (k { s with se:=J } _ ((aP.refl s).se _) (SH.aU (p:=p) (s:= { s with se:=J }) (R:=R) y.ae ⟨hs.1,hs.2,hs.3⟩))))⟩⟩
  ·refine y.an fun Y w_6 y=>y.aj (b:=Y) fun w_68 y=>aq<|Dg<|ac ?_
   have y:SH w0 _ (Ga p s::R):=SH.aU (p:=p) (s:=s) (R:=R) y.ae hs
   exact c62 (r:=1) (by decide) y (fun w2 y=>ah (k { s with D:=aF s.D 1 (IntKind.i64.wrap (bZ s.D 1+1)) } _ ((aP.refl s).drop _) y))
 ·refine y.an fun b_4 w_4 y=>y.aj (b:=b_4) fun _ y=>ac<|y.C9 (b:=b_4) rfl ?_
  have y:=SH.cH y
  refine c207 (bs:=[]) (v:= .slice none 0 0) y (by decide) (fun m_23 w_23 h_232 y=>?_) (fun e_23 w_23 h_232 y=>?_)
  ·refine y.an fun Y w_6 y=>y.aj (b:=Y) fun w_64 y=>aq<|Dh<|ak<|l3<|have y:=y.drew;y.C9 (b:=p) rfl<|y.Da (b:=Y) rfl<|y.C9 (b:=p) rfl ⟨?_,?_⟩
   ·refine c208 (by assumption) y (fun J H w_40 h_403 h_404 y=>?_) (fun J w_40 y=>?_)
    ·refine ⟨⟨y.ld (b:=p) rfl,⟨⟨_,y.af (b:=Y) rfl,rfl⟩,⟨y.ld (b:=p) rfl,trivial⟩⟩⟩,y.an fun b_8 w_8 y=>⟨⟨y.ld (b:=p) rfl,⟨⟨_,y.af (b:=Y) rfl,rfl⟩,⟨y.ld (b:=p) rfl,trivial⟩⟩⟩,y.aj (b:=b_8) fun w_78 y=>⟨⟨y.ld (b:=p) rfl,⟨⟨_,y.af (b:=Y) rfl,rfl⟩,⟨y.ld (b:=p) rfl,trivial⟩⟩⟩,ac (ai (au (y.Da (b:=b_8) rfl ?_)))⟩⟩⟩
     have y:SH w0 _ (Ga p { s with se:=J } ::Os (.slice H.oa H.ol.length H.oc) H.ol::R):=SH.aU (p:=p) (s:= { s with se:=J }) (R:=Os (.slice H.oa H.ol.length H.oc) H.ol::R) y.ae ⟨hs.1,hs.2,hs.3⟩
     exact c209 (P:=P) (s:= { s with se:=J }) (m:=H) h_403 h_404 hpl hP y (fun s2 w2 h2 y=>k s2 _ (((aP.refl (n:=0) s).se _).trans h2 |>.le) y.ae)
    ·exact ⟨⟨y.ld (b:=p) rfl,⟨⟨_,y.af (b:=Y) rfl,rfl⟩,⟨y.ld (b:=p) rfl,trivial⟩⟩⟩,y.an fun b_8 w_8 y=>⟨⟨y.ld (b:=p) rfl,⟨⟨_,y.af (b:=Y) rfl,rfl⟩,⟨y.ld (b:=p) rfl,trivial⟩⟩⟩,y.aj (b:=b_8) fun _ y=>⟨⟨y.ld (b:=p) rfl,⟨⟨_,y.af (b:=Y) rfl,rfl⟩,⟨y.ld (b:=p) rfl,trivial⟩⟩⟩,ac (ai (ak (k { s with se:=J } _ ((aP.refl s).se _) (SH.aU (p:=p) (s:= { s with se:=J }) (R:=R) y.ae ⟨hs.1,hs.2,hs.3⟩))))⟩⟩⟩
   ·refine y.an fun b_8 w_8 y=>⟨⟨y.ld (b:=p) rfl,⟨⟨_,y.af (b:=Y) rfl,rfl⟩,⟨y.ld (b:=p) rfl,trivial⟩⟩⟩,c208 (by assumption) y (fun J H w_40 h_403 h_404 y=>?_) (fun J w_40 y=>?_)⟩
    ·refine ⟨⟨y.ld (b:=p) rfl,⟨⟨_,y.af (b:=Y) rfl,rfl⟩,⟨y.ld (b:=p) rfl,trivial⟩⟩⟩,y.aj (b:=b_8) fun _ y=>⟨⟨y.ld (b:=p) rfl,⟨⟨_,y.af (b:=Y) rfl,rfl⟩,⟨y.ld (b:=p) rfl,trivial⟩⟩⟩,ac (ai (au (y.Da (b:=b_8) rfl ?_)))⟩⟩
     have y:SH w0 _ (Ga p { s with se:=J } ::Os (.slice H.oa H.ol.length H.oc) H.ol::R):=SH.aU (p:=p) (s:= { s with se:=J }) (R:=Os (.slice H.oa H.ol.length H.oc) H.ol::R) y.ae ⟨hs.1,hs.2,hs.3⟩
     exact c209 (P:=P) (s:= { s with se:=J }) (m:=H) h_403 h_404 hpl hP y (fun s2 w2 h2 y=>k s2 _ (((aP.refl (n:=0) s).se _).trans h2 |>.le) y.ae)
    ·exact ⟨⟨y.ld (b:=p) rfl,⟨⟨_,y.af (b:=Y) rfl,rfl⟩,⟨y.ld (b:=p) rfl,trivial⟩⟩⟩,y.aj (b:=b_8) fun _ y=>⟨⟨y.ld (b:=p) rfl,⟨⟨_,y.af (b:=Y) rfl,rfl⟩,⟨y.ld (b:=p) rfl,trivial⟩⟩⟩,ac (ai (ak (k { s with se:=J } _ ((aP.refl s).se _) (SH.aU (p:=p) (s:= { s with se:=J }) (R:=R) y.ae ⟨hs.1,hs.2,hs.3⟩))))⟩⟩
  ·refine y.an fun Y w_6 y=>y.aj (b:=Y) fun w_64 y=>aq<|Dg<|ac ?_
   have y:SH w0 _ (Ga p s::R):=SH.aU (p:=p) (s:=s) (R:=R) y.ae hs
   exact c62 (r:=1) (by decide) y (fun w2 y=>ah (k { s with D:=aF s.D 1 (IntKind.i64.wrap (bZ s.D 1+1)) } _ ((aP.refl s).drop _) y))
theorem c112 {P:Int→List Nat→Prop} {side own tos id:Nat} {keep:Bool} {ttl proto fr to:Nat} (hsd:side<2) (ho:own<4294967296) (hB:bI tos id ttl proto fr to) (hpl:s.pl.length≤100000) (hP: ∀ f,P side f)
  (y:SH w0 w L) [q:aC (Ga p) L s R] [hE:di R] [hb:aD R v bs] (hlen:bs.length≤2000)
  (k: ∀ s' w',aP P 1 s s'→SH w0 w' (Ga p s'::R)→K (.tuple #[]) w'):D 112 [pt p,C5 side,C3 own,ba tos id keep ttl proto fr to v] w K:=by
 have y:=y.at (Ga p)
 obtain ⟨ad,c,rfl,hcap,hB1,hl0⟩:=y.enter (v:=v)
 refine s112 rfl<|ac<|y.az (DI tos id keep ttl proto fr to (sl ad c bs)) fun b_7 _ y=>ac<|y.Da (b:=b_7) rfl<|c161 ‹_› ‹_› y (by omega) (fun J a_12 c_12 w_12 _ y=>?_) (fun Y w_12 _ y=>?_) (fun h_12 w_12 y=>?_)
 ·exact y.an fun H w_8 y=>y.aj (b:=H) fun _ y=>ac<|y.C9 (b:=H) rfl<|aM<|ac<|Di<|ai<|au ⟨_,y.ar (b:=H) (DI (↑0) (↑0) false (↑64) (↑1) own fr (sl a_12 c_12 J)),c162 (P:=P) (tos:=0) (id:=0) (keep:=false) (ttl:=64) (proto:=1) (fr:=own) (to:=fr) (v:=sl a_12 c_12 J) hsd ⟨by decide,by decide,by decide,by decide,ho,hB.2.2.2.2.1⟩ hpl hP y ‹_› (fun s2 w2 h2 y=>k s2 _ h2 y.ae)⟩
 ·exact y.an fun H w_8 y=>y.aj (b:=H) fun _ y=>ac<|y.C9 (b:=H) rfl<|aM<|ac<|Dh<|ai<|ac<|Dh<|ai<|au<|y.C9 (b:=H) rfl<|c62 (r:=Y) ⟨by omega,by omega⟩ y (fun _ y=>k { s with D:=aF s.D Y (IntKind.i64.wrap (bZ s.D Y+1)) } _ ((aP.refl s).drop _) y.ae)
 ·exact y.an fun H w_8 y=>y.aj (b:=H) fun _ y=>ac<|y.C9 (b:=H) rfl<|aM<|ac<|Dh<|ai<|ac<|Di<|ai<|au<|y.Da (b:=b_7) rfl<|c163 (P:=P) (v:=sl ad c bs) hB hpl (fun f=>h_12▸hP f) y hlen (fun s2 w2 h2 y=>k s2 _ h2 y.ae)
end
end
section
def jW (P:Int→List Nat→Prop) (proto:Nat) (bs:List Nat):Prop:=
 ∀ (sd:Int) (f:List Nat) (tos id:Nat) (keep:Bool) (ttl fr to:Nat) (qs:List Nat),bI tos id ttl proto fr to→bK qs→f.length≤1514→(proto=17→fC bs qs fr to)→eE 2048 (bW tos id keep ttl proto fr to qs.length++qs) f→P sd f
section
variable {w0 w:World} {L R R2 R3:List ao} {K:Value→World→Prop} {p:Nat} {s:bA} {v:Value} {bs:List Nat}
attribute [local irreducible] ay aQ aH aY a6 aW aK aV num be over nb rowOf bD ct
theorem c116 {P:Int→List Nat→Prop} {tos id:Nat} {keep:Bool} {ttl proto fr to e:Nat} {d n:Int} (he:e<4294967296) (hB:bI tos id ttl proto fr to) (hpl:s.pl.length≤100000) (hc:s.na.t.count≤1000000) (hA: ∀ sd f,(∃ pk,eE 2054 pk f)→P sd f) (hT:jW P proto bs)
  (y:SH w0 w L) [q:aC (Ga p) L s R] [hE:di R] [hz:cL R] [hb:aD R v bs] (hlen:bs.length≤2000)
  (k: ∀ s' w',aP P 2 s s'→SH w0 w' (Ga p s'::R)→K (.tuple #[]) w'):D 116 [pt p,ng d n e,ba tos id keep ttl proto fr to v] w K:=by
 obtain ⟨hs,y⟩:=SH.ga y p
 have h0:s.na.own<4294967296:=(SH.na y s.np).1
 have hB2:=hB
 obtain ⟨_,_,_,hp1,hp2,hp3⟩:=hB2
 obtain ⟨ad,c,rfl,hcap,hB1,hl0⟩:=y.enter (v:=v)
 refine s116 rfl<|ac<|y.az [.int .i64 d,.int .i64 n,.int .u32 e] fun b_4 _ y=>y.az [.int .u8 tos,.int .u16 id,.bool keep,.int .u8 ttl,.int .u8 proto,.int .u32 fr,.int .u32 to,sl ad c bs] fun b_5 _ y=>ac<|y.an fun b_6 _ y=>ac<|ac<|av<|ac<|y.C9 (b:=b_4) rfl<|aM<|ac<|ap (fun h_26=>?_) (fun h_26=>?_)
 ·refine ai<|aJ<|have y:=y.drew;y.C9 (b:=p) rfl<|y.Da (b:=b_5) rfl<|y.C9 (b:=p) rfl<|c166 (by omega) y (by assumption) (by omega) (fun h_37 _ H qs_37 a_37 c_37 w_37 h_377 h_378 h_379 y=>?_) (fun h_37 H f_37 qs_37 a_37 c_37 w_37 h_377 h_378 h_379 y=>?_) (fun H f_37 _ b_37 w_37 h_375 _ h_377 y=>?_)
  ·refine ⟨⟨y.ld (b:=p) rfl,⟨⟨_,y.af (b:=b_5) rfl,rfl⟩,⟨y.ld (b:=p) rfl,trivial⟩⟩⟩,y.aj (b:=b_6) fun w_76 y=>⟨⟨y.ld (b:=p) rfl,⟨⟨_,y.af (b:=b_5) rfl,rfl⟩,⟨y.ld (b:=p) rfl,trivial⟩⟩⟩,au (ac (y.C9 (b:=b_4) rfl (aq (Dh (ak (aq (⟨_,bg (neg:=true) rfl,ak (au (y.Da (b:=b_6) rfl ?_))⟩)))))))⟩⟩
   have y:SH w0 _ (Ga p { s with na:=H } ::By (sl a_37 c_37 qs_37) qs_37::R):=SH.aU (p:=p) (s:= { s with na:=H }) (R:=By (sl a_37 c_37 qs_37) qs_37::R) y.ae ⟨hs.1,hs.2,hs.3⟩
   obtain ⟨_,_,_,_,hq,_⟩:=y.enter (v:=sl a_37 c_37 qs_37)
   have hBB:bI tos id ttl 17 s.na.own to:=⟨hB.1,hB.2.1,hB.2.2.1,by decide,h0,hp3⟩
   have hT:jW P 17 bs:=h_37▸hT
   exact c169 (P:=P) (s:= { s with na:=H }) (side:=1) (next:=e) (tos:=tos) (id:=id) (keep:=keep) (ttl:=ttl) (proto:=17) (fr:=s.na.own) (to:=to) (v:=sl a_37 c_37 qs_37) (by decide) he hBB hpl (fun f h=>hA _ f h) (fun f h14 hf=>hT _ f tos id keep ttl s.na.own to qs_37 hBB hq h14 (fun h=>h_378) hf) y h_379 (fun s2 w2 h2 y=>k s2 _ ((((aP.refl (n:=0) s).na H h_377.1 (by have:=h_377.2.2;omega)).trans h2).le) y.ae)
  ·refine ⟨⟨y.ld (b:=p) rfl,⟨⟨_,y.af (b:=b_5) rfl,rfl⟩,⟨y.ld (b:=p) rfl,trivial⟩⟩⟩,y.aj (b:=b_6) fun w_76 y=>⟨⟨y.ld (b:=p) rfl,⟨⟨_,y.af (b:=b_5) rfl,rfl⟩,⟨y.ld (b:=p) rfl,trivial⟩⟩⟩,au (ac (y.C9 (b:=b_4) rfl (aq (Dh (ak (aq (⟨_,bg (neg:=true) rfl,ak (au (y.Da (b:=b_6) rfl ?_))⟩)))))))⟩⟩
   have y:SH w0 _ (Ga p { s with na:=H } ::By (sl a_37 c_37 qs_37) qs_37::R):=SH.aU (p:=p) (s:= { s with na:=H }) (R:=By (sl a_37 c_37 qs_37) qs_37::R) y.ae ⟨hs.1,hs.2,hs.3⟩
   obtain ⟨_,_,_,_,hq,_⟩:=y.enter (v:=sl a_37 c_37 qs_37)
   have hBB:bI tos id ttl proto f_37 to:=⟨hB.1,hB.2.1,hB.2.2.1,hB.2.2.2.1,h_378,hp3⟩
   exact c169 (P:=P) (s:= { s with na:=H }) (side:=1) (next:=e) (tos:=tos) (id:=id) (keep:=keep) (ttl:=ttl) (proto:=proto) (fr:=f_37) (to:=to) (v:=sl a_37 c_37 qs_37) (by decide) he hBB hpl (fun f h=>hA _ f h) (fun f h14 hf=>hT _ f tos id keep ttl f_37 to qs_37 hBB hq h14 (fun h=>absurd h h_37) hf) y h_379 (fun s2 w2 h2 y=>k s2 _ ((((aP.refl (n:=0) s).na H h_377.1 (by have:=h_377.2.2;omega)).trans h2).le) y.ae)
  ·refine ⟨⟨y.ld (b:=p) rfl,⟨⟨_,y.af (b:=b_5) rfl,rfl⟩,⟨y.ld (b:=p) rfl,trivial⟩⟩⟩,y.aj (b:=b_6) fun w_74 y=>⟨⟨y.ld (b:=p) rfl,⟨⟨_,y.af (b:=b_5) rfl,rfl⟩,⟨y.ld (b:=p) rfl,trivial⟩⟩⟩,au (ac (y.C9 (b:=b_4) rfl (aq (Dh (ak (aq (⟨_,bH (neg:=true) rfl,ac ?_⟩)))))))⟩⟩
   have y:SH w0 _ (Ga p { s with na:=H } ::Ex b_37::R):=SH.aU (p:=p) (s:= { s with na:=H }) (R:=Ex b_37::R) y.ae ⟨hs.1,hs.2,hs.3⟩
   have y:SH w0 _ (Ex b_37::Ga p { s with na:=H } ::R):=y.ae
   exact c64 (s:= { s with na:=H }) y (fun r w2 hr y=>ah (k { s with na:=H,D:=aF s.D r (IntKind.i64.wrap (bZ s.D r+1)) } _ ((((aP.refl (n:=0) s).na H h_375.1 (by have:=h_375.2.2;omega)).drop _).le) y.ae))
 ·refine ai<|ac<|ap (fun h_41=>?_) (fun h_41=>?_)
  ·refine ai<|cv<|have y:=y.drew;y.C9 (b:=p) rfl<|y.Da (b:=b_5) rfl<|y.C9 (b:=p) rfl<|c167 (by omega) y (by assumption) (by omega) (fun h_52 _ J f_52 t_52 qs_52 a_52 c_52 w_52 h_529 h_5210 h_5211 h_5212 y=>?_) (fun h_52 J f_52 t_52 qs_52 a_52 c_52 w_52 h_528 h_529 h_5210 y=>?_) (fun J f_52 t_52 b_52 w_52 h_525 _ y=>?_)
   ·refine ⟨⟨y.ld (b:=p) rfl,⟨⟨_,y.af (b:=b_5) rfl,rfl⟩,⟨y.ld (b:=p) rfl,trivial⟩⟩⟩,y.aj (b:=b_6) fun _ y=>⟨⟨y.ld (b:=p) rfl,⟨⟨_,y.af (b:=b_5) rfl,rfl⟩,⟨y.ld (b:=p) rfl,trivial⟩⟩⟩,ac (y.C9 (b:=b_4) rfl (aq (Di (au (y.C9 (b:=b_6) rfl (aq (⟨_,bg (neg:=true) rfl,ak (au (y.Da (b:=b_6) rfl ?_))⟩)))))))⟩⟩
    have y:SH w0 _ (Ga p { s with na:=J } ::By (sl a_52 c_52 qs_52) qs_52::R):=SH.aU (p:=p) (s:= { s with na:=J }) (R:=By (sl a_52 c_52 qs_52) qs_52::R) y.ae ⟨hs.1,hs.2,hs.3⟩
    obtain ⟨_,_,_,_,hq,_⟩:=y.enter (v:=sl a_52 c_52 qs_52)
    have hBB:bI tos id ttl 17 f_52 t_52:=⟨hB.1,hB.2.1,hB.2.2.1,by decide,h_5211.1,h_5211.2⟩
    have hT:jW P 17 bs:=h_52▸hT
    exact c169 (P:=P) (s:= { s with na:=J }) (side:=0) (next:=t_52) (tos:=tos) (id:=id) (keep:=keep) (ttl:=ttl) (proto:=17) (fr:=f_52) (to:=t_52) (v:=sl a_52 c_52 qs_52) (by decide) h_5211.2 hBB hpl (fun f h=>hA _ f h) (fun f h14 hf=>hT _ f tos id keep ttl f_52 t_52 qs_52 hBB hq h14 (fun h=>h_5210) hf) y h_5212 (fun s2 w2 h2 y=>k s2 _ ((((aP.refl (n:=0) s).na J h_529.1 (by have:=h_529.2.2;omega)).trans h2).le) y.ae)
   ·refine ⟨⟨y.ld (b:=p) rfl,⟨⟨_,y.af (b:=b_5) rfl,rfl⟩,⟨y.ld (b:=p) rfl,trivial⟩⟩⟩,y.aj (b:=b_6) fun _ y=>⟨⟨y.ld (b:=p) rfl,⟨⟨_,y.af (b:=b_5) rfl,rfl⟩,⟨y.ld (b:=p) rfl,trivial⟩⟩⟩,ac (y.C9 (b:=b_4) rfl (aq (Di (au (y.C9 (b:=b_6) rfl (aq (⟨_,bg (neg:=true) rfl,ak (au (y.Da (b:=b_6) rfl ?_))⟩)))))))⟩⟩
    have y:SH w0 _ (Ga p { s with na:=J } ::By (sl a_52 c_52 qs_52) qs_52::R):=SH.aU (p:=p) (s:= { s with na:=J }) (R:=By (sl a_52 c_52 qs_52) qs_52::R) y.ae ⟨hs.1,hs.2,hs.3⟩
    obtain ⟨_,_,_,_,hq,_⟩:=y.enter (v:=sl a_52 c_52 qs_52)
    have hBB:bI tos id ttl proto f_52 t_52:=⟨hB.1,hB.2.1,hB.2.2.1,hB.2.2.2.1,h_529.1,h_529.2⟩
    exact c169 (P:=P) (s:= { s with na:=J }) (side:=0) (next:=t_52) (tos:=tos) (id:=id) (keep:=keep) (ttl:=ttl) (proto:=proto) (fr:=f_52) (to:=t_52) (v:=sl a_52 c_52 qs_52) (by decide) h_529.2 hBB hpl (fun f h=>hA _ f h) (fun f h14 hf=>hT _ f tos id keep ttl f_52 t_52 qs_52 hBB hq h14 (fun h=>absurd h h_52) hf) y h_5210 (fun s2 w2 h2 y=>k s2 _ ((((aP.refl (n:=0) s).na J h_528.1 (by have:=h_528.2.2;omega)).trans h2).le) y.ae)
   ·refine ⟨⟨y.ld (b:=p) rfl,⟨⟨_,y.af (b:=b_5) rfl,rfl⟩,⟨y.ld (b:=p) rfl,trivial⟩⟩⟩,y.aj (b:=b_6) fun _ y=>⟨⟨y.ld (b:=p) rfl,⟨⟨_,y.af (b:=b_5) rfl,rfl⟩,⟨y.ld (b:=p) rfl,trivial⟩⟩⟩,ac (y.C9 (b:=b_4) rfl (aq (Di (au (y.C9 (b:=b_6) rfl (aq (⟨_,bH (neg:=true) rfl,ac ?_⟩)))))))⟩⟩
    have y:SH w0 _ (Ga p { s with na:=J } ::Ex b_52::R):=SH.aU (p:=p) (s:= { s with na:=J }) (R:=Ex b_52::R) y.ae ⟨hs.1,hs.2,hs.3⟩
    have y:SH w0 _ (Ex b_52::Ga p { s with na:=J } ::R):=y.ae
    exact c64 (s:= { s with na:=J }) y (fun r w2 hr y=>ah (k { s with na:=J,D:=aF s.D r (IntKind.i64.wrap (bZ s.D r+1)) } _ ((((aP.refl (n:=0) s).na J h_525.1 (by have:=h_525.2.2;omega)).drop _).le) y.ae))
  ·refine ai<|cv<|have y:=y.drew;y.C9 (b:=p) rfl<|y.Da (b:=b_5) rfl<|y.C9 (b:=p) rfl<|c168 y (by assumption) (by omega) (fun h_22 _ Y t_22 qs_22 a_22 c_22 w_22 h_228 h_229 h_2210 h_2211 y=>?_) (fun h_22 Y t_22 qs_22 a_22 c_22 w_22 h_227 h_228 h_229 y=>?_) (fun Y t_22 b_22 w_22 h_224 _ y=>?_)
   ·refine ⟨⟨y.ld (b:=p) rfl,⟨⟨_,y.af (b:=b_5) rfl,rfl⟩,⟨y.ld (b:=p) rfl,trivial⟩⟩⟩,y.aj (b:=b_6) fun _ y=>⟨⟨y.ld (b:=p) rfl,⟨⟨_,y.af (b:=b_5) rfl,rfl⟩,⟨y.ld (b:=p) rfl,trivial⟩⟩⟩,ac (y.C9 (b:=b_4) rfl (aq (Di (au (y.C9 (b:=b_6) rfl (aq (⟨_,bg (neg:=true) rfl,ak (au (y.Da (b:=b_6) rfl ?_))⟩)))))))⟩⟩
    have y:SH w0 _ (Ga p { s with na:=Y } ::By (sl a_22 c_22 qs_22) qs_22::R):=SH.aU (p:=p) (s:= { s with na:=Y }) (R:=By (sl a_22 c_22 qs_22) qs_22::R) y.ae ⟨hs.1,hs.2,hs.3⟩
    obtain ⟨_,_,_,_,hq,_⟩:=y.enter (v:=sl a_22 c_22 qs_22)
    have hBB:bI tos id ttl 17 fr t_22:=⟨hB.1,hB.2.1,hB.2.2.1,by decide,hp2,h_2210⟩
    have hT:jW P 17 bs:=h_22▸hT
    exact c169 (P:=P) (s:= { s with na:=Y }) (side:=0) (next:=t_22) (tos:=tos) (id:=id) (keep:=keep) (ttl:=ttl) (proto:=17) (fr:=fr) (to:=t_22) (v:=sl a_22 c_22 qs_22) (by decide) h_2210 hBB hpl (fun f h=>hA _ f h) (fun f h14 hf=>hT _ f tos id keep ttl fr t_22 qs_22 hBB hq h14 (fun h=>h_229) hf) y h_2211 (fun s2 w2 h2 y=>k s2 _ ((((aP.refl (n:=0) s).na Y h_228.1 (by have:=h_228.2;omega)).trans h2).le) y.ae)
   ·refine ⟨⟨y.ld (b:=p) rfl,⟨⟨_,y.af (b:=b_5) rfl,rfl⟩,⟨y.ld (b:=p) rfl,trivial⟩⟩⟩,y.aj (b:=b_6) fun _ y=>⟨⟨y.ld (b:=p) rfl,⟨⟨_,y.af (b:=b_5) rfl,rfl⟩,⟨y.ld (b:=p) rfl,trivial⟩⟩⟩,ac (y.C9 (b:=b_4) rfl (aq (Di (au (y.C9 (b:=b_6) rfl (aq (⟨_,bg (neg:=true) rfl,ak (au (y.Da (b:=b_6) rfl ?_))⟩)))))))⟩⟩
    have y:SH w0 _ (Ga p { s with na:=Y } ::By (sl a_22 c_22 qs_22) qs_22::R):=SH.aU (p:=p) (s:= { s with na:=Y }) (R:=By (sl a_22 c_22 qs_22) qs_22::R) y.ae ⟨hs.1,hs.2,hs.3⟩
    obtain ⟨_,_,_,_,hq,_⟩:=y.enter (v:=sl a_22 c_22 qs_22)
    have hBB:bI tos id ttl proto fr t_22:=⟨hB.1,hB.2.1,hB.2.2.1,hB.2.2.2.1,hp2,h_228⟩
    exact c169 (P:=P) (s:= { s with na:=Y }) (side:=0) (next:=t_22) (tos:=tos) (id:=id) (keep:=keep) (ttl:=ttl) (proto:=proto) (fr:=fr) (to:=t_22) (v:=sl a_22 c_22 qs_22) (by decide) h_228 hBB hpl (fun f h=>hA _ f h) (fun f h14 hf=>hT _ f tos id keep ttl fr t_22 qs_22 hBB hq h14 (fun h=>absurd h h_22) hf) y h_229 (fun s2 w2 h2 y=>k s2 _ ((((aP.refl (n:=0) s).na Y h_227.1 (by have:=h_227.2;omega)).trans h2).le) y.ae)
   ·refine ⟨⟨y.ld (b:=p) rfl,⟨⟨_,y.af (b:=b_5) rfl,rfl⟩,⟨y.ld (b:=p) rfl,trivial⟩⟩⟩,y.aj (b:=b_6) fun w_74 y=>⟨⟨y.ld (b:=p) rfl,⟨⟨_,y.af (b:=b_5) rfl,rfl⟩,⟨y.ld (b:=p) rfl,trivial⟩⟩⟩,ac (y.C9 (b:=b_4) rfl (aq (Di (au (y.C9 (b:=b_6) rfl (aq (⟨_,bH (neg:=true) rfl,ac ?_⟩)))))))⟩⟩
    have y:SH w0 _ (Ga p { s with na:=Y } ::Ex b_22::R):=SH.aU (p:=p) (s:= { s with na:=Y }) (R:=Ex b_22::R) y.ae ⟨hs.1,hs.2,hs.3⟩
    have y:SH w0 _ (Ex b_22::Ga p { s with na:=Y } ::R):=y.ae
    exact c64 (s:= { s with na:=Y }) y (fun r w2 hr y=>ah (k { s with na:=Y,D:=aF s.D r (IntKind.i64.wrap (bZ s.D r+1)) } _ ((((aP.refl (n:=0) s).na Y h_224.1 (by have:=h_224.2;omega)).drop _).le) y.ae))
end
end
section
section
variable {w0 w:World} {L R R2 R3:List ao} {K:Value→World→Prop} {p:Nat} {s:bA} {v:Value} {bs:List Nat}
attribute [local irreducible] ay aQ aH aY a6 aW aK aV num be over nb rowOf bD ct
theorem c23g (y:SH w0 w L) [hb:aD L v bs] (hlen:bs.length≤100000)
  (k1: ∀ (tos id:Nat) (keep:Bool) (ttl proto fr to:Nat) (qs:List Nat),gw bs→(proto=bs.getD 9 0∧fr=num bs 12 4∧to=num bs 16 4∧qs=cJ bs (num bs 2 2))→bI tos id ttl proto fr to→qs.length≤bs.length→ ∀ a c q,SH w0 q (By (sl a c qs) qs::L)→K (.tuple #[ba tos id keep ttl proto fr to (sl a c qs),.nilIface]) q)
  (k2: ¬gw bs→ ∀ b q,SH w0 q (Ex b::L)→K (.tuple #[fv,bu b]) q):D 23 [v] w K:=
 c23 y hlen (fun h1 keep _ H a c q y=>k1 _ _ keep _ _ _ _ _ h1 ⟨rfl,rfl,rfl,rfl⟩ H (by simp<;>omega) a c q y.ae) k2
theorem c67 {P:Int→List Nat→Prop} {side:Nat} (hsd:side<2) (hpl:s.pl.length≤100000) (hc:s.na.t.count≤1000000) (hP: ∀ f,P side f) (hA: ∀ sd f,(∃ pk,eE 2054 pk f)→P sd f) (hT:gw bs→jW P (bs.getD 9 0) (cJ bs (num bs 2 2)))
  (y:SH w0 w L) [q:aC (Ga p) L s R] [hE:di R] [hz:cL R] [hb:aD R v bs] (hlen:bs.length≤2000)
  (k: ∀ s' w',aP P 2 s s'→SH w0 w' (Ga p s'::R)→K (.tuple #[]) w'):D 67 [pt p,.int .i64 side,v] w K:=by
 obtain ⟨hs,y⟩:=SH.ga y p
 obtain ⟨m1,m2,m3⟩:=hs.1.map
 obtain ⟨ad,c,rfl,hcap,hB1,hl0⟩:=y.enter (v:=v)
 have hown: ∀ z:Int,(((side:Int)=0→z=s.c.i1)∧((side:Int)=1→z=s.c.i2))→ ∃ n:Nat,n<4294967296∧z=n:=fun z h=>by
  rcases (by omega:side=0∨side=1) with rfl | rfl
  ·exact ⟨s.c.i1,by omega,h.1 rfl⟩
  ·exact ⟨s.c.i2,by omega,h.2 rfl⟩
 refine s67 rfl<|ac<|c23g (v:=sl ad c bs) y (by omega) (fun tos id keep ttl proto fr to qs hok heq hB _ ax cx w_13 y=>?_) (fun _ b_13 w_13 y=>?_)
 ·have hT:=hT hok
  rw [←heq.1,←heq.2.2.2] at hT
  have hd: ∀ {d n e:Int},((((side:Int)=1→d=0∨d=4)∧((side:Int)≠1→d=0∨d=1∨d=2∨d=3))∧(0≤n∧n<20)∧(e=0∨e=to∨e=s.c.rt))→(0≤n∧n<20)∧ ∃ m:Nat,m<4294967296∧e=m:=fun h=>
   ⟨h.2.1,by
    have ht:to<4294967296:=hB.2.2.2.2.2
    rcases h.2.2 with h | h | h
    ·exact ⟨0,by decide,h⟩
    ·exact ⟨to,ht,h⟩
    ·exact ⟨s.c.rt,m3,h⟩⟩
  refine y.an fun H w_6 y=>y.aj (b:=H) fun _ y=>aq ⟨_,bg (neg:=true) rfl,ak ?_⟩
  refine bt (8::List.range' 21 11) rfl [0,1,6,8] (fun (x:Int × Int × Int × Nat)=>[pt p,.int .i64 side,pt H,pt x.2.2.2]) (fun (x:Int × Int × Int × Nat) w'=>((0≤x.2.1∧x.2.1<20)∧ ∃ m:Nat,m<4294967296∧x.2.2.1=m)∧SH w0 w' (Cl x.2.2.2 220 [.int .i64 x.1,.int .i64 x.2.1,.int .u32 x.2.2.1]::Ga p s::Cl H 46 [.int .u8 tos,.int .u16 id,.bool keep,.int .u8 ttl,.int .u8 proto,.int .u32 fr,.int .u32 to,sl ax cx qs]::By (sl ax cx qs) qs::R)) ?_ ?_
  ·refine jS<|have y:=y.drew;⟨_,y.ar (b:=p) [.int .u32 s.c.i1,.int .i64 s.c.b1,.int .u32 s.c.i2,.int .i64 s.c.b2,.int .u32 s.c.rt],y.C9 (b:=H) rfl (y.C9 (b:=H) rfl (⟨?_,?_⟩))⟩
   ·refine c110 y (fun d n e hcn w_31 y=>⟨⟨y.ld (b:=H) rfl,⟨y.ld (b:=H) rfl,⟨⟨_,y.ar (b:=p) _,rfl⟩,trivial⟩⟩⟩,y.an fun J w_8 y=>⟨⟨y.ld (b:=H) rfl,⟨y.ld (b:=H) rfl,⟨⟨_,y.ar (b:=p) _,rfl⟩,trivial⟩⟩⟩,y.aj (b:=J) fun w_63 y=>⟨(d,n,e,J),rfl,hd hcn,?_⟩⟩⟩)
    have y:SH w0 _ (Ga p s::Cl J 220 [.int .i64 d,.int .i64 n,.int .u32 e]::Cl H 46 [.int .u8 tos,.int .u16 id,.bool keep,.int .u8 ttl,.int .u8 proto,.int .u32 fr,.int .u32 to,sl ax cx qs]::By (sl ax cx qs) qs::R):=SH.aU (p:=p) (s:=s) (R:=Cl J 220 [.int .i64 d,.int .i64 n,.int .u32 e]::Cl H 46 [.int .u8 tos,.int .u16 id,.bool keep,.int .u8 ttl,.int .u8 proto,.int .u32 fr,.int .u32 to,sl ax cx qs]::By (sl ax cx qs) qs::R) y.ae hs
    show SH w0 _ (Cl J 220 [.int .i64 d,.int .i64 n,.int .u32 e]::Ga p s::Cl H 46 [.int .u8 tos,.int .u16 id,.bool keep,.int .u8 ttl,.int .u8 proto,.int .u32 fr,.int .u32 to,sl ax cx qs]::By (sl ax cx qs) qs::R)
    exact y.ae
   ·refine y.an fun J w_8 y=>⟨⟨y.ld (b:=H) rfl,⟨y.ld (b:=H) rfl,⟨⟨_,y.ar (b:=p) _,rfl⟩,trivial⟩⟩⟩,c110 y (fun d n e hcn w_31 y=>⟨⟨y.ld (b:=H) rfl,⟨y.ld (b:=H) rfl,⟨⟨_,y.ar (b:=p) _,rfl⟩,trivial⟩⟩⟩,y.aj (b:=J) fun w_63 y=>⟨(d,n,e,J),rfl,hd hcn,?_⟩⟩)⟩
    have y:SH w0 _ (Ga p s::Cl J 220 [.int .i64 d,.int .i64 n,.int .u32 e]::Cl H 46 [.int .u8 tos,.int .u16 id,.bool keep,.int .u8 ttl,.int .u8 proto,.int .u32 fr,.int .u32 to,sl ax cx qs]::By (sl ax cx qs) qs::R):=SH.aU (p:=p) (s:=s) (R:=Cl J 220 [.int .i64 d,.int .i64 n,.int .u32 e]::Cl H 46 [.int .u8 tos,.int .u16 id,.bool keep,.int .u8 ttl,.int .u8 proto,.int .u32 fr,.int .u32 to,sl ax cx qs]::By (sl ax cx qs) qs::R) y.ae hs
    show SH w0 _ (Cl J 220 [.int .i64 d,.int .i64 n,.int .u32 e]::Ga p s::Cl H 46 [.int .u8 tos,.int .u16 id,.bool keep,.int .u8 ttl,.int .u8 proto,.int .u32 fr,.int .u32 to,sl ax cx qs]::By (sl ax cx qs) qs::R)
    exact y.ae
  rintro g ⟨d,n,e,J⟩ w6 ⟨⟨hn,m,hm,he⟩,y⟩
  simp only at hn he y
  subst he
  refine ac<|y.C9 (b:=J) rfl<|aM ?_
  refine bt (List.range' 34 35) rfl [0,1,6,8] (fun (_:Unit)=>[pt p,.int .i64 side,pt H,pt J]) (fun _ w'=>SH w0 w' (Cl J 220 [.int .i64 d,.int .i64 n,.int .u32 m]::Ga p s::Cl H 46 [.int .u8 tos,.int .u16 id,.bool keep,.int .u8 ttl,.int .u8 proto,.int .u32 fr,.int .u32 to,sl ax cx qs]::By (sl ax cx qs) qs::R)) ?_ ?_
  ·refine aM<|aG<|aG<|aG<|av<|aq<|ap (fun h_35=>?_) (fun h_35=>?_)
   ·exact aS<|av<|ac<|y.Da (b:=J) rfl<|y.Da (b:=H) rfl<|c111 (P:=P) (v:=sl ax cx qs) hsd hn hB hpl hP y (by omega) (fun s2 w2 h2 y=>ah (k s2 _ h2.le y.ae))
   ·refine ak<|aq<|ap (fun h_37=>?_) (fun h_37=>?_)
    ·refine aS<|av<|aJ<|have y:=y.drew;?_
     obtain ⟨_,y⟩:=SH.ga y p
     refine ⟨_,y.ar (b:=p) [.int .u32 s.c.i1,.int .i64 s.c.b1,.int .u32 s.c.i2,.int .i64 s.c.b2,.int .u32 s.c.rt],y.Da (b:=H) rfl (c49 y (fun _ h_541 _ y=>⟨⟨⟨_,y.af (b:=H) rfl,rfl⟩,⟨⟨_,y.ar (b:=p) _,rfl⟩,trivial⟩⟩,?_⟩))⟩
     obtain ⟨zn,hzn,rfl⟩:=hown _ h_541
     have y:SH w0 _ (Ga p s::By (sl ax cx qs) qs::R):=SH.aU (p:=p) (s:=s) (R:=By (sl ax cx qs) qs::R) y.ae hs
     exact c112 (P:=P) (v:=sl ax cx qs) hsd hzn hB hpl hP y (by omega) (fun s2 w2 h2 y=>ah (k s2 _ h2.le y.ae))
    ·refine ak<|aq<|ap (fun h_39=>?_) (fun h_39=>?_)
     ·refine ak<|ai<|aS<|ac<|y.Da (b:=H) rfl<|c113 y (by omega) (fun h_58 w_58 y=>?_) (fun w_58 y=>?_)
      ·refine ai<|aJ<|have y:=y.drew;?_
       obtain ⟨_,y⟩:=SH.ga y p
       refine ⟨_,y.ar (b:=p) [.int .u32 s.c.i1,.int .i64 s.c.b1,.int .u32 s.c.i2,.int .i64 s.c.b2,.int .u32 s.c.rt],y.Da (b:=H) rfl (c49 y (fun z_66 Y w_66 y=>⟨⟨⟨_,y.af (b:=H) rfl,rfl⟩,⟨⟨_,y.ar (b:=p) _,rfl⟩,trivial⟩⟩,?_⟩))⟩
       obtain ⟨zn,hzn,rfl⟩: ∃ n:Nat,n<4294967296∧z_66=n:=⟨s.c.i2,m2,Y.2 rfl⟩
       have y:SH w0 _ (Ga p s::By (sl ax cx qs) qs::R):=SH.aU (p:=p) (s:=s) (R:=By (sl ax cx qs) qs::R) y.ae hs
       exact c112 (P:=P) (v:=sl ax cx qs) hsd hzn hB hpl hP y (by omega) (fun s2 w2 h2 y=>ah (k s2 _ h2.le y.ae))
      ·exact ai<|ak ⟨(),rfl,y⟩
     ·refine au<|ap (fun h_40=>?_) (fun h_40=>?_)
      ·refine ai<|aS<|ac<|y.Da (b:=H) rfl<|c113 y (by omega) (fun h_58 w_58 y=>?_) (fun w_58 y=>?_)
       ·refine ai<|aJ<|have y:=y.drew;?_
        obtain ⟨_,y⟩:=SH.ga y p
        refine ⟨_,y.ar (b:=p) [.int .u32 s.c.i1,.int .i64 s.c.b1,.int .u32 s.c.i2,.int .i64 s.c.b2,.int .u32 s.c.rt],y.Da (b:=H) rfl (c49 y (fun z_66 Y w_66 y=>⟨⟨⟨_,y.af (b:=H) rfl,rfl⟩,⟨⟨_,y.ar (b:=p) _,rfl⟩,trivial⟩⟩,?_⟩))⟩
        obtain ⟨zn,hzn,rfl⟩: ∃ n:Nat,n<4294967296∧z_66=n:=⟨s.c.i2,m2,Y.2 rfl⟩
        have y:SH w0 _ (Ga p s::By (sl ax cx qs) qs::R):=SH.aU (p:=p) (s:=s) (R:=By (sl ax cx qs) qs::R) y.ae hs
        exact c112 (P:=P) (v:=sl ax cx qs) hsd hzn hB hpl hP y (by omega) (fun s2 w2 h2 y=>ah (k s2 _ h2.le y.ae))
       ·exact ai<|ak ⟨(),rfl,y⟩
      ·exact ai<|ak<|aS ⟨(),rfl,y⟩
  ·rintro g _ w6 y
   refine av<|ac<|y.Da (b:=H) rfl<|c114 (v:=sl ax cx qs) y hB.2.2.1 (fun h_71 a_71 c_71 w_71 y=>?_) (fun h_71 w_71 y=>?_)
   ·exact y.an fun b_9 w_9 y=>y.aj (b:=b_9) fun _ y=>aq<|Dj<|ak<|au<|y.Da (b:=J) rfl<|y.Da (b:=b_9) rfl<|c116 (P:=P) (v:=sl a_71 c_71 qs) hm ⟨hB.1,hB.2.1,by have:=hB.2.2.1;omega,hB.2.2.2⟩ hpl hc hA hT y (by omega) (fun s2 w2 h2 y=>aS (k s2 _ h2 y.ae))
   ·exact y.an fun b_9 w_9 y=>y.aj (b:=b_9) fun _ y=>aq<|Dj<|ac<|c62 (by omega) y (fun _ y=>ac (y.Da (b:=H) rfl (c115 (P:=P) (s:= { s with D:=aF s.D 6 (IntKind.i64.wrap (bZ s.D 6+1)) }) (v:=sl ax cx qs) hsd ⟨by decide,by decide⟩ hB hpl hP y (by omega) (fun s2 w2 h2 y=>ah (k s2 _ ((((aP.refl (n:=0) s).drop _).trans h2).le) y.ae)))))
 ·refine y.an fun H w_6 y=>y.aj (b:=H) fun _ y=>aq ⟨_,bH (neg:=true) rfl,ac ?_⟩
  have y:SH w0 _ (Ga p s::Ex b_13::R):=SH.aU (p:=p) (s:=s) (R:=Ex b_13::R) y.ae hs
  have y:SH w0 _ (Ex b_13::Ga p s::R):=y.ae
  exact c64 (s:=s) y (fun r w2 _ y=>ah (k { s with D:=aF s.D r (IntKind.i64.wrap (bZ s.D r+1)) } _ ((aP.refl s).drop _) y.ae))
end
end
section
section
variable {w0 w:World} {L R R2 R3:List ao} {K:Value→World→Prop} {p:Nat} {s:bA} {v:Value} {bs:List Nat}
attribute [local irreducible] ay aQ aH aY a6 aW aK aV num be over nb rowOf bD ct
theorem c66 {P:Int→List Nat→Prop} {side m0 m1 m2 m3 m4 m5 ip:Nat} {a:Option Addr} {c:Nat} {zs:List Int} {pk rep:Value} (h1:dZ pk=true) (h2:dZ rep=true) (J:side<2) (hm:bw (bq m0 m1 m2 m3 m4 m5)) (hpl:s.pl.length≤90000) (hz:zs.length≤64) (hP: ∀ f,P side f)
  (q:SH w0 w (Ga p s::Rd 1 (.slice a zs.length c) (ints zs)::R))
  (k: ∀ s' w',aP P 64 s s'→SH w0 w' (Ga p s'::R)→K (.tuple #[]) w'):D 66 [pt p,C5 side,kM pk rep (.slice a zs.length c) m0 m1 m2 m3 m4 m5 ip] w K:=by
 refine s66 rfl<|ac<|q.az [pk,rep,.slice a zs.length c,C1 m0,C1 m1,C1 m2,C1 m3,C1 m4,C1 m5,C3 ip] fun H _ q=>ac<|q.C9 (b:=H) rfl<|pa 2 rfl<|aM ?_
 refine bU ([7,8,9,10,11]++List.range' 15 39) rfl [0,1,5,13,14,15] (fun (x:Nat × bA)=>[pt p,C5 side,pt H,.slice a zs.length c,C5 zs.length,C5 x.1]) (fun x w'=>(x.1≤zs.length∧aP P x.1 s x.2)∧SH w0 w' (Ga p x.2::Cl H 149 [pk,rep,.slice a zs.length c,C1 m0,C1 m1,C1 m2,C1 m3,C1 m4,C1 m5,C3 ip]::Rd 1 (.slice a zs.length c) (ints zs)::R)) (fun x=>zs.length - x.1) (0,s) rfl ⟨⟨Nat.zero_le _,aP.refl s⟩,q.ae⟩ ?_
 rintro g ⟨i,s1⟩ w6 ⟨⟨hi,Y⟩,q⟩
 simp only at hi Y q
 have hpl1:s1.pl.length≤100000:=by have:=Y.len;omega
 refine ac<|ap (fun h_16=>?_) (fun h_16=>?_)
 rotate_left
 ·exact av<|ai<|aS<|k s1 _ Y.le q.ae
 refine av<|ai<|ak<|aG<|ac ?_
 obtain ⟨ad,rfl⟩:=q.dW a
 refine ⟨by omega,_,rfl,⟨_,q.fe (ints_at (by omega)),?_⟩⟩
 obtain ⟨hs,q⟩:=SH.ga q p
 refine ac<|q.C9 (b:=p) rfl<|c108 q (fun fs a2 c2 _ _ _ q=>ac (q.C9 (b:=p) rfl (Db (c70 q (fun y _ _ q=>aJ ?_)))))
 have q:=q.drew
 refine ⟨_,bL (n:=side) Tryz.underlying82 (by kernel_rfl) J rfl rfl rfl,⟨_,SH.cD (s:=s1) J q,⟨_,q.ar (b:=H) [C1 m0,C1 m1,C1 m2,C1 m3,C1 m4,C1 m5],?_⟩⟩⟩
 have q:SH w0 _ (Ga p { s1 with po:=y } ::By (sl a2 c2 fs) fs::Cl H 149 [pk,rep,.slice (some ad) zs.length c,C1 m0,C1 m1,C1 m2,C1 m3,C1 m4,C1 m5,C3 ip]::Rd 1 (.slice (some ad) zs.length c) (ints zs)::R):=SH.aU (p:=p) (s:= { s1 with po:=y }) (R:=By (sl a2 c2 fs) fs::Cl H 149 [pk,rep,.slice (some ad) zs.length c,C1 m0,C1 m1,C1 m2,C1 m3,C1 m4,C1 m5,C3 ip]::Rd 1 (.slice (some ad) zs.length c) (ints zs)::R) q.ae ⟨hs.1,hs.2,hs.3⟩
 refine c109g (p:=p) (s:= { s1 with po:=y }) (side:=side) (v:=sl a2 c2 fs) (bs:=fs) J hm q (by omega) (fun fr a3 c3 _ _ _ q=>?_)
 obtain ⟨_,hO⟩:=SH.ga q p
 exact ⟨⟨⟨_,hO.ar (b:=H) _,rfl⟩,⟨SH.cD (s:= { s1 with po:=y }) J hO,⟨bL (n:=side) Tryz.underlying82 (by kernel_rfl) J rfl rfl rfl,trivial⟩⟩⟩,au (c65 (P:=P) (s:= { s1 with po:=y }) (v:=sl a3 c3 fr) (bs:=fr) J (hP _) hpl1 q (by omega) (fun s4 _ h4 q=>au (Db (⟨(i+1,s4),rfl,⟨⟨by show i+1≤zs.length;omega,(Y.po _).trans h4⟩,q.ae⟩,by show zs.length - (i+1)<zs.length - i;omega⟩))))⟩
structure rz where
 s:bA
 a1:Option Addr
 c1:Nat
 qs:List Nat
 a2:Option Addr
 c2:Nat
 rs:List Nat
 a3:Option Addr
 c3:Nat
 zs:List Int
 m0:Nat
 m1:Nat
 m2:Nat
 m3:Nat
 m4:Nat
 m5:Nat
 ip:Nat
 b:Nat
 er:Option (Nat × Int)
abbrev vW (x:rz):List Value:=[sl x.a1 x.c1 x.qs,sl x.a2 x.c2 x.rs,.slice x.a3 x.zs.length x.c3,C1 x.m0,C1 x.m1,C1 x.m2,C1 x.m3,C1 x.m4,C1 x.m5,C3 x.ip]
def vX:Option (Nat × Int)→Value
 | none=> .nilIface
 | some q=>bu q.1
def BG:Option (Nat × Int)→ao
 | none=>Fact True
 | some q=>Er q.1 q.2
structure BH (P:Int→List Nat→Prop) (bs:List Nat) (s0:bA) (x:rz):Prop where
 st:aP P 0 s0 x.s
 rs:x.rs.length≤1514
 zs:x.zs.length≤64
 bq:bw (bq x.m0 x.m1 x.m2 x.m3 x.m4 x.m5)
 ip:x.ip<4294967296
 qs:x.qs=[]∨(num bs 12 2=2048∧x.qs=bs.drop 14)
 er:x.er≠none→x.s=s0
 bad: ¬ep bs→ ∃ b,x.er=some (b,1)
theorem lJ:bw (bq 0 0 0 0 0 0):=⟨0,0,0,0,0,0,rfl,by decide,by decide,by decide,by decide,by decide,by decide⟩
theorem c26 {P:Int→List Nat→Prop} {side:Nat} (J:side<2) (hpl:s.pl.length≤80000) (hc:s.na.t.count≤900000) (hP: ∀ f,P side f) (hA: ∀ sd f,(∃ pk,eE 2054 pk f)→P sd f) (hT:num bs 12 2=2048→gw (bs.drop 14)→jW P ((bs.drop 14).getD 9 0) (cJ (bs.drop 14) (num (bs.drop 14) 2 2)))
  (y:SH w0 w L) [q:aC (Ga p) L s R] [hE:di R] [hz:cL R] [hb:aD R v bs] (hlen:bs.length≤2000)
  (k: ∀ s' w',aP P 70 s s'→(¬ep bs→bs.length≤1514→(∃ x∈s.po.l,x.o=0)→ ∃ po,s'= { s with po:=po,D:=aF s.D 1 (IntKind.i64.wrap (bZ s.D 1+1)) })→SH w0 w' (Ga p s'::R)→K (.tuple #[]) w'):D 26 [pt p,C5 side,v] w K:=by
 have y:=y.at (Ga p)
 obtain ⟨ad,c,rfl,hcap,hB1,hl0⟩:=y.enter (v:=v)
 refine s26 rfl<|av<|ac<|c61 (v:=sl ad c bs) y (by omega) (fun po'_13 w_13 y=>?_) (fun r_13 w_13 h_132 _ y=>?_)
 ·obtain ⟨s1,hs1⟩: ∃ s1,s1= { s with po:=po'_13 } :=⟨_,rfl⟩
  rw [←hs1] at y
  have st1:aP P 0 s s1:=hs1▸(aP.refl s).po _
  have hpl1:s1.pl.length≤80000:=by have:=st1.len;omega
  have hc1:s1.na.t.count≤900000:=by have:=st1.cnt;omega
  refine ac<|Dj<|ai<|ak ?_
  refine bt ([8,9]++List.range' 21 15) rfl [0,1,8,9] (fun (x:rz)=>[pt p,C5 side,pt x.b,vX x.er]) (fun x w'=>BH P bs s1 x∧SH w0 w' (Cl x.b 149 (vW x)::Ga p x.s::By (sl x.a1 x.c1 x.qs) x.qs::By (sl x.a2 x.c2 x.rs) x.rs::Rd 1 (.slice x.a3 x.zs.length x.c3) (ints x.zs)::BG x.er::R)) ?_ ?_
  ·refine jS<|have y:=y.drew;?_
   obtain ⟨hs1,Y⟩:=SH.ga y p
   refine ⟨_,bL (n:=side) Tryz.underlying82 (by kernel_rfl) J rfl rfl rfl,⟨_,SH.cD (s:=s1) J Y,Y.C9 (b:=p) rfl (⟨?_,?_⟩)⟩⟩
   ·refine c63g (P:=P) (p:=p) (s:=s1) (side:=side) (v:=sl ad c bs) J y (fun h1 h2 ax cx w2 y=>?_) (fun h1 h2 s2 zs rs a3 c3 a2 c2 m0 m1 m2 m3 m4 m5 ip w2 h3 h4 h5 h6 h7 h8 y=>?_) (fun eb er w2 h1 y=>?_)
    ·obtain ⟨hs2,Y⟩:=SH.ga y p
     refine ⟨⟨Y.ld (b:=p) rfl,SH.cD (s:=s1) J Y,bL (n:=side) Tryz.underlying82 (by kernel_rfl) J rfl rfl rfl,trivial⟩,y.an fun H w_8 y=>?_⟩
     obtain ⟨_,Y⟩:=SH.ga y p
     refine ⟨⟨Y.ld (b:=p) rfl,SH.cD (s:=s1) J Y,bL (n:=side) Tryz.underlying82 (by kernel_rfl) J rfl rfl rfl,trivial⟩,y.aj (b:=H) fun w_24 y=>?_⟩
     obtain ⟨_,Y⟩:=SH.ga y p
     refine ⟨⟨Y.ld (b:=p) rfl,SH.cD (s:=s1) J Y,bL (n:=side) Tryz.underlying82 (by kernel_rfl) J rfl rfl rfl,trivial⟩,?_⟩
     have y:SH w0 _ (Cl H 149 [sl ax cx (bs.drop 14),sN,sN,C1 0,C1 0,C1 0,C1 0,C1 0,C1 0,C3 0]::Ga p s1::By (sl ax cx (bs.drop 14)) (bs.drop 14)::R):=y.ae
     have y:=((SH.cH y).lz 1 none 0).fact trivial
     refine ⟨⟨s1,ax,cx,bs.drop 14,none,0,[],none,0,[],0,0,0,0,0,0,0,H,none⟩,rfl,⟨(aP.refl s1),Nat.zero_le _,Nat.zero_le _,lJ,(show (0:Nat)<4294967296 by decide),.inr ⟨h1,rfl⟩,fun h=>absurd rfl h,fun h=>absurd h2 h⟩,?_⟩
     show SH w0 _ (Cl H 149 [sl ax cx (bs.drop 14),sN,sN,C1 0,C1 0,C1 0,C1 0,C1 0,C1 0,C3 0]::Ga p s1::By (sl ax cx (bs.drop 14)) (bs.drop 14)::By (sN) []::Rd 1 (sN) (ints [])::Fact True::R)
     exact SH.ae (L':=Cl H 149 [sl ax cx (bs.drop 14),sN,sN,C1 0,C1 0,C1 0,C1 0,C1 0,C1 0,C3 0]::Ga p s1::By (sl ax cx (bs.drop 14)) (bs.drop 14)::By (sN) []::Rd 1 (sN) []::Fact True::R) y
    ·obtain ⟨hs2,Y⟩:=SH.ga y p
     rw [h4] at Y
     refine ⟨⟨Y.ld (b:=p) rfl,SH.cD (s:=s1) J Y,bL (n:=side) Tryz.underlying82 (by kernel_rfl) J rfl rfl rfl,trivial⟩,y.an fun H w_8 y=>?_⟩
     obtain ⟨_,Y⟩:=SH.ga y p
     rw [h4] at Y
     refine ⟨⟨Y.ld (b:=p) rfl,SH.cD (s:=s1) J Y,bL (n:=side) Tryz.underlying82 (by kernel_rfl) J rfl rfl rfl,trivial⟩,y.aj (b:=H) fun w_24 y=>?_⟩
     obtain ⟨_,Y⟩:=SH.ga y p
     rw [h4] at Y
     refine ⟨⟨Y.ld (b:=p) rfl,SH.cD (s:=s1) J Y,bL (n:=side) Tryz.underlying82 (by kernel_rfl) J rfl rfl rfl,trivial⟩,?_⟩
     have y:SH w0 _ (Cl H 149 [sN,sl a2 c2 rs,.slice a3 zs.length c3,C1 m0,C1 m1,C1 m2,C1 m3,C1 m4,C1 m5,C3 ip]::Ga p s2::Rd 1 (.slice a3 zs.length c3) (ints zs)::By (sl a2 c2 rs) rs::R):=y.ae
     have y:=(SH.cH y).fact trivial
     refine ⟨⟨s2,none,0,[],a2,c2,rs,a3,c3,zs,m0,m1,m2,m3,m4,m5,ip,H,none⟩,rfl,⟨h3,h6,h5,h7,h8,.inl rfl,fun h=>absurd rfl h,fun h=>absurd h2 h⟩,?_⟩
     show SH w0 _ (Cl H 149 [sN,sl a2 c2 rs,.slice a3 zs.length c3,C1 m0,C1 m1,C1 m2,C1 m3,C1 m4,C1 m5,C3 ip]::Ga p s2::By (sN) []::By (sl a2 c2 rs) rs::Rd 1 (.slice a3 zs.length c3) (ints zs)::Fact True::R)
     exact SH.ae (L':=Cl H 149 [sN,sl a2 c2 rs,.slice a3 zs.length c3,C1 m0,C1 m1,C1 m2,C1 m3,C1 m4,C1 m5,C3 ip]::Ga p s2::By (sN) []::By (sl a2 c2 rs) rs::Rd 1 (.slice a3 zs.length c3) (ints zs)::Fact True::R) y
    ·obtain ⟨hs2,Y⟩:=SH.ga y p
     refine ⟨⟨Y.ld (b:=p) rfl,SH.cD (s:=s1) J Y,bL (n:=side) Tryz.underlying82 (by kernel_rfl) J rfl rfl rfl,trivial⟩,y.an fun H w_8 y=>?_⟩
     obtain ⟨_,Y⟩:=SH.ga y p
     refine ⟨⟨Y.ld (b:=p) rfl,SH.cD (s:=s1) J Y,bL (n:=side) Tryz.underlying82 (by kernel_rfl) J rfl rfl rfl,trivial⟩,y.aj (b:=H) fun w_24 y=>?_⟩
     obtain ⟨_,Y⟩:=SH.ga y p
     refine ⟨⟨Y.ld (b:=p) rfl,SH.cD (s:=s1) J Y,bL (n:=side) Tryz.underlying82 (by kernel_rfl) J rfl rfl rfl,trivial⟩,?_⟩
     have y:SH w0 _ (Cl H 149 [sN,sN,sN,C1 0,C1 0,C1 0,C1 0,C1 0,C1 0,C3 0]::Ga p s1::Er eb er::R):=y.ae
     have y:=(SH.cH (SH.cH y)).lz 1 none 0
     refine ⟨⟨s1,none,0,[],none,0,[],none,0,[],0,0,0,0,0,0,0,H,some (eb,er)⟩,rfl,⟨(aP.refl s1),Nat.zero_le _,Nat.zero_le _,lJ,(show (0:Nat)<4294967296 by decide),.inl rfl,fun _=>rfl,fun h=>⟨eb,by rw [h1 h]⟩⟩,?_⟩
     show SH w0 _ (Cl H 149 [sN,sN,sN,C1 0,C1 0,C1 0,C1 0,C1 0,C1 0,C3 0]::Ga p s1::By (sN) []::By (sN) []::Rd 1 (sN) (ints [])::Er eb er::R)
     exact SH.ae (L':=Cl H 149 [sN,sN,sN,C1 0,C1 0,C1 0,C1 0,C1 0,C1 0,C3 0]::Ga p s1::By (sN) []::By (sN) []::Rd 1 (sN) []::Er eb er::R) y
   ·refine y.an fun H w_8 y=>?_
    obtain ⟨hs1,Y⟩:=SH.ga y p
    refine ⟨⟨Y.ld (b:=p) rfl,SH.cD (s:=s1) J Y,bL (n:=side) Tryz.underlying82 (by kernel_rfl) J rfl rfl rfl,trivial⟩,c63g (P:=P) (p:=p) (s:=s1) (side:=side) (v:=sl ad c bs) J y (fun h1 h2 ax cx w2 y=>?_) (fun h1 h2 s2 zs rs a3 c3 a2 c2 m0 m1 m2 m3 m4 m5 ip w2 h3 h4 h5 h6 h7 h8 y=>?_) (fun eb er w2 h1 y=>?_)⟩
    ·obtain ⟨hs2,Y⟩:=SH.ga y p
     refine ⟨⟨Y.ld (b:=p) rfl,SH.cD (s:=s1) J Y,bL (n:=side) Tryz.underlying82 (by kernel_rfl) J rfl rfl rfl,trivial⟩,y.aj (b:=H) fun w_24 y=>?_⟩
     obtain ⟨_,Y⟩:=SH.ga y p
     refine ⟨⟨Y.ld (b:=p) rfl,SH.cD (s:=s1) J Y,bL (n:=side) Tryz.underlying82 (by kernel_rfl) J rfl rfl rfl,trivial⟩,?_⟩
     have y:SH w0 _ (Cl H 149 [sl ax cx (bs.drop 14),sN,sN,C1 0,C1 0,C1 0,C1 0,C1 0,C1 0,C3 0]::Ga p s1::By (sl ax cx (bs.drop 14)) (bs.drop 14)::R):=y.ae
     have y:=((SH.cH y).lz 1 none 0).fact trivial
     refine ⟨⟨s1,ax,cx,bs.drop 14,none,0,[],none,0,[],0,0,0,0,0,0,0,H,none⟩,rfl,⟨(aP.refl s1),Nat.zero_le _,Nat.zero_le _,lJ,(show (0:Nat)<4294967296 by decide),.inr ⟨h1,rfl⟩,fun h=>absurd rfl h,fun h=>absurd h2 h⟩,?_⟩
     show SH w0 _ (Cl H 149 [sl ax cx (bs.drop 14),sN,sN,C1 0,C1 0,C1 0,C1 0,C1 0,C1 0,C3 0]::Ga p s1::By (sl ax cx (bs.drop 14)) (bs.drop 14)::By (sN) []::Rd 1 (sN) (ints [])::Fact True::R)
     exact SH.ae (L':=Cl H 149 [sl ax cx (bs.drop 14),sN,sN,C1 0,C1 0,C1 0,C1 0,C1 0,C1 0,C3 0]::Ga p s1::By (sl ax cx (bs.drop 14)) (bs.drop 14)::By (sN) []::Rd 1 (sN) []::Fact True::R) y
    ·obtain ⟨hs2,Y⟩:=SH.ga y p
     rw [h4] at Y
     refine ⟨⟨Y.ld (b:=p) rfl,SH.cD (s:=s1) J Y,bL (n:=side) Tryz.underlying82 (by kernel_rfl) J rfl rfl rfl,trivial⟩,y.aj (b:=H) fun w_24 y=>?_⟩
     obtain ⟨_,Y⟩:=SH.ga y p
     rw [h4] at Y
     refine ⟨⟨Y.ld (b:=p) rfl,SH.cD (s:=s1) J Y,bL (n:=side) Tryz.underlying82 (by kernel_rfl) J rfl rfl rfl,trivial⟩,?_⟩
     have y:SH w0 _ (Cl H 149 [sN,sl a2 c2 rs,.slice a3 zs.length c3,C1 m0,C1 m1,C1 m2,C1 m3,C1 m4,C1 m5,C3 ip]::Ga p s2::Rd 1 (.slice a3 zs.length c3) (ints zs)::By (sl a2 c2 rs) rs::R):=y.ae
     have y:=(SH.cH y).fact trivial
     refine ⟨⟨s2,none,0,[],a2,c2,rs,a3,c3,zs,m0,m1,m2,m3,m4,m5,ip,H,none⟩,rfl,⟨h3,h6,h5,h7,h8,.inl rfl,fun h=>absurd rfl h,fun h=>absurd h2 h⟩,?_⟩
     show SH w0 _ (Cl H 149 [sN,sl a2 c2 rs,.slice a3 zs.length c3,C1 m0,C1 m1,C1 m2,C1 m3,C1 m4,C1 m5,C3 ip]::Ga p s2::By (sN) []::By (sl a2 c2 rs) rs::Rd 1 (.slice a3 zs.length c3) (ints zs)::Fact True::R)
     exact SH.ae (L':=Cl H 149 [sN,sl a2 c2 rs,.slice a3 zs.length c3,C1 m0,C1 m1,C1 m2,C1 m3,C1 m4,C1 m5,C3 ip]::Ga p s2::By (sN) []::By (sl a2 c2 rs) rs::Rd 1 (.slice a3 zs.length c3) (ints zs)::Fact True::R) y
    ·obtain ⟨hs2,Y⟩:=SH.ga y p
     refine ⟨⟨Y.ld (b:=p) rfl,SH.cD (s:=s1) J Y,bL (n:=side) Tryz.underlying82 (by kernel_rfl) J rfl rfl rfl,trivial⟩,y.aj (b:=H) fun w_24 y=>?_⟩
     obtain ⟨_,Y⟩:=SH.ga y p
     refine ⟨⟨Y.ld (b:=p) rfl,SH.cD (s:=s1) J Y,bL (n:=side) Tryz.underlying82 (by kernel_rfl) J rfl rfl rfl,trivial⟩,?_⟩
     have y:SH w0 _ (Cl H 149 [sN,sN,sN,C1 0,C1 0,C1 0,C1 0,C1 0,C1 0,C3 0]::Ga p s1::Er eb er::R):=y.ae
     have y:=(SH.cH (SH.cH y)).lz 1 none 0
     refine ⟨⟨s1,none,0,[],none,0,[],none,0,[],0,0,0,0,0,0,0,H,some (eb,er)⟩,rfl,⟨(aP.refl s1),Nat.zero_le _,Nat.zero_le _,lJ,(show (0:Nat)<4294967296 by decide),.inl rfl,fun _=>rfl,fun h=>⟨eb,by rw [h1 h]⟩⟩,?_⟩
     show SH w0 _ (Cl H 149 [sN,sN,sN,C1 0,C1 0,C1 0,C1 0,C1 0,C1 0,C3 0]::Ga p s1::By (sN) []::By (sN) []::Rd 1 (sN) (ints [])::Er eb er::R)
     exact SH.ae (L':=Cl H 149 [sN,sN,sN,C1 0,C1 0,C1 0,C1 0,C1 0,C1 0,C3 0]::Ga p s1::By (sN) []::By (sN) []::Rd 1 (sN) []::Er eb er::R) y
  rintro g ⟨s2,a1,c1,qs,a2,c2,rs,a3,c3,zs,m0,m1,m2,m3,m4,m5,ip,H,er⟩ w6 ⟨hJ,y⟩
  obtain ⟨j1,j2,j3,j4,j5,j6,j7,j8⟩:=hJ
  simp only [vW] at j1 j2 j3 j4 j5 j6 j7 j8 y
  cases er with
  | some q=>
   obtain ⟨eb,er⟩:=q
   have y:SH w0 w6 (Er eb er::Ga p s2::R):=SH.ae (L:=Cl H 149 [sl a1 c1 qs,sl a2 c2 rs,.slice a3 zs.length c3,C1 m0,C1 m1,C1 m2,C1 m3,C1 m4,C1 m5,C3 ip]::Ga p s2::By (sl a1 c1 qs) qs::By (sl a2 c2 rs) rs::Rd 1 (.slice a3 zs.length c3) (ints zs)::Er eb er::R) y
   refine aG<|ac ⟨_,bH (neg:=true) rfl,ai (ac (c64e (s:=s2) y (fun _ _ h9=>ah ?_)))⟩
   have e2:s2= { s with po:=po'_13 } :=(j7 (fun h=>by cases h)).trans hs1
   exact k { s2 with D:=aF s2.D er (IntKind.i64.wrap (bZ s2.D er+1)) } _ ((st1.trans (j1.drop _)).le) (fun hbad _ _=>by obtain ⟨b,hb⟩:=j8 hbad;cases hb;exact ⟨po'_13,by rw [e2]⟩) h9.ae
  | none=>
   have hok:ep bs:=Classical.byContradiction fun h=>by obtain ⟨b,hb⟩:=j8 h;cases hb
   have y:SH w0 w6 (Cl H 149 [sl a1 c1 qs,sl a2 c2 rs,.slice a3 zs.length c3,C1 m0,C1 m1,C1 m2,C1 m3,C1 m4,C1 m5,C3 ip]::Ga p s2::By (sl a1 c1 qs) qs::By (sl a2 c2 rs) rs::Rd 1 (.slice a3 zs.length c3) (ints zs)::R):=y.ae
   have hpl2:s2.pl.length≤80000:=by have:=j1.len;omega
   have hc2:s2.na.t.count≤900000:=by have:=j1.cnt;omega
   refine bt (List.range' 36 16) rfl [0,1,8] (fun (x:bA)=>[pt p,C5 side,pt H]) (fun x w'=>aP P 1 s2 x∧SH w0 w' (Cl H 149 [sl a1 c1 qs,sl a2 c2 rs,.slice a3 zs.length c3,C1 m0,C1 m1,C1 m2,C1 m3,C1 m4,C1 m5,C3 ip]::Ga p x::By (sl a1 c1 qs) qs::Rd 1 (.slice a3 zs.length c3) (ints zs)::R)) ?_ ?_
   ·refine aM<|ac ⟨_,bg (neg:=true) rfl,ai (ac (y.C9 (b:=H) rfl (ap (fun h_46=>?_) (fun h_46=>?_))))⟩
    ·exact ai<|au<|y.C9 (b:=H) rfl<|c65 (P:=P) (v:=sl a2 c2 rs) (bs:=rs) J (hP _) (by omega) y (by omega) (fun s3 w9 h5 y=>⟨s3,rfl,h5,y.ae⟩)
    ·exact ai<|ak ⟨s2,rfl,aP.refl s2,y.ae⟩
   rintro g s3 w7 ⟨h3,y⟩
   have hpl3:s3.pl.length≤80001:=by have:=h3.len;omega
   have hc3:s3.na.t.count≤900001:=by have:=h3.cnt;omega
   refine ac<|y.Da (b:=H) rfl ?_
   have y:SH w0 w7 (Ga p s3::Rd 1 (.slice a3 zs.length c3) (ints zs)::Cl H 149 [sl a1 c1 qs,sl a2 c2 rs,.slice a3 zs.length c3,C1 m0,C1 m1,C1 m2,C1 m3,C1 m4,C1 m5,C3 ip]::By (sl a1 c1 qs) qs::R):=y.ae
   refine c66 (P:=P) (pk:=sl a1 c1 qs) (rep:=sl a2 c2 rs) rfl rfl J j4 (by omega) j3 hP y (fun s4 _ h4 y=>?_)
   have hpl4:s4.pl.length≤100000:=by have:=h4.len;omega
   have hc4:s4.na.t.count≤1000000:=by have:=h4.cnt;omega
   have hst:=((st1.trans j1).trans h3).trans h4
   refine ac<|y.C9 (b:=H) rfl<|ap (fun h_58=>?_) (fun h_58=>?_)
   ·refine ai<|au<|y.C9 (b:=H) rfl<|c67 (P:=P) (v:=sl a1 c1 qs) J hpl4 hc4 hP hA ?_ y ?_ (fun s5 w9 h5 y=>?_)
    ·rcases j6 with h | ⟨h,h'⟩
     ·intro hi;rw [h] at hi;exact absurd hi.1.1 (by decide)
     ·intro hi;rw [h'] at hi ⊢;exact hT h hi
    ·rcases j6 with h | ⟨h,h'⟩
     ·rw [h];exact Nat.zero_le _
     ·rw [h',List.length_drop];omega
    ·exact k s5 _ (hst.trans h5).le (fun h=>absurd hok h) y.ae
   ·exact ai<|ak<|k s4 _ hst.le (fun h=>absurd hok h) y.ae
 ·exact ac<|Dj<|ai<|ac<|c62 ⟨by omega,by omega⟩ y (fun _ y=>ah (k { s with D:=aF s.D r_13 (IntKind.i64.wrap (bZ s.D r_13+1)) } _ ((aP.refl s).drop _) (fun _ h1 h2=>absurd h_132 (fun h=>h.elim (fun h=>by omega) (fun h=>by obtain ⟨x,hx,h0⟩:=h2;exact h x hx h0))) y.ae))
end
end
section
theorem BI:(Tryz.prog.info? 81).map (·.size)=some 1:=by kernel_rfl
theorem BJ {w:World} {f:Fr} {o:Oper} {x i:Operand} {n a b:Nat} (H:o.op= .index 82 x i) (J:ev f x= .agg #[pt a,pt b]) (hi:ev f i=C5 n) (hn:n<2):(execOp (ev f) o).run Tryz.prog w= .ok (.value (pt (if n=0 then a else b))) w:=by
 have q:=BI
 cases y:Tryz.prog.info? 81 with
 | none=>rw [y] at q;cases q
 | some inf=>
  rw [y] at q
  simp at q
  unfold execOp
  rcases (by omega:n=0∨n=1) with rfl | rfl<;>simp [H,J,hi,Instr.index,run_underlying Tryz.underlying82,eG y,q,asIntOf,part,Tryz.isAgg81]
instance el52:jM Tryz.prog 52 44 (sN) 1 24:=⟨⟨Tryz.underlying52,by kernel_rfl,rfl,by decide⟩,by decide⟩
section
variable {w0 w:World} {L R R2 R3:List ao} {K:Value→World→Prop} {p:Nat} {s:bA} {v:Value} {bs:List Nat}
attribute [local irreducible] ay aQ aH aY a6 aW aK aV num be over nb rowOf bD ct
theorem c28 {P:Int→List Nat→Prop} {side n:Nat} (H:side<2) (hn:n≤256) (y:SH w0 w L) [q:aC (Ga p) L s R]
  (k: ∀ s' a m c w',aP P 0 s s'→SH w0 w' (Ga p s'::R)→K (.slice a m c) w'):D 28 [pt p,C5 side,C4 n] w K:=by
 have y:=y.at (Ga p)
 refine s28 rfl<|ac<|ac<|av<|ac<|pa 2 rfl<|aM ?_
 have y:=y.rowOf (sN) 44 1
 refine bU ([7,8,9]++List.range' 11 19) rfl [0,1,7,10,11] (fun (x:Nat × bA × Option Addr × Nat × Nat × List Value)=>[pt p,C5 side,.slice x.2.2.1 x.2.2.2.2.1 x.2.2.2.1,C4 n,C4 x.1]) (fun x w'=>(x.1≤n∧x.2.2.2.2.1=x.1∧aP P 0 s x.2.1)∧SH w0 w' (Row 44 1 (.slice x.2.2.1 x.2.2.2.2.1 x.2.2.2.1) x.2.2.2.2.1 x.2.2.2.2.2::Ga p x.2.1::R)) (fun x=>n - x.1) (0,s,none,0,0,[]) rfl ⟨⟨Nat.zero_le _,rfl,aP.refl s⟩,y.ae⟩ ?_
 rintro g ⟨i,s1,a,c,m,xs⟩ w6 ⟨⟨hi,hm,J⟩,y⟩
 simp only at hi hm J y
 refine ac<|ap (fun Y=>?_) (fun Y=>?_)
 ·refine av<|ai<|ak<|aG<|ac ?_
  obtain ⟨_,hO⟩:=SH.ga y p
  refine ⟨_,bL (n:=side) Tryz.underlying84 (by kernel_rfl) H rfl rfl rfl,⟨_,SH.BF (s:=s1) H hO,c75g (P:=P) (p:=p) (s:=s1) (side:=side) H y (fun s2 fs a2 c2 b2 _ h2 _ _ y=>?_)⟩⟩
  cases b2
  ·exact aq<|Dj<|aS<|ac<|ah<|k s2 a m c _ (J.trans h2).le y.ae
  ·exact aq<|Dj<|ak<|au ⟨rfl,[sl a2 c2 fs],rfl,y.an fun b_27 _ y=>aZ (dL (v:= .slice a m c) (u:= .slice (some ⟨b_27,0,none⟩) 1 1) rfl rfl rfl y (y.fa rfl) rfl (by omega) fun a_28 c_28 _ y=>au (Dc (⟨(i+1,s2,a_28,c_28,m+1,xs++[sl a2 c2 fs]),rfl,⟨⟨by show i+1≤n;omega,by show m+1=i+1;omega,(J.trans h2).le⟩,y.ae⟩,by show n - (i+1)<n - i;omega⟩)))⟩
 ·refine av<|ai<|aS<|ac<|ah<|k _ _ _ _ _ ‹_› y.ae
theorem c27 {P:Int→List Nat→Prop} {n:Nat} (hn:s.now+n≤2305843009213693952) (H:SH w0 w L) [q:aC (Ga p) L s R] [hz:cL R]
  (k: ∀ s' w',aP P 0 { s with now:=s.now+n } s'→(s.bh.c.W=[]→s.bl.c.W=[]→s'.D=s.D)→SH w0 w' (Ga p s'::R)→K (C5 0) w'):D 27 [pt p,C4 n] w K:=by
 obtain ⟨hs,H⟩:=SH.ga H p
 refine s27 rfl<|ac<|aq<|H.C9 (b:=p) rfl<|Dc<|Df<|ak<|ac<|H.C9 (b:=p) rfl ⟨((s.now+n:Nat):Int),(IntWalk.u64_in _ (by omega)).trans (by omega),?_⟩
 obtain ⟨J,hs0⟩: ∃ J,J= { s with now:=s.now+n } :=⟨_,rfl⟩
 refine H.aN (b:=p) _ (bR { s with now:=s.now+n }) fun w_18 H=>?_
 have H:SH w0 w_18 (Ga p { s with now:=s.now+n } ::R):=SH.aU (p:=p) (s:= { s with now:=s.now+n }) H.ae ⟨hs.1,hn,hs.3⟩
 rw [←hs0] at H k
 have e0:J.bh=s.bh:=by rw [hs0]
 have e1:J.bl=s.bl:=by rw [hs0]
 have eD:J.D=s.D:=by rw [hs0]
 rw [←e0,←e1,←eD] at k
 refine bt ([5,6,8]++List.range' 24 32) rfl [0,4] (fun (_:bA)=>[pt p,C5 0]) (fun x w'=>(aP P 0 J x∧(J.bh.c.W=[]→J.bl.c.W=[]→x.D=J.D))∧SH w0 w' (Ga p x::R)) ?_ ?_
 ·refine ac ?_
  obtain ⟨_,hO⟩:=SH.ga H p
  refine ⟨_,hO.ar (b:=p) [pt J.l0,pt J.l1],pa 1 rfl (aM ?_)⟩
  refine bU ([5,6,8]++List.range' 28 28) rfl [0,4,27,28] (fun (x:Nat × bA)=>[pt p,C5 0,.agg #[pt J.l0,pt J.l1],C5 x.1]) (fun x w'=>(x.1≤2∧aP P 0 J x.2∧(x.2.l0=J.l0∧x.2.l1=J.l1)∧(x.1=0→x.2=J)∧(x.1=1→x.2.bl=J.bl)∧(J.bh.c.W=[]→J.bl.c.W=[]→x.2.D=J.D))∧SH w0 w' (Ga p x.2::R)) (fun x=>2 - x.1) (0,J) rfl ⟨⟨Nat.zero_le _,aP.refl J,⟨rfl,rfl⟩,fun _=>rfl,fun h=>absurd (show (0:Nat)=1 from h) (by decide),fun _ _=>rfl⟩,H⟩ ?_
  rintro g ⟨i,y⟩ w6 ⟨⟨hi,Y,hcs,h0,h1,hD⟩,H⟩
  simp only at hi Y hcs h0 h1 hD H
  refine ac<|ap (fun h_29=>?_) (fun h_29=>?_)
  ·refine av<|ai<|ak<|aG<|ac ?_
   have elk:(if i=0 then J.l0 else J.l1)=gZ y i:=by unfold gZ;rw [hcs.1,hcs.2]
   refine ⟨pt (gZ y i),(BJ (n:=i) rfl rfl rfl (by omega)).trans (by rw [elk]),pa 2 rfl (aJ ?_)⟩
   have H:=H.drew
   obtain ⟨_,hO⟩:=SH.ga H p
   refine hO.C9 (b:=p) rfl<|c68g (p:=p) (s:=y) (side:=i) (by omega) H (fun w2 H=>?_)
   obtain ⟨_,hO⟩:=SH.ga H p
   refine ⟨⟨hO.ld (b:=p) rfl,trivial⟩,c69g (P:=P) (p:=p) (s:=y) (side:=i) (by omega) H (fun ts a n c s2 w2 hts hW h2 h3 h4 h5 h6 H=>?_)⟩
   obtain ⟨_,hO⟩:=SH.ga H p
   rw [h3] at hO
   refine ⟨⟨hO.ld (b:=p) rfl,trivial⟩,?_⟩
   obtain ⟨hn1,hn2⟩:=hts
   subst hn1
   refine aM ?_
   refine bU (8::List.range' 40 15) rfl [0,4,5,27,28,38,39,40] (fun (x:Nat × bA)=>[pt p,C5 0,C5 i,.agg #[pt J.l0,pt J.l1],C5 i,.slice a ts.length c,C5 ts.length,C5 x.1]) (fun x w'=>(x.1≤ts.length∧aP P 0 y x.2∧(x.2.l0=y.l0∧x.2.l1=y.l1)∧(if i=0 then x.2.bl=y.bl else x.2.bh=y.bh)∧(ts=[]→x.2.D=y.D))∧SH w0 w' (Row 3 1 (.slice a ts.length c) ts.length (ints ts)::Ga p x.2::R)) (fun x=>ts.length - x.1) (0,s2) rfl ⟨⟨Nat.zero_le _,h2,h4,h6,fun _=>h5⟩,H⟩ ?_
   rintro g ⟨j,s3⟩ w9 ⟨⟨hj,j1,j2,j3,j4⟩,H⟩
   simp only at hj j1 j2 j3 j4 H
   refine ac<|ap (fun h_41=>?_) (fun h_41=>?_)
   ·refine av<|ai<|ak<|aG<|ac ?_
    obtain ⟨ad_42,rfl⟩:=H.dW a
    refine ⟨by omega,_,rfl,⟨_,H.fe (ints_at (by omega)),ac ?_⟩⟩
    obtain ⟨hs3,H⟩:=SH.ga H p
    refine H.C9 (b:=p) rfl<|Db<|c70 H (fun po5 _ _ H=>?_)
    have H:SH w0 _ (Ga p { s3 with po:=po5 } ::Row 3 1 (.slice (some ad_42) ts.length c) ts.length (ints ts)::R):=SH.aU (p:=p) (s:= { s3 with po:=po5 }) (R:=Row 3 1 (.slice (some ad_42) ts.length c) ts.length (ints ts)::R) H.ae ⟨hs3.1,hs3.2,hs3.3⟩
    exact au<|c62 (r:=19) (by decide) H (fun _ H=>au (Db (⟨(j+1,{ s3 with po:=po5,D:=aF s3.D 19 (IntKind.i64.wrap (bZ s3.D 19+1)) }),rfl,⟨⟨by show j+1≤ts.length;omega,(j1.po po5).drop _,j2,j3,fun h=>by rw [h] at h_41;exact absurd h_41 (by show ¬ (j:Int)<((0:Nat):Int);omega)⟩,H.ae⟩,by show ts.length - (j+1)<ts.length - j;omega⟩)))
   ·refine av<|ai<|aS<|au<|Db ?_
    have hts:J.bh.c.W=[]→J.bl.c.W=[]→ts=[]:=fun a b=>by
     rcases (by omega:i=0∨i=1) with rfl | rfl
     ·exact hW (by rw [if_pos rfl,h0 rfl];exact a)
     ·exact hW (by rw [if_neg (by decide),h1 rfl];exact b)
    exact ⟨(i+1,s3),rfl,⟨⟨by show i+1≤2;omega,(Y.trans j1).le,⟨j2.1.trans hcs.1,j2.2.trans hcs.2⟩,fun h=>absurd (show i+1=0 from h) (by omega),fun h=>by
     have hi0:i=0:=by have:i+1=1:=h;omega
     subst hi0
     rw [if_pos rfl] at j3
     exact j3.trans (by rw [h0 rfl]),fun a b=>(j4 (hts a b)).trans (hD a b)⟩,H.ae⟩,by show 2 - (i+1)<2 - i;omega⟩
  ·exact av<|ai<|aS ⟨y,rfl,⟨Y,hD⟩,H⟩
 rintro g y w6 ⟨⟨Y,hD⟩,H⟩
 obtain ⟨hs1,H⟩:=SH.ga H p
 refine aJ<|have H:=H.drew;H.C9 (b:=p) rfl<|H.C9 (b:=p) rfl<|c71 H (fun _ H=>⟨⟨H.ld (b:=p) rfl,⟨H.ld (b:=p) rfl,trivial⟩⟩,?_⟩)
 obtain ⟨hna,H⟩:=SH.na H y.np
 refine c72 (p:=y.na.tb) (s:=y.na.t) H (fun t2 _ w2 h2 H=>aJ ?_)
 have H:=H.drew
 refine H.C9 (b:=p) rfl<|H.C9 (b:=p) rfl<|c73 H (fun _ H=>⟨⟨H.ld (b:=p) rfl,⟨H.ld (b:=p) rfl,trivial⟩⟩,?_⟩)
 obtain ⟨hse,H⟩:=SH.se H y.sp
 refine c74 (p:=y.se.bp) (s:=y.se.b) H (fun b2 _ _ H=>ac (ah ?_))
 have H:SH w0 _ (Se y.sp { y.se with b:=b2 } ::Cl y.np 198 [C3 y.na.own,pt y.na.tb]::Ta y.na.tb t2::Cl p 89 (bR y)::Mt cy y.db y.D::Po y.pp y.po::Li y.l0 y.bh::Li y.l1 y.bl::Ri y.r0 y.ri0::Ri y.r1 y.ri1::Row 99 2 (.slice y.pa y.pl.length y.pc) y.pl.length (eF y.pl)::bj (gj y.pl)::R):=SH.eC (p:=y.sp) (s:= { y.se with b:=b2 }) H.ae ⟨hse.1⟩
 have H:SH w0 _ (Na y.np { y.na with t:=t2 } ::Se y.sp { y.se with b:=b2 } ::Cl p 89 (bR y)::Mt cy y.db y.D::Po y.pp y.po::Li y.l0 y.bh::Li y.l1 y.bl::Ri y.r0 y.ri0::Ri y.r1 y.ri1::Row 99 2 (.slice y.pa y.pl.length y.pc) y.pl.length (eF y.pl)::bj (gj y.pl)::R):=SH.cO (p:=y.np) (s:= { y.na with t:=t2 }) H.ae hna
 have H:SH w0 _ (Ga p { y with na:= { y.na with t:=t2 },se:= { y.se with b:=b2 } } ::R):=SH.aU (p:=p) (s:= { y with na:= { y.na with t:=t2 },se:= { y.se with b:=b2 } }) H.ae ⟨hs1.1,hs1.2,hs1.3⟩
 exact k { y with na:= { y.na with t:=t2 },se:= { y.se with b:=b2 } } _ ⟨Y.c,Y.now,Y.own,by have:=Y.cnt;show t2.count≤J.na.t.count+((0:Nat):Int);omega,Y.pl,Y.len⟩ hD H
end
end
section
structure vY (P:Int→List Nat→Prop) (s s':bA):Prop where
 c:s'.c=s.c
 now:s'.now≤s.now+1099511627776
 own:s'.na.own=s.na.own
 cnt:s'.na.t.count≤s.na.t.count+100
 pl: ∀ x∈s'.pl,P x.side x.bs∧x.bs.length≤100000
 len:s'.pl.length≤100
structure vZ (kind:Int) (bs:List Nat) (s s':bA) (tv:Value):Prop where
 bad:kind=0→ ¬ep bs→bs.length≤1514→(∃ x∈s.po.l,x.o=0)→ ∃ po,s'= { s with pa:=none,pc:=0,pl:=[],po:=po,D:=aF s.D 1 (IntKind.i64.wrap (bZ s.D 1+1)) }
 tick:kind=1→s.bh.c.W=[]→s.bl.c.W=[]→s'.D=s.D∧s'.pl=[]
 none:kind≠2→tv=sN
section
variable {w0 w:World} {L R R2 R3:List ao} {K:Value→World→Prop} {p:Nat} {s:bA} {v:Value} {bs:List Nat}
attribute [local irreducible] ay aQ aH aY a6 aW aK aV num be over nb rowOf bD ct
theorem c9 {P:Int→List Nat→Prop} {kind side:Int} {n:Nat} (hc:s.na.t.count≤800000) (hnow:s.now+1099511627776≤2305843009213693952) (hP:kind=0→ ∀ f,P side f) (hA: ∀ sd f,(∃ pk,eE 2054 pk f)→P sd f) (hT:kind=0→num bs 12 2=2048→gw (bs.drop 14)→jW P ((bs.drop 14).getD 9 0) (cJ (bs.drop 14) (num (bs.drop 14) 2 2)))
  (y:SH w0 w L) [q:aC (Ga p) L s R] [hE:di R] [hz:cL R] [hb:aD R v bs] (hlen:bs.length≤2000)
  (k1:cY kind side bs.length n→ ∀ s' tv w',dZ tv=true→vY P s s'→vZ kind bs s s' tv→SH w0 w' (Ga p s'::R)→K (.tuple #[.agg #[.slice s'.pa s'.pl.length s'.pc,tv],C5 0]) w')
  (k2: ¬cY kind side bs.length n→ ∀ w',SH w0 w' (Ga p s::R)→K (.tuple #[.agg #[sN,sN],C5 10]) w'):D 9 [pt p,fD kind side v n] w K:=by
 have y:=y.at (Ga p)
 obtain ⟨ad,c,rfl,hcap,hB1,hl0⟩:=y.enter (v:=v)
 refine s9 rfl<|ac<|y.az [C5 kind,C5 side,sl ad c bs,C4 n] fun J _ y=>y.an fun b_4 _ y=>aq<|y.Da (b:=J) rfl<|c24 y (by omega) (fun h_9 w_9 y=>?_) (fun h_9 w_9 y=>?_)
 ·refine Dj<|ak<|ac ?_
  obtain ⟨hs,y⟩:=SH.ga y p
  refine y.aN (b:=p) _ (bR { s with pa:=none,pc:=0,pl:=[] }) fun w_14 y=>?_
  have y:SH w0 w_14 (Cl p 89 (bR { s with pa:=none,pc:=0,pl:=[] })::Mt cy s.db s.D::Po s.pp s.po::Li s.l0 s.bh::Li s.l1 s.bl::Ri s.r0 s.ri0::Ri s.r1 s.ri1::Na s.np s.na::Se s.sp s.se::Cl J 50 [C5 kind,C5 side,sl ad c bs,C4 n]::Cl b_4 54 [sN,sN]::R):=y.ae
  have y:=y.kF.rowOf (sN) 99 2
  obtain ⟨s1,Y⟩: ∃ s1,s1= { s with pa:=none,pc:=0,pl:=[] } :=⟨_,rfl⟩
  have y:SH w0 w_14 (Ga p { s with pa:=none,pc:=0,pl:=[] } ::Cl J 50 [C5 kind,C5 side,sl ad c bs,C4 n]::Cl b_4 54 [sN,sN]::R):=SH.aU (p:=p) (s:= { s with pa:=none,pc:=0,pl:=[] }) (R:=Cl J 50 [C5 kind,C5 side,sl ad c bs,C4 n]::Cl b_4 54 [sN,sN]::R) (SH.ae (L':=Cl p 89 (bR { s with pa:=none,pc:=0,pl:=[] })::Mt cy s.db s.D::Po s.pp s.po::Li s.l0 s.bh::Li s.l1 s.bl::Ri s.r0 s.ri0::Ri s.r1 s.ri1::Na s.np s.na::Se s.sp s.se::Row 99 2 (sN) 0 []::bj []::Cl J 50 [C5 kind,C5 side,sl ad c bs,C4 n]::Cl b_4 54 [sN,sN]::R) y) ⟨hs.1,hs.2,hs.3⟩
  rw [←Y] at y
  have hpl:s1.pl=[]:=by rw [Y]
  have hc1:s1.na.t.count≤800000:=by rw [Y];exact hc
  have hnow1:s1.now=s.now:=by rw [Y]
  refine ac<|y.an fun b_6 _ y=>?_
  refine bt ([5,7]++List.range' 15 29) rfl [0,4,5,6] (fun (_:bA × Value)=>[pt p,pt b_4,C5 0,pt b_6]) (fun x w'=>(dZ x.2=true∧vY P s x.1∧vZ kind bs s x.1 x.2)∧SH w0 w' (Cl b_6 54 [sN,x.2]::Ga p x.1::Cl b_4 54 [sN,sN]::R)) ?_ ?_
  ·refine ac<|y.C9 (b:=J) rfl<|aM<|ac<|ap (fun h_18=>?_) (fun h_18=>?_)
   ·refine ai<|au<|y.C9 (b:=J) rfl<|y.C9 (b:=J) rfl ?_
    obtain ⟨sd,hsd,rfl⟩: ∃ sd:Nat,sd<2∧side=sd:=⟨side.toNat,by rcases h_9 with h | h | h<;>omega,by rcases h_9 with h | h | h<;>omega⟩
    refine c26 (P:=P) (s:=s1) (v:=sl ad c bs) hsd (by rw [hpl];exact Nat.zero_le _) (by omega) (hP h_18) hA (hT h_18) y hlen (fun s2 w2 H hx y=>⟨(s2,sN),rfl,⟨rfl,?_,?_,fun h=>absurd h_18 (by omega),fun _=>rfl⟩,y.ae⟩)
    ·rw [Y] at H
     exact ⟨H.c,by rw [H.now];exact Nat.le_add_right _ _,H.own,Int.le_trans H.cnt (by show s.na.t.count+((70:Nat):Int)≤s.na.t.count+100;omega),fun x hx=>(H.pl x hx).elim (fun h=>by cases h) id,Nat.le_trans H.len (show 0+70≤100 by decide)⟩
    ·intro _ a1 a2 a3
     rw [Y] at hx
     exact hx a1 a2 a3
   ·refine ai<|ac<|ap (fun h_26=>?_) (fun h_26=>?_)
    ·refine ai<|ac<|y.C9 (b:=J) rfl ?_
     have hn:n≤1099511627776:=by rcases h_9 with h | h | h<;>omega
     refine c27 (P:=P) (s:=s1) (n:=n) (by omega) y (fun s2 w2 H hx y=>ac (Dh (ai (ak ?_))))
     rw [Y] at H
     refine ⟨(s2,sN),rfl,⟨rfl,⟨H.c,by rw [H.now];exact Nat.add_le_add_left hn _,H.own,Int.le_trans H.cnt (by show s.na.t.count+((0:Nat):Int)≤s.na.t.count+100;omega),fun x hx=>(H.pl x hx).elim (fun h=>by cases h) id,Nat.le_trans H.len (show 0+0≤100 by decide)⟩,fun h=>absurd h (by omega),fun _ a b=>⟨(hx (by rw [Y];exact a) (by rw [Y];exact b)).trans (by rw [Y]),List.length_eq_zero_iff.1 (Nat.le_zero.1 H.len)⟩,fun _=>rfl⟩,y.ae⟩
    ·refine ai<|ac<|ap (fun h_36=>?_) (fun h_36=>?_)
     ·refine ai<|au<|y.C9 (b:=J) rfl<|y.C9 (b:=J) rfl ?_
      obtain ⟨sd,hsd,rfl⟩: ∃ sd:Nat,sd<2∧side=sd:=⟨side.toNat,by rcases h_9 with h | h | h<;>omega,by rcases h_9 with h | h | h<;>omega⟩
      have hn:n≤256:=by rcases h_9 with h | h | h<;>omega
      refine c28 (P:=P) (s:=s1) (side:=sd) hsd hn y (fun s2 a2 m2 c2 w2 H y=>y.aN (b:=b_6) [.slice a2 m2 c2] [sN,.slice a2 m2 c2] fun _ y=>?_)
      rw [Y] at H
      exact ⟨(s2,.slice a2 m2 c2),rfl,⟨rfl,⟨H.c,by rw [H.now];exact Nat.le_add_right _ _,H.own,Int.le_trans H.cnt (by show s.na.t.count+((0:Nat):Int)≤s.na.t.count+100;omega),fun x hx=>(H.pl x hx).elim (fun h=>by cases h) id,Nat.le_trans H.len (show 0+0≤100 by decide)⟩,fun h=>absurd h (by omega),fun h=>absurd h (by omega),fun h=>absurd h_36 h⟩,y.ae⟩
     ·exact ai<|absurd h_9 (by simp only [cY];omega)
  ·rintro g ⟨s2,tv⟩ w6 ⟨⟨ht,hF,hX⟩,y⟩
   simp only at ht hF hX y
   obtain ⟨_,hO⟩:=SH.ga y p
   refine ac<|hO.C9 (b:=p) rfl<|y.aN (b:=b_6) [.slice s2.pa s2.pl.length s2.pc] [.slice s2.pa s2.pl.length s2.pc,tv] fun _ y=>ac<|y.Da (b:=b_6) rfl<|y.aj (b:=b_4) (h1:=by show (true&&(dZ tv&&true))=true;rw [ht];rfl) fun _ y=>ah<|y.Da (b:=b_4) rfl<|k1 ‹_› _ _ _ ‹_› ‹_› ‹_› y.ae
 ·refine Dj<|ac ⟨rfl,[sN,sN],rfl,y.aj (b:=b_4) fun _ y=>ah (y.Da (b:=b_4) rfl (k2 ‹_› _ y.ae))⟩
end
end
section
theorem kO {w:World} {f:Fr} {o:Oper} {x y:Operand} {a0 a1 H a3 a4 a5 J c1 Y c3 c4 c5:Int} (ho:o.op= .build 116 #[(0,x),(1,y)]) (hx:ev f x= .agg #[C1 a0,C1 a1,C1 H,C1 a3,C1 a4,C1 a5]) (hy:ev f y= .agg #[C1 J,C1 c1,C1 Y,C1 c3,C1 c4,C1 c5]):
  (execOp (ev f) o).run Tryz.prog w= .ok (.value (.agg #[C1 a0,C1 a1,C1 H,C1 a3,C1 a4,C1 a5,C1 J,C1 c1,C1 Y,C1 c3,C1 c4,C1 c5])) w:=by
 have hz:=ij (P:=Tryz.prog) (t:=116) (z:= .agg #[C1 0,C1 0,C1 0,C1 0,C1 0,C1 0,C1 0,C1 0,C1 0,C1 0,C1 0,C1 0]) (by kernel_rfl) w
 have hi:(Tryz.prog.info? 28).map (·.size)=some 6:=by kernel_rfl
 cases q:Tryz.prog.info? 28 with
 | none=>rw [q] at hi;cases hi
 | some inf=>
  rw [q] at hi
  simp at hi
  unfold execOp
  simp [ho,hi,hx,hy,Instr.build,hz,run_underlying Tryz.underlying116,eG q,Instr.fill,Value.cells]
theorem kP {w:World} {f:Fr} {o:Oper} {x y:Operand} {i1 H i2 J:Int} (Y:o.op= .build 117 #[(0,x),(1,y)]) (hx:ev f x= .agg #[C3 i1,C5 H]) (hy:ev f y= .agg #[C3 i2,C5 J]):
  (execOp (ev f) o).run Tryz.prog w= .ok (.value (.agg #[C3 i1,C5 H,C3 i2,C5 J])) w:=by
 have hz:=ij (P:=Tryz.prog) (t:=117) (z:= .agg #[C3 0,C5 0,C3 0,C5 0]) (by kernel_rfl) w
 have hi:(Tryz.prog.info? 24).map (·.size)=some 2:=by kernel_rfl
 cases q:Tryz.prog.info? 24 with
 | none=>rw [q] at hi;cases hi
 | some inf=>
  rw [q] at hi
  simp at hi
  unfold execOp
  simp [Y,hi,hx,hy,Instr.build,hz,run_underlying Tryz.underlying117,eG q,Instr.fill,Value.cells]
theorem gD {t e:TypeId} {o:Oper} {f:Fr} {w:World} {x i:Operand} {p q n sz:Nat} (H:Tryz.prog.underlying t=some (.array 2 e)) (y:(Tryz.prog.info? e).map (·.size)=some sz) (hn:n<2) (J:o.op= .indexAddr t x i) (Y:ev f x= .pointer (some ⟨p,q,none⟩)) (hi:ev f i=C5 n):
  (execOp (ev f) o).run Tryz.prog w= .ok (.value (.pointer (some ⟨p,q+n*sz,none⟩))) w:=by
 have h:=jD (w:=w) (len:=2) (elem:=e) (sz:=sz) J H y Y hi (by omega)
 rw [add_plain] at h
 rw [h]
 simp
end
section
abbrev gl (c:fB) (pp l0 l1 r0 r1 np sp:Value) (mb:Nat):List Value:=[C3 c.i1,C5 c.b1,C3 c.i2,C5 c.b2,C3 c.rt,C1 c.a0,C1 c.a1,C1 c.a2,C1 c.a3,C1 c.a4,C1 c.a5,C1 c.o0,C1 c.o1,C1 c.o2,C1 c.o3,C1 c.o4,C1 c.o5,C5 c.maps,C5 c.flows,C5 c.least,C5 c.most,C4 c.t0,C4 c.t1,C4 c.t2,C4 c.t3,C5 c.room,C5 c.wait,C4 c.life,C4 c.patience,C5 c.buffers,C5 c.ring,C3 c.own,C3 c.mask,C3 c.first,C3 c.last,C3 c.time,C3 c.hold,C3 c.quiet,C4 0,pp,l0,l1,r0,r1,np,sp,.map (some mb),sN]
structure rA (c:fB) (s:bA):Prop where
 cc:s.c=c
 now:s.now=0
 own:s.na.own=c.i2
 cnt:s.na.t.count=0
 pl:s.pl=[]
 D:s.D=[]
 po: ∃ x∈s.po.l,x.o=0
 w0:s.bh.c.W=[]
 w1:s.bl.c.W=[]
theorem BK {a b:Int} (h:iv a b):fN a:=h.2
section
variable {w0 w:World} {L R R2 R3:List ao} {K:Value→World→Prop} {p:Nat} {s:bA} {v:Value} {bs:List Nat} {c:fB}
attribute [local irreducible] ay aQ aH aY a6 aW aK aV num be over nb rowOf bD ct iv fN
theorem c16 (hc:iI c) (hL:SH w0 w L) (k1:jV c→ ∀ p s w',rA c s→SH w0 w' (Ga p s::L)→K (.tuple #[pt p,.int .i64 0]) w') (k2: ¬jV c→ ∀ w',SH w0 w' L→K (.tuple #[.pointer none,.int .i64 11]) w'):D 16 [iJ c] w K:=by
 refine s16 rfl ?_
 refine ac ?_
 refine hL.az [.int .u32 c.i1,.int .i64 c.b1,.int .u32 c.i2,.int .i64 c.b2,.int .u32 c.rt,.int .u8 c.a0,.int .u8 c.a1,.int .u8 c.a2,.int .u8 c.a3,.int .u8 c.a4,.int .u8 c.a5,.int .u8 c.o0,.int .u8 c.o1,.int .u8 c.o2,.int .u8 c.o3,.int .u8 c.o4,.int .u8 c.o5,.int .i64 c.maps,.int .i64 c.flows,.int .i64 c.least,.int .i64 c.most,.int .u64 c.t0,.int .u64 c.t1,.int .u64 c.t2,.int .u64 c.t3,.int .i64 c.room,.int .i64 c.wait,.int .u64 c.life,.int .u64 c.patience,.int .i64 c.buffers,.int .i64 c.ring,.int .u32 c.own,.int .u32 c.mask,.int .u32 c.first,.int .u32 c.last,.int .u32 c.time,.int .u32 c.hold,.int .u32 c.quiet] fun b_1 w_1 hL=>?_
 refine aq ?_
 refine ⟨_,hL.af (b:=b_1) rfl,?_⟩
 refine c7 hc hL (fun h_11 w_11 hL=>?_) (fun h_11 w_11 hL=>?_)
 ·refine ⟨_,rfl,?_⟩
  refine ak ?_
  refine ac ?_
  refine ⟨_,hL.af (b:=b_1) rfl,?_⟩
  refine aZ (eZ rfl hL fun b_14 w_14 hL=>?_)
  refine ⟨by kernel_rfl,[.int .u32 c.i1,.int .i64 c.b1,.int .u32 c.i2,.int .i64 c.b2,.int .u32 c.rt,.int .u8 c.a0,.int .u8 c.a1,.int .u8 c.a2,.int .u8 c.a3,.int .u8 c.a4,.int .u8 c.a5,.int .u8 c.o0,.int .u8 c.o1,.int .u8 c.o2,.int .u8 c.o3,.int .u8 c.o4,.int .u8 c.o5,.int .i64 c.maps,.int .i64 c.flows,.int .i64 c.least,.int .i64 c.most,.int .u64 c.t0,.int .u64 c.t1,.int .u64 c.t2,.int .u64 c.t3,.int .i64 c.room,.int .i64 c.wait,.int .u64 c.life,.int .u64 c.patience,.int .i64 c.buffers,.int .i64 c.ring,.int .u32 c.own,.int .u32 c.mask,.int .u32 c.first,.int .u32 c.last,.int .u32 c.time,.int .u32 c.hold,.int .u32 c.quiet,.int .u64 0,.pointer none,.pointer none,.pointer none,.pointer none,.pointer none,.pointer none,.pointer none,Value.map (some b_14),.slice none 0 0],by kernel_rfl,?_⟩
  refine hL.az [.int .u32 c.i1,.int .i64 c.b1,.int .u32 c.i2,.int .i64 c.b2,.int .u32 c.rt,.int .u8 c.a0,.int .u8 c.a1,.int .u8 c.a2,.int .u8 c.a3,.int .u8 c.a4,.int .u8 c.a5,.int .u8 c.o0,.int .u8 c.o1,.int .u8 c.o2,.int .u8 c.o3,.int .u8 c.o4,.int .u8 c.o5,.int .i64 c.maps,.int .i64 c.flows,.int .i64 c.least,.int .i64 c.most,.int .u64 c.t0,.int .u64 c.t1,.int .u64 c.t2,.int .u64 c.t3,.int .i64 c.room,.int .i64 c.wait,.int .u64 c.life,.int .u64 c.patience,.int .i64 c.buffers,.int .i64 c.ring,.int .u32 c.own,.int .u32 c.mask,.int .u32 c.first,.int .u32 c.last,.int .u32 c.time,.int .u32 c.hold,.int .u32 c.quiet,.int .u64 0,.pointer none,.pointer none,.pointer none,.pointer none,.pointer none,.pointer none,.pointer none,Value.map (some b_14),.slice none 0 0] fun b_16 w_16 hL=>?_
  refine ac ?_
  refine ⟨_,hL.ld (b:=b_1) rfl,?_⟩
  obtain ⟨⟨hg1,hg2,hg3⟩,hmap,hconf,hst,hlend⟩:=h_11
  refine c44 hL (fun h_21 p_21 s_21 w_21 h_214 hL=>?_) (fun h_21 w_21 hL=>absurd hst.2.1 h_21)
  refine hL.aN (b:=b_16) [pt p_21] (gl c (pt p_21) (.pointer none) (.pointer none) (.pointer none) (.pointer none) (.pointer none) (.pointer none) b_14) fun w_29 hL=>?_
  have hL:SH w0 w_29 (Cl b_16 89 (gl c (pt p_21) (.pointer none) (.pointer none) (.pointer none) (.pointer none) (.pointer none) (.pointer none) b_14)::Po p_21 s_21::Cl b_1 37 (jm c)::Mt cy b_14 []::L):=hL.ae
  refine bt ([5,6]++List.range' 26 12) rfl [1,2,3,4,5,6] (fun (x:Nat × Nat)=>[pt b_1,.pointer none,.int .i64 0,pt b_16,pt x.1,pt x.2]) (fun x w'=>SH w0 w' (Cl x.1 116 [.int .u8 c.a0,.int .u8 c.a1,.int .u8 c.a2,.int .u8 c.a3,.int .u8 c.a4,.int .u8 c.a5,.int .u8 c.o0,.int .u8 c.o1,.int .u8 c.o2,.int .u8 c.o3,.int .u8 c.o4,.int .u8 c.o5]::Cl x.2 117 [.int .u32 c.i1,.int .i64 c.b1,.int .u32 c.i2,.int .i64 c.b2]::Cl b_16 89 (gl c (pt p_21) (.pointer none) (.pointer none) (.pointer none) (.pointer none) (.pointer none) (.pointer none) b_14)::Po p_21 s_21::Cl b_1 37 (jm c)::Mt cy b_14 []::L)) ?_ ?_
  ·refine jS ?_
   have hL:=hL.drew
   refine ⟨_,hL.ar (b:=b_1) [.int .u8 c.a0,.int .u8 c.a1,.int .u8 c.a2,.int .u8 c.a3,.int .u8 c.a4,.int .u8 c.a5],?_⟩
   refine ⟨_,hL.ar (b:=b_1) [.int .u8 c.o0,.int .u8 c.o1,.int .u8 c.o2,.int .u8 c.o3,.int .u8 c.o4,.int .u8 c.o5],?_⟩
   refine ⟨_,kO rfl rfl rfl,?_⟩
   refine ⟨_,hL.ar (b:=b_1) [.int .u32 c.i1,.int .i64 c.b1],?_⟩
   refine ⟨_,hL.ar (b:=b_1) [.int .u32 c.i2,.int .i64 c.b2],?_⟩
   refine ⟨_,kP rfl rfl rfl,?_⟩
   refine ⟨?_,?_⟩
   ·refine hL.an fun b_5 w_5 hL=>?_
    refine ⟨⟨kP rfl rfl rfl,⟨⟨_,hL.ar (b:=b_1) _,rfl⟩,⟨⟨_,hL.ar (b:=b_1) _,rfl⟩,⟨kO rfl rfl rfl,⟨⟨_,hL.ar (b:=b_1) _,rfl⟩,⟨⟨_,hL.ar (b:=b_1) _,rfl⟩,trivial⟩⟩⟩⟩⟩⟩,?_⟩
    refine hL.an fun b_6 w_6 hL=>?_
    refine ⟨⟨kP rfl rfl rfl,⟨⟨_,hL.ar (b:=b_1) _,rfl⟩,⟨⟨_,hL.ar (b:=b_1) _,rfl⟩,⟨kO rfl rfl rfl,⟨⟨_,hL.ar (b:=b_1) _,rfl⟩,⟨⟨_,hL.ar (b:=b_1) _,rfl⟩,trivial⟩⟩⟩⟩⟩⟩,?_⟩
    refine hL.aj (b:=b_5) fun w_51 hL=>?_
    refine ⟨⟨kP rfl rfl rfl,⟨⟨_,hL.ar (b:=b_1) _,rfl⟩,⟨⟨_,hL.ar (b:=b_1) _,rfl⟩,⟨kO rfl rfl rfl,⟨⟨_,hL.ar (b:=b_1) _,rfl⟩,⟨⟨_,hL.ar (b:=b_1) _,rfl⟩,trivial⟩⟩⟩⟩⟩⟩,?_⟩
    refine hL.aj (b:=b_6) fun w_52 hL=>?_
    exact ⟨(b_5,b_6),rfl,hL.ae⟩
   ·refine hL.an fun b_6 w_6 hL=>?_
    refine ⟨⟨kP rfl rfl rfl,⟨⟨_,hL.ar (b:=b_1) _,rfl⟩,⟨⟨_,hL.ar (b:=b_1) _,rfl⟩,⟨kO rfl rfl rfl,⟨⟨_,hL.ar (b:=b_1) _,rfl⟩,⟨⟨_,hL.ar (b:=b_1) _,rfl⟩,trivial⟩⟩⟩⟩⟩⟩,?_⟩
    refine hL.an fun b_5 w_5 hL=>?_
    refine ⟨⟨kP rfl rfl rfl,⟨⟨_,hL.ar (b:=b_1) _,rfl⟩,⟨⟨_,hL.ar (b:=b_1) _,rfl⟩,⟨kO rfl rfl rfl,⟨⟨_,hL.ar (b:=b_1) _,rfl⟩,⟨⟨_,hL.ar (b:=b_1) _,rfl⟩,trivial⟩⟩⟩⟩⟩⟩,?_⟩
    refine hL.aj (b:=b_5) fun w_51 hL=>?_
    refine ⟨⟨kP rfl rfl rfl,⟨⟨_,hL.ar (b:=b_1) _,rfl⟩,⟨⟨_,hL.ar (b:=b_1) _,rfl⟩,⟨kO rfl rfl rfl,⟨⟨_,hL.ar (b:=b_1) _,rfl⟩,⟨⟨_,hL.ar (b:=b_1) _,rfl⟩,trivial⟩⟩⟩⟩⟩⟩,?_⟩
    refine hL.aj (b:=b_6) fun w_52 hL=>?_
    exact ⟨(b_5,b_6),rfl,hL.ae⟩
  rintro g ⟨b_5,b_6⟩ w6 hL
  simp only at hL
  refine av ?_
  refine ac ?_
  refine aM ?_
  refine bU ([7,8,9]++List.range' 38 49) rfl [1,2,3,4,5,6,38] (fun (i:Nat)=>[pt b_1,.pointer none,.int .i64 0,pt b_16,pt b_5,pt b_6,.int .i64 i]) (fun (i:Nat) w'=>(i=0∧SH w0 w' (Cl b_16 89 (gl c (pt p_21) (.pointer none) (.pointer none) (.pointer none) (.pointer none) (.pointer none) (.pointer none) b_14)::Po p_21 s_21::Cl b_5 116 [.int .u8 c.a0,.int .u8 c.a1,.int .u8 c.a2,.int .u8 c.a3,.int .u8 c.a4,.int .u8 c.a5,.int .u8 c.o0,.int .u8 c.o1,.int .u8 c.o2,.int .u8 c.o3,.int .u8 c.o4,.int .u8 c.o5]::Cl b_6 117 [.int .u32 c.i1,.int .i64 c.b1,.int .u32 c.i2,.int .i64 c.b2]::Cl b_1 37 (jm c)::Mt cy b_14 []::L))∨(i=1∧ ∃ l0 r0 bh ri0,(bh.c.W=[]∧ri0.pv=some ⟨p_21,0,none⟩)∧SH w0 w' (Cl b_16 89 (gl c (pt p_21) (pt l0) (.pointer none) (pt r0) (.pointer none) (.pointer none) (.pointer none) b_14)::Li l0 bh::Ri r0 ri0::Po p_21 s_21::Cl b_5 116 [.int .u8 c.a0,.int .u8 c.a1,.int .u8 c.a2,.int .u8 c.a3,.int .u8 c.a4,.int .u8 c.a5,.int .u8 c.o0,.int .u8 c.o1,.int .u8 c.o2,.int .u8 c.o3,.int .u8 c.o4,.int .u8 c.o5]::Cl b_6 117 [.int .u32 c.i1,.int .i64 c.b1,.int .u32 c.i2,.int .i64 c.b2]::Cl b_1 37 (jm c)::Mt cy b_14 []::L))∨(i=2∧ ∃ l0 l1 r0 r1 bh bl ri0 ri1,(bh.c.W=[]∧ri0.pv=some ⟨p_21,0,none⟩)∧(bl.c.W=[]∧ri1.pv=some ⟨p_21,0,none⟩)∧SH w0 w' (Cl b_16 89 (gl c (pt p_21) (pt l0) (pt l1) (pt r0) (pt r1) (.pointer none) (.pointer none) b_14)::Li l0 bh::Li l1 bl::Ri r0 ri0::Ri r1 ri1::Po p_21 s_21::Cl b_5 116 [.int .u8 c.a0,.int .u8 c.a1,.int .u8 c.a2,.int .u8 c.a3,.int .u8 c.a4,.int .u8 c.a5,.int .u8 c.o0,.int .u8 c.o1,.int .u8 c.o2,.int .u8 c.o3,.int .u8 c.o4,.int .u8 c.o5]::Cl b_6 117 [.int .u32 c.i1,.int .i64 c.b1,.int .u32 c.i2,.int .i64 c.b2]::Cl b_1 37 (jm c)::Mt cy b_14 []::L))) (fun i=>2 - i) 0 rfl (.inl ⟨rfl,hL.ae⟩) ?_
  rintro g i w7 hJ
  rcases hJ with ⟨rfl,hL⟩ | ⟨rfl,l0,r0,bh,ri0,hf0,hL⟩ | ⟨rfl,l0,l1,r0,r1,bh,bl,ri0,ri1,hf0,hf1,hL⟩
  ·refine aE [1,2,3,4,5,6,38] [pt b_1,.pointer none,.int .i64 0,pt b_16,pt b_5,pt b_6,.int .i64 (0:Nat)] rfl fun g=>?_
   refine ac ?_
   refine ⟨true,decide_eq_true (by decide),?_⟩
   refine av ?_
   refine ai ?_
   refine ak ?_
   refine aG ?_
   refine ac ?_
   refine ac ?_
   refine ⟨_,hL.ld (b:=b_1) rfl,?_⟩
   refine ⟨_,hL.ld (b:=b_1) rfl,?_⟩
   refine ⟨_,hL.ld (b:=b_1) rfl,?_⟩
   refine ⟨_,hL.ld (b:=b_1) rfl,?_⟩
   refine c45 hL (fun h_50 cb cs w_50 hW hL=>?_) (fun h_50 w_50 hL=>absurd hst.1 h_50)
   refine aJ ?_
   have hL:=hL.drew
   refine ⟨_,gD (n:=0) (sz:=6) Tryz.underlying116 (by kernel_rfl) (by decide) rfl rfl rfl,?_⟩
   refine ⟨_,hL.ar (b:=b_5) [.int .u8 c.a0,.int .u8 c.a1,.int .u8 c.a2,.int .u8 c.a3,.int .u8 c.a4,.int .u8 c.a5],?_⟩
   refine ⟨_,gD (n:=0) (sz:=2) Tryz.underlying117 (by kernel_rfl) (by decide) rfl rfl rfl,?_⟩
   refine ⟨_,hL.ar (b:=b_6) [.int .u32 c.i1,.int .i64 c.b1],?_⟩
   refine c46 hc.inM hc.map.1 hL (fun h1 h2 lp w2 hL=>?_) (fun h w2 hL=>absurd ⟨hg1,hmap.1.1⟩ h)
   refine ⟨⟨⟨_,hL.ar (b:=b_6) _,rfl⟩,⟨gD (n:=0) (sz:=2) Tryz.underlying117 (by kernel_rfl) (by decide) rfl rfl rfl,⟨⟨_,hL.ar (b:=b_5) _,rfl⟩,⟨gD (n:=0) (sz:=6) Tryz.underlying116 (by kernel_rfl) (by decide) rfl rfl rfl,trivial⟩⟩⟩⟩,?_⟩
   refine ⟨_,bL (n:=0) Tryz.underlying82 (by kernel_rfl) (by decide) rfl rfl rfl,?_⟩
   refine hL.aN (b:=b_16) [pt lp] (gl c (pt p_21) (pt lp) (.pointer none) (.pointer none) (.pointer none) (.pointer none) (.pointer none) b_14) fun w3 hL=>?_
   refine ⟨⟨bL (n:=0) Tryz.underlying82 (by kernel_rfl) (by decide) rfl rfl rfl,⟨⟨_,hL.ar (b:=b_6) _,rfl⟩,⟨gD (n:=0) (sz:=2) Tryz.underlying117 (by kernel_rfl) (by decide) rfl rfl rfl,⟨⟨_,hL.ar (b:=b_5) _,rfl⟩,⟨gD (n:=0) (sz:=6) Tryz.underlying116 (by kernel_rfl) (by decide) rfl rfl rfl,trivial⟩⟩⟩⟩⟩,?_⟩
   refine cv ?_
   have hL:=hL.drew
   refine ⟨_,hL.ld (b:=b_16) rfl,?_⟩
   refine ⟨_,hL.ld (b:=b_1) rfl,?_⟩
   refine ⟨_,IntWalk.i64_in _ (by omega),?_⟩
   refine c47 hL (fun h3 rp rs w4 hpv hL=>?_) (fun h w4 hL=>absurd ⟨hst.2.2,by omega,by omega⟩ h)
   refine ⟨⟨hL.ld (b:=b_1) rfl,⟨hL.ld (b:=b_16) rfl,trivial⟩⟩,?_⟩
   refine ⟨_,bL (n:=0) Tryz.underlying84 (by kernel_rfl) (by decide) rfl rfl rfl,?_⟩
   refine hL.aN (b:=b_16) [pt rp] (gl c (pt p_21) (pt lp) (.pointer none) (pt rp) (.pointer none) (.pointer none) (.pointer none) b_14) fun w5 hL=>?_
   refine ⟨⟨bL (n:=0) Tryz.underlying84 (by kernel_rfl) (by decide) rfl rfl rfl,⟨hL.ld (b:=b_1) rfl,⟨hL.ld (b:=b_16) rfl,trivial⟩⟩⟩,?_⟩
   refine au ?_
   refine ⟨_,IntWalk.i64_in _ (by omega),?_⟩
   exact ⟨1,rfl,.inr (.inl ⟨rfl,lp,rp,⟨c.a0,c.a1,c.a2,c.a3,c.a4,c.a5,c.i1,c.b1,cb,cs⟩,rs,⟨hW,hpv.1⟩,hL.ae⟩),by decide⟩
  ·refine aE [1,2,3,4,5,6,38] [pt b_1,.pointer none,.int .i64 0,pt b_16,pt b_5,pt b_6,.int .i64 (1:Nat)] rfl fun g=>?_
   refine ac ?_
   refine ⟨true,decide_eq_true (by decide),?_⟩
   refine av ?_
   refine ai ?_
   refine ak ?_
   refine aG ?_
   refine ac ?_
   refine ac ?_
   refine ⟨_,hL.ld (b:=b_1) rfl,?_⟩
   refine ⟨_,hL.ld (b:=b_1) rfl,?_⟩
   refine ⟨_,hL.ld (b:=b_1) rfl,?_⟩
   refine ⟨_,hL.ld (b:=b_1) rfl,?_⟩
   refine c45 hL (fun h_50 cb cs w_50 hW hL=>?_) (fun h_50 w_50 hL=>absurd hst.1 h_50)
   refine aJ ?_
   have hL:=hL.drew
   refine ⟨_,gD (n:=1) (sz:=6) Tryz.underlying116 (by kernel_rfl) (by decide) rfl rfl rfl,?_⟩
   refine ⟨_,hL.ar (b:=b_5) [.int .u8 c.o0,.int .u8 c.o1,.int .u8 c.o2,.int .u8 c.o3,.int .u8 c.o4,.int .u8 c.o5],?_⟩
   refine ⟨_,gD (n:=1) (sz:=2) Tryz.underlying117 (by kernel_rfl) (by decide) rfl rfl rfl,?_⟩
   refine ⟨_,hL.ar (b:=b_6) [.int .u32 c.i2,.int .i64 c.b2],?_⟩
   refine c46 hc.outM hc.map.2.1 hL (fun h1 h2 lp w2 hL=>?_) (fun h w2 hL=>absurd ⟨hg2,hmap.1.2.1⟩ h)
   refine ⟨⟨⟨_,hL.ar (b:=b_6) _,rfl⟩,⟨gD (n:=1) (sz:=2) Tryz.underlying117 (by kernel_rfl) (by decide) rfl rfl rfl,⟨⟨_,hL.ar (b:=b_5) _,rfl⟩,⟨gD (n:=1) (sz:=6) Tryz.underlying116 (by kernel_rfl) (by decide) rfl rfl rfl,trivial⟩⟩⟩⟩,?_⟩
   refine ⟨_,bL (n:=1) Tryz.underlying82 (by kernel_rfl) (by decide) rfl rfl rfl,?_⟩
   refine hL.aN (b:=b_16) [pt lp] (gl c (pt p_21) (pt l0) (pt lp) (pt r0) (.pointer none) (.pointer none) (.pointer none) b_14) fun w3 hL=>?_
   refine ⟨⟨bL (n:=1) Tryz.underlying82 (by kernel_rfl) (by decide) rfl rfl rfl,⟨⟨_,hL.ar (b:=b_6) _,rfl⟩,⟨gD (n:=1) (sz:=2) Tryz.underlying117 (by kernel_rfl) (by decide) rfl rfl rfl,⟨⟨_,hL.ar (b:=b_5) _,rfl⟩,⟨gD (n:=1) (sz:=6) Tryz.underlying116 (by kernel_rfl) (by decide) rfl rfl rfl,trivial⟩⟩⟩⟩⟩,?_⟩
   refine cv ?_
   have hL:=hL.drew
   refine ⟨_,hL.ld (b:=b_16) rfl,?_⟩
   refine ⟨_,hL.ld (b:=b_1) rfl,?_⟩
   refine ⟨_,IntWalk.i64_in _ (by omega),?_⟩
   refine c47 hL (fun h3 rp rs w4 hpv hL=>?_) (fun h w4 hL=>absurd ⟨hst.2.2,by omega,by omega⟩ h)
   refine ⟨⟨hL.ld (b:=b_1) rfl,⟨hL.ld (b:=b_16) rfl,trivial⟩⟩,?_⟩
   refine ⟨_,bL (n:=1) Tryz.underlying84 (by kernel_rfl) (by decide) rfl rfl rfl,?_⟩
   refine hL.aN (b:=b_16) [pt rp] (gl c (pt p_21) (pt l0) (pt lp) (pt r0) (pt rp) (.pointer none) (.pointer none) b_14) fun w5 hL=>?_
   refine ⟨⟨bL (n:=1) Tryz.underlying84 (by kernel_rfl) (by decide) rfl rfl rfl,⟨hL.ld (b:=b_1) rfl,⟨hL.ld (b:=b_16) rfl,trivial⟩⟩⟩,?_⟩
   refine au ?_
   refine ⟨_,IntWalk.i64_in _ (by omega),?_⟩
   exact ⟨2,rfl,.inr (.inr ⟨rfl,l0,lp,r0,rp,bh,⟨c.o0,c.o1,c.o2,c.o3,c.o4,c.o5,c.i2,c.b2,cb,cs⟩,ri0,rs,hf0,⟨hW,hpv.1⟩,hL.ae⟩),by decide⟩
  ·refine aE [1,2,3,4,5,6,38] [pt b_1,.pointer none,.int .i64 0,pt b_16,pt b_5,pt b_6,.int .i64 (2:Nat)] rfl fun g=>?_
   refine ac ?_
   refine ⟨false,decide_eq_false (by decide),?_⟩
   refine av ?_
   refine ai ?_
   refine aS ?_
   refine aJ ?_
   have hL:=hL.drew
   refine ⟨_,hL.ar (b:=b_1) [.int .u32 c.i1,.int .i64 c.b1,.int .u32 c.i2,.int .i64 c.b2,.int .u32 c.rt],?_⟩
   refine ⟨_,hL.ar (b:=b_1) [.int .i64 c.maps,.int .i64 c.flows,.int .i64 c.least,.int .i64 c.most,.int .u64 c.t0,.int .u64 c.t1,.int .u64 c.t2,.int .u64 c.t3],?_⟩
   refine c49 hL (fun z_91 h_911 w_91 hL=>?_)
   refine ⟨⟨⟨_,hL.ar (b:=b_1) _,rfl⟩,⟨⟨_,hL.ar (b:=b_1) _,rfl⟩,trivial⟩⟩,?_⟩
   obtain rfl:z_91=(c.i2:Int):=h_911.2 rfl
   refine c48 hc.map.2.1 hL (fun h5 h6 np ns w8 hns hL=>?_) (fun h w8 _ hL=>absurd ⟨hconf,BK hmap.1.2.1⟩ h)
   refine ⟨⟨⟨_,hL.ar (b:=b_1) _,rfl⟩,⟨⟨_,hL.ar (b:=b_1) _,rfl⟩,trivial⟩⟩,?_⟩
   refine hL.aN (b:=b_16) [pt np] (gl c (pt p_21) (pt l0) (pt l1) (pt r0) (pt r1) (pt np) (.pointer none) b_14) fun w_77 hL=>?_
   refine ⟨⟨⟨_,hL.ar (b:=b_1) _,rfl⟩,⟨⟨_,hL.ar (b:=b_1) _,rfl⟩,trivial⟩⟩,?_⟩
   refine ac ?_
   refine ⟨_,hL.ar (b:=b_1) [.int .u32 c.own,.int .u32 c.mask,.int .u32 c.first,.int .u32 c.last,.int .u32 c.time,.int .u32 c.hold,.int .u32 c.quiet],?_⟩
   refine c50 hc.lend hL (fun h7 sp ss w9 _ hL=>?_) (fun h w9 hL=>absurd hlend.1 h)
   refine hL.aN (b:=b_16) [pt sp] (gl c (pt p_21) (pt l0) (pt l1) (pt r0) (pt r1) (pt np) (pt sp) b_14) fun w_86 hL=>?_
   refine ac ?_
   refine ah ?_
   have hL:=hL.kF.rowOf (.slice none 0 0) 99 2
   have hL:SH w0 _ (Ga b_16 ⟨c,0,p_21,l0,l1,r0,r1,np,sp,b_14,none,0,s_21,bh,bl,ri0,ri1,ns,ss,[],[]⟩::L):=SH.aU (p:=b_16) (s:=⟨c,0,p_21,l0,l1,r0,r1,np,sp,b_14,none,0,s_21,bh,bl,ri0,ri1,ns,ss,[],[]⟩) (R:=L) (SH.ae (L':=Cl b_16 89 (gl c (pt p_21) (pt l0) (pt l1) (pt r0) (pt r1) (pt np) (pt sp) b_14)::Mt cy b_14 []::Po p_21 s_21::Li l0 bh::Li l1 bl::Ri r0 ri0::Ri r1 ri1::Na np ns::Se sp ss::Row 99 2 (.slice none 0 0) 0 []::bj []::L) hL) ⟨hc,Nat.zero_le _,hf0.2,hf1.2⟩
   exact k1 ⟨⟨hg1,hg2,hg3⟩,hmap,hconf,hst,hlend⟩ b_16 ⟨c,0,p_21,l0,l1,r0,r1,np,sp,b_14,none,0,s_21,bh,bl,ri0,ri1,ns,ss,[],[]⟩ _ ⟨rfl,rfl,hns.2,hns.1,rfl,rfl,⟨eS,by rw [h_214];exact List.mem_replicate.2 ⟨by omega,rfl⟩,rfl⟩,hf0.1,hf1.1⟩ hL
 ·refine ⟨_,rfl,?_⟩
  refine ac ?_
  refine ah ?_
  refine k2 (by assumption) _ hL.ae
end
end
section
structure dO where
 k:Int
 s:Int
 v:Value
 bs:List Nat
 n:Nat
abbrev iK (x:dO):List Value:=[C5 x.k,C5 x.s,x.v,C4 x.n]
def fS (l:List dO):List Value:=l.flatMap fun x=>iK x
def v7 (l:List dO):List (Value × List Nat):=l.map fun x=>(x.v,x.bs)
theorem oX (l:List dO):(fS l).length=l.length*4:=by
 induction l with
 | nil=>rfl
 | cons B r ih=>simp only [fS,List.flatMap_cons,List.length_append,List.length_cons,List.length_nil] at ih ⊢;omega
theorem oY: ∀ (l:List dO) (i:Nat) (B:dO),l[i]?=some B→ ∀ t u,(iK B)[t]?=some u→(fS l)[i*4+t]?=some u
 | [],i,B,h=>by simp at h
 | C::r,0,B,h=>by
  simp at h;subst h
  intro t u q
  have f:fS (C::r)=iK C++fS r:=rfl
  rw [f,Nat.zero_mul,Nat.zero_add,List.getElem?_append_left]
  ·exact q
  ·exact (List.getElem?_eq_some_iff.1 q).1
 | C::r,i+1,B,h=>by
  intro t u q
  have:=oY r i B (by simpa using h) t u q
  have f:fS (C::r)=iK C++fS r:=rfl
  rw [f,List.getElem?_append_right (by show 4≤_;omega)]
  have e:(i+1)*4+t - (iK C).length=i*4+t:=by show (i+1)*4+t - 4=_;omega
  rw [e]
  exact this
def Es (v:Value) (l:List dO):ao:=bi [Rd 4 v (fS l),bj (v7 l)]
def rB (w:World) (v:Value) (l:List dO):Prop:=(∃ n,Reads w 4 v n (fS l))∧ ∀ x∈l,Rb w x.v x.bs
class lK (L:List ao) (v:Value) (l:outParam (List dO)):Prop where
 get: ∀ {w0 w:World},SH w0 w L→rB w v l
instance esHead (v:Value) (l:List dO) (L:List ao):lK (Es v l::L) v l:=⟨fun h=>by
 have h1:=(h.holds (Es v l) (.head _)).1
 exact ⟨h1 (Rd 4 v (fS l)) (.head _) (v,fS l) (.head _),fun x q=>h1 (bj (v7 l)) (.tail _ (.head _)) (x.v,x.bs) (List.mem_map.2 ⟨x,q,rfl⟩)⟩⟩
instance (priority:=low) esTail (A:ao) (L:List ao) (v:Value) (l:List dO) [h:lK L v l]:lK (A::L) v l:=⟨fun k=>h.get k.tail⟩
section
variable {w0 w:World} {L R R2 R3:List ao} {K:Value→World→Prop} {v u:Value} {bs:List Nat} {l:List dO}
theorem SH.v8 (H:SH w0 w L) [h:lK L v l]: ∃ a c,v= .slice a l.length c∧dV L a 4 l.length (fS l)∧(∀ x∈l,aD L x.v x.bs):=by
 obtain ⟨⟨n,q⟩,hb⟩:=h.get H
 have y:n=l.length:=by have:=q.1;rw [oX] at this;omega
 subst y
 obtain ⟨hl,a,c,rfl,ha,hc⟩:=q
 refine ⟨a,c,rfl,⟨fun {w0 w} k=>?_⟩,fun x J=>⟨fun {w0 w} k=>(h.get k).2 x J⟩⟩
 obtain ⟨⟨n,q⟩,_⟩:=h.get k
 have y:n=l.length:=by have:=q.1;rw [oX] at this;omega
 subst y
 exact ⟨c,q⟩
theorem SH.jX {ad:Addr} {i:Nat} {B:dO} (q:SH w0 w L) [h:dV L (some ad) 4 l.length (fS l)] (y:l[i]?=some B):cE w (ad.add (i*4)) 0 4=some (iK B):=
 q.oE rfl fun t u H=>oY l i B y t u H
theorem SH.jY {ad:Addr} {i j:Nat} {B:dO} (q:SH w0 w L) [h:dV L (some ad) 4 l.length (fS l)] (y:l[i]?=some B) {u:Value} (H:(iK B)[j]?=some u):w.cell? ((ad.add (i*4)).add j)=some u:=by
 obtain ⟨c,_,a',c',e,_,J⟩:=h.get q
 cases e
 rw [oD]
 exact J ad rfl (i*4+j) u (oY l i B y j u H)
attribute [local irreducible] ay aQ aH aY a6 aW aK aV num be over nb rowOf bD ct
theorem c5 (q:SH w0 w L) [h:lK L v l] (hlen:l.length≤140737488355328) (k1: ∀ y,SH w0 y L→K (.bool true) y) (k2:l.length≤100→(∀ x∈l,x.bs.length≤2000)→ ∀ y,SH w0 y L→K (.bool false) y):D 5 [v] w K:=by
 obtain ⟨a,c,rfl,hrw,hby⟩:=SH.v8 q (v:=v)
 refine s5 rfl<|ac<|aq<|ap (fun h_6=>?_) (fun h_6=>?_)
 ·refine ac<|ah<|k1 _ q.ae
 ·refine ak<|av<|ac<|aM ?_
  refine bU (2::3::List.range' 7 13) rfl [0,3] (fun (i:Nat)=>[.slice a l.length c,C5 i]) (fun i y=>(i≤l.length∧ ∀ j B,j<i→l[j]?=some B→B.bs.length≤2000)∧SH w0 y L) (fun i=>l.length - i) 0 rfl ⟨⟨Nat.zero_le _,fun j B h=>absurd h (Nat.not_lt_zero _)⟩,q⟩ ?_
  rintro g i w6 ⟨⟨hi,hall⟩,q⟩
  refine aE [0,3] [.slice a l.length c,C5 i] rfl fun _=>aq<|ap (fun H=>?_) (fun H=>?_)
  ·have hil:i<l.length:=by omega
   have Y:l[i]?=some l[i]:=List.getElem?_eq_getElem hil
   generalize l[i]=B at Y
   have hby1:=hby B (List.mem_of_getElem? Y)
   obtain ⟨kk,ss,vv,bb,nn⟩:=B
   simp only at hby1
   obtain ⟨ab,cb,rfl,_,_,_⟩:=q.enter (v:=vv)
   obtain ⟨aa,rfl⟩:=q.dW a
   refine ak<|aG<|ac ⟨by omega,_,rfl,⟨_,SH.jY (j:=2) q Y rfl,ap (fun J=>?_) (fun J=>?_)⟩⟩
   ·refine ai<|ac<|ah<|k1 _ q.ae
   ·refine ai<|ak<|au<|Db ⟨i+1,rfl,⟨⟨by omega,fun j B hj hB2=>?_⟩,q⟩,by omega⟩
    rcases (by omega:j<i∨j=i) with h | rfl
    ·exact hall j B h hB2
    ·rw [Y] at hB2;cases hB2;show bb.length≤2000;omega
  ·exact aS<|ac<|ah<|k2 (by omega) (fun x hx=>by obtain ⟨j,hj⟩:=List.mem_iff_getElem?.1 hx;exact hall j x (by have:=(List.getElem?_eq_some_iff.1 hj).1;omega) hj) _ q
theorem c29 (q:SH w0 w L) [hb:aD L v bs] (hlen:bs.length≤100000) (k: ∀ a c H,SH w0 H (By (sl a c bs) bs::L)→K (sl a c bs) H):D 29 [v] w K:=by
 obtain ⟨ad,c,rfl,hcap,hB1,hl0⟩:=q.enter (v:=v)
 refine s29 rfl<|ac<|ac ⟨rfl,[],rfl,q.an fun y _ q=>aZ (dL (v:= .slice (some ⟨y,0,none⟩) 0 0) (u:=sl ad c bs) rfl rfl rfl q (q.rb (sl ad c bs)).reads (nO _) (by omega) fun J Y w2 q=>?_)⟩
 have h9:SH w0 w2 (Row 5 1 (.slice J bs.length Y) bs.length (aT bs)::L):=by
  rw [Nat.zero_add,List.nil_append] at q
  exact q.ae
 have h8:=(SH.fX hB1 h9).l8
 refine ah ?_
 have e:0+bs.length=bs.length:=Nat.zero_add _
 rw [e]
 exact k J Y _ h8
theorem c10 {kind side:Int} {n:Nat} (q:SH w0 w L) [hb:aD L v bs] (hlen:bs.length≤100000) (k: ∀ a c w',SH w0 w' (By (sl a c bs) bs::L)→K (fD kind side (sl a c bs) n) w'):D 10 [fD kind side v n] w K:=by
 obtain ⟨ad,c,rfl,hcap,hB1,hl0⟩:=q.enter (v:=v)
 refine s10 rfl<|ac<|q.az [C5 kind,C5 side,sl ad c bs,C4 n] fun y _ q=>q.an fun H _ q=>ac<|q.C9 (b:=y) rfl<|c29 (v:=sl ad c bs) q ‹_› (fun J Y _ q=>q.aN (b:=y) [sl J Y bs] [C5 kind,C5 side,sl J Y bs,C4 n] fun _ q=>ac (q.Da (b:=y) rfl (q.aj (b:=H) fun _ q=>ah (q.Da (b:=H) rfl (k _ _ _ q.ae)))))
theorem c13 {qs:List Nat} (q:SH w0 w L) [hb:aD L v bs] [hq:aD L u qs] (hlen:bs.length≤100000∧qs.length≤100000) (he:bs=qs) (k: ∀ J,SH w0 J L→K (.bool true) J):D 13 [v,u] w K:=by
 obtain ⟨ad,c,rfl,hcap,hB1,hl0⟩:=q.enter (v:=v)
 obtain ⟨ad2,Y,rfl,hcap2,hB2,hl2⟩:=q.enter (v:=u)
 refine s13 rfl<|ac<|aq<|ap (fun y=>?_) (fun y=>?_)
 ·exact ac<|ah<|absurd y (by rw [he];omega)
 ·refine ak<|av<|ac<|aM ?_
  subst he
  refine bU (4::5::List.range' 11 16) rfl [0,1,5] (fun (i:Nat)=>[sl ad c bs,sl ad2 Y bs,C5 i]) (fun i J=>i≤bs.length∧SH w0 J L) (fun i=>bs.length - i) 0 rfl ⟨Nat.zero_le _,q⟩ ?_
  rintro g i w6 ⟨hi,q⟩
  refine aq<|ap (fun H=>?_) (fun H=>?_)
  ·refine ak<|aG<|aJ<|have q:=q.drew;?_
   obtain ⟨ad_19,rfl⟩:=q.dp ad
   refine ⟨by omega,_,rfl,q.cV (j:=i) fun _=>?_⟩
   obtain ⟨ad_23,rfl⟩:=q.dp ad2
   exact ⟨by omega,_,rfl,q.cV (j:=i) fun _=>Df (ai (ak (au (Db (⟨i+1,rfl,⟨by omega,q⟩,by omega⟩)))))⟩
  ·refine aS<|ac<|ah<|k _ q.ae
end
end
section
structure kQ (f:List Nat) (proto fr to:Nat) (qs:List Nat):Prop where
 eth:num f 12 2=2048
 inet:gw (f.drop 14)
 pkt:proto=(f.drop 14).getD 9 0∧fr=num (f.drop 14) 12 4∧to=num (f.drop 14) 16 4∧qs=cJ (f.drop 14) (num (f.drop 14) 2 2)
section
variable {w0 w:World} {L R R2 R3:List ao} {K:Value→World→Prop} {v u:Value} {bs:List Nat} {c:fB}
attribute [local irreducible] ay aQ aH aY a6 aW aK aV num be over nb rowOf bD ct
theorem c22g (q:SH w0 w L) [hb:aD L v bs]
  (k: ∀ (t0 t1 t2 t3 t4 t5 f0 f1 f2 f3 f4 f5 kd:Nat) (body:List Nat) a c (er:Option Nat) y,bw (bq t0 t1 t2 t3 t4 t5)∧bw (bq f0 f1 f2 f3 f4 f5)→(er=none→kd=num bs 12 2∧body=bs.drop 14)→body.length≤bs.length→SH w0 y (By (sl a c body) body::L)→
   K (.tuple #[mq t0 t1 t2 t3 t4 t5 f0 f1 f2 f3 f4 f5 kd (sl a c body),dN er]) y):D 22 [v] w K:=by
 have H:=(q.rb v (bs:=bs)).gN
 refine c22 (v:=v) q (fun h1 _ a c y q=>?_) (fun h1 b y q=>?_)
 ·exact k _ _ _ _ _ _ _ _ _ _ _ _ _ _ a c none y ⟨oe H 0,iA H 6⟩ (fun _=>⟨rfl,rfl⟩) (by rw [List.length_drop];omega) q.ae
 ·exact k 0 0 0 0 0 0 0 0 0 0 0 0 0 [] none 0 (some b) y ⟨lJ,lJ⟩ (fun h=>by cases h) (Nat.zero_le _) (SH.cH q).ae
theorem c23h (y:SH w0 w L) [hb:aD L v bs] (hlen:bs.length≤100000)
  (k: ∀ (tos id:Nat) (keep:Bool) (ttl proto fr to:Nat) (qs:List Nat) a c (er:Option Nat) q,bI tos id ttl proto fr to→(er=none→gw bs∧proto=bs.getD 9 0∧fr=num bs 12 4∧to=num bs 16 4∧qs=cJ bs (num bs 2 2))→qs.length≤bs.length→SH w0 q (By (sl a c qs) qs::L)→
   K (.tuple #[ba tos id keep ttl proto fr to (sl a c qs),dN er]) q):D 23 [v] w K:=
 c23g y hlen (fun tos id keep ttl proto fr to qs h1 H J Y a c q y=>k tos id keep ttl proto fr to qs a c none q J (fun _=>⟨h1,H⟩) Y y)
  (fun h1 b q y=>k 0 0 false 0 0 0 0 [] none 0 (some b) q ⟨by decide,by decide,by decide,by decide,by decide,by decide⟩ (fun h=>by cases h) (Nat.zero_le _) (SH.cH y).ae)
theorem c8 {kind side:Int} {n:Nat} (hc:iI c) (hL:SH w0 w L) [hb:aD L v bs] (hlen:bs.length≤2000)
  (k: ∀ (b:Bool) (tos id:Nat) (keep:Bool) (ttl proto fr to:Nat) (qs:List Nat) a c w',(b=true→kind=0∧cY kind side bs.length n∧kQ bs proto fr to qs)→bI tos id ttl proto fr to→qs.length≤2000→SH w0 w' (By (sl a c qs) qs::L)→K (.tuple #[ba tos id keep ttl proto fr to (sl a c qs),.bool b]) w'):D 8 [iJ c,fD kind side v n] w K:=by
 have hi:=hc.inM
 have ho:=hc.outM
 obtain ⟨ad,c0,rfl,hcap,hB1,hl0⟩:=hL.enter (v:=v)
 refine s8 rfl ?_
 refine ac ?_
 refine hL.az [.int .u32 c.i1,.int .i64 c.b1,.int .u32 c.i2,.int .i64 c.b2,.int .u32 c.rt,.int .u8 c.a0,.int .u8 c.a1,.int .u8 c.a2,.int .u8 c.a3,.int .u8 c.a4,.int .u8 c.a5,.int .u8 c.o0,.int .u8 c.o1,.int .u8 c.o2,.int .u8 c.o3,.int .u8 c.o4,.int .u8 c.o5,.int .i64 c.maps,.int .i64 c.flows,.int .i64 c.least,.int .i64 c.most,.int .u64 c.t0,.int .u64 c.t1,.int .u64 c.t2,.int .u64 c.t3,.int .i64 c.room,.int .i64 c.wait,.int .u64 c.life,.int .u64 c.patience,.int .i64 c.buffers,.int .i64 c.ring,.int .u32 c.own,.int .u32 c.mask,.int .u32 c.first,.int .u32 c.last,.int .u32 c.time,.int .u32 c.hold,.int .u32 c.quiet] fun b_2 w_2 hL=>?_
 refine hL.az [.int .i64 kind,.int .i64 side,sl ad c0 bs,.int .u64 n] fun b_3 w_3 hL=>?_
 refine hL.an fun b_4 w_4 hL=>?_
 refine ac ?_
 refine ⟨_,hL.ld (b:=b_3) rfl,?_⟩
 refine c22g (v:=sl ad c0 bs) hL (fun t0 t1 t2 t3 t4 t5 f0 f1 f2 f3 f4 f5 kd body a1 c1 er w_14 hm hk hbl hL=>?_)
 refine hL.an fun b_6 w_6 hL=>?_
 refine hL.aj (b:=b_6) fun w_45 hL=>?_
 refine ac ?_
 refine ⟨_,hL.ar (b:=b_2) [.int .u8 c.a0,.int .u8 c.a1,.int .u8 c.a2,.int .u8 c.a3,.int .u8 c.a4,.int .u8 c.a5],?_⟩
 refine hL.an fun b_8 w_8 hL=>?_
 refine hL.aj (b:=b_8) fun w_50 hL=>?_
 have hL:SH w0 w_50 (Cl b_8 28 [.int .u8 c.a0,.int .u8 c.a1,.int .u8 c.a2,.int .u8 c.a3,.int .u8 c.a4,.int .u8 c.a5]::Cl b_6 75 [.int .u8 t0,.int .u8 t1,.int .u8 t2,.int .u8 t3,.int .u8 t4,.int .u8 t5,.int .u8 f0,.int .u8 f1,.int .u8 f2,.int .u8 f3,.int .u8 f4,.int .u8 f5,.int .u16 kd,sl a1 c1 body]::Cl b_4 46 [.int .u8 0,.int .u16 0,.bool false,.int .u8 0,.int .u8 0,.int .u32 0,.int .u32 0,.slice none 0 0]::Cl b_3 50 [.int .i64 kind,.int .i64 side,sl ad c0 bs,.int .u64 n]::Cl b_2 37 [.int .u32 c.i1,.int .i64 c.b1,.int .u32 c.i2,.int .i64 c.b2,.int .u32 c.rt,.int .u8 c.a0,.int .u8 c.a1,.int .u8 c.a2,.int .u8 c.a3,.int .u8 c.a4,.int .u8 c.a5,.int .u8 c.o0,.int .u8 c.o1,.int .u8 c.o2,.int .u8 c.o3,.int .u8 c.o4,.int .u8 c.o5,.int .i64 c.maps,.int .i64 c.flows,.int .i64 c.least,.int .i64 c.most,.int .u64 c.t0,.int .u64 c.t1,.int .u64 c.t2,.int .u64 c.t3,.int .i64 c.room,.int .i64 c.wait,.int .u64 c.life,.int .u64 c.patience,.int .i64 c.buffers,.int .i64 c.ring,.int .u32 c.own,.int .u32 c.mask,.int .u32 c.first,.int .u32 c.last,.int .u32 c.time,.int .u32 c.hold,.int .u32 c.quiet]::By (sl a1 c1 body) body::L):=hL.ae
 refine bt (List.range' 19 5) rfl [2,3,4,5,6,7,8,34,38,42,47,53,58] (fun (x:Nat × Nat × Nat × Nat × Nat × Nat)=>[pt b_2,pt b_3,pt b_4,.bool false,pt b_6,dN er,pt b_8,undef,undef,undef,undef,undef,undef]) (fun x w'=>bw (bq x.1 x.2.1 x.2.2.1 x.2.2.2.1 x.2.2.2.2.1 x.2.2.2.2.2)∧SH w0 w' (Cl b_8 28 (bq x.1 x.2.1 x.2.2.1 x.2.2.2.1 x.2.2.2.2.1 x.2.2.2.2.2)::Cl b_6 75 [.int .u8 t0,.int .u8 t1,.int .u8 t2,.int .u8 t3,.int .u8 t4,.int .u8 t5,.int .u8 f0,.int .u8 f1,.int .u8 f2,.int .u8 f3,.int .u8 f4,.int .u8 f5,.int .u16 kd,sl a1 c1 body]::Cl b_4 46 [.int .u8 0,.int .u16 0,.bool false,.int .u8 0,.int .u8 0,.int .u32 0,.int .u32 0,.slice none 0 0]::Cl b_3 50 [.int .i64 kind,.int .i64 side,sl ad c0 bs,.int .u64 n]::By (sl a1 c1 body) body::L)) ?_ ?_
 ·refine ac ?_
  refine ⟨_,hL.ld (b:=b_3) rfl,?_⟩
  refine ap (fun h_21=>?_) (fun h_21=>?_)
  ·refine ai ?_
   refine au ?_
   refine ⟨_,hL.ar (b:=b_2) [.int .u8 c.o0,.int .u8 c.o1,.int .u8 c.o2,.int .u8 c.o3,.int .u8 c.o4,.int .u8 c.o5],?_⟩
   refine hL.aj (b:=b_8) fun w_54 hL=>?_
   exact ⟨(c.o0,c.o1,c.o2,c.o3,c.o4,c.o5),rfl,ho,hL.ae⟩
  ·refine ai ?_
   refine ak ?_
   exact ⟨(c.a0,c.a1,c.a2,c.a3,c.a4,c.a5),rfl,hi,hL.ae⟩
 rintro g ⟨x0,x1,x2,x3,x4,x5⟩ w6 ⟨hx,hL⟩
 simp only at hx hL
 refine ac ?_
 refine ⟨_,hL.ld (b:=b_6) rfl,?_⟩
 refine c23h (v:=sl a1 c1 body) hL (by omega) (fun tos id keep ttl proto fr to qs a2 c2 er2 w_27 hB hq hql hL=>?_)
 refine hL.an fun b_9 w_9 hL=>?_
 refine hL.aj (b:=b_9) fun w_68 hL=>?_
 refine aJ ?_
 have hL:=hL.drew
 refine ⟨_,hL.af (b:=b_9) rfl,?_⟩
 refine ⟨_,hL.ld (b:=b_3) rfl,?_⟩
 refine ap (fun h_33=>?_) (fun h_33=>?_)
 ·refine ⟨_,hL.af (b:=b_3) rfl,?_⟩
  refine c24 hL (by omega) (fun h_36 w_36 hL=>?_) (fun h_36 w_36 hL=>?_)
  ·refine ⟨⟨⟨_,hL.af (b:=b_3) rfl,rfl⟩,⟨hL.ld (b:=b_3) rfl,⟨⟨_,hL.af (b:=b_9) rfl,rfl⟩,trivial⟩⟩⟩,?_⟩
   cases er with
   | some eb=>
    refine ⟨_,bH (neg:=false) rfl,?_⟩
    refine hL.aj (b:=b_4) fun w_110 hL=>?_
    refine ⟨⟨bH (neg:=false) rfl,⟨⟨_,hL.af (b:=b_3) rfl,rfl⟩,⟨hL.ld (b:=b_3) rfl,⟨⟨_,hL.af (b:=b_9) rfl,rfl⟩,trivial⟩⟩⟩⟩,?_⟩
    refine ah ?_
    refine ⟨_,hL.af (b:=b_4) rfl,?_⟩
    refine k _ _ _ _ _ _ _ _ _ _ _ _ (fun h=>Bool.noConfusion h) (by assumption) (by omega) hL.ae
   | none=>
    obtain ⟨rfl,rfl⟩:=hk rfl
    refine ⟨_,bg (neg:=false) rfl,?_⟩
    refine ⟨_,hL.af (b:=b_6) rfl,?_⟩
    refine ⟨_,hL.af (b:=b_8) rfl,?_⟩
    refine c25 (m:=bq x0 x1 x2 x3 x4 x5) hL hm.1 hx (fun _ w8 hL=>?_) (fun _ w8 hL=>?_)
    ·refine ⟨⟨⟨_,hL.af (b:=b_8) rfl,rfl⟩,⟨⟨_,hL.af (b:=b_6) rfl,rfl⟩,⟨bg (neg:=false) rfl,⟨⟨_,hL.af (b:=b_3) rfl,rfl⟩,⟨hL.ld (b:=b_3) rfl,⟨⟨_,hL.af (b:=b_9) rfl,rfl⟩,trivial⟩⟩⟩⟩⟩⟩,?_⟩
     refine ⟨_,hL.ar (b:=b_6) [.int .u8 f0,.int .u8 f1,.int .u8 f2,.int .u8 f3,.int .u8 f4,.int .u8 f5],?_⟩
     refine ⟨_,hL.af (b:=b_8) rfl,?_⟩
     have hm1:=hm.2
     by_cases hne:bq f0 f1 f2 f3 f4 f5=bq x0 x1 x2 x3 x4 x5
     ·refine ⟨_,tU (neg:=true) rfl hne,?_⟩
      refine hL.aj (b:=b_4) fun w_129 hL=>?_
      refine ⟨⟨tU (neg:=true) rfl,⟨⟨_,hL.af (b:=b_8) rfl,rfl⟩,⟨⟨_,hL.ar (b:=b_6) _,rfl⟩,⟨⟨_,hL.af (b:=b_8) rfl,rfl⟩,⟨⟨_,hL.af (b:=b_6) rfl,rfl⟩,⟨bg (neg:=false) rfl,⟨⟨_,hL.af (b:=b_3) rfl,rfl⟩,⟨hL.ld (b:=b_3) rfl,⟨⟨_,hL.af (b:=b_9) rfl,rfl⟩,trivial⟩⟩⟩⟩⟩⟩⟩⟩⟩,?_⟩
      refine ah ?_
      refine ⟨_,hL.af (b:=b_4) rfl,?_⟩
      refine k _ _ _ _ _ _ _ _ _ _ _ _ (fun h=>Bool.noConfusion h) (by assumption) (by omega) hL.ae
     ·refine ⟨_,mm (neg:=true) rfl hne,?_⟩
      refine ⟨_,hL.ld (b:=b_6) rfl,?_⟩
      refine ap (fun h_56=>?_) (fun h_56=>?_)
      ·cases er2 with
       | some eb=>
        refine ⟨_,bH (neg:=false) rfl,?_⟩
        refine hL.aj (b:=b_4) fun w_133 hL=>?_
        refine ⟨⟨bH (neg:=false) rfl,⟨hL.ld (b:=b_6) rfl,⟨mm (neg:=true) rfl,⟨⟨_,hL.af (b:=b_8) rfl,rfl⟩,⟨⟨_,hL.ar (b:=b_6) _,rfl⟩,⟨⟨_,hL.af (b:=b_8) rfl,rfl⟩,⟨⟨_,hL.af (b:=b_6) rfl,rfl⟩,⟨bg (neg:=false) rfl,⟨⟨_,hL.af (b:=b_3) rfl,rfl⟩,⟨hL.ld (b:=b_3) rfl,⟨⟨_,hL.af (b:=b_9) rfl,rfl⟩,trivial⟩⟩⟩⟩⟩⟩⟩⟩⟩⟩⟩,?_⟩
        refine ah ?_
        refine ⟨_,hL.af (b:=b_4) rfl,?_⟩
        refine k _ _ _ _ _ _ _ _ _ _ _ _ (fun h=>Bool.noConfusion h) (by assumption) (by omega) hL.ae
       | none=>
        have hq:=hq rfl
        have hP:kQ bs proto fr to qs:=⟨by omega,hq.1,hq.2⟩
        refine ⟨_,bg (neg:=false) rfl,?_⟩
        refine hL.aj (b:=b_4) fun w_134 hL=>?_
        refine ⟨⟨bg (neg:=false) rfl,⟨hL.ld (b:=b_6) rfl,⟨mm (neg:=true) rfl,⟨⟨_,hL.af (b:=b_8) rfl,rfl⟩,⟨⟨_,hL.ar (b:=b_6) _,rfl⟩,⟨⟨_,hL.af (b:=b_8) rfl,rfl⟩,⟨⟨_,hL.af (b:=b_6) rfl,rfl⟩,⟨bg (neg:=false) rfl,⟨⟨_,hL.af (b:=b_3) rfl,rfl⟩,⟨hL.ld (b:=b_3) rfl,⟨⟨_,hL.af (b:=b_9) rfl,rfl⟩,trivial⟩⟩⟩⟩⟩⟩⟩⟩⟩⟩⟩,?_⟩
        refine ah ?_
        refine ⟨_,hL.af (b:=b_4) rfl,?_⟩
        exact k true _ _ _ _ _ _ _ _ _ _ _ (fun _=>⟨h_33,h_36,hP⟩) hB (by omega) hL.ae
      ·refine hL.aj (b:=b_4) fun w_130 hL=>?_
       refine ⟨⟨hL.ld (b:=b_6) rfl,⟨mm (neg:=true) rfl,⟨⟨_,hL.af (b:=b_8) rfl,rfl⟩,⟨⟨_,hL.ar (b:=b_6) _,rfl⟩,⟨⟨_,hL.af (b:=b_8) rfl,rfl⟩,⟨⟨_,hL.af (b:=b_6) rfl,rfl⟩,⟨bg (neg:=false) rfl,⟨⟨_,hL.af (b:=b_3) rfl,rfl⟩,⟨hL.ld (b:=b_3) rfl,⟨⟨_,hL.af (b:=b_9) rfl,rfl⟩,trivial⟩⟩⟩⟩⟩⟩⟩⟩⟩⟩,?_⟩
       refine ah ?_
       refine ⟨_,hL.af (b:=b_4) rfl,?_⟩
       refine k _ _ _ _ _ _ _ _ _ _ _ _ (fun h=>Bool.noConfusion h) (by assumption) (by omega) hL.ae
    ·refine ⟨⟨⟨_,hL.af (b:=b_8) rfl,rfl⟩,⟨⟨_,hL.af (b:=b_6) rfl,rfl⟩,⟨bg (neg:=false) rfl,⟨⟨_,hL.af (b:=b_3) rfl,rfl⟩,⟨hL.ld (b:=b_3) rfl,⟨⟨_,hL.af (b:=b_9) rfl,rfl⟩,trivial⟩⟩⟩⟩⟩⟩,?_⟩
     refine hL.aj (b:=b_4) fun w_126 hL=>?_
     refine ⟨⟨⟨_,hL.af (b:=b_8) rfl,rfl⟩,⟨⟨_,hL.af (b:=b_6) rfl,rfl⟩,⟨bg (neg:=false) rfl,⟨⟨_,hL.af (b:=b_3) rfl,rfl⟩,⟨hL.ld (b:=b_3) rfl,⟨⟨_,hL.af (b:=b_9) rfl,rfl⟩,trivial⟩⟩⟩⟩⟩⟩,?_⟩
     refine ah ?_
     refine ⟨_,hL.af (b:=b_4) rfl,?_⟩
     refine k _ _ _ _ _ _ _ _ _ _ _ _ (fun h=>Bool.noConfusion h) (by assumption) (by omega) hL.ae
  ·refine ⟨⟨⟨_,hL.af (b:=b_3) rfl,rfl⟩,⟨hL.ld (b:=b_3) rfl,⟨⟨_,hL.af (b:=b_9) rfl,rfl⟩,trivial⟩⟩⟩,?_⟩
   refine hL.aj (b:=b_4) fun w_107 hL=>?_
   refine ⟨⟨⟨_,hL.af (b:=b_3) rfl,rfl⟩,⟨hL.ld (b:=b_3) rfl,⟨⟨_,hL.af (b:=b_9) rfl,rfl⟩,trivial⟩⟩⟩,?_⟩
   refine ah ?_
   refine ⟨_,hL.af (b:=b_4) rfl,?_⟩
   refine k _ _ _ _ _ _ _ _ _ _ _ _ (fun h=>Bool.noConfusion h) (by assumption) (by omega) hL.ae
 ·refine hL.aj (b:=b_4) fun w_104 hL=>?_
  refine ⟨⟨hL.ld (b:=b_3) rfl,⟨⟨_,hL.af (b:=b_9) rfl,rfl⟩,trivial⟩⟩,?_⟩
  refine ah ?_
  refine ⟨_,hL.af (b:=b_4) rfl,?_⟩
  refine k _ _ _ _ _ _ _ _ _ _ _ _ (fun h=>Bool.noConfusion h) (by assumption) (by omega) hL.ae
theorem SH.wg {ad:Addr} {size n j o:Nat} {xs:List Value} {u:Value} (q:SH w0 w L) [h:dV L (some ad) size n xs] (y:xs[j*size+o]?=some u):w.cell? ((ad.add (j*size)).add o)=some u:=by
 obtain ⟨c,_,a',c',e,_,H⟩:=h.get q
 cases e
 rw [oD]
 exact H ad rfl (j*size+o) u y
theorem c12 {p:Nat} {s:bA} {side:Int} {tv:Value} (ht:dZ tv=true) (hf: ∀ x∈s.pl,x.bs.length≤100000) (hpl:s.pl.length≤100000) (hL:SH w0 w L) [q:aC (Ga p) L s R]
  (k: ∀ (b:Bool) (tos id:Nat) (keep:Bool) (ttl proto fr to:Nat) (qs:List Nat) a c w',(b=true→ ∃ x∈s.pl,x.side=side∧kQ x.bs proto fr to qs)→bI tos id ttl proto fr to→qs.length≤100000→SH w0 w' (Ga p s::By (sl a c qs) qs::R)→K (.tuple #[ba tos id keep ttl proto fr to (sl a c qs),.bool b]) w'):D 12 [.agg #[.slice s.pa s.pl.length s.pc,tv],.int .i64 side] w K:=by
 obtain ⟨hs,hL⟩:=SH.ga hL p
 have shut: ∀ {w':World} {A:List ao},SH w0 w' (Cl p 89 (bR s)::Mt cy s.db s.D::fR s A)→SH w0 w' (Ga p s::A):=fun h=>SH.aU h hs
 generalize bR s=cs at hL shut
 obtain ⟨c9,now,pp,l0,l1,r0,r1,np,sp,db,pa,pc,po,bh,bl,ri0,ri1,na,se,D,pl⟩:=s
 simp only [fR] at hL shut hf hpl k ⊢
 refine s12 rfl ?_
 refine ac ?_
 refine hL.az [.slice pa pl.length pc,tv] fun b_2 w_2 hL=>?_
 refine hL.an fun b_4 w_4 hL=>?_
 refine bt ([5]++List.range' 10 14) rfl [1,2,4,5,42,47] (fun (_:cI)=>[.int .i64 side,pt b_2,pt b_4,.bool false,undef,undef]) (fun x w'=>(pl=[x]∧x.side=side)∧SH w0 w' (Cl b_2 54 [.slice pa pl.length pc,tv]::Cl b_4 46 [.int .u8 0,.int .u16 0,.bool false,.int .u8 0,.int .u8 0,.int .u32 0,.int .u32 0,.slice none 0 0]::Cl p 89 cs::Mt cy db D::Po pp po::Li l0 bh::Li l1 bl::Ri r0 ri0::Ri r1 ri1::Na np na::Se sp se::Row 99 2 (.slice pa pl.length pc) pl.length (eF pl)::bj (gj pl)::R)) ?_ ?_
 ·refine ac ?_
  refine ⟨_,hL.ld (b:=b_2) rfl,?_⟩
  refine ap (fun h_13=>?_) (fun h_13=>?_)
  ·refine ai ?_
   refine ac ?_
   refine ⟨by kernel_rfl,[.int .u8 0,.int .u16 0,.bool false,.int .u8 0,.int .u8 0,.int .u32 0,.int .u32 0,.slice none 0 0],by kernel_rfl,?_⟩
   refine hL.aj (b:=b_4) fun w_54 hL=>?_
   refine ah ?_
   refine ⟨_,hL.af (b:=b_4) rfl,?_⟩
   exact k false 0 0 false 0 0 0 0 [] none 0 _ (fun h=>Bool.noConfusion h) ⟨by decide,by decide,by decide,by decide,by decide,by decide⟩ (Nat.zero_le _) (shut (SH.ae (SH.cH hL)))
  ·obtain ⟨x,rfl⟩:=List.length_eq_one_iff.1 (show pl.length=1 by omega)
   obtain ⟨sd,xv,fb⟩:=x
   obtain ⟨ad,rfl⟩:=hL.dW pa (Nat.zero_lt_one)
   refine ⟨_,hL.ld (b:=b_2) rfl,?_⟩
   refine ⟨by omega,_,rfl,?_⟩
   refine ⟨_,SH.wg (size:=2) (j:=0) (o:=0) hL rfl,?_⟩
   refine ap (fun h_21=>?_) (fun h_21=>?_)
   ·refine ai ?_
    refine ac ?_
    refine ⟨by kernel_rfl,[.int .u8 0,.int .u16 0,.bool false,.int .u8 0,.int .u8 0,.int .u32 0,.int .u32 0,.slice none 0 0],by kernel_rfl,?_⟩
    refine hL.aj (b:=b_4) fun w_75 hL=>?_
    refine ah ?_
    refine ⟨_,hL.af (b:=b_4) rfl,?_⟩
    exact k false 0 0 false 0 0 0 0 [] none 0 _ (fun h=>Bool.noConfusion h) ⟨by decide,by decide,by decide,by decide,by decide,by decide⟩ (Nat.zero_le _) (shut (SH.ae (SH.cH hL)))
   ·refine ai ?_
    refine ak ?_
    exact ⟨⟨sd,xv,fb⟩,rfl,⟨rfl,Classical.not_not.1 h_21⟩,hL.ae⟩
 rintro g ⟨sd,xv,fb⟩ w6 ⟨⟨rfl,hsd⟩,hL⟩
 simp only at hsd
 obtain ⟨ad,rfl⟩:=hL.dW pa (Nat.zero_lt_one)
 have hfl:=hf ⟨sd,xv,fb⟩ (.head _)
 simp only at hfl
 have hL:=hL.vh (v:=xv) (bs:=fb) (.head _)
 obtain ⟨ax,cx,rfl,_,_,_⟩:=hL.enter (v:=xv)
 refine ac ?_
 refine ⟨_,hL.ld (b:=b_2) rfl,?_⟩
 refine ⟨⟨by decide,Int.zero_lt_one⟩,_,rfl,?_⟩
 refine ⟨_,SH.wg (size:=2) (j:=0) (o:=1) hL rfl,?_⟩
 refine c22g (v:=sl ax cx fb) hL (fun t0 t1 t2 t3 t4 t5 f0 f1 f2 f3 f4 f5 kd body a1 c1 er w_14 hm hk hbl hL=>?_)
 refine hL.an fun b_6 w_6 hL=>?_
 refine hL.aj (b:=b_6) fun w_45 hL=>?_
 refine ac ?_
 refine ⟨_,hL.ld (b:=b_6) rfl,?_⟩
 refine c23h (v:=sl a1 c1 body) hL (by omega) (fun tos id keep ttl proto fr to qs a2 c2 er2 w_27 hB hq hql hL=>?_)
 refine hL.an fun b_8 w_8 hL=>?_
 refine hL.aj (b:=b_8) fun w_68 hL=>?_
 refine aJ ?_
 have hL:=hL.drew
 refine ⟨_,hL.af (b:=b_8) rfl,?_⟩
 cases er with
 | some eb=>
  refine ⟨_,bH (neg:=false) rfl,?_⟩
  refine hL.aj (b:=b_4) fun w_152 hL=>?_
  refine ⟨⟨bH (neg:=false) rfl,⟨⟨_,hL.af (b:=b_8) rfl,rfl⟩,trivial⟩⟩,?_⟩
  refine ah ?_
  refine ⟨_,hL.af (b:=b_4) rfl,?_⟩
  exact k false _ _ _ _ _ _ _ _ _ _ _ (fun h=>Bool.noConfusion h) hB (by omega) (shut hL.ae)
 | none=>
  obtain ⟨rfl,rfl⟩:=hk rfl
  refine ⟨_,bg (neg:=false) rfl,?_⟩
  refine ⟨_,hL.ld (b:=b_6) rfl,?_⟩
  refine ap (fun h_45=>?_) (fun h_45=>?_)
  ·cases er2 with
   | some eb=>
    refine ⟨_,bH (neg:=false) rfl,?_⟩
    refine hL.aj (b:=b_4) fun w_164 hL=>?_
    refine ⟨⟨bH (neg:=false) rfl,⟨hL.ld (b:=b_6) rfl,⟨bg (neg:=false) rfl,⟨⟨_,hL.af (b:=b_8) rfl,rfl⟩,trivial⟩⟩⟩⟩,?_⟩
    refine ah ?_
    refine ⟨_,hL.af (b:=b_4) rfl,?_⟩
    exact k false _ _ _ _ _ _ _ _ _ _ _ (fun h=>Bool.noConfusion h) hB (by omega) (shut hL.ae)
   | none=>
    have hq:=hq rfl
    have hP:kQ fb proto fr to qs:=⟨by omega,hq.1,hq.2⟩
    refine ⟨_,bg (neg:=false) rfl,?_⟩
    refine hL.aj (b:=b_4) fun w_165 hL=>?_
    refine ⟨⟨bg (neg:=false) rfl,⟨hL.ld (b:=b_6) rfl,⟨bg (neg:=false) rfl,⟨⟨_,hL.af (b:=b_8) rfl,rfl⟩,trivial⟩⟩⟩⟩,?_⟩
    refine ah ?_
    refine ⟨_,hL.af (b:=b_4) rfl,?_⟩
    exact k true _ _ _ _ _ _ _ _ _ _ _ (fun _=>⟨_,.head _,hsd,hP⟩) hB (by omega) (shut hL.ae)
  ·refine hL.aj (b:=b_4) fun w_161 hL=>?_
   refine ⟨⟨hL.ld (b:=b_6) rfl,⟨bg (neg:=false) rfl,⟨⟨_,hL.af (b:=b_8) rfl,rfl⟩,trivial⟩⟩⟩,?_⟩
   refine ah ?_
   refine ⟨_,hL.af (b:=b_4) rfl,?_⟩
   exact k false _ _ _ _ _ _ _ _ _ _ _ (fun h=>Bool.noConfusion h) hB (by omega) (shut hL.ae)
end
end
section
theorem BL (x:Nat):nb x 2=[x / 256 % 256,x % 256]:=by simp [nb,List.range_succ]
theorem BM (x:Nat):nb x 4=[x / 16777216 % 256,x / 65536 % 256,x / 256 % 256,x % 256]:=by simp [nb,List.range_succ]
theorem wh (a b c d:Nat):be [a,b,c,d]=((a*256+b)*256+c)*256+d:=by simp [be]
theorem BN {tos id ttl proto fr to:Nat} {keep:Bool} {qs:List Nat} (q:bI tos id ttl proto fr to) (hq:qs.length≤60000):
  (bW tos id keep ttl proto fr to qs.length++qs).getD 9 0=proto∧num (bW tos id keep ttl proto fr to qs.length++qs) 12 4=fr∧num (bW tos id keep ttl proto fr to qs.length++qs) 16 4=to∧cJ (bW tos id keep ttl proto fr to qs.length++qs) (num (bW tos id keep ttl proto fr to qs.length++qs) 2 2)=qs:=by
 obtain ⟨h1,h2,h3,h4,h5,h6⟩:=q
 obtain ⟨c,y⟩: ∃ c,c=65535 - aV (aK (jI tos id keep ttl proto fr to qs.length)):=⟨_,rfl⟩
 have e:over (jI tos id keep ttl proto fr to qs.length) 10 (nb c 2)++qs=69::tos::(20+qs.length) / 256 % 256::(20+qs.length) % 256::id / 256 % 256::id % 256::fw keep / 256 % 256::fw keep % 256::ttl::proto::c / 256 % 256::c % 256::fr / 16777216 % 256::fr / 65536 % 256::fr / 256 % 256::fr % 256::to / 16777216 % 256::to / 65536 % 256::to / 256 % 256::to % 256::qs:=by
  simp only [jI,rowOf,List.flatMap_cons,List.flatMap_nil,BL,BM,over]
  rfl
 have e1:bW tos id keep ttl proto fr to qs.length++qs=over (jI tos id keep ttl proto fr to qs.length) 10 (nb c 2)++qs:=by rw [y]
 rw [e1,e]
 refine ⟨rfl,?_,?_,?_⟩
 ·show be [fr / 16777216 % 256,fr / 65536 % 256,fr / 256 % 256,fr % 256]=fr
  rw [wh];omega
 ·show be [to / 16777216 % 256,to / 65536 % 256,to / 256 % 256,to % 256]=to
  rw [wh];omega
 ·have e2: ∀ l,num (69::tos::(20+qs.length) / 256 % 256::(20+qs.length) % 256::l) 2 2=20+qs.length:=fun l=>by
   show be [(20+qs.length) / 256 % 256,(20+qs.length) % 256]=_
   rw [vH];omega
  rw [e2]
  show (qs.take (min (20+qs.length) _ - 20))=qs
  refine List.take_of_length_le ?_
  simp only [List.length_cons]
  omega
end
section
def rC (es:Int) (body:List Nat) (sd:Int) (f:List Nat):Prop:=
 sd=es∨(∃ pk,eE 2054 pk f)∨ ∃ (tos id:Nat) (keep:Bool) (ttl fr to:Nat) (qs:List Nat),bI tos id ttl 17 fr to∧qs.length≤2000∧fC body qs fr to∧eE 2048 (bW tos id keep ttl 17 fr to qs.length++qs) f
theorem BO {es sd:Int} {body f qs:List Nat} {proto fr to:Nat} (h:rC es body sd f) (H:sd≠es) (y:kQ f proto fr to qs):proto=17∧fC body qs fr to:=by
 rcases h with h | ⟨pk,h⟩ | ⟨tos,id,keep,ttl,fr',to',qs',J,hq,Y,hf⟩
 ·exact absurd h H
 ·exact absurd (h.1.symm.trans y.eth) (by decide)
 ·obtain ⟨e1,e2,e3,e4⟩:=y.pkt
  have q:=BN (keep:=keep) J (show qs'.length≤60000 by omega)
  rw [hf.2.1] at e1 e2 e3 e4
  rw [q.1] at e1
  rw [q.2.1] at e2
  rw [q.2.2.1] at e3
  rw [q.2.2.2] at e4
  rw [e1,e2,e3,e4]
  exact ⟨rfl,Y⟩
theorem BP {es:Int} {proto:Nat} {body:List Nat} (P:Int→List Nat→Prop) (y: ∀ sd f,(proto=17→rC es body sd f)→P sd f):jW P proto body:=by
 intro sd f tos id keep ttl fr to qs H hq hl J q
 refine y sd f fun e=>?_
 subst e
 have h1:=q.2.2
 rw [List.length_append,lk] at h1
 exact .inr (.inr ⟨tos,id,keep,ttl,fr,to,qs,H,by omega,J rfl,q⟩)
structure rD where
 b:Bool
 tos:Nat
 id:Nat
 keep:Bool
 ttl:Nat
 proto:Nat
 fr:Nat
 to:Nat
 qs:List Nat
 a:Option Addr
 c:Nat
 bk:Nat
abbrev wi (x:rD):List Value:=[C1 x.tos,C2 x.id,.bool x.keep,C1 x.ttl,C1 x.proto,C3 x.fr,C3 x.to,sl x.a x.c x.qs]
abbrev wj:Prop:= ∀ {w0 w:World} {L:List ao} {K:Value→World→Prop},SH w0 w L→di L→cL L→(∀ q,SH w0 q L→K (.bool true) q)→D 4 [] w K
section
variable {w0 w:World} {L R R2 R3:List ao} {K:Value→World→Prop} {v u:Value} {bs:List Nat} {l:List dO} {c:fB}
attribute [local irreducible] ay aQ aH aY a6 aW aK aV num be over nb rowOf bD ct jV
theorem c11g {fr to:Nat} (H:SH w0 w L) [hb:aD L v bs] (h:fr<4294967296∧to<4294967296) (hlen:bs.length≤100000)
  (k: ∀ (x y:Nat) (bare:Bool) (ps:List Nat) a c (er:Option Nat) q,(er=none→da bs fr to∧(bare=true↔num (bs.take (num bs 4 2)) 6 2=0)∧ps=(bs.take (num bs 4 2)).drop 8)→(da bs fr to→er=none)→ps.length≤bs.length→SH w0 q (By (sl a c ps) ps::L)→
   K (.tuple #[oq x y bare (sl a c ps),dN er]) q):D 11 [v,C3 fr,C3 to] w K:=
 c11 H h hlen (fun h1 bare J _ _ a c q H=>k _ _ bare _ a c none q (fun _=>⟨h1,J,rfl⟩) (fun _=>rfl) (by rw [List.length_drop,List.length_take];omega) H.ae)
  (fun h1 b q H=>k 0 0 false [] none 0 (some b) q (fun h=>by cases h) (fun h=>absurd h h1) (Nat.zero_le _) (SH.cH H).ae)
theorem c6 (hc:iI c) (q:SH w0 w L) (k1:jV c→ ∀ p s y,rA c s→SH w0 y (Ga p s::L)→K (pt p) y) (k2: ¬jV c→ ∀ y,SH w0 y L→K (.pointer none) y):D 6 [iJ c] w K:=by
 refine s6 rfl<|ac<|q.az (jm c) fun H _ q=>ac<|q.Da (b:=H) rfl<|c16 ‹_› q (fun J Y _ w_7 _ q=>?_) (fun J w_7 q=>?_)
 ·refine aq<|Dt [2,3,4] [.pointer none,pt Y,C5 0] fun g=>Dh<|ak<|ac<|ah<|k1 ‹_› _ _ _ ‹_› q.ae
 ·refine aq<|Dt [2,3,4] [.pointer none,.pointer none,C5 11] fun g=>Di<|ac<|ah<|k2 ‹_› _ q.ae
theorem c3 (hc:iI c) (hal:wj) (q:SH w0 w L) [h:lK L v l] [hE:di L] [hz:cL L] (hlen:l.length≤140737488355328) (k: ∀ w',SH w0 w' L→K (.bool true) w'):D 3 [iJ c,v] w K:=by
 obtain ⟨a,ce,rfl,hrw,hby⟩:=SH.v8 q (v:=v)
 refine s3 rfl<|ac<|q.az (jm c) fun J _ q=>aq<|hal q inferInstance inferInstance (fun _ q=>Dj (ak (aq (c5 (v:= .slice a l.length ce) q (by assumption) (fun w_20 q=>?_) (fun _ hG2 w_20 q=>?_)))))
 ·refine ac<|ah<|k _ q.ae
 ·refine ak<|ac<|q.Da (b:=J) rfl<|c6 hc q (fun h_22 H s_22 w_22 hN q=>?_) (fun h_22 w_22 q=>?_)
  ·refine aq<|Dt [1,2,4,5] [.slice a l.length ce,pt J,.bool false,pt H] fun g=>cG (fun h_24=>?_) (fun h_24=>?_)
   ·exact absurd h_24 (by simp)
   ·refine ak<|av<|ac<|aM ?_
    have hc0:=hN.cc
    refine bU ([4]++List.range' 6 118) rfl [1,2,5,6] (fun (x:Nat × bA)=>[.slice a l.length ce,pt J,pt H,.int .i64 x.1]) (fun x w'=>(x.1≤l.length∧x.2.c=c∧x.2.now≤x.1*1099511627776∧x.2.na.t.count≤(x.1*100:Nat))∧SH w0 w' (Ga H x.2::Cl J 37 (jm c)::L)) (fun x=>l.length - x.1) (0,s_22) rfl ⟨⟨Nat.zero_le _,hN.cc,by show s_22.now≤_;rw [hN.now];exact Nat.zero_le _,by show s_22.na.t.count≤_;rw [hN.cnt];exact Int.natCast_nonneg _⟩,q⟩ ?_
    rintro g ⟨i,s⟩ w6 ⟨⟨hi,hsc,hnow,hcnt⟩,q⟩
    simp only at hi hsc hnow hcnt q
    refine Dv [1,2,5,6] [.slice a l.length ce,pt J,pt H,.int .i64 i] fun g=>aq<|ap (fun h_31=>?_) (fun h_31=>?_)
    rotate_left
    ·refine aS<|ac<|ah<|k _ q.ae
    ·refine ak<|aG ?_
     have hil:i<l.length:=by omega
     have hB:l[i]?=some l[i]:=List.getElem?_eq_getElem hil
     generalize l[i]=B at hB
     have hby1:=hby B (List.mem_of_getElem? hB)
     have hle:=hG2 B (List.mem_of_getElem? hB)
     obtain ⟨kk,ss,vv,bb,nn⟩:=B
     simp only at hby1 hle
     obtain ⟨ab,cb,rfl,_,hBb,_⟩:=q.enter (v:=vv)
     obtain ⟨ad,rfl⟩:=q.dW a
     refine bt ([7,8]++List.range' 34 9) rfl [1,2,5,6,7,8] (fun (x:rD)=>[.slice (some ad) l.length ce,pt J,pt H,.int .i64 i,pt x.bk,.bool x.b]) (fun x w'=>((x.b=true→kk=0∧cY kk ss bb.length nn∧kQ bb x.proto x.fr x.to x.qs)∧bI x.tos x.id x.ttl x.proto x.fr x.to∧x.qs.length≤2000)∧SH w0 w' (Cl x.bk 46 (wi x)::By (sl x.a x.c x.qs) x.qs::Ga H s::Cl J 37 (jm c)::L)) ?_ ?_
     ·refine jS<|have q:=q.drew;q.Da (b:=J) rfl ⟨by omega,_,rfl,⟨_,SH.jX q hB,⟨?_,?_⟩⟩⟩
      ·exact c8 hc (v:=sl ab cb bb) q hle (fun b tos id keep ttl proto fr to qs a2 c2 w8 h81 h82 h83 q=>⟨⟨⟨_,SH.jX q hB,rfl⟩,⟨⟨_,q.af (b:=J) rfl,rfl⟩,trivial⟩⟩,q.an fun b_7 w_7 q=>⟨⟨⟨_,SH.jX q hB,rfl⟩,⟨⟨_,q.af (b:=J) rfl,rfl⟩,trivial⟩⟩,q.aj (b:=b_7) fun w_9 q=>⟨⟨⟨_,SH.jX q hB,rfl⟩,⟨⟨_,q.af (b:=J) rfl,rfl⟩,trivial⟩⟩,⟨⟨b,tos,id,keep,ttl,proto,fr,to,qs,a2,c2,b_7⟩,rfl,⟨h81,h82,h83⟩,q.ae⟩⟩⟩⟩)
      ·exact q.an fun b_7 w_7 q=>⟨⟨⟨_,SH.jX q hB,rfl⟩,⟨⟨_,q.af (b:=J) rfl,rfl⟩,trivial⟩⟩,c8 hc (v:=sl ab cb bb) q hle (fun b tos id keep ttl proto fr to qs a2 c2 w8 h81 h82 h83 q=>⟨⟨⟨_,SH.jX q hB,rfl⟩,⟨⟨_,q.af (b:=J) rfl,rfl⟩,trivial⟩⟩,q.aj (b:=b_7) fun w_9 q=>⟨⟨⟨_,SH.jX q hB,rfl⟩,⟨⟨_,q.af (b:=J) rfl,rfl⟩,trivial⟩⟩,⟨⟨b,tos,id,keep,ttl,proto,fr,to,qs,a2,c2,b_7⟩,rfl,⟨h81,h82,h83⟩,q.ae⟩⟩⟩)⟩
     rintro g ⟨b,tos,id,keep,ttl,proto,fr,to,qs,a2,c2,b_7⟩ w7 ⟨⟨h81,h82,h83⟩,q⟩
     simp only at h81 h82 h83 q
     refine Dv [1,2,5,6,7,8] [.slice (some ad) l.length ce,pt J,pt H,.int .i64 i,pt b_7,.bool b] fun g=>ac ⟨by omega,_,rfl,⟨_,SH.jX q hB,c10 q (by omega) (fun a_49 c_49 _ q=>c9 (P:=fun sd f=>b=true∧proto=17→rC ss qs sd f) (kind:=kk) (side:=ss) (n:=nn) (v:=sl a_49 c_49 bb) (bs:=bb) (by omega) (by omega) (fun _ f _=> .inl rfl) (fun sd f h _=> .inr (.inl h)) (fun _ _ _=>BP _ (fun sd f h hbp=>by have hp:=(h81 hbp.1).2.2.pkt;rw [hp.2.2.2];exact h (hp.1▸hbp.2))) q hle (fun hev s2 tv w9 ht hF _ q=>?_) (fun hev w9 q=>?_))⟩⟩
     ·have hF1:=hF.c.trans hsc
      have hF2:s2.now≤(i+1)*1099511627776:=by have:=hF.now;omega
      have hF3:s2.na.t.count≤((i+1)*100:Nat):=by have:=hF.cnt;omega
      refine q.an fun Y _ q=>q.aj (b:=Y) (h1:=by show (true&&(dZ tv&&true))=true;rw [ht];rfl) fun _ q=>?_
      cases b
      ·exact Dt [1,2,5,6,7,8,9,52] [.slice (some ad) l.length ce,pt J,pt H,.int .i64 i,pt b_7,.bool false,pt Y,.int .i64 0] fun g=>aq<|Dj<|pa 10 rfl<|Dt [1,2,5,6,7,9,64] [.slice (some ad) l.length ce,pt J,pt H,.int .i64 i,pt b_7,pt Y,.bool true] fun g=>aS<|au<|Db ⟨(i+1,s2),rfl,⟨⟨by show i+1≤l.length;omega,hF1,hF2,hF3⟩,q.ae⟩,by show l.length - (i+1)<l.length - i;omega⟩
      ·obtain ⟨hk0,hev1,hpk⟩:=h81 rfl
       refine Dt [1,2,5,6,7,8,9,52] [.slice (some ad) l.length ce,pt J,pt H,.int .i64 i,pt b_7,.bool true,pt Y,.int .i64 0] fun g=>aq<|Dj<|q.C9 (b:=b_7) rfl<|ap (fun h_58=>?_) (fun h_58=>?_)
       ·exact pa 6 rfl<|Dt [1,2,5,6,7,9,64] [.slice (some ad) l.length ce,pt J,pt H,.int .i64 i,pt b_7,pt Y,.bool true] fun g=>aS<|au<|Db ⟨(i+1,s2),rfl,⟨⟨by show i+1≤l.length;omega,hF1,hF2,hF3⟩,q.ae⟩,by show l.length - (i+1)<l.length - i;omega⟩
       ·refine pa 2 rfl<|Dt [1,2,5,6,7,9,60] [.slice (some ad) l.length ce,pt J,pt H,.int .i64 i,pt b_7,pt Y,.bool false] fun g=>q.C9 (b:=b_7) rfl<|ap (fun h_63=>?_) (fun h_63=>?_)
        ·exact aS<|au<|Db ⟨(i+1,s2),rfl,⟨⟨by show i+1≤l.length;omega,hF1,hF2,hF3⟩,q.ae⟩,by show l.length - (i+1)<l.length - i;omega⟩
        ·refine ak<|ac<|q.C9 (b:=b_7) rfl<|q.C9 (b:=b_7) rfl<|q.C9 (b:=b_7) rfl ?_
         have hss:ss=0∨ss=1:=by rcases hev with h | h | h<;>omega
         refine c11g (v:=sl a2 c2 qs) q ⟨h82.2.2.2.2.1,h82.2.2.2.2.2⟩ (by omega) (fun x1 y1 bare1 ps1 a3 c3 er1 _ hu1 _ _ q=>q.an fun b_11 _ q=>q.aj (b:=b_11) fun w_14 q=>Dv [1,2,5,6,9,11,12] [.slice (some ad) l.length ce,pt J,pt H,.int .i64 i,pt Y,pt b_11,dN er1] fun g=>?_)
         refine bt ([13,14]++List.range' 75 11) rfl [1,2,5,6,9,11,12,13,14] (fun (x:rD)=>[.slice (some ad) l.length ce,pt J,pt H,.int .i64 i,pt Y,pt b_11,dN er1,pt x.bk,.bool x.b]) (fun x w'=>((x.b=true→ ∃ y∈s2.pl,y.side=1 - ss∧kQ y.bs x.proto x.fr x.to x.qs)∧bI x.tos x.id x.ttl x.proto x.fr x.to∧x.qs.length≤100000)∧SH w0 w' (Cl x.bk 46 (wi x)::By (sl x.a x.c x.qs) x.qs::Cl b_11 60 [.int .u16 x1,.int .u16 y1,.bool bare1,sl a3 c3 ps1]::By (sl a3 c3 ps1) ps1::Ga H s2::Cl J 37 (jm c)::L)) ?_ ?_
         ·refine jS<|have q:=q.drew;q.Da (b:=Y) rfl ⟨by omega,_,rfl,⟨_,SH.jY (j:=1) (u:= .int .i64 ss) q hB rfl,Db (⟨?_,?_⟩)⟩⟩
          ·exact c12 (p:=H) (s:=s2) (side:=1 - ss) ht (fun x hx=>(hF.pl x hx).2) (by have:=hF.len;omega) q (fun b2 tos2 id2 keep2 ttl2 proto2 fr2 to2 qs2 a4 c4 w13 h91 h92 h93 q=>⟨⟨SH.jY (j:=1) (u:= .int .i64 ss) q hB rfl,⟨⟨_,q.af (b:=Y) rfl,rfl⟩,trivial⟩⟩,q.an fun b_13 w_14 q=>⟨⟨SH.jY (j:=1) (u:= .int .i64 ss) q hB rfl,⟨⟨_,q.af (b:=Y) rfl,rfl⟩,trivial⟩⟩,q.aj (b:=b_13) fun w_15 q=>⟨⟨SH.jY (j:=1) (u:= .int .i64 ss) q hB rfl,⟨⟨_,q.af (b:=Y) rfl,rfl⟩,trivial⟩⟩,⟨⟨b2,tos2,id2,keep2,ttl2,proto2,fr2,to2,qs2,a4,c4,b_13⟩,rfl,⟨h91,h92,h93⟩,q.ae⟩⟩⟩⟩)
          ·exact q.an fun b_13 w_14 q=>⟨⟨SH.jY (j:=1) (u:= .int .i64 ss) q hB rfl,⟨⟨_,q.af (b:=Y) rfl,rfl⟩,trivial⟩⟩,c12 (p:=H) (s:=s2) (side:=1 - ss) ht (fun x hx=>(hF.pl x hx).2) (by have:=hF.len;omega) q (fun b2 tos2 id2 keep2 ttl2 proto2 fr2 to2 qs2 a4 c4 w13 h91 h92 h93 q=>⟨⟨SH.jY (j:=1) (u:= .int .i64 ss) q hB rfl,⟨⟨_,q.af (b:=Y) rfl,rfl⟩,trivial⟩⟩,q.aj (b:=b_13) fun w_15 q=>⟨⟨SH.jY (j:=1) (u:= .int .i64 ss) q hB rfl,⟨⟨_,q.af (b:=Y) rfl,rfl⟩,trivial⟩⟩,⟨⟨b2,tos2,id2,keep2,ttl2,proto2,fr2,to2,qs2,a4,c4,b_13⟩,rfl,⟨h91,h92,h93⟩,q.ae⟩⟩⟩)⟩
         rintro g ⟨b2,tos2,id2,keep2,ttl2,proto2,fr2,to2,qs2,a4,c4,b_13⟩ w15 ⟨⟨h91,h92,h93⟩,q⟩
         simp only at h91 h92 h93 q
         refine Dv [1,2,5,6,9,11,12,13,14] [.slice (some ad) l.length ce,pt J,pt H,.int .i64 i,pt Y,pt b_11,dN er1,pt b_13,.bool b2] fun g=>aq ?_
         cases er1 with
         | some eb=>
          exact ⟨_,bH (neg:=true) rfl,pa 4 rfl (aS (au (Db (⟨(i+1,s2),rfl,⟨⟨by show i+1≤l.length;omega,hF1,hF2,hF3⟩,q.ae⟩,by show l.length - (i+1)<l.length - i;omega⟩))))⟩
         | none=>
          obtain ⟨hu1,hb1,rfl⟩:=hu1 rfl
          refine ⟨_,bg (neg:=true) rfl,?_⟩
          cases b2
          ·exact Dj<|aS<|au<|Db ⟨(i+1,s2),rfl,⟨⟨by show i+1≤l.length;omega,hF1,hF2,hF3⟩,q.ae⟩,by show l.length - (i+1)<l.length - i;omega⟩
          ·obtain ⟨y,hy,hys,hyp⟩:=h91 rfl
           obtain ⟨rfl,hu2⟩:=BO ((hF.pl y hy).1 ⟨rfl,by have h:((proto:Nat):Int)=17:=Classical.not_not.1 h_58;omega⟩) (by omega) hyp
           refine Dj<|ak<|ac<|q.C9 (b:=b_13) rfl<|q.C9 (b:=b_13) rfl<|q.C9 (b:=b_13) rfl<|c11g (v:=sl a4 c4 qs2) q ⟨h92.2.2.2.2.1,h92.2.2.2.2.2⟩ (by omega) (fun _ _ bare2 _ a5 c5 _ _ hv2 hok2 _ q=>?_)
           obtain rfl:=hok2 hu2.1
           obtain ⟨_,hb2,rfl⟩:=hv2 rfl
           have hbe:bare1=bare2:=Bool.eq_iff_iff.2 (hb1.trans (hu2.2.1.symm.trans hb2.symm))
           subst hbe
           refine q.an fun b_15 _ q=>q.aj (b:=b_15) fun _ q=>Dt [1,2,5,6,11,13,15,101] [.slice (some ad) l.length ce,pt J,pt H,.int .i64 i,pt b_11,pt b_13,pt b_15,.nilIface] fun g=>ac<|q.C9 (b:=b_13) rfl<|ap (fun h_104=>?_) (fun h_104=>?_)
           ·exact pa 19 rfl<|Dt [1,2,5,6,123] [.slice (some ad) l.length ce,pt J,pt H,.int .i64 i,.bool true] fun g=>ai<|ac<|ah<|absurd rfl h_104
           ·refine ⟨_,bg (neg:=true) rfl,pa 2 rfl (Dt [1,2,5,6,11,15,109] [.slice (some ad) l.length ce,pt J,pt H,.int .i64 i,pt b_11,pt b_15,.bool !true] fun g=>q.C9 (b:=b_11) rfl (q.C9 (b:=b_15) rfl (cG (fun h_114=>?_) (fun h_114=>?_))))⟩
            ·exact pa 9 rfl<|Dt [1,2,5,6,123] [.slice (some ad) l.length ce,pt J,pt H,.int .i64 i,.bool true] fun g=>ai<|ac<|ah<|absurd h_114 (by cases bare1<;>simp)
            ·exact pa 2 rfl<|q.C9 (b:=b_11) rfl<|Dt [1,2,5,6,15,116,118] [.slice (some ad) l.length ce,pt J,pt H,.int .i64 i,pt b_15,.bool false,sl a3 c3 (List.drop 8 (List.take (num qs 4 2) qs))] fun g=>q.C9 (b:=b_15) rfl<|c13 (v:=sl a3 c3 ((qs.take (num qs 4 2)).drop 8)) (u:=sl a5 c5 ((qs2.take (num qs2 4 2)).drop 8)) q ⟨by omega,by omega⟩ hu2.2.2.symm (fun _ q=>Dj (ai (ak (au (Db (⟨(i+1,s2),rfl,⟨⟨by show i+1≤l.length;omega,hF1,hF2,hF3⟩,q.ae⟩,by show l.length - (i+1)<l.length - i;omega⟩))))))
     ·cases b
      ·exact q.an fun Y w_9 q=>Dt [1,2,5,6,7,8,9,51,52] [.slice (some ad) l.length ce,pt J,pt H,.int .i64 i,pt b_7,.bool false,pt Y,.agg #[.slice none 0 0,.slice none 0 0],.int .i64 10] fun g=>q.aj (b:=Y) fun _ q=>aq<|Dj<|pa 10 rfl<|Dt [1,2,5,6,7,9,64] [.slice (some ad) l.length ce,pt J,pt H,.int .i64 i,pt b_7,pt Y,.bool true] fun g=>aS<|au<|Db ⟨(i+1,s),rfl,⟨⟨by show i+1≤l.length;omega,hsc,Nat.le_trans hnow (Nat.mul_le_mul_right _ (Nat.le_succ i)),by show s.na.t.count≤((i+1)*100:Nat);omega⟩,q.ae⟩,by show l.length - (i+1)<l.length - i;omega⟩
      ·exact absurd (h81 rfl).2.1 hev
  ·refine aq<|Dt [1,2,4,5] [.slice a l.length ce,pt J,.bool false,.pointer none] fun g=>cG (fun h_24=>?_) (fun h_24=>?_)
   ·refine ac<|q.Da (b:=J) rfl<|c7 (by assumption) q (fun h_26 w_26 q=>absurd h_26 h_22) (fun h_26 w_26 q=>Dj (ah (k _ q.ae)))
   ·exact absurd h_24 (by decide)
end
end
end Go.Proofs.YtlhpilgmeededaaGreatDoor
namespace Go.Proofs.YtlhpilgmeededaaGreatDoor
open Go Go.Den Go.RowKit
set_option maxHeartbeats 4000000
set_option maxRecDepth 8000
def ts (s:ByteArray):List Nat:=s.data.toList.map UInt8.toNat
theorem nr (s:ByteArray):(ts s).length=s.size:=by rw [ts,List.length_map,Array.length_toList];rfl
theorem wk (s:ByteArray):Lib.strCells s=aT (ts s):=by
 unfold Lib.strCells ts aT
 rw [List.map_map]
 rfl
theorem wl {s:ByteArray} (h:s.size≤1000000):bK (ts s):=⟨fun _ q=>by
 obtain ⟨x,_,rfl⟩:=List.mem_map.1 q
 exact x.toNat_lt,by rw [nr];omega⟩
section
variable {P:Program} {Q:dm} {b:bS} {f:Fr} {w:World}
theorem fE (n:Nat) (h:iP (fun next f w=>ay P b (ef next Q) f w) n f w):ay P (.loop b) Q f w:=⟨n,h⟩
theorem fh {n:Nat} (h:ay P b (ef (iP (fun next f w=>ay P b (ef next Q) f w) n) Q) f w):iP (fun next f w=>ay P b (ef next Q) f w) (n+1) f w:=h
end
section
variable {w0 w:World} {L R R2:List ao} {K:Value→World→Prop} {o:Oper} {f:Fr} {C:Value→World→Prop}
theorem hZ {x:Operand} {lo hi:Option Operand} {s r:ByteArray} {l h m:Nat} (q:o.op= .slice 9 x lo hi none) (y:ev f x= .string s) (H:(Instr.sliceBounds false s.size s.size (lo.map (ev f)) (hi.map (ev f)) none).run Tryz.prog w= .ok (l,h,m) w)
  (J:s.extract l h=r):(execOp (ev f) o).run Tryz.prog w= .ok (.value (.string r)) w:=by
 subst J
 unfold execOp
 simp [q,y,Instr.sliceAt,Instr.slice,run_underlying Tryz.underlying9,H]
theorem jZ {x y:Operand} {neg:Bool} {a b:ByteArray} (q:o.op= .binOp (if neg then .neq else .eql) 9 x y 9) (H:ev f x= .string a) (J:ev f y= .string b) (h:a=b):(execOp (ev f) o).run Tryz.prog w= .ok (.value (.bool (!neg))) w:=
 nU (neg:=neg) q H J (by subst h;cases neg<;>simp)
theorem gE {x y:Operand} {neg:Bool} {a b:ByteArray} (q:o.op= .binOp (if neg then .neq else .eql) 9 x y 9) (H:ev f x= .string a) (J:ev f y= .string b) (h:a≠b):(execOp (ev f) o).run Tryz.prog w= .ok (.value (.bool neg)) w:=by
 refine nU (neg:=neg) q H J ?_
 have e:(a.toList==b.toList)=false:=by
  rw [beq_eq_false_iff_ne]
  intro Y
  exact h (by
   apply ByteArray.ext
   apply Array.toList_inj.1
   simpa [ByteArray.toList_eq] using Y)
 rw [e]
 cases neg<;>rfl
theorem wm (n:Nat) {fn:Func} {e:Array Value→Sem Value} {x:Operand} {args:Array Operand} {ts:Array TypeId} {v:Value} (y:o.op= .call { callee:= .value x,args:=args,argTypes:=ts }) (H:ev f x= .func (.func n) #[] #[]) (J:Tryz.prog.funcs[n]?=some fn) (hname:(fn.name== "runtime.NumGoroutine")=false)
  (Y:fn.body.isNone=true) (hn:Extern.findNext fn=none) (he:Extern.find fn=some e) {q:World} (hv:(e (args.map (ev f))).run Tryz.prog w= .ok v q) (k:C v q):aL Tryz.prog o f w C:=by
 have h:=run_callFunc_extern J hname Y hn he (args.map (ev f)) w
 rw [hv] at h
 unfold aL execOp
 simp only [y,resolve,invoke,H,Deferred.ofValue,Sem.run_bind,Sem.run_pure,Result.andThen_ok]
 have e2:#[]++Array.map (ev f) args++#[]=Array.map (ev f) args:=by simp
 rw [e2,h]
 exact k
theorem wo (n:Nat) {fn:Func} {e:Array Value→Sem Value} {x x1:Operand} {ts:Array TypeId} {v v1:Value} (y:o.op= .call { callee:= .value x,args:=#[x1],argTypes:=ts }) (H:ev f x= .func (.func n) #[] #[]) (h1:ev f x1=v1) (J:Tryz.prog.funcs[n]?=some fn) (hname:(fn.name== "runtime.NumGoroutine")=false)
  (Y:fn.body.isNone=true) (hn:Extern.findNext fn=none) (he:Extern.find fn=some e) {q:World} (hv:(e #[v1]).run Tryz.prog w= .ok v q) (k:C v q):aL Tryz.prog o f w C:=
 wm n y H J hname Y hn he (by simpa [h1] using hv) k
theorem wq (n:Nat) {fn:Func} {e:Array Value→Sem Value} {x x1 x2:Operand} {ts:Array TypeId} {v v1 v2:Value} (y:o.op= .call { callee:= .value x,args:=#[x1,x2],argTypes:=ts }) (H:ev f x= .func (.func n) #[] #[]) (h1:ev f x1=v1) (J:ev f x2=v2) (Y:Tryz.prog.funcs[n]?=some fn) (hname:(fn.name== "runtime.NumGoroutine")=false)
  (hb:fn.body.isNone=true) (hn:Extern.findNext fn=none) (he:Extern.find fn=some e) {q:World} (hv:(e #[v1,v2]).run Tryz.prog w= .ok v q) (k:C v q):aL Tryz.prog o f w C:=
 wm n y H Y hname hb hn he (by simpa [h1,J] using hv) k
theorem BQ {s x:Operand} {a:Option Addr} {c:Nat} {bs:List Nat} {t:ByteArray} (hL:SH w0 w L) [p:kj L (sl a c bs) 5 bs R] (ha:a=none∨0<c) (h0:0<t.size) (hlen:bs.length+t.size≤1000000)
  (k: ∀ q y J,(q=none∨0<y)→SH w0 J (Nb 5 (sl q y (bs++ts t)) (bs++ts t)::R)→C (sl q y (bs++ts t)) J)
  (ho:o.op= .call { callee:= .builtin .append,args:=#[s,x],argTypes:=#[44,9] }) (hv:ev f s=sl a c bs) (Y:ev f x= .string t):aL Tryz.prog o f w C:=by
 obtain ⟨hbo,hL1⟩:=(hL.perm p.perm).jC
 obtain ⟨A,hown,hL2⟩:=hL1.iS
 have hbl:(aT bs).length=bs.length:=fW bs
 have hR:SH w0 w R:=(hL.perm p.perm).tail
 cases hi:Tryz.prog.info? 5 with
 | none=>have:=gq.info;rw [hi] at this;cases this
 | some i=>
 have hif:=gq.info
 rw [hi] at hif
 simp only [Option.map_some,Option.some.injEq,Prod.mk.injEq] at hif
 obtain ⟨h1z,h2z,h3z⟩:=hif
 have hN:bs.length+t.size=(bs++ts t).length:=by rw [List.length_append,nr]
 have hV:aT bs++Lib.strCells t=aT (bs++ts t):=by rw [wk,gM]
 have H:(Lib.strCells t).length=t.size:=Lib.strCells_length t
 have key: ∃ q y J,(q=none∨0<y)∧(Builtin.append_ #[44,9] o.type #[sl a c bs,.string t]).run Tryz.prog w= .ok (.slice q (bs.length+t.size) y) J∧SH w0 J (Row 5 1 (.slice q (bs.length+t.size) y) (bs.length+t.size) (aT bs++Lib.strCells t)::R):=by
  have grown: ∀ eh,eh<bs.length+t.size→ ∀ cells:Array Value,cells.toList=aT bs++Lib.strCells t++(Builtin.zeroCells (C1 0).cells (grownCap w (bs.length+t.size) eh 5 - (bs.length+t.size))).toList→
    SH w0 (w.drew.alloc (.cells cells 5)) (Row 5 1 (.slice (some ⟨w.heap.size,0,none⟩) (bs.length+t.size) (grownCap w (bs.length+t.size) eh 5)) (bs.length+t.size) (aT bs++Lib.strCells t)::R):=by
   intro eh ho cells hc
   have hge:=grownCap_ge w (bs.length+t.size) eh 5
   have hcm:grownCap w (bs.length+t.size) eh 5≤maxLen:=grownCap_le_maxLen w (bs.length+t.size) eh 5 (by simp only [maxLen];omega)
   have h1:SH w0 (w.drew.alloc (.cells cells 5)) ([Cl w.heap.size 5 cells.toList]++R):=hR.row 5 cells
   refine SH.gO ?_ h1
   have e:aT bs++Lib.strCells t=cells.toList.take ((bs.length+t.size)*1):=by
    rw [hc,List.take_left']
    rw [List.length_append,hbl,H];omega
   rw [e]
   refine .at _ _ _ _ ?_ hge hcm
   have hzl:(Builtin.zeroCells (C1 0).cells (grownCap w (bs.length+t.size) eh 5 - (bs.length+t.size))).toList.length=(grownCap w (bs.length+t.size) eh 5 - (bs.length+t.size))*1:=by
    rw [Array.length_toList,size_zeroCells]
    rfl
   rw [hc,List.length_append,List.length_append,hbl,H,hzl]
   omega
  have hcase:(a=none∧c=0∧bs=[])∨ ∃ g cs,a=some ⟨g,0,none⟩∧A=[Cl g 5 cs]∧cs.length=c∧bs.length≤c∧c≤maxLen∧aT bs=cs.take bs.length:=by
   generalize hsl:(sl a c bs:Value)=v at hown
   generalize hn:bs.length=n at hown
   generalize hxs:aT bs=xs at hown
   cases hown with
   | none b=>
    injection hsl with h1 h2 h3
    subst h3
    rcases ha with h | h
    ·exact .inl ⟨h,rfl,List.length_eq_zero_iff.1 hn⟩
    ·exact absurd h (Nat.lt_irrefl _)
   | «at» g cs n cap hl hn2 hm=>
    injection hsl with h1 h2 h3
    subst h1 h3
    exact .inr ⟨g,cs,rfl,rfl,by omega,by omega,hm,by rw [Nat.mul_one]⟩
  rcases hcase with ⟨rfl,rfl,rfl⟩ | ⟨g,cs,rfl,rfl,hcs,hbc,hcm,htk⟩
  ·have hr:=run_append_nil_string (P:=Tryz.prog) w 44 9 o.type 5 i (C1 0) gq.und Tryz.underlying9 hi h1z t h0 (by omega) (by rw [h3z];omega)
   have e0:([]:List Nat).length+t.size=t.size:=by simp
   have hg:=grown 0 (by rw [e0];exact h0) (t.data.map (fun b=>C1 b.toNat)++Builtin.zeroCells (C1 0).cells (grownCap w t.size 0 5 - t.size)) (by
    rw [e0,Array.toList_append,Array.toList_map]
    rfl)
   refine ⟨_,_,_,.inr ?_,?_,hg⟩
   ·have:=grownCap_ge w (([]:List Nat).length+t.size) 0 5
    rw [e0] at this ⊢
    omega
   ·rw [e0]
    exact hr
  ·have hg:w.heap[g]?=some (.cells cs.toArray 5 (0,0)):=hL2.holds (Cl g 5 cs) (by simp)
   by_cases hroom:bs.length+t.size≤c
   ·have hr:=Lib.run_append_room_string (P:=Tryz.prog) w 44 9 o.type 5 i gq.und Tryz.underlying9 hi h2z g bs.length c cs.toArray hg t hroom (by simp;omega)
    refine ⟨_,_,_,.inr (by omega),hr,?_⟩
    have hnew:=setRow_heap w g cs.toArray (cs.toArray.toList.take bs.length++Lib.strCells t++cs.toArray.toList.drop (bs.length+t.size)).toArray 5 (0,0) hg
    have hsz:(cs.take bs.length++Lib.strCells t++cs.drop (bs.length+t.size)).length=c:=by
     simp only [List.length_append,List.length_take,List.length_drop,H];omega
    have h1:SH w0 (w.setRow g (cs.toArray.toList.take bs.length++Lib.strCells t++cs.toArray.toList.drop (bs.length+t.size)).toArray) ([Cl g 5 (cs.take bs.length++Lib.strCells t++cs.drop (bs.length+t.size))]++R):=
     SH.cQ (L:=[Cl g 5 cs]) (F:=R) hL2 rfl rfl rfl (by simp [World.setRow]) (fun b hb hne=>setRow_other w g b _ (fun e=>hne (Cl g 5 cs) (by simp) e)) (by simpa [Pt] using hnew) (by simp) (fun B hB b hb=>by
      simp only [List.mem_singleton] at hB
      subst hB
      exact .inl ⟨Cl g 5 cs,by simp,hb⟩) (by simp [Pt])
    refine SH.gO ?_ h1
    have e:aT bs++Lib.strCells t=(cs.take bs.length++Lib.strCells t++cs.drop (bs.length+t.size)).take ((bs.length+t.size)*1):=by
     rw [List.take_left',htk]
     rw [List.length_append,List.length_take,H];omega
    rw [e]
    exact .at _ _ _ _ (by omega) hroom hcm
   ·have holds: ∀ j u,(aT bs)[j]?=some u→w.cell? ((⟨g,0,none⟩:Addr).add j)=some u:=fun j u Y=>by
     rw [htk] at Y
     rw [add_plain,cell_of hg,Nat.zero_add]
     rw [List.getElem?_take] at Y
     split at Y
     ·exact Y
     ·cases Y
    have hr:=Lib.run_append_grow_string (P:=Tryz.prog) w 44 9 o.type 5 i (C1 0) gq.und Tryz.underlying9 hi h1z ⟨g,0,none⟩ bs.length c (aT bs) (by rw [hbl,h2z,Nat.mul_one]) holds t (by omega) (by omega) (by rw [h3z];exact growslice_fits (by omega) (by omega))
    refine ⟨_,_,_,.inr ?_,hr,grown c (by omega) _ ?_⟩
    ·have:=grownCap_ge w (bs.length+t.size) c 5
     omega
    ·simp [List.append_assoc]
 obtain ⟨q,y,J,hac,hrun,hL3⟩:=key
 rw [hV,hN] at hL3
 rw [hN] at hrun
 have hb2:bK (bs++ts t):=lg hbo (wl (by omega)) (by rw [nr];omega)
 have hL4:=SH.fX hb2 hL3
 unfold aL execOp
 simp only [ho,resolve,invoke,builtin,Sem.run_bind,Sem.run_pure,Result.andThen_ok,List.map_toArray,List.map_cons,List.map_nil,hv,Y,hrun]
 exact k q y J hac hL4
theorem BR {x:Operand} {ad:Addr} {n c:Nat} (q:o.op= .call { callee:= .builtin .unsafeSliceData,args:=#[x],argTypes:=#[44] }) (y:ev f x= .slice (some ad) n c) (hc:0<c) (k:C (.pointer (some ad)) w):aL Tryz.prog o f w C:=by
 have h:=Lib.run_unsafeSliceData_row (P:=Tryz.prog) (w:=w) #[44] o.type ad n c (by omega)
 unfold aL execOp
 simp only [q,resolve,invoke,builtin,Sem.run_bind,Sem.run_pure,Result.andThen_ok,List.map_toArray,List.map_cons,List.map_nil,y,h]
 exact k
theorem BS {x y:Operand} {ad:Addr} {c:Nat} {bs:List Nat} (hL:SH w0 w L) [p:kj L (sl (some ad) c bs) 5 bs R] (h0:bs≠[]) (k: ∀ w',SH w0 w' R→C (.string (bD bs)) w')
  (ho:o.op= .call { callee:= .builtin .unsafeString,args:=#[x,y],argTypes:=#[178,3] }) (hx:ev f x= .pointer (some ad)) (hy:ev f y=C5 bs.length):aL Tryz.prog o f w C:=by
 obtain ⟨H,hL1⟩:=(hL.perm p.perm).jC
 obtain ⟨A,hown,hL2⟩:=hL1.iS
 have hcase: ∃ g cs,ad=⟨g,0,none⟩∧A=[Cl g 5 cs]∧bs.length≤cs.length∧aT bs=cs.take bs.length:=by
  generalize J:(sl (some ad) c bs:Value)=v at hown
  generalize hn:bs.length=n at hown
  generalize hxs:aT bs=xs at hown
  cases hown with
  | none b=>exact absurd (List.length_eq_zero_iff.1 hn) h0
  | «at» g cs n cap hl hn2 hm=>
   injection J with h1 h2 h3
   injection h1 with h1
   subst h1 h3
   exact ⟨g,cs,rfl,rfl,by omega,by rw [Nat.mul_one]⟩
 obtain ⟨g,cs,rfl,rfl,hlen,Y⟩:=hcase
 have hg:w.heap[g]?=some (.cells cs.toArray 5 (0,0)):=hL2.holds (Cl g 5 cs) (by simp)
 have q:(bs.map fun b=>UInt8.ofNat b).length=bs.length:=List.length_map ..
 have hr:=Lib.run_unsafeString_row (P:=Tryz.prog) w 178 3 o.type 5 Tryz.underlying178 (by kernel_rfl) g cs.length (by simp [World.shape?,hg]) (bs.map fun b=>UInt8.ofNat b) (by simpa using h0) (by rw [q];exact hlen) (by rw [q];have:=H.2;omega) (fun j x hj=>by
  rw [List.getElem?_map] at hj
  obtain ⟨b,hb,rfl⟩:=Option.map_eq_some_iff.1 hj
  have h1:(aT bs)[j]?=some (C1 (b:Int)):=by rw [aT,List.getElem?_map,hb];rfl
  have h2:(UInt8.ofNat b).toNat=b:=by
   have:=H.1 b (List.mem_of_getElem? hb)
   simp;omega
  rw [h2,add_plain,cell_of hg,Nat.zero_add]
  rw [Y,List.getElem?_take] at h1
  split at h1
  ·exact h1
  ·cases h1)
 rw [q] at hr
 unfold aL execOp
 simp only [ho,resolve,invoke,builtin,Sem.run_bind,Sem.run_pure,Result.andThen_ok,List.map_toArray,List.map_cons,List.map_nil,hx,hy,hr]
 refine k _ ?_
 exact SH.cQ (L:=[Cl g 5 cs]) (L':=[]) (F:=R) hL2 (by simp only [World.freeze];split<;>rfl) (by simp only [World.freeze];split<;>rfl) (by simp only [World.freeze];split<;>rfl) (by simp only [World.freeze];split<;>simp) (fun b hb hne=>by
  have hgb:g≠b:=fun e=>hne (Cl g 5 cs) (by simp) e.symm
  simp only [World.freeze]
  split
  ·rfl
  ·rw [Array.getElem?_modify,if_neg hgb]) (by simp) (by simp) (by simp) (by simp)
theorem BT {x:Operand} {b:Nat} {cs:List Value} (y:o.op= .convert 102 265 x) (H:ev f x=pt b) (J:SH w0 w L) [p:aR L b 104 cs R] (Y:0<cs.length):(execOp (ev f) o).run Tryz.prog w= .ok (.value (pt b)) w:=by
 have hb:=J.eI b (t:=104) (cs:=cs)
 obtain ⟨j,hj,q⟩:=Option.map_eq_some_iff.1 (show (Tryz.prog.info? 104).map (·.size)=some 2 by kernel_rfl)
 have h:=Lib.run_to_unsafe (P:=Tryz.prog) w (src:=102) (dst:=265) ⟨b,0,none⟩ Tryz.underlying102 Tryz.underlying265 hj (by rw [q];decide) (show w.shape? b=some (104,cs.length) by simp [World.shape?,hb]) Y
 unfold execOp
 simp [y,H,h]
theorem BU {x:Operand} {b:Nat} {cs:List Value} (q:o.op= .convert 265 102 x) (y:ev f x=pt b) (H:SH w0 w L) [p:aR L b 104 cs R] (J:cs.length=2):(execOp (ev f) o).run Tryz.prog w= .ok (.value (pt b)) w:=by
 have Y:=H.eI b (t:=104) (cs:=cs)
 obtain ⟨j,hj,hjs⟩:=Option.map_eq_some_iff.1 (show (Tryz.prog.info? 104).map (·.size)=some 2 by kernel_rfl)
 have h:=Lib.run_from_unsafe (P:=Tryz.prog) w (src:=265) (dst:=102) ⟨b,0,none⟩ Tryz.underlying265 Tryz.underlying102 hj (show w.shape? b=some (104,2) by simp [World.shape?,Y,J]) (by kernel_rfl)
 unfold execOp
 simp [q,y,h]
end
end Go.Proofs.YtlhpilgmeededaaGreatDoor
namespace Go.Proofs.YtlhpilgmeededaaGreatDoor
open Go Go.Proofs Go.RowKit Go.Shelf Go.Den
attribute [local go_sem] Oper.semAt_some
set_option maxRecDepth 100000 in
set_option maxHeartbeats 2000000 in
theorem BV {w:World} {b:Nat} (h0:w.cell? ⟨b,0,none⟩=some (.pointer (some ⟨b,0,none⟩))):D 83 [.pointer (some ⟨b,0,none⟩)] w fun r q=>r= .tuple #[]∧q=w:=by
 show Calls _ _ _ _ _
 refine (callsIn_wide (n:=9)).1<|callsIn_of_wp_marks Tryz.func83 rfl trivial ?_ rfl
 simp only [Tryz.ntmps83,List.size_toArray,List.length_cons,List.length_nil,Nat.reduceAdd,Nat.reduceSub,Array.replicate_succ,Array.replicate_zero,List.push_toArray,List.append_toArray,List.nil_append,List.cons_append]
 obtain ⟨j,y,_⟩:=Option.map_eq_some_iff.1 (show (Tryz.prog.info? 104).map (·.size)=some 2 by kernel_rfl)
 gi_wp2
 rw [Lib.run_neq_ptr_same w _ Tryz.underlying102 y]
 gi_wp2
 exact ⟨.tuple #[],by simp [results,Tryz.f83],_,rfl,rfl,rfl⟩
end Go.Proofs.YtlhpilgmeededaaGreatDoor
namespace Go.Proofs.YtlhpilgmeededaaGreatDoor
open Go Go.Den
set_option maxHeartbeats 4000000
set_option maxRecDepth 8000
section
structure rE where
 u:Bool
 a:Option Addr
 c:Nat
 bs:List Nat
def oZ (b:Nat) (u:Bool):Value:=if u then pt b else .pointer none
def Bd (b:Nat) (x:rE):ao:=bi ([Cl b 104 [oZ b x.u,sl x.a x.c x.bs],Nb 5 (sl x.a x.c x.bs) x.bs]++[Fact (x.a=none∨0<x.c)])
section
variable {w0 w:World} {L R R2:List ao} {K:Value→World→Prop} {b:Nat} {x:rE}
theorem SH.bd (y:SH w0 w L) (b:Nat) {x:rE} [q:aC (Bd b) L x R]:(x.a=none∨0<x.c)∧SH w0 w (Cl b 104 [oZ b x.u,sl x.a x.c x.bs]::Nb 5 (sl x.a x.c x.bs) x.bs::R):=(y.at (Bd b)).kG
theorem SH.lL {u:Bool} {a:Option Addr} {c:Nat} {bs:List Nat} (q:SH w0 w (Cl b 104 [oZ b u,sl a c bs]::Nb 5 (sl a c bs) bs::R)) (h:a=none∨0<c):SH w0 w (Bd b ⟨u,a,c,bs⟩::R):=SH.kH (A:=[Cl b 104 [oZ b u,sl a c bs],Nb 5 (sl a c bs) bs]) q h
attribute [local irreducible] ay aQ aH aY a6 aW aK aV num be over nb rowOf bD ct ts
theorem c83 (y:SH w0 w L) [q:aC (Bd b) L x R] (k: ∀ J,SH w0 J (Bd b { x with u:=true } ::R)→K (.tuple #[]) J):D 83 [pt b] w K:=by
 obtain ⟨u,a,c,bs⟩:=x
 obtain ⟨Y,y⟩:=SH.bd y b
 simp only at Y y
 cases u
 ·have y:SH w0 w (Cl b 104 [.pointer none,sl a c bs]::Nb 5 (sl a c bs) bs::R):=y
  refine s83 rfl<|ac<|y.C9 (b:=b) rfl<|cG (fun H=>?_) (fun H=>?_)
  ·exact ai<|au ⟨_,BT (cs:=[.pointer none,sl a c bs]) rfl rfl y Nat.zero_lt_two,aZ (wo 140 (e:=Extern.AbiNoEscape.same) (v:=pt b) (v1:=pt b) rfl rfl rfl Tryz.func140 (by kernel_rfl) (by kernel_rfl) (by kernel_rfl) (by kernel_rfl) rfl (⟨_,BU (cs:=[.pointer none,sl a c bs]) rfl rfl y rfl,y.aN (b:=b) [pt b] [pt b,sl a c bs] fun w2 y=>k w2 (SH.lL (u:=true) y Y)⟩))⟩
  ·exact absurd H (by simp)
 ·have y:SH w0 w (Cl b 104 [pt b,sl a c bs]::Nb 5 (sl a c bs) bs::R):=y
  refine (BV (y.ld (b:=b) rfl)).mono ?_
  rintro r J ⟨rfl,rfl⟩
  exact k _ (SH.lL (u:=true) y Y)
theorem c37 {t:ByteArray} (h0:0<t.size) (y:SH w0 w L) [q:aC (Bd b) L x R] (hlen:x.bs.length+t.size≤1000000) (k: ∀ a c w',SH w0 w' (Bd b ⟨true,a,c,x.bs++ts t⟩::R)→K (.tuple #[C5 t.size,.nilIface]) w'):D 37 [pt b,.string t] w K:=by
 obtain ⟨u,a,c,bs⟩:=x
 refine s37 rfl<|ac<|ac<|c83 y (fun w_7 y=>?_)
 obtain ⟨ha,y⟩:=SH.bd y b
 have y:SH w0 w_7 (Cl b 104 [pt b,sl a c bs]::Nb 5 (sl a c bs) bs::R):=y
 refine ac<|y.C9 (b:=b) rfl<|aZ (BQ (t:=t) y ha h0 hlen (fun H J _ ha2 y=>y.aN (b:=b) [sl H J (bs++ts t)] [pt b,sl H J (bs++ts t)] fun Y y=>?_) rfl rfl rfl)
 have y:SH w0 Y (Cl b 104 [pt b,sl H J (bs++ts t)]::Nb 5 (sl H J (bs++ts t)) (bs++ts t)::R):=y.ae
 exact ac<|ah<|k H J _ (SH.lL (u:=true) y ha2)
theorem c139 {n:Nat} (hn:n<256) (y:SH w0 w L) [q:aC (Bd b) L x R] (hlen:x.bs.length≤100000) (k: ∀ a c w',SH w0 w' (Bd b ⟨true,a,c,x.bs++[n]⟩::R)→K .nilIface w'):D 139 [pt b,C1 n] w K:=by
 obtain ⟨u,a,c,bs⟩:=x
 refine s139 rfl<|ac<|ac<|c83 y (fun w_6 y=>?_)
 obtain ⟨ha,y⟩:=SH.bd y b
 have y:SH w0 w_6 (Cl b 104 [pt b,sl a c bs]::Nb 5 (sl a c bs) bs::R):=y
 refine ac<|y.C9 (b:=b) rfl ⟨rfl,[C1 n],rfl,y.an fun J w_13 y=>?_⟩
 have y:SH w0 w_13 (Nb 5 (sl a c bs) bs::Cl J 5 [C1 n]::Cl b 104 [pt b,sl a c bs]::R):=y.ae
 obtain ⟨hbo,y⟩:=y.jC
 refine aZ (dL (v:=sl a c bs) (u:= .slice (some ⟨J,0,none⟩) 1 1) rfl rfl rfl y (y.fa rfl) rfl (by simp only at hlen;omega) fun Y H w2 y=>?_)
 have hl9:(bs++[n]).length=bs.length+1:=by simp
 have h9:SH w0 w2 (Row 5 1 (.slice Y (bs++[n]).length H) (bs++[n]).length (aT (bs++[n]))::Cl b 104 [pt b,sl a c bs]::R):=by
  rw [hl9,gM]
  show SH w0 w2 (Row 5 1 (.slice Y (bs.length+1) H) (bs.length+1) (aT bs++[C1 n])::Cl b 104 [pt b,sl a c bs]::R)
  exact y.ae
 have hb9:bK (bs++[n]):=lg hbo ⟨fun _ hz=>by simp at hz;omega,by simp⟩ (by simp only at hlen;simp;omega)
 have y:=SH.fX hb9 h9
 obtain ⟨_,_,e9,hc9,_,_⟩:=y.enter (v:= .slice Y (bs++[n]).length H) (bs:=bs++[n])
 have hc9:0<H:=by injection e9 with _ _ e9;rw [hl9] at hc9;omega
 refine y.aN (b:=b) [.slice Y (bs.length+1) H] [pt b,.slice Y (bs.length+1) H] fun w_28 y=>ac<|ah ?_
 rw [←hl9] at y
 have y:SH w0 w_28 (Cl b 104 [pt b,sl Y H (bs++[n])]::Nb 5 (sl Y H (bs++[n])) (bs++[n])::R):=y.ae
 exact k Y H _ (SH.lL (u:=true) y (.inr hc9))
theorem c41 (y:SH w0 w L) [q:aC (Bd b) L x R] (H:x.bs≠[]) (k: ∀ J,SH w0 J R→K (.string (bD x.bs)) J):D 41 [pt b] w K:=by
 obtain ⟨u,a,c,bs⟩:=x
 obtain ⟨Y,y⟩:=SH.bd y b
 simp only at Y y H
 obtain ⟨ad,rfl⟩: ∃ ad,a=some ad:=by
  obtain ⟨_,a',c',e,h1,_⟩:=(y.rb (sl a c bs) (bs:=bs)).reads
  cases a with
  | none=>
   injection e with e1 e2
   exact absurd (List.length_eq_zero_iff.1 (h1 e1.symm)) H
  | some ad=>exact ⟨ad,rfl⟩
 have hc:0<c:=Y.elim (fun h=>by cases h) id
 exact s41 rfl<|ac<|aJ<|have y:=y.drew;y.C9 (b:=b) rfl<|y.C9 (b:=b) rfl<|fy (BR (ad:=ad) (n:=bs.length) (c:=c) rfl rfl hc (⟨⟨y.ld (b:=b) rfl,⟨y.ld (b:=b) rfl,trivial⟩⟩,fy (BS (c:=c) y H (fun _ hL2=>⟨⟨hL2.ld (b:=b) rfl,⟨hL2.ld (b:=b) rfl,trivial⟩⟩,ah (k _ hL2.ae)⟩) rfl rfl rfl)⟩))
end
end
section
def lM (r:Nat):ByteArray:=match r with
 | 1=>⟨#[102,111,114,109]⟩ | 2=>⟨#[115,117,109]⟩ | 3=>⟨#[118,101,114,115,105,111,110]⟩ | 4=>⟨#[111,112,116,105,111,110]⟩ | 5=>⟨#[102,114,97,103]⟩ | 6=>⟨#[116,116,108]⟩ | 7=>⟨#[114,111,117,116,101]⟩ | 8=>⟨#[102,105,108,116,101,114]⟩ | 9=>⟨#[115,116,97,116,101]⟩ | 10=>⟨#[112,111,114,116,115]⟩
 | 11=>⟨#[102,117,108,108]⟩ | 12=>⟨#[119,97,105,116]⟩ | 13=>⟨#[98,117,102,102,101,114]⟩ | 14=>⟨#[114,105,110,103]⟩ | 15=>⟨#[104,111,115,116]⟩ | 16=>⟨#[107,105,110,100]⟩ | 17=>⟨#[108,111,99,97,108]⟩ | 18=>⟨#[115,101,108,102]⟩ | 19=>⟨#[111,108,100]⟩
 | _=>⟨#[]⟩
theorem BW: ∀ r:Fin 20,((List.range 20).map fun r=>Value.string (lM r))[r.1]?=some (.string (lM r.1)):=fun r=>by
 rw [List.getElem?_map,List.getElem?_range r.2];rfl
theorem wu: ∀ r:Fin 20,1≤r.1→lM r.1≠⟨#[]⟩:=by decide
theorem SH.BX {w0 w:World} {L R:List ao} {b:Nat} {t:TypeId} {cs:List Value} {j:Nat} {v:Value} (q:SH w0 w L) [p:aR L b t cs R] (h:cs[j]?=some v):w.cell? ((⟨b,0,none⟩:Addr).add (j*1))=some v:=by
 rw [add_plain,Nat.zero_add,Nat.mul_one]
 exact q.ld (b:=b) h
section
variable {w0 w:World} {L R R2:List ao} {K:Value→World→Prop} {p:Nat} {s:bA}
attribute [local irreducible] ay aQ aH aY a6 aW aK aV num be over nb rowOf bD ct ts
theorem c190 (y:SH w0 w L) (k: ∀ q,SH w0 q L→K (.string ⟨#[49]⟩) q):D 190 [C5 1] w K:=by
 refine s190 rfl<|ac<|aq<|Di<|ac<|Db ⟨_,hZ (l:=1) (h:=2) (m:=36) (r:=⟨#[49]⟩) rfl rfl (by kernel_rfl) (by kernel_rfl),ah (k _ y.ae)⟩
theorem c141 (q:SH w0 w L) (k: ∀ y,SH w0 y L→K (.string ⟨#[49]⟩) y):D 141 [C5 1,C5 10] w K:=by
 refine s141 rfl<|ac<|aq<|Di<|aq<|Di<|Di<|ac<|c190 q (fun _ q=>ah (k _ q.ae))
theorem c85 (q:SH w0 w L) (k: ∀ y,SH w0 y L→K (.string ⟨#[49]⟩) y):D 85 [C5 1] w K:=by
 refine s85 rfl<|ac<|ac<|c141 q (fun _ q=>ah (k _ q.ae))
theorem c40 (q:SH w0 w L) (k: ∀ y,SH w0 y L→K (.string ⟨#[49]⟩) y):D 40 [C5 1] w K:=by
 refine s40 rfl<|ac<|ac<|c85 q (fun _ q=>ah (k _ q.ae))
theorem c84 (y:SH w0 w L) (k: ∀ b J,SH w0 J (Cl b 9 ((List.range 20).map fun r=> .string (lM r))::L)→K (.slice (some ⟨b,0,none⟩) 20 20) J):D 84 [] w K:=by
 exact s84 rfl<|ac<|ac ⟨by kernel_rfl,[vS #[],vS #[102,111,114,109],vS #[115,117,109],vS #[118,101,114,115,105,111,110],vS #[111,112,116,105,111,110],vS #[102,114,97,103],vS #[116,116,108],vS #[114,111,117,116,101],vS #[102,105,108,116,101,114],vS #[115,116,97,116,101],vS #[112,111,114,116,115],vS #[102,117,108,108],vS #[119,97,105,116],vS #[98,117,102,102,101,114],vS #[114,105,110,103],vS #[104,111,115,116],vS #[107,105,110,100],vS #[108,111,99,97,108],vS #[115,101,108,102],vS #[111,108,100]],by kernel_rfl,y.an fun q H y=>ah (k q _ (show SH w0 H (Cl q 9 ((List.range 20).map fun r=> .string (lM r))::L) from y))⟩
theorem c38 {r:Nat} (hr:1≤r∧r≤20) (q:SH w0 w L) (k: ∀ H,SH w0 H L→K (.string (lM r)) H):D 38 [C5 r] w K:=by
 refine s38 rfl<|ac<|aq ?_
 by_cases y:r=20
 ·subst y
  refine c76a q (by decide)<|Dj<|ac<|ah<|k _ q.ae
 ·refine c76 q (by omega)<|Dj<|ak<|ac<|c84 q (fun _ _ q=>⟨by omega,_,rfl,⟨_,SH.BX q (BW ⟨r,by omega⟩),ah (k _ q.ae)⟩⟩)
theorem c39 {r:Nat} (hr:1≤r∧r≤19) (H:SH w0 w L) [q:aC (Ga p) L s R] (k: ∀ Y,SH w0 Y (Ga p s::R)→K (C5 (bZ s.D r)) Y):D 39 [pt p,C5 r] w K:=by
 obtain ⟨hs,H⟩:=SH.ga H p
 have hne:=wu ⟨r,by omega⟩ hr.1
 refine s39 rfl<|ac<|aq<|c38 (by omega) H (fun _ H=>⟨_,gE (neg:=false) rfl rfl rfl ‹_›,ak (ac (H.C9 (b:=p) rfl (dh rfl rfl rfl (by omega) H (fun y=>?_) (fun J y=>?_))))⟩)
 ·refine Dt [4,13] [C5 0,C5 0] fun g=>ah ?_
  have e:bZ s.D r=0:=by unfold bZ;rw [y]
  rw [←e]
  exact k _ (SH.aU H.ae hs)
 ·refine Dt [4,13] [C5 0,C5 J] fun g=>ah ?_
  have e:bZ s.D r=J:=by unfold bZ;rw [y]
  rw [←e]
  exact k _ (SH.aU H.ae hs)
theorem c81 {s:Int} (h:s=0) (y:SH w0 w L) (k: ∀ q,SH w0 q L→K (.string ⟨#[105,110]⟩) q):D 81 [C5 s] w K:=by
 refine s81 rfl<|ac<|aq<|Dg<|ac<|ah<|k _ y.ae
theorem c36 (q:SH w0 w L) (k: ∀ b H,SH w0 H (Cl b 9 [.string ⟨#[110,111,110,101]⟩]::L)→K (.slice (some ⟨b,0,none⟩) 1 1) H) (a:Option Addr) (c:Nat):D 36 [.agg #[.slice a 0 c,sN],C5 0] w K:=by
 refine s36 rfl<|ac<|q.az [.slice a 0 c,sN] fun y _ q=>aq<|Dh<|ak<|ac<|av<|ac<|q.C9 (b:=y) rfl<|aM<|fE 1<|fh<|ac<|Dh<|av<|ai<|aS<|av<|ac<|q.C9 (b:=y) rfl<|aM<|fE 1<|fh<|ac<|Dh<|av<|ai<|aS<|aq ?_
 refine Di<|ac ⟨rfl,[vS #[110,111,110,101]],rfl,q.an fun _ _ q=>ah (k _ _ q.ae)⟩
theorem c184 (q:SH w0 w L) (k: ∀ y,SH w0 y L→K (C5 0) y):D 184 [.string ⟨#[105,110]⟩] w K:=by
 refine s184 rfl<|ac<|aq<|c81 rfl q (fun _ q=>⟨_,jZ (neg:=false) rfl rfl rfl rfl,ac (ah (k _ q.ae))⟩)
theorem c42 (q:SH w0 w L) (k: ∀ H,SH w0 H L→K (.agg #[C4 120,C4 240,C4 7440,C4 60]) H):D 42 [] w K:=by
 refine s42 rfl<|ac<|q.an fun y _ q=>ac ⟨rfl,[C4 120,C4 240,C4 7440,C4 60],rfl,q.aj (b:=y) fun _ q=>ah (q.Da (b:=y) rfl (k _ q.ae))⟩
end
end
end Go.Proofs.YtlhpilgmeededaaGreatDoor
namespace Go.Proofs.YtlhpilgmeededaaGreatDoor
open Go Go.Den Go.RowKit
set_option maxHeartbeats 4000000
set_option maxRecDepth 8000
section
variable {w0 w:World} {L R R2:List ao} {K:Value→World→Prop} {o:Oper} {f:Fr} {C:Value→World→Prop}
theorem wv {x:Operand} {s:ByteArray} (bs:List Nat) (Y:ts s=bs) (hs:s.size≤1000000) (hL:SH w0 w L) (k: ∀ a c w',SH w0 w' (By (sl a c bs) bs::L)→C (sl a c bs) w')
  (ho:o.op= .convert 9 44 x) (q:ev f x= .string s):aL Tryz.prog o f w C:=by
 subst Y
 have hl:(ts s).length=s.size:=nr s
 have h:=run_bytes_of_string (P:=Tryz.prog) w 9 44 5 s Tryz.underlying9 Tryz.underlying44 Tryz.underlying5
 generalize hc:grownCap w s.size 0 5=cap at h
 have hcap:s.size≤cap:=by rw [←hc];exact grownCap_ge w s.size 0 5
 generalize hrow:bytesRow s cap=row at h
 have hnew:(w.drew.alloc (.cells row 5 (row.size,row.size+1))).heap[w.heap.size]?=some (.cells row 5 (row.size,row.size+1)):=by show (w.heap.push _)[w.heap.size]?=_;simp
 unfold aL execOp
 simp only [ho,q,Sem.run_bind,h,Result.andThen_ok,Sem.run_pure,bc]
 rw [←hl]
 refine k _ _ _ (SH.cQ (L:=[]) (L':=[By _ (ts s)]) (F:=L) hL.drew rfl rfl rfl (by simp) (fun b J _=>?_) (fun A y=>?_) (by simp) (fun A y x q=>?_) (fun A y x q=>?_))
 ·show (w.heap.push _)[b]?=w.heap[b]?
  have hb':b<w.heap.size:=J
  rw [Array.getElem?_push,if_neg (by omega)]
 ·rcases List.mem_singleton.1 y with rfl
  have J:=wl hs
  refine ⟨⟨by rw [fW];omega,_,_,rfl,fun h=>(by cases h),fun _ e j _ H=>?_⟩,J.1,J.2,_,_,rfl,by omega⟩
  cases e
  rw [add_plain,Nat.zero_add]
  have hj:j<s.size:=by
   have:=(List.getElem?_eq_some_iff.1 H).1
   rw [fW] at this;omega
  simp only [World.cell?,hnew]
  rw [←hrow]
  unfold bytesRow
  rw [Array.getElem?_append_left (by simp;exact hj),Array.getElem?_map]
  rw [←wk] at H
  unfold Lib.strCells at H
  rw [List.getElem?_map] at H
  rw [←Array.getElem?_toList]
  exact H
 ·rcases List.mem_singleton.1 y with rfl
  exact q.elim
 ·rcases List.mem_singleton.1 y with rfl
  obtain ⟨_,q⟩:=q
  simp only [fk,Option.some.injEq] at q
  subst q
  exact .inr (.inl (Nat.le_refl _))
attribute [local irreducible] ay aQ aH aY a6 aW aK aV num be over nb rowOf bD ct ts
theorem c303a (y:SH w0 w L) (k: ∀ H,SH w0 H L→K (.tuple #[C4 0,.nilIface]) H):D 303 [.string ⟨#[48,48]⟩,C5 16,C5 8] w K:=by
 refine s303 rfl<|ac<|aq ⟨_,gE (neg:=false) rfl rfl rfl (by decide),ak (ac (⟨false,decide_eq_false (by decide),ac (aG (aE [0,1,2,6,7,8,9,28,44,56,68,80,109,115,125,155,165] [vS #[48,48],C5 16,C5 8,C4 0,.nilIface,.bool false,vS #[48,48],undef,undef,undef,undef,undef,undef,undef,undef,undef,undef] rfl fun g=>ac (⟨true,decide_eq_true (by decide),⟨true,decide_eq_true (by decide),pa 2 rfl (ai (ak (aq (⟨false,decide_eq_false (by decide),ac (ag [0,1,2,6,7,8,9,80,109,115,125,155,165] [vS #[48,48],C5 16,C5 8,C4 0,.nilIface,.bool false,vS #[48,48],undef,undef,undef,undef,undef,undef] rfl fun g=>⟨false,decide_eq_false (by decide),⟨false,decide_eq_false (by decide),ai (ak (ac (av (ac (aM (ac (⟨false,decide_eq_false (by decide),?_⟩)))))))⟩⟩)⟩))))⟩⟩)))⟩))⟩
 refine ai<|ac<|ag [0,1,2,6,7,8,9,10,85,109,115,125,155,165] [vS #[48,48],C5 16,C5 8,C4 0,.nilIface,.bool false,vS #[48,48],C4 0,C5 16,undef,undef,undef,undef,undef] rfl fun g=>⟨true,decide_eq_true (by decide),ai (au (ac (⟨_,IntWalk.u64_in _ (by omega),⟨by decide,256,by decide,⟨255,by decide,ac (ac (ag [0,1,6,7,8,9,10,11,12,109,115,125,155,165] [vS #[48,48],C5 16,C4 0,.nilIface,.bool false,vS #[48,48],C4 1152921504606846976,C4 255,.bool false,undef,undef,undef,undef,undef] rfl fun g=>av (ac (aZ (wv [48,48] (by kernel_rfl) (by decide) y (fun a c _ y=>pa 2 rfl (aM (aE [0,1,6,7,8,9,10,11,12,13,99,100,101,109,115,125,155,165] [vS #[48,48],C5 16,C4 0,.nilIface,.bool false,vS #[48,48],C4 1152921504606846976,C4 255,.bool false,C4 0,sl a c [48,48],C5 2,C5 0,undef,undef,undef,undef,undef] rfl fun g=>fE 3 (fh (ac (⟨true,decide_eq_true (by decide),av (ai (ak (aG (ac ?_))))⟩)))))) rfl rfl)))))⟩⟩⟩)))⟩
 obtain ⟨q,rfl⟩:=y.dp a
 refine ⟨by decide,_,rfl,y.cV (j:=0) fun _=>ac (aG (ac (⟨false,decide_eq_false (by decide),pa 4 rfl (ag [1,6,7,8,9,10,11,12,13,15,16,99,100,101,102,103,104,106,107,108,109,111,115,125,155,165] [C5 16,C4 0,.nilIface,.bool false,vS #[48,48],C4 1152921504606846976,C4 255,.bool false,C4 0,C1 48,C1 0,sl (some q) c ([48,48]),C5 2,C5 0,.bool true,.pointer (some (q.add (0*1))),C1 48,.bool false,C1 48,.bool false,.bool false,.bool false,undef,undef,undef,undef] rfl fun g=>ai (ac (⟨true,decide_eq_true (by decide),⟨true,decide_eq_true (by decide),pa 2 rfl (ai (au (⟨_,IntWalk.u8_in _ (by omega),aq (ag [1,6,7,8,9,10,11,12,13,15,16,99,100,101,102,103,104,106,107,108,109,111,112,113,114,115,116,117,118,119,120,125,155,165] [C5 16,C4 0,.nilIface,.bool false,vS #[48,48],C4 1152921504606846976,C4 255,.bool false,C4 0,C1 48,C1 (48 - 48),sl (some q) c ([48,48]),C5 2,C5 0,.bool true,.pointer (some (q.add (0))),C1 48,.bool false,C1 48,.bool false,.bool false,.bool false,.bool true,C1 48,.bool true,.bool true,C1 48,.bool true,.bool true,C1 48,C1 (48 - 48),undef,undef,undef] rfl fun g=>⟨_,IntWalk.u8_in _ (by omega),⟨false,decide_eq_false (by decide),ak (aq (⟨false,decide_eq_false (by decide),ak (ac (⟨_,IntWalk.u64_in _ (by omega),ag [1,6,7,8,9,10,11,12,13,15,16,99,100,101,102,103,104,106,107,108,109,111,112,113,114,115,116,117,118,119,120,125,134,135,136,137,139,140,141,144,145,146,155,165] [C5 16,C4 0,.nilIface,.bool false,vS #[48,48],C4 1152921504606846976,C4 255,.bool false,C4 0,C1 48,C1 (48 - 48),sl (some q) c ([48,48]),C5 2,C5 0,.bool true,.pointer (some (q.add (0))),C1 48,.bool false,C1 48,.bool false,.bool false,.bool false,.bool true,C1 48,.bool true,.bool true,C1 48,.bool true,.bool true,C1 48,C1 (48 - 48),undef,C1 (48 - 48),C5 16,C1 16,.bool false,C4 0,C4 1152921504606846976,.bool false,C4 0,C5 16,C4 16,undef,undef] rfl fun g=>⟨_,IntWalk.u64_in _ (by omega),ac (⟨_,IntWalk.u64_in _ (by omega),?_⟩)⟩⟩))⟩))⟩⟩)⟩)))⟩⟩)))⟩)))⟩
 refine ⟨_,IntWalk.u64_in _ (by omega),aq (⟨false,decide_eq_false (by decide),⟨false,decide_eq_false (by decide),ak (au (ag [1,6,7,8,9,10,11,12,13,15,16,17,99,100,101,102,103,104,106,107,108,109,111,112,113,114,115,116,117,118,119,120,125,134,135,136,137,139,140,141,144,145,146,147,148,149,150,151,152,153,154,155,156,157,158,159,165] [C5 16,C4 0,.nilIface,.bool false,vS #[48,48],C4 1152921504606846976,C4 255,.bool false,C4 (0*16),C1 48,C1 (48 - 48),C4 (0*16+(48 - 48)),sl (some q) c ([48,48]),C5 2,C5 0,.bool true,.pointer (some (q.add (0))),C1 48,.bool false,C1 48,.bool false,.bool false,.bool false,.bool true,C1 48,.bool true,.bool true,C1 48,.bool true,.bool true,C1 48,C1 (48 - 48),undef,C1 (48 - 48),C5 16,C1 16,.bool false,C4 0,C4 1152921504606846976,.bool false,C4 0,C5 16,C4 16,C4 (0*16),C4 (0*16),C1 (48 - 48),C4 (48 - 48),C4 (0*16+(48 - 48)),C4 (0*16+(48 - 48)),C4 (0*16),.bool false,.bool false,C4 (0*16+(48 - 48)),C4 255,.bool false,.bool false,undef] rfl fun g=>au (⟨_,IntWalk.i64_in _ (by omega),ac (⟨true,decide_eq_true (by decide),av (ai (ak (aG (ac (⟨by decide,_,rfl,y.cV (j:=1) fun _=>ac (aG (aE [1,6,7,8,9,10,11,12,13,15,16,17,99,100,101,102,103,104,106,107,108,109,111,112,113,114,115,116,117,118,119,120,125,134,135,136,137,139,140,141,144,145,146,147,148,149,150,151,152,153,154,155,156,157,158,159,162,163,165] [C5 16,C4 0,.nilIface,.bool false,vS #[48,48],C4 1152921504606846976,C4 255,.bool false,C4 (0*16+(48 - 48)),C1 48,C1 0,C4 (0*16+(48 - 48)),sl (some q) c ([48,48]),C5 2,C5 (0+1),.bool true,.pointer (some (q.add (1*1))),C1 48,.bool false,C1 48,.bool false,.bool false,.bool false,.bool true,C1 48,.bool true,.bool true,C1 48,.bool true,.bool true,C1 48,C1 (48 - 48),undef,C1 (48 - 48),C5 16,C1 16,.bool false,C4 0,C4 1152921504606846976,.bool false,C4 0,C5 16,C4 16,C4 (0*16),C4 (0*16),C1 (48 - 48),C4 (48 - 48),C4 (0*16+(48 - 48)),C4 (0*16+(48 - 48)),C4 (0*16),.bool false,.bool false,C4 (0*16+(48 - 48)),C4 255,.bool false,.bool false,C4 (0*16+(48 - 48)),C5 (0+1),undef] rfl fun g=>ac (⟨false,decide_eq_false (by decide),pa 4 rfl (ai (ac (⟨true,decide_eq_true (by decide),⟨true,decide_eq_true (by decide),pa 2 rfl (ag [1,6,7,8,9,10,11,12,13,15,16,17,99,100,101,102,103,104,106,107,108,109,111,112,113,114,115,116,117,118,119,120,125,134,135,136,137,139,140,141,144,145,146,147,148,149,150,151,152,153,154,155,156,157,158,159,162,163,165] [C5 16,C4 0,.nilIface,.bool false,vS #[48,48],C4 1152921504606846976,C4 255,.bool false,C4 (0*16+(48 - 48)),C1 48,C1 0,C4 (0*16+(48 - 48)),sl (some q) c ([48,48]),C5 2,C5 (0+1),.bool true,.pointer (some (q.add (1))),C1 48,.bool false,C1 48,.bool false,.bool false,.bool false,.bool true,C1 48,.bool true,.bool true,C1 48,.bool true,.bool true,C1 48,C1 (48 - 48),undef,C1 (48 - 48),C5 16,C1 16,.bool false,C4 0,C4 1152921504606846976,.bool false,C4 0,C5 16,C4 16,C4 (0*16),C4 (0*16),C1 (48 - 48),C4 (48 - 48),C4 (0*16+(48 - 48)),C4 (0*16+(48 - 48)),C4 (0*16),.bool false,.bool false,C4 (0*16+(48 - 48)),C4 255,.bool false,.bool false,C4 (0*16+(48 - 48)),C5 (0+1),undef] rfl fun g=>?_)⟩⟩)))⟩)))⟩)))))⟩)⟩)))⟩⟩)⟩
 refine ai<|au ⟨_,IntWalk.u8_in _ (by omega),aq (⟨_,IntWalk.u8_in _ (by omega),⟨false,decide_eq_false (by decide),ak (aq (⟨false,decide_eq_false (by decide),ak (ac (ag [1,6,7,8,9,10,11,12,13,15,16,17,99,100,101,102,103,104,106,107,108,109,111,112,113,114,115,116,117,118,119,120,125,134,135,136,137,139,140,141,144,145,146,147,148,149,150,151,152,153,154,155,156,157,158,159,162,163,165] [C5 16,C4 0,.nilIface,.bool false,vS #[48,48],C4 1152921504606846976,C4 255,.bool false,C4 (0*16+(48 - 48)),C1 48,C1 (48 - 48),C4 (0*16+(48 - 48)),sl (some q) c ([48,48]),C5 2,C5 (0+1),.bool true,.pointer (some (q.add (1))),C1 48,.bool false,C1 48,.bool false,.bool false,.bool false,.bool true,C1 48,.bool true,.bool true,C1 48,.bool true,.bool true,C1 48,C1 (48 - 48),undef,C1 (48 - 48),C5 16,C1 16,.bool false,C4 (0*16+(48 - 48)),C4 1152921504606846976,.bool false,C4 0,C5 16,C4 16,C4 (0*16),C4 (0*16),C1 (48 - 48),C4 (48 - 48),C4 (0*16+(48 - 48)),C4 (0*16+(48 - 48)),C4 (0*16),.bool false,.bool false,C4 (0*16+(48 - 48)),C4 255,.bool false,.bool false,C4 (0*16+(48 - 48)),C5 (0+1),undef] rfl fun g=>⟨_,IntWalk.u64_in _ (by omega),⟨_,IntWalk.u64_in _ (by omega),ac (⟨_,IntWalk.u64_in _ (by omega),⟨_,IntWalk.u64_in _ (by omega),aq (ag [1,6,7,8,9,10,11,12,13,15,16,17,99,100,101,102,103,104,106,107,108,109,111,112,113,114,115,116,117,118,119,120,125,134,135,136,137,139,140,141,144,145,146,147,148,149,150,151,152,153,154,155,156,157,158,159,162,163,165] [C5 16,C4 0,.nilIface,.bool false,vS #[48,48],C4 1152921504606846976,C4 255,.bool false,C4 ((0*16+(48 - 48))*16),C1 48,C1 (48 - 48),C4 ((0*16+(48 - 48))*16+(48 - 48)),sl (some q) c ([48,48]),C5 2,C5 (0+1),.bool true,.pointer (some (q.add (1))),C1 48,.bool false,C1 48,.bool false,.bool false,.bool false,.bool true,C1 48,.bool true,.bool true,C1 48,.bool true,.bool true,C1 48,C1 (48 - 48),undef,C1 (48 - 48),C5 16,C1 16,.bool false,C4 (0*16+(48 - 48)),C4 1152921504606846976,.bool false,C4 (0*16+(48 - 48)),C5 16,C4 16,C4 ((0*16+(48 - 48))*16),C4 ((0*16+(48 - 48))*16),C1 (48 - 48),C4 (48 - 48),C4 ((0*16+(48 - 48))*16+(48 - 48)),C4 (0*16+(48 - 48)),C4 (0*16),.bool false,.bool false,C4 (0*16+(48 - 48)),C4 255,.bool false,.bool false,C4 (0*16+(48 - 48)),C5 (0+1),undef] rfl fun g=>⟨false,decide_eq_false (by decide),⟨false,decide_eq_false (by decide),ak (au (au (ag [1,6,7,8,9,10,11,12,13,15,16,17,99,100,101,102,103,104,106,107,108,109,111,112,113,114,115,116,117,118,119,120,125,134,135,136,137,139,140,141,144,145,146,147,148,149,150,151,152,153,154,155,156,157,158,159,162,163,165] [C5 16,C4 0,.nilIface,.bool false,vS #[48,48],C4 1152921504606846976,C4 255,.bool false,C4 ((0*16+(48 - 48))*16+(48 - 48)),C1 48,C1 (48 - 48),C4 ((0*16+(48 - 48))*16+(48 - 48)),sl (some q) c ([48,48]),C5 2,C5 (0+1),.bool true,.pointer (some (q.add (1))),C1 48,.bool false,C1 48,.bool false,.bool false,.bool false,.bool true,C1 48,.bool true,.bool true,C1 48,.bool true,.bool true,C1 48,C1 (48 - 48),undef,C1 (48 - 48),C5 16,C1 16,.bool false,C4 (0*16+(48 - 48)),C4 1152921504606846976,.bool false,C4 (0*16+(48 - 48)),C5 16,C4 16,C4 ((0*16+(48 - 48))*16),C4 ((0*16+(48 - 48))*16),C1 (48 - 48),C4 (48 - 48),C4 ((0*16+(48 - 48))*16+(48 - 48)),C4 ((0*16+(48 - 48))*16+(48 - 48)),C4 ((0*16+(48 - 48))*16),.bool false,.bool false,C4 ((0*16+(48 - 48))*16+(48 - 48)),C4 255,.bool false,.bool false,C4 ((0*16+(48 - 48))*16+(48 - 48)),C5 (0+1),undef] rfl fun g=>⟨_,IntWalk.i64_in _ (by omega),ac (⟨false,decide_eq_false (by decide),av (ai ?_)⟩)⟩)))⟩⟩)⟩⟩)⟩⟩))⟩))⟩⟩)⟩
 refine aS<|aq<|pa 6 rfl<|ag [6,7,13,169] [C4 0,.nilIface,C4 ((0*16+(48 - 48))*16+(48 - 48)),.bool false] rfl fun g=>ak<|ac<|ah<|k _ y.ae
theorem c303b (y:SH w0 w L) (k: ∀ H,SH w0 H L→K (.tuple #[C4 3,.nilIface]) H):D 303 [.string ⟨#[51]⟩,C5 10,C5 64] w K:=by
 refine s303 rfl<|ac<|aq ⟨_,gE (neg:=false) rfl rfl rfl (by decide),ak (ac (⟨false,decide_eq_false (by decide),ac (aG (aE [0,1,2,6,7,8,9,28,44,56,68,80,109,115,125,155,165] [vS #[51],C5 10,C5 64,C4 0,.nilIface,.bool false,vS #[51],undef,undef,undef,undef,undef,undef,undef,undef,undef,undef] rfl fun g=>ac (⟨true,decide_eq_true (by decide),⟨true,decide_eq_true (by decide),pa 2 rfl (ai (ak (aq (⟨false,decide_eq_false (by decide),ac (ag [0,1,2,6,7,8,9,80,109,115,125,155,165] [vS #[51],C5 10,C5 64,C4 0,.nilIface,.bool false,vS #[51],undef,undef,undef,undef,undef,undef] rfl fun g=>⟨false,decide_eq_false (by decide),⟨false,decide_eq_false (by decide),ai (ak (ac (av (ac (aM (ac (⟨true,decide_eq_true (by decide),?_⟩)))))))⟩⟩)⟩))))⟩⟩)))⟩))⟩
 refine ai<|au<|ag [0,1,2,6,7,8,9,10,109,115,125,155,165] [vS #[51],C5 10,C5 64,C4 0,.nilIface,.bool false,vS #[51],C4 0,undef,undef,undef,undef,undef] rfl fun g=>ac ⟨_,IntWalk.u64_in _ (by omega),⟨by decide,0,by decide,⟨18446744073709551615,by decide,ac (ac (av (ac (aZ (wv [51] (by kernel_rfl) (by decide) y (fun a c _ y=>pa 2 rfl (aM (aE [0,1,6,7,8,9,10,11,12,13,99,100,101,109,115,125,155,165] [vS #[51],C5 10,C4 0,.nilIface,.bool false,vS #[51],C4 1844674407370955162,C4 18446744073709551615,.bool false,C4 0,sl a c [51],C5 1,C5 0,undef,undef,undef,undef,undef] rfl fun g=>fE 2 (fh (ac (⟨true,decide_eq_true (by decide),av (ai (ak (aG (ac ?_))))⟩)))))) rfl rfl)))))⟩⟩⟩
 obtain ⟨q,rfl⟩:=y.dp a
 refine ⟨by decide,_,rfl,y.cV (j:=0) fun _=>ac (aG (ac (⟨false,decide_eq_false (by decide),pa 4 rfl (ag [1,6,7,8,9,10,11,12,13,15,16,99,100,101,102,103,104,106,107,108,109,111,115,125,155,165] [C5 10,C4 0,.nilIface,.bool false,vS #[51],C4 1844674407370955162,C4 18446744073709551615,.bool false,C4 0,C1 51,C1 0,sl (some q) c [51],C5 1,C5 0,.bool true,.pointer (some (q.add (0*1))),C1 51,.bool false,C1 51,.bool false,.bool false,.bool false,undef,undef,undef,undef] rfl fun g=>ai (ac (⟨true,decide_eq_true (by decide),⟨true,decide_eq_true (by decide),pa 2 rfl (ai (au (⟨_,IntWalk.u8_in _ (by omega),aq (ag [1,6,7,8,9,10,11,12,13,15,16,99,100,101,102,103,104,106,107,108,109,111,112,113,114,115,116,117,118,119,120,125,155,165] [C5 10,C4 0,.nilIface,.bool false,vS #[51],C4 1844674407370955162,C4 18446744073709551615,.bool false,C4 0,C1 51,C1 (51 - 48),sl (some q) c [51],C5 1,C5 0,.bool true,.pointer (some (q.add (0))),C1 51,.bool false,C1 51,.bool false,.bool false,.bool false,.bool true,C1 51,.bool true,.bool true,C1 51,.bool true,.bool true,C1 51,C1 (51 - 48),undef,undef,undef] rfl fun g=>⟨_,IntWalk.u8_in _ (by omega),⟨false,decide_eq_false (by decide),ak (aq (⟨false,decide_eq_false (by decide),ak (ac (⟨_,IntWalk.u64_in _ (by omega),ag [1,6,7,8,9,10,11,12,13,15,16,99,100,101,102,103,104,106,107,108,109,111,112,113,114,115,116,117,118,119,120,125,134,135,136,137,139,140,141,144,145,146,155,165] [C5 10,C4 0,.nilIface,.bool false,vS #[51],C4 1844674407370955162,C4 18446744073709551615,.bool false,C4 0,C1 51,C1 (51 - 48),sl (some q) c [51],C5 1,C5 0,.bool true,.pointer (some (q.add (0))),C1 51,.bool false,C1 51,.bool false,.bool false,.bool false,.bool true,C1 51,.bool true,.bool true,C1 51,.bool true,.bool true,C1 51,C1 (51 - 48),undef,C1 (51 - 48),C5 10,C1 10,.bool false,C4 0,C4 1844674407370955162,.bool false,C4 0,C5 10,C4 10,undef,undef] rfl fun g=>⟨_,IntWalk.u64_in _ (by omega),ac (⟨_,IntWalk.u64_in _ (by omega),?_⟩)⟩⟩))⟩))⟩⟩)⟩)))⟩⟩)))⟩)))⟩
 refine ⟨_,IntWalk.u64_in _ (by omega),aq (⟨false,decide_eq_false (by decide),⟨false,decide_eq_false (by decide),ak (au (ag [1,6,7,8,9,10,11,12,13,15,16,17,99,100,101,102,103,104,106,107,108,109,111,112,113,114,115,116,117,118,119,120,125,134,135,136,137,139,140,141,144,145,146,147,148,149,150,151,152,153,154,155,156,157,158,159,165] [C5 10,C4 0,.nilIface,.bool false,vS #[51],C4 1844674407370955162,C4 18446744073709551615,.bool false,C4 (0*10),C1 51,C1 (51 - 48),C4 (0*10+(51 - 48)),sl (some q) c [51],C5 1,C5 0,.bool true,.pointer (some (q.add (0))),C1 51,.bool false,C1 51,.bool false,.bool false,.bool false,.bool true,C1 51,.bool true,.bool true,C1 51,.bool true,.bool true,C1 51,C1 (51 - 48),undef,C1 (51 - 48),C5 10,C1 10,.bool false,C4 0,C4 1844674407370955162,.bool false,C4 0,C5 10,C4 10,C4 (0*10),C4 (0*10),C1 (51 - 48),C4 (51 - 48),C4 (0*10+(51 - 48)),C4 (0*10+(51 - 48)),C4 (0*10),.bool false,.bool false,C4 (0*10+(51 - 48)),C4 18446744073709551615,.bool false,.bool false,undef] rfl fun g=>au (⟨_,IntWalk.i64_in _ (by omega),ac (⟨false,decide_eq_false (by decide),av (ai (aS (aq (pa 6 rfl (ag [6,7,13,169] [C4 0,.nilIface,C4 (0*10+(51 - 48)),.bool false] rfl fun g=>ak (ac (ah (k _ y.ae))))))))⟩)⟩)))⟩⟩)⟩
end
end Go.Proofs.YtlhpilgmeededaaGreatDoor
namespace Go.Proofs.YtlhpilgmeededaaGreatDoor
open Go Go.Den Go.RowKit
set_option maxHeartbeats 4000000
set_option maxRecDepth 8000
section
variable {w0 w:World} {L R R2:List ao} {K:Value→World→Prop} {o:Oper} {f:Fr} {C:Value→World→Prop} {b:Nat}
theorem BY {x x1:Operand} {ts:Array TypeId} {n:Nat} (hn:n≤1000000) (y:SH w0 w L) (k: ∀ g cs q,n≤cs.length→cs.length≤maxLen→SH w0 q (Cl g 5 cs::L)→C (.slice (some ⟨g,0,none⟩) n cs.length) q)
  (H:o.op= .call { callee:= .value x,args:=#[x1],argTypes:=ts }) (J:ev f x= .func (.func 353) #[] #[]) (h1:ev f x1=C5 n):aL Tryz.prog o f w C:=by
 obtain ⟨cs,Y,h2,h3⟩:=Lib.run_makeNoZero (P:=Tryz.prog) w #[3] 44 5 Tryz.underlying44 n (by omega)
 refine wo 353 (e:=Extern.BytealgMakeNoZero.makeNoZero #[3] #[44]) H J h1 Tryz.func353 (by kernel_rfl) (by kernel_rfl) (by kernel_rfl) (by kernel_rfl) Y ?_
 have:=k _ cs.toList _ (by simpa using h2) (by simpa using h3 (by simp only [maxLen];omega)) (y.drew.row 5 cs)
 simpa using this
attribute [local irreducible] ay aQ aH aY a6 aW aK aV num be over nb rowOf bD ct ts
theorem c307 {n:Nat} (hn:n≤100000) (h0:0<n) (y:SH w0 w L) [q:aC (Bd b) L ⟨true,none,0,[]⟩ R] (k: ∀ a c J,SH w0 J (Bd b ⟨true,a,c,[]⟩::R)→K (.tuple #[]) J):D 307 [pt b,C5 n] w K:=by
 obtain ⟨ha,y⟩:=SH.bd y b
 have y:SH w0 w (Cl b 104 [pt b,sN]::R):=SH.ae (L:=Cl b 104 [pt b,sN]::Nb 5 (sN) []::R) y
 refine s307 rfl<|aJ<|have y:=y.drew;y.C9 (b:=b) rfl ⟨_,mj mi,Db (⟨((n:Nat):Int),(IntWalk.i64_in _ (by omega)).trans (by omega),y.C9 (b:=b) rfl (fy (BY (n:=n) (by omega) y (fun gb cs _ _ Y y=>⟨⟨y.ld (b:=b) rfl,⟨mj mi,⟨y.ld (b:=b) rfl,trivial⟩⟩⟩,Du [0,13,18] [pt b,.slice (some ⟨gb,0,none⟩) n cs.length,C5 (↑0)] fun _=>⟨0,⟨rfl,Nat.zero_le _⟩,.slice (some ⟨gb,0,none⟩) 0 cs.length,by simp [add_plain],ac (y.C9 (b:=b) rfl (aZ (tj _ _ 44 5 rfl Tryz.underlying44 (by kernel_rfl) rfl rfl rfl (au (y.aN (b:=b) [.slice (some ⟨gb,0,none⟩) 0 cs.length] [pt b,.slice (some ⟨gb,0,none⟩) 0 cs.length] fun H y=>?_)))))⟩⟩) rfl rfl rfl))⟩)⟩
 have h9:SH w0 H (Cl gb 5 cs::Cl b 104 [pt b,.slice (some ⟨gb,0,none⟩) 0 cs.length]::R):=y.ae
 have h8:SH w0 H (Row 5 1 (.slice (some ⟨gb,0,none⟩) 0 cs.length) 0 (cs.take (0*1))::Cl b 104 [pt b,.slice (some ⟨gb,0,none⟩) 0 cs.length]::R):=SH.gO (.at gb cs 0 cs.length (by omega) (Nat.zero_le _) Y) h9
 have h7:SH w0 H (Nb 5 (sl (some ⟨gb,0,none⟩) cs.length []) []::Cl b 104 [pt b,.slice (some ⟨gb,0,none⟩) 0 cs.length]::R):=SH.fX (bs:=[]) ⟨by simp,by simp⟩ h8
 have h6:SH w0 H (Cl b 104 [pt b,sl (some ⟨gb,0,none⟩) cs.length []]::Nb 5 (sl (some ⟨gb,0,none⟩) cs.length []) []::R):=h7.ae
 exact k _ _ _ (SH.lL (u:=true) h6 (.inr (by omega)))
theorem c241 {n:Nat} (hn:n≤100000) (Y:0<n) (y:SH w0 w L) [q:aC (Bd b) L ⟨false,none,0,[]⟩ R] (k: ∀ a c J,SH w0 J (Bd b ⟨true,a,c,[]⟩::R)→K (.tuple #[]) J):D 241 [pt b,C5 n] w K:=by
 have y:=y.at (Bd b)
 refine s241 rfl<|ac<|c83 y (fun _ y=>aq (Df (ak (aJ ?_))))
 have y:=y.drew
 obtain ⟨_,H⟩:=SH.bd y b
 have H:SH w0 _ (Cl b 104 [pt b,sN]::R):=SH.ae (L:=Cl b 104 [pt b,sN]::Nb 5 (sN) []::R) H
 exact H.C9 (b:=b) rfl ⟨_,mj mi,H.C9 (b:=b) rfl (Db (Dg (ai (au (Dt [0,1] [pt b,C5 n] fun _=>c307 ‹_› Y y (fun _ _ _ y=>k _ _ _ y))))))⟩
theorem c190z (y:SH w0 w L) (k: ∀ q,SH w0 q L→K (.string ⟨#[48]⟩) q):D 190 [C5 0] w K:=by
 refine s190 rfl<|ac<|aq<|Di<|ac<|Db ⟨_,hZ (l:=0) (h:=1) (m:=36) (r:=⟨#[48]⟩) rfl rfl (by kernel_rfl) (by kernel_rfl),ah (k _ y.ae)⟩
theorem c190t (y:SH w0 w L) (k: ∀ q,SH w0 q L→K (.string ⟨#[51]⟩) q):D 190 [C5 3] w K:=by
 refine s190 rfl<|ac<|aq<|Di<|ac<|Db ⟨_,hZ (l:=3) (h:=4) (m:=36) (r:=⟨#[51]⟩) rfl rfl (by kernel_rfl) (by kernel_rfl),ah (k _ y.ae)⟩
end
end Go.Proofs.YtlhpilgmeededaaGreatDoor
namespace Go.Proofs.YtlhpilgmeededaaGreatDoor
open Go Go.Den
set_option maxHeartbeats 4000000
set_option maxRecDepth 8000
section
section
variable {w0 w:World} {L R R2:List ao} {K:Value→World→Prop} {b:Nat} {v:Value}
attribute [local irreducible] ay aQ aH aY a6 aW aK aV num be over nb rowOf bD ct ts
theorem SH.o7 (y:SH w0 w L) (b:Nat) [q:aR L b 104 [.pointer none,sN] R]:SH w0 w (Bd b ⟨false,none,0,[]⟩::R):=by
 have h1:SH w0 w (Cl b 104 [.pointer none,sN]::R):=y.perm q.perm
 have H:=h1.rowOf (sN) 5 1
 have J:SH w0 w (Nb 5 (sl none 0 []) []::Cl b 104 [.pointer none,sN]::R):=SH.fX (bs:=[]) ⟨by simp,by simp⟩ H
 have Y:SH w0 w (Cl b 104 [.pointer none,sN]::Nb 5 (sl none 0 []) []::R):=J.ae
 exact SH.lL (u:=false) (a:=none) (c:=0) (bs:=[]) Y (.inl rfl)
theorem c37s {u:Bool} {a:Option Addr} {c:Nat} {bs:List Nat} {t:ByteArray} (rs:List Nat) (h:bs++ts t=rs) (H:0<t.size) (hl:rs.length≤1000000) (J:SH w0 w L) [q:aC (Bd b) L ⟨u,a,c,bs⟩ R]
  (k: ∀ Y c' y,SH w0 y (Bd b ⟨true,Y,c',rs⟩::R)→K (.tuple #[C5 t.size,.nilIface]) y):D 37 [pt b,.string t] w K:=by
 subst h
 exact c37 H J (by rw [List.length_append,nr] at hl;exact hl) k
theorem c139s {u:Bool} {a:Option Addr} {c n:Nat} {bs:List Nat} (rs:List Nat) (h:bs++[n]=rs) (H:n<256) (hl:rs.length≤1000) (J:SH w0 w L) [q:aC (Bd b) L ⟨u,a,c,bs⟩ R]
  (k: ∀ Y c' y,SH w0 y (Bd b ⟨true,Y,c',rs⟩::R)→K .nilIface y):D 139 [pt b,C1 n] w K:=by
 subst h
 exact c139 H J (by rw [List.length_append] at hl;simp only;omega) k
theorem c41s {u:Bool} {a:Option Addr} {c:Nat} {bs:List Nat} (r:ByteArray) (h:bD bs=r) (H:bs≠[]) (J:SH w0 w L) [q:aC (Bd b) L ⟨u,a,c,bs⟩ R]
  (k: ∀ y,SH w0 y R→K (.string r) y):D 41 [pt b] w K:=by
 subst h
 exact c41 J H k
theorem c308z (q:SH w0 w L) (k: ∀ y,SH w0 y L→K (.string ⟨#[48]⟩) y):D 308 [C4 0,C5 10] w K:=by
 refine s308 rfl<|ac<|aq<|Di<|aq<|Di<|ac<|Db<|c190z q (fun _ q=>ah (k _ q.ae))
theorem c308t (q:SH w0 w L) (k: ∀ y,SH w0 y L→K (.string ⟨#[51]⟩) y):D 308 [C4 3,C5 10] w K:=by
 refine s308 rfl<|ac<|aq<|Di<|aq<|Di<|ac<|Db<|c190t q (fun _ q=>ah (k _ q.ae))
theorem c242z (q:SH w0 w L) (k: ∀ y,SH w0 y L→K (.string ⟨#[48]⟩) y):D 242 [C4 0,C5 10] w K:=by
 refine s242 rfl<|ac<|ac<|c308z q (fun _ q=>ah (k _ q.ae))
theorem c242t (q:SH w0 w L) (k: ∀ y,SH w0 y L→K (.string ⟨#[51]⟩) y):D 242 [C4 3,C5 10] w K:=by
 refine s242 rfl<|ac<|ac<|c308t q (fun _ q=>ah (k _ q.ae))
theorem c82 (q:SH w0 w L) [hb:aD L v [0]] (k: ∀ J,SH w0 J L→K (.string ⟨#[48,48]⟩) J):D 82 [v] w K:=by
 obtain ⟨ad,c,rfl,hcap,hB1,hl0⟩:=q.enter (v:=v)
 refine s82 rfl<|ac<|aq<|Dh<|ak<|ac<|q.an fun H _ q=>av<|ac<|aM<|fE 2<|fh<|ac<|Di<|av<|Dv [2,3,9,10,11,12] [vS #[],pt H,sl ad c [0],C5 1,C5 0,.bool true] fun g=>ai<|ak<|aG<|ac ?_
 obtain ⟨y,rfl⟩:=q.dp ad
 refine ⟨by decide,_,rfl,q.cV (j:=0) fun _=>ac (⟨by decide,_,om (by omega),⟨_,kr (j:=0) (b:=48) rfl Tryz.underlying9 rfl rfl (by kernel_rfl),?_⟩⟩)⟩
 have q:=SH.o7 q H
 refine c139s (n:=48) [48] rfl (by decide) (by decide) q (fun _ _ _ q=>au (⟨_,qh (by omega),⟨_,kr (j:=0) (b:=48) rfl Tryz.underlying9 rfl rfl (by kernel_rfl),c139s (n:=48) [48,48] rfl (by decide) (by decide) q (fun _ _ _ q=>Dt [2,3,5,9,10,11,12,13,14,15,16,17,19,20,21] [vS #[],pt H,C1 0,sl (some y) c [0],C5 1,C5 0,.bool true,.pointer (some (y.add (0*1))),C1 0,C1 0,C1 (↑0),C1 48,C1 0,C1 (↑0),C1 48] fun g=>au (Db (ac (Dh (av (ai (aS (ac (c41s ⟨#[48,48]⟩ (by kernel_rfl) (by simp) q (fun _ q=>ah (k _ q.ae)))))))))))⟩⟩))
theorem c188a (y:SH w0 w L) [q:aR L b 9 [.string ⟨#[102,114,97,109,101]⟩,.string ⟨#[105,110]⟩,.string ⟨#[48,48]⟩] R] (k: ∀ w',SH w0 w' L→K (.string ⟨#[102,114,97,109,101,32,105,110,32,48,48]⟩) w'):D 188 [.slice (some ⟨b,0,none⟩) 3 3,.string ⟨#[32]⟩] w K:=by
 refine s188 rfl<|ac<|av<|ac<|aM<|ac<|Dh<|ai<|ac<|Dh<|ai<|ak<|ac<|aq<|Di<|aq<|Dt [0,1,4,5] [.slice (some ⟨b,0,none⟩) 3 3,vS #[32],vS #[],C5 0] fun g=>Db ⟨by decide,_,rfl,Dh (ak (au (Db (⟨2,by decide,⟨2,by decide,av (ac (pa 1 rfl (aM (fE 4 ?_))))⟩⟩))))⟩
 refine fh<|Dv [0,1,4,5,39,40,41] [.slice (some ⟨b,0,none⟩) 3 3,vS #[32],vS #[],C5 2,.slice (some ⟨b,0,none⟩) 3 3,C5 (↑3),C5 0] fun g=>ac<|Di<|av<|ai<|ak<|aG<|ac ⟨by decide,_,rfl,y.C9 (b:=b) rfl (aq (Db (Dh (ak (au (Dt [0,1,4,5,7,39,40,41,42,43,44,45,46,47,48,49] [.slice (some ⟨b,0,none⟩) 3 3,vS #[32],vS #[],C5 2,vS #[102,114,97,109,101],.slice (some ⟨b,0,none⟩) 3 3,C5 3,C5 0,.bool true,pt b,vS #[102,114,97,109,101],vS #[102,114,97,109,101],C5 5,C5 2,C5 (9223372036854775807 - 2),.bool false] fun g=>Dj (au (Db (ac (Di (av (ai (ak (aG (ac (⟨by decide,_,rfl,Dt [0,1,4,5,7,39,40,41,42,43,44,45,46,47,48,49,51,52,53,54,55] [.slice (some ⟨b,0,none⟩) 3 3,vS #[32],vS #[],C5 (IntKind.i64.wrap (2+ ↑5)),vS #[102,114,97,109,101],.slice (some ⟨b,0,none⟩) 3 3,C5 3,C5 (0+1),.bool true,.pointer (some ⟨b,1,none⟩),vS #[102,114,97,109,101],vS #[102,114,97,109,101],C5 5,C5 2,C5 (9223372036854775807 - 2),.bool false,C5 2,vS #[102,114,97,109,101],C5 5,C5 (IntKind.i64.wrap (2+ ↑5)),C5 (0+1)] fun g=>y.C9 (b:=b) rfl ?_⟩))))))))))))))))⟩
 refine aq<|Dj<|Dh<|ak<|au<|Dj<|au<|Dt [0,1,4,5,7,39,40,41,42,43,44,45,46,47,48,49,51,52,53,54,55] [.slice (some ⟨b,0,none⟩) 3 3,vS #[32],vS #[],C5 (IntKind.i64.wrap (IntKind.i64.wrap (2+5)+ ↑2)),vS #[105,110],.slice (some ⟨b,0,none⟩) 3 3,C5 3,C5 (0+1),.bool true,.pointer (some ⟨b,1,none⟩),vS #[105,110],vS #[105,110],C5 2,C5 (IntKind.i64.wrap (2+5)),C5 (IntKind.i64.wrap (9223372036854775807 - IntKind.i64.wrap (2+5))),.bool false,C5 (IntKind.i64.wrap (2+5)),vS #[105,110],C5 2,C5 (IntKind.i64.wrap (IntKind.i64.wrap (2+5)+ ↑2)),C5 (0+1)] fun g=>Db<|ac<|Di<|av<|ai<|ak<|aG<|ac ⟨by decide,_,rfl,y.C9 (b:=b) rfl (aq (Dj (Dh (ak (au (Dt [0,1,4,5,7,39,40,41,42,43,44,45,46,47,48,49,51,52,53,54,55] [.slice (some ⟨b,0,none⟩) 3 3,vS #[32],vS #[],C5 (IntKind.i64.wrap (IntKind.i64.wrap (2+5)+2)),vS #[48,48],.slice (some ⟨b,0,none⟩) 3 3,C5 3,C5 (0+1+1),.bool true,.pointer (some ⟨b,2,none⟩),vS #[48,48],vS #[48,48],C5 2,C5 (IntKind.i64.wrap (IntKind.i64.wrap (2+5)+2)),C5 (IntKind.i64.wrap (9223372036854775807 - IntKind.i64.wrap (IntKind.i64.wrap (2+5)+2))),.bool false,C5 (IntKind.i64.wrap (2+5)),vS #[105,110],C5 2,C5 (IntKind.i64.wrap (IntKind.i64.wrap (2+5)+2)),C5 (0+1+1)] fun g=>Dj (au (Db (ac (Dh (av ?_)))))))))))⟩
 refine ai<|aS<|ac<|y.an fun H _ y=>Dt [0,1,4,5,8] [.slice (some ⟨b,0,none⟩) 3 3,vS #[32],vS #[],C5 (IntKind.i64.wrap (IntKind.i64.wrap (IntKind.i64.wrap (2+5)+2)+ ↑2)),pt H] fun g=>ac ?_
 have y:=SH.o7 y H
 refine c241 (n:=11) (by decide) (by decide) y (fun J Y w_9 y=>ac (⟨by decide,_,rfl,y.C9 (b:=b) rfl (c37s [102,114,97,109,101] (by kernel_rfl) (by decide) (by decide) y (fun J Y w_9 y=>av (ac (⟨1,⟨rfl,by decide⟩,.slice (some ⟨b,1,none⟩) 2 2,by kernel_rfl,aM (Dv [1,4,8,63,64,65] [vS #[32],vS #[],pt H,.slice (some ⟨b,1,none⟩) 2 2,C5 (↑2),C5 0] fun g=>fE 3 (fh (ac (Di (av (ai (ak (aG (ac (⟨by decide,_,rfl,y.C9 (b:=b) rfl (ac (c37s [102,114,97,109,101,32] (by kernel_rfl) (by decide) (by decide) y (fun J Y w_9 y=>au (c37s [102,114,97,109,101,32,105,110] (by kernel_rfl) (by decide) (by decide) y (fun J Y w_9 y=>au (Db (ac (Dt [1,4,8,10,63,64,65,66,67,68,69,71,73] [vS #[32],vS #[],pt H,vS #[105,110],.slice (some ⟨b,1,none⟩) 2 2,C5 2,C5 (0+1),.bool true,.pointer (some ⟨b,1,none⟩),vS #[105,110],vS #[32],vS #[105,110],C5 (0+1)] fun g=>Di ?_))))))))⟩))))))))))⟩))))⟩))
 exact av<|ai<|ak<|aG<|ac ⟨by decide,_,rfl,y.C9 (b:=b) rfl (ac (c37s [102,114,97,109,101,32,105,110,32] (by kernel_rfl) (by decide) (by decide) y (fun J Y w_9 y=>au (c37s [102,114,97,109,101,32,105,110,32,48,48] (by kernel_rfl) (by decide) (by decide) y (fun J Y w_9 y=>au (Db (ac (Dt [1,4,8,10,63,64,65,66,67,68,69,71,73] [vS #[32],vS #[],pt H,vS #[48,48],.slice (some ⟨b,1,none⟩) 2 2,C5 2,C5 (0+1+1),.bool true,.pointer (some ⟨b,2,none⟩),vS #[48,48],vS #[32],vS #[48,48],C5 (0+1+1)] fun g=>Dh (av (ai (aS (ac (c41s ⟨#[102,114,97,109,101,32,105,110,32,48,48]⟩ (by kernel_rfl) (by simp) y (fun _ y=>ah (k _ y.ae)))))))))))))))⟩
theorem c188b (y:SH w0 w L) [q:aR L b 9 [.string ⟨#[116,105,99,107]⟩,.string ⟨#[51]⟩] R] (k: ∀ w',SH w0 w' L→K (.string ⟨#[116,105,99,107,32,51]⟩) w'):D 188 [.slice (some ⟨b,0,none⟩) 2 2,.string ⟨#[32]⟩] w K:=by
 refine s188 rfl<|ac<|av<|ac<|aM<|ac<|Dh<|ai<|ac<|Dh<|ai<|ak<|ac<|aq<|Di<|aq<|Dt [0,1,4,5] [.slice (some ⟨b,0,none⟩) 2 2,vS #[32],vS #[],C5 0] fun g=>Db ⟨by decide,_,rfl,Dh (ak (au (Db (⟨1,by decide,⟨1,by decide,av (ac (pa 1 rfl (aM (fE 3 ?_))))⟩⟩))))⟩
 refine fh<|Dv [0,1,4,5,39,40,41] [.slice (some ⟨b,0,none⟩) 2 2,vS #[32],vS #[],C5 1,.slice (some ⟨b,0,none⟩) 2 2,C5 (↑2),C5 0] fun g=>ac<|Di<|av<|ai<|ak<|aG<|ac ⟨by decide,_,rfl,y.C9 (b:=b) rfl (aq (Db (Dh (ak (au (Dt [0,1,4,5,7,39,40,41,42,43,44,45,46,47,48,49] [.slice (some ⟨b,0,none⟩) 2 2,vS #[32],vS #[],C5 1,vS #[116,105,99,107],.slice (some ⟨b,0,none⟩) 2 2,C5 2,C5 0,.bool true,pt b,vS #[116,105,99,107],vS #[116,105,99,107],C5 4,C5 1,C5 (9223372036854775807 - 1),.bool false] fun g=>Dj (au (Db (ac (Di (av (ai (ak (aG (ac (⟨by decide,_,rfl,Dt [0,1,4,5,7,39,40,41,42,43,44,45,46,47,48,49,51,52,53,54,55] [.slice (some ⟨b,0,none⟩) 2 2,vS #[32],vS #[],C5 (IntKind.i64.wrap (1+ ↑4)),vS #[116,105,99,107],.slice (some ⟨b,0,none⟩) 2 2,C5 2,C5 (0+1),.bool true,.pointer (some ⟨b,1,none⟩),vS #[116,105,99,107],vS #[116,105,99,107],C5 4,C5 1,C5 (9223372036854775807 - 1),.bool false,C5 1,vS #[116,105,99,107],C5 4,C5 (IntKind.i64.wrap (1+ ↑4)),C5 (0+1)] fun g=>y.C9 (b:=b) rfl ?_⟩))))))))))))))))⟩
 refine aq<|Dj<|Dh<|ak<|au<|Dj<|au<|Dt [0,1,4,5,7,39,40,41,42,43,44,45,46,47,48,49,51,52,53,54,55] [.slice (some ⟨b,0,none⟩) 2 2,vS #[32],vS #[],C5 (IntKind.i64.wrap (IntKind.i64.wrap (1+4)+ ↑1)),vS #[51],.slice (some ⟨b,0,none⟩) 2 2,C5 2,C5 (0+1),.bool true,.pointer (some ⟨b,1,none⟩),vS #[51],vS #[51],C5 1,C5 (IntKind.i64.wrap (1+4)),C5 (IntKind.i64.wrap (9223372036854775807 - IntKind.i64.wrap (1+4))),.bool false,C5 (IntKind.i64.wrap (1+4)),vS #[51],C5 1,C5 (IntKind.i64.wrap (IntKind.i64.wrap (1+4)+ ↑1)),C5 (0+1)] fun g=>Db<|ac<|Dh<|av<|ai<|aS<|ac<|y.an fun H _ y=>ac ?_
 have y:=SH.o7 y H
 refine c241 (n:=6) (by decide) (by decide) y (fun J Y w_9 y=>ac (⟨by decide,_,rfl,y.C9 (b:=b) rfl (Dt [0,1,4,8,60] [.slice (some ⟨b,0,none⟩) 2 2,vS #[32],vS #[],pt H,vS #[116,105,99,107]] fun g=>c37s [116,105,99,107] (by kernel_rfl) (by decide) (by decide) y (fun J Y w_9 y=>av (ac (⟨1,⟨rfl,by decide⟩,.slice (some ⟨b,1,none⟩) 1 1,by kernel_rfl,aM (fE 2 (fh (ac (Di (av (ai (ak (aG (ac (⟨by decide,_,rfl,y.C9 (b:=b) rfl (ac (Dt [1,4,8,10,63,64,65,66,67,68] [vS #[32],vS #[],pt H,vS #[51],.slice (some ⟨b,1,none⟩) 1 1,C5 (↑1),C5 0,.bool true,.pointer (some ⟨b,1,none⟩),vS #[51]] fun g=>c37s [116,105,99,107,32] (by kernel_rfl) (by decide) (by decide) y (fun J Y w_9 y=>au (c37s [116,105,99,107,32,51] (by kernel_rfl) (by decide) (by decide) y (fun J Y w_9 y=>au (Db (ac (Dh ?_))))))))⟩))))))))))⟩))))⟩))
 exact av<|ai<|aS<|ac<|c41s ⟨#[116,105,99,107,32,51]⟩ (by kernel_rfl) (by simp) y (fun _ y=>ah (k _ y.ae))
theorem c189a (y:SH w0 w L) [hb:aD L v [0]] (k: ∀ b H,SH w0 H (Cl b 9 [.string ⟨#[102,114,97,109,101]⟩,.string ⟨#[105,110]⟩,.string ⟨#[48,48]⟩]::L)→K (.slice (some ⟨b,0,none⟩) 3 3) H):D 189 [fD 0 0 v 0] w K:=by
 obtain ⟨ad,c,rfl,hcap,hB1,hl0⟩:=y.enter (v:=v)
 refine s189 rfl<|ac<|y.az [C5 0,C5 0,sl ad c [0],C4 0] fun q _ y=>ac<|y.C9 (b:=q) rfl<|c242z y (fun _ y=>av (ac (y.C9 (b:=q) rfl (aM (ac (Di (ai (aJ ?_))))))))
 have y:=y.drew
 refine y.C9 (b:=q) rfl<|Du [1,2,3,12] [pt q,sN,vS #[48],C5 0] fun g=>y.C9 (b:=q) rfl<|c81 rfl y (fun _ y=>⟨⟨y.ld (b:=q) rfl,⟨y.ld (b:=q) rfl,trivial⟩⟩,c82 (v:=sl ad c [0]) y (fun _ y=>⟨⟨y.ld (b:=q) rfl,⟨y.ld (b:=q) rfl,trivial⟩⟩,Du [1,2,3,13,16] [pt q,sN,vS #[48],vS #[105,110],vS #[48,48]] fun g=>⟨rfl,[vS #[102,114,97,109,101],vS #[105,110],vS #[48,48]],rfl,y.an fun _ _ y=>⟨⟨y.ld (b:=q) rfl,⟨y.ld (b:=q) rfl,trivial⟩⟩,ah (k _ _ y.ae)⟩⟩⟩)⟩)
theorem c189b (q:SH w0 w L) (k: ∀ b H,SH w0 H (Cl b 9 [.string ⟨#[116,105,99,107]⟩,.string ⟨#[51]⟩]::L)→K (.slice (some ⟨b,0,none⟩) 2 2) H):D 189 [fD 1 0 (sN) 3] w K:=by
 refine s189 rfl<|ac<|q.az [C5 1,C5 0,sN,C4 3] fun y _ q=>ac<|q.C9 (b:=y) rfl<|c242t q (fun _ q=>av (ac (q.C9 (b:=y) rfl (aM (ac (Dh (ai (ac (Dt [1,2,3,8] [pt y,sN,vS #[51],C5 1] fun _=>Di (ai (ac (⟨rfl,[vS #[116,105,99,107],vS #[51]],rfl,q.an fun _ _ q=>ah (k _ _ q.ae)⟩))))))))))))
theorem c138a (q:SH w0 w L) [hb:aD L v [0]] (k: ∀ Y,SH w0 Y L→K (.tuple #[.string ⟨#[102,114,97,109,101,32,105,110,32,48,48]⟩,.bool true]) Y):D 138 [fD 0 0 v 0] w K:=by
 obtain ⟨ad,c,rfl,hcap,hB1,hl0⟩:=q.enter (v:=v)
 refine s138 rfl<|ac<|q.az [C5 0,C5 0,sl ad c [0],C4 0] fun y _ q=>aq<|q.Da (b:=y) rfl<|c24 q (by decide) (fun H J q=>?_) (fun H J q=>?_)
 ·refine Dj<|ak<|ac<|q.Da (b:=y) rfl<|c189a q (fun _ _ q=>c188a q (fun _ q=>Dt [2,3,9] [vS #[],.bool false,vS #[102,114,97,109,101,32,105,110,32,48,48]] fun _=>ah (k _ q.ae)))
 ·exact Dj<|ac<|ah<|absurd (.inl ⟨rfl,.inl rfl,rfl⟩) H
theorem c138b (q:SH w0 w L) (k: ∀ H,SH w0 H L→K (.tuple #[.string ⟨#[116,105,99,107,32,51]⟩,.bool true]) H):D 138 [fD 1 0 (sN) 3] w K:=by
 refine s138 rfl<|ac<|q.az [C5 1,C5 0,sN,C4 3] fun y _ q=>aq<|q.Da (b:=y) rfl ?_
 have q:=SH.cH q
 refine c24 (v:=sN) (bs:=[]) q (by decide) (fun J Y q=>Dj (ak (ac (q.Da (b:=y) rfl (c189b q (fun _ _ q=>c188b q (fun _ q=>Dt [2,3,9] [vS #[],.bool false,vS #[116,105,99,107,32,51]] fun _=>ah (k _ q.ae)))))))) (fun J Y q=>absurd (.inr (.inl ⟨rfl,rfl,rfl,by decide,by decide⟩)) J)
end
end
section
section
variable {w0 w:World} {L R R2:List ao} {K:Value→World→Prop} {b:Nat} {v:Value}
attribute [local irreducible] ay aQ aH aY a6 aW aK aV num be over nb rowOf bD ct ts
theorem c299 {s:ByteArray} {x:Nat} {n:Int} (y: ∀ w,(Extern.BytealgIndexByte.indexByte #[.string s,C1 x]).run Tryz.prog w= .ok (C5 n) w) (H:SH w0 w L) (k: ∀ q,SH w0 q L→K (C5 n) q):D 299 [.string s,C1 x] w K:=by
 refine s299 rfl<|ac<|ac<|aZ (wq 345 (e:=Extern.BytealgIndexByte.indexByte) (v1:= .string s) (v2:=C1 x) rfl rfl rfl rfl Tryz.func345 (by kernel_rfl) (by kernel_rfl) (by kernel_rfl) (by kernel_rfl) (y w) (ah (k _ H.ae)))
theorem c237 {s:ByteArray} {x:UInt8} {n:Int} (J:(⟨#[x]⟩:ByteArray)≠s) (hn: ∀ w,(Extern.BytealgIndexByte.indexByte #[.string s,C1 x.toNat]).run Tryz.prog w= .ok (C5 n) w) (y:SH w0 w L) (k: ∀ H,SH w0 H L→K (C5 n) H):D 237 [.string s,.string ⟨#[x]⟩] w K:=by
 refine s237 rfl<|ac<|ac<|aG<|ac<|ap (fun q=>?_) (fun q=>?_)
 ·exact pa 6 rfl<|ai<|ac<|ah<|absurd q (show ¬ ((1:Nat):Int)=0 by decide)
 ·refine ⟨_,gE (neg:=false) rfl rfl rfl J,pa 2 rfl (ai (ac (De rfl (ai (ac (⟨_,kr (j:=0) (b:=x) rfl Tryz.underlying9 rfl rfl (by rfl),c299 ‹_› y (fun _ y=>ah (k _ y.ae))⟩))))))⟩
theorem c183 {s:ByteArray} {x:UInt8} {n:Int} (H:(⟨#[x]⟩:ByteArray)≠s) (J: ∀ w,(Extern.BytealgIndexByte.indexByte #[.string s,C1 x.toNat]).run Tryz.prog w= .ok (C5 n) w) (q:SH w0 w L) (k: ∀ y,SH w0 y L→K (C5 n) y):D 183 [.string s,.string ⟨#[x]⟩] w K:=by
 refine s183 rfl<|ac<|ac<|c237 H J q (fun _ q=>ah (k _ q.ae))
theorem c240 {s:ByteArray} {n:Int} (y: ∀ w,(Extern.BytealgCount.count #[.string s,C1 32]).run Tryz.prog w= .ok (C5 n) w) (H:SH w0 w L) (k: ∀ q,SH w0 q L→K (C5 n) q):D 240 [.string s,.string ⟨#[32]⟩] w K:=by
 refine s240 rfl<|ac<|aq<|Dh<|ak<|aq<|Di<|ac ⟨_,kr (j:=0) (b:=32) rfl Tryz.underlying9 rfl rfl (by kernel_rfl),aZ (wq 306 (e:=Extern.BytealgCount.count) (v1:= .string s) (v2:=C1 32) rfl rfl rfl rfl Tryz.func306 (by kernel_rfl) (by kernel_rfl) (by kernel_rfl) (by kernel_rfl) (y w) (Dt [0,1,4,19] [Value.string s,vS #[32],C5 0,C5 n] fun _=>ah (k _ H.ae)))⟩
theorem BZ (w:World):(Extern.BytealgIndexByte.indexByte #[.string ⟨#[102,114,97,109,101,32,105,110,32,48,48]⟩,C1 (32:UInt8).toNat]).run Tryz.prog w= .ok (C5 5) w:=by kernel_rfl
theorem B0 (w:World):(Extern.BytealgIndexByte.indexByte #[.string ⟨#[105,110,32,48,48]⟩,C1 (32:UInt8).toNat]).run Tryz.prog w= .ok (C5 2) w:=by kernel_rfl
theorem B3 (w:World):(Extern.BytealgIndexByte.indexByte #[.string ⟨#[116,105,99,107,32,51]⟩,C1 (32:UInt8).toNat]).run Tryz.prog w= .ok (C5 4) w:=by kernel_rfl
theorem B4 (w:World):(Extern.BytealgCount.count #[.string ⟨#[102,114,97,109,101,32,105,110,32,48,48]⟩,C1 32]).run Tryz.prog w= .ok (C5 2) w:=by kernel_rfl
theorem B5 (w:World):(Extern.BytealgCount.count #[.string ⟨#[116,105,99,107,32,51]⟩,C1 32]).run Tryz.prog w= .ok (C5 1) w:=by kernel_rfl
theorem c238a (q:SH w0 w L) (k: ∀ y,SH w0 y L→K (.tuple #[C4 0,.nilIface]) y):D 238 [.string ⟨#[48,48]⟩,C5 16,C5 8] w K:=by
 refine s238 rfl<|ac<|ac<|c303a q (fun _ q=>aq (Dt [0,1,2,6,7,8,9] [vS #[48,48],C5 16,C5 8,C4 0,.nilIface,C4 0,.nilIface] fun _=>⟨_,bg (neg:=true) rfl,ak (ac (ah (k _ q.ae)))⟩))
theorem c238b (q:SH w0 w L) (k: ∀ y,SH w0 y L→K (.tuple #[C4 3,.nilIface]) y):D 238 [.string ⟨#[51]⟩,C5 10,C5 64] w K:=by
 refine s238 rfl<|ac<|ac<|c303b q (fun _ q=>aq (Dt [0,1,2,6,7,8,9] [vS #[51],C5 10,C5 64,C4 0,.nilIface,C4 3,.nilIface] fun _=>⟨_,bg (neg:=true) rfl,ak (ac (ah (k _ q.ae)))⟩))
theorem c186 (q:SH w0 w L) (k: ∀ y,SH w0 y L→K (C4 3) y):D 186 [.string ⟨#[51]⟩] w K:=by
 refine s186 rfl<|ac<|ac<|c238b q (fun _ q=>ac (ah (k _ q.ae)))
end
end
section
section
variable {w0 w:World} {L R R2:List ao} {K:Value→World→Prop} {b:Nat} {v:Value}
attribute [local irreducible] ay aQ aH aY a6 aW aK aV num be over nb rowOf bD ct ts
theorem c185 (q:SH w0 w L) (k: ∀ a c H,SH w0 H (By (sl a c [0]) [0]::L)→K (sl a c [0]) H):D 185 [.string ⟨#[48,48]⟩] w K:=by
 refine s185 rfl<|ac<|aq ⟨_,gE (neg:=false) rfl rfl rfl (by decide),ak (ac (aG (fE 2 (fh (aq (Di (ak (aG (ac (⟨_,hZ (l:=0) (h:=2) (m:=2) (r:=⟨#[48,48]⟩) rfl rfl (by kernel_rfl) (by kernel_rfl),Dt [0,2,3,8,9,10,14,15] [vS #[48,48],sN,sN,vS #[48,48],C5 2,.bool true,vS #[48,48],vS #[48,48]] fun g=>c238a q (fun _ q=>au (⟨_,IntWalk.u8_in _ (by omega),Dt [0,2,3,4,8,9,10,13,14,15,16,17,18,19,20,21] [vS #[48,48],sN,sN,C4 0,vS #[48,48],C5 2,.bool true,.tuple #[C4 0,.nilIface],vS #[48,48],vS #[48,48],.tuple #[C4 0,.nilIface],C4 0,.nilIface,sN,C4 0,C1 0] fun g=>⟨rfl,[C1 0],rfl,q.an fun y _ q=>aZ (dL (n:=0) (m:=1) (t:=44) (v:=sN) rfl rfl rfl q (q.fa (g:=y) (cs:=[C1 0]) rfl) rfl (by decide) (fun a c H q=>?_))⟩⟩))⟩))))))))))⟩
 have q:SH w0 H (Nb 5 (sl a c [0]) [0]::Cl y 5 [C1 0]::L):=SH.fX (bs:=[0]) ⟨by simp,by simp⟩ q
 refine au ⟨_,hZ (l:=2) (h:=2) (m:=2) (r:=⟨#[]⟩) rfl rfl (by kernel_rfl) (by kernel_rfl),fh (aq (Dh (aS (ac (Dt [2,3] [sN,.slice a 1 c] fun g=>ah (k _ _ _ q.ae))))))⟩
theorem c187a (y:SH w0 w L) (k: ∀ g H,SH w0 H (Cl g 9 [.string ⟨#[102,114,97,109,101]⟩,.string ⟨#[105,110]⟩,.string ⟨#[48,48]⟩]::L)→K (.slice (some ⟨g,0,none⟩) 3 3) H):D 187 [.string ⟨#[102,114,97,109,101,32,105,110,32,48,48]⟩,.string ⟨#[32]⟩,C5 0,C5 (-1)] w K:=by
 refine s187 rfl<|ac<|aq<|Dh<|ak<|aq ⟨_,gE (neg:=false) rfl rfl rfl (by decide),ak (aq (Di (au (c240 B4 y (fun H y=>Dt [0,1,2,3,8,23] [vS #[102,114,97,109,101,32,105,110,32,48,48],vS #[32],C5 0,C5 (-1),sN,C5 2] fun g=>Db (ac (Dj (⟨_,cq,ac (⟨3,3,⟨rfl,rfl,by decide,by decide,by decide⟩,y.an fun q J y=>?_⟩)⟩))))))))⟩
 have y:SH w0 J (Cl q 9 [Value.string ⟨#[]⟩,Value.string ⟨#[]⟩,Value.string ⟨#[]⟩]::L):=y
 refine ac<|Dt [0,1,2,3,8,9] [vS #[102,114,97,109,101,32,105,110,32,48,48],vS #[32],C5 0,C5 3,sN,.slice (some ⟨q,0,none⟩) 3 3] fun g=>Db<|ac<|aG<|fE 3<|fh<|aq<|Di<|ak<|aM<|ac<|c183 (by decide) BZ y (fun _ y=>Dt [0,1,2,3,8,9,10,34,35,36,37,38,39] [vS #[102,114,97,109,101,32,105,110,32,48,48],vS #[32],C5 0,C5 (3 - 1),sN,.slice (some ⟨q,0,none⟩) 3 3,C5 0,C5 0,C5 (3 - 1),.bool true,vS #[102,114,97,109,101,32,105,110,32,48,48],vS #[32],C5 5] fun g=>aq (Dh (ak (ac (Db (⟨_,hZ (l:=0) (h:=5) (m:=11) (r:=⟨#[102,114,97,109,101]⟩) rfl rfl (by kernel_rfl) (by kernel_rfl),Dt [0,1,2,3,8,9,10,11,34,35,36,37,38,39,40,41,42,43,44,45,46,47,48] [vS #[102,114,97,109,101,32,105,110,32,48,48],vS #[32],C5 0,C5 (3 - 1),sN,.slice (some ⟨q,0,none⟩) 3 3,C5 0,C5 5,C5 0,C5 (3 - 1),.bool true,vS #[102,114,97,109,101,32,105,110,32,48,48],vS #[32],C5 5,C5 5,.bool false,.slice (some ⟨q,0,none⟩) 3 3,C5 0,vS #[102,114,97,109,101,32,105,110,32,48,48],C5 5,C5 0,C5 (5+0),vS #[102,114,97,109,101]] fun g=>⟨by decide,_,rfl,y.aN (b:=q) [vS #[102,114,97,109,101]] [vS #[102,114,97,109,101],vS #[],vS #[]] fun _ y=>ac (Dj (⟨_,hZ (l:=6) (h:=11) (m:=11) (r:=⟨#[105,110,32,48,48]⟩) rfl rfl (by kernel_rfl) (by kernel_rfl),au (Dt [0,1,2,3,8,9,10,11,34,35,36,37,38,39,40,41,42,43,44,45,46,47,48,49,50,51,52,53,54,55] [vS #[105,110,32,48,48],vS #[32],C5 0,C5 (3 - 1),sN,.slice (some ⟨q,0,none⟩) 3 3,C5 0,C5 5,C5 0,C5 (3 - 1),.bool true,vS #[102,114,97,109,101,32,105,110,32,48,48],vS #[32],C5 5,C5 5,.bool false,.slice (some ⟨q,0,none⟩) 3 3,C5 0,vS #[102,114,97,109,101,32,105,110,32,48,48],C5 5,C5 0,C5 (5+0),vS #[102,114,97,109,101],pt q,vS #[102,114,97,109,101,32,105,110,32,48,48],C5 5,vS #[32],C5 1,C5 (IntKind.i64.wrap (5+ ↑1)),vS #[105,110,32,48,48]] fun g=>Db (aq ?_))⟩))⟩⟩))))))
 refine Di<|ak<|aM<|ac<|c183 (by decide) B0 y (fun _ y=>Dt [0,1,2,3,8,9,10,11,34,35,36,37,38,39,40,41,42,43,44,45,46,47,48,49,50,51,52,53,54,55,56,57] [vS #[105,110,32,48,48],vS #[32],C5 0,C5 (3 - 1),sN,.slice (some ⟨q,0,none⟩) 3 3,C5 (0+1),C5 5,C5 (0+1),C5 (3 - 1),.bool true,vS #[105,110,32,48,48],vS #[32],C5 2,C5 5,.bool false,.slice (some ⟨q,0,none⟩) 3 3,C5 0,vS #[102,114,97,109,101,32,105,110,32,48,48],C5 5,C5 0,C5 (5+0),vS #[102,114,97,109,101],pt q,vS #[102,114,97,109,101,32,105,110,32,48,48],C5 5,vS #[32],C5 1,C5 (IntKind.i64.wrap (5+1)),vS #[105,110,32,48,48],C5 0,C5 (0+1)] fun g=>aq (Dh (ak (ac (Db (⟨_,hZ (l:=0) (h:=2) (m:=5) (r:=⟨#[105,110]⟩) rfl rfl (by kernel_rfl) (by kernel_rfl),Dt [0,1,2,3,8,9,10,11,34,35,36,37,38,39,40,41,42,43,44,45,46,47,48,49,50,51,52,53,54,55,56,57] [vS #[105,110,32,48,48],vS #[32],C5 0,C5 (3 - 1),sN,.slice (some ⟨q,0,none⟩) 3 3,C5 (0+1),C5 2,C5 (0+1),C5 (3 - 1),.bool true,vS #[105,110,32,48,48],vS #[32],C5 2,C5 2,.bool false,.slice (some ⟨q,0,none⟩) 3 3,C5 (0+1),vS #[105,110,32,48,48],C5 2,C5 0,C5 (2+0),vS #[105,110],pt q,vS #[102,114,97,109,101,32,105,110,32,48,48],C5 5,vS #[32],C5 1,C5 (IntKind.i64.wrap (5+1)),vS #[105,110,32,48,48],C5 0,C5 (0+1)] fun g=>⟨by decide,_,rfl,y.aN (b:=q) [vS #[105,110]] [vS #[102,114,97,109,101],vS #[105,110],vS #[]] fun _ y=>ac (Dj (⟨_,hZ (l:=3) (h:=5) (m:=5) (r:=⟨#[48,48]⟩) rfl rfl (by kernel_rfl) (by kernel_rfl),au (Dt [0,1,2,3,8,9,10,11,34,35,36,37,38,39,40,41,42,43,44,45,46,47,48,49,50,51,52,53,54,55,56,57] [vS #[48,48],vS #[32],C5 0,C5 (3 - 1),sN,.slice (some ⟨q,0,none⟩) 3 3,C5 (0+1),C5 2,C5 (0+1),C5 (3 - 1),.bool true,vS #[105,110,32,48,48],vS #[32],C5 2,C5 2,.bool false,.slice (some ⟨q,0,none⟩) 3 3,C5 (0+1),vS #[105,110,32,48,48],C5 2,C5 0,C5 (2+0),vS #[105,110],.pointer (some ⟨q,1,none⟩),vS #[105,110,32,48,48],C5 2,vS #[32],C5 1,C5 (IntKind.i64.wrap (2+ ↑1)),vS #[48,48],C5 0,C5 (0+1)] fun g=>Db (aq (Dh (aS (ac (⟨by decide,_,rfl,Dt [8,9,10,60,61] [sN,.slice (some ⟨q,0,none⟩) 3 3,C5 (0+1+1),vS #[48,48],.pointer (some ⟨q,2,none⟩)] fun g=>y.aN (b:=q) [vS #[48,48]] [vS #[102,114,97,109,101],vS #[105,110],vS #[48,48]] fun _ y=>ac (Db ?_)⟩))))))⟩))⟩⟩))))))
 refine ⟨3,⟨rfl,by decide⟩,.slice (some ⟨q,0,none⟩) 3 3,by simp [add_plain],ah (k _ _ y.ae)⟩
theorem c187b (q:SH w0 w L) (k: ∀ g H,SH w0 H (Cl g 9 [.string ⟨#[116,105,99,107]⟩,.string ⟨#[51]⟩]::L)→K (.slice (some ⟨g,0,none⟩) 2 2) H):D 187 [.string ⟨#[116,105,99,107,32,51]⟩,.string ⟨#[32]⟩,C5 0,C5 (-1)] w K:=by
 refine s187 rfl<|ac<|aq<|Dh<|ak<|aq ⟨_,gE (neg:=false) rfl rfl rfl (by decide),ak (aq (Di (au (c240 B5 q (fun H q=>Dt [0,1,2,3,8,23] [vS #[116,105,99,107,32,51],vS #[32],C5 0,C5 (-1),sN,C5 1] fun g=>Db (ac (Dj (⟨_,cq,ac (⟨2,2,⟨rfl,rfl,by decide,by decide,by decide⟩,q.an fun y J q=>?_⟩)⟩))))))))⟩
 have q:SH w0 J (Cl y 9 [Value.string ⟨#[]⟩,Value.string ⟨#[]⟩]::L):=q
 refine ac<|Dt [0,1,2,3,8,9] [vS #[116,105,99,107,32,51],vS #[32],C5 0,C5 2,sN,.slice (some ⟨y,0,none⟩) 2 2] fun g=>Db<|ac<|aG<|fE 2<|fh<|aq<|Di<|ak<|aM<|ac<|c183 (by decide) B3 q (fun _ q=>Dt [0,1,2,3,8,9,10,34,35,36,37,38,39] [vS #[116,105,99,107,32,51],vS #[32],C5 0,C5 (2 - 1),sN,.slice (some ⟨y,0,none⟩) 2 2,C5 0,C5 0,C5 (2 - 1),.bool true,vS #[116,105,99,107,32,51],vS #[32],C5 4] fun g=>aq (Dh (ak (ac (Db (⟨_,hZ (l:=0) (h:=4) (m:=6) (r:=⟨#[116,105,99,107]⟩) rfl rfl (by kernel_rfl) (by kernel_rfl),Dt [0,1,2,3,8,9,10,11,34,35,36,37,38,39,40,41,42,43,44,45,46,47,48] [vS #[116,105,99,107,32,51],vS #[32],C5 0,C5 (2 - 1),sN,.slice (some ⟨y,0,none⟩) 2 2,C5 0,C5 4,C5 0,C5 (2 - 1),.bool true,vS #[116,105,99,107,32,51],vS #[32],C5 4,C5 4,.bool false,.slice (some ⟨y,0,none⟩) 2 2,C5 0,vS #[116,105,99,107,32,51],C5 4,C5 0,C5 (4+0),vS #[116,105,99,107]] fun g=>⟨by decide,_,rfl,q.aN (b:=y) [vS #[116,105,99,107]] [vS #[116,105,99,107],vS #[]] fun _ q=>ac (Dj (⟨_,hZ (l:=5) (h:=6) (m:=6) (r:=⟨#[51]⟩) rfl rfl (by kernel_rfl) (by kernel_rfl),au (Dt [0,1,2,3,8,9,10,11,34,35,36,37,38,39,40,41,42,43,44,45,46,47,48,49,50,51,52,53,54,55] [vS #[51],vS #[32],C5 0,C5 (2 - 1),sN,.slice (some ⟨y,0,none⟩) 2 2,C5 0,C5 4,C5 0,C5 (2 - 1),.bool true,vS #[116,105,99,107,32,51],vS #[32],C5 4,C5 4,.bool false,.slice (some ⟨y,0,none⟩) 2 2,C5 0,vS #[116,105,99,107,32,51],C5 4,C5 0,C5 (4+0),vS #[116,105,99,107],pt y,vS #[116,105,99,107,32,51],C5 4,vS #[32],C5 1,C5 (IntKind.i64.wrap (4+ ↑1)),vS #[51]] fun g=>Db (aq ?_))⟩))⟩⟩))))))
 refine Dh<|aS<|ac ⟨by decide,_,rfl,Dt [8,9,10,60,61] [sN,.slice (some ⟨y,0,none⟩) 2 2,C5 (0+1),vS #[51],.pointer (some ⟨y,1,none⟩)] fun g=>q.aN (b:=y) [vS #[51]] [vS #[116,105,99,107],vS #[51]] fun _ q=>ac (Db (⟨2,⟨rfl,by decide⟩,.slice (some ⟨y,0,none⟩) 2 2,by simp [add_plain],ah (k _ _ q.ae)⟩))⟩
theorem c137a (q:SH w0 w L) (k: ∀ g y,SH w0 y (Cl g 9 [.string ⟨#[102,114,97,109,101]⟩,.string ⟨#[105,110]⟩,.string ⟨#[48,48]⟩]::L)→K (.slice (some ⟨g,0,none⟩) 3 3) y):D 137 [.string ⟨#[102,114,97,109,101,32,105,110,32,48,48]⟩,.string ⟨#[32]⟩] w K:=by
 refine s137 rfl<|ac<|ac<|c187a q (fun _ _ q=>ah (k _ _ q.ae))
theorem c137b (q:SH w0 w L) (k: ∀ g y,SH w0 y (Cl g 9 [.string ⟨#[116,105,99,107]⟩,.string ⟨#[51]⟩]::L)→K (.slice (some ⟨g,0,none⟩) 2 2) y):D 137 [.string ⟨#[116,105,99,107,32,51]⟩,.string ⟨#[32]⟩] w K:=by
 refine s137 rfl<|ac<|ac<|c187b q (fun _ _ q=>ah (k _ _ q.ae))
theorem c136a (y:SH w0 w L) [q:aR L b 9 [.string ⟨#[102,114,97,109,101]⟩,.string ⟨#[105,110]⟩,.string ⟨#[48,48]⟩] R] (k: ∀ a c w',SH w0 w' (By (sl a c [0]) [0]::L)→K (.tuple #[fD 0 0 (sl a c [0]) 0,.bool true]) w'):D 136 [.slice (some ⟨b,0,none⟩) 3 3] w K:=by
 refine s136 rfl<|ac<|y.an fun H _ y=>aG<|ac ⟨by decide,_,rfl,y.C9 (b:=b) rfl (⟨_,jZ (neg:=false) rfl rfl rfl rfl,Di (pa 2 rfl (Dt [0,2,3,4,28,43] [.slice (some ⟨b,0,none⟩) 3 3,pt H,.bool false,.bool true,undef,undef] fun g=>ai (aJ ?_)))⟩)⟩
 have y:=y.drew
 refine ⟨by decide,_,rfl,y.C9 (b:=b) rfl (⟨by decide,_,rfl,y.C9 (b:=b) rfl (c184 y (fun _ y=>⟨⟨y.ld (b:=b) rfl,⟨y.ld (b:=b) rfl,trivial⟩⟩,c185 y (fun J Y _ y=>⟨⟨y.ld (b:=b) rfl,⟨y.ld (b:=b) rfl,trivial⟩⟩,Du [2,3,17,21] [pt H,.bool false,C5 0,sl J Y [0]] fun g=>⟨rfl,[C5 0,C5 0,sl J Y [0],C4 0],rfl,y.aj (b:=H) fun _ y=>⟨⟨y.ld (b:=b) rfl,⟨y.ld (b:=b) rfl,trivial⟩⟩,ah (y.Da (b:=H) rfl (k _ _ _ y.ae))⟩⟩⟩)⟩))⟩)⟩
theorem c136b (y:SH w0 w L) [q:aR L b 9 [.string ⟨#[116,105,99,107]⟩,.string ⟨#[51]⟩] R] (k: ∀ J,SH w0 J L→K (.tuple #[fD 1 0 (sN) 3,.bool true]) J):D 136 [.slice (some ⟨b,0,none⟩) 2 2] w K:=by
 refine s136 rfl<|ac<|y.an fun H _ y=>aG<|ac ⟨by decide,_,rfl,y.C9 (b:=b) rfl (⟨_,gE (neg:=false) rfl rfl rfl (by decide),pa 6 rfl (Dt [0,2,3,4,28,43] [.slice (some ⟨b,0,none⟩) 2 2,pt H,.bool false,.bool false,undef,undef] fun g=>ai (ac (⟨by decide,_,rfl,y.C9 (b:=b) rfl (⟨_,jZ (neg:=false) rfl rfl rfl rfl,Di (pa 2 rfl (Dt [0,2,3,23,43] [.slice (some ⟨b,0,none⟩) 2 2,pt H,.bool false,.bool true,undef] fun g=>ai (ac (⟨by decide,_,rfl,y.C9 (b:=b) rfl (c186 y (fun _ y=>Dt [2,3,36] [pt H,.bool false,C4 3] fun g=>⟨rfl,[C5 1,C5 0,sN,C4 3],rfl,y.aj (b:=H) fun _ y=>ah (y.Da (b:=H) rfl (k _ y.ae))⟩))⟩))))⟩)⟩)))⟩)⟩
theorem c80a (q:SH w0 w L) (k: ∀ a c w',SH w0 w' (By (sl a c [0]) [0]::L)→K (.tuple #[fD 0 0 (sl a c [0]) 0,.bool true]) w'):D 80 [.string ⟨#[102,114,97,109,101,32,105,110,32,48,48]⟩] w K:=by
 refine s80 rfl<|ac<|q.an fun H _ q=>ac<|c137a q (fun _ _ q=>c136a q (fun J Y _ q=>q.an fun y _ q=>Dt [0,2,3,4,12,13,21,25] [vS #[102,114,97,109,101,32,105,110,32,48,48],pt H,.bool false,pt y,.agg #[C5 0,C5 0,sl J Y [0],C4 (↑0)],.bool true,undef,undef] fun g=>q.aj (b:=y) fun _ q=>av (ac (q.Da (b:=y) rfl (c138a q (fun _ q=>ac (Dt [0,2,3,4,5,6,7,21,25] [vS #[102,114,97,109,101,32,105,110,32,48,48],pt H,.bool false,pt y,.bool true,vS #[102,114,97,109,101,32,105,110,32,48,48],.bool true,undef,undef] fun g=>Dj (Dj (pa 4 rfl (Dt [2,3,4,25,26,27] [pt H,.bool false,pt y,.bool !true,vS #[102,114,97,109,101,32,105,110,32,48,48],vS #[102,114,97,109,101,32,105,110,32,48,48]] fun g=>⟨_,jZ (neg:=true) rfl rfl rfl rfl,ai (ak (ac (q.Da (b:=y) rfl (q.aj (b:=H) fun _ q=>ah (q.Da (b:=H) rfl (k _ _ _ q.ae))))))⟩))))))))))
theorem c80b (q:SH w0 w L) (k: ∀ J,SH w0 J L→K (.tuple #[fD 1 0 (sN) 3,.bool true]) J):D 80 [.string ⟨#[116,105,99,107,32,51]⟩] w K:=by
 refine s80 rfl<|ac<|q.an fun H _ q=>ac<|c137b q (fun _ _ q=>c136b q (fun _ q=>q.an fun y _ q=>Dt [0,2,3,4,12,13,21,25] [vS #[116,105,99,107,32,51],pt H,.bool false,pt y,.agg #[C5 1,C5 0,sN,C4 (↑3)],.bool true,undef,undef] fun g=>q.aj (b:=y) fun _ q=>av (ac (q.Da (b:=y) rfl (c138b q (fun _ q=>ac (Dt [0,2,3,4,5,6,7,21,25] [vS #[116,105,99,107,32,51],pt H,.bool false,pt y,.bool true,vS #[116,105,99,107,32,51],.bool true,undef,undef] fun g=>Dj (Dj (pa 4 rfl (Dt [2,3,4,25,26,27] [pt H,.bool false,pt y,.bool !true,vS #[116,105,99,107,32,51],vS #[116,105,99,107,32,51]] fun g=>⟨_,jZ (neg:=true) rfl rfl rfl rfl,ai (ak (ac (q.Da (b:=y) rfl (q.aj (b:=H) fun _ q=>ah (q.Da (b:=H) rfl (k _ q.ae))))))⟩))))))))))
end
end
end Go.Proofs.YtlhpilgmeededaaGreatDoor
namespace Go.Den
open Go
section
variable {P:Program} {n:Nat}
def gF (P:Program) (n:Nat):Code→Option bS
 | .skip=>some .skip
 | .region _ ops false=>(il P n ops ops.toList).map .ops
 | .region _ _ true=>some .bad
 | .seq x y=>match gF P n x,gF P n y with
  | some x,some y=>some (.seq x y)
  | _,_=>none
 | .cond c x y=>match gF P n x,gF P n y with
  | some x,some y=>some (.cond c x y)
  | _,_=>none
 | .block id c=>(gF P n c).map (.block id)
 | .exit id=>some (.exit id)
 | .ret=>some .ret
 | _=>none
abbrev FW (ro:Option Nat):Fence:= { Fence.wide with round:=ro }
structure gm (n:Nat) (ds:List Deferred) (a:Act) (f:Fr):Prop where
 rel:Rel n { tmps:=a.tmps,defers:=[] } f
 defs:a.defers=ds
theorem gm.jr {n:Nat} {ds:List Deferred} {a:Act} {f:Fr} (h:gm n ds a f):a.eval=ev f:=h.rel.jr
theorem gm.put {n:Nat} {ds:List Deferred} {a:Act} {f:Fr} (h:gm n ds a f) {d:Option Nat} (q: ∀ x,d=some x→x<n) (v:Value):gm n ds (a.put d v) (Den.put f d v):=by
 have:=h.rel.put q v
 cases d with
 | none=>exact h
 | some d=>exact ⟨this,h.defs⟩
theorem Rel.B6 {n:Nat} {a:Act} {f:Fr} (h:Rel n a f):gm n [] a f:=⟨⟨h.size,h.val,rfl⟩,h.defers⟩
theorem gm.plain {n:Nat} {a:Act} {f:Fr} (h:gm n [] a f):Rel n a f:=⟨h.rel.size,h.rel.val,h.defs⟩
theorem bc.wpIn {o:Oper} {a:Act} {f:Fr} {w:World} {K:Value→World→Prop} {next:Act→World→Prop} {Q:Exit→Act→World→Prop} {l:Option Nat} {k:Nat} (he:a.eval=ev f)
  (y: ∀ v q,K v q→next (a.put o.dst v) q) (h:aL P o f w K):o.wpIn (FW l) k P a w next Q:=by
 refine ⟨fun _ _=>trivial,?_⟩
 unfold aL at h
 rw [he]
 have J: ∀ c,o.op≠ .defer c:=fun c e=>by
  unfold execOp at h
  simp only [e,Sem.run_bind] at h
  cases H:(resolve (ev f) c o.type).run P w with
  | halt x w=>simp [H,bc] at h
  | ok x w=>simp [H,bc] at h
 rw [show o.semAt (FW l).round (ev f)=execOp (ev f) o from by cases l with | none=>rfl | some l=>exact Oper.semAt_some l _ _ J]
 generalize (execOp (ev f) o).run P w=r at h
 cases r with
 | halt x w=>exact h.elim
 | ok x w=>
  cases x<;>simp only [bc] at h<;>simp only [Oper.uponIn]<;>first | exact y _ _ h | exact h.elim | skip
  refine ⟨fun e=>(by cases e),(callsIn_wide (n:=k - 1)).2 (Calls.mono (by simpa [aQ] using h) ?_)⟩
  rintro e q ⟨v,rfl,Y⟩
  exact y _ _ Y
theorem B7 {ops:Array Oper} {o:Oper} {m:cd} (hm:ik P n ops o=some m) {ds:List Deferred} {a:Act} {f:Fr} (J:gm n ds a f) {w:World} {l:Option Nat} {k:Nat}
  {KA:Value→World→Prop} {KB:Prop} {next:Act→World→Prop} {Q:Exit→Act→World→Prop}
  (hA: ∀ v Y,KA v Y→next (a.put o.dst v) Y) (hB:KB→next (a.put o.dst undef) w)
  (h:match m.guard with
   | none=>aI P f w KA m.op
   | some (t,want)=>gn (f t) want (aI P f w KA m.op) KB):
  if Region.wanted o (yielded ops a.tmps) then o.wpIn (FW l) k P a w next Q else (∀ f,o.about P w a.eval=some f→(FW l).fn f)∧next (a.put o.dst undef) w:=by
 obtain ⟨hd,H,hg,hlt⟩:=iM hm
 rw [jv J.rel hg]
 have key:aI P f w KA m.op→o.wpIn (FW l) k P a w next Q:=fun h=>by
  rw [H] at h
  exact bc.wpIn J.jr hA (kW o h)
 cases q:m.guard with
 | none=>
  simp only [q] at h
  simp only [fj,if_true]
  exact key h
 | some tw=>
  obtain ⟨t,want⟩:=tw
  simp only [q] at h
  rw [kT] at h
  by_cases y:fj f (some (t,want))=true
  ·rw [if_pos y];rw [if_pos (show (yieldOf (f t)==some want)=true from y)] at h;exact key h
  ·rw [if_neg y];rw [if_neg (show ¬ (yieldOf (f t)==some want)=true from y)] at h;exact ⟨fun _ _=>trivial,hB h⟩
theorem rF {ops:Array Oper} {K:Fr→World→Prop} {Q:Exit→Act→World→Prop} {r:Option Nat} {d:Nat} {ds:List Deferred} (hQ: ∀ a f w,gm n ds a f→K f w→Q .normal a w):
  ∀ (l:List Oper) (k:Nat) (ms:List cd) (a:Act) (f:Fr) (w:World),(∀ j,l[j]?=ops[k+j]?)→il P n ops l=some ms→gm n ds a f→cm P K ms f w→
   wpOpsIn (FW r) d P ops Q (List.range' k l.length) a w
 | [],k,ms,a,f,w,_,q,J,h=>by
  simp [il] at q;subst q
  exact hQ a f w J h
 | o::l,k,ms,a,f,w,hl,q,J,h=>by
  have h0:ops[k]?=some o:=by simpa using (hl 0).symm
  unfold il at q
  split at q
  ·rename_i m ms' hm Y
   cases q
   simp only [List.length_cons,List.range'_succ,wpOpsIn,h0]
   obtain ⟨hd,hop,hg,hlt⟩:=iM hm
   have step: ∀ v y,cm P K ms' (put f m.dst v) y→wpOpsIn (FW r) d P ops Q (List.range' (k+1) l.length) (a.put o.dst v) y:=fun v y hv=>by
    refine rF hQ l (k+1) ms' _ _ _ (fun j=>by have:=hl (j+1);simpa [Nat.add_assoc,Nat.add_comm 1 j] using this) Y ?_ hv
    rw [hd]
    exact J.put hlt v
   exact B7 hm J (KA:=fun v y=>cm P K ms' (put f m.dst v) y) (KB:=cm P K ms' (put f m.dst undef) w) step (step undef w) (by
    simp only [cm] at h
    cases H:m.guard with
    | none=>simpa [H] using h
    | some tw=>obtain ⟨t,want⟩:=tw;simpa [H] using h)
  ·cases q
theorem B8 {ds:List Deferred} {d id:Nat} {ops:Array Oper} {l:List cd} {G:Fr→World→Prop} {Q:Exit→Act→World→Prop} {a:Act} {f:Fr} {w:World} (q:il P n ops ops.toList=some l) (y:gm n ds a f)
  (h:cm P G l f w) (k: ∀ a f w,gm n ds a f→G f w→Q .normal a w):(Code.region id ops false).wpIn Fence.wide d P Q a w:=by
 refine wpIn_region ?_
 have:wpOpsIn Fence.wide d P ops Q (List.range' 0 ops.toList.length) a w:=rF (Q:=Q) (r:=none) (d:=d) k ops.toList 0 l a f w (fun _=>by simp) q y h
 rw [List.range_eq_range']
 simpa using this
theorem kR {r d:Nat} : ∀ (c:Code) (m:bS) (Q:dm) (a:Act) (f:Fr) (w:World),gF P n c=some m→Rel n a f→ay P m Q f w→c.wpIn (Fence.wide.inRound r) d P (lift n Q) a w
 | .skip,m,Q,a,f,w,q,H,h=>by
  cases q
  exact wpIn_skip ⟨f,H,h⟩
 | .region id ops draw,m,Q,a,f,w,q,H,h=>by
  cases draw with
  | false=>
   simp only [gF] at q
   obtain ⟨l,hl,rfl⟩:=Option.map_eq_some_iff.1 q
   refine wpIn_region ?_
   have:wpOpsIn (Fence.wide.inRound r) d P ops (lift n Q) (List.range' 0 ops.toList.length) a w:=rF (Q:=lift n Q) (r:=some r) (d:=d) (fun a f w H hk=>⟨f,H.plain,hk⟩) ops.toList 0 l a f w (fun _=>by simp) hl H.B6 h
   rw [List.range_eq_range']
   simpa using this
  | true=>cases q;exact h.elim
 | .seq x y,m,Q,a,f,w,q,H,h=>by
  simp only [gF] at q
  split at q
  ·rename_i mx my hx hy
   cases q
   refine wpIn_seq (wpIn_mono (kR x mx _ a f w hx H h) fun e a' w' he=>?_)
   cases e with
   | normal=>obtain ⟨f',hr',J⟩:=he;exact kR y my Q a' f' w' hy hr' J
   | panic c=>exact he
   | outgrown=>exact he
   | exit id=>exact he
   | goto l=>exact he
   | ret=>exact he
  ·cases q
 | .cond c x y,m,Q,a,f,w,q,H,h=>by
  simp only [gF] at q
  split at q
  ·rename_i mx my hx hy
   cases q
   simp only [ay,iO] at h
   split at h
   ·rename_i hv;exact wpIn_cond (t:=true) (by rw [H.eval];exact hv) (kR x mx Q a f w hx H h)
   ·rename_i hv;exact wpIn_cond (t:=false) (by rw [H.eval];exact hv) (kR y my Q a f w hy H h)
   ·exact h.elim
  ·cases q
 | .block id b,m,Q,a,f,w,q,H,h=>by
  simp only [gF] at q
  obtain ⟨mb,hb,rfl⟩:=Option.map_eq_some_iff.1 q
  refine wpIn_block (wpIn_mono (kR b mb _ a f w hb H h) fun e a' w' he=>?_)
  cases e with
  | exit id'=>
   obtain ⟨f',hr',J⟩:=he
   simp only [Exit.inBlock]
   simp only [k6] at J
   split
   ·rename_i Y
    subst Y
    have:Nat.beq id' id'=true:=Nat.beq_refl id'
    simp only [this] at J
    exact ⟨f',hr',J⟩
   ·rename_i Y
    have:Nat.beq id' id=false:=by
     cases hb:Nat.beq id' id with
     | false=>rfl
     | true=>exact absurd (Nat.eq_of_beq_eq_true hb) Y
    simp only [this] at J
    exact ⟨f',hr',J⟩
  | normal=>exact he
  | panic c=>exact he
  | outgrown=>exact he
  | goto l=>exact he
  | ret=>exact he
 | .exit id,m,Q,a,f,w,q,H,h=>by
  cases q
  exact wpIn_exit ⟨f,H,h⟩
 | .ret,m,Q,a,f,w,q,H,h=>by
  cases q
  exact wpIn_ret ⟨f,H,h⟩
 | .loop _,m,Q,a,f,w,q,H,h=>by cases q
 | .rangeFunc ..,m,Q,a,f,w,q,H,h=>by cases q
 | .scope _,m,Q,a,f,w,q,H,h=>by cases q
 | .label _,m,Q,a,f,w,q,H,h=>by cases q
 | .goto _,m,Q,a,f,w,q,H,h=>by cases q
 | .refuse _,m,Q,a,f,w,q,H,h=>by cases q
theorem o9 {b:Bool} {d:Nat} {x y:Code} {mx:bS} {Q:Exit→Act→World→Prop} {G:Fr→World→Prop} {a:Act} {f:Fr} {w:World} (J:P.follows .mixedOrders=true) (Y:fL P n b x=some mx) (hr:Rel n a f)
  (h:ay P mx (fun e f w=>e= .normal∧G f w) f w) (k: ∀ a f w,Rel n a f→G f w→y.wpIn Fence.wide d P Q a w):(Code.seq x y).wpIn Fence.wide d P Q a w:=by
 refine wpIn_seq (wpIn_mono (wpIn_wide.2 (jz J x mx _ a f w Y hr h)) fun e a' w' he=>?_)
 cases e with
 | normal=>obtain ⟨q,hr',_,H⟩:=he;exact k a' q w' hr' H
 | panic c=>exact he.elim
 | outgrown=>exact he.elim
 | exit id=>obtain ⟨q,hr',h1,H⟩:=he;cases h1
 | goto l=>obtain ⟨q,hr',h1,H⟩:=he;cases h1
 | ret=>obtain ⟨q,hr',h1,H⟩:=he;cases h1
end
end Go.Den
namespace Go.Proofs.YtlhpilgmeededaaGreatDoor
open Go Go.Den Go.Proofs Go.RowKit Go.Shelf
attribute [local go_sem] Oper.semAt_some
set_option maxRecDepth 100000
set_option maxHeartbeats 2000000
def cf:Nat→ByteArray
 | 0=>⟨#[102,114,97,109,101,32,105,110,32,48,48,10,116,105,99,107,32,51,10]⟩
 | 1=>⟨#[116,105,99,107,32,51,10]⟩
 | _=>⟨#[]⟩
def gG:Nat→ByteArray
 | 0=>⟨#[102,114,97,109,101,32,105,110,32,48,48]⟩
 | 1=>⟨#[116,105,99,107,32,51]⟩
 | _=>⟨#[]⟩
abbrev fT (q y H k:Nat) (X:List ao):List ao:=Cl y 9 [.string (cf k)]::Cl q 9 [.string ⟨#[10]⟩]::Cl H 3 [C5 0]::X
def B9:Nat→Int
 | 0=>11
 | 1=>6
 | _=> -1
theorem rG: ∀ (k:Nat) (w:World),(Extern.BytealgIndexByte.indexByte #[.string (cf k),C1 (10:UInt8).toNat]).run Tryz.prog w= .ok (C5 (B9 k)) w
 | 0,w=>by kernel_rfl
 | 1,w=>by kernel_rfl
 | k+2,w=>by kernel_rfl
theorem rH: ∀ k:Nat,(⟨#[10]⟩:ByteArray)≠cf k
 | 0=>by decide
 | 1=>by decide
 | k+2=>by show (⟨#[10]⟩:ByteArray)≠⟨#[]⟩;decide
theorem SH.ww {w0 w:World} {L:List ao} {b:Nat} {t:TypeId} {u v:Value} (H:SH w0 w (Cl b t [u]::L)) (h1:dZ v=true):SH w0 (w.setCell ⟨b,0,none⟩ v) (Cl b t [v]::L):=by
 obtain ⟨_,y,q,h⟩:=H.cp (b:=b) (o:=0) (n:=1) [v] (C:=fun y=>SH w0 y (Cl b t [v]::L)) (fun y h=>h) rfl rfl (by simp [h1])
 unfold Den.stored at q
 split at q
 ·unfold Den.stored at q
  cases q
  rw [add_plain] at h
  exact h
 ·cases q
theorem SH.wx {w0 w:World} {L R:List ao} {b:Nat} {t:TypeId} {cs:List Value} (q:SH w0 w L) [p:aR L b t cs R]:w.frozen? ⟨b,0,none⟩=false:=by simp [World.frozen?,q.eI b]
theorem Cb:(cf 0).extract 0 11=gG 0:=by kernel_rfl
theorem Cc:(cf 1).extract 0 6=gG 1:=by kernel_rfl
theorem Cd:cf 2=gG 2:=rfl
theorem Ce {H q b3 d l:Nat} {w0:World} {V:Type} (M:Nat→V→List ao)
  (hY: ∀ k v W,k<3→SH w0 W (fT H q b3 k (M k v))→YieldAt Fence.wide d Tryz.prog l #[.string (gG k)] W fun e W'=>e= .returned (.bool true)∧ ∃ v,SH w0 W' (fT H q b3 k (M (k+1) v)))
  (W:World) (v0:V) (h:SH w0 W (fT H q b3 0 (M 0 v0))):CallsIn Fence.wide (d+1) Tryz.prog 181 #[.func (.yield l) #[] #[],pt H,pt q,pt b3] W fun e W'=>(∃ v,e= .returned v)∧ ∃ v,SH w0 W' (fT H q b3 2 (M 3 v)):=by
 refine callsIn_of_wp Tryz.func181 rfl trivial ?_ rfl
 simp only [Tryz.ntmps181,List.size_toArray,List.length_cons,List.length_nil,Nat.reduceAdd,Nat.reduceSub,Array.replicate_succ,Array.replicate_zero,List.push_toArray,List.append_toArray,List.nil_append,List.cons_append]
 have h1:W.cell? ⟨H,0,none⟩=some (.string ⟨#[10]⟩):=h.ld (b:=H) (i:=0) rfl
 gi_wp2
 gi_loopw [] (fun wr=> ∃ k v,k≤2∧SH w0 wr (fT H q b3 k (M k v))) (fun wr=>match wr.cell? ⟨q,0,none⟩ with | some (.string s)=>s.size | _=>0)
 case atStart=>exact ⟨0,v0,by omega,h⟩
 case round=>
  obtain ⟨k,v,hk,hw⟩:=hrel
  rcases (show k=0∨k=1∨k=2 by omega) with rfl | rfl | rfl
  ·have h2:wr.cell? ⟨q,0,none⟩=some (.string (cf 0)):=hw.ld (b:=q) (i:=0) rfl
   have h1:wr.cell? ⟨H,0,none⟩=some (.string ⟨#[10]⟩):=hw.ld (b:=H) (i:=0) rfl
   have hs:(cf 0).size=19:=rfl
   gi_wp2_with (refine ⟨trivial,?_⟩;gi_at_call 183;refine (callsIn_wide.2 (c183 (s:=cf 0) (x:=10) (rH 0) (rG 0) hw (K:=fun u w'=>u=C5 (11)∧SH w0 w' (fT H q b3 0 (M 0 v))) (fun w' hL=>⟨rfl,hL⟩))).mono ?_;rintro e Y ⟨_,rfl,rfl,y⟩;have g2:Y.cell? ⟨q,0,none⟩=some (.string (cf 0)):=y.ld (b:=q) (i:=0) rfl;have g1:Y.cell? ⟨H,0,none⟩=some (.string ⟨#[10]⟩):=y.ld (b:=H) (i:=0) rfl;have g3:Y.cell? ⟨b3,0,none⟩=some (C5 0):=y.ld (b:=b3) (i:=0) rfl)
   obtain ⟨fn,tmps,assign,body,hy,hR⟩:=hY 0 v Y (by omega) y
   rw [Cb]
   rw [show Sem.run Tryz.prog (Instr.yield l #[.string (gG 0)]) Y=_ from hy]
   refine ⟨fun e=>(by cases e),hR.mono ?_⟩
   rintro e W3 ⟨rfl,v3,J⟩
   have k2:W3.cell? ⟨q,0,none⟩=some (.string (cf 0)):=J.ld (b:=q) (i:=0) rfl
   have k1:W3.cell? ⟨H,0,none⟩=some (.string ⟨#[10]⟩):=J.ld (b:=H) (i:=0) rfl
   have kf:W3.frozen? ⟨q,0,none⟩=false:=SH.wx (b:=q) J
   gi_wp2
   go_roundw
   case rel=>exact ⟨1,v3,by omega,SH.ww (v:= .string (cf 1)) J rfl⟩
   case measure=>
    rw [World.cell?_setCell_same' _ _ _ (by rw [k2];rfl),h2]
    decide
  ·have h2:wr.cell? ⟨q,0,none⟩=some (.string (cf 1)):=hw.ld (b:=q) (i:=0) rfl
   have h1:wr.cell? ⟨H,0,none⟩=some (.string ⟨#[10]⟩):=hw.ld (b:=H) (i:=0) rfl
   have hs:(cf 1).size=7:=rfl
   gi_wp2_with (refine ⟨trivial,?_⟩;gi_at_call 183;refine (callsIn_wide.2 (c183 (s:=cf 1) (x:=10) (rH 1) (rG 1) hw (K:=fun u w'=>u=C5 (6)∧SH w0 w' (fT H q b3 1 (M 1 v))) (fun w' hL=>⟨rfl,hL⟩))).mono ?_;rintro e Y ⟨_,rfl,rfl,y⟩;have g2:Y.cell? ⟨q,0,none⟩=some (.string (cf 1)):=y.ld (b:=q) (i:=0) rfl;have g1:Y.cell? ⟨H,0,none⟩=some (.string ⟨#[10]⟩):=y.ld (b:=H) (i:=0) rfl;have g3:Y.cell? ⟨b3,0,none⟩=some (C5 0):=y.ld (b:=b3) (i:=0) rfl)
   obtain ⟨fn,tmps,assign,body,hy,hR⟩:=hY 1 v Y (by omega) y
   rw [Cc]
   rw [show Sem.run Tryz.prog (Instr.yield l #[.string (gG 1)]) Y=_ from hy]
   refine ⟨fun e=>(by cases e),hR.mono ?_⟩
   rintro e W3 ⟨rfl,v3,J⟩
   have k2:W3.cell? ⟨q,0,none⟩=some (.string (cf 1)):=J.ld (b:=q) (i:=0) rfl
   have k1:W3.cell? ⟨H,0,none⟩=some (.string ⟨#[10]⟩):=J.ld (b:=H) (i:=0) rfl
   have kf:W3.frozen? ⟨q,0,none⟩=false:=SH.wx (b:=q) J
   gi_wp2
   go_roundw
   case rel=>exact ⟨2,v3,by omega,SH.ww (v:= .string (cf 2)) J rfl⟩
   case measure=>
    rw [World.cell?_setCell_same' _ _ _ (by rw [k2];rfl),h2]
    decide
  ·have h2:wr.cell? ⟨q,0,none⟩=some (.string (cf 2)):=hw.ld (b:=q) (i:=0) rfl
   have h1:wr.cell? ⟨H,0,none⟩=some (.string ⟨#[10]⟩):=hw.ld (b:=H) (i:=0) rfl
   have hs:(cf 2).size=0:=rfl
   gi_wp2_with (refine ⟨trivial,?_⟩;gi_at_call 183;refine (callsIn_wide.2 (c183 (s:=cf 2) (x:=10) (rH 2) (rG 2) hw (K:=fun u w'=>u=C5 (-1)∧SH w0 w' (fT H q b3 2 (M 2 v))) (fun w' hL=>⟨rfl,hL⟩))).mono ?_;rintro e Y ⟨_,rfl,rfl,y⟩;have g2:Y.cell? ⟨q,0,none⟩=some (.string (cf 2)):=y.ld (b:=q) (i:=0) rfl;have g1:Y.cell? ⟨H,0,none⟩=some (.string ⟨#[10]⟩):=y.ld (b:=H) (i:=0) rfl;have g3:Y.cell? ⟨b3,0,none⟩=some (C5 0):=y.ld (b:=b3) (i:=0) rfl)
   obtain ⟨fn,tmps,assign,body,hy,hR⟩:=hY 2 v Y (by omega) y
   rw [Cd]
   rw [show Sem.run Tryz.prog (Instr.yield l #[.string (gG 2)]) Y=_ from hy]
   refine ⟨fun e=>(by cases e),hR.mono ?_⟩
   rintro e W3 ⟨rfl,v3,J⟩
   gi_wp2
   go_end0
   exact ⟨⟨_,rfl⟩,v3,J⟩
end Go.Proofs.YtlhpilgmeededaaGreatDoor
namespace Go.Den
open Go Go.RowKit
section
variable {P:Program} {w0 w:World} {L:List ao}
theorem SH.pd {b:Nat} {o o':Obj} (J:SH w0 w (Pt b o::L)):SH w0 (w.putObj b o') (Pt b o'::L):=by
 have q:b<w.heap.size:=eT (J.holds (Pt b o) (.head _))
 exact SH.cQ (L:=[Pt b o]) (L':=[Pt b o']) (F:=L) J rfl rfl rfl (by simp [World.putObj]) (fun _ _ Y=>World.putObj_heap_other (fun e=>Y (Pt b o) (by simp) e)) (by simpa [Pt] using World.putObj_heap_same q) (by simp)
  (fun A y x H=>by rcases List.mem_singleton.1 y with rfl;exact .inl ⟨Pt b o,by simp,H⟩) (fun A y x H=>by rcases List.mem_singleton.1 y with rfl;exact H.elim)
theorem Cf {n d gf p N E:Nat} {lb:Array Value} {g:Operand} {assign body:Code} {ma mb:bS} {Q:Exit→Act→World→Prop} {a:Act} {f:Fr} {line:Nat→Value} {V:Type} {X:Nat→List ao} {M:Nat→V→List ao} {v0:V} {fr:Nat→Fr}
  (hr:Rel n a f) (hg:ev f g= .func (.func gf) #[] lb) (hp:p<n) (hca:gF P n assign=some ma) (hcb:gF P n body=some mb)
  (eg: ∀ args w,(callFunc gf args).run P w= .ok (.enter gf args) w) (hL:SH w0 w (X 0++M 0 v0))
  (hseq: ∀ (l:Nat) (M':Nat→V→List ao) (W:World) (v0:V),(∀ k v W,k<N→SH w0 W (X k++M' k v)→YieldAt Fence.wide d P l #[line k] W fun e W'=>e= .returned (.bool true)∧ ∃ v,SH w0 W' (X k++M' (k+1) v))→SH w0 W (X 0++M' 0 v0)→
   CallsIn Fence.wide (d+1) P gf (#[.func (.yield l) #[] #[]]++lb) W fun e W'=>(∃ v,e= .returned v)∧ ∃ v,SH w0 W' (X E++M' N v))
  (hasg: ∀ k W,k<N→ay P ma (fun e f1 W1=>e= .normal∧f1=fr k∧W1=W) (cP f p (line k)) W)
  (hbody: ∀ k v Z W,k<N→SH w0 W (X k++(M k v++Z))→ay P mb (fun e _ W2=>e= .normal∧ ∃ v,SH w0 W2 (X k++(M (k+1) v++Z))) (fr k) W)
  (hdone: ∀ D l o v W,SH w0 W (X E++(M N v++[Pt l o,Pt D (.deferred (some []))]))→Q .normal { a with defers:= { target:= .collected D,args:=#[] } ::a.defers } W):
  (Code.rangeFunc g #[p] assign body).wpIn Fence.wide (d+2) P Q a w:=by
 refine wpIn_rangeFunc ?_
 intro fn hfn
 obtain ⟨rec,hrec⟩: ∃ rec:LoopState→Option Code→Loop,rec=fun st pe=> { state:=st,pending:=pe,fn,tmps:=a.tmps,params:=#[p],assign,body,defers:=w.heap.size } :=⟨_,rfl⟩
 obtain ⟨D,w1,⟨hD,rfl⟩,h1⟩:=hL.ki (.deferred (some []))
 obtain ⟨l,w2,⟨hl,rfl⟩,h2⟩:=h1.ki (.loop (rec .ready none))
 have hl':l=w.heap.size+1:=by rw [←hl,World.size_alloc]
 have pm: ∀ (A B:List ao) (x y:ao),(A++(B++[x,y])).Perm (x::(A++(B++[y]))):=fun A B x y=>by
  have e1:A++(B++[x,y])=(A++B)++x::[y]:=by simp
  have e2:A++(B++[y])=(A++B)++[y]:=by simp
  rw [e1,e2]
  exact List.perm_middle
 have h0:SH w0 ((w.alloc (.deferred (some []))).alloc (.loop (rec .ready none))) (X 0++(M 0 v0++[Pt l (.loop (rec .ready none)),Pt D (.deferred (some []))])):=h2.perm (by
  refine List.Perm.trans (.cons _ ?_) (pm _ _ _ _).symm
  have e2:X 0++(M 0 v0++[Pt D (.deferred (some []))])=(X 0++M 0 v0)++[Pt D (.deferred (some []))]:=by simp
  rw [e2]
  exact (List.perm_append_singleton _ _).symm)
 obtain ⟨W1,hW1⟩: ∃ W1,(w.alloc (.deferred (some []))).alloc (.loop (rec .ready none))=W1:=⟨_,rfl⟩
 rw [hW1] at h0
 refine ⟨l,[{ target:= .collected w.heap.size,args:=#[] }],W1,{ target:= .fn (.func gf) lb,args:=#[.func (.yield l) #[] #[]] },W1,gf,#[.func (.yield l) #[] #[]]++lb,W1,by rw [hl',←hW1,hrec];exact run_enterLoop_outer _ _ _ _ _,?_,fun _ _=>trivial,?_,fun e=>(by cases e),?_⟩
 ·simp only [resolve,hr.eval,hg]
  simp [go_sem]
 ·simp [invoke,go_sem,eg]
 ·refine (hseq l (fun k v=>M k v++[Pt l (.loop (rec .ready none)),Pt D (.deferred (some []))]) _ v0 ?_ h0).mono ?_
  ·intro k vk W hk hW
   have J:W.heap[l]?=some (.loop (rec .ready none)):=(hW.perm (pm _ _ _ _)).holds _ (.head _)
   have hy:=run_yield (P:=P) (args:=#[line k]) J (by rw [hrec];rfl)
   rw [hrec] at hy
   refine ⟨fn,_,assign,body,hy,roundIn_of_wpIn hfn ?_⟩
   have hr1:Rel n { tmps:=(#[p].zip #[line k]).foldl (fun t (q,v)=>t.setIfInBounds q v) a.tmps,defers:=[] } (cP f p (line k)):=by
    have e:(#[p].zip #[line k]).foldl (fun t (q,v)=>t.setIfInBounds q v) a.tmps=a.tmps.setIfInBounds p (line k):=by simp
    rw [e]
    have:=Rel.put (d:=some p) hr (fun x e=>by cases e;exact hp) (line k)
    refine ⟨this.size,this.val,rfl⟩
   refine wpIn_mono (kR assign ma _ _ _ _ hca hr1 (hasg k W hk)) ?_
   rintro e a1 W1 he
   cases e with
   | normal=>
    obtain ⟨f1,hr2,_,rfl,rfl⟩:=he
    refine ⟨_,run_beginRound J (by rw [hrec]),?_⟩
    have hW1:SH w0 (W1.putObj l (.loop { rec .ready none with state:= .busy })) (X k++(M k vk++[Pt l (.loop { rec .ready none with state:= .busy }),Pt D (.deferred (some []))])):=((hW.perm (pm _ _ _ _)).pd).perm (pm _ _ _ _).symm
    refine wpIn_mono (kR body mb _ _ _ _ hcb hr2 (hbody k vk _ _ hk hW1)) ?_
    rintro e a3 W3 H
    cases e with
    | normal=>
     obtain ⟨f3,hr3,_,v3,Y⟩:=H
     have hl3:W3.heap[l]?=some (.loop { rec .ready none with state:= .busy }):=(Y.perm (pm _ _ _ _)).holds _ (.head _)
     refine ⟨_,_,run_endRound none hl3,rfl,v3,?_⟩
     have h4:=((Y.perm (pm _ _ _ _)).pd (o':= .loop (rec .ready none))).perm (pm _ _ _ _).symm
     rw [hrec] at h4 ⊢
     exact h4
    | panic c=>exact H.elim
    | outgrown=>exact H.elim
    | exit id=>obtain ⟨_,_,h,_⟩:=H;cases h
    | goto t=>obtain ⟨_,_,h,_⟩:=H;cases h
    | ret=>obtain ⟨_,_,h,_⟩:=H;cases h
   | panic c=>exact he.elim
   | outgrown=>exact he.elim
   | exit id=>obtain ⟨_,_,h,_⟩:=he;cases h
   | goto t=>obtain ⟨_,_,h,_⟩:=he;cases h
   | ret=>obtain ⟨_,_,h,_⟩:=he;cases h
  ·rintro e W2 ⟨⟨v,rfl⟩,v3,Y⟩
   have J:W2.heap[l]?=some (.loop (rec .ready none)):=(Y.perm (pm _ _ _ _)).holds _ (.head _)
   refine ⟨none,_,by have:=run_endLoop (P:=P) J (by rw [hrec];simp);rw [hrec] at this;exact this,?_⟩
   subst hD
   exact hdone _ l _ v3 _ (((Y.perm (pm _ _ _ _)).pd).perm (pm _ _ _ _).symm)
end
end Go.Den
namespace Go.Proofs.YtlhpilgmeededaaGreatDoor
open Go Go.Den Go.RowKit
set_option maxHeartbeats 4000000
set_option maxRecDepth 8000
def rI:bS:= .ops [op 2 (.alloc 38 [sN]),op 3 (.alloc 3 [C5 0]),op 4 (.alloc 55 [C5 0])]
def rJ:bS:= .ops [op 5 (.alloc 38 [sN])]
def rK:bS:= .ops [op 6 (.alloc 3 [C5 0]),on (.store 1 (oT 6) (oI 0))]
def rL:bS:= .ops [mv 10 0,op 11 (.call 79 [oT 10,oK (vS #[10])])]
def wy:bS:= .ops [mv 7 12]
def kS:bS:= .block 1 (.seq (.ops [op 13 (.load none (oT 6)),op 14 (.bin .add (oT 13) (oI 1)),on (.store 1 (oT 6) (oT 14))]) (.seq (.seq (.ops [mv 15 7,op 16 (.rawQ ⟨some 16,.binOp .eql 9 (oT 15) (oK (vS #[])) 9,4,"tale.go:130",#[⟨0,.data⟩],none⟩),mv 17 16,og 18 (.mov (oT 7)) 17 false,og 19 (.rawQ ⟨some 19,.index 9 (oT 18) (oI 0),5,"tale.go:130",#[⟨3,.data⟩,⟨2,.guard⟩],some ((2,false))⟩) 17 false,og 20 (.bin .eql (oT 19) (oK (C1 35))) 17 false,op 21 (.pick (oT 17) (oK (.bool true)) (oT 20))]) (.cond (oT 21) (.exit 1) .skip)) (.seq (.ops [mv 23 7,op 24 (.call 80 [oT 23]),mv 22 24,op 25 (.extract (oT 22) 0),op 26 (.extract (oT 22) 1),op 8 (.alloc 50 [C5 0,C5 0,sN,C4 0]),on (.store 4 (oT 8) (oT 25)),mv 9 26]) (.seq (.seq (.ops [mv 27 9,op 28 (.not (oT 27))]) (.cond (oT 28) (.seq (.bad) .ret) .skip)) (.ops [op 30 (.load none (oT 5)),op 31 (.load (some 4) (oT 8)),op 32 (.buildS 50 1 [C5 0,C5 0,sN,C4 0] [(0,4,oT 31)]),op 33 (.raw ⟨some 33,.call ⟨.builtin .append,#[oT 30,oT 32],#[38,38]⟩,38,"tale.go:137",#[⟨0,.data⟩,⟨2,.data⟩],none⟩),on (.store 1 (oT 5) (oT 33))])))))
def wz:List cd:=[op 34 (.load none (oT 5)),on (.store 1 (oT 2) (oT 34)),on (.store 1 (oT 3) (oI 0)),on (.store 1 (oT 4) (oI 0))]
instance el38:jM Tryz.prog 38 50 (.agg #[C5 0,C5 0,sN,C4 0]) 4 48:=⟨⟨Tryz.underlying38,by kernel_rfl,rfl,by decide⟩,by decide⟩
section
variable {w0 w:World} {L R R2 R3:List ao} {K:Value→World→Prop} {b:Nat} {v:Value}
attribute [local irreducible] ay aQ aH aY a6 aW aK aV num be over nb rowOf bD ct ts
theorem c135 {s t:ByteArray} (q:SH w0 w L) (k: ∀ y H J Y,SH w0 Y (Cl J 3 [C5 0]::Cl y 9 [.string t]::Cl H 9 [.string s]::L)→K (.func (.func 181) #[] #[pt y,pt H,pt J]) Y):D 135 [.string s,.string t,C5 0] w K:=by
 refine s135 rfl<|ac<|q.az [Value.string s] fun _ _ q=>q.az [Value.string t] fun _ _ q=>q.az [C5 0] fun _ _ q=>ac<|ah<|k _ _ _ _ q.ae
theorem c79 {s t:ByteArray} (q:SH w0 w L) (k: ∀ y H J Y,SH w0 Y (Cl J 3 [C5 0]::Cl y 9 [.string t]::Cl H 9 [.string s]::L)→K (.func (.func 181) #[] #[pt y,pt H,pt J]) Y):D 79 [.string s,.string t] w K:=by
 refine s79 rfl<|ac<|ac<|c135 q (fun _ _ _ _ q=>ah (k _ _ _ _ q.ae))
abbrev dY (a:Option Addr) (c:Nat):List Value:=[C5 0,C5 0,sl a c [0],C4 0]
abbrev fF:List Value:=[C5 1,C5 0,sN,C4 3]
def nu (q y:Nat) (Z:List ao):Nat→(Option Addr × Nat) × (Option Addr × Nat)→List ao
 | 0,_=>Cl y 3 [C5 0]::Cl q 38 [.slice none 0 0]::Z
 | 1,v=>Cl y 3 [C5 1]::Cl q 38 [.slice v.1.1 1 v.1.2]::Row 50 4 (.slice v.1.1 1 v.1.2) 1 (dY v.2.1 v.2.2)::By (sl v.2.1 v.2.2 [0]) [0]::Z
 | 2,v=>Cl y 3 [C5 2]::Cl q 38 [.slice v.1.1 2 v.1.2]::Row 50 4 (.slice v.1.1 2 v.1.2) 2 (dY v.2.1 v.2.2++fF)::By (sl v.2.1 v.2.2 [0]) [0]::Z
 | _,v=>Cl y 3 [C5 3]::Cl q 38 [.slice v.1.1 2 v.1.2]::Row 50 4 (.slice v.1.1 2 v.1.2) 2 (dY v.2.1 v.2.2++fF)::By (sl v.2.1 v.2.2 [0]) [0]::Z
def rM (Qk:World→Prop):dm:=fun e _ q=>e= .normal∧Qk q
theorem Cg {f:Fr} {b5 b6:Nat} {Qk:World→Prop} (q:SH w0 w (Cl b6 3 [C5 0]::Cl b5 38 [sN]::R2))
  (k: ∀ a1 c1 a c w',SH w0 w' (Cl b6 3 [C5 1]::Cl b5 38 [.slice a1 1 c1]::Row 50 4 (.slice a1 1 c1) 1 (dY a c)::By (sl a c [0]) [0]::R2)→Qk w'):
  ay Tryz.prog kS (rM Qk) (cP (cP (cP (cP f 5 (pt b5)) 6 (pt b6)) 12 (.string ⟨#[102,114,97,109,101,32,105,110,32,48,48]⟩)) 7 (.string ⟨#[102,114,97,109,101,32,105,110,32,48,48]⟩)) w:=by
 unfold kS
 exact aM<|ac<|q.C9 (b:=b6) rfl<|Db<|q.aN (b:=b6) [C5 1] [C5 1] fun _ q=>aq ⟨_,gE (neg:=false) rfl rfl rfl (by decide),⟨_,kr (j:=0) (b:=102) rfl Tryz.underlying9 rfl rfl (by rfl),Dh (ak (ac (c80a q (fun J Y _ q=>q.an fun b_8 _ q=>q.aj (b:=b_8) fun _ q=>aq (Dj (ak (au (q.C9 (b:=b5) rfl (q.Da (b:=b_8) rfl (⟨rfl,[C5 0,C5 0,sl J Y [0],C4 0],rfl,q.an fun b_32 _ q=>aZ (dL (v:=sN) (u:= .slice (some ⟨b_32,0,none⟩) 1 1) rfl rfl rfl q (q.fa rfl) rfl (by omega) fun y H w_33 (q:SH w0 w_33 (Row 50 4 (.slice y 1 H) 1 (dY J Y)::_))=>q.aN (b:=b5) [.slice y 1 H] [.slice y 1 H] fun _ q=>⟨rfl,k y H J Y _ q.ae⟩)⟩))))))))))⟩⟩
theorem Ch {f:Fr} {Y b6:Nat} {a1:Option Addr} {c1:Nat} {xs:List Value} {Qk:World→Prop} (q:SH w0 w (Cl b6 3 [C5 1]::Cl Y 38 [.slice a1 1 c1]::Row 50 4 (.slice a1 1 c1) 1 xs::R3))
  (k: ∀ a2 c2 w',SH w0 w' (Cl b6 3 [C5 2]::Cl Y 38 [.slice a2 2 c2]::Row 50 4 (.slice a2 2 c2) 2 (xs++fF)::R3)→Qk w'):
  ay Tryz.prog kS (rM Qk) (cP (cP (cP (cP f 5 (pt Y)) 6 (pt b6)) 12 (.string ⟨#[116,105,99,107,32,51]⟩)) 7 (.string ⟨#[116,105,99,107,32,51]⟩)) w:=by
 unfold kS
 exact aM<|ac<|q.C9 (b:=b6) rfl<|Db<|q.aN (b:=b6) [C5 2] [C5 2] fun _ q=>aq ⟨_,gE (neg:=false) rfl rfl rfl (by decide),⟨_,kr (j:=0) (b:=116) rfl Tryz.underlying9 rfl rfl (by rfl),Dh (ak (ac (c80b q (fun _ q=>q.an fun b_8 _ q=>q.aj (b:=b_8) fun _ q=>aq (Dj (ak (au (q.C9 (b:=Y) rfl (q.Da (b:=b_8) rfl (⟨rfl,[C5 1,C5 0,sN,C4 3],rfl,q.an fun J _ q=>aZ (dL (v:= .slice a1 1 c1) (u:= .slice (some ⟨J,0,none⟩) 1 1) (n:=1) (m:=1) (ys:=fF) rfl rfl rfl q (q.fa (g:=J) rfl) rfl (by omega) fun y H _ q=>q.aN (b:=Y) [.slice y 2 H] [.slice y 2 H] fun _ q=>⟨rfl,k y H _ q.ae⟩)⟩))))))))))⟩⟩
theorem Ci {f:Fr} {J q:Nat} {Qk:World→Prop} (y:SH w0 w (Cl q 3 [C5 2]::R))
  (k: ∀ H,SH w0 H (Cl q 3 [C5 3]::R)→Qk H):
  ay Tryz.prog kS (rM Qk) (cP (cP (cP (cP f 5 (pt J)) 6 (pt q)) 12 (.string ⟨#[]⟩)) 7 (.string ⟨#[]⟩)) w:=by
 unfold kS
 exact aM<|ac<|y.C9 (b:=q) rfl<|Db<|y.aN (b:=q) [C5 3] [C5 3] fun _ y=>aq ⟨_,jZ (neg:=false) rfl rfl rfl rfl,pa 5 rfl (aS (⟨rfl,k _ y.ae⟩))⟩
def lN (w0:World) (L:List ao) (q y H:Nat) (f:Fr) (w:World):Prop:=
 f 0= .string (cf 0)∧f 2=pt q∧f 3=pt y∧f 4=pt H∧SH w0 w (Cl H 55 [C5 0]::Cl y 3 [C5 0]::Cl q 38 [sN]::L)
theorem Cj {f:Fr} (Y:f 0= .string (cf 0)) (q:SH w0 w L):ay Tryz.prog rI (fun e f w=>e= .normal∧ ∃ y H J,lN w0 L y H J f w) f w:=by
 unfold rI
 exact au<|q.an fun y w q=>q.an fun H w q=>q.an fun J w q=>⟨rfl,y,H,J,Y,rfl,rfl,rfl,q⟩
theorem Ck {f:Fr} {H J Y:Nat} (h:lN w0 L H J Y f w):ay Tryz.prog rJ (fun e f w=>e= .normal∧ ∃ q,f 5=pt q∧lN w0 (Cl q 38 [sN]::L) H J Y f w) f w:=by
 obtain ⟨h0,h2,h3,h4,y⟩:=h
 unfold rJ
 exact au<|y.an fun q w y=>⟨rfl,q,rfl,h0,h2,h3,h4,SH.perm y (by exact (List.perm_middle (l₁:=[_,_,_])).symm)⟩
theorem Cm {f:Fr} {H J Y b5:Nat} (h5:f 5=pt b5) (h:lN w0 L H J Y f w):ay Tryz.prog rK (fun e f w=>e= .normal∧ ∃ q,f 5=pt b5∧f 6=pt q∧lN w0 (Cl q 3 [C5 0]::L) H J Y f w) f w:=by
 obtain ⟨h0,h2,h3,h4,y⟩:=h
 unfold rK
 exact au<|y.an fun q w y=>y.cp (b:=q) [C5 0] fun w y=>⟨rfl,q,h5,rfl,h0,h2,h3,h4,SH.perm y (by exact (List.perm_middle (l₁:=[_,_,_])).symm)⟩
theorem Cn {f:Fr} {y H J b5 b6:Nat} (h5:f 5=pt b5) (h6:f 6=pt b6) (h:lN w0 L y H J f w):ay Tryz.prog rL (fun e f w=>e= .normal∧ ∃ c1 q c3,f 11= .func (.func 181) #[] #[pt c1,pt q,pt c3]∧f 5=pt b5∧f 6=pt b6∧f 2=pt y∧f 3=pt H∧f 4=pt J∧
  SH w0 w (fT c1 q c3 0 (Cl J 55 [C5 0]::Cl H 3 [C5 0]::Cl y 38 [sN]::L))) f w:=by
 obtain ⟨h0,h2,h3,h4,Y⟩:=h
 unfold rL
 refine au ?_
 show D 79 [f 0,_] _ _
 rw [h0]
 exact c79 Y (fun c1 q c3 w Y=>⟨rfl,c1,q,c3,rfl,h5,h6,h2,h3,h4,Y.ae⟩)
end
end Go.Proofs.YtlhpilgmeededaaGreatDoor
namespace Go.Proofs.YtlhpilgmeededaaGreatDoor
open Go Go.Den Go.RowKit
set_option maxHeartbeats 4000000
set_option maxRecDepth 8000
section
variable {w0 w:World} {L R R2 R3:List ao} {K:Value→World→Prop} {b:Nat} {v:Value}
theorem rN {f:Fr} {a b:Nat} {x y:Value} (h1:f a=x) (J:f b=y):f=cP (cP f a x) b y:=by
 funext t
 by_cases q:t=b
 ·subst q;rw [nv];exact J
 ·rw [lQ _ _ q]
  by_cases H:t=a
  ·subst H;rw [nv];exact h1
  ·rw [lQ _ _ H]
theorem Co {n:Nat} {args:List Value} (h:args.length≤n):Rel n { tmps:=args.toArray++Array.replicate (n - args.toArray.size) undef,defers:=[] } (fM args):=by
 refine ⟨by simp;omega,fun t=>?_,rfl⟩
 have key: ∀ (l:List Value) (t:Nat),fM l t=l.getD t undef:=by
  intro l
  induction l with
  | nil=>intro t;simp [fM]
  | cons v l ih=>intro t;cases t with
   | zero=>simp [fM]
   | succ t=>simp [fM,ih]
 rw [key]
 simp only [Array.getD_eq_getD_getElem?,List.getD_eq_getElem?_getD]
 rw [Array.getElem?_append]
 split
 ·simp
 ·rename_i q
  simp only [Array.getElem?_replicate]
  rw [List.getElem?_eq_none (by simpa using q)]
  split<;>rfl
theorem c35 (hL:SH w0 w L) (k: ∀ a1 c1 a c w',SH w0 w' (Row 50 4 (.slice a1 2 c1) 2 (dY a c++fF)::By (sl a c [0]) [0]::L)→K (.tuple #[.slice a1 2 c1,C5 0,C5 0]) w'):D 35 [.string (cf 0)] w K:=by
 show Calls _ _ _ _ _
 refine (callsIn_wide (n:=9)).1<|callsIn_of_wp_marks Tryz.func35 rfl trivial (o9 mixed (mx:=rI) (n:=35) (f:=fM [.string (cf 0)]) (b:=false) (by kernel_rfl) (Co (n:=35) (args:=[.string (cf 0)]) (by decide)) (Cj rfl hL) ?_) rfl
 rintro a f w1 hr ⟨y,H,J,h⟩
 refine o9 mixed (mx:=rJ) (n:=35) (b:=false) (by kernel_rfl) hr (Ck h) ?_
 rintro a f w1 hr ⟨b5,h5,h⟩
 refine o9 mixed (mx:=rK) (n:=35) (b:=false) (by kernel_rfl) hr (Cm h5 h) ?_
 rintro a f w1 hr ⟨b6,h5,h6,h⟩
 refine wpIn_seq<|o9 mixed (mx:=rL) (n:=35) (b:=false) (by kernel_rfl) hr (Cn h5 h6 h) ?_
 rintro a f w1 hr ⟨c1,Y,c3,h11,h5,h6,h2,h3,h4,hL⟩
 have hff:=rN h5 h6
 refine wpIn_block ?_
 refine Cf (w0:=w0) (N:=3) (E:=2) (ma:=wy) (mb:=kS) (V:=(Option Addr × Nat) × (Option Addr × Nat)) (line:=fun k=> .string (gG k)) (X:=fun k=>fT c1 Y c3 k []) (M:=nu b5 b6 (Cl J 55 [C5 0]::Cl H 3 [C5 0]::Cl y 38 [sN]::L))
  (fr:=fun k=>cP (cP f 12 (.string (gG k))) 7 (.string (gG k))) (v0:=((none,0),(none,0))) hr h11 (by decide) (by kernel_rfl) (by kernel_rfl) (enters_of Tryz.func181 (by kernel_rfl) rfl) ?_ ?_ ?_ ?_ ?_
 ·have h:SH w0 w1 (Cl Y 9 [.string (cf 0)]::Cl c1 9 [.string ⟨#[10]⟩]::Cl c3 3 [C5 0]::Cl b6 3 [C5 0]::Cl b5 38 [sN]::Cl J 55 [C5 0]::Cl H 3 [C5 0]::Cl y 38 [sN]::L):=hL.ae
  exact h
 ·intro l M' W v0 hY h0
  exact Ce M' hY W v0 h0
 ·intro k W hk
  unfold wy
  exact au ⟨rfl,rfl,rfl⟩
 ·intro k v Z W hk q
  show ay _ _ _ (cP (cP f 12 (.string (gG k))) 7 (.string (gG k))) W
  rw [hff]
  rcases (show k=0∨k=1∨k=2 by omega) with rfl | rfl | rfl
  ·have q:SH w0 W (Cl Y 9 [.string (cf 0)]::Cl c1 9 [.string ⟨#[10]⟩]::Cl c3 3 [C5 0]::Cl b6 3 [C5 0]::Cl b5 38 [sN]::(Cl J 55 [C5 0]::Cl H 3 [C5 0]::Cl y 38 [sN]::L++Z)):=q
   exact Cg (R2:=Cl Y 9 [.string (cf 0)]::Cl c1 9 [.string ⟨#[10]⟩]::Cl c3 3 [C5 0]::(Cl J 55 [C5 0]::Cl H 3 [C5 0]::Cl y 38 [sN]::L++Z)) (Qk:=fun W'=> ∃ v,SH w0 W' (fT c1 Y c3 0 []++(nu b5 b6 (Cl J 55 [C5 0]::Cl H 3 [C5 0]::Cl y 38 [sN]::L) 1 v++Z))) q.ae fun a1 c1' a c w' h=>⟨((a1,c1'),(a,c)),by
    have h:SH w0 w' (Cl Y 9 [.string (cf 0)]::Cl c1 9 [.string ⟨#[10]⟩]::Cl c3 3 [C5 0]::Cl b6 3 [C5 1]::Cl b5 38 [.slice a1 1 c1']::Row 50 4 (.slice a1 1 c1') 1 (dY a c)::By (sl a c [0]) [0]::(Cl J 55 [C5 0]::Cl H 3 [C5 0]::Cl y 38 [sN]::L++Z)):=h.ae
    exact h⟩
  ·obtain ⟨⟨a1,c1'⟩,a,c⟩:=v
   have q:SH w0 W (Cl Y 9 [.string (cf 1)]::Cl c1 9 [.string ⟨#[10]⟩]::Cl c3 3 [C5 0]::Cl b6 3 [C5 1]::Cl b5 38 [.slice a1 1 c1']::Row 50 4 (.slice a1 1 c1') 1 (dY a c)::By (sl a c [0]) [0]::(Cl J 55 [C5 0]::Cl H 3 [C5 0]::Cl y 38 [sN]::L++Z)):=q
   exact Ch (a1:=a1) (c1:=c1') (xs:=dY a c) (R3:=Cl Y 9 [.string (cf 1)]::Cl c1 9 [.string ⟨#[10]⟩]::Cl c3 3 [C5 0]::By (sl a c [0]) [0]::(Cl J 55 [C5 0]::Cl H 3 [C5 0]::Cl y 38 [sN]::L++Z)) (Qk:=fun W'=> ∃ v,SH w0 W' (fT c1 Y c3 1 []++(nu b5 b6 (Cl J 55 [C5 0]::Cl H 3 [C5 0]::Cl y 38 [sN]::L) 2 v++Z))) q.ae fun a2 c2' w' h=>⟨((a2,c2'),(a,c)),by
    have h:SH w0 w' (Cl Y 9 [.string (cf 1)]::Cl c1 9 [.string ⟨#[10]⟩]::Cl c3 3 [C5 0]::Cl b6 3 [C5 2]::Cl b5 38 [.slice a2 2 c2']::Row 50 4 (.slice a2 2 c2') 2 (dY a c++fF)::By (sl a c [0]) [0]::(Cl J 55 [C5 0]::Cl H 3 [C5 0]::Cl y 38 [sN]::L++Z)):=h.ae
    exact h⟩
  ·obtain ⟨⟨a1,c1'⟩,a,c⟩:=v
   have q:SH w0 W (Cl Y 9 [.string (cf 2)]::Cl c1 9 [.string ⟨#[10]⟩]::Cl c3 3 [C5 0]::Cl b6 3 [C5 2]::Cl b5 38 [.slice a1 2 c1']::Row 50 4 (.slice a1 2 c1') 2 (dY a c++fF)::By (sl a c [0]) [0]::(Cl J 55 [C5 0]::Cl H 3 [C5 0]::Cl y 38 [sN]::L++Z)):=q
   exact Ci (R:=Cl Y 9 [.string (cf 2)]::Cl c1 9 [.string ⟨#[10]⟩]::Cl c3 3 [C5 0]::Cl b5 38 [.slice a1 2 c1']::Row 50 4 (.slice a1 2 c1') 2 (dY a c++fF)::By (sl a c [0]) [0]::(Cl J 55 [C5 0]::Cl H 3 [C5 0]::Cl y 38 [sN]::L++Z)) (Qk:=fun W'=> ∃ v,SH w0 W' (fT c1 Y c3 2 []++(nu b5 b6 (Cl J 55 [C5 0]::Cl H 3 [C5 0]::Cl y 38 [sN]::L) 3 v++Z))) q.ae fun w' h=>⟨((a1,c1'),(a,c)),by
    have h:SH w0 w' (Cl Y 9 [.string (cf 2)]::Cl c1 9 [.string ⟨#[10]⟩]::Cl c3 3 [C5 0]::Cl b6 3 [C5 3]::Cl b5 38 [.slice a1 2 c1']::Row 50 4 (.slice a1 2 c1') 2 (dY a c++fF)::By (sl a c [0]) [0]::(Cl J 55 [C5 0]::Cl H 3 [C5 0]::Cl y 38 [sN]::L++Z)):=h.ae
    exact h⟩
 ·rintro D l o ⟨⟨a1,c1'⟩,a,c⟩ W q
  have q:=SH.perm (L':=[Pt l o,Pt D (.deferred (some []))]++(fT c1 Y c3 2 []++nu b5 b6 (Cl J 55 [C5 0]::Cl H 3 [C5 0]::Cl y 38 [sN]::L) 3 ((a1,c1'),(a,c)))) q (by rw [←List.append_assoc];exact List.perm_append_comm)
  have q:SH w0 W (Pt l o::Pt D (.deferred (some []))::Cl Y 9 [.string (cf 2)]::Cl c1 9 [.string ⟨#[10]⟩]::Cl c3 3 [C5 0]::Cl b6 3 [C5 3]::Cl b5 38 [.slice a1 2 c1']::Row 50 4 (.slice a1 2 c1') 2 (dY a c++fF)::By (sl a c [0]) [0]::Cl J 55 [C5 0]::Cl H 3 [C5 0]::Cl y 38 [sN]::L):=q
  show Code.wpIn _ _ _ _ _ _ _
  refine wpIn_seq (B8 (ds:=[{ target:= .collected D,args:=#[] }]) (n:=35) (f:=f) (l:=wz) (G:=fun f' W'=>f' 2=pt y∧f' 3=pt H∧f' 4=pt J∧SH w0 W' (Pt D (.deferred (some []))::Cl J 55 [C5 0]::Cl H 3 [C5 0]::Cl y 38 [.slice a1 2 c1']::Row 50 4 (.slice a1 2 c1') 2 (dY a c++fF)::By (sl a c [0]) [0]::L)) (by kernel_rfl) ⟨⟨hr.size,hr.val,rfl⟩,congrArg _ hr.defers⟩ ?_ ?_)
  ·rw [rN h4 h5,rN h2 h3]
   unfold wz
   exact q.C9 (b:=b5) rfl<|q.aN (b:=y) [.slice a1 2 c1'] [.slice a1 2 c1'] fun _ q=>q.aN (b:=H) [C5 0] [C5 0] fun _ q=>q.aN (b:=J) [C5 0] [C5 0] fun _ q=>⟨rfl,rfl,rfl,q.ae⟩
  ·rintro ⟨t9,d9⟩ f9 W9 hr9 ⟨g2,g3,g4,hW9⟩
   refine wpIn_ret ?_
   have hd:d9=[{ target:= .collected D,args:=#[] }]:=hr9.defs
   subst hd
   refine ⟨by simp,.inl ⟨_,_,rfl,run_takeDeferred (hW9.holds (Pt D _) (.head _)),?_⟩⟩
   have hW8:=SH.pd (o':= .deferred none) hW9
   obtain ⟨vs,hrun,hvs⟩:=nF (P:=Tryz.prog) (w:=W9.putObj D (.deferred none)) (f:=f9) (tmps:=t9) hr9.rel.val [.cell 2 38,.cell 3 3,.cell 4 55] [.cell 2 none,.cell 3 none,.cell 4 none] (fun vs=>vs=[.slice a1 2 c1',C5 0,C5 0]) (by kernel_rfl) (by
    simp only [iR,g2,g3,g4]
    exact ⟨_,hW8.ld (b:=y) rfl,_,hW8.ld (b:=H) rfl,_,hW8.ld (b:=J) rfl,rfl⟩)
   subst hvs
   refine ⟨.tuple #[.slice a1 2 c1',C5 0,C5 0],?_,_,rfl,k a1 c1' a c _ hW8.ae⟩
   rw [sI,Sem.run_bind,Array.mapM_eq_mapM_toList,Sem.run_map]
   rw [show Tryz.f35.results.toList=[.cell 2 38,.cell 3 3,.cell 4 55] from rfl,hrun]
   rfl
end
end Go.Proofs.YtlhpilgmeededaaGreatDoor
namespace Go.Proofs.YtlhpilgmeededaaGreatDoor
open Go Go.Den Go.RowKit
set_option maxHeartbeats 4000000
set_option maxRecDepth 8000
def pC:fB:=⟨167772161,24,3221225985,24,3221226238,2,0,0,0,0,1,2,0,0,0,0,2,64,256,1024,65535,120,240,7440,60,32,4,300,3,64,16,167772161,4294967040,167772260,167772359,3600,10,600⟩
theorem wA {a b c d e f:Nat} (h:a % 2=0): ¬iW (bq a b c d e f):=by
 rintro ⟨x,q,h1⟩
 simp only [List.head?_cons,Option.some.injEq,Value.int.injEq,true_and] at q
 omega
theorem Cp:ct 167772161 24 167772161:=⟨⟨by decide,by decide+kernel⟩,by decide+kernel,by decide+kernel⟩
theorem Cq:jV pC:=
 ⟨⟨wA rfl,wA rfl,fun h=>by
  have:=congrArg (fun l=>l[5]?) h
  simp [bq,pC] at this⟩,
  ⟨⟨⟨Cp,by unfold fN iV;decide+kernel⟩,⟨⟨⟨by decide,by decide+kernel⟩,by decide+kernel,by decide+kernel⟩,by unfold fN iV;decide+kernel⟩,fun h=>absurd h.2 (by decide+kernel),fun h=>absurd h.2 (by decide+kernel)⟩,.inr ⟨⟨⟨by decide,by decide+kernel⟩,by decide+kernel,by decide+kernel⟩,by decide⟩⟩,
  ⟨by decide,by unfold mN;decide,by unfold gU;decide⟩,⟨by unfold ey;decide,by decide,by decide⟩,
  ⟨⟨by decide,by decide,by unfold fN iV;decide+kernel⟩,⟨rfl,by decide+kernel⟩,⟨⟨by decide,by decide+kernel⟩,by decide+kernel,by decide+kernel⟩,⟨⟨by decide,by decide+kernel⟩,by decide+kernel,by decide+kernel⟩⟩⟩
theorem Cr:iI pC:=⟨by decide,⟨2,0,0,0,0,1,rfl,by decide⟩,⟨2,0,0,0,0,2,rfl,by decide⟩,by decide⟩
theorem lO {w:World} {f:Fr} {o:Oper} {a0 a1 y a3 a4 a5:Int} (H:o.op= .build 28 #[(0,oK (C1 a0)),(1,oK (C1 a1)),(2,oK (C1 y)),(3,oK (C1 a3)),(4,oK (C1 a4)),(5,oK (C1 a5))]):(execOp (ev f) o).run Tryz.prog w= .ok (.value (.agg #[C1 a0,C1 a1,C1 y,C1 a3,C1 a4,C1 a5])) w:=by
 have hz:=ij (P:=Tryz.prog) (t:=28) (z:= .agg #[C1 0,C1 0,C1 0,C1 0,C1 0,C1 0]) (by kernel_rfl) w
 have hi:(Tryz.prog.info? 5).map (·.size)=some 1:=iT
 cases q:Tryz.prog.info? 5 with
 | none=>rw [q] at hi;cases hi
 | some inf=>
  rw [q] at hi
  simp at hi
  unfold execOp
  simp [H,hi,ev,Instr.build,hz,run_underlying Tryz.underlying28,eG q,Instr.fill,Value.cells]
section
variable {w0 w:World} {L R R2 R3:List ao} {K:Value→World→Prop} {b:Nat} {v:Value}
attribute [local irreducible] ay aQ aH aY a6 aW aK aV num be over nb rowOf bD ct ts
theorem c15 (q:SH w0 w L) (k: ∀ Y,SH w0 Y L→K (iJ pC) Y):D 15 [] w K:=by
 refine s15 rfl<|ac<|q.an fun J _ q=>?_
 refine ac ⟨rfl,[.int .u32 167772161,.int .i64 24],rfl,q.an fun y _ q=>?_⟩
 refine q.aj (b:=y) fun _ q=>aJ<|have q:=q.drew;?_
 refine ⟨_,q.af (b:=y) rfl,⟨rfl,[.int .u32 3221225985,.int .i64 24],rfl,⟨rfl,[.int .u32 167772161,.int .i64 24,.int .u32 3221225985,.int .i64 24,.int .u32 3221226238],rfl,?_⟩⟩⟩
 refine ⟨_,lO rfl,⟨_,lO rfl,⟨_,q.ld (b:=y) rfl,?_⟩⟩⟩
 refine ⟨_,q.af (b:=y) rfl,c42 q (fun _ q=>⟨⟨⟨_,q.af (b:=y) rfl,rfl⟩,⟨q.ld (b:=y) rfl,⟨lO rfl,⟨lO rfl,⟨⟨_,q.af (b:=y) rfl,rfl⟩,trivial⟩⟩⟩⟩⟩,?_⟩)⟩
 refine ⟨by kernel_rfl,[.int .i64 64,.int .i64 256,.int .i64 1024,.int .i64 65535,.int .u64 120,.int .u64 240,.int .u64 7440,.int .u64 60],by kernel_rfl,c43 q (fun H _ h_13'2 q=>?_)⟩
 obtain rfl:H=4294967040:=h_13'2.trans (by decide+kernel)
 refine ⟨⟨⟨_,q.af (b:=y) rfl,rfl⟩,⟨q.ld (b:=y) rfl,⟨lO rfl,⟨lO rfl,⟨⟨_,q.af (b:=y) rfl,rfl⟩,trivial⟩⟩⟩⟩⟩,⟨by kernel_rfl,[.int .u32 167772161,.int .u32 4294967040,.int .u32 167772260,.int .u32 167772359,.int .u32 3600,.int .u32 10,.int .u32 600],by kernel_rfl,⟨by kernel_rfl,[.int .u32 167772161,.int .i64 24,.int .u32 3221225985,.int .i64 24,.int .u32 3221226238,.int .u8 2,.int .u8 0,.int .u8 0,.int .u8 0,.int .u8 0,.int .u8 1,.int .u8 2,.int .u8 0,.int .u8 0,.int .u8 0,.int .u8 0,.int .u8 2,.int .i64 64,.int .i64 256,.int .i64 1024,.int .i64 65535,.int .u64 120,.int .u64 240,.int .u64 7440,.int .u64 60,.int .i64 32,.int .i64 4,.int .u64 300,.int .u64 3,.int .i64 64,.int .i64 16,.int .u32 167772161,.int .u32 4294967040,.int .u32 167772260,.int .u32 167772359,.int .u32 3600,.int .u32 10,.int .u32 600],by kernel_rfl,?_⟩⟩⟩
 refine q.aj (b:=J) fun _ q=>ah ⟨_,q.af (b:=J) rfl,?_⟩
 refine k _ q.ae
end
end Go.Proofs.YtlhpilgmeededaaGreatDoor
namespace Go.Proofs.YtlhpilgmeededaaGreatDoor
open Go Go.Den Go.RowKit
set_option maxHeartbeats 4000000
set_option maxRecDepth 8000
theorem Cs:num [0] 12 2≠2048:=by decide
theorem Ct:cY 0 0 [0].length 0:=by unfold cY;decide
theorem Cu:cY 1 0 ([]:List Nat).length 3:=by unfold cY;decide
theorem Cv: ¬ep [0]:=fun h=>by unfold ep at h;simp at h
theorem D1:aF ([]:List (Int × Int)) 1 (IntKind.i64.wrap (bZ [] 1+1))=[(1,1)]:=by decide
section
variable {w0 w:World} {L R R2 R3:List ao} {K:Value→World→Prop} {b:Nat} {v:Value}
attribute [local irreducible] ay aQ aH aY a6 aW aK aV num be over nb rowOf bD ct ts cf
theorem Cw {w0 w:World} {L:List ao} {ad:Addr} {a:Option Addr} {c:Nat} (y:SH w0 w L) [h:dV L (some ad) 4 2 (dY a c++fF)]:cE w (ad.add (0*4)) 0 4=some (dY a c):=
 y.oE rfl fun _ _ q=>by
  rw [Nat.zero_mul,Nat.zero_add,List.getElem?_append_left]
  ·exact q
  ·exact (List.getElem?_eq_some_iff.1 q).1
theorem Cx {w0 w:World} {L:List ao} {ad:Addr} {a:Option Addr} {c:Nat} (q:SH w0 w L) [h:dV L (some ad) 4 2 (dY a c++fF)]:cE w (ad.add (1*4)) 0 4=some fF:=
 q.oE rfl fun t _ y=>by
  rw [List.getElem?_append_right (by show 4≤_;omega),show 1*4+t - (dY a c).length=t by show 1*4+t - 4=t;omega]
  exact y
theorem c9x {p:Nat} {s:bA} (y:rA pC s) (J:SH w0 w L) [q:aC (Ga p) L s R] [hE:di R] [hz:cL R] [hb:aD R v [0]]
  (k: ∀ H Y,H.D=[(1,1)]→H.na.t.count=0→H.now=0→H.bh.c.W=[]→H.bl.c.W=[]→SH w0 Y (Ga p H::R)→K (.tuple #[.agg #[sN,sN],C5 0]) Y):D 9 [pt p,fD 0 0 v 0] w K:=by
 refine c9 (P:=fun _ _=>True) (bs:=[0]) (by rw [y.cnt];omega) (by rw [y.now];decide) (fun _ _=>trivial) (fun _ _ _=>trivial) (fun _ h _=>absurd h Cs) J (by simp) (fun _ _ _ w1 _ _ hX J=>?_) (fun h _ _=>absurd Ct h)
 obtain ⟨po,rfl⟩:=hX.bad rfl Cv (by simp) y.po
 obtain rfl:=hX.none (by decide)
 exact k { s with pa:=none,pc:=0,pl:=[],po:=po,D:=aF s.D 1 (IntKind.i64.wrap (bZ s.D 1+1)) } _ (by show aF s.D 1 (IntKind.i64.wrap (bZ s.D 1+1))=_;rw [y.D];exact D1) y.cnt y.now y.w0 y.w1 J
theorem c9y {p:Nat} {s:bA} (h1:s.na.t.count=0) (h2:s.now=0) (h3:s.bh.c.W=[]) (h4:s.bl.c.W=[]) (y:SH w0 w L) [q:aC (Ga p) L s R] [hE:di R] [hz:cL R]
  (k: ∀ J a c Y,J.D=s.D→SH w0 Y (Ga p J::R)→K (.tuple #[.agg #[.slice a 0 c,sN],C5 0]) Y):D 9 [pt p,fD 1 0 (sN) 3] w K:=by
 have y:=SH.cH (y.at (Ga p))
 refine c9 (P:=fun _ _=>True) (bs:=[]) (by rw [h1];omega) (by rw [h2];decide) (fun h=>absurd h (by decide)) (fun _ _ _=>trivial) (fun h=>absurd h (by decide)) y (by simp) (fun _ H _ _ _ _ hX y=>?_) (fun h _ _=>absurd Cu h)
 obtain ⟨hD,hp⟩:=hX.tick rfl h3 h4
 obtain rfl:=hX.none (by decide)
 have hk:=k H H.pa H.pc _ hD y.ae
 rw [hp]
 exact hk
theorem c39a {p:Nat} {s:bA} (H:s.D=[(1,1)]) (J:SH w0 w L) [q:aC (Ga p) L s R] (k: ∀ y,SH w0 y (Ga p s::R)→K (C5 1) y):D 39 [pt p,C5 1] w K:=
 c39 (r:=1) (by decide) J fun y h=>by
  rw [H]
  exact k _ h
theorem c39b {p r:Nat} {s:bA} (H:s.D=[(1,1)]) (hr:2≤r∧r≤19) (J:SH w0 w L) [q:aC (Ga p) L s R] (k: ∀ y,SH w0 y (Ga p s::R)→K (C5 0) y):D 39 [pt p,C5 r] w K:=
 c39 (r:=r) (by omega) J fun y h=>by
  have e:bZ s.D r=0:=by
   rw [H]
   have h1: ¬ ((1:Int)=(r:Int)):=by omega
   simp [bZ,aB,h1]
  rw [e]
  exact k _ h
theorem c38a (y:SH w0 w L) (k: ∀ q,SH w0 q L→K (.string ⟨#[102,111,114,109]⟩) q):D 38 [C5 1] w K:=
 c38 (r:=1) (by decide) y k
theorem c14 (hL:SH w0 w L) [hE:di L] [hz:cL L] (k: ∀ w',SH w0 w' L→K (.tuple #[.string ⟨#[110,111,110,101,10,110,111,110,101,10,99,111,117,110,116,32,102,111,114,109,32,49,10]⟩,.int .i64 0,.int .i64 0]) w'):D 14 [iJ pC,.string (cf 0)] w K:=by
 refine s14 rfl ?_
 refine ac ?_
 refine hL.az [.int .u32 167772161,.int .i64 pC.b1,.int .u32 3221225985,.int .i64 pC.b2,.int .u32 3221226238,.int .u8 2,.int .u8 0,.int .u8 0,.int .u8 0,.int .u8 0,.int .u8 1,.int .u8 2,.int .u8 0,.int .u8 0,.int .u8 0,.int .u8 0,.int .u8 2,.int .i64 pC.maps,.int .i64 pC.flows,.int .i64 pC.least,.int .i64 pC.most,.int .u64 120,.int .u64 240,.int .u64 7440,.int .u64 60,.int .i64 pC.room,.int .i64 pC.wait,.int .u64 300,.int .u64 3,.int .i64 pC.buffers,.int .i64 pC.ring,.int .u32 167772161,.int .u32 4294967040,.int .u32 167772260,.int .u32 167772359,.int .u32 3600,.int .u32 10,.int .u32 600] fun b_2 w_2 hL=>?_
 refine ac ?_
 refine ⟨_,hL.af (b:=b_2) rfl,?_⟩
 refine c16 Cr hL (fun _ p s w_20 hN hL=>?_) (fun h _ _=>absurd Cq h)
 refine aq ?_
 refine ag [1,4,5,6,7,8] [Value.string (cf 0),Value.string { data:=#[] },.int .i64 0,.int .i64 0,pt p,.int .i64 0] rfl fun g=>?_
 refine ⟨false,decide_eq_false (by decide),?_⟩
 refine ak ?_
 refine ac ?_
 refine c35 hL (fun a1_28 c1_28 a_28 c_28 w_28 hL=>?_)
 refine aq ?_
 refine ag [4,5,6,7,8,9,10] [Value.string { data:=#[] },.int .i64 0,.int .i64 0,pt p,.int .i64 0,.slice a1_28 2 c1_28,.int .i64 0] rfl fun g=>?_
 refine ⟨false,decide_eq_false (by decide),?_⟩
 refine ak ?_
 refine ac ?_
 refine hL.an fun b_11 w_11 hL=>?_
 refine av ?_
 refine ac ?_
 refine aM ?_
 have hL:SH w0 w_11 (Cl b_11 104 [.pointer none,.slice none 0 0]::Row 50 4 (.slice a1_28 2 c1_28) 2 (dY a_28 c_28++fF)::By (sl a_28 c_28 [0]) [0]::Ga p s::L):=hL.ae
 have hL:=SH.o7 hL b_11
 obtain ⟨ad,rfl⟩:=hL.dW a1_28
 refine fE 3 ?_
 refine fh ?_
 refine ac ?_
 refine ⟨true,decide_eq_true (by decide),?_⟩
 refine av ?_
 refine ai ?_
 refine ak ?_
 refine aG ?_
 refine ac ?_
 refine ⟨by decide,_,rfl,?_⟩
 refine ⟨_,Cw (ad:=ad) (a:=a_28) (c:=c_28) hL,?_⟩
 refine ag [4,5,6,7,11,36,37,38,39,40,41] [Value.string { data:=#[] },.int .i64 0,.int .i64 0,pt p,pt b_11,.slice (some ad) 2 c1_28,.int .i64 (↑2),.int .i64 0,.bool true,.pointer (some (ad.add (0*4))),.agg #[.int .i64 0,.int .i64 0,sl a_28 c_28 [0],.int .u64 0]] rfl fun g=>?_
 refine hL.an fun b_13 w_13 hL=>?_
 refine hL.aj (b:=b_13) fun w_40 hL=>?_
 refine ac ?_
 refine ⟨_,hL.af (b:=b_13) rfl,?_⟩
 refine c9x (s:=s) hN hL (fun s1 w_44 hD1 hc1 hn1 hw1 hv1 hL=>?_)
 refine c36 hL (fun b_47 w_47 hL=>?_) _ _
 refine aM ?_
 refine aE [4,5,6,7,11,13,36,37,38,39,40,41,42,43,44,45,46,47,48,49] [Value.string { data:=#[] },.int .i64 0,.int .i64 0,pt p,pt b_11,pt b_13,.slice (some ad) 2 c1_28,.int .i64 2,.int .i64 0,.bool true,.pointer (some (ad.add (0))),.agg #[.int .i64 0,.int .i64 0,sl a_28 c_28 [0],.int .u64 0],pt p,.agg #[.int .i64 0,.int .i64 0,sl a_28 c_28 [0],.int .u64 0],.tuple #[.agg #[.slice none 0 0,.slice none 0 0],.int .i64 0],.agg #[.slice none 0 0,.slice none 0 0],.int .i64 0,.slice (some ⟨b_47,0,none⟩) 1 1,.int .i64 (↑1),.int .i64 0] rfl fun g=>?_
 refine fE 2 ?_
 refine fh ?_
 refine ac ?_
 refine ⟨true,decide_eq_true (by decide),?_⟩
 refine av ?_
 refine ai ?_
 refine ak ?_
 refine aG ?_
 refine ac ?_
 refine ⟨by decide,_,rfl,?_⟩
 refine ⟨_,hL.ld (b:=b_47) rfl,?_⟩
 refine au ?_
 refine ⟨_,jP (a:=_) (b:=_) rfl rfl rfl (by decide),?_⟩
 refine c37s [110,111,110,101,10] (by kernel_rfl) (by decide) (by decide) hL (fun a_55 c_55 w_55 hL=>?_)
 refine au ?_
 refine ⟨_,IntWalk.i64_in _ (by omega),?_⟩
 refine ac ?_
 refine ag [4,5,6,7,11,13,15,36,37,38,39,40,41,42,43,44,45,46,47,48,49,50,51,52,53,54,56] [Value.string { data:=#[] },.int .i64 0,.int .i64 0,pt p,pt b_11,pt b_13,Value.string { data:=#[110,111,110,101] },.slice (some ad) 2 c1_28,.int .i64 2,.int .i64 0,.bool true,.pointer (some (ad.add (0))),.agg #[.int .i64 0,.int .i64 0,sl a_28 c_28 [0],.int .u64 0],pt p,.agg #[.int .i64 0,.int .i64 0,sl a_28 c_28 [0],.int .u64 0],.tuple #[.agg #[.slice none 0 0,.slice none 0 0],.int .i64 0],.agg #[.slice none 0 0,.slice none 0 0],.int .i64 0,.slice (some ⟨b_47,0,none⟩) 1 1,.int .i64 1,.int .i64 (0+1),.bool true,pt b_47,Value.string { data:=#[110,111,110,101] },Value.string { data:=#[110,111,110,101] },Value.string ({ data:=#[110,111,110,101] } ++ { data:=#[10] }),.int .i64 (0+1)] rfl fun g=>?_
 refine ⟨false,decide_eq_false (by decide),?_⟩
 refine av ?_
 refine ai ?_
 refine aS ?_
 refine au ?_
 refine ⟨_,IntWalk.i64_in _ (by omega),?_⟩
 refine ac ?_
 refine ⟨true,decide_eq_true (by decide),?_⟩
 refine av ?_
 refine ai ?_
 refine ak ?_
 refine aG ?_
 refine ac ?_
 refine ⟨by decide,_,rfl,?_⟩
 refine ⟨_,Cx (ad:=ad) (a:=a_28) (c:=c_28) hL,?_⟩
 refine hL.an fun b_13' w_13' hL=>?_
 refine hL.aj (b:=b_13') fun w_62 hL=>?_
 refine ac ?_
 refine ⟨_,hL.af (b:=b_13') rfl,?_⟩
 refine ag [4,5,6,7,11,13,15,36,37,38,39,40,41,42,43,44,45,46,47,48,49,50,51,52,53,54,56,57] [Value.string { data:=#[] },.int .i64 0,.int .i64 0,pt p,pt b_11,pt b_13',Value.string { data:=#[110,111,110,101] },.slice (some ad) 2 c1_28,.int .i64 2,.int .i64 (0+1),.bool true,.pointer (some (ad.add (1*4))),.agg #[.int .i64 1,.int .i64 0,.slice none 0 0,.int .u64 3],pt p,.agg #[.int .i64 1,.int .i64 0,.slice none 0 0,.int .u64 3],.tuple #[.agg #[.slice none 0 0,.slice none 0 0],.int .i64 0],.agg #[.slice none 0 0,.slice none 0 0],.int .i64 0,.slice (some ⟨b_47,0,none⟩) 1 1,.int .i64 1,.int .i64 (0+1),.bool false,pt b_47,Value.string { data:=#[110,111,110,101] },Value.string { data:=#[110,111,110,101] },Value.string ({ data:=#[110,111,110,101] } ++ { data:=#[10] }),.int .i64 (0+1),.int .i64 (0+1)] rfl fun g=>?_
 refine c9y hc1 hn1 hw1 hv1 hL (fun s2 a_44 c_44 w_50 hD2 hL=>?_)
 refine c36 hL (fun b_47' w_47' hL=>?_) _ _
 refine aM ?_
 refine fE 2 ?_
 refine fh ?_
 refine ac ?_
 refine ⟨true,decide_eq_true (by decide),?_⟩
 refine av ?_
 refine ai ?_
 refine ak ?_
 refine aG ?_
 refine ac ?_
 refine ⟨by decide,_,rfl,?_⟩
 refine ⟨_,hL.ld (b:=b_47') rfl,?_⟩
 refine ag [4,5,6,7,11,13,15,36,37,38,39,40,41,42,43,44,45,46,47,48,49,50,51,52,53,54,56,57] [Value.string { data:=#[] },.int .i64 0,.int .i64 0,pt p,pt b_11,pt b_13',Value.string { data:=#[110,111,110,101] },.slice (some ad) 2 c1_28,.int .i64 2,.int .i64 (0+1),.bool true,.pointer (some (ad.add (4))),.agg #[.int .i64 1,.int .i64 0,.slice none 0 0,.int .u64 3],pt p,.agg #[.int .i64 1,.int .i64 0,.slice none 0 0,.int .u64 3],.tuple #[.agg #[.slice a_44 0 c_44,.slice none 0 0],.int .i64 0],.agg #[.slice a_44 0 c_44,.slice none 0 0],.int .i64 0,.slice (some ⟨b_47',0,none⟩) 1 1,.int .i64 (↑1),.int .i64 0,.bool true,pt b_47',Value.string { data:=#[110,111,110,101] },Value.string { data:=#[110,111,110,101] },Value.string ({ data:=#[110,111,110,101] } ++ { data:=#[10] }),.int .i64 (0+1),.int .i64 (0+1)] rfl fun g=>?_
 refine au ?_
 refine ⟨_,jP (a:=_) (b:=_) rfl rfl rfl (by decide),?_⟩
 refine c37s [110,111,110,101,10,110,111,110,101,10] (by kernel_rfl) (by decide) (by decide) hL (fun a_58 c_58 w_58 hL=>?_)
 refine au ?_
 refine ⟨_,IntWalk.i64_in _ (by omega),?_⟩
 refine ac ?_
 refine ⟨false,decide_eq_false (by decide),?_⟩
 refine av ?_
 refine ai ?_
 refine aS ?_
 refine au ?_
 refine ⟨_,IntWalk.i64_in _ (by omega),?_⟩
 refine ac ?_
 refine ag [4,5,6,7,11,13,15,36,37,38,39,40,41,42,43,44,45,46,47,48,49,50,51,52,53,54,56,57] [Value.string { data:=#[] },.int .i64 0,.int .i64 0,pt p,pt b_11,pt b_13',Value.string { data:=#[110,111,110,101] },.slice (some ad) 2 c1_28,.int .i64 2,.int .i64 (0+1+1),.bool true,.pointer (some (ad.add (4))),.agg #[.int .i64 1,.int .i64 0,.slice none 0 0,.int .u64 3],pt p,.agg #[.int .i64 1,.int .i64 0,.slice none 0 0,.int .u64 3],.tuple #[.agg #[.slice a_44 0 c_44,.slice none 0 0],.int .i64 0],.agg #[.slice a_44 0 c_44,.slice none 0 0],.int .i64 0,.slice (some ⟨b_47',0,none⟩) 1 1,.int .i64 1,.int .i64 (0+1),.bool false,pt b_47',Value.string { data:=#[110,111,110,101] },Value.string { data:=#[110,111,110,101] },Value.string ({ data:=#[110,111,110,101] } ++ { data:=#[10] }),.int .i64 (0+1),.int .i64 (0+1+1)] rfl fun g=>?_
 refine ⟨false,decide_eq_false (by decide),?_⟩
 refine av ?_
 refine ai ?_
 refine aS ?_
 refine av ?_
 refine ac ?_
 refine aM ?_
 have hDD:s2.D=[(1,1)]:=hD2.trans hD1
 have hL:SH w0 w_58 (Bd b_11 ⟨true,a_58,c_58,[110,111,110,101,10,110,111,110,101,10]⟩::Ga p s2::L):=hL.ae
 refine bU ([16,17]++List.range' 58 19) rfl [7,11,16] (fun (x:Nat × Option Addr × Nat)=>[pt p,pt b_11,.int .i64 x.1]) (fun x w'=>(1≤x.1∧x.1≤20)∧SH w0 w' (Bd b_11 ⟨true,x.2.1,x.2.2,if x.1=1 then [110,111,110,101,10,110,111,110,101,10] else [110,111,110,101,10,110,111,110,101,10,99,111,117,110,116,32,102,111,114,109,32,49,10]⟩::Ga p s2::L)) (fun x=>20 - x.1) (1,a_58,c_58) rfl ⟨(⟨Nat.le_refl 1,Nat.le.intro (k:=19) rfl⟩:1≤1∧1≤20),hL⟩ ?_
 rintro g ⟨r,a9,c9⟩ w9 ⟨⟨h1,h20⟩,hL⟩
 simp only at h1 h20 hL
 refine aE [7,11,16] [pt p,pt b_11,.int .i64 r] rfl fun g=>?_
 by_cases hr1:r=1
 ·subst hr1
  have hL:SH w0 w9 (Bd b_11 ⟨true,a9,c9,[110,111,110,101,10,110,111,110,101,10]⟩::Ga p s2::L):=hL
  refine aq ?_
  refine c38a hL (fun w_59 hL=>?_)
  refine ⟨_,gE (neg:=true) rfl rfl rfl (by decide),?_⟩
  refine ak ?_
  refine aG ?_
  refine ac ?_
  refine c39a hDD hL (fun w_65 hL=>?_)
  refine ac ?_
  refine ⟨true,decide_eq_true (by decide),?_⟩
  refine ai ?_
  refine au ?_
  refine c38a hL (fun w_69 hL=>?_)
  refine ag [7,11,16,17,69] [pt p,pt b_11,.int .i64 (↑1),.int .i64 1,Value.string { data:=#[102,111,114,109] }] rfl fun g=>?_
  refine ⟨_,jP (a:=_) (b:=_) rfl rfl rfl (by decide),?_⟩
  refine ⟨_,jP (a:=_) (b:=_) rfl rfl rfl (by decide),?_⟩
  refine c40 hL (fun w_73 hL=>?_)
  refine ⟨_,jP (a:=_) (b:=_) rfl rfl rfl (by decide),?_⟩
  refine ⟨_,jP (a:=_) (b:=_) rfl rfl rfl (by decide),?_⟩
  refine c37s [110,111,110,101,10,110,111,110,101,10,99,111,117,110,116,32,102,111,114,109,32,49,10] (by kernel_rfl) (by decide) (by decide) hL (fun a_76 c_76 w_76 hL=>?_)
  refine au ?_
  refine ⟨_,IntWalk.i64_in _ (by omega),?_⟩
  exact ⟨(2,a_76,c_76),rfl,⟨(⟨Nat.le.intro (k:=1) rfl,Nat.le.intro (k:=18) rfl⟩:1≤2∧2≤20),hL⟩,Nat.le.intro (k:=0) rfl⟩
 ·rw [if_neg hr1] at hL
  refine aq ?_
  refine c38 (by omega) hL (fun w_59 hL=>?_)
  by_cases h20':r=20
  ·subst h20'
   refine ⟨_,jZ (neg:=true) rfl rfl rfl rfl,?_⟩
   refine aS ?_
   refine ac ?_
   refine c41s ⟨#[110,111,110,101,10,110,111,110,101,10,99,111,117,110,116,32,102,111,114,109,32,49,10]⟩ (by kernel_rfl) (by decide) hL (fun w_77 hL=>?_)
   refine ah ?_
   refine k _ hL.ae
  ·refine ⟨_,gE (neg:=true) rfl rfl rfl (wu ⟨r,by omega⟩ (by omega)),?_⟩
   refine ak ?_
   refine aG ?_
   refine ac ?_
   refine c39b hDD (by omega) hL (fun w_65 hL=>?_)
   refine ac ?_
   refine ⟨false,decide_eq_false (by decide),?_⟩
   refine ai ?_
   refine ak ?_
   refine au ?_
   refine ag [7,11,16] [pt p,pt b_11,.int .i64 r] rfl fun g=>?_
   refine ⟨_,IntWalk.i64_in _ (by omega),?_⟩
   refine ⟨(r+1,a9,c9),rfl,⟨⟨by omega,by omega⟩,?_⟩,by omega⟩
   show SH w0 w_65 (Bd b_11 ⟨true,a9,c9,if r+1=1 then [110,111,110,101,10,110,111,110,101,10] else [110,111,110,101,10,110,111,110,101,10,99,111,117,110,116,32,102,111,114,109,32,49,10]⟩::Ga p s2::L)
   rw [if_neg (show ¬r+1=1 by omega)]
   exact hL.ae
end
section
attribute [local irreducible] ay aQ aH aY a6 aW aK aV num be over nb rowOf bD ct ts
theorem c4:wj:=fun {w0 w L K} q hE hz k=>by
 refine s4 rfl<|ac<|ac<|c15 q (fun _ q=>c14 (hE:=hE) (hz:=hz) q (fun _ q=>ac (Dt [0,1,2,3,12,16] [.bool false,vS #[110,111,110,101,10,110,111,110,101,10,99,111,117,110,116,32,102,111,114,109,32,49,10],C5 0,C5 0,undef,undef] fun g=>Di (Di (pa 3 rfl (⟨_,jZ (neg:=false) rfl rfl rfl rfl,pa 2 rfl (Dt [0] [.bool !false] fun g=>ah (k _ q.ae))⟩))))))
end
end Go.Proofs.YtlhpilgmeededaaGreatDoor
