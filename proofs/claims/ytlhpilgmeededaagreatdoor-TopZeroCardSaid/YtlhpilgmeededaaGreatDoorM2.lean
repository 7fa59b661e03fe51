/- Part 2 of what the law leans on: Core, Place, Bytes, Concat, Ether, Ether1, Total0, Chunk, TotalX, Total, Sum2, Inet, Inet2, Wire, Wire2, Udp, Udp2, Icmp, Tcp, Turn, Turn2, Turn3, Turn4, Turn5, Turn6, Pass, PortsM, Ports, TzM, Ports2, Ports3, Ports4, Ports5, Iter, MapT, Types, Wheel, WheelM, Wheel2 -/
import Derived.Test.YtlhpilgmeededaaGreatDoorM1
import Derived.Lib.AppendZeros
import Derived.RangeFuncNested
import Derived.RangeFuncBound
import Derived.RangeFuncCalls
import Derived.RangeFuncLeaves
import Derived.RangeFuncBox
import Derived.Shelf.Abstract
import Derived.Shelf.RegionOpen
import Derived.WalkKit
import Derived.OwnWalkIn
import Derived.TacticsInMore
import Derived.LoopNIn
import Derived.LoopIn
import Derived.TacticsIn
import Derived.RegionIn
import Derived.Test.YtlhpilgmeededaaGreatDoorProg
import Derived.KernelRfl
import Derived.DeepKeys4
set_option linter.unusedVariables false
set_option linter.unusedSimpArgs false
namespace Go.Den
open Go Go.RowKit
theorem cG {b:Bool} {K:Bool→Prop} (h1:b=true→K true) (q:b=false→K false): ∃ z,b=z∧K z:=by
 cases b with
 | true=>exact ⟨true,rfl,h1 rfl⟩
 | false=>exact ⟨false,rfl,q rfl⟩
abbrev pt (b:Nat):Value:= .pointer (some ⟨b,0,none⟩)
theorem SH.aN {w0 w:World} {L R:List ao} {b o n:Nat} {t:TypeId} {cs:List Value} (vs cs':List Value) {C:World→Prop} (h:SH w0 w L) [p:aR L b t cs R] (k: ∀ q,SH w0 q (Cl b t cs'::R)→C q)
  (he:bG cs o vs=cs':=by rfl) (y:Nat.beq vs.length n=true:=by rfl) (hl:Nat.ble (o+vs.length) cs.length=true:=by rfl) (h1:vs.all dZ=true:=by rfl):
  vs.toArray.size=n∧ ∃ q,stored w ⟨b,o,none⟩ 0 vs=some q∧C q:=by
 subst he
 exact h.cp vs k y hl h1
theorem SH.aj {w0 w:World} {L R:List ao} {b n:Nat} {t:TypeId} {cs vs:List Value} {C:World→Prop} (h:SH w0 w L) [p:aR L b t cs R] (k: ∀ q,SH w0 q (Cl b t vs::R)→C q)
  (he:Nat.beq vs.length cs.length=true:=by rfl) (H:Nat.beq vs.length n=true:=by rfl) (h1:vs.all dZ=true:=by rfl):
  vs.toArray.size=n∧ ∃ q,stored w ⟨b,0,none⟩ 0 vs=some q∧C q:=by
 have e:=Nat.eq_of_beq_eq_true he
 refine h.cp vs (fun q y=>k q ?_) H (Nat.ble_eq_true_of_le (by omega)) h1
 have e2:bG cs 0 vs=vs:=by
  have: ∀ (vs cs:List Value) (o:Nat),o+vs.length=cs.length→bG cs o vs=cs.take o++vs:=by
   intro vs
   induction vs with
   | nil=>intro cs o h;rw [bG,List.take_of_length_le (by simp at h;omega)];simp
   | cons v vs ih=>
    intro cs o h
    simp only [List.length_cons] at h
    rw [bG,ih (cs.set o v) (o+1) (by simp;omega)]
    have J:o<cs.length:=by omega
    rw [List.take_succ_eq_append_getElem (by simpa using J)]
    simp [List.take_set_of_le]
  simpa using this vs cs 0 (by omega)
 rw [e2] at y
 exact y
theorem bV {P:Program} {K:Fr→World→Prop} {l:cF} {S:World→Prop} {f:Fr} {w:World} (ts:List Nat) (cg:List Value) (q:ts.map f=cg) (h: ∀ g,dJ P K l S (gp g ts cg) w):dJ P K l S f w:=by
 have:=h f
 rwa [kh ts f cg q] at this
theorem tJ {bs:List Nat} (h:bK bs) (l n:Nat):bK ((bs.drop l).take n):=
 ⟨fun b q=>h.1 b (List.mem_of_mem_drop (List.mem_of_mem_take q)),by have:=h.2;rw [List.length_take,List.length_drop];omega⟩
theorem kt {bs:List Nat} (h:bK bs) (l:Nat):bK (bs.drop l):=⟨fun b q=>h.1 b (List.mem_of_mem_drop q),by have:=h.2;rw [List.length_drop];omega⟩
theorem lg {a b:List Nat} (q:bK a) (y:bK b) (h:a.length+b.length≤140737488355328):bK (a++b):=
 ⟨fun x H=>(List.mem_append.1 H).elim (q.1 x) (y.1 x),by rw [List.length_append];exact h⟩
def num (bs:List Nat) (l n:Int):Nat:=be ((bs.drop l.toNat).take n.toNat)
theorem lh {bs:List Nat} (h:bK bs) (l n:Int):num bs l n<256 ^ n.toNat:=by
 have h1:=xJ _ (tJ h l.toNat n.toNat).1
 refine Nat.lt_of_lt_of_le h1 (Nat.pow_le_pow_right (by omega) ?_)
 rw [List.length_take]
 omega
def small (x:Nat) (n:Int):Prop:=(n=1→x<256)∧(n=2→x<65536)∧(n=4→x<4294967296)
theorem nW {bs:List Nat} (h:bK bs) (l n:Int):(n=1→num bs l n<256)∧(n=2→num bs l n<65536)∧(n=4→num bs l n<4294967296):=
 ⟨fun e=>by have:=lh h l n;subst e;exact this,fun e=>by have:=lh h l n;subst e;exact this,fun e=>by have:=lh h l n;subst e;exact this⟩
theorem tK (x n:Nat) (hn:n≤8):bK (nb x n):=⟨kq x n,by rw [br];omega⟩
theorem NB.add {bs:List Nat} {w0 w y:World} {L:List ao} {v:Value} (h:NB bs w v y) (H:bK bs) (J:SH w0 w L): ∃ a c,v=sl a c bs∧bs.length≤c∧SH w0 y (Nb 5 v bs::L):=by
 obtain ⟨A,q,Y⟩:=h
 obtain ⟨a,c,hv,hc⟩:=q.lc
 exact ⟨a,c,hv,hc,SH.fX H (SH.gO q (J.join Y (fun a ha b=>q.sT a ha b)))⟩
end Go.Den
namespace Go.Proofs.YtlhpilgmeededaaGreatDoor
open Go Go.Den
attribute [local irreducible] ay
theorem p8 {x:Nat} {n:Int} (h:(n=1∧x<256)∨(n=2∧x<65536)∨(n=4∧x<4294967296)):fits x n:=by
 rcases h with ⟨rfl,h⟩ | ⟨rfl,h⟩ | ⟨rfl,h⟩
 ·exact ⟨by omega,by omega,fun q=>q.2 (Nat.div_eq_of_lt (by simpa using h))⟩
 ·exact ⟨by omega,by omega,fun q=>q.2 (Nat.div_eq_of_lt (by simpa using h))⟩
 ·exact ⟨by omega,by omega,fun q=>q.2 (Nat.div_eq_of_lt (by simpa using h))⟩
theorem yd (n:Nat) (xs:List Nat) (q:n≤8) (h:xs.length≤1000):bK (rowOf n xs):=⟨xP n xs,by rw [dz];have:=Nat.mul_le_mul h q;omega⟩
theorem tL {bs ps:List Nat} (h:bK bs) (q:bK ps) {l:Nat} (hl:l+ps.length≤bs.length):bK (over bs l ps):=⟨tk h.1 q.1,by rw [eo hl];exact h.2⟩
section
variable {w0 w:World} {L R:List ao} {K:Value→World→Prop} {v u:Value} {bs ps:List Nat}
theorem c56 {l n:Int} (q:SH w0 w L) [hb:aD L v bs] (h:0≤l∧l+n≤bs.length) (y:1≤n∧n≤8) (k:(n=1→num bs l n<256)∧(n=2→num bs l n<65536)∧(n=4→num bs l n<4294967296)→K (.tuple #[C4 (num bs l n),C5 0]) w):
  D 56 [v,C5 l,C5 n] w K:=by
 refine (tf (q.rb v) l n).mono ?_
 rintro _ _ ⟨rfl,rfl⟩
 rw [ko,if_pos y,if_neg (by omega),if_neg (by omega)]
 exact k (nW (q.rb v).gN l n)
theorem c56a {l n:Int} (q:SH w0 w L) [hb:aD L v bs] (h:0≤l∧l+n>bs.length) (y:1≤n∧n≤8) (k:K (.tuple #[C4 0,C5 12]) w):
  D 56 [v,C5 l,C5 n] w K:=by
 refine (tf (q.rb v) l n).mono ?_
 rintro _ _ ⟨rfl,rfl⟩
 rw [ko,if_pos y,if_neg (by omega),if_pos (by omega)]
 exact k
theorem c56b {l n:Int} (y:SH w0 w L) [hb:aD L v bs] (q:0≤l∧1≤n∧n≤8)
  (k1:l+n≤bs.length→(n=1→num bs l n<256)∧(n=2→num bs l n<65536)∧(n=4→num bs l n<4294967296)→K (.tuple #[C4 (num bs l n),C5 0]) w)
  (k2:l+n>bs.length→K (.tuple #[C4 0,C5 12]) w):D 56 [v,C5 l,C5 n] w K:=by
 by_cases h:l+n≤bs.length
 ·exact c56 y ⟨q.1,h⟩ q.2 (k1 h)
 ·exact c56a y ⟨q.1,by omega⟩ q.2 (k2 (by omega))
theorem c34 (y:SH w0 w L) [hb:aD L v bs] (k: ∀ a c q,bs.length≤c→SH w0 q (Nb 5 (sl a c bs) bs::L)→K (sl a c bs) q):D 34 [v] w K:=by
 refine (pY (y.rb v)).mono fun _ q h=>?_
 obtain ⟨a,c,rfl,H,hL'⟩:=h.add (y.rb v).gN y
 exact k a c q H hL'
theorem c354 {l r:Int} (y:SH w0 w L) [hb:aD L v bs] (h:0≤l∧l≤r∧r≤bs.length)
  (k: ∀ a c q,SH w0 q (Nb 5 (sl a c ((bs.drop l.toNat).take (r.toNat - l.toNat))) ((bs.drop l.toNat).take (r.toNat - l.toNat))::L)→K (.tuple #[sl a c ((bs.drop l.toNat).take (r.toNat - l.toNat)),C5 0]) q):
  D 354 [v,C5 l,C5 r] w K:=by
 refine (tg (y.rb v) l r).mono fun _ q H=>?_
 rcases H with ⟨s,rfl,_,_,_,J⟩ | ⟨e,he,_,hbad,_⟩
 ·obtain ⟨a,c,rfl,hc,hL'⟩:=J.add (tJ (y.rb v).gN _ _) y
  exact k a c q hL'
 ·exact absurd h hbad
theorem c354a {l r:Int} (q:SH w0 w L) [hb:aD L v bs] (h: ¬ (0≤l∧l≤r∧r≤bs.length)) (k: ∀ e:Int,e≠0→K (.tuple #[sN,C5 e]) w):
  D 354 [v,C5 l,C5 r] w K:=by
 refine (tg (q.rb v) l r).mono fun _ _ y=>?_
 rcases y with ⟨s,rfl,h1,H,J,hN⟩ | ⟨e,he,rfl,hbad,rfl⟩
 ·exact absurd ⟨h1,H,J⟩ h
 ·exact k e he
theorem nX {n:Nat} {g c:Nat} {t:TypeId} {cs:List Value} {xs:List Nat} (H:SH w0 w L) [p:aR L g t cs R] (y:cs=mc xs) (J: ∀ x∈xs,(n=2∧x<65536)∨(n=4∧x<4294967296)) (hn:n=2∨n=4) (hlen:xs.length≤1000)
  (k: ∀ a c q,SH w0 q (Nb 5 (sl a c (rowOf n xs)) (rowOf n xs)::L)→K (.tuple #[sl a c (rowOf n xs),C5 0]) q):D 78 [C5 n,.slice (some ⟨g,0,none⟩) xs.length c] w K:=by
 have Y:Reads w 1 (.slice (some ⟨g,0,none⟩) xs.length c) xs.length (mc xs):=by
  refine ⟨by simp [mc],_,_,rfl,fun h=>(by cases h),fun _ e _ _ hu=>?_⟩
  cases e
  rw [add_plain,Nat.zero_add,cell_of (H.eI g),y]
  exact hu
 refine (xQ Y n (by omega) (fun x hx'=>p8 (by have:=J x hx';omega)) hlen).mono fun _ q h=>?_
 obtain ⟨s,rfl,hN⟩:=h
 obtain ⟨a,c,rfl,hc,hL'⟩:=hN.add (yd n xs (by omega) hlen) H
 exact k a c q hL'
theorem c78 {n:Nat} {g c:Nat} {t:TypeId} {cs:List Value} {x:Nat} (H:SH w0 w L) [p:aR L g t cs R] (q:cs=[C4 x]) (J:(n=2∧x<65536)∨(n=4∧x<4294967296))
  (k: ∀ a c y,SH w0 y (Nb 5 (sl a c (rowOf n [x])) (rowOf n [x])::L)→K (.tuple #[sl a c (rowOf n [x]),C5 0]) y):D 78 [C5 n,.slice (some ⟨g,0,none⟩) 1 c] w K:=
 nX (xs:=[x]) H q (by simpa using J) (by omega) (by simp) k
theorem c78a {n:Nat} {g c:Nat} {t:TypeId} {cs:List Value} {x y:Nat} (J:SH w0 w L) [p:aR L g t cs R] (q:cs=[C4 x,C4 y]) (Y:(n=2∧x<65536)∨(n=4∧x<4294967296)) (hy:(n=2∧y<65536)∨(n=4∧y<4294967296))
  (k: ∀ a c H,SH w0 H (Nb 5 (sl a c (rowOf n [x,y])) (rowOf n [x,y])::L)→K (.tuple #[sl a c (rowOf n [x,y]),C5 0]) H):D 78 [C5 n,.slice (some ⟨g,0,none⟩) 2 c] w K:=
 nX (xs:=[x,y]) J q (by intro z hz;rcases List.mem_cons.1 hz with rfl | hz;exact Y;rcases List.mem_singleton.1 hz with rfl;exact hy) (by omega) (by simp) k
theorem c78b {n:Nat} {g c:Nat} {t:TypeId} {cs:List Value} {x y z:Nat} (hL:SH w0 w L) [p:aR L g t cs R] (H:cs=[C4 x,C4 y,C4 z]) (hx:(n=2∧x<65536)∨(n=4∧x<4294967296)) (hy:(n=2∧y<65536)∨(n=4∧y<4294967296)) (hz:(n=2∧z<65536)∨(n=4∧z<4294967296))
  (k: ∀ a c J,SH w0 J (Nb 5 (sl a c (rowOf n [x,y,z])) (rowOf n [x,y,z])::L)→K (.tuple #[sl a c (rowOf n [x,y,z]),C5 0]) J):D 78 [C5 n,.slice (some ⟨g,0,none⟩) 3 c] w K:=
 nX (xs:=[x,y,z]) hL H (by intro q Y;simp only [List.mem_cons,List.not_mem_nil,or_false] at Y;rcases Y with rfl | rfl | rfl<;>assumption) (by omega) (by simp) k
theorem c78c {n:Nat} {g c:Nat} {t:TypeId} {cs:List Value} {x y z s:Nat} (hL:SH w0 w L) [p:aR L g t cs R] (H:cs=[C4 x,C4 y,C4 z,C4 s]) (hx:(n=2∧x<65536)∨(n=4∧x<4294967296)) (hy:(n=2∧y<65536)∨(n=4∧y<4294967296)) (hz:(n=2∧z<65536)∨(n=4∧z<4294967296)) (hs:(n=2∧s<65536)∨(n=4∧s<4294967296))
  (k: ∀ a c J,SH w0 J (Nb 5 (sl a c (rowOf n [x,y,z,s])) (rowOf n [x,y,z,s])::L)→K (.tuple #[sl a c (rowOf n [x,y,z,s]),C5 0]) J):D 78 [C5 n,.slice (some ⟨g,0,none⟩) 4 c] w K:=
 nX (xs:=[x,y,z,s]) hL H (by intro q Y;simp only [List.mem_cons,List.not_mem_nil,or_false] at Y;rcases Y with rfl | rfl | rfl | rfl<;>assumption) (by omega) (by simp) k
theorem c361 {l:Nat} (q:SH w0 w L) [hb:aD L v bs] [hp:aD L u ps] (h:l+ps.length≤bs.length) (k: ∀ a c y,SH w0 y (Nb 5 (sl a c (over bs l ps)) (over bs l ps)::L)→K (.tuple #[sl a c (over bs l ps),C5 0]) y):
  D 361 [v,C5 l,u] w K:=by
 refine (tm (q.rb v) (q.rb u) l).mono fun _ y H=>?_
 rcases H with ⟨s,rfl,_,_,J⟩ | ⟨e,he,_,hbad,_⟩
 ·obtain ⟨a,c,rfl,hc,hL'⟩:=J.add (tL (q.rb v).gN (q.rb u).gN h) q
  exact k a c y hL'
 ·exact absurd ⟨by omega,by omega⟩ hbad
theorem c324 {l n x:Nat} (y:SH w0 w L) [hb:aD L v bs] (h:l+n≤bs.length) (hx:(n=1∧x<256)∨(n=2∧x<65536)∨(n=4∧x<4294967296))
  (k: ∀ a c q,SH w0 q (Nb 5 (sl a c (over bs l (nb x n))) (over bs l (nb x n))::L)→K (.tuple #[sl a c (over bs l (nb x n)),C5 0]) q):D 324 [v,C5 l,C5 n,C4 x] w K:=by
 refine (xR (y.rb v) l n x (by omega) (p8 (by omega)) h).mono fun _ q H=>?_
 obtain ⟨s,rfl,J⟩:=H
 obtain ⟨a,c,rfl,hc,hL'⟩:=J.add (tL (y.rb v).gN (tK x n (by omega)) (by rw [br];exact h)) y
 exact k a c q hL'
theorem c132 (y:SH w0 w L) [hb:aD L v bs] (k: ∀ q,SH w0 q L→K (C2 (eJ bs:Nat)) q):D 132 [v] w K:=
 (tx (y.rb v)).mono fun _ q ⟨e,g⟩=>by subst e;exact k q (y.cZ g)
theorem ye {n:Nat} (hL:SH w0 w L) (q:n<18446744073709551616) (k: ∀ m:Nat,m<65536→Alike m n→K (C2 m) w):D 133 [C4 n] w K:=
 (tu n q w).mono fun _ _ ⟨⟨m,e,y,H⟩,J⟩=>by subst e J;exact k m y H
theorem c76 {n:Int} (hL:SH w0 w L) (h:1≤n∧n<20) (k:K (.bool true) w):D 76 [C5 n] w K:=
 (p4 n w).mono fun _ _ ⟨e,q⟩=>by subst e q;rw [decide_eq_true h];exact k
theorem c76a {n:Int} (hL:SH w0 w L) (h: ¬ (1≤n∧n<20)) (k:K (.bool false) w):D 76 [C5 n] w K:=
 (p4 n w).mono fun _ _ ⟨e,q⟩=>by subst e q;rw [decide_eq_false h];exact k
abbrev bu (b:Nat):Value:= .iface 165 (.pointer (some ⟨b,0,none⟩))
def Er (b:Nat) (r:Int):ao where
 ex:=fun x=>x=b
 sh:=fun _=>False
 holds:=fun w=>(1≤r∧r<20)∧ ∃ e:Int,w.heap[b]?=some (.cells [C5 r,.iface 55 (C5 e)].toArray 167 (0,0))
 loc:=fun w w' h ⟨H,e,q⟩=>⟨H,e,(h b (.inl rfl)).trans q⟩
 dom:=fun w ⟨_,e,q⟩ x y=>by rcases y with rfl | y;exact eT q;exact y.elim
def Ex (b:Nat):ao where
 ex:=fun x=>x=b
 sh:=fun _=>False
 holds:=fun w=> ∃ r,(Er b r).holds w
 loc:=fun w y h ⟨r,q⟩=>⟨r,(Er b r).loc w y h q⟩
 dom:=fun w ⟨r,q⟩ x H=>(Er b r).dom w q x H
theorem SH.yf {w0 w:World} {L:List ao} {b:Nat} {r:Int} (h:SH w0 w (Er b r::L)):SH w0 w (Ex b::L):=by
 have y:=List.pairwise_cons.1 h.sep
 refine ⟨h.below,fun A q=>?_,List.pairwise_cons.2 ⟨fun B H=>y.1 B H,y.2⟩,fun A q=>?_⟩
 ·rcases List.mem_cons.1 q with rfl | q
  ·exact ⟨r,h.holds _ (.head _)⟩
  ·exact h.holds A (.tail _ q)
 ·rcases List.mem_cons.1 q with rfl | q
  ·exact h.new (Er b r) (.head _)
  ·exact h.new A (.tail _ q)
instance (priority:=low) selEx (b:Nat) (r:Int) (L R L':List ao) [p:aC (Er b) L r R] [h:fm R L']:fm L (Ex b::L'):=⟨fun M k=>by
 have h1:_:=k.perm ((p.perm.append_left M).trans List.perm_middle)
 have q:=SH.yf h1
 have y:=h.get (Ex b::M) (by simpa using q)
 exact y.perm (by simpa using (List.perm_middle (a:=Ex b) (l₁:=M) (l₂:=L')).symm)⟩
theorem c30 {r e:Int} (J:SH w0 w L) (H:1≤r∧r<20) (he:e≠0) (k: ∀ b y,SH w0 y (Er b r::L)→K (bu b) y):D 30 [C5 r,C5 e] w K:=by
 refine (xZ r e H he w).mono fun _ y h=>?_
 obtain ⟨b,rfl,Y⟩:=h
 have q:=J.join Y
 refine k b y ⟨q.below,fun A hA'=>?_,List.pairwise_cons.2 ⟨fun B hB=>(List.pairwise_cons.1 q.sep).1 B hB,(List.pairwise_cons.1 q.sep).2⟩,fun A hA'=>?_⟩
 ·rcases List.mem_cons.1 hA' with rfl | hA'
  ·exact ⟨H,e,q.holds _ (.head _)⟩
  ·exact q.holds A (.tail _ hA')
 ·rcases List.mem_cons.1 hA' with rfl | hA'
  ·exact fun x hx=>q.new (Cl b 167 [C5 r,.iface 55 (C5 e)]) (.head _) x hx
  ·exact q.new A (.tail _ hA')
end
end Go.Proofs.YtlhpilgmeededaaGreatDoor
namespace Go.Den
open Go Go.RowKit
theorem SH.ar {w0 w:World} {L R:List ao} (h:SH w0 w L) {b o n:Nat} {t:TypeId} {cs:List Value} [p:aR L b t cs R] (vs:List Value) (q:(cs.drop o).take n=vs:=by rfl) (y:Nat.ble (o+n) cs.length=true:=by rfl):cE w ⟨b,o,none⟩ 0 n=some vs:=by
 subst q
 have:=pL (h.eI b) o n 0 (by have:=Nat.le_of_ble_eq_true y;omega)
 simpa using this
theorem ir {m b:Int} {K:Int→Prop} (k: ∀ z,m≤z→b≤z→(z=m∨z=b)→K z): ∃ z,(if b>m then b else m)=z∧K z:=by
 refine ⟨_,rfl,k _ ?_ ?_ ?_⟩<;>split<;>omega
def bw (m:List Value):Prop:= ∃ x0 x1 x2 x3 x4 x5:Nat,m=[C1 x0,C1 x1,C1 x2,C1 x3,C1 x4,C1 x5]∧x0<256∧x1<256∧x2<256∧x3<256∧x4<256∧x5<256
theorem bw.aT {m:List Value} (h:bw m): ∃ ms:List Nat,m=aT ms∧ms.length=6:=by
 obtain ⟨x0,x1,x2,x3,x4,x5,rfl,_⟩:=h
 exact ⟨[x0,x1,x2,x3,x4,x5],rfl,rfl⟩
theorem nY {x0 x1 x2 x3 x4 x5:Nat} (h:bw [C1 x0,C1 x1,C1 x2,C1 x3,C1 x4,C1 x5]):bK [x0,x1,x2,x3,x4,x5]:=by
 obtain ⟨y0,y1,y2,y3,y4,y5,e,h⟩:=h
 simp only [List.cons.injEq,Value.int.injEq,true_and,and_true] at e
 refine ⟨fun _ q=>?_,by simp⟩
 simp only [List.mem_cons,List.not_mem_nil,or_false] at q
 omega
end Go.Den
namespace Go.Proofs.YtlhpilgmeededaaGreatDoor
open Go Go.Den
attribute [local irreducible] ay
theorem nZ:Tryz.prog.underlying 28=some (.array 6 5):=Tryz.underlying28
theorem u5:Tryz.prog.underlying 5=some (.int .u8):=Tryz.underlying5
theorem iT:(Tryz.prog.info? 5).map (·.size)=some 1:=by kernel_rfl
theorem yg:Tryz.prog.eqGuardType Tryz.prog.depth 28=false:=by kernel_rfl
section
variable {w0 w:World} {L R:List ao} {f:Fr} {o:Oper}
theorem od {x y:Operand} {neg:Bool} (q:o.op= .binOp (if neg then .neq else .eql) 28 x y 28) {m m':List Value} (H:bw m) (hm':bw m') (J:ev f x= .agg m.toArray) (Y:ev f y= .agg m'.toArray) {c:Bool} (hc:c=true↔((m=m')↔neg=false)):
  (execOp (ev f) o).run Tryz.prog w= .ok (.value (.bool c)) w:=by
 obtain ⟨a,rfl,ha⟩:=H.aT
 obtain ⟨b,rfl,hb⟩:=hm'.aT
 refine yc (neg:=neg) q yg nZ u5 iT (a:=a) (b:=b) J Y ha hb ?_
 have hinj:aT a=aT b↔a=b:=by
  refine ⟨fun h=>?_,fun h=>by rw [h]⟩
  have:Function.Injective fun (b:Nat)=>C1 (b:Int):=fun x y h=>by
   have h:(x:Int)=y:=by simpa using h
   omega
  exact (List.map_inj_right this).1 h
 rw [hinj] at hc
 cases neg<;>cases c<;>simp_all
theorem mg {x y:Operand} {neg:Bool} {C:Value→Prop} (q:o.op= .binOp (if neg then .neq else .eql) 28 x y 28) {m m':List Value} (H:bw m) (hm':bw m') (J:ev f x= .agg m.toArray) (Y:ev f y= .agg m'.toArray)
  (k1:m=m'→C (.bool (!neg))) (k2:m≠m'→C (.bool neg)): ∃ v,(execOp (ev f) o).run Tryz.prog w= .ok (.value v) w∧C v:=by
 by_cases h:m=m'
 ·exact ⟨_,od (c:=!neg) q H hm' J Y (by simp [h]),k1 h⟩
 ·exact ⟨_,od (c:=neg) q H hm' J Y (by simp [h]),k2 h⟩
theorem ku {x i:Operand} {a:Addr} {k:IntKind} {j:Int} (q:o.op= .indexAddr 28 x i:=by rfl) (y:ev f x= .pointer (some a):=by rfl) (hi:ev f i= .int k j:=by rfl) (H:0≤j∧j<6:=by exact ⟨by omega,by omega⟩):
  (execOp (ev f) o).run Tryz.prog w= .ok (.value (.pointer (some (a.add (j.toNat*1))))) w:=jD (len:=6) (elem:=5) q nZ iT y hi H
end
end Go.Proofs.YtlhpilgmeededaaGreatDoor
namespace Go.Proofs.YtlhpilgmeededaaGreatDoor
open Go Go.Den
set_option maxHeartbeats 4000000
set_option maxRecDepth 8000
section
attribute [local irreducible] ay aQ
abbrev iu (ip:Int) (bits:Int):Value:= .agg #[C3 ip,C5 bits]
def iU (b:Int):Int:=if 8≤b∧b≤30 then IntKind.u32.wrap (4294967295*2 ^ (min (32 - b).toNat IntKind.u32.bits)) else 0
def kv (ip b:Int):Int:=aH .and .u32 ip (iU b)
def mh (ip b:Int):Int:=if 8≤b∧b≤30 then aH .or .u32 ip (aH .xor .u32 (if IntKind.u32.signed then -1 else IntKind.u32.max) (iU b)) else 0
def jG (ip b x:Int):Prop:=(8≤b∧b≤30)∧aH .and .u32 x (iU b)=kv ip b
def ct (ip b x:Int):Prop:=jG ip b x∧x≠kv ip b∧x≠mh ip b
def iV (x:Int):Int:=x.fdiv (2 ^ (min (24:Int).toNat IntKind.u32.bits))
def fN (x:Int):Prop:=1≤iV x∧iV x≤223∧iV x≠127
def iv (ip b:Int):Prop:=ct ip b ip∧fN ip
def jH (i1 q i2 y:Int):Prop:=iv i1 q∧iv i2 y∧ ¬jG i1 q (kv i2 y)∧ ¬jG i2 y (kv i1 q)
section
variable {w0 w:World} {L R:List ao} {K:Value→World→Prop}
theorem c86 {ip bits:Int} (q:SH w0 w L) (k1:(8≤bits∧bits≤30)→ ∀ y,SH w0 y L→K (.bool true) y) (k2: ¬ (8≤bits∧bits≤30)→ ∀ y,SH w0 y L→K (.bool false) y):D 86 [iu ip bits] w K:=by
 refine s86 rfl<|ac<|q.az _ fun H _ q=>ac<|q.C9 (b:=H) rfl<|ap (fun J=>?_) (fun J=>?_)
 ·refine q.C9 (b:=H) rfl<|ap (fun Y=>?_) (fun Y=>?_)
  ·refine ah<|k1 (by omega) _ q.ae
  ·refine ah<|k2 (by omega) _ q.ae
 ·refine ah<|k2 (by omega) _ q.ae
theorem c43 {ip bits:Int} (q:SH w0 w L) (k: ∀ m J,m=iU bits→SH w0 J L→K (C3 m) J):D 43 [iu ip bits] w K:=by
 refine s43 rfl<|ac<|q.az _ fun Y _ q=>aq<|q.Da (b:=Y) rfl<|c86 q (fun y H q=>?_) (fun y H q=>?_)
 ·refine Dj<|ak<|ac<|q.C9 (b:=Y) rfl<|Db ⟨by omega,_,rfl,ah (k _ _ (by (simp [iU, *];done)) q.ae)⟩
 ·refine Dj<|ac<|ah<|k _ _ (by (simp [iU, *];done)) q.ae
theorem c94 {ip bits:Int} (q:SH w0 w L) (k: ∀ m H,m=kv ip bits→SH w0 H L→K (.int .u32 m) H):D 94 [iu ip bits] w K:=by
 refine s94 rfl<|ac<|q.az _ fun y _ q=>aJ<|have q:=q.drew;q.C9 (b:=y) rfl<|q.Da (b:=y) rfl<|c43 q (fun _ _ _ q=>⟨⟨(by first | exact ⟨_,q.af (b:=y) rfl,rfl⟩ | exact ⟨_,q.ar (b:=y) rfl,rfl⟩),⟨q.ld (b:=y) rfl,trivial⟩⟩,Dj (ah (k _ _ (by (simp [kv, *];done)) q.ae))⟩)
theorem c93 {ip bits x:Int} (y:SH w0 w L) (k1:jG ip bits x→ ∀ H,SH w0 H L→K (.bool true) H) (k2: ¬jG ip bits x→ ∀ H,SH w0 H L→K (.bool false) H):D 93 [iu ip bits,.int .u32 x] w K:=by
 refine s93 rfl<|ac<|y.az _ fun q _ y=>aJ<|have y:=y.drew;y.Da (b:=q) rfl<|c86 y (fun J Y y=>?_) (fun J Y y=>?_)
 ·refine ⟨⟨(by first | exact ⟨_,y.af (b:=q) rfl,rfl⟩ | exact ⟨_,y.ar (b:=q) rfl,rfl⟩),trivial⟩,y.Da (b:=q) rfl (y.Da (b:=q) rfl (c43 y (fun _ _ _ y=>⟨⟨(by first | exact ⟨_,y.af (b:=q) rfl,rfl⟩ | exact ⟨_,y.ar (b:=q) rfl,rfl⟩),⟨(by first | exact ⟨_,y.af (b:=q) rfl,rfl⟩ | exact ⟨_,y.ar (b:=q) rfl,rfl⟩),⟨(by first | exact ⟨_,y.af (b:=q) rfl,rfl⟩ | exact ⟨_,y.ar (b:=q) rfl,rfl⟩),trivial⟩⟩⟩,Dj (c94 y (fun _ _ _ y=>⟨⟨(by first | exact ⟨_,y.af (b:=q) rfl,rfl⟩ | exact ⟨_,y.ar (b:=q) rfl,rfl⟩),⟨(by first | exact ⟨_,y.af (b:=q) rfl,rfl⟩ | exact ⟨_,y.ar (b:=q) rfl,rfl⟩),⟨(by first | exact ⟨_,y.af (b:=q) rfl,rfl⟩ | exact ⟨_,y.ar (b:=q) rfl,rfl⟩),trivial⟩⟩⟩,ap (fun h26=>?_) (fun h26=>?_)⟩))⟩)))⟩
  ·refine ah<|k1 (by (simp_all [jG];done)) _ y.ae
  ·refine ah<|k2 (by (simp_all [jG];done)) _ y.ae
 ·refine ⟨⟨(by first | exact ⟨_,y.af (b:=q) rfl,rfl⟩ | exact ⟨_,y.ar (b:=q) rfl,rfl⟩),trivial⟩,ah (k2 (by (simp [jG, *];done)) _ y.ae)⟩
theorem c91 {x:Int} (hL:SH w0 w L) (k1:fN x→K (.bool true) w) (k2: ¬fN x→K (.bool false) w):D 91 [C3 x] w K:=by
 refine s91 rfl<|ac<|ac ⟨by decide,_,rfl,ac (ap (fun H=>?_) (fun H=>?_))⟩
 ·refine ap (fun q=>?_) (fun q=>?_)
  ·refine ap (fun y=>?_) (fun y=>?_)
   ·refine ah<|k1 (by trivial)
   ·refine ah<|k2 (by (simp_all [fN,iV];done))
  ·refine ah<|k2 (by (simp only [fN,iV];omega))
 ·refine ah<|k2 (by (simp only [fN,iV];omega))
theorem c95 {ip bits:Int} (hL:SH w0 w L) (k: ∀ m w',m=mh ip bits→SH w0 w' L→K (.int .u32 m) w'):D 95 [iu ip bits] w K:=by
 refine s95 rfl ?_
 refine ac ?_
 refine hL.az _ fun b9 w9 hL=>?_
 refine aq ?_
 refine ⟨_,hL.af (b:=b9) rfl,?_⟩
 refine c86 hL (fun h12 w12 hL=>?_) (fun h12 w12 hL=>?_)
 ·refine ⟨_,rfl,?_⟩
  refine ak ?_
  refine aJ ?_
  have hL:=hL.drew
  refine ⟨_,hL.ld (b:=b9) rfl,?_⟩
  refine ⟨_,hL.af (b:=b9) rfl,?_⟩
  refine c43 hL (fun m16 w16 h162 hL=>?_)
  refine ⟨⟨(by first | exact ⟨_,hL.af (b:=b9) rfl,rfl⟩ | exact ⟨_,hL.ar (b:=b9) rfl,rfl⟩),⟨hL.ld (b:=b9) rfl,trivial⟩⟩,?_⟩
  refine ⟨_,p3 rfl rfl,?_⟩
  refine ⟨_,rfl,?_⟩
  refine ah ?_
  refine k _ _ (by (simp [mh, *];done)) hL.ae
 ·refine ⟨_,rfl,?_⟩
  refine ac ?_
  refine ah ?_
  refine k _ _ (by (simp [mh, *];done)) hL.ae
theorem c51 {ip bits x:Int} (q:SH w0 w L) (k1:ct ip bits x→ ∀ H,SH w0 H L→K (.bool true) H) (k2: ¬ct ip bits x→ ∀ H,SH w0 H L→K (.bool false) H):D 51 [iu ip bits,C3 x] w K:=by
 refine s51 rfl<|ac<|q.az _ fun y _ q=>ac<|q.Da (b:=y) rfl<|c93 q (fun J Y q=>?_) (fun J Y q=>?_)
 ·refine q.Da (b:=y) rfl<|c94 q (fun _ _ _ q=>ap (fun h21=>?_) (fun h21=>?_))
  ·refine q.Da (b:=y) rfl<|c95 q (fun _ _ _ q=>ap (fun h26=>?_) (fun h26=>?_))
   ·refine ah<|k1 (by (simp_all [ct];done)) _ q.ae
   ·refine ah<|k2 (by (simp_all [ct];done)) _ q.ae
  ·refine ah<|k2 (by (simp_all [ct];done)) _ q.ae
 ·refine ah<|k2 (by (simp [ct, *];done)) _ q.ae
theorem c89 {ip bits:Int} (q:SH w0 w L) (k1:iv ip bits→ ∀ H,SH w0 H L→K (.bool true) H) (k2: ¬iv ip bits→ ∀ H,SH w0 H L→K (.bool false) H):D 89 [iu ip bits] w K:=by
 refine s89 rfl<|ac<|q.az _ fun y _ q=>ac<|q.Da (b:=y) rfl<|q.C9 (b:=y) rfl<|c51 q (fun J Y q=>?_) (fun J Y q=>?_)
 ·refine q.C9 (b:=y) rfl<|c91 q (fun h16=>?_) (fun h16=>?_)
  ·refine ah<|k1 (by trivial) _ q.ae
  ·refine ah<|k2 (by (simp [iv, *];done)) _ q.ae
 ·refine ah<|k2 (by (simp [iv, *];done)) _ q.ae
theorem c52 {i1 Y i2 b2:Int} (q:SH w0 w L) (k1:jH i1 Y i2 b2→ ∀ J,SH w0 J L→K (.bool true) J) (k2: ¬jH i1 Y i2 b2→ ∀ J,SH w0 J L→K (.bool false) J):D 52 [iu i1 Y,iu i2 b2] w K:=by
 refine s52 rfl<|ac<|q.az _ fun y _ q=>q.az _ fun H _ q=>aJ<|have q:=q.drew;q.Da (b:=y) rfl<|c89 q (fun h19 w19 q=>?_) (fun h19 w19 q=>?_)
 ·refine ⟨⟨(by first | exact ⟨_,q.af (b:=y) rfl,rfl⟩ | exact ⟨_,q.ar (b:=y) rfl,rfl⟩),trivial⟩,q.Da (b:=H) rfl (c89 q (fun h22 w22 q=>?_) (fun h22 w22 q=>?_))⟩
  ·refine ⟨⟨(by first | exact ⟨_,q.af (b:=H) rfl,rfl⟩ | exact ⟨_,q.ar (b:=H) rfl,rfl⟩),⟨(by first | exact ⟨_,q.af (b:=y) rfl,rfl⟩ | exact ⟨_,q.ar (b:=y) rfl,rfl⟩),trivial⟩⟩,q.Da (b:=y) rfl (q.Da (b:=H) rfl (c94 q (fun _ _ _ q=>⟨⟨(by first | exact ⟨_,q.af (b:=H) rfl,rfl⟩ | exact ⟨_,q.ar (b:=H) rfl,rfl⟩),⟨(by first | exact ⟨_,q.af (b:=y) rfl,rfl⟩ | exact ⟨_,q.ar (b:=y) rfl,rfl⟩),⟨(by first | exact ⟨_,q.af (b:=H) rfl,rfl⟩ | exact ⟨_,q.ar (b:=H) rfl,rfl⟩),⟨(by first | exact ⟨_,q.af (b:=y) rfl,rfl⟩ | exact ⟨_,q.ar (b:=y) rfl,rfl⟩),trivial⟩⟩⟩⟩,c93 q (fun h29 w29 q=>?_) (fun h29 w29 q=>?_)⟩)))⟩
   ·refine ⟨⟨(by first | exact ⟨_,q.af (b:=H) rfl,rfl⟩ | exact ⟨_,q.ar (b:=H) rfl,rfl⟩),⟨(by first | exact ⟨_,q.af (b:=y) rfl,rfl⟩ | exact ⟨_,q.ar (b:=y) rfl,rfl⟩),⟨(by first | exact ⟨_,q.af (b:=H) rfl,rfl⟩ | exact ⟨_,q.ar (b:=H) rfl,rfl⟩),⟨(by first | exact ⟨_,q.af (b:=y) rfl,rfl⟩ | exact ⟨_,q.ar (b:=y) rfl,rfl⟩),trivial⟩⟩⟩⟩,Dj (ah (k2 (by (simp_all [jH];done)) _ q.ae))⟩
   ·refine ⟨⟨(by first | exact ⟨_,q.af (b:=H) rfl,rfl⟩ | exact ⟨_,q.ar (b:=H) rfl,rfl⟩),⟨(by first | exact ⟨_,q.af (b:=y) rfl,rfl⟩ | exact ⟨_,q.ar (b:=y) rfl,rfl⟩),⟨(by first | exact ⟨_,q.af (b:=H) rfl,rfl⟩ | exact ⟨_,q.ar (b:=H) rfl,rfl⟩),⟨(by first | exact ⟨_,q.af (b:=y) rfl,rfl⟩ | exact ⟨_,q.ar (b:=y) rfl,rfl⟩),trivial⟩⟩⟩⟩,Dj (q.Da (b:=H) rfl (q.Da (b:=y) rfl (c94 q (fun _ _ _ q=>⟨⟨(by first | exact ⟨_,q.af (b:=y) rfl,rfl⟩ | exact ⟨_,q.ar (b:=y) rfl,rfl⟩),⟨(by first | exact ⟨_,q.af (b:=H) rfl,rfl⟩ | exact ⟨_,q.ar (b:=H) rfl,rfl⟩),⟨(by first | exact ⟨_,q.af (b:=H) rfl,rfl⟩ | exact ⟨_,q.ar (b:=H) rfl,rfl⟩),⟨(by first | exact ⟨_,q.af (b:=y) rfl,rfl⟩ | exact ⟨_,q.ar (b:=y) rfl,rfl⟩),⟨(by first | exact ⟨_,q.af (b:=H) rfl,rfl⟩ | exact ⟨_,q.ar (b:=H) rfl,rfl⟩),⟨(by first | exact ⟨_,q.af (b:=y) rfl,rfl⟩ | exact ⟨_,q.ar (b:=y) rfl,rfl⟩),trivial⟩⟩⟩⟩⟩⟩,c93 q (fun h36 w36 q=>?_) (fun h36 w36 q=>?_)⟩))))⟩
    ·refine ⟨⟨(by first | exact ⟨_,q.af (b:=y) rfl,rfl⟩ | exact ⟨_,q.ar (b:=y) rfl,rfl⟩),⟨(by first | exact ⟨_,q.af (b:=H) rfl,rfl⟩ | exact ⟨_,q.ar (b:=H) rfl,rfl⟩),⟨(by first | exact ⟨_,q.af (b:=H) rfl,rfl⟩ | exact ⟨_,q.ar (b:=H) rfl,rfl⟩),⟨(by first | exact ⟨_,q.af (b:=y) rfl,rfl⟩ | exact ⟨_,q.ar (b:=y) rfl,rfl⟩),⟨(by first | exact ⟨_,q.af (b:=H) rfl,rfl⟩ | exact ⟨_,q.ar (b:=H) rfl,rfl⟩),⟨(by first | exact ⟨_,q.af (b:=y) rfl,rfl⟩ | exact ⟨_,q.ar (b:=y) rfl,rfl⟩),trivial⟩⟩⟩⟩⟩⟩,Dj (ah (k2 (by (simp_all [jH];done)) _ q.ae))⟩
    ·refine ⟨⟨(by first | exact ⟨_,q.af (b:=y) rfl,rfl⟩ | exact ⟨_,q.ar (b:=y) rfl,rfl⟩),⟨(by first | exact ⟨_,q.af (b:=H) rfl,rfl⟩ | exact ⟨_,q.ar (b:=H) rfl,rfl⟩),⟨(by first | exact ⟨_,q.af (b:=H) rfl,rfl⟩ | exact ⟨_,q.ar (b:=H) rfl,rfl⟩),⟨(by first | exact ⟨_,q.af (b:=y) rfl,rfl⟩ | exact ⟨_,q.ar (b:=y) rfl,rfl⟩),⟨(by first | exact ⟨_,q.af (b:=H) rfl,rfl⟩ | exact ⟨_,q.ar (b:=H) rfl,rfl⟩),⟨(by first | exact ⟨_,q.af (b:=y) rfl,rfl⟩ | exact ⟨_,q.ar (b:=y) rfl,rfl⟩),trivial⟩⟩⟩⟩⟩⟩,Dj (ah (k1 (by (simp_all [jH];done)) _ q.ae))⟩
  ·refine ⟨⟨(by first | exact ⟨_,q.af (b:=H) rfl,rfl⟩ | exact ⟨_,q.ar (b:=H) rfl,rfl⟩),⟨(by first | exact ⟨_,q.af (b:=y) rfl,rfl⟩ | exact ⟨_,q.ar (b:=y) rfl,rfl⟩),trivial⟩⟩,ah (k2 (by (simp [jH, *];done)) _ q.ae)⟩
 ·refine ⟨⟨(by first | exact ⟨_,q.af (b:=y) rfl,rfl⟩ | exact ⟨_,q.ar (b:=y) rfl,rfl⟩),trivial⟩,ah (k2 (by (simp [jH, *];done)) _ q.ae)⟩
end
end
end Go.Proofs.YtlhpilgmeededaaGreatDoor
namespace Go.Den
open Go Go.RowKit
section
variable {w0 w:World} {L R:List ao}
class iw (L:List ao) (a:Option Addr) (bs:outParam (List Nat)):Prop where
 get: ∀ {w0 w:World},SH w0 w L→ ∃ n c,Rb w (.slice a n c) bs
instance liesBy (L:List ao) (a:Option Addr) (n c:Nat) (bs:List Nat):iw (By (.slice a n c) bs::L) a bs:=⟨fun h=>⟨n,c,h.holds (By _ bs) (.head _)⟩⟩
instance liesNb (L:List ao) (e:TypeId) (a:Option Addr) (n c:Nat) (bs:List Nat):iw (Nb e (.slice a n c) bs::L) a bs:=⟨fun h=>⟨n,c,h.l7⟩⟩
instance (priority:=low) liesSkip (A:ao) (L:List ao) (a:Option Addr) (bs:List Nat) [h:iw L a bs]:iw (A::L) a bs:=⟨fun k=>h.get k.tail⟩
theorem SH.enter {v:Value} {bs:List Nat} (y:SH w0 w L) [h:aD L v bs]: ∃ a c,v= .slice a bs.length c∧bs.length≤c∧bK bs∧iw L a bs:=by
 have q:=h.get y
 obtain ⟨a,c,rfl,H⟩:=q.slice
 exact ⟨a,c,rfl,H,q.gN,⟨fun k=>⟨_,_,h.get k⟩⟩⟩
theorem SH.dp {bs:List Nat} (q:SH w0 w L) (a:Option Addr) [h:iw L a bs] (h0:0<bs.length:=by first | omega | (simp<;>omega)): ∃ ad,a=some ad:=by
 obtain ⟨n,c,y⟩:=h.get q
 obtain ⟨_,a',c',e,H,_⟩:=y.reads
 cases e
 cases a with
 | none=>have:=H rfl;omega
 | some ad=>exact ⟨ad,rfl⟩
class gP (L:List ao) (ad:Addr) (bs:outParam (List Nat)):Prop where
 get: ∀ {w0 w:World},SH w0 w L→ ∃ n c,Rb w (.slice (some ad) n c) bs
instance atBy (L:List ao) (ad:Addr) (n c:Nat) (bs:List Nat):gP (By (.slice (some ad) n c) bs::L) ad bs:=⟨fun h=>⟨n,c,h.holds (By _ bs) (.head _)⟩⟩
instance atNb (L:List ao) (e:TypeId) (ad:Addr) (n c:Nat) (bs:List Nat):gP (Nb e (.slice (some ad) n c) bs::L) ad bs:=⟨fun h=>⟨n,c,h.l7⟩⟩
instance (priority:=low) atSkip (A:ao) (L:List ao) (ad:Addr) (bs:List Nat) [h:gP L ad bs]:gP (A::L) ad bs:=⟨fun k=>h.get k.tail⟩
instance (priority:=low) atIn (L:List ao) (ad:Addr) (bs:List Nat) [h:iw L (some ad) bs]:gP L ad bs:=⟨fun k=>h.get k⟩
theorem SH.aX {bs:List Nat} {ad:Addr} (y:SH w0 w L) [h:gP L ad bs] {j:Nat} (q:j<bs.length:=by first | omega | (simp<;>omega)):w.cell? (ad.add (j*1))=some (C1 ((bs.getD j 0:Nat):Int)):=by
 obtain ⟨n,c,H⟩:=h.get y
 obtain ⟨a,c',e,J⟩:=H.at q
 cases e
 rw [J,List.getD_eq_getElem?_getD,List.getElem?_eq_getElem q]
 rfl
theorem SH.cV {bs:List Nat} {ad:Addr} (y:SH w0 w L) [h:gP L ad bs] {j:Nat} {C:Value→Prop} (k:bs.getD j 0<256→C (C1 ((bs.getD j 0:Nat):Int))) (q:j<bs.length:=by first | omega | (simp<;>omega)): ∃ v,w.cell? (ad.add (j*1))=some v∧C v:=by
 refine ⟨_,y.aX q,k ?_⟩
 obtain ⟨n,c,H⟩:=h.get y
 rw [List.getD_eq_getElem?_getD,List.getElem?_eq_getElem q]
 exact H.byte _ (List.getElem_mem q)
theorem tM {w:World} {ad:Addr} : ∀ (n i:Nat) (vs:List Value),vs.length=n→(∀ j v,vs[j]?=some v→w.cell? (ad.add (i+j))=some v)→cE w ad i n=some vs
 | 0,i,vs,hl,_=>by rw [List.eq_nil_of_length_eq_zero hl];rfl
 | n+1,i,vs,hl,h=>by
  cases vs with
  | nil=>simp at hl
  | cons v vs=>
   have h1:=h 0 v rfl
   have q:=tM (w:=w) (ad:=ad) n (i+1) vs (by simpa using hl) (fun j u y=>by
    have:=h (j+1) u (by simpa using y)
    rwa [show i+(j+1)=i+1+j by omega] at this)
   simp only [cE]
   rw [Nat.add_zero] at h1
   rw [h1,q]
theorem SH.tN {bs:List Nat} {ad:Addr} (y:SH w0 w L) [h:gP L ad bs] {n:Nat} (hn:n≤bs.length:=by first | omega | (simp<;>omega)):cE w ad 0 n=some (aT (bs.take n)):=by
 obtain ⟨m,c,H⟩:=h.get y
 obtain ⟨_,a',c',e,ha,J⟩:=H.reads
 cases e
 refine tM n 0 _ (by rw [fW,List.length_take];omega) fun j v q=>?_
 rw [Nat.zero_add]
 refine J ad rfl j v ?_
 rw [sV,List.getElem?_take] at q
 split at q
 ·exact q
 ·cases q
abbrev p9 (bs:List Nat) (j:Nat):List Value:=[C1 ((bs.getD j 0:Nat):Int),C1 ((bs.getD (j+1) 0:Nat):Int),C1 ((bs.getD (j+2) 0:Nat):Int),C1 ((bs.getD (j+3) 0:Nat):Int),C1 ((bs.getD (j+4) 0:Nat):Int),C1 ((bs.getD (j+5) 0:Nat):Int)]
theorem ft {bs:List Nat} (h: ∀ b∈bs,b<256) (j:Nat):bs.getD j 0<256:=by
 rw [List.getD_eq_getElem?_getD]
 cases e:bs[j]? with
 | none=>exact (by decide:(0:Nat)<256)
 | some b=>exact h b (List.mem_of_getElem? e)
theorem oe {bs:List Nat} (h:bK bs) (j:Nat):bw (p9 bs j):=⟨_,_,_,_,_,_,rfl,ft h.1 _,ft h.1 _,ft h.1 _,ft h.1 _,ft h.1 _,ft h.1 _⟩
theorem SH.bB {bs:List Nat} {ad:Addr} (y:SH w0 w L) [h:gP L ad bs] (q:6≤bs.length:=by first | omega | (simp<;>omega)):cE w ad 0 6=some (p9 bs 0):=by
 rw [y.tN q]
 match bs,q with
 | a::b::c::d::e::f::r,_=>rfl
theorem SH.gN {bs:List Nat} {ad:Addr} (q:SH w0 w L) [h:gP L ad bs]:bK bs:=by
 obtain ⟨_,_,y⟩:=h.get q
 exact y.gN
theorem SH.tP {e:TypeId} {bs:List Nat} (q:SH w0 w L) (v:Value) [p:aC (Nb e v) L bs R]:SH w0 w (By v bs::R):=(q.perm p.perm).l8
class kx (L:List ao) (a:Option Addr) (n c:Nat) (bs:outParam (List Nat)):Prop where
 mem:By (.slice a n c) bs∈L
instance memHead (L:List ao) (a:Option Addr) (n c:Nat) (bs:List Nat):kx (By (.slice a n c) bs::L) a n c bs:=⟨.head _⟩
instance (priority:=low) memTail (A:ao) (L:List ao) (a:Option Addr) (n c:Nat) (bs:List Nat) [h:kx L a n c bs]:kx (A::L) a n c bs:=⟨.tail _ h.mem⟩
theorem SH.p' {a:Option Addr} {n c:Nat} {bs:List Nat} (y:SH w0 w L) [h:kx L a n c bs] {l hi m:Nat} (hl:l≤hi) (hh:hi≤bs.length) (hm:hi≤m):
  ∃ Y c',(Value.slice (if m=l then a else a.map (·.add (l*1))) (hi - l) (m - l))=sl Y c' ((bs.drop l).take (hi - l))∧SH w0 w (By (sl Y c' ((bs.drop l).take (hi - l))) ((bs.drop l).take (hi - l))::L):=by
 have hr:Rb w (.slice a n c) bs:=y.holds _ h.mem
 have hn:n=bs.length:=by obtain ⟨_,_,e,_⟩:=hr.slice;cases e;rfl
 subst hn
 have hlen:((bs.drop l).take (hi - l)).length=hi - l:=by rw [List.length_take,List.length_drop];omega
 have hcut:=hr.cut hl hh hm
 refine ⟨_,m - l,by rw [sl,hlen],?_⟩
 have hcut':Rb w (sl (if m=l then a else a.map (·.add (l*1))) (m - l) ((bs.drop l).take (hi - l))) ((bs.drop l).take (hi - l)):=by rw [sl,hlen];exact hcut
 have hd:=y.dup _ h.mem (fun _ H=>H)
 have hs:=List.pairwise_cons.1 hd.sep
 refine y.reads hcut' fun A hA b H=>?_
 rintro ⟨h0,q⟩
 have J:bs≠[]:=fun e=>h0 (by rw [e];simp)
 refine (hs.1 A hA b).2 ⟨J,?_⟩ H
 cases a with
 | none=>split at q<;>cases q
 | some ad=>
  have hx: ∀ k,(ad.add k).block=ad.block:=fun k=>by unfold Addr.add;split<;>rfl
  split at q
  ·exact q
  ·simpa [fk,hx] using q
theorem SH.tQ {a:Option Addr} {n c m:Nat} {bs:List Nat} {C:Value→Prop} {i:Int} (l:Nat) (J:SH w0 w L) [h:kx L a n c bs]
  (k: ∀ q y,SH w0 w (By (sl q y (bs.drop l)) (bs.drop l)::L)→C (sl q y (bs.drop l))) (Y:i=(l:Int):=by first | omega | rfl | (simp<;>omega)) (hi:l≤bs.length:=by first | omega | (simp<;>omega)):
  ∃ l:Nat,(i=l∧l≤n)∧ ∃ v,(Value.slice (if c=l then a else a.map (·.add (l*1))) (n - l) (c - l))=v∧C v:=by
 have hr:Rb w (.slice a n c) bs:=J.holds _ h.mem
 have hn:n=bs.length∧n≤c:=by obtain ⟨_,_,e,H⟩:=hr.slice;cases e;exact ⟨rfl,H⟩
 obtain ⟨rfl,H⟩:=hn
 subst Y
 obtain ⟨q,y,e,hL'⟩:=J.p' (a:=a) (n:=bs.length) (c:=c) (bs:=bs) (l:=l) (hi:=bs.length) (m:=c) (by omega) (Nat.le_refl _) H
 have ht:(bs.drop l).take (bs.length - l)=bs.drop l:=List.take_of_length_le (by rw [List.length_drop];omega)
 rw [ht] at e hL'
 exact ⟨l,⟨rfl,by omega⟩,_,e,k q y hL'⟩
theorem SH.tR {a:Option Addr} {n c:Nat} {bs:List Nat} {C:Value→Prop} {i:Int} (l:Nat) (H:SH w0 w L) [h:kx L a n c bs]
  (k: ∀ q y,SH w0 w (By (sl q y (bs.take l)) (bs.take l)::L)→C (sl q y (bs.take l))) (Y:i=(l:Int):=by first | omega | rfl | (simp<;>omega)) (hi:l≤bs.length:=by first | omega | (simp<;>omega)):
  ∃ x:Nat,(i=x∧x≤c)∧ ∃ v,(Value.slice (if c=0 then a else a.map (·.add (0*1))) (x - 0) (c - 0))=v∧C v:=by
 have hr:Rb w (.slice a n c) bs:=H.holds _ h.mem
 have hn:n=bs.length∧n≤c:=by obtain ⟨_,_,e,J⟩:=hr.slice;cases e;exact ⟨rfl,J⟩
 obtain ⟨rfl,J⟩:=hn
 subst Y
 obtain ⟨q,y,e,hL'⟩:=H.p' (a:=a) (n:=bs.length) (c:=c) (bs:=bs) (l:=0) (hi:=l) (m:=c) (by omega) (by omega) (by omega)
 have ht:(bs.drop 0).take (l - 0)=bs.take l:=by simp
 rw [ht] at e hL'
 exact ⟨l,⟨rfl,by omega⟩,_,e,k q y hL'⟩
theorem aD.cut {M:List ao} {a:Option Addr} {n c:Nat} {bs:List Nat} (h:aD M (.slice a n c) bs) {l hi:Nat} (hl:l≤hi) (Y:hi≤bs.length) (hM:SH w0 w M):
  ∃ q y,(Value.slice (if c=l then a else a.map (·.add (l*1))) (hi - l) (c - l))=sl q y ((bs.drop l).take (hi - l))∧aD M (sl q y ((bs.drop l).take (hi - l))) ((bs.drop l).take (hi - l)):=by
 have hlen:((bs.drop l).take (hi - l)).length=hi - l:=by rw [List.length_take,List.length_drop];omega
 refine ⟨_,c - l,by rw [sl,hlen],⟨fun {w0' w'} hM'=>?_⟩⟩
 have H:=h.get hM'
 have hn:n=bs.length∧n≤c:=by obtain ⟨_,_,e,J⟩:=H.slice;cases e;exact ⟨rfl,J⟩
 obtain ⟨rfl,J⟩:=hn
 have:=H.cut hl Y (m:=c) (by omega)
 rw [sl,hlen]
 exact this
theorem SH.eV {L M:List ao} {a:Option Addr} {n c:Nat} {bs:List Nat} {C:Value→Prop} {i:Int} (l:Nat) (J:SH w0 w L) [s:fm L M] [h:aD M (.slice a n c) bs]
  (k: ∀ y H,aD M (sl y H (bs.drop l)) (bs.drop l)→iw M y (bs.drop l)→C (sl y H (bs.drop l))) (h0:i=(l:Int):=by first | omega | rfl | (simp<;>omega)) (hi:l≤bs.length:=by first | omega | (simp<;>omega)):
  ∃ l:Nat,(i=l∧l≤n)∧ ∃ v,(Value.slice (if c=l then a else a.map (·.add (l*1))) (n - l) (c - l))=v∧C v:=by
 have hr:=h.get (J.ae (L':=M))
 have hn:n=bs.length∧n≤c:=by obtain ⟨_,_,e,Y⟩:=hr.slice;cases e;exact ⟨rfl,Y⟩
 obtain ⟨rfl,Y⟩:=hn
 subst h0
 obtain ⟨y,H,e,hL'⟩:=h.cut (l:=l) (hi:=bs.length) (by omega) (Nat.le_refl _) (J.ae (L':=M))
 have ht:(bs.drop l).take (bs.length - l)=bs.drop l:=List.take_of_length_le (by rw [List.length_drop];omega)
 rw [ht] at e hL'
 exact ⟨l,⟨rfl,by omega⟩,_,e,k y H hL' ⟨fun q=>⟨_,_,hL'.get q⟩⟩⟩
theorem SH.lj {L M:List ao} {a:Option Addr} {n c:Nat} {bs:List Nat} {C:Value→Prop} {i:Int} (l:Nat) (J:SH w0 w L) [s:fm L M] [h:aD M (.slice a n c) bs]
  (k: ∀ y H,aD M (sl y H (bs.take l)) (bs.take l)→iw M y (bs.take l)→C (sl y H (bs.take l))) (h0:i=(l:Int):=by first | omega | rfl | (simp<;>omega)) (hi:l≤bs.length:=by first | omega | (simp<;>omega)):
  ∃ x:Nat,(i=x∧x≤c)∧ ∃ v,(Value.slice (if c=0 then a else a.map (·.add (0*1))) (x - 0) (c - 0))=v∧C v:=by
 have hr:=h.get (J.ae (L':=M))
 have hn:n=bs.length∧n≤c:=by obtain ⟨_,_,e,Y⟩:=hr.slice;cases e;exact ⟨rfl,Y⟩
 obtain ⟨rfl,Y⟩:=hn
 subst h0
 obtain ⟨y,H,e,hL'⟩:=h.cut (l:=0) (hi:=l) (by omega) (by omega) (J.ae (L':=M))
 have ht:(bs.drop 0).take (l - 0)=bs.take l:=by simp
 rw [ht] at e hL'
 exact ⟨l,⟨rfl,by omega⟩,_,e,k y H hL' ⟨fun q=>⟨_,_,hL'.get q⟩⟩⟩
theorem SH.qa {L M:List ao} {a:Option Addr} {n c:Nat} {bs:List Nat} {C:Value→Prop} {i j:Int} (l x:Nat) (J:SH w0 w L) [s:fm L M] [h:aD M (.slice a n c) bs]
  (k: ∀ y H,aD M (sl y H ((bs.drop l).take (x - l))) ((bs.drop l).take (x - l))→iw M y ((bs.drop l).take (x - l))→C (sl y H ((bs.drop l).take (x - l)))) (h0:i=(l:Int):=by first | omega | rfl | (simp<;>omega)) (h1:j=(x:Int):=by first | omega | rfl | (simp<;>omega)) (hij:l≤x:=by first | omega | (simp<;>omega)) (hj:x≤bs.length:=by first | omega | (simp<;>omega)):
  ∃ x:Nat,(j=x∧x≤c)∧ ∃ l:Nat,(i=l∧l≤x)∧ ∃ v,(Value.slice (if c=l then a else a.map (·.add (l*1))) (x - l) (c - l))=v∧C v:=by
 have hr:=h.get (J.ae (L':=M))
 have hn:n=bs.length∧n≤c:=by obtain ⟨_,_,e,Y⟩:=hr.slice;cases e;exact ⟨rfl,Y⟩
 obtain ⟨rfl,Y⟩:=hn
 subst h0 h1
 obtain ⟨y,H,e,hL'⟩:=h.cut (l:=l) (hi:=x) (by omega) (by omega) (J.ae (L':=M))
 exact ⟨x,⟨rfl,by omega⟩,l,⟨rfl,by omega⟩,_,e,k y H hL' ⟨fun q=>⟨_,_,hL'.get q⟩⟩⟩
theorem SH.ix {g o:Nat} {t:TypeId} {cs:List Value} (J:SH w0 w L) [p:aR L g t cs R] {bs:List Nat} (H:bK bs) (y:(cs.drop o).take bs.length=aT bs):
  Rb w (.slice (some ⟨g,o,none⟩) bs.length bs.length) bs:=by
 refine ⟨⟨by rw [fW];omega,_,_,rfl,fun h=>(by cases h),fun _ e _ _ q=>?_⟩,H.1,H.2,_,_,rfl,Nat.le_refl _⟩
 cases e
 rw [add_plain,cell_of (J.eI g)]
 rw [←y,List.getElem?_take] at q
 split at q
 ·rw [List.getElem?_drop] at q
  exact q
 ·cases q
end
theorem yh {P:Program} {o:Oper} {f:Fr} {w0 w:World} {L:List ao} {K:Value→World→Prop} {s x:Operand} {t tn e:TypeId} {kn:IntKind} {z:Value} {size bytes:Nat} (he:nL P t e z size bytes) (y:P.underlying tn=some (.int kn))
  (ho:o.op= .call { callee:= .builtin .append,args:=#[s,x],argTypes:=#[t,tn] }) {n:Nat} {k:IntKind} (hs:ev f s=sN) (hx:ev f x= .int k n) (hL:SH w0 w L) (h0:0<n) (hn:n≤maxLen) (hb:n*bytes≤140737488355328)
  (kk: ∀ g cap cs w',cs.length=cap*size→n≤cap→cap≤maxLen→SH w0 w' (Cl g e cs::L)→K (.slice (some ⟨g,0,none⟩) n cap) w'):aL P o f w K:=by
 have hi:=he.info
 cases q:P.info? e with
 | none=>rw [q] at hi;cases hi
 | some i=>
  rw [q] at hi
  simp only [Option.map_some,Option.some.injEq,Prod.mk.injEq] at hi
  obtain ⟨H,J,Y⟩:=hi
  have hm:maxLen=9223372036854775807∨maxLen≤9223372036854775807:=by simp [maxLen]
  have hr:=Lib.run_append_nil_zeros (P:=P) w t tn o.type e i z k kn he.und y q H n h0 (by rw [J];exact he.pos) (by omega) (by rw [Y];omega)
  have hcap:=grownCap_ge w n 0 e
  have hcm:=grownCap_le_maxLen w n 0 e hn
  unfold aL execOp
  simp only [ho,resolve,invoke,builtin,Sem.run_bind,Sem.run_pure,Result.andThen_ok,List.map_toArray,List.map_cons,List.map_nil,hs,hx,hr]
  refine kk w.heap.size (grownCap w n 0 e) _ _ ?_ hcap hcm (hL.row e _)
  simp only [Array.toList_append,List.length_append,Array.length_toList,size_zeroCells,he.cells,←Nat.add_mul]
  congr 1
  omega
end Go.Den
namespace Go.Proofs.YtlhpilgmeededaaGreatDoor
open Go Go.Den
attribute [local irreducible] ay
theorem u3:Tryz.prog.underlying 3=some (.int .i64):=Tryz.underlying3
theorem mi:Tryz.prog.underlying 44=some (.slice 5):=Tryz.underlying44
section
variable {w0 w:World} {L R:List ao} {K:Value→World→Prop} {v u:Value} {bs ps:List Nat}
theorem mj {f:Fr} {o:Oper} {x:Operand} {t:TypeId} {e:TypeId} (q:Tryz.prog.underlying t=some (.slice e)) {a:Option Addr} {n c:Nat} (y:o.op= .call { callee:= .builtin .cap,args:=#[x],argTypes:=#[t] } :=by rfl) (H:ev f x= .slice a n c:=by rfl):
  (execOp (ev f) o).run Tryz.prog w= .ok (.value (C5 c)) w:=by
 unfold execOp
 simp [y,resolve,invoke,builtin,H,Builtin.cap_,goInt,run_underlying q]
end
end Go.Proofs.YtlhpilgmeededaaGreatDoor
namespace Go.Proofs.YtlhpilgmeededaaGreatDoor
open Go Go.Den
set_option maxHeartbeats 4000000
set_option maxRecDepth 8000
section
attribute [local irreducible] ay
section
variable {w0 w:World} {L R:List ao} {K:Value→World→Prop} {v u:Value} {bs ps:List Nat}
theorem yj (n:Nat) (hn:n≤1000000) (w:World):D 180 [.slice none 0 0,.int .i64 n] w fun r J=> ∃ A,bY 5 1 r 0 [] A∧SH w J A:=by
 have q:=SH.nil w
 refine s180 rfl<|ac<|aq ?_
 refine ⟨false,decide_eq_false (by omega),ak (av ?_)⟩
 refine ac ⟨_,mj mi,⟨_,IntWalk.i64_in _ (by omega),?_⟩⟩
 refine ⟨(n:Int),(IntWalk.i64_in _ (by omega)).trans (by omega),ac (ap (fun Y=>?_) (fun Y=>?_))⟩
 ·refine ai<|au ⟨_,mj mi,?_⟩
  refine ⟨_,⟨rfl,by omega⟩,_,rfl,yh gq u3 rfl rfl rfl q (n:=n) (by omega) (by simp only [maxLen];omega) (by omega) fun g cap cs _ y _ H q=>⟨0,⟨rfl,by omega⟩,_,rfl,?_⟩⟩
  refine ac<|ah ⟨[Cl g 5 cs],?_,q⟩
  have e:bY 5 1 (.slice (some ⟨g,0,none⟩) 0 cap) 0 (cs.take (0*1)) [Cl g 5 cs]:= .at g cs 0 cap y (by omega) H
  have e0:(Value.slice (if cap=0 then some ⟨g,0,none⟩ else (some (⟨g,0,none⟩:Addr)).map (·.add (0*1))) (0 - 0) (cap - 0))= .slice (some ⟨g,0,none⟩) 0 cap:=by
   split<;>rfl
  rw [show cs.take (0*1)=[] from by simp] at e
  rw [←e0] at e
  exact e
 ·refine ai<|ak<|ac ?_
  exact ah ⟨[],.none none,q⟩
theorem tS {g c:Nat} {t:TypeId} {ps:List (Value × List Nat)} (hg:w.heap[g]?=some (.cells (ps.map (·.1)).toArray t (0,0))) (hp: ∀ p∈ps,Rb w p.1 p.2) (hlen:(ps.flatMap (·.2)).length≤1000000) (hps:ps.length≤1000):
  D 131 [.slice (some ⟨g,0,none⟩) ps.length c] w (NB (ps.flatMap (·.2)) w):=by
 refine s131 rfl<|ac<|ac<|av<|ac<|aM ?_
 refine bU ([3,5]++List.range' 11 12) rfl [11,3] (fun (i:Nat)=>[C5 i,C5 (((ps.take i).flatMap (·.2)).length:Nat)]) (fun i w'=>i≤ps.length∧w=w') (fun i=>ps.length - i) 0 rfl ⟨Nat.zero_le _,rfl⟩ ?_
 rintro g1 i _ ⟨hi,rfl⟩
 refine ac<|ap (fun y=>?_) (fun y=>?_)
 ·refine av<|ai<|ak<|aG<|ac ⟨by omega,_,rfl,?_⟩
  have q:i<ps.length:=by omega
  obtain ⟨a,c',hv,hc'⟩:=(hp ps[i] (List.getElem_mem q)).slice
  have hcell:w.cell? ((⟨g,0,none⟩:Addr).add ((i:Int).toNat*1))=some (.slice a ps[i].2.length c'):=by
   rw [add_plain,cell_of hg,Nat.zero_add,Nat.mul_one,List.getElem?_map]
   simp [q,←hv]
  have hnext:((ps.take (i+1)).flatMap (·.2)).length=((ps.take i).flatMap (·.2)).length+ps[i].2.length:=by
   rw [List.take_succ_eq_append_getElem q,List.flatMap_append,List.length_append];simp
  have Y:((ps.take (i+1)).flatMap (·.2)).length≤(ps.flatMap (·.2)).length:=by
   have:=congrArg (fun l=>(l.flatMap (·.2)).length) (List.take_append_drop (i+1) ps)
   simp only [List.flatMap_append,List.length_append] at this
   omega
  exact ⟨_,hcell,ac (⟨((((ps.take (i+1)).flatMap (·.2)).length:Nat):Int),(IntWalk.i64_in _ (by omega)).trans (by omega),ac (Df (ai (ak (au (⟨((i+1:Nat):Int),(IntWalk.i64_in _ (by omega)).trans (by omega),⟨i+1,rfl,⟨by omega,rfl⟩,by omega⟩⟩)))))⟩)⟩
 ·refine av<|ai<|aS ?_
  have:i=ps.length:=by omega
  subst this
  rw [List.take_length]
  refine ac<|(yj _ hlen w).mono ?_
  rintro v w1 ⟨A,H,J⟩
  refine av<|ac<|aM ?_
  refine bU ([6,8]++List.range' 27 8) rfl [27,6] (fun (s:Nat × Value)=>[C5 s.1,s.2]) (fun s w'=>s.1≤ps.length∧ ∃ A,bY 5 1 s.2 ((ps.take s.1).flatMap (·.2)).length (aT ((ps.take s.1).flatMap (·.2))) A∧SH w w' A) (fun s=>ps.length - s.1) (0,v) rfl ⟨Nat.zero_le _,A,H,J⟩ ?_
  rintro g2 ⟨i,v⟩ w2 ⟨hi,A,H,J⟩
  simp only at hi H
  refine ac<|ap (fun y=>?_) (fun y=>?_)
  rotate_left
  ·have:i=ps.length:=by omega
   subst this
   rw [List.take_length] at H
   exact av<|ai<|aS<|ac<|ah ⟨A,H,J⟩
  have q:i<ps.length:=by omega
  obtain ⟨a,c',hv,hc'⟩:=(hp ps[i] (List.getElem_mem q)).slice
  have hcell:w.cell? ((⟨g,0,none⟩:Addr).add ((i:Int).toNat*1))=some (.slice a ps[i].2.length c'):=by
   rw [add_plain,cell_of hg,Nat.zero_add,Nat.mul_one,List.getElem?_map]
   simp [q,←hv]
  have hrd:=(hp ps[i] (List.getElem_mem q)).reads
  rw [hv] at hrd
  have hnext:((ps.take (i+1)).flatMap (·.2))=((ps.take i).flatMap (·.2))++ps[i].2:=by
   rw [List.take_succ_eq_append_getElem q,List.flatMap_append];simp
  have Y:((ps.take (i+1)).flatMap (·.2)).length≤(ps.flatMap (·.2)).length:=by
   have:=congrArg (fun l=>(l.flatMap (·.2)).length) (List.take_append_drop (i+1) ps)
   simp only [List.flatMap_append,List.length_append] at this
   omega
  rw [hnext,List.length_append] at Y
  refine av<|ai<|ak<|aG<|ac ⟨⟨by omega,by omega⟩,_,rfl,⟨_,J.grown.cell hcell,au (app _ _ gq rfl rfl rfl (R:=[]) (by rw [List.append_nil];exact J) H (hrd.cZ J.grown) (l5 _) (by simp only [maxLen];omega) (by omega) fun v' _ A' ho' hL'=>?_)⟩⟩
  rw [List.append_nil] at hL'
  refine au ⟨((i+1:Nat):Int),(IntWalk.i64_in _ (by omega)).trans (by omega),⟨(i+1,v'),rfl,⟨by omega,A',?_,hL'⟩,by show ps.length - (i+1)<ps.length - i;omega⟩⟩
  show bY 5 1 v' ((ps.take (i+1)).flatMap (·.2)).length (aT ((ps.take (i+1)).flatMap (·.2))) A'
  rw [hnext,List.length_append,gM]
  exact ho'
theorem ml {g c:Nat} {t:TypeId} {cs:List Value} (ps:List (Value × List Nat)) (Y:SH w0 w L) [p:aR L g t cs R] (H:cs=ps.map (·.1)) (hp: ∀ p∈ps,Rb w p.1 p.2) (hlen:(ps.flatMap (·.2)).length≤1000000) (J:ps.length≤1000)
  (k: ∀ a c y,SH w0 y (Nb 5 (sl a c (ps.flatMap (·.2))) (ps.flatMap (·.2))::L)→K (sl a c (ps.flatMap (·.2))) y):D 131 [.slice (some ⟨g,0,none⟩) ps.length c] w K:=by
 subst H
 refine (tS (Y.eI g) hp hlen J).mono fun _ y h=>?_
 have q:bK (ps.flatMap (·.2)):=⟨fun b q=>by obtain ⟨p,hp',q⟩:=List.mem_flatMap.1 q;exact (hp p hp').byte b q,by omega⟩
 obtain ⟨a,c,rfl,hc,hL'⟩:=h.add q Y
 exact k a c y hL'
theorem c131 {g c:Nat} {t:TypeId} {cs:List Value} {v0 v1:Value} {q y:List Nat} (Y:SH w0 w L) [p:aR L g t cs R] (H:cs=[v0,v1]) (h0:Rb w v0 q) (h1:Rb w v1 y) (hlen:q.length+y.length≤1000000)
  (k: ∀ a c J,SH w0 J (Nb 5 (sl a c (q++y)) (q++y)::L)→K (sl a c (q++y)) J):D 131 [.slice (some ⟨g,0,none⟩) 2 c] w K:=by
 refine ml [(v0,q),(v1,y)] Y H (by simp only [List.mem_cons,List.not_mem_nil,or_false,forall_eq_or_imp,forall_eq];exact ⟨h0,h1⟩) (by simp only [List.flatMap_cons,List.flatMap_nil,List.append_nil,List.length_append];omega) (by simp) ?_
 simpa only [List.flatMap_cons,List.flatMap_nil,List.append_nil] using k
theorem c131a {g c:Nat} {t:TypeId} {cs:List Value} {v0 v1 v2:Value} {q y H:List Nat} (hL:SH w0 w L) [p:aR L g t cs R] (J:cs=[v0,v1,v2]) (h0:Rb w v0 q) (h1:Rb w v1 y) (h2:Rb w v2 H) (hlen:q.length+y.length+H.length≤1000000)
  (k: ∀ a c Y,SH w0 Y (Nb 5 (sl a c (q++(y++H))) (q++(y++H))::L)→K (sl a c (q++(y++H))) Y):D 131 [.slice (some ⟨g,0,none⟩) 3 c] w K:=by
 refine ml [(v0,q),(v1,y),(v2,H)] hL J (by simp only [List.mem_cons,List.not_mem_nil,or_false,forall_eq_or_imp,forall_eq];exact ⟨h0,h1,h2⟩) (by simp only [List.flatMap_cons,List.flatMap_nil,List.append_nil,List.length_append];omega) (by simp) ?_
 simpa only [List.flatMap_cons,List.flatMap_nil,List.append_nil] using k
theorem c131b {g c:Nat} {t:TypeId} {cs:List Value} {v0 v1 v2 v3:Value} {q y H J:List Nat} (hL:SH w0 w L) [p:aR L g t cs R] (Y:cs=[v0,v1,v2,v3]) (h0:Rb w v0 q) (h1:Rb w v1 y) (h2:Rb w v2 H) (h3:Rb w v3 J) (hlen:q.length+y.length+H.length+J.length≤1000000)
  (k: ∀ a c w',SH w0 w' (Nb 5 (sl a c (q++(y++(H++J)))) (q++(y++(H++J)))::L)→K (sl a c (q++(y++(H++J)))) w'):D 131 [.slice (some ⟨g,0,none⟩) 4 c] w K:=by
 refine ml [(v0,q),(v1,y),(v2,H),(v3,J)] hL Y (by simp only [List.mem_cons,List.not_mem_nil,or_false,forall_eq_or_imp,forall_eq];exact ⟨h0,h1,h2,h3⟩) (by simp only [List.flatMap_cons,List.flatMap_nil,List.append_nil,List.length_append];omega) (by simp) ?_
 simpa only [List.flatMap_cons,List.flatMap_nil,List.append_nil] using k
theorem c131d {g c:Nat} {t:TypeId} {cs:List Value} {v0 v1 v2 v3 v4 v5:Value} {q y H J Y b5:List Nat} (hL:SH w0 w L) [p:aR L g t cs R] (hcs:cs=[v0,v1,v2,v3,v4,v5]) (h0:Rb w v0 q) (h1:Rb w v1 y) (h2:Rb w v2 H) (h3:Rb w v3 J) (h4:Rb w v4 Y) (h5:Rb w v5 b5) (hlen:q.length+y.length+H.length+J.length+Y.length+b5.length≤1000000)
  (k: ∀ a c w',SH w0 w' (Nb 5 (sl a c (q++(y++(H++(J++(Y++b5)))))) (q++(y++(H++(J++(Y++b5)))))::L)→K (sl a c (q++(y++(H++(J++(Y++b5)))))) w'):D 131 [.slice (some ⟨g,0,none⟩) 6 c] w K:=by
 refine ml [(v0,q),(v1,y),(v2,H),(v3,J),(v4,Y),(v5,b5)] hL hcs (by simp only [List.mem_cons,List.not_mem_nil,or_false,forall_eq_or_imp,forall_eq];exact ⟨h0,h1,h2,h3,h4,h5⟩) (by simp only [List.flatMap_cons,List.flatMap_nil,List.append_nil,List.length_append];omega) (by simp) ?_
 simpa only [List.flatMap_cons,List.flatMap_nil,List.append_nil] using k
end
end
section
attribute [local irreducible] ay aQ
theorem bC {w:World} {f:Fr} {o:Oper} {x:Operand} {a:Option Addr} {n c:Nat} (q:o.op= .sliceToArrayPointer 28 x:=by rfl) (y:ev f x= .slice a n c:=by rfl) (H:6≤n:=by first | omega | (simp<;>omega)):(execOp (ev f) o).run Tryz.prog w= .ok (.value (.pointer a)) w:=tq q nZ y H
theorem dq {w:World} {f:Fr} {o:Oper} {x:Operand} {a:Addr} (q:o.op= .slice 28 x none none none:=by rfl) (y:ev f x= .pointer (some a):=by rfl):(execOp (ev f) o).run Tryz.prog w= .ok (.value (.slice (some a) 6 6)) w:=pZ (len:=6) (elem:=5) q nZ iT y (by decide)
theorem yk {x:Nat} (q:x<256):aH .and .u8 (x:Int) 1=((x % 2:Nat):Int):=by
 have h1:(BitVec.ofInt 8 (x:Int)).toNat=x:=by
  rw [BitVec.ofInt_natCast,BitVec.toNat_ofNat];exact Nat.mod_eq_of_lt q
 have y:(BitVec.ofInt 8 (1:Int)).toNat=2 ^ 1 - 1:=by decide
 show IntKind.u8.wrap ((BitVec.ofInt 8 _ &&& BitVec.ofInt 8 _).toNat:Int)=_
 rw [BitVec.toNat_and,h1,y,Nat.and_two_pow_sub_one_eq_mod]
 exact IntWalk.u8_in _ (by omega)
theorem tU {w:World} {f:Fr} {o:Oper} {x y:Operand} {neg:Bool} (q:o.op= .binOp (if neg then .neq else .eql) 28 x y 28) {m m':List Value} (h:m=m':=by assumption) (H:bw m:=by assumption) (hm':bw m':=by assumption) (J:ev f x= .agg m.toArray:=by rfl) (Y:ev f y= .agg m'.toArray:=by rfl):
  (execOp (ev f) o).run Tryz.prog w= .ok (.value (.bool (!neg))) w:=od (c:=!neg) q H hm' J Y (by simp [h])
theorem mm {w:World} {f:Fr} {o:Oper} {x y:Operand} {neg:Bool} (q:o.op= .binOp (if neg then .neq else .eql) 28 x y 28) {m m':List Value} (h: ¬m=m':=by assumption) (H:bw m:=by assumption) (hm':bw m':=by assumption) (J:ev f x= .agg m.toArray:=by rfl) (Y:ev f y= .agg m'.toArray:=by rfl):
  (execOp (ev f) o).run Tryz.prog w= .ok (.value (.bool neg)) w:=od (c:=neg) q H hm' J Y (by simp [h])
section
variable {w0 w:World} {L R:List ao} {K:Value→World→Prop} {v u:Value} {bs ps:List Nat}
theorem c31 {l:Int} (q:SH w0 w L) [hb:aD L v bs] (h:0≤l∧l+2≤bs.length) (k:num bs l 2<65536→K (C2 (num bs l 2)) w):D 31 [v,C5 l] w K:=by
 refine s31 rfl<|ac<|ac<|c56 (v:=v) q (by omega) (by omega) (fun _=>ac (⟨_,IntWalk.u16_in _ (by omega),ah (k (by omega))⟩))
theorem c100 {l:Int} (q:SH w0 w L) [hb:aD L v bs] (h:0≤l∧l+2≤bs.length) (k:num bs l 2<65536→K (C5 (num bs l 2)) w):D 100 [v,C5 l] w K:=by
 refine s100 rfl<|ac<|ac<|c56 (v:=v) q (by omega) (by omega) (fun _=>ac (Db (ah (k (by omega)))))
theorem c101 {l:Int} (q:SH w0 w L) [hb:aD L v bs] (h:0≤l∧l+4≤bs.length) (k:num bs l 4<4294967296→K (C3 (num bs l 4)) w):D 101 [v,C5 l] w K:=by
 refine s101 rfl<|ac<|ac<|c56 (v:=v) q (by omega) (by omega) (fun _=>ac (⟨_,IntWalk.u32_in _ (by omega),ah (k (by omega))⟩))
theorem c258 {l:Int} (q:SH w0 w L) [hb:aD L v bs] (h:0≤l∧l+4≤bs.length) (k:num bs l 4<4294967296→K (C3 (num bs l 4)) w):D 258 [v,C5 l] w K:=by
 refine s258 rfl<|ac<|ac<|c56 (v:=v) q (by omega) (by omega) (fun _=>ac (⟨_,IntWalk.u32_in _ (by omega),ah (k (by omega))⟩))
theorem c194 {l n:Int} (q:SH w0 w L) [hb:aD L v bs] (h:0≤l∧l+n≤bs.length) (hn:1≤n∧n≤8) (k:(n=1→num bs l n<256)∧(n=2→num bs l n<65536)∧(n=4→num bs l n<4294967296)→K (C4 (num bs l n)) w):D 194 [v,C5 l,C5 n] w K:=by
 refine s194 rfl<|ac<|ac<|c56 (v:=v) q (by omega) (by omega) (fun _=>ac (ah (k (by omega))))
def iW (m:List Value):Prop:= ∃ x:Nat,m.head?=some (C1 x)∧x % 2≠0
theorem tV {x:Nat} {r:List Value} :iW (C1 x::r)↔x % 2≠0:=by
 constructor
 ·rintro ⟨y,e,hy⟩
  simp only [List.head?_cons,Option.some.injEq,Value.int.injEq,true_and] at e
  omega
 ·exact fun h=>⟨x,rfl,h⟩
theorem c17 {m:List Value} (hL:SH w0 w L) (hm:bw m) (k1:iW m→ ∀ w',SH w0 w' L→K (.bool true) w') (k2: ¬iW m→ ∀ w',SH w0 w' L→K (.bool false) w'):D 17 [.agg m.toArray] w K:=by
 obtain ⟨x0,x1,x2,x3,x4,x5,rfl,h0,h1,h2,h3,h4,h5⟩:=hm
 have hg:iW [.int .u8 x0,.int .u8 x1,.int .u8 x2,.int .u8 x3,.int .u8 x4,.int .u8 x5]↔x0 % 2≠0:=by
  constructor
  ·rintro ⟨y,e,hy⟩
   simp only [List.head?_cons,Option.some.injEq,Value.int.injEq,true_and] at e
   omega
  ·exact fun h=>⟨x0,rfl,h⟩
 rw [hg] at k1 k2
 refine s17 rfl ?_
 refine ac ?_
 refine hL.az _ fun b29 w29 hL=>?_
 refine ac ?_
 refine ⟨_,ku,?_⟩
 refine ⟨_,hL.ld (b:=b29) rfl,?_⟩
 refine ⟨_,yk (by omega),?_⟩
 refine ap (fun h32=>?_) (fun h32=>?_)
 ·refine ah ?_
  refine k1 (by omega) _ hL.ae
 ·refine ah ?_
  refine k2 (by omega) _ hL.ae
abbrev mo:List Value:=[C1 255,C1 255,C1 255,C1 255,C1 255,C1 255]
theorem qb:bw mo:=⟨255,255,255,255,255,255,rfl,by decide,by decide,by decide,by decide,by decide,by decide⟩
def tW:Nat→List Value
 | 0=>[C1 0,C1 0,C1 0,C1 0,C1 0,C1 0]
 | 1=>[C1 255,C1 0,C1 0,C1 0,C1 0,C1 0]
 | 2=>[C1 255,C1 255,C1 0,C1 0,C1 0,C1 0]
 | 3=>[C1 255,C1 255,C1 255,C1 0,C1 0,C1 0]
 | 4=>[C1 255,C1 255,C1 255,C1 255,C1 0,C1 0]
 | 5=>[C1 255,C1 255,C1 255,C1 255,C1 255,C1 0]
 | _=>mo
theorem c60 (q:SH w0 w L) (k: ∀ J,SH w0 J L→K (.agg mo.toArray) J):D 60 [] w K:=by
 refine s60 rfl<|ac<|q.az _ fun Y _ q=>?_
 refine ac<|q.az _ fun y _ q=>av ?_
 refine ac<|aM ?_
 refine bU [2,3,4,5,6,7,8] rfl [3] (fun (i:Nat)=>[.int .i64 i]) (fun i J=>i≤6∧SH w0 J (Cl y 28 (tW i)::Cl Y 28 (tW 0)::L)) (fun i=>6 - i) 0 rfl ⟨Nat.zero_le _,q⟩ ?_
 rintro g i w1 ⟨hi,q⟩
 obtain rfl | rfl | rfl | rfl | rfl | rfl | rfl:i=0∨i=1∨i=2∨i=3∨i=4∨i=5∨i=6:=by omega
 ·refine ac ⟨true,decide_eq_true (by decide),av ?_⟩
  refine ai<|ak<|aG ?_
  refine ac<|au ⟨_,ku,?_⟩
  refine q.cp (b:=y) _ fun H q=>au ⟨_,IntWalk.i64_in _ (by omega),?_⟩
  exact ⟨1,rfl,⟨by omega,q⟩,by decide⟩
 ·refine ac ⟨true,decide_eq_true (by decide),av ?_⟩
  refine ai<|ak<|aG ?_
  refine ac<|au ⟨_,ku,?_⟩
  refine q.cp (b:=y) _ fun H q=>au ⟨_,IntWalk.i64_in _ (by omega),?_⟩
  exact ⟨2,rfl,⟨by omega,q⟩,by decide⟩
 ·refine ac ⟨true,decide_eq_true (by decide),av ?_⟩
  refine ai<|ak<|aG ?_
  refine ac<|au ⟨_,ku,?_⟩
  refine q.cp (b:=y) _ fun H q=>au ⟨_,IntWalk.i64_in _ (by omega),?_⟩
  exact ⟨3,rfl,⟨by omega,q⟩,by decide⟩
 ·refine ac ⟨true,decide_eq_true (by decide),av ?_⟩
  refine ai<|ak<|aG ?_
  refine ac<|au ⟨_,ku,?_⟩
  refine q.cp (b:=y) _ fun H q=>au ⟨_,IntWalk.i64_in _ (by omega),?_⟩
  exact ⟨4,rfl,⟨by omega,q⟩,by decide⟩
 ·refine ac ⟨true,decide_eq_true (by decide),av ?_⟩
  refine ai<|ak<|aG ?_
  refine ac<|au ⟨_,ku,?_⟩
  refine q.cp (b:=y) _ fun H q=>au ⟨_,IntWalk.i64_in _ (by omega),?_⟩
  exact ⟨5,rfl,⟨by omega,q⟩,by decide⟩
 ·refine ac ⟨true,decide_eq_true (by decide),av ?_⟩
  refine ai<|ak<|aG ?_
  refine ac<|au ⟨_,ku,?_⟩
  refine q.cp (b:=y) _ fun H q=>au ⟨_,IntWalk.i64_in _ (by omega),?_⟩
  exact ⟨6,rfl,⟨by omega,q⟩,by decide⟩
 ·refine ac ⟨false,decide_eq_false (by decide),av ?_⟩
  refine ai<|aS<|ac ?_
  refine ⟨_,q.af (b:=y) rfl,q.cp (b:=Y) _ fun H q=>ah ?_⟩
  refine ⟨_,q.af (b:=Y) rfl,k _ q.ae⟩
abbrev mq (t0 t1 t2 t3 t4 t5 f0 f1 f2 f3 f4 f5:Nat) (kind:Nat) (body:Value):Value:=
 .agg #[C1 t0,C1 t1,C1 t2,C1 t3,C1 t4,C1 t5,C1 f0,C1 f1,C1 f2,C1 f3,C1 f4,C1 f5,C2 kind,body]
abbrev yl:Value:=mq 0 0 0 0 0 0 0 0 0 0 0 0 0 (sN)
theorem c25 {t0 t1 t2 t3 t4 t5 f0 f1 f2 f3 f4 f5 kind:Nat} {m:List Value} (q:SH w0 w L) (ht:bw [.int .u8 t0,.int .u8 t1,.int .u8 t2,.int .u8 t3,.int .u8 t4,.int .u8 t5]) (hm:bw m)
  (k1:([.int .u8 t0,.int .u8 t1,.int .u8 t2,.int .u8 t3,.int .u8 t4,.int .u8 t5]=m∨[.int .u8 t0,.int .u8 t1,.int .u8 t2,.int .u8 t3,.int .u8 t4,.int .u8 t5]=mo)→ ∀ H,SH w0 H L→K (.bool true) H)
  (k2: ¬ ([.int .u8 t0,.int .u8 t1,.int .u8 t2,.int .u8 t3,.int .u8 t4,.int .u8 t5]=m∨[.int .u8 t0,.int .u8 t1,.int .u8 t2,.int .u8 t3,.int .u8 t4,.int .u8 t5]=mo)→ ∀ H,SH w0 H L→K (.bool false) H):
  D 25 [mq t0 t1 t2 t3 t4 t5 f0 f1 f2 f3 f4 f5 kind v,.agg m.toArray] w K:=by
 have hff:=qb
 have hm':=hm
 obtain ⟨x0,x1,x2,x3,x4,x5,rfl,h0,h1,h2,h3,h4,h5⟩:=hm
 refine s25 rfl<|ac<|q.az [.int IntKind.u8 (↑t0),.int IntKind.u8 (↑t1),.int IntKind.u8 (↑t2),.int IntKind.u8 (↑t3),.int IntKind.u8 (↑t4),.int IntKind.u8 (↑t5),.int IntKind.u8 (↑f0),.int IntKind.u8 (↑f1),.int IntKind.u8 (↑f2),.int IntKind.u8 (↑f3),.int IntKind.u8 (↑f4),.int IntKind.u8 (↑f5),.int IntKind.u16 (↑kind),v] fun y _ q=>q.az [.int IntKind.u8 (↑x0),.int IntKind.u8 (↑x1),.int IntKind.u8 (↑x2),.int IntKind.u8 (↑x3),.int IntKind.u8 (↑x4),.int IntKind.u8 (↑x5)] fun J _ q=>aJ<|have q:=q.drew;⟨_,q.ar (b:=y) [.int IntKind.u8 (↑t0),.int IntKind.u8 (↑t1),.int IntKind.u8 (↑t2),.int IntKind.u8 (↑t3),.int IntKind.u8 (↑t4),.int IntKind.u8 (↑t5)],q.Da (b:=J) rfl (mg (neg:=false) rfl (by assumption) (by assumption) rfl rfl (fun Y=>?_) (fun Y=>?_))⟩
 ·refine ah<|k1 (by (first | exact .inl (by assumption) | exact .inr (by assumption))) _ q.ae
 ·refine ⟨_,q.ar (b:=y) [.int IntKind.u8 (↑t0),.int IntKind.u8 (↑t1),.int IntKind.u8 (↑t2),.int IntKind.u8 (↑t3),.int IntKind.u8 (↑t4),.int IntKind.u8 (↑t5)],c60 q (fun _ q=>⟨⟨⟨_,q.ar (b:=y) _,rfl⟩,⟨mm (neg:=false) rfl,⟨⟨_,q.af (b:=J) rfl,rfl⟩,⟨⟨_,q.ar (b:=y) _,rfl⟩,trivial⟩⟩⟩⟩,mg (neg:=false) rfl (by assumption) (by assumption) rfl rfl (fun h55=>?_) (fun h55=>?_)⟩)⟩
  ·refine ah<|k1 (by (first | exact .inl (by assumption) | exact .inr (by assumption))) _ q.ae
  ·refine ah<|k2 (by (rintro (h | h)<;>contradiction)) _ q.ae
end
end
section
attribute [local irreducible] ay aQ
section
variable {w0 w:World} {L R:List ao} {K:Value→World→Prop} {v u:Value} {bs ps:List Nat}
def ep (bs:List Nat):Prop:=14≤bs.length∧bs.length≤1514∧(bs.drop 6).getD 0 0 % 2=0
theorem c22 (q:SH w0 w L) [hb:aD L v bs]
  (k1:ep bs→num bs 12 2<65536→ ∀ a c w',SH w0 w' (Nb 5 (sl a c (bs.drop 14)) (bs.drop 14)::L)→
   K (.tuple #[mq (bs.getD 0 0) (bs.getD 1 0) (bs.getD 2 0) (bs.getD 3 0) (bs.getD 4 0) (bs.getD 5 0) ((bs.drop 6).getD 0 0) ((bs.drop 6).getD 1 0) ((bs.drop 6).getD 2 0) ((bs.drop 6).getD 3 0) ((bs.drop 6).getD 4 0) ((bs.drop 6).getD 5 0) (num bs 12 2) (sl a c (bs.drop 14)),.nilIface]) w')
  (k2: ¬ep bs→ ∀ b w',SH w0 w' (Er b 1::L)→K (.tuple #[yl,bu b]) w'):D 22 [v] w K:=by
 obtain ⟨a,c,rfl,hcap,hB,hl⟩:=q.enter (v:=v)
 refine s22 rfl<|ac<|q.an fun H _ q=>aG<|ac<|ap (fun h_10=>?_) (fun h_10=>?_)
 ·refine ai<|ac ⟨rfl,[C1 0,C1 0,C1 0,C1 0,C1 0,C1 0,C1 0,C1 0,C1 0,C1 0,C1 0,C1 0,C2 0,sN],rfl,c30 q (by omega) (by omega) (fun b_12 _ q=>q.aj (b:=H) fun _ q=>Dt [0,2,3,12] [sl a c bs,pt H,.nilIface,.iface 165 (pt b_12)] fun g=>ah (q.Da (b:=H) rfl (k2 (by (simp only [ep];omega)) _ _ q.ae)))⟩
 ·refine ai<|ac<|ap (fun h_16=>?_) (fun h_16=>?_)
  ·refine ai<|ac<|Dt [0,2,3] [sl a c bs,pt H,.nilIface] fun g=>⟨rfl,[C1 0,C1 0,C1 0,C1 0,C1 0,C1 0,C1 0,C1 0,C1 0,C1 0,C1 0,C1 0,C2 0,sN],rfl,c30 q (by omega) (by omega) (fun _ _ q=>q.aj (b:=H) fun _ q=>ah (q.Da (b:=H) rfl (k2 (by (simp only [ep];omega)) _ _ q.ae)))⟩
  ·refine ai<|ak<|ac<|Dt [0,2,3] [sl a c bs,pt H,.nilIface] fun g=>c56 (v:=sl a c bs) q (by omega) (by omega) (fun _=>?_)
   obtain ⟨ad_26,rfl⟩:=q.dp a
   refine bt [6,24,25,26,27,28,29,30,31,32,33,34,35,36] rfl [2,3,6] (fun (⟨J,y,Y⟩:(Option Addr) × Nat × Nat)=>[pt H,.nilIface,pt Y]) (fun (⟨J,y,Y⟩:(Option Addr) × Nat × Nat) w'=>((List.drop 14 bs).length≤y)∧SH w0 w' (Cl Y 75 [C1 (bs.getD 0 0),C1 (bs.getD 1 0),C1 (bs.getD 2 0),C1 (bs.getD 3 0),C1 (bs.getD 4 0),C1 (bs.getD 5 0),C1 ((List.drop 6 bs).getD 0 0),C1 ((List.drop 6 bs).getD 1 0),C1 ((List.drop 6 bs).getD 2 0),C1 ((List.drop 6 bs).getD 3 0),C1 ((List.drop 6 bs).getD 4 0),C1 ((List.drop 6 bs).getD 5 0),C2 (num bs 12 2),sl J y (List.drop 14 bs)]::Nb 5 (sl J y (List.drop 14 bs)) (List.drop 14 bs)::Cl H 75 [C1 0,C1 0,C1 0,C1 0,C1 0,C1 0,C1 0,C1 0,C1 0,C1 0,C1 0,C1 0,C2 0,sN]::L)) ?_ ?_
   ·refine lZ<|have q:=q.drew;⟨_,bC,bV [0,2,3,4,25] [sl (some ad_26) c bs,pt H,.nilIface,C4 (num bs 12 2),.pointer (some ad_26)] rfl fun g=>⟨_,q.bB,q.eV (M:=L) (6) fun a_28 _ _ _=>⟨_,bC,?_⟩⟩⟩
    obtain ⟨ad_30,rfl⟩:=q.dp a_28
    refine ⟨_,q.bB,⟨_,IntWalk.u16_in _ (by omega),q.eV (M:=L) (14) fun a_34 c_34 _ _=>bV [2,3,26,30,32,34] [pt H,.nilIface,.agg #[C1 (bs.getD 0 0),C1 (bs.getD 1 0),C1 (bs.getD 2 0),C1 (bs.getD 3 0),C1 (bs.getD 4 0),C1 (bs.getD 5 0)],.agg #[C1 ((List.drop 6 bs).getD 0 0),C1 ((List.drop 6 bs).getD 1 0),C1 ((List.drop 6 bs).getD 2 0),C1 ((List.drop 6 bs).getD 3 0),C1 ((List.drop 6 bs).getD 4 0),C1 ((List.drop 6 bs).getD 5 0)],C2 (num bs 12 2),sl a_34 c_34 (List.drop 14 bs)] rfl fun g=>⟨?_,?_⟩⟩⟩
    ·exact c34 (v:=sl a_34 c_34 (List.drop 14 bs)) q (fun J y w_35 h_353 q=>⟨⟨⟨_,q.bB,rfl⟩,⟨bC,⟨⟨_,q.bB,rfl⟩,⟨bC,trivial⟩⟩⟩⟩,⟨rfl,[C1 (bs.getD 0 0),C1 (bs.getD 1 0),C1 (bs.getD 2 0),C1 (bs.getD 3 0),C1 (bs.getD 4 0),C1 (bs.getD 5 0),C1 ((List.drop 6 bs).getD 0 0),C1 ((List.drop 6 bs).getD 1 0),C1 ((List.drop 6 bs).getD 2 0),C1 ((List.drop 6 bs).getD 3 0),C1 ((List.drop 6 bs).getD 4 0),C1 ((List.drop 6 bs).getD 5 0),C2 (num bs 12 2),sl J y (List.drop 14 bs)],rfl,q.an fun Y w_6 q=>⟨⟨⟨_,q.bB,rfl⟩,⟨bC,⟨⟨_,q.bB,rfl⟩,⟨bC,trivial⟩⟩⟩⟩,q.aj (b:=Y) fun w_51 q=>⟨(J,y,Y),rfl,‹_›,q.ae⟩⟩⟩⟩)
    ·exact q.an fun Y w_6 q=>⟨⟨⟨_,q.bB,rfl⟩,⟨bC,⟨⟨_,q.bB,rfl⟩,⟨bC,trivial⟩⟩⟩⟩,c34 (v:=sl a_34 c_34 (List.drop 14 bs)) q (fun J y w_35 h_353 q=>⟨⟨⟨_,q.bB,rfl⟩,⟨bC,⟨⟨_,q.bB,rfl⟩,⟨bC,trivial⟩⟩⟩⟩,⟨rfl,[C1 (bs.getD 0 0),C1 (bs.getD 1 0),C1 (bs.getD 2 0),C1 (bs.getD 3 0),C1 (bs.getD 4 0),C1 (bs.getD 5 0),C1 ((List.drop 6 bs).getD 0 0),C1 ((List.drop 6 bs).getD 1 0),C1 ((List.drop 6 bs).getD 2 0),C1 ((List.drop 6 bs).getD 3 0),C1 ((List.drop 6 bs).getD 4 0),C1 ((List.drop 6 bs).getD 5 0),C2 (num bs 12 2),sl J y (List.drop 14 bs)],rfl,q.aj (b:=Y) fun w_51 q=>⟨(J,y,Y),rfl,‹_›,q.ae⟩⟩⟩)⟩
   rintro g ⟨J,y,Y⟩ w_29 ⟨h_353,q⟩
   refine Dv [2,3,6] [pt H,.nilIface,pt Y] fun g=>aq ⟨_,q.ar (b:=Y) [C1 ((List.drop 6 bs).getD 0 0),C1 ((List.drop 6 bs).getD 1 0),C1 ((List.drop 6 bs).getD 2 0),C1 ((List.drop 6 bs).getD 3 0),C1 ((List.drop 6 bs).getD 4 0),C1 ((List.drop 6 bs).getD 5 0)],c17 q (by exact oe (kt hB 6) 0) (fun h_39 w_39 q=>?_) (fun h_39 w_39 q=>?_)⟩
   ·refine ac ⟨rfl,[C1 0,C1 0,C1 0,C1 0,C1 0,C1 0,C1 0,C1 0,C1 0,C1 0,C1 0,C1 0,C2 0,sN],rfl,c30 q (by omega) (by omega) (fun _ _ q=>q.aj (b:=H) fun _ q=>ah (q.Da (b:=H) rfl (k2 (by (simp only [ep,tV] at*;omega)) _ _ q.ae)))⟩
   ·refine ak<|ac<|q.Da (b:=Y) rfl<|q.aj (b:=H) fun _ q=>ah<|q.Da (b:=H) rfl<|k1 (by (simp only [ep,tV] at*;omega)) (by omega) _ _ _ q.ae
end
end
section
def aK:List Nat→Nat
 | []=>0
 | [a]=>a*256
 | a::b::r=>a*256+b+aK r
def aV (n:Nat):Nat:=if n=0 then 0 else if n % 65535=0 then 65535 else n % 65535
theorem tX {m n:Nat} (hm:m<65536) (h:Alike m n):m=aV n:=by
 unfold aV
 have h1:=h.1
 have h2:=h.2
 split
 ·omega
 ·split<;>omega
theorem oh (n:Nat):aV n<65536:=by
 unfold aV
 split
 ·omega
 ·split<;>omega
def fO (bs pre:List Nat):Nat:=(pre.map fun i=>eJ ((bs.drop (2*i)).take 2)).sum
theorem ym (bs pre:List Nat) (i:Nat):fO bs (pre++[i])=fO bs pre+eJ ((bs.drop (2*i)).take 2):=by simp [fO]
theorem tY: ∀ bs:List Nat,fO bs (List.range ((bs.length+1) / 2))=aK bs
 | []=>rfl
 | [a]=>by simp [fO,aK,eJ]
 | a::b::r=>by
  have e:((a::b::r).length+1) / 2=(r.length+1) / 2+1:=by simp;omega
  have ih:=tY r
  rw [e,List.range_succ_eq_map]
  have e2:(List.range ((r.length+1) / 2)).map (fun i=>eJ (((a::b::r).drop (2*(i+1))).take 2))=(List.range ((r.length+1) / 2)).map fun i=>eJ ((r.drop (2*i)).take 2):=by
   apply List.map_congr_left
   intro i _
   rw [show 2*(i+1)=2*i+1+1 by omega,List.drop_succ_cons,List.drop_succ_cons]
  simp only [fO,List.map_cons,List.map_map,List.sum_cons,Function.comp_def] at ih ⊢
  rw [e2,ih,aK]
  simp [eJ]
theorem tZ {bs:List Nat} (h: ∀ b∈bs,b<256):eJ bs<65536:=by
 unfold eJ
 have h0:bs.getD 0 0<256:=by
  rcases bs with _ | ⟨x,bs⟩
  ·decide
  ·exact h x (by simp)
 have h1:bs.getD 1 0<256:=by
  rcases bs with _ | ⟨x,_ | ⟨y,bs⟩⟩
  ·decide
  ·exact (by decide:(0:Nat)<256)
  ·exact h y (by simp)
 omega
theorem qc {bs:List Nat} (h: ∀ b∈bs,b<256): ∀ pre:List Nat,fO bs pre≤65536*pre.length
 | []=>by simp [fO]
 | i::pre=>by
  have ih:=qc h pre
  have h2:eJ ((bs.drop (2*i)).take 2)<65536:=tZ fun b q=>h b (List.mem_of_mem_drop (List.mem_of_mem_take q))
  simp only [fO,List.map_cons,List.sum_cons,List.length_cons] at ih ⊢
  omega
attribute [local irreducible] ay aQ
section
variable {w0 w:World} {L R:List ao} {K:Value→World→Prop} {v u:Value} {bs ps:List Nat}
theorem c130 {a:Option Addr} {n c:Nat} (q:SH w0 w L) (k: ∀ H J Y,SH w0 Y (Cl J 3 [C5 2]::Cl H 44 [.slice a n c]::L)→K (.func (.func 179) #[] #[pt H,pt J]) Y):D 130 [.slice a n c,C5 2] w K:=by
 refine s130 rfl<|ac<|q.az [.slice a n c] fun _ _ q=>q.az [C5 2] fun y _ q=>aq<|q.C9 (b:=y) rfl<|Dh<|ak<|ac<|ah<|k _ _ _ q.ae
end
end
end Go.Proofs.YtlhpilgmeededaaGreatDoor
namespace Go.Proofs.YtlhpilgmeededaaGreatDoor
open Go Go.Proofs Go.RowKit Go.Shelf
attribute [local go_sem] Oper.semAt_some
def upto (k:Nat):List Nat:=List.range k
theorem rO (k:Nat):upto (k+1)=upto k++[k]:=by simp [upto,List.range_succ]
theorem rP (k:Nat):(upto k).length=k:=by simp [upto]
def jq (b off len i:Nat):Value:= .slice (some ⟨b,off+2*i,none⟩) (min 2 (len - 2*i)) (min 2 (len - 2*i))
def cA (x M:Nat) (A B:World):Prop:= ∀ j,j<M→j≠x→B.heap[j]?=A.heap[j]?
theorem cA.refl (x M:Nat) (A:World):cA x M A A:=fun _ _ _=>rfl
theorem cA.trans {x M:Nat} {A B C:World} (h:cA x M A B) (k:cA x M B C):cA x M A C:=fun j h1 q=>(k j h1 q).trans (h j h1 q)
theorem cA.drew (x M:Nat) (A:World):cA x M A A.drew:=fun _ _ _=>rfl
theorem cA.cell {x M:Nat} {A B:World} (h:cA x M A B) {p:Addr} (h1:p.block<M) (q:p.block≠x):B.cell? p=A.cell? p:=World.cell?_of_block (h _ h1 q)
set_option maxRecDepth 100000 in
set_option maxHeartbeats 2000000 in
theorem wD (F:Fence) (n:Nat) (hF:F.fn 179) (hro:F.round=none) (hn:1≤n) (l B1 B2 x M b off len cap N:Nat) (hN:N=(len+1) / 2) (hlen:len≤1000000) (hcap:len≤cap) (hb1:B1<M) (y:B2<M) (hx1:B1≠x) (H:B2≠x) (J Jx:List Nat→World→Prop)
  (hY: ∀ pre i W,J pre W→pre.length<N→YieldAt F (n - 1) Tryz.prog l #[jq b off len i] W fun e W'=>
   (e= .returned (.bool true)∧J (pre++[i]) W'∧cA x M W W')∨(e= .returned (.bool false)∧Jx (pre++[i]) W'))
  (W:World) (hJ:AbidesFrom W.heap.size J) (h1:W.cell? ⟨B1,0,none⟩=some (.slice (some ⟨b,off,none⟩) len cap)) (h2:W.cell? ⟨B2,0,none⟩=some (.int .i64 2)) (h0:J [] W):
  CallsIn F n Tryz.prog 179 #[.func (.yield l) #[] #[],.pointer (some ⟨B1,0,none⟩),.pointer (some ⟨B2,0,none⟩)] W fun e W'=>(∃ v,e= .returned v)∧
   ((∃ ys,ys=upto N∧J ys W')∨(∃ pre,(∃ k,k≤N∧pre=upto k)∧Jx pre W')):=by
 refine callsIn_of_wp Tryz.func179 rfl hF ?_ hro
 simp only [Tryz.ntmps179,List.size_toArray,List.length_cons,List.length_nil,Nat.reduceAdd,Nat.reduceSub,Array.replicate_succ,Array.replicate_zero,List.push_toArray,List.append_toArray,List.nil_append,List.cons_append]
 gi_wp2
 gi_loopw [4] (fun i wr=> ∃ k:Nat,k≤N∧i= .int .i64 (2*k:Nat)∧J (upto k) wr∧cA x M W wr)
  (fun i _=>2*N - (intOf i).toNat)
 case atStart=>exact ⟨0,Nat.zero_le _,rfl,h0,cA.refl _ _ _⟩
 case round=>
  obtain ⟨k,hk,rfl,hJs,q⟩:=hrel
  have h1':=(q.cell (p:=⟨B1,0,none⟩) hb1 hx1).trans h1
  have h2':=(q.cell (p:=⟨B2,0,none⟩) y H).trans h2
  by_cases hlt:k<N
  ·have hJd:J (upto k) wr.drew:=hJ _ _ _ none hJs ⟨rfl,rfl,rfl,Nat.le_refl _,fun _ _ _=>rfl⟩ (fun _ e=>by cases e)
   obtain ⟨fn,tmps,assign,body,hy,hR⟩:=hY _ k wr.drew hJd (by rw [rP];exact hlt)
   have hk2:2*k<len:=by omega
   have hmx:Tryz.prog.follows .mixedOrders=true:=by kernel_rfl
   gi_wp2
   gi_region_with_o (fail)
   all_goals gi_wp2
   all_goals (
    have e: ∀ z:Int,(z=2*k+2∧2≤len - 2*k)∨(z=2*k+(len - 2*k:Nat)∧len - 2*k≤2)→z.toNat - 2*k=min 2 (len - 2*k):=by omega
    rw [e _ (by omega)]
    rw [show Sem.run Tryz.prog (Instr.yield l #[.slice (some ⟨b,off+2*k,none⟩) (min 2 (len - 2*k)) (min 2 (len - 2*k))]) wr.drew=_ from hy]
    refine ⟨fun _=>hn,hR.mono ?_⟩
    rintro e W3 (⟨rfl,hJ3,Y⟩ | ⟨rfl,hJx3⟩)
    ·have h2'':W3.cell? ⟨B2,0,none⟩=some (.int .i64 2):=(Y.cell (p:=⟨B2,0,none⟩) y H).trans h2'
     gi_wp2
     go_roundw
     case rel=>exact ⟨k+1,by omega,by simp;omega,by rw [rO];exact hJ3,(q.trans (cA.drew _ _ _)).trans Y⟩
     case measure=>simp [intOf];omega
    ·gi_wp2
     exact bodyPost_ret (results_none rfl _ _ _) rfl<|⟨⟨_,rfl⟩,.inr ⟨_,⟨k+1,by omega,(rO _).symm⟩,hJx3⟩⟩)
  ·obtain rfl:k=N:=by omega
   have hk2: ¬2*k<len:=by omega
   gi_wp2
   go_end0
   exact ⟨⟨_,rfl⟩,.inl ⟨_,rfl,hJs⟩⟩
set_option maxRecDepth 100000 in
set_option maxHeartbeats 1000000 in
theorem wE (F:Fence) (n:Nat) (y:F.fn 179) (q:F.round=none) (l B1 B2:Nat) (J:List Nat→World→Prop) (W:World) (a:Option Addr) (c:Nat) (h1:W.cell? ⟨B1,0,none⟩=some (.slice a 0 c)) (H:J [] W):
  CallsIn F n Tryz.prog 179 #[.func (.yield l) #[] #[],.pointer (some ⟨B1,0,none⟩),.pointer (some ⟨B2,0,none⟩)] W fun e W'=>(∃ v,e= .returned v)∧J [] W':=by
 refine callsIn_of_wp Tryz.func179 rfl y ?_ q
 simp only [Tryz.ntmps179,List.size_toArray,List.length_cons,List.length_nil,Nat.reduceAdd,Nat.reduceSub,Array.replicate_succ,Array.replicate_zero,List.push_toArray,List.append_toArray,List.nil_append,List.cons_append]
 gi_wp2
 gi_loopw [4] (fun i wr=>i= .int .i64 0∧wr=W) (fun _ _=>0)
 case atStart=>exact ⟨rfl,rfl⟩
 case round=>
  obtain ⟨rfl,rfl⟩:=hrel
  gi_wp2
  go_end0
  exact ⟨⟨_,rfl⟩,H⟩
theorem wF (F:Fence) (n:Nat) (hF:F.fn 179) (q:F.round=none) (hn:1≤n) (B1 B2 x M:Nat) (a:Option Addr) (len cap:Nat) (hlen:len≤1000000) (hcap:len≤cap) (y:B1<M) (H:B2<M) (hx1:B1≠x) (hx2:B2≠x) (ha:len≠0→ ∃ b off,a=some ⟨b,off,none⟩)
  (w:World) (hM:M≤w.heap.size) (h1:w.cell? ⟨B1,0,none⟩=some (.slice a len cap)) (h2:w.cell? ⟨B2,0,none⟩=some (.int .i64 2)):
  SeqStopsK F n Tryz.prog 179 #[.pointer (some ⟨B1,0,none⟩),.pointer (some ⟨B2,0,none⟩)] (fun i:Nat=>#[jq (a.getD ⟨0,0,none⟩).block (a.getD ⟨0,0,none⟩).off len i]) (cA x M) (fun ys=>ys=upto ((len+1) / 2)) (fun _=>True) ((len+1) / 2) w:=fun l J Jx W hW hJ _ hY h0=>by
 have h1':=(hW.cell (p:=⟨B1,0,none⟩) (Nat.lt_of_lt_of_le y hM)).trans h1
 have h2':=(hW.cell (p:=⟨B2,0,none⟩) (Nat.lt_of_lt_of_le H hM)).trans h2
 by_cases h:len=0
 ·subst h
  exact (wE F n hF q l B1 B2 J W a cap h1' h0).mono fun e W' ⟨he,Y⟩=>⟨he,.inl ⟨_,rfl,Y⟩⟩
 ·obtain ⟨b,off,rfl⟩:=ha h
  refine (wD F n hF q hn l B1 B2 x M b off len cap _ rfl hlen hcap y H hx1 hx2 J Jx hY W hJ h1' h2' h0).mono ?_
  rintro e W' ⟨he,⟨ys,rfl,Y⟩ | ⟨pre,⟨k,hk,rfl⟩,Y⟩⟩
  ·exact ⟨he,.inl ⟨_,rfl,Y⟩⟩
  ·exact ⟨he,.inr ⟨_,trivial,Y⟩⟩
end Go.Proofs.YtlhpilgmeededaaGreatDoor
namespace Go.Proofs.YtlhpilgmeededaaGreatDoor
open Go Go.Proofs Go.RowKit Go.Shelf Go.Den
attribute [local go_sem] Oper.semAt_some
theorem cA.putObj {x M:Nat} (W:World) {l:Nat} (o:Obj) (h:M≤l):cA x M W (W.putObj l o):=fun j _ _=>by
 have:=(grownBy_putObj' W l o).block
 by_cases q:j<W.heap.size
 ·exact this j q (by simp;omega)
 ·have hs:(W.putObj l o).heap.size=W.heap.size:=by simp [World.putObj]
  rw [Array.getElem?_eq_none (by omega),Array.getElem?_eq_none (by omega)]
theorem yn {bs:List Nat} {w:World} {v:Value} {q:World} (h:NB bs w v q) (J:bK bs): ∃ a c,v= .slice a bs.length c∧bs.length≤c∧(bs.length≠0→ ∃ b off,a=some ⟨b,off,none⟩∧w.heap.size≤b)∧Rb q v bs∧bX w q:=by
 obtain ⟨A,hown,y⟩:=h
 have Y:SH w q [Row 5 1 v bs.length (aT bs)]:=SH.gO (L:=[]) hown (by rw [List.append_nil];exact y)
 have H:Rb q v bs:=(SH.fX J Y).l7
 obtain ⟨a,c,rfl,hc⟩:=H.slice
 refine ⟨a,c,rfl,hc,fun h0=>?_,H,y.grown⟩
 generalize hn:bs.length=n at*
 generalize aT bs=xs at*
 cases hown with
 | none b=>exact absurd rfl h0
 | «at» g cs n cap hl hn hm=>exact ⟨g,0,rfl,y.new _ (.head _) g rfl⟩
theorem yo {w:World} {ps:List (Value × List Nat)} (q: ∀ p∈ps,Rb w p.1 p.2) (hlen:(ps.flatMap (·.2)).length≤1000000):bK (ps.flatMap (·.2)):=by
 refine ⟨fun b y=>?_,by omega⟩
 obtain ⟨p,h1,H⟩:=List.mem_flatMap.1 y
 exact (q p h1).byte b H
theorem qd (b o j:Nat):(⟨b,o,none⟩:Addr).add j=⟨b,o+j,none⟩:=by unfold Addr.add;split<;>simp_all
theorem yp {B:Nat} {W W':World} (h:bX W W'):KeepsFrom B W W':=⟨h.size,fun i _ _ hi _=>(h.block i (Array.getElem?_eq_some_iff.1 hi).1).trans hi⟩
theorem cA.cZ {x M:Nat} {W0 W W':World} (h:cA x M W0 W) (hM:M≤W.heap.size) (g:bX W W'):cA x M W0 W':=fun j h1 q=>(g.block j (by omega)).trans (h j h1 q)
theorem cA.set {x M:Nat} {W0 W:World} (h:cA x M W0 W) (v:Value):cA x M W0 (W.setCell ⟨x,0,none⟩ v):=fun j h1 q=>
 (Below.heap_setCell W _ v j q).trans (h j h1 q)
theorem yq {β:Type} (x:Nat) (W0:World):OwnFrom W0.heap.size (fun (_:β) W=>cA x W0.heap.size W0 W):=fun _ W W' _ H J Y j h1 h2=>by
 have y:W.heap[j]?=W0.heap[j]?:=H j h1 h2
 have q:j<W.heap.size:=by
  have:W0.heap[j]?=some W0.heap[j]:=Array.getElem?_eq_getElem h1
  exact (Array.getElem?_eq_some_iff.1 (y.trans this)).1
 exact (J.block j q (fun e=>by have:=(Y _ e.symm).1;omega)).trans y
theorem yr {w W:World} {a:Option Addr} {c:Nat} {bs:List Nat} (h:Rb w (.slice a bs.length c) bs) (Y:bs.length≠0→ ∃ b off,a=some ⟨b,off,none⟩∧W.heap[b]?=w.heap[b]?) (i:Nat):
  Rb W (jq (a.getD ⟨0,0,none⟩).block (a.getD ⟨0,0,none⟩).off bs.length i) ((bs.drop (2*i)).take 2):=by
 have hl:((bs.drop (2*i)).take 2).length=min 2 (bs.length - 2*i):=by simp
 refine ⟨⟨by simp [aT],_,_,by rw [jq,hl],by simp,?_⟩,fun b q=>h.byte b (List.mem_of_mem_drop (List.mem_of_mem_take q)),by omega,_,_,by rw [jq,hl],by omega⟩
 rintro ad y j u H
 by_cases J:bs.length=0
 ·have:bs=[]:=List.length_eq_zero_iff.1 J
  subst this
  simp [aT] at H
 obtain ⟨b,off,rfl,q⟩:=Y J
 cases y
 obtain ⟨_,a',c',e,_,hr⟩:=h.reads
 cases e
 have hj:j<2:=by
  have:=(List.getElem?_eq_some_iff.1 H).1
  simp [aT] at this
  omega
 have hu':(aT bs)[2*i+j]?=some u:=by
  rw [←H]
  simp only [aT,List.getElem?_map,List.getElem?_take_of_lt hj,List.getElem?_drop]
 have:=hr _ rfl (2*i+j) u hu'
 rw [←this]
 show W.cell? (Addr.add ⟨b,off+2*i,none⟩ j)=_
 rw [qd,qd,Nat.add_assoc]
 exact World.cell?_of_block q
set_option maxRecDepth 100000 in
set_option maxHeartbeats 2000000 in
theorem yt {w:World} {g c:Nat} {t:TypeId} {ps:List (Value × List Nat)} (Y:w.heap[g]?=some (.cells (ps.map (·.1)).toArray t (0,0))) (hp: ∀ p∈ps,Rb w p.1 p.2) (hlen:(ps.flatMap (·.2)).length≤1000000) (hps:ps.length≤1000):
  D 77 [.slice (some ⟨g,0,none⟩) ps.length c] w fun r w'=>r=C2 (aV (aK (ps.flatMap (·.2))):Nat)∧bX w w':=by
 show Calls _ _ _ _ _
 refine (callsIn_wide (n:=9)).1<|callsIn_of_wp_marks Tryz.func77 rfl trivial ?_ rfl
 simp only [Tryz.ntmps77,List.size_toArray,List.length_cons,List.length_nil,Nat.reduceAdd,Nat.reduceSub,Array.replicate_succ,Array.replicate_zero,List.push_toArray,List.append_toArray,List.nil_append,List.cons_append]
 have hgr:bX w (w.alloc (.cells #[C4 0] 29)):=bX.alloc w _
 have hg':(w.alloc (.cells #[C4 0] 29)).heap[g]?=some (.cells (ps.map (·.1)).toArray t (0,0)):=(hgr.block g (Array.getElem?_eq_some_iff.1 Y).1).trans Y
 have hcat:=tS (w:=w.alloc (.cells #[C4 0] 29)) (c:=c) hg' (fun p h=>(hp p h).cZ hgr) hlen hps
 have hB:=yo hp hlen
 generalize hbs:ps.flatMap (·.2)=bs at*
 gi_wp2_with (first
  | (refine ⟨trivial,?_⟩;gi_at_call 131;refine (callsIn_wide.2 hcat).mono ?_;rintro e w2 ⟨v,rfl,hnb⟩;obtain ⟨a,c2,rfl,hc2,ha,hrb,hgr2⟩:=yn hnb hB)
  | (refine ⟨trivial,?_⟩;gi_at_call 130;refine (callsIn_wide.2 (c130 (SH.nil _) (K:=fun v w'=> ∃ y H,v= .func (.func 179) #[] #[pt y,pt H]∧SH w2 w' [Cl H 3 [C5 2],Cl y 44 [.slice a bs.length c2]]) (fun y H w' h=>⟨y,H,rfl,h⟩))).mono ?_;rintro e q ⟨_,rfl,y,H,rfl,hL3⟩))
 obtain ⟨x,hx⟩: ∃ x,w.heap.size=x:=⟨_,rfl⟩
 have hgr3:bX (w.alloc (.cells #[C4 0] 29)) q:=hgr2.trans hL3.grown
 have J:(w.alloc (.cells #[C4 0] 29)).cell? ⟨w.heap.size,0,none⟩=some (C4 0)∧(w.alloc (.cells #[C4 0] 29)).frozen? ⟨w.heap.size,0,none⟩=false:=⟨by simp,by simp⟩
 have hsz:(w.alloc (.cells #[C4 0] 29)).heap.size=x+1:=by rw [World.size_alloc,hx]
 have hxb:q.heap[x]?=(w.alloc (.cells #[C4 0] 29)).heap[x]?:=hgr3.block x (by omega)
 rw [hx] at J
 have hc0:q.cell? ⟨x,0,none⟩=some (C4 0):=(World.cell?_of_block hxb).trans J.1
 have hf0:q.frozen? ⟨x,0,none⟩=false:=(World.frozen?_of_block hxb).trans J.2
 have hw2:x+1≤w2.heap.size:=by have:=hgr2.size;omega
 have hn1:x<y:=by have:=hL3.new (Cl y 44 [.slice a bs.length c2]) (.tail _ (.head _)) y rfl;omega
 have hn2:x<H:=by have:=hL3.new (Cl H 3 [C5 2]) (.head _) H rfl;omega
 have hl1:=hL3.ld (b:=y) (i:=0) rfl
 have hl2:=hL3.ld (b:=H) (i:=0) rfl
 have hm1:=World.block_lt_of_cell? q _ hl1
 have hm2:=World.block_lt_of_cell? q _ hl2
 have hB0:Below w.heap.size w q:=by
  have h:=(bX.alloc w (.cells #[C4 0] 29)).trans hgr3
  exact ⟨h.os,h.tape,h.output,h.size,h.block⟩
 have ha3: ∀ W,cA x q.heap.size q W→ ∀ i,Rb W (jq (a.getD ⟨0,0,none⟩).block (a.getD ⟨0,0,none⟩).off bs.length i) ((bs.drop (2*i)).take 2):=fun W hk i=>by
  refine yr (hrb.cZ hL3.grown) (fun h0=>?_) i
  obtain ⟨b,off,rfl,hb⟩:=ha h0
  have hlt:b<q.heap.size:=by
   have h1:=(hrb.cZ hL3.grown).reads
   obtain ⟨_,a',c',e,_,hr⟩:=h1
   cases e
   have h2:0<(aT bs).length:=by simp [aT];omega
   have:=World.block_lt_of_cell? q _ (hr _ rfl 0 _ (List.getElem?_eq_getElem h2))
   rwa [qd] at this
  exact ⟨b,off,rfl,hk b hlt (by omega)⟩
 rw [hx]
 refine wpIn_rangeFunc_ownG rfl (by omega) (gf:=179) (lb:=#[pt y,pt H]) rfl trivial (enters_of Tryz.func179 (by kernel_rfl) rfl)
  (wF Fence.wide 8 trivial rfl (by omega) y H x q.heap.size a bs.length c2 (by omega) hc2 hm1 hm2 (by omega) (by omega) (fun h0=>by obtain ⟨b,off,e,_⟩:=ha h0;exact ⟨b,off,e⟩) q (Nat.le_refl _) hl1 hl2)
  (fun h k=>h.trans k) (fun W l _ o' hl _ _ _=>cA.putObj W o' hl) (Below.refl _ _) (fun _=>rfl)
  (fun pre W=>(W.cell? ⟨x,0,none⟩=some (C4 (fO bs pre:Nat))∧W.frozen? ⟨x,0,none⟩=false)∧Below w.heap.size w W∧cA x q.heap.size q W∧q.heap.size≤W.heap.size)
  (fun _ _ _=>False)
  (OwnFrom.and (Own.from (fun _ A B _ J Y hr=>⟨cell_kept J.1 Y hr,(frozen_kept J.1 Y hr).trans J.2⟩) _) (OwnFrom.and (ownFrom_below (Nat.le_refl _) hB0.size) (OwnFrom.and (yq x q) (fun _ _ _ _ J Y _=>Nat.le_trans J Y.size))))
  (fun _ _ _ _ _ J _ _=>J)
  ⟨⟨hc0,hf0⟩,hB0,cA.refl _ _ _,Nat.le_refl _⟩
  (fun i=> { tmps:=#[.slice (some ⟨g,0,none⟩) ps.length c,undef,C2 0,.pointer (some ⟨x,0,none⟩),jq (a.getD ⟨0,0,none⟩).block (a.getD ⟨0,0,none⟩).off bs.length i,.slice (some ⟨g,0,none⟩) ps.length c,.slice a bs.length c2,.func (.func 179) #[] #[pt y,pt H],jq (a.getD ⟨0,0,none⟩).block (a.getD ⟨0,0,none⟩).off bs.length i,undef,undef,undef,undef,undef,undef,undef],defers:=[] }) ?assign ?body ?done ?stop
 case assign=>
  intro l i W K hK
  gi_wp2
  exact hK
 case body=>
  rintro l pre i W ⟨⟨hc,hf⟩,hB1,hk,hsz1⟩ hpre
  have hr:=ha3 W.drew (hk.cZ hsz1 (bX.drew W)) i
  have hxW:x<W.drew.heap.size:=World.block_lt_of_cell? W _ hc
  have hmx:Tryz.prog.follows .mixedOrders=true:=by kernel_rfl
  gi_wp2
  gi_region_with_o (refine ⟨trivial,?_⟩;gi_at_call 132;refine (CallsIn.inRound l (callsIn_wide.2 (tx hr))).mono ?_;rintro e w' ⟨v,rfl,rfl,hg'⟩;have hc':=hg'.cell (show W.drew.cell? ⟨x,0,none⟩=_ from hc);have hf':w'.frozen? ⟨x,0,none⟩=false:=(World.frozen?_of_block (hg'.block x hxW)).trans hf)
  all_goals (
   have hpn:eJ ((bs.drop (2*i)).take 2)<65536:=tZ fun b hb=>hB.1 b (List.mem_of_mem_drop (List.mem_of_mem_take hb))
   have hsum:=qc hB.1 pre
   have e1:IntKind.u64.wrap ((eJ ((bs.drop (2*i)).take 2):Nat):Int)=((eJ ((bs.drop (2*i)).take 2):Nat):Int):=IntWalk.u64_in _ (by omega)
   have e2:IntKind.u64.wrap ((fO bs pre:Nat)+((eJ ((bs.drop (2*i)).take 2):Nat):Int))=((fO bs (pre++[i]):Nat):Int):=by
    rw [ym,IntWalk.u64_in _ (by omega)]
    omega
   rw [e1,e2]
   have hgW:bX W w':=(bX.drew W).trans hg'
   exact ⟨(yp hgW).trans ((KeepsOthers.setCell _ _ _).from _),cA.set ((cA.refl _ _ W).cZ hsz1 hgW) _,⟨World.cell?_setCell_same' _ _ _ (by rw [hc'];rfl),by rw [World.frozen?_setCell];exact hf'⟩,
    (hB1.trans ⟨hgW.os,hgW.tape,hgW.output,hgW.size,fun k hk=>hgW.block k (Nat.lt_of_lt_of_le hk hB1.size)⟩).setCell (p:=⟨x,0,none⟩) (by show w.heap.size≤x;omega) _,cA.set (hk.cZ hsz1 hgW) _,by simp;exact Nat.le_trans hsz1 hgW.size⟩)
 case done=>
  rintro D ys W hD rfl ⟨⟨hc,_⟩,hB1,_,_⟩ hK
  have hsum:=qc hB.1 (upto ((bs.length+1) / 2))
  rw [rP] at hsum
  have hend:aV (aK bs)=aV (fO bs (upto ((bs.length+1) / 2))):=by rw [←tY bs];rfl
  gi_wp2_with (refine ⟨trivial,?_⟩;gi_at_call 133;refine (callsIn_wide.2 (tu (fO bs (upto ((bs.length+1) / 2))) (by omega) _)).mono ?_;rintro e w4 ⟨_,rfl,⟨m,rfl,hm,hal⟩,rfl⟩)
  refine ⟨by simp,.inl ⟨_,_,rfl,run_takeDeferred hK,?_⟩⟩
  have hBe:=hB1.trans (belowK_b (w:=w) (Nat.le_refl _) W D _ (.deferred none) (by have:=hB0.size;omega) hK rfl rfl)
  exact ⟨_,results_tmp rfl _ _ _,_,rfl,by rw [hend,tX hm hal];rfl,⟨hBe.os,hBe.tape,hBe.output,hBe.size,hBe.block⟩⟩
 case stop=>
  rintro D c pre W _ _ h _
  exact h.elim
end Go.Proofs.YtlhpilgmeededaaGreatDoor
namespace Go.Proofs.YtlhpilgmeededaaGreatDoor
open Go Go.Den
set_option maxHeartbeats 4000000
set_option maxRecDepth 8000
section
section
variable {w0 w:World} {L R:List ao} {K:Value→World→Prop}
theorem ua {g c:Nat} {t:TypeId} {cs:List Value} (ps:List (Value × List Nat)) (J:SH w0 w L) [p:aR L g t cs R] (y:cs=ps.map (·.1)) (Y: ∀ p∈ps,Rb w p.1 p.2) (hlen:(ps.flatMap (·.2)).length≤1000000) (H:ps.length≤1000)
  (k: ∀ q,SH w0 q L→K (C2 (aV (aK (ps.flatMap (·.2))))) q):D 77 [.slice (some ⟨g,0,none⟩) ps.length c] w K:=by
 subst y
 refine (yt (J.eI g) Y hlen H).mono fun _ q ⟨e,hg⟩=>?_
 subst e
 exact k q (J.cZ hg)
theorem c77 {g c:Nat} {t:TypeId} {cs:List Value} {v0:Value} {q:List Nat} (J:SH w0 w L) [p:aR L g t cs R] (y:cs=[v0]) (Y:Rb w v0 q) (hlen:q.length≤100000)
  (k: ∀ H,SH w0 H L→K (C2 (aV (aK q))) H):D 77 [.slice (some ⟨g,0,none⟩) 1 c] w K:=by
 refine ua [(v0,q)] J y (by simp only [List.mem_cons,List.not_mem_nil,or_false,forall_eq];exact Y) (by simp only [List.flatMap_cons,List.flatMap_nil,List.append_nil];omega) (by simp) ?_
 simpa only [List.flatMap_cons,List.flatMap_nil,List.append_nil] using k
theorem c77a {g c:Nat} {t:TypeId} {cs:List Value} {v0 v1:Value} {q y:List Nat} (Y:SH w0 w L) [p:aR L g t cs R] (H:cs=[v0,v1]) (h0:Rb w v0 q) (h1:Rb w v1 y) (hlen:q.length+y.length≤100000)
  (k: ∀ J,SH w0 J L→K (C2 (aV (aK (q++y)))) J):D 77 [.slice (some ⟨g,0,none⟩) 2 c] w K:=by
 refine ua [(v0,q),(v1,y)] Y H (by simp only [List.mem_cons,List.not_mem_nil,or_false,forall_eq_or_imp,forall_eq];exact ⟨h0,h1⟩) (by simp only [List.flatMap_cons,List.flatMap_nil,List.append_nil,List.length_append];omega) (by simp) ?_
 simpa only [List.flatMap_cons,List.flatMap_nil,List.append_nil] using k
end
end
section
attribute [local irreducible] ay aQ
theorem mr {w:World} {f:Fr} {o:Oper} {t:TypeId} {x:Operand} {n:Nat} (q:o.op= .unOp .xor t x:=by rfl) (y:ev f x=C2 n:=by rfl) (H:n<65536:=by omega):
  (execOp (ev f) o).run Tryz.prog w= .ok (.value (C2 ((65535 - n:Nat):Int))) w:=by
 have h:=p3 (P:=Tryz.prog) (w:=w) q y
 have h1:(BitVec.ofInt 16 (n:Int)).toNat=n:=by
  rw [BitVec.ofInt_natCast,BitVec.toNat_ofNat];exact Nat.mod_eq_of_lt H
 have J:(BitVec.ofInt 16 (65535:Int))=BitVec.allOnes 16:=by decide
 have e:aH .xor .u16 (if IntKind.u16.signed then -1 else IntKind.u16.max) n=((65535 - n:Nat):Int):=by
  show IntKind.u16.wrap ((BitVec.ofInt 16 (65535:Int) ^^^ BitVec.ofInt 16 (n:Int)).toNat:Int)=_
  rw [J,BitVec.allOnes_xor,BitVec.toNat_not,h1]
  exact IntWalk.u16_in _ (by omega)
 rw [e] at h
 exact h
section
variable {w0 w:World} {L R:List ao} {K:Value→World→Prop} {v u:Value} {bs ps:List Nat}
theorem c133 {n:Nat} (q:SH w0 w L) (y:n<18446744073709551616) (k:K (C2 (aV n)) w):D 133 [C4 n] w K:=
 ye q y fun _ H J=>by rw [tX H J];exact k
theorem c32 {g c:Nat} {t:TypeId} {cs:List Value} {v0:Value} {y:List Nat} (H:SH w0 w L) [p:aR L g t cs R] (hcs:cs=[v0]) (h0:Rb w v0 y) (hlen:y.length≤100000)
  (k1:aV (aK y)=65535→ ∀ q,SH w0 q L→K (.bool true) q) (k2: ¬aV (aK y)=65535→ ∀ q,SH w0 q L→K (.bool false) q):D 32 [.slice (some ⟨g,0,none⟩) 1 c] w K:=by
 refine s32 rfl<|ac<|ac<|c77 H ‹_› ‹_› ‹_› (fun _ H=>ap (fun J=>?_) (fun J=>?_))
 ·refine ah<|k1 (by omega) _ H.ae
 ·refine ah<|k2 (by omega) _ H.ae
theorem c32a {g c:Nat} {t:TypeId} {cs:List Value} {v0 v1:Value} {y H:List Nat} (J:SH w0 w L) [p:aR L g t cs R] (hcs:cs=[v0,v1]) (h0:Rb w v0 y) (h1:Rb w v1 H) (hlen:y.length+H.length≤100000)
  (k1:aV (aK (y++H))=65535→ ∀ q,SH w0 q L→K (.bool true) q) (k2: ¬aV (aK (y++H))=65535→ ∀ q,SH w0 q L→K (.bool false) q):D 32 [.slice (some ⟨g,0,none⟩) 2 c] w K:=by
 refine s32 rfl<|ac<|ac<|c77a J ‹_› ‹_› ‹_› ‹_› (fun _ J=>ap (fun Y=>?_) (fun Y=>?_))
 ·refine ah<|k1 (by omega) _ J.ae
 ·refine ah<|k2 (by omega) _ J.ae
theorem c323 {g c:Nat} {t:TypeId} {cs:List Value} {v0:Value} {q:List Nat} (y:SH w0 w L) [p:aR L g t cs R] (hcs:cs=[v0]) (h0:Rb w v0 q) (hlen:q.length≤100000)
  (k: ∀ H,SH w0 H L→K (C2 (65535 - aV (aK q):Nat)) H):D 323 [.slice (some ⟨g,0,none⟩) 1 c] w K:=by
 have hf:=oh (aK q)
 refine s323 rfl<|ac<|ac<|c77 y ‹_› ‹_› ‹_› (fun _ y=>⟨_,mr,ah (k _ y.ae)⟩)
theorem c323a {g c:Nat} {t:TypeId} {cs:List Value} {v0 v1:Value} {q y:List Nat} (H:SH w0 w L) [p:aR L g t cs R] (hcs:cs=[v0,v1]) (h0:Rb w v0 q) (h1:Rb w v1 y) (hlen:q.length+y.length≤100000)
  (k: ∀ J,SH w0 J L→K (C2 (65535 - aV (aK (q++y)):Nat)) J):D 323 [.slice (some ⟨g,0,none⟩) 2 c] w K:=by
 have hf:=oh (aK (q++y))
 refine s323 rfl<|ac<|ac<|c77a H ‹_› ‹_› ‹_› ‹_› (fun _ H=>⟨_,mr,ah (k _ H.ae)⟩)
def iX (s a b:Nat):Nat:=65535 - aV ((65535 - s)+(65535 - a)+b)
theorem c387 {s a b:Nat} (hL:SH w0 w L) (hs:s<65536∧a<65536∧b<65536) (k:K (.int .u16 (iX s a b)) w):D 387 [.int .u16 s,.int .u16 a,.int .u16 b] w K:=by
 have hf:=oh ((65535 - s)+(65535 - a)+b)
 refine s387 rfl ?_
 refine ac ?_
 refine ac ?_
 refine ⟨_,mr,?_⟩
 refine ⟨_,IntWalk.u64_in _ (by omega),?_⟩
 refine ⟨_,mr,?_⟩
 refine ⟨_,IntWalk.u64_in _ (by omega),?_⟩
 refine ⟨_,IntWalk.u64_in _ (by omega),?_⟩
 refine ⟨_,IntWalk.u64_in _ (by omega),?_⟩
 refine ⟨_,IntWalk.u64_in _ (by omega),?_⟩
 refine c133 hL (by omega) ?_
 refine ⟨_,mr,?_⟩
 refine ah ?_
 refine k
theorem uc {a b:Nat} (ha:a<256) (hb:b<256):a*256+b<65536:=by omega
def cu:Nat→List Nat→List Nat→Nat
 | s,a::b::r,c::d::q=>cu (iX s (a*256+b) (c*256+d)) r q
 | s,_,_=>s
theorem qe (s a b:Nat):iX s a b<65536:=by unfold iX;omega
theorem qf: ∀ (was now:List Nat) (s:Nat),s<65536→cu s was now<65536
 | [],_,s,h=>by rw [cu];exact h;simp
 | [_],_,s,h=>by rw [cu];exact h;simp
 | a::b::r,[],s,h=>by rw [cu];exact h;simp
 | a::b::r,[_],s,h=>by rw [cu];exact h;simp
 | a::b::r,c::d::q,s,h=>by rw [cu];exact qf r q _ (qe _ _ _)
theorem c368 {s:Nat} (q:SH w0 w L) [hb:aD L v bs] [hp:aD L u ps] (hs:s<65536) (hl:bs.length=ps.length∧bs.length % 2=0) (hlen:bs.length≤100000)
  (k:cu s bs ps<65536→ ∀ w',SH w0 w' L→K (.tuple #[C2 (cu s bs ps),C5 0]) w'):D 368 [C2 s,v,u] w K:=by
 have hend:=qf bs ps s hs
 obtain ⟨a,c,rfl,hcap,hB,hlie⟩:=q.enter (v:=v)
 obtain ⟨a',c',rfl,hcap',hB',hlie'⟩:=q.enter (v:=u)
 refine s368 rfl<|ac<|aq<|Df ⟨by decide,_,Int.tmod_eq_emod_of_nonneg (by omega),Df (ak (aG ?_))⟩
 refine bU ([0,1,2]++List.range' 19 15) rfl [0,1,2] (fun (⟨z,⟨ws,wa,wc⟩,⟨ns,na,nc⟩⟩:Nat × (List Nat × Option Addr × Nat) × (List Nat × Option Addr × Nat))=>[C2 z,sl wa wc ws,sl na nc ns])
  (fun ⟨z,⟨ws,wa,wc⟩,⟨ns,na,nc⟩⟩ w'=>(cu z ws ns=cu s bs ps∧z<65536∧ws.length=ns.length∧ws.length % 2=0∧ws.length≤100000∧bK ws∧bK ns)∧aD L (sl wa wc ws) ws∧aD L (sl na nc ns) ns∧SH w0 w' L) (fun x=>x.2.1.1.length) (s,(bs,a,c),(ps,a',c')) rfl ⟨⟨rfl,hs,hl.1,hl.2,hlen,hB,hB'⟩,hb,hp,q⟩ ?_
 rintro g ⟨z,⟨ws,wa,wc⟩,⟨ns,na,nc⟩⟩ w1 ⟨⟨hz,hz1,hz2,hz3,hz4,H,J⟩,hbw,hbn,q⟩
 refine aq<|ap (fun y=>?_) (fun y=>?_)
 ·refine ak<|aG<|cv<|have q:=q.drew;?_
  obtain ⟨p0,p1,pr,rfl⟩: ∃ p0 p1 pr,ws=p0::p1::pr:=by
   match ws,y,hz3 with
   | p0::p1::pr,_,_=>exact ⟨p0,p1,pr,rfl⟩
   | [_],_,h=>simp at h
   | [],h,_=>simp at h
  obtain ⟨q0,q1,qr,rfl⟩: ∃ p0 p1 pr,ns=p0::p1::pr:=by
   match ns,hz2 with
   | p0::p1::pr,_=>exact ⟨p0,p1,pr,rfl⟩
   | [_],h=>simp at h
   | [],h=>simp at h
  have w0lt:p0*256+p1<65536:=uc (H.1 p0 (by simp)) (H.1 p1 (by simp))
  have n0lt:q0*256+q1<65536:=uc (J.1 q0 (by simp)) (J.1 q1 (by simp))
  refine q.lj (M:=L) (n:=(p0::p1::pr).length) (bs:=p0::p1::pr) (2) fun a_28 c_28 _ _=>q.lj (M:=L) (n:=(q0::q1::qr).length) (bs:=q0::q1::qr) (2) fun a_31 c_31 _ _=>c132 (v:=sl a_28 c_28 (List.take 2 (p0::p1::pr))) q (fun _ q=>⟨trivial,c132 (v:=sl a_31 c_31 (List.take 2 (q0::q1::qr))) q (fun _ q=>⟨trivial,c387 q (by exact ⟨hz1,w0lt,n0lt⟩) (⟨trivial,cv ?_⟩)⟩)⟩)
  have q:=q.drew
  refine q.eV (M:=L) (2) fun a_23 c_23 Y _=>q.eV (M:=L) (2) fun a_25 c_25 hb_25 _=>?_
  simp only [List.length_cons] at hz2 hz3 hz4
  exact ⟨(iX z (p0*256+p1) (q0*256+q1),(pr,a_23,c_23),(qr,a_25,c_25)),rfl,⟨⟨hz,qe _ _ _,by omega,by omega,by omega,kt H 2,kt J 2⟩,Y,hb_25,q⟩,Nat.lt_succ_of_lt (Nat.lt_succ_self _)⟩
 ·obtain rfl:ws=[]:=by
   match ws,y with
   | [],_=>rfl
   | _::_,h=>simp at h
  obtain rfl:z=cu s bs ps:=by
   rw [←hz]
   cases ns<;>rfl
  refine aS<|ac<|ah<|k ‹_› _ q.ae
end
end
section
attribute [local irreducible] ay aQ
theorem qg {x m:Nat} {k:IntKind} (H:k.signed=false) (J:x<2 ^ k.bits) (Y:m≤k.bits):aH .and k (x:Int) ((2 ^ m - 1:Nat):Int)=((x % 2 ^ m:Nat):Int):=by
 have q:2 ^ m≤2 ^ k.bits:=Nat.pow_le_pow_right (by omega) Y
 have hpos:0<2 ^ m:=Nat.pow_pos (by omega)
 have h1:(BitVec.ofInt k.bits (x:Int)).toNat=x:=by
  rw [BitVec.ofInt_natCast,BitVec.toNat_ofNat];exact Nat.mod_eq_of_lt J
 have h2:(BitVec.ofInt k.bits ((2 ^ m - 1:Nat):Int)).toNat=2 ^ m - 1:=by
  rw [BitVec.ofInt_natCast,BitVec.toNat_ofNat];exact Nat.mod_eq_of_lt (by omega)
 show k.wrap ((BitVec.ofInt k.bits _ &&& BitVec.ofInt k.bits _).toNat:Int)=_
 rw [BitVec.toNat_and,h1,h2,Nat.and_two_pow_sub_one_eq_mod]
 have y:x % 2 ^ m<2 ^ k.bits:=Nat.lt_of_lt_of_le (Nat.mod_lt _ hpos) q
 cases k<;>simp [IntKind.signed] at H<;>simp [IntKind.bits] at y<;>first | exact IntWalk.u8_in _ (by omega) | exact IntWalk.u16_in _ (by omega) | exact IntWalk.u32_in _ (by omega) | exact IntWalk.u64_in _ (by omega)
theorem qh {x:Nat} (q:x<256):aH .and .u8 (x:Int) 15=((x % 16:Nat):Int):=qg (m:=4) rfl q (by decide)
theorem om {x:Nat} (hx:x<256):(x:Int).fdiv (2 ^ (min (4:Int).toNat IntKind.u8.bits))=((x / 16:Nat):Int):=by
 have h1:(2:Int) ^ (min (4:Int).toNat IntKind.u8.bits)=16:=by decide
 rw [h1,Int.fdiv_eq_ediv_of_nonneg _ (by omega)]
 omega
def fZ (x:Nat):Nat:=x - (x / 16384 % 2)*16384
theorem yu (x i:Nat):(fZ x).testBit i=(x.testBit i&&!decide (14=i)):=by
 have e2:fZ x=2 ^ 15*(x / 2 ^ 15)+x % 2 ^ 14:=by unfold fZ;omega
 have q:x % 2 ^ 14<2 ^ 14:=Nat.mod_lt _ (by decide)
 have hlo2:x % 2 ^ 14<2 ^ 15:=by omega
 rw [e2,Nat.testBit_two_pow_mul_add _ hlo2]
 by_cases y:i<14
 ·rw [if_pos (by omega),Nat.testBit_mod_two_pow]
  simp [y]
  omega
 ·by_cases h:i=14
  ·subst h
   rw [if_pos (by omega),Nat.testBit_lt_two_pow q]
   simp
  ·rw [if_neg (by omega),Nat.testBit_div_two_pow,show i - 15+15=i by omega]
   have: ¬14=i:=fun e=>h e.symm
   simp [this]
theorem yv (x:Nat):fZ x≤x:=by unfold fZ;omega
theorem yw {x:Nat} (hx:x<65536):aH .andNot .i64 (x:Int) 16384=((fZ x:Nat):Int):=by
 have key:(BitVec.ofInt 64 (x:Int) &&& ~~~(BitVec.ofInt 64 (16384:Int)))=BitVec.ofNat 64 (fZ x):=by
  apply BitVec.eq_of_getLsbD_eq
  intro i hi
  rw [BitVec.ofInt_natCast,BitVec.getLsbD_and,BitVec.getLsbD_not,BitVec.getLsbD_ofNat,BitVec.getLsbD_ofNat,yu]
  have q:BitVec.ofInt 64 (16384:Int)=BitVec.ofNat 64 (2 ^ 14):=by decide
  rw [q,BitVec.getLsbD_ofNat,Nat.testBit_two_pow]
  simp [hi]
 show IntKind.i64.wrap ((BitVec.ofInt 64 (x:Int) &&& ~~~(BitVec.ofInt 64 (16384:Int))).toNat:Int)=_
 have:=yv x
 rw [key,BitVec.toNat_ofNat,Nat.mod_eq_of_lt (by omega)]
 exact IntWalk.i64_in _ (by omega)
attribute [local irreducible] aH
section
variable {w0 w:World} {L R:List ao} {K:Value→World→Prop} {v u:Value} {bs ps:List Nat}
def dg (bs:List Nat):Nat:=bs.getD 0 0 % 16*4
abbrev fu (bs:List Nat):Prop:=20≤bs.length∧bs.getD 0 0 / 16=4∧20≤dg bs∧dg bs≤bs.length∧num bs 2 2≤bs.length∧dg bs≤num bs 2 2
abbrev eW (bs:List Nat):Prop:=20≤bs.length∧bs.getD 0 0 / 16=4∧20≤dg bs∧dg bs≤bs.length∧dg bs≤num bs 2 2
theorem fk58:fG Tryz.prog 58=true:=by kernel_rfl
theorem fk393:fG Tryz.prog 393=true:=by kernel_rfl
theorem c58 {x y:Int} (q:SH w0 w L) (k: ∀ m:Int,x≤m→y≤m→(m=x∨m=y)→ ∀ J,SH w0 J L→K (C5 m) J):D 58 [.agg #[C5 x,C5 y]] w K:=by
 refine s58 rfl<|ac<|q.az [C5 x,C5 y] fun H _ q=>ac<|q.C9 (b:=H) rfl<|q.C9 (b:=H) rfl<|ir fun _ _ _ _=>ah<|k _ ‹_› ‹_› ‹_› _ q.ae
theorem c393 {x y:Int} (q:SH w0 w L) (k: ∀ J,SH w0 J L→K (C5 x) J):D 393 [.agg #[C5 x,C5 y]] w K:=by
 refine s393 rfl<|ac<|q.az [C5 x,C5 y] fun H _ q=>ac<|q.C9 (b:=H) rfl<|ah<|k _ q.ae
theorem c57 (q:SH w0 w L) [hb:aD L v bs]
  (k1:fu bs→num bs 2 2<65536→ ∀ w',SH w0 w' L→K (.tuple #[.agg #[.int .i64 (dg bs),.int .i64 (num bs 2 2)],.nilIface]) w')
  (k2: ¬fu bs→ ∀ (x y:Int) b w',SH w0 w' (Ex b::L)→K (.tuple #[.agg #[.int .i64 x,.int .i64 y],bu b]) w'):D 57 [v,.func (.func 58) #[] #[]] w K:=by
 obtain ⟨a,c,rfl,hcap,hB,hl⟩:=q.enter (v:=v)
 refine s57 rfl<|ac<|q.an fun J _ q=>aq<|ap (fun h_9=>?_) (fun h_9=>?_)
 ·refine ac ⟨rfl,[.int .i64 0,.int .i64 0],rfl,c30 q (by omega) (by omega) (fun _ _ q=>q.aj (b:=J) fun w_26 q=>ah (q.Da (b:=J) rfl (k2 (by (simp only [fu,eW,dg];omega)) _ _ _ _ q.ae)))⟩
 ·refine ak ?_
  obtain ⟨Y,rfl⟩:=q.dp a
  refine bt [6,12,13,14,15,16,17,18,19,20] rfl [0,1,4,5,6] (fun (H:Nat)=>[sl (some Y) c bs,Value.func (Fn.func 58) #[] #[],pt J,.nilIface,pt H]) (fun (H:Nat) w'=>(bs.getD 0 0<256)∧(num bs 2 2<65536)∧SH w0 w' (Cl H 138 [.int .i64 (↑(bs.getD 0 0 % 16)*4),.int .i64 (num bs 2 2)]::Cl J 138 [.int .i64 0,.int .i64 0]::L)) ?_ ?_
  ·refine lZ<|have q:=q.drew;⟨by omega,_,rfl,q.cV (j:=0) fun h_14=>⟨_,qh (by omega),Db (Db (⟨?_,?_⟩))⟩⟩
   ·exact c100 (v:=sl (some Y) c bs) q (by omega) (fun h_19=>⟨⟨q.aX,trivial⟩,⟨rfl,[.int .i64 (↑(bs.getD 0 0 % 16)*4),.int .i64 (num bs 2 2)],rfl,q.an fun H w_6 q=>⟨⟨q.aX,trivial⟩,q.aj (b:=H) fun w_33 q=>⟨H,rfl,‹_›,‹_›,q.ae⟩⟩⟩⟩)
   ·exact q.an fun H w_6 q=>⟨⟨q.aX,trivial⟩,c100 (v:=sl (some Y) c bs) q (by omega) (fun h_19=>⟨⟨q.aX,trivial⟩,⟨rfl,[.int .i64 (↑(bs.getD 0 0 % 16)*4),.int .i64 (num bs 2 2)],rfl,q.aj (b:=H) fun w_33 q=>⟨H,rfl,‹_›,‹_›,q.ae⟩⟩⟩)⟩
  rintro g H w_26 ⟨h_14,h_19,q⟩
  refine aG<|ac ⟨by omega,_,rfl,q.cV (j:=0) fun _=>⟨by decide,_,om (by omega),ap (fun h_26'=>?_) (fun h_26'=>?_)⟩⟩
  ·refine ai<|aJ<|have q:=q.drew;q.Da (b:=H) rfl<|c30 q (by omega) (by omega) (fun _ _ q=>⟨⟨⟨_,q.af (b:=H) rfl,rfl⟩,trivial⟩,q.aj (b:=J) fun _ q=>⟨⟨⟨_,q.af (b:=H) rfl,rfl⟩,trivial⟩,ah (q.Da (b:=J) rfl (k2 (by (simp only [fu,eW,dg];omega)) _ _ _ _ q.ae))⟩⟩)
  ·refine ai<|ac<|q.C9 (b:=H) rfl<|ap (fun h_32=>?_) (fun h_32=>?_)
   ·refine ai<|aJ<|have q:=q.drew;q.Da (b:=H) rfl<|c30 q (by omega) (by omega) (fun _ _ q=>⟨⟨⟨_,q.af (b:=H) rfl,rfl⟩,trivial⟩,q.aj (b:=J) fun _ q=>⟨⟨⟨_,q.af (b:=H) rfl,rfl⟩,trivial⟩,ah (q.Da (b:=J) rfl (k2 (by (simp only [fu,eW,dg];omega)) _ _ _ _ q.ae))⟩⟩)
   ·refine ai<|ac<|q.Da (b:=H) rfl ⟨fk58,c58 q (fun _ _ _ _ _ q=>ap (fun h_41=>?_) (fun h_41=>?_))⟩
    ·refine ai<|aJ<|have q:=q.drew;q.Da (b:=H) rfl<|c30 q (by omega) (by omega) (fun _ _ q=>⟨⟨⟨_,q.af (b:=H) rfl,rfl⟩,trivial⟩,q.aj (b:=J) fun _ q=>⟨⟨⟨_,q.af (b:=H) rfl,rfl⟩,trivial⟩,ah (q.Da (b:=J) rfl (k2 (by (simp only [fu,eW,dg];omega)) _ _ _ _ q.ae))⟩⟩)
    ·refine ai<|ac<|q.C9 (b:=H) rfl<|q.C9 (b:=H) rfl<|ap (fun h_49=>?_) (fun h_49=>?_)
     ·refine ai<|aJ<|have q:=q.drew;q.Da (b:=H) rfl<|c30 q (by omega) (by omega) (fun _ _ q=>⟨⟨⟨_,q.af (b:=H) rfl,rfl⟩,trivial⟩,q.aj (b:=J) fun _ q=>⟨⟨⟨_,q.af (b:=H) rfl,rfl⟩,trivial⟩,ah (q.Da (b:=J) rfl (k2 (by (simp only [fu,eW,dg];omega)) _ _ _ _ q.ae))⟩⟩)
     ·refine ai<|ak<|ac<|q.Da (b:=H) rfl<|q.aj (b:=J) fun _ q=>ah<|q.Da (b:=J) rfl<|k1 (by (simp only [fu,eW,dg];omega)) (by assumption) _ q.ae
theorem c57a (q:SH w0 w L) [hb:aD L v bs]
  (k1:eW bs→num bs 2 2<65536→ ∀ w',SH w0 w' L→K (.tuple #[.agg #[.int .i64 (dg bs),.int .i64 (num bs 2 2)],.nilIface]) w')
  (k2: ¬eW bs→ ∀ (x y:Int) b w',SH w0 w' (Ex b::L)→K (.tuple #[.agg #[.int .i64 x,.int .i64 y],bu b]) w'):D 57 [v,.func (.func 393) #[] #[]] w K:=by
 obtain ⟨a,c,rfl,hcap,hB,hl⟩:=q.enter (v:=v)
 refine s57 rfl<|ac<|q.an fun J _ q=>aq<|ap (fun h_9=>?_) (fun h_9=>?_)
 ·refine ac ⟨rfl,[.int .i64 0,.int .i64 0],rfl,c30 q (by omega) (by omega) (fun _ _ q=>q.aj (b:=J) fun w_26 q=>ah (q.Da (b:=J) rfl (k2 (by (simp only [fu,eW,dg];omega)) _ _ _ _ q.ae)))⟩
 ·refine ak ?_
  obtain ⟨Y,rfl⟩:=q.dp a
  refine bt [6,12,13,14,15,16,17,18,19,20] rfl [0,1,4,5,6] (fun (H:Nat)=>[sl (some Y) c bs,Value.func (Fn.func 393) #[] #[],pt J,.nilIface,pt H]) (fun (H:Nat) w'=>(bs.getD 0 0<256)∧(num bs 2 2<65536)∧SH w0 w' (Cl H 138 [.int .i64 (↑(bs.getD 0 0 % 16)*4),.int .i64 (num bs 2 2)]::Cl J 138 [.int .i64 0,.int .i64 0]::L)) ?_ ?_
  ·refine lZ<|have q:=q.drew;⟨by omega,_,rfl,q.cV (j:=0) fun h_14=>⟨_,qh (by omega),Db (Db (⟨?_,?_⟩))⟩⟩
   ·exact c100 (v:=sl (some Y) c bs) q (by omega) (fun h_19=>⟨⟨q.aX,trivial⟩,⟨rfl,[.int .i64 (↑(bs.getD 0 0 % 16)*4),.int .i64 (num bs 2 2)],rfl,q.an fun H w_6 q=>⟨⟨q.aX,trivial⟩,q.aj (b:=H) fun w_33 q=>⟨H,rfl,‹_›,‹_›,q.ae⟩⟩⟩⟩)
   ·exact q.an fun H w_6 q=>⟨⟨q.aX,trivial⟩,c100 (v:=sl (some Y) c bs) q (by omega) (fun h_19=>⟨⟨q.aX,trivial⟩,⟨rfl,[.int .i64 (↑(bs.getD 0 0 % 16)*4),.int .i64 (num bs 2 2)],rfl,q.aj (b:=H) fun w_33 q=>⟨H,rfl,‹_›,‹_›,q.ae⟩⟩⟩)⟩
  rintro g H w_26 ⟨h_14,h_19,q⟩
  refine aG<|ac ⟨by omega,_,rfl,q.cV (j:=0) fun _=>⟨by decide,_,om (by omega),ap (fun h_26'=>?_) (fun h_26'=>?_)⟩⟩
  ·refine ai<|aJ<|have q:=q.drew;q.Da (b:=H) rfl<|c30 q (by omega) (by omega) (fun _ _ q=>⟨⟨⟨_,q.af (b:=H) rfl,rfl⟩,trivial⟩,q.aj (b:=J) fun _ q=>⟨⟨⟨_,q.af (b:=H) rfl,rfl⟩,trivial⟩,ah (q.Da (b:=J) rfl (k2 (by (simp only [fu,eW,dg];omega)) _ _ _ _ q.ae))⟩⟩)
  ·refine ai<|ac<|q.C9 (b:=H) rfl<|ap (fun h_32=>?_) (fun h_32=>?_)
   ·refine ai<|aJ<|have q:=q.drew;q.Da (b:=H) rfl<|c30 q (by omega) (by omega) (fun _ _ q=>⟨⟨⟨_,q.af (b:=H) rfl,rfl⟩,trivial⟩,q.aj (b:=J) fun _ q=>⟨⟨⟨_,q.af (b:=H) rfl,rfl⟩,trivial⟩,ah (q.Da (b:=J) rfl (k2 (by (simp only [fu,eW,dg];omega)) _ _ _ _ q.ae))⟩⟩)
   ·refine ai<|ac<|q.Da (b:=H) rfl ⟨fk393,c393 q (fun _ q=>ap (fun h_41=>?_) (fun h_41=>?_))⟩
    ·refine ai<|aJ<|have q:=q.drew;q.Da (b:=H) rfl<|c30 q (by omega) (by omega) (fun _ _ q=>⟨⟨⟨_,q.af (b:=H) rfl,rfl⟩,trivial⟩,q.aj (b:=J) fun _ q=>⟨⟨⟨_,q.af (b:=H) rfl,rfl⟩,trivial⟩,ah (q.Da (b:=J) rfl (k2 (by (simp only [fu,eW,dg];omega)) _ _ _ _ q.ae))⟩⟩)
    ·refine ai<|ac<|q.C9 (b:=H) rfl<|q.C9 (b:=H) rfl<|ap (fun h_49=>?_) (fun h_49=>?_)
     ·refine ai<|aJ<|have q:=q.drew;q.Da (b:=H) rfl<|c30 q (by omega) (by omega) (fun _ _ q=>⟨⟨⟨_,q.af (b:=H) rfl,rfl⟩,trivial⟩,q.aj (b:=J) fun _ q=>⟨⟨⟨_,q.af (b:=H) rfl,rfl⟩,trivial⟩,ah (q.Da (b:=J) rfl (k2 (by (simp only [fu,eW,dg];omega)) _ _ _ _ q.ae))⟩⟩)
     ·refine ai<|ak<|ac<|q.Da (b:=H) rfl<|q.aj (b:=J) fun _ q=>ah<|q.Da (b:=J) rfl<|k1 (by (simp only [fu,eW,dg];omega)) (by assumption) _ q.ae
end
end
section
attribute [local irreducible] ay aQ aH
theorem bg {w:World} {f:Fr} {o:Oper} {x:Operand} {neg:Bool} (q:o.op= .binOp (if neg then .neq else .eql) 62 x (.const .nilIface) 62) (y:ev f x= .nilIface:=by rfl):(execOp (ev f) o).run Tryz.prog w= .ok (.value (.bool (!neg))) w:=
 tr (neg:=neg) q Tryz.underlying62 y (.inl rfl) (by cases neg<;>rfl)
theorem bH {w:World} {f:Fr} {o:Oper} {x:Operand} {neg:Bool} {u:TypeId} {y:Value} (q:o.op= .binOp (if neg then .neq else .eql) 62 x (.const .nilIface) 62) (H:ev f x= .iface u y:=by rfl):(execOp (ev f) o).run Tryz.prog w= .ok (.value (.bool neg)) w:=
 tr (neg:=neg) q Tryz.underlying62 H (.inr ⟨_,_,rfl⟩) (by cases neg<;>rfl)
theorem cq {w:World} {f:Fr} {o:Oper} {t:TypeId} {x y:Operand} {k:IntKind} {a b:Nat} (q:o.op= .call { callee:= .builtin .min,args:=#[x,y],argTypes:=#[t,t] } :=by rfl) (H:ev f x= .int k a:=by rfl) (J:ev f y= .int k b:=by rfl):
  (execOp (ev f) o).run Tryz.prog w= .ok (.value (.int k ((min a b:Nat):Int))) w:=by
 rw [tI q H J]
 congr 3
 omega
abbrev DI (tos id:Nat) (keep:Bool) (ttl proto fr to:Nat) (body:Value):List Value:=[C1 tos,C2 id,.bool keep,C1 ttl,C1 proto,C3 fr,C3 to,body]
abbrev ba (tos id:Nat) (keep:Bool) (ttl proto fr to:Nat) (body:Value):Value:= .agg #[C1 tos,C2 id,.bool keep,C1 ttl,C1 proto,C3 fr,C3 to,body]
abbrev fv:Value:=ba 0 0 false 0 0 0 0 (sN)
def bI (tos id ttl proto fr to:Nat):Prop:=tos<256∧id<65536∧ttl<256∧proto<256∧fr<4294967296∧to<4294967296
section
variable {w0 w:World} {L R:List ao} {K:Value→World→Prop} {v u:Value} {bs ps:List Nat}
theorem yx {head whole:Nat} (q:SH w0 w L) [hb:aD L v bs] (h:20≤bs.length∧20≤head∧head≤bs.length∧head≤whole)
  (k1:head=20→fZ (num bs 6 2)=0→ ∀ keep:Bool,(keep=true↔num bs 6 2≠0)→bI (bs.getD 1 0) (num bs 4 2) (bs.getD 8 0) (bs.getD 9 0) (num bs 12 4) (num bs 16 4)→ ∀ a c w',
   SH w0 w' (Nb 5 (sl a c ((bs.drop head).take (min whole bs.length - head))) ((bs.drop head).take (min whole bs.length - head))::L)→
   K (.tuple #[ba (bs.getD 1 0) (num bs 4 2) keep (bs.getD 8 0) (bs.getD 9 0) (num bs 12 4) (num bs 16 4) (sl a c ((bs.drop head).take (min whole bs.length - head))),.nilIface]) w')
  (k2: ¬ (head=20∧fZ (num bs 6 2)=0)→ ∀ b w',SH w0 w' (Ex b::L)→K (.tuple #[fv,bu b]) w'):D 59 [v,.agg #[C5 head,C5 whole]] w K:=by
 obtain ⟨a,c,rfl,hcap,hB,hl⟩:=q.enter (v:=v)
 have hpk:bI (bs.getD 1 0) (num bs 4 2) (bs.getD 8 0) (bs.getD 9 0) (num bs 12 4) (num bs 16 4):=⟨ft hB.1 _,(nW hB 4 2).2.1 rfl,ft hB.1 _,ft hB.1 _,(nW hB 12 4).2.2 rfl,(nW hB 16 4).2.2 rfl⟩
 refine s59 rfl<|ac<|q.az [C5 head,C5 whole] fun y _ q=>q.an fun J _ q=>ac<|c100 (v:=sl a c bs) q (by omega) (fun _=>aG (ac (q.C9 (b:=y) rfl (ap (fun h_12=>?_) (fun h_12=>?_)))))
 ·refine ai<|ac ⟨rfl,[C1 0,C2 0,.bool false,C1 0,C1 0,C3 0,C3 0,sN],rfl,c30 q (by omega) (by omega) (fun _ _ q=>q.aj (b:=J) fun _ q=>ah (q.Da (b:=J) rfl (k2 (by omega) _ _ q.ae)))⟩
 ·refine ai<|ac ⟨_,yw (by omega),ap (fun h_18=>?_) (fun h_18=>?_)⟩
  ·refine ai<|ac ⟨rfl,[C1 0,C2 0,.bool false,C1 0,C1 0,C3 0,C3 0,sN],rfl,c30 q (by omega) (by omega) (fun _ _ q=>q.aj (b:=J) fun _ q=>ah (q.Da (b:=J) rfl (k2 (by omega) _ _ q.ae)))⟩
  ·refine ai<|ak<|aJ<|have q:=q.drew;?_
   obtain ⟨H,rfl⟩:=q.dp a
   refine ⟨by omega,_,rfl,q.cV (j:=1) fun _=>ap (fun h_28=>?_) (fun h_28=>?_)⟩
   ·refine ⟨by omega,_,rfl,q.cV (j:=8) fun h_31=>⟨by omega,_,rfl,q.cV (j:=9) fun h_34=>q.C9 (b:=y) rfl (q.C9 (b:=y) rfl (⟨_,cq,q.qa (M:=L) (n:=bs.length) (bs:=bs) (head) (min whole bs.length) fun Y c_47 hb_47 hl_47=>c100 (v:=sl (some H) c bs) q (by omega) (fun h_25=>⟨⟨cq,⟨q.ld (b:=y) rfl,⟨q.ld (b:=y) rfl,⟨q.aX,⟨q.aX,⟨q.aX,trivial⟩⟩⟩⟩⟩⟩,⟨_,IntWalk.u16_in _ (by omega),c101 (v:=sl (some H) c bs) q (by omega) (fun h_36=>⟨⟨cq,⟨q.ld (b:=y) rfl,⟨q.ld (b:=y) rfl,⟨q.aX,⟨q.aX,⟨q.aX,trivial⟩⟩⟩⟩⟩⟩,c101 (v:=sl (some H) c bs) q (by omega) (fun h_38=>⟨⟨cq,⟨q.ld (b:=y) rfl,⟨q.ld (b:=y) rfl,⟨q.aX,⟨q.aX,⟨q.aX,trivial⟩⟩⟩⟩⟩⟩,c34 (v:=sl Y c_47 (List.take (min whole bs.length - head) (List.drop head bs))) q (fun a_48 c_48 w_48 h_483 q=>⟨⟨cq,⟨q.ld (b:=y) rfl,⟨q.ld (b:=y) rfl,⟨q.aX,⟨q.aX,⟨q.aX,trivial⟩⟩⟩⟩⟩⟩,⟨rfl,[C1 (bs.getD 1 0),C2 (num bs 4 2),.bool true,C1 (bs.getD 8 0),C1 (bs.getD 9 0),C3 (num bs 12 4),C3 (num bs 16 4),sl a_48 c_48 (List.take (min whole bs.length - head) (List.drop head bs))],rfl,q.aj (b:=J) fun w_56 q=>⟨⟨cq,⟨q.ld (b:=y) rfl,⟨q.ld (b:=y) rfl,⟨q.aX,⟨q.aX,⟨q.aX,trivial⟩⟩⟩⟩⟩⟩,ah (q.Da (b:=J) rfl (k1 (by omega) (by omega) _ (by (simp<;>omega)) ‹_› _ _ _ q.ae))⟩⟩⟩)⟩)⟩)⟩⟩)⟩))⟩⟩
   ·refine ⟨by omega,_,rfl,q.cV (j:=8) fun h_31=>⟨by omega,_,rfl,q.cV (j:=9) fun h_34=>q.C9 (b:=y) rfl (q.C9 (b:=y) rfl (⟨_,cq,q.qa (M:=L) (n:=bs.length) (bs:=bs) (head) (min whole bs.length) fun Y c_47 hb_47 hl_47=>c100 (v:=sl (some H) c bs) q (by omega) (fun h_25=>⟨⟨cq,⟨q.ld (b:=y) rfl,⟨q.ld (b:=y) rfl,⟨q.aX,⟨q.aX,⟨q.aX,trivial⟩⟩⟩⟩⟩⟩,⟨_,IntWalk.u16_in _ (by omega),c101 (v:=sl (some H) c bs) q (by omega) (fun h_36=>⟨⟨cq,⟨q.ld (b:=y) rfl,⟨q.ld (b:=y) rfl,⟨q.aX,⟨q.aX,⟨q.aX,trivial⟩⟩⟩⟩⟩⟩,c101 (v:=sl (some H) c bs) q (by omega) (fun h_38=>⟨⟨cq,⟨q.ld (b:=y) rfl,⟨q.ld (b:=y) rfl,⟨q.aX,⟨q.aX,⟨q.aX,trivial⟩⟩⟩⟩⟩⟩,c34 (v:=sl Y c_47 (List.take (min whole bs.length - head) (List.drop head bs))) q (fun a_48 c_48 w_48 h_483 q=>⟨⟨cq,⟨q.ld (b:=y) rfl,⟨q.ld (b:=y) rfl,⟨q.aX,⟨q.aX,⟨q.aX,trivial⟩⟩⟩⟩⟩⟩,⟨rfl,[C1 (bs.getD 1 0),C2 (num bs 4 2),.bool false,C1 (bs.getD 8 0),C1 (bs.getD 9 0),C3 (num bs 12 4),C3 (num bs 16 4),sl a_48 c_48 (List.take (min whole bs.length - head) (List.drop head bs))],rfl,q.aj (b:=J) fun w_56 q=>⟨⟨cq,⟨q.ld (b:=y) rfl,⟨q.ld (b:=y) rfl,⟨q.aX,⟨q.aX,⟨q.aX,trivial⟩⟩⟩⟩⟩⟩,ah (q.Da (b:=J) rfl (k1 (by omega) (by omega) _ (by (simp<;>omega)) ‹_› _ _ _ q.ae))⟩⟩⟩)⟩)⟩)⟩⟩)⟩))⟩⟩
abbrev cJ (bs:List Nat) (whole:Nat):List Nat:=(bs.drop 20).take (min whole bs.length - 20)
theorem c59 {head whole:Nat} (y:SH w0 w L) [hb:aD L v bs] (h:20≤bs.length∧20≤head∧head≤bs.length∧head≤whole)
  (k1:head=20→fZ (num bs 6 2)=0→ ∀ keep:Bool,(keep=true↔num bs 6 2≠0)→bI (bs.getD 1 0) (num bs 4 2) (bs.getD 8 0) (bs.getD 9 0) (num bs 12 4) (num bs 16 4)→ ∀ a c q,
   SH w0 q (Nb 5 (sl a c (cJ bs whole)) (cJ bs whole)::L)→
   K (.tuple #[ba (bs.getD 1 0) (num bs 4 2) keep (bs.getD 8 0) (bs.getD 9 0) (num bs 12 4) (num bs 16 4) (sl a c (cJ bs whole)),.nilIface]) q)
  (k2: ¬ (head=20∧fZ (num bs 6 2)=0)→ ∀ b q,SH w0 q (Ex b::L)→K (.tuple #[fv,bu b]) q):D 59 [v,.agg #[C5 head,C5 whole]] w K:=
 yx y h (fun e=>by subst e;exact k1 rfl) k2
def gw (bs:List Nat):Prop:=fu bs∧aV (aK (bs.take (dg bs)))=65535∧dg bs=20∧fZ (num bs 6 2)=0
def mu (bs:List Nat):Prop:=eW bs∧dg bs=20∧fZ (num bs 6 2)=0
theorem c23 (q:SH w0 w L) [hb:aD L v bs] (hlen:bs.length≤100000)
  (k1:gw bs→ ∀ keep:Bool,(keep=true↔num bs 6 2≠0)→bI (bs.getD 1 0) (num bs 4 2) (bs.getD 8 0) (bs.getD 9 0) (num bs 12 4) (num bs 16 4)→ ∀ a c J,
   SH w0 J (Nb 5 (sl a c (cJ bs (num bs 2 2))) (cJ bs (num bs 2 2))::L)→
   K (.tuple #[ba (bs.getD 1 0) (num bs 4 2) keep (bs.getD 8 0) (bs.getD 9 0) (num bs 12 4) (num bs 16 4) (sl a c (cJ bs (num bs 2 2))),.nilIface]) J)
  (k2: ¬gw bs→ ∀ b J,SH w0 J (Ex b::L)→K (.tuple #[fv,bu b]) J):D 23 [v] w K:=by
 obtain ⟨a,c,rfl,hcap,hB,hl⟩:=q.enter (v:=v)
 refine s23 rfl<|ac<|q.an fun y _ q=>ac<|c57 (v:=sl a c bs) q (fun h_8 _ w_8 q=>?_) (fun h_8 _ _ _ w_8 q=>?_)
 ·refine q.an fun H w_4 q=>q.aj (b:=H) fun _ q=>aG<|ac ⟨_,bg (neg:=true) rfl,ai (ac (q.C9 (b:=H) rfl (q.lj (M:=L) (n:=bs.length) (bs:=bs) (dg bs) fun Y c_20 _ _=>⟨rfl,[sl Y c_20 (List.take (dg bs) bs)],rfl,q.an fun _ _ q=>c32 q rfl (by exact q.rb _) (by (simp<;>omega)) (fun h_22 w_22 q=>?_) (fun h_22 w_22 q=>?_)⟩)))⟩
  ·refine Dj<|ai<|ak<|ac<|q.Da (b:=H) rfl<|c59 (v:=sl a c bs) q (by omega) (fun h_28 _ _ _ _ _ _ w_28 q=>?_) (fun h_28 _ w_28 q=>?_)
   ·refine q.aj (b:=y) fun _ q=>ah<|q.Da (b:=y) rfl<|k1 (by trivial) _ ‹_› ‹_› _ _ _ q.ae
   ·refine q.aj (b:=y) fun _ q=>ah<|q.Da (b:=y) rfl<|k2 (by (simp only [gw];rintro ⟨h1,h2,h3,h4⟩;exact absurd (And.intro h3 h4) ‹_›)) _ _ q.ae
  ·refine Dj<|ai<|ac ⟨rfl,[C1 0,C2 0,.bool false,C1 0,C1 0,C3 0,C3 0,sN],rfl,c30 q (by omega) (by omega) (fun _ _ q=>q.aj (b:=y) fun _ q=>ah (q.Da (b:=y) rfl (k2 (by (simp only [gw];rintro ⟨h1,h2,h3,h4⟩;contradiction)) _ _ q.ae)))⟩
 ·refine q.an fun H w_4 q=>q.aj (b:=H) fun _ q=>aG<|ac ⟨_,bH (neg:=true) rfl,ai (ac (⟨rfl,[C1 0,C2 0,.bool false,C1 0,C1 0,C3 0,C3 0,sN],rfl,q.aj (b:=y) fun _ q=>ah (q.Da (b:=y) rfl (k2 (by (simp only [gw];rintro ⟨h1,h2,h3,h4⟩;contradiction)) _ _ q.ae))⟩))⟩
theorem c384 (q:SH w0 w L) [hb:aD L v bs] (hlen:bs.length≤100000)
  (k1:mu bs→ ∀ keep:Bool,(keep=true↔num bs 6 2≠0)→bI (bs.getD 1 0) (num bs 4 2) (bs.getD 8 0) (bs.getD 9 0) (num bs 12 4) (num bs 16 4)→ ∀ a c J,
   SH w0 J (Nb 5 (sl a c (cJ bs (num bs 2 2))) (cJ bs (num bs 2 2))::L)→
   K (.tuple #[ba (bs.getD 1 0) (num bs 4 2) keep (bs.getD 8 0) (bs.getD 9 0) (num bs 12 4) (num bs 16 4) (sl a c (cJ bs (num bs 2 2))),.nilIface]) J)
  (k2: ¬mu bs→ ∀ b J,SH w0 J (Ex b::L)→K (.tuple #[fv,bu b]) J):D 384 [v] w K:=by
 obtain ⟨a,c,rfl,hcap,hB,hl⟩:=q.enter (v:=v)
 refine s384 rfl<|ac<|q.an fun y _ q=>ac<|c57a (v:=sl a c bs) q (fun h_8 _ w_8 q=>?_) (fun h_8 _ _ _ w_8 q=>?_)
 ·refine q.an fun H w_4 q=>q.aj (b:=H) fun _ q=>aq ⟨_,bg (neg:=true) rfl,ak (ac (q.Da (b:=H) rfl (c59 (v:=sl a c bs) q (by (simp only [eW] at*;omega)) (fun Y _ _ _ _ _ _ w_17 q=>?_) (fun Y _ w_17 q=>?_))))⟩
  ·refine q.aj (b:=y) fun _ q=>ah<|q.Da (b:=y) rfl<|k1 (by trivial) _ ‹_› ‹_› _ _ _ q.ae
  ·refine q.aj (b:=y) fun _ q=>ah<|q.Da (b:=y) rfl<|k2 (by (simp only [mu];rintro ⟨h1,h3,h4⟩;exact absurd (And.intro h3 h4) ‹_›)) _ _ q.ae
 ·refine q.an fun H w_4 q=>q.aj (b:=H) fun _ q=>aq ⟨_,bH (neg:=true) rfl,ac (⟨rfl,[C1 0,C2 0,.bool false,C1 0,C1 0,C3 0,C3 0,sN],rfl,q.aj (b:=y) fun _ q=>ah (q.Da (b:=y) rfl (k2 (by (simp only [mu];rintro ⟨h1,h3,h4⟩;contradiction)) _ _ q.ae))⟩)⟩
end
end
end Go.Proofs.YtlhpilgmeededaaGreatDoor
namespace Go.Den
open Go Go.RowKit
section
variable {w0 w:World} {L R:List ao}
theorem SH.oo {g c:Nat} {t:TypeId} {o:Nat} {cs:List Value} (J:SH w0 w L) [p:aR L g t cs R] {bs:List Nat} (H:bK bs) (Y:bs.length≤c) (y:(cs.drop o).take bs.length=aT bs):Rb w (.slice (some ⟨g,o,none⟩) bs.length c) bs:=by
 refine ⟨⟨by rw [fW];omega,_,_,rfl,fun h=>(by cases h),fun _ e _ _ q=>?_⟩,H.1,H.2,_,_,rfl,Y⟩
 cases e
 rw [add_plain,cell_of (J.eI g)]
 rw [←y,List.getElem?_take] at q
 split at q
 ·rw [List.getElem?_drop] at q
  exact q
 ·cases q
theorem SH.yy {g:Nat} {t:TypeId} {cs:List Value} (H:SH w0 w L) [p:aR L g t cs R] {x y:Nat} (q:cs=[C1 x,C1 y]:=by rfl) (hb:x<256∧y<256:=by refine ⟨?_,?_⟩<;>first | omega | decide):Rb w (.slice (some ⟨g,0,none⟩) 2 2) [x,y]:=by
 subst q
 exact H.oo (bs:=[x,y]) ⟨by simp;omega,by simp⟩ (Nat.le_refl _) rfl
theorem SH.ud {g:Nat} {t:TypeId} {cs:List Value} (H:SH w0 w L) [p:aR L g t cs R] {x y z u:Nat} (q:cs=[C1 x,C1 y,C1 z,C1 u]:=by rfl) (hb:x<256∧y<256∧z<256∧u<256:=by refine ⟨?_,?_,?_,?_⟩<;>first | omega | decide):Rb w (.slice (some ⟨g,0,none⟩) 4 4) [x,y,z,u]:=by
 subst q
 exact H.oo (bs:=[x,y,z,u]) ⟨by simp;omega,by simp⟩ (Nat.le_refl _) rfl
theorem SH.mw {g o:Nat} {t:TypeId} {cs:List Value} (y:SH w0 w L) [p:aR L g t cs R] {x0 x1 x2 x3 x4 x5:Nat} (q:(cs.drop o).take 6=[C1 x0,C1 x1,C1 x2,C1 x3,C1 x4,C1 x5]:=by rfl)
  (H:bw [C1 x0,C1 x1,C1 x2,C1 x3,C1 x4,C1 x5]:=by assumption):Rb w (.slice (some ⟨g,o,none⟩) 6 6) [x0,x1,x2,x3,x4,x5]:=
 y.oo (bs:=[x0,x1,x2,x3,x4,x5]) (nY H) (Nat.le_refl _) q
end
end Go.Den
namespace Go.Proofs.YtlhpilgmeededaaGreatDoor
open Go Go.Den
set_option maxHeartbeats 4000000
attribute [local irreducible] ay aQ aH
theorem mB {w0 w:World} {L R:List ao} {o:Oper} {f:Fr} {C:Value→World→Prop} {s x:Operand} {v u:Value} {bs ps:List Nat} (J:SH w0 w L) [p:kj L v 5 bs R] [Y:aD R u ps]
  (k: ∀ a c q,SH w0 q (Nb 5 (sl a c (bs++ps)) (bs++ps)::R)→C (sl a c (bs++ps)) q)
  (ho:o.op= .call { callee:= .builtin .append,args:=#[s,x],argTypes:=#[44,44] } :=by rfl) (hv:ev f s=v:=by rfl) (hu:ev f x=u:=by rfl) (hlen:bs.length+ps.length≤1000000:=by first | omega | (simp<;>omega) | (simp [dz,br]<;>omega)):
  aL Tryz.prog o f w C:=by
 have hL1:=J.perm p.perm
 have H:=Y.get hL1.tail
 obtain ⟨hB,hL2⟩:=hL1.jC
 obtain ⟨A,y,hL3⟩:=hL2.iS
 refine app s x gq ho hv hu hL3 y H.reads (l5 _) (by simp only [maxLen];omega) (by omega) fun v' q A' ho' hL'=>?_
 have hcat:bY 5 1 v' (bs++ps).length (aT (bs++ps)) A':=by rw [List.length_append,gM];exact ho'
 obtain ⟨a,c,rfl,hc⟩:=hcat.lc
 exact k a c q (SH.fX (lg hB H.gN (by omega)) (SH.gO hcat hL'))
section
variable {w0 w:World} {L R:List ao} {K:Value→World→Prop} {v u:Value} {bs ps:List Nat}
theorem c199 {t0 t1 t2 t3 t4 t5 f0 f1 f2 f3 f4 f5 kind:Nat} (q:SH w0 w L) [hb:aD L v bs] (ht:bw [C1 t0,C1 t1,C1 t2,C1 t3,C1 t4,C1 t5]) (hf:bw [C1 f0,C1 f1,C1 f2,C1 f3,C1 f4,C1 f5])
  (hk:kind<65536) (hlen:bs.length≤100000)
  (k1:bs.length≤1500→ ∀ a c H,SH w0 H (Nb 5 (sl a c ([t0,t1,t2,t3,t4,t5]++([f0,f1,f2,f3,f4,f5]++(rowOf 2 [kind]++bs)))) ([t0,t1,t2,t3,t4,t5]++([f0,f1,f2,f3,f4,f5]++(rowOf 2 [kind]++bs)))::L)→
   K (.tuple #[sl a c ([t0,t1,t2,t3,t4,t5]++([f0,f1,f2,f3,f4,f5]++(rowOf 2 [kind]++bs))),.nilIface]) H)
  (k2: ¬bs.length≤1500→ ∀ b H,SH w0 H (Ex b::L)→K (.tuple #[sN,bu b]) H):D 199 [mq t0 t1 t2 t3 t4 t5 f0 f1 f2 f3 f4 f5 kind v] w K:=by
 obtain ⟨a,c,rfl,hcap,hB,hl⟩:=q.enter (v:=v)
 refine s199 rfl<|ac<|q.az [C1 t0,C1 t1,C1 t2,C1 t3,C1 t4,C1 t5,C1 f0,C1 f1,C1 f2,C1 f3,C1 f4,C1 f5,C2 kind,sl a c bs] fun y _ q=>aq<|q.C9 (b:=y) rfl<|ap (fun h_9=>?_) (fun h_9=>?_)
 ·refine ac<|c30 q (by omega) (by omega) (fun _ _ q=>ah (k2 (by omega) _ _ q.ae))
 ·refine ak<|ac<|q.C9 (b:=y) rfl<|Dc ⟨rfl,[C4 kind],rfl,q.an fun _ _ q=>c78 q rfl (by (simp<;>omega)) (fun J Y _ q=>aJ ?_)⟩
  have q:=q.drew
  refine ⟨_,dq,⟨_,dq,q.C9 (b:=y) rfl (⟨rfl,[.slice (some ⟨y,0,none⟩) 6 6,.slice (some ⟨y,6,none⟩) 6 6,sl J Y (rowOf 2 [kind]),sl a c bs],rfl,q.an fun _ _ q=>⟨⟨q.ld (b:=y) rfl,⟨dq,⟨dq,trivial⟩⟩⟩,c131b q rfl (by exact q.mw) (by exact q.mw) (by exact q.rb _) (by exact q.rb _) (by (simp [dz,br]<;>omega)) (fun _ _ _ q=>⟨⟨q.ld (b:=y) rfl,⟨dq,⟨dq,trivial⟩⟩⟩,ah (k1 (by omega) _ _ _ q.ae)⟩)⟩⟩)⟩⟩
end
end Go.Proofs.YtlhpilgmeededaaGreatDoor
namespace Go.Proofs.YtlhpilgmeededaaGreatDoor
open Go Go.Den
set_option maxHeartbeats 4000000
set_option maxRecDepth 8000
section
attribute [local irreducible] ay aQ aH
def fw (keep:Bool):Nat:=if keep then 16384 else 0
theorem yz (keep:Bool):fw keep<65536:=by cases keep<;>decide
abbrev jI (tos id:Nat) (keep:Bool) (ttl proto fr to n:Nat):List Nat:=[69,tos]++(rowOf 2 [20+n,id,fw keep]++([ttl,proto,0,0]++rowOf 4 [fr,to]))
theorem ue (tos id:Nat) (keep:Bool) (ttl proto fr to n:Nat):(jI tos id keep ttl proto fr to n).length=20:=by simp [jI,dz]
abbrev bW (tos id:Nat) (keep:Bool) (ttl proto fr to n:Nat):List Nat:=over (jI tos id keep ttl proto fr to n) 10 (nb (65535 - aV (aK (jI tos id keep ttl proto fr to n))) 2)
theorem lk (tos id:Nat) (keep:Bool) (ttl proto fr to n:Nat):(bW tos id keep ttl proto fr to n).length=20:=by
 rw [bW,eo (by rw [ue,br];omega),ue]
section
variable {w0 w:World} {L R:List ao} {K:Value→World→Prop} {v u:Value} {bs ps:List Nat}
theorem c270 {tos id:Nat} {keep:Bool} {ttl proto fr to:Nat} (q:SH w0 w L) [hb:aD L v bs] (hB:bI tos id ttl proto fr to) (hlen:bs.length≤65515)
  (k: ∀ a c w',SH w0 w' (Nb 5 (sl a c (bW tos id keep ttl proto fr to bs.length)) (bW tos id keep ttl proto fr to bs.length)::L)→K (sl a c (bW tos id keep ttl proto fr to bs.length)) w'):D 270 [ba tos id keep ttl proto fr to v] w K:=by
 obtain ⟨a,c,rfl,hcap,hBB,hl⟩:=q.enter (v:=v)
 obtain ⟨h1,h2,h3,h4,h5,h6⟩:=hB
 have hfl:=yz keep
 refine s270 rfl<|ac<|q.az (DI tos id keep ttl proto fr to (sl a c bs)) fun y _ q=>ac<|q.C9 (b:=y) rfl<|Db<|aq<|Df<|ak<|ac ?_
 refine bt [4,18,19] rfl [1,2,3,4] (fun (_:Unit)=>[pt y,sN,C5 (20+ ↑bs.length),C4 (fw keep)]) (fun _ w'=>SH w0 w' (Cl y 46 (DI tos id keep ttl proto fr to (sl a c bs))::L)) ?_ ?_
 ·refine ac<|q.C9 (b:=y) rfl ?_
  cases keep
  ·exact ai<|ak ⟨(),rfl,q⟩
  ·exact ai<|au ⟨(),rfl,q⟩
 rintro g _ w_4 q
 refine ac<|Dc<|q.C9 (b:=y) rfl<|Dc ⟨rfl,[C4 (20+ ↑bs.length),C4 id,C4 (fw keep)],rfl,q.an fun _ _ q=>c78b q rfl (by (simp<;>omega)) (by (simp<;>omega)) (by (simp<;>omega)) (fun Y c_28 _ q=>ac (q.C9 (b:=y) rfl (Dc (q.C9 (b:=y) rfl (Dc (⟨rfl,[C4 fr,C4 to],rfl,q.an fun _ _ q=>c78a q rfl (by (simp<;>omega)) (by (simp<;>omega)) (fun a_39 c_39 _ q=>ac (q.C9 (b:=y) rfl (⟨rfl,[C1 69,C1 tos],rfl,q.an fun b_44 _ q=>q.C9 (b:=y) rfl (q.C9 (b:=y) rfl (⟨rfl,[C1 ttl,C1 proto,C1 0,C1 0],rfl,q.an fun b_50 _ q=>⟨rfl,[.slice (some ⟨b_44,0,none⟩) 2 2,sl Y c_28 (rowOf 2 [20+bs.length,id,fw keep]),.slice (some ⟨b_50,0,none⟩) 4 4,sl a_39 c_39 (rowOf 4 [fr,to])],rfl,q.an fun _ _ q=>c131b q rfl (by exact q.yy) (by exact q.rb _) (by exact q.ud) (by exact q.rb _) (by (simp [dz,br]<;>omega)) (fun H J _ q=>ac (⟨rfl,[sl H J ([69,tos]++(rowOf 2 [20+bs.length,id,fw keep]++([ttl,proto,0,0]++rowOf 4 [fr,to])))],rfl,q.an fun _ _ q=>c323 q rfl (by exact q.rb _) (by (simp [dz,br]<;>omega)) (fun _ q=>?_)⟩))⟩⟩))⟩)))⟩))))))⟩
 refine Dc<|c324 (v:=sl H J ([69,tos]++(rowOf 2 [20+bs.length,id,fw keep]++([ttl,proto,0,0]++rowOf 4 [fr,to])))) q (by (simp [dz,br]<;>omega)) (by (simp<;>omega)) (fun _ _ _ q=>ac (ah (k _ _ _ q.ae)))
theorem c223 {tos id:Nat} {keep:Bool} {ttl proto fr to:Nat} (q:SH w0 w L) [hb:aD L v bs] (hB:bI tos id ttl proto fr to) (hlen:bs.length≤100000)
  (k1:bs.length≤1480→ ∀ a c H,SH w0 H (Nb 5 (sl a c (bW tos id keep ttl proto fr to bs.length++bs)) (bW tos id keep ttl proto fr to bs.length++bs)::L)→K (.tuple #[sl a c (bW tos id keep ttl proto fr to bs.length++bs),.nilIface]) H)
  (k2: ¬bs.length≤1480→ ∀ b H,SH w0 H (Ex b::L)→K (.tuple #[.slice none 0 0,bu b]) H):D 223 [ba tos id keep ttl proto fr to v] w K:=by
 obtain ⟨a,c,rfl,hcap,hBB,hl⟩:=q.enter (v:=v)
 have hh:=lk tos id keep ttl proto fr to bs.length
 refine s223 rfl<|ac<|q.az [.int .u8 tos,.int .u16 id,.bool keep,.int .u8 ttl,.int .u8 proto,.int .u32 fr,.int .u32 to,sl a c bs] fun y _ q=>aq<|q.C9 (b:=y) rfl<|ap (fun h_7=>?_) (fun h_7=>?_)
 ·refine ac<|c30 q (by omega) (by omega) (fun _ _ q=>ah (k2 (by omega) _ _ q.ae))
 ·refine ak<|aJ<|have q:=q.drew;q.Da (b:=y) rfl<|q.C9 (b:=y) rfl<|c270 q (by assumption) (by omega) (fun J Y _ q=>⟨⟨q.ld (b:=y) rfl,⟨⟨_,q.af (b:=y) rfl,rfl⟩,trivial⟩⟩,mB (v:=sl J Y (bW tos id keep ttl proto fr to bs.length)) (u:=sl a c bs) q fun _ _ _ q=>⟨⟨q.ld (b:=y) rfl,⟨⟨_,q.af (b:=y) rfl,rfl⟩,trivial⟩⟩,ah (k1 (by omega) _ _ _ q.ae)⟩⟩)
end
end
section
attribute [local irreducible] ay aQ aH
abbrev et (proto fr to size:Nat):List Nat:=rowOf 4 [fr,to]++rowOf 2 [proto,size]
theorem yA (proto fr to size:Nat):(et proto fr to size).length=12:=by simp [dz]
abbrev oq (fr to:Nat) (bare:Bool) (body:Value):Value:= .agg #[C2 fr,C2 to,.bool bare,body]
abbrev yB:Value:=oq 0 0 false (sN)
def da (bs:List Nat) (fr to:Nat):Prop:=8≤bs.length∧8≤num bs 4 2∧num bs 4 2≤bs.length∧num bs 4 2≤1480∧(num (bs.take (num bs 4 2)) 6 2=0∨aV (aK (et 17 fr to (num bs 4 2)++(bs.take (num bs 4 2))))=65535)
section
variable {w0 w:World} {L R:List ao} {K:Value→World→Prop} {v u:Value} {bs ps:List Nat}
theorem c33 {fr to size:Nat} (q:SH w0 w L) (h:fr<4294967296∧to<4294967296∧size<65536) (k: ∀ a c w',SH w0 w' (Nb 5 (sl a c (et 17 fr to size)) (et 17 fr to size)::L)→K (sl a c (et 17 fr to size)) w'):D 33 [C3 fr,C3 to,C5 size] w K:=by
 refine s33 rfl<|ac<|ac<|Dc<|Dc ⟨rfl,[C4 fr,C4 to],rfl,q.an fun _ _ q=>c78a q rfl (by (simp<;>omega)) (by (simp<;>omega)) (fun y H _ q=>ac (Dc (⟨rfl,[C4 17,C4 size],rfl,q.an fun _ _ q=>c78a q rfl (by decide) (by (simp<;>omega)) (fun J Y _ q=>ac (mB (v:=sl y H (rowOf 4 [fr,to])) (u:=sl J Y (rowOf 2 [17,size])) q fun _ _ _ q=>ah (k _ _ _ q.ae)))⟩)))⟩
theorem c11 {fr to:Nat} (q:SH w0 w L) [hb:aD L v bs] (h:fr<4294967296∧to<4294967296) (hlen:bs.length≤100000)
  (k1:da bs fr to→ ∀ bare:Bool,(bare=true↔num (bs.take (num bs 4 2)) 6 2=0)→num (bs.take (num bs 4 2)) 0 2<65536→num (bs.take (num bs 4 2)) 2 2<65536→ ∀ a c w',SH w0 w' (Nb 5 (sl a c ((bs.take (num bs 4 2)).drop 8)) ((bs.take (num bs 4 2)).drop 8)::L)→
   K (.tuple #[oq (num (bs.take (num bs 4 2)) 0 2) (num (bs.take (num bs 4 2)) 2 2) bare (sl a c ((bs.take (num bs 4 2)).drop 8)),.nilIface]) w')
  (k2: ¬da bs fr to→ ∀ b w',SH w0 w' (Ex b::L)→K (.tuple #[yB,bu b]) w'):D 11 [v,C3 fr,C3 to] w K:=by
 obtain ⟨a,c,rfl,hcap,hB,hl⟩:=q.enter (v:=v)
 have he:=yA 17 fr to (num bs 4 2)
 refine s11 rfl<|ac<|q.an fun y _ q=>aq<|ap (fun h_12=>?_) (fun h_12=>?_)
 ·refine ac ⟨rfl,[C2 0,C2 0,.bool false,sN],rfl,c30 q (by omega) (by omega) (fun _ _ q=>q.aj (b:=y) fun _ q=>ah (q.Da (b:=y) rfl (k2 (by (rintro ⟨h1,h2,h3,h4,h5 | h5⟩<;>first | omega | contradiction)) _ _ q.ae)))⟩
 ·refine ak<|ac<|c31 (v:=sl a c bs) q (by omega) (fun _=>Db (aG (ac (ap (fun h_20=>?_) (fun h_20=>?_)))))
  ·refine ai<|ac ⟨rfl,[C2 0,C2 0,.bool false,sN],rfl,c30 q (by omega) (by omega) (fun _ _ q=>q.aj (b:=y) fun w_34 q=>ah (q.Da (b:=y) rfl (k2 (by (rintro ⟨h1,h2,h3,h4,h5 | h5⟩<;>first | omega | contradiction)) _ _ q.ae)))⟩
  ·refine ai<|ac<|ap (fun h_27=>?_) (fun h_27=>?_)
   ·refine ai<|ac ⟨rfl,[C2 0,C2 0,.bool false,sN],rfl,c30 q (by omega) (by omega) (fun _ _ q=>q.aj (b:=y) fun _ q=>ah (q.Da (b:=y) rfl (k2 (by (rintro ⟨h1,h2,h3,h4,h5 | h5⟩<;>first | omega | contradiction)) _ _ q.ae)))⟩
   ·refine ai<|ac<|ap (fun h_32=>?_) (fun h_32=>?_)
    ·refine ai<|ac ⟨rfl,[C2 0,C2 0,.bool false,sN],rfl,c30 q (by omega) (by omega) (fun _ w_34 q=>q.aj (b:=y) fun _ q=>ah (q.Da (b:=y) rfl (k2 (by (rintro ⟨h1,h2,h3,h4,h5 | h5⟩<;>first | omega | contradiction)) _ _ q.ae)))⟩
    ·refine ai<|ak<|ac<|q.lj (M:=L) (n:=bs.length) (bs:=bs) (num bs 4 2) fun H J _ _=>ac<|c31 (v:=sl H J (List.take (num bs 4 2) bs)) q (by (simp<;>omega)) (fun _=>ap (fun h_40=>?_) (fun h_40=>?_))
     ·refine aq<|Dj<|ak<|aJ<|have q:=q.drew;q.eV (M:=L) (8) fun Y c_61 hb_61 hl_61=>c31 (v:=sl H J (List.take (num bs 4 2) bs)) q (by (simp<;>omega)) (fun h_56=>⟨trivial,c31 (v:=sl H J (List.take (num bs 4 2) bs)) q (by (simp<;>omega)) (fun h_58=>⟨trivial,c34 (v:=sl Y c_61 (List.drop 8 (List.take (num bs 4 2) bs))) q (fun a_62 c_62 w_62 h_623 q=>⟨trivial,⟨rfl,[C2 (num (List.take (num bs 4 2) bs) 0 2),C2 (num (List.take (num bs 4 2) bs) 2 2),.bool true,sl a_62 c_62 (List.drop 8 (List.take (num bs 4 2) bs))],rfl,q.aj (b:=y) fun w_54 q=>⟨trivial,ah (q.Da (b:=y) rfl (k1 (by exact ⟨by omega,by omega,by omega,by omega,.inl (by omega)⟩) _ (by (simp<;>omega)) ‹_› ‹_› _ _ _ q.ae))⟩⟩⟩)⟩)⟩)
     ·refine aq<|Dj<|c33 q (by omega) (fun a_47 c_47 _ q=>⟨rfl,[sl a_47 c_47 (et 17 fr to (num bs 4 2)),sl H J (List.take (num bs 4 2) bs)],rfl,q.an fun _ _ q=>c32a q rfl (by exact q.rb _) (by exact q.rb _) (by (simp [dz,br]<;>omega)) (fun h_50 w_50 q=>?_) (fun h_50 w_50 q=>?_)⟩)
      ·refine Dj<|ak<|aJ<|have q:=q.drew;q.eV (M:=L) (8) fun Y c_61 hb_61 hl_61=>c31 (v:=sl H J (List.take (num bs 4 2) bs)) q (by (simp<;>omega)) (fun h_56=>⟨trivial,c31 (v:=sl H J (List.take (num bs 4 2) bs)) q (by (simp<;>omega)) (fun h_58=>⟨trivial,c34 (v:=sl Y c_61 (List.drop 8 (List.take (num bs 4 2) bs))) q (fun a_62 c_62 w_62 h_623 q=>⟨trivial,⟨rfl,[C2 (num (List.take (num bs 4 2) bs) 0 2),C2 (num (List.take (num bs 4 2) bs) 2 2),.bool false,sl a_62 c_62 (List.drop 8 (List.take (num bs 4 2) bs))],rfl,q.aj (b:=y) fun _ q=>⟨trivial,ah (q.Da (b:=y) rfl (k1 (by exact ⟨by omega,by omega,by omega,by omega,.inr ‹_›⟩) _ (by (simp<;>omega)) ‹_› ‹_› _ _ _ q.ae))⟩⟩⟩)⟩)⟩)
      ·refine Dj<|ac ⟨rfl,[C2 0,C2 0,.bool false,sN],rfl,c30 q (by omega) (by omega) (fun _ w_54 q=>q.aj (b:=y) fun _ q=>ah (q.Da (b:=y) rfl (k2 (by (rintro ⟨h1,h2,h3,h4,h5 | h5⟩<;>first | omega | contradiction)) _ _ q.ae)))⟩
end
end
section
attribute [local irreducible] ay aQ aH aK aV num be over nb rowOf
def dA (s:Nat):Nat:=if s=0 then 65535 else s
attribute [local irreducible] dA
section
variable {w0 w:World} {L R:List ao} {K:Value→World→Prop} {v u:Value} {bs ps:List Nat}
theorem c267 {fr to a b:Nat} {bare:Bool} (q:SH w0 w L) [hb:aD L v bs] (h:fr<65536∧to<65536∧a<4294967296∧b<4294967296) (hlen:bs.length≤100000)
  (k1:bs.length≤1472→bare=true→ ∀ a' c Y,SH w0 Y (Nb 5 (sl a' c (rowOf 2 [fr,to,8+bs.length,0]++bs)) (rowOf 2 [fr,to,8+bs.length,0]++bs)::L)→K (.tuple #[sl a' c (rowOf 2 [fr,to,8+bs.length,0]++bs),.nilIface]) Y)
  (k1':bs.length≤1472→bare=false→ ∀ s:Nat,s=dA (65535 - aV (aK (et 17 a b (8+bs.length)++(rowOf 2 [fr,to,8+bs.length,0]++bs))))→ ∀ a' c Y,SH w0 Y (Nb 5 (sl a' c (over (rowOf 2 [fr,to,8+bs.length,0]++bs) 6 (nb s 2))) (over (rowOf 2 [fr,to,8+bs.length,0]++bs) 6 (nb s 2))::L)→
   K (.tuple #[sl a' c (over (rowOf 2 [fr,to,8+bs.length,0]++bs) 6 (nb s 2)),.nilIface]) Y)
  (k2: ¬bs.length≤1472→ ∀ b Y,SH w0 Y (Ex b::L)→K (.tuple #[sN,bu b]) Y):D 267 [oq fr to bare v,C3 a,C3 b] w K:=by
 obtain ⟨ad,c,rfl,hcap,hB,hl⟩:=q.enter (v:=v)
 refine s267 rfl<|ac<|q.az [C2 fr,C2 to,.bool bare,sl ad c bs] fun y _ q=>aq<|q.C9 (b:=y) rfl<|ap (fun h_18=>?_) (fun h_18=>?_)
 ·refine ac<|c30 q (by omega) (by omega) (fun _ _ q=>ah (k2 (by omega) _ _ q.ae))
 ·refine ak<|ac<|q.C9 (b:=y) rfl<|Db<|ac<|q.C9 (b:=y) rfl<|Dc<|q.C9 (b:=y) rfl<|Dc<|Dc ⟨rfl,[C4 fr,C4 to,C4 (8+ ↑bs.length),C4 0],rfl,q.an fun _ _ q=>c78c q rfl (by (simp<;>omega)) (by (simp<;>omega)) (by (simp<;>omega)) (by decide) (fun a_34 c_34 _ q=>ac (q.C9 (b:=y) rfl (mB (v:=sl a_34 c_34 (rowOf 2 [fr,to,8+bs.length,0])) (u:=sl ad c bs) q fun H J _ q=>aq (q.C9 (b:=y) rfl ?_))))⟩
  cases bare
  ·refine ak<|ac<|c33 q (by (simp<;>omega)) (fun a_47 c_47 _ q=>⟨rfl,[sl a_47 c_47 (et 17 a b (8+bs.length)),sl H J (rowOf 2 [fr,to,8+bs.length,0]++bs)],rfl,q.an fun _ _ q=>c323a q rfl (by exact q.rb _) (by exact q.rb _) (by (simp [dz,br]<;>omega)) (fun _ q=>aq (ap (fun h_52=>?_) (fun h_52=>?_)))⟩)
   ·refine au<|ac<|Dc<|c324 (v:=sl H J (rowOf 2 [fr,to,8+bs.length,0]++bs)) q (by (simp [dz,br]<;>omega)) (by decide) (fun a_57 c_57 w_57 q=>ac (ah (k1' (by omega) rfl _ (by (simp only [dA];split<;>simp_all)) _ _ _ q.ae)))
   ·refine ak<|ac<|Dc<|c324 (v:=sl H J (rowOf 2 [fr,to,8+bs.length,0]++bs)) q (by (simp [dz,br]<;>omega)) (by (simp<;>omega)) (fun a_57 c_57 w_57 q=>ac (ah (k1' (by omega) rfl _ (by (simp only [dA];split<;>simp_all)) _ _ _ q.ae)))
  ·refine ac<|ah<|k1 (by omega) rfl _ _ _ q.ae
end
end
end Go.Proofs.YtlhpilgmeededaaGreatDoor
namespace Go.Den
open Go Go.RowKit
section
variable {w0 w:World} {L R:List ao}
theorem SH.mC {bs:List Nat} {ad:Addr} (y:SH w0 w L) [h:gP L ad bs] (q:4≤bs.length:=by first | omega | (simp<;>omega)):
  cE w ad 0 4=some [C1 ((bs.getD 0 0:Nat):Int),C1 ((bs.getD 1 0:Nat):Int),C1 ((bs.getD 2 0:Nat):Int),C1 ((bs.getD 3 0:Nat):Int)]:=by
 rw [y.tN q]
 match bs,q with
 | a::b::c::d::r,_=>rfl
theorem SH.qi {g o:Nat} {t:TypeId} {cs:List Value} (hL:SH w0 w L) [p:aR L g t cs R] {x y z u:Nat} (q:(cs.drop o).take 4=[C1 x,C1 y,C1 z,C1 u]:=by rfl) (hb:x<256∧y<256∧z<256∧u<256:=by omega):
  aD L (.slice (some ⟨g,o,none⟩) 4 4) [x,y,z,u]:=⟨fun h=>h.oo (bs:=[x,y,z,u]) ⟨by simp;omega,by simp⟩ (Nat.le_refl _) q⟩
end
end Go.Den
namespace Go.Proofs.YtlhpilgmeededaaGreatDoor
open Go Go.Den
set_option maxHeartbeats 4000000
attribute [local irreducible] ay aQ aH aK aV num be over nb rowOf
theorem uf:Tryz.prog.underlying 309=some (.array 4 5):=Tryz.underlying309
theorem mD {w:World} {f:Fr} {o:Oper} {x:Operand} {a:Option Addr} {n c:Nat} (q:o.op= .sliceToArrayPointer 309 x:=by rfl) (y:ev f x= .slice a n c:=by rfl) (H:4≤n:=by first | omega | (simp<;>omega)):(execOp (ev f) o).run Tryz.prog w= .ok (.value (.pointer a)) w:=tq q uf y H
theorem ll {w:World} {f:Fr} {o:Oper} {x:Operand} {a:Addr} (q:o.op= .slice 309 x none none none:=by rfl) (y:ev f x= .pointer (some a):=by rfl):(execOp (ev f) o).run Tryz.prog w= .ok (.value (.slice (some a) 4 4)) w:=pZ (len:=4) (elem:=5) q uf iT y (by decide)
abbrev gQ (ty code r0 r1 r2 r3:Nat) (body:Value):Value:= .agg #[C1 ty,C1 code,C1 r0,C1 r1,C1 r2,C1 r3,body]
abbrev ug:Value:=gQ 0 0 0 0 0 0 (sN)
def jJ (ty code r0 r1 r2 r3:Nat):Prop:=ty<256∧code<256∧r0<256∧r1<256∧r2<256∧r3<256
def du (bs:List Nat):Prop:=8≤bs.length∧bs.length≤1480∧aV (aK bs)=65535
section
variable {w0 w:World} {L R:List ao} {K:Value→World→Prop} {v u:Value} {bs ps:List Nat}
theorem c164 (q:SH w0 w L) [hb:aD L v bs] (hlen:bs.length≤100000)
  (k1:du bs→jJ (bs.getD 0 0) (bs.getD 1 0) ((bs.drop 4).getD 0 0) ((bs.drop 4).getD 1 0) ((bs.drop 4).getD 2 0) ((bs.drop 4).getD 3 0)→ ∀ a c J,SH w0 J (Nb 5 (sl a c (bs.drop 8)) (bs.drop 8)::L)→
   K (.tuple #[gQ (bs.getD 0 0) (bs.getD 1 0) ((bs.drop 4).getD 0 0) ((bs.drop 4).getD 1 0) ((bs.drop 4).getD 2 0) ((bs.drop 4).getD 3 0) (sl a c (bs.drop 8)),.nilIface]) J)
  (k2: ¬du bs→ ∀ b J,SH w0 J (Ex b::L)→K (.tuple #[ug,bu b]) J):D 164 [v] w K:=by
 obtain ⟨a,c,rfl,hcap,H,hl⟩:=q.enter (v:=v)
 refine s164 rfl<|ac<|q.an fun y _ q=>aG<|ac<|ap (fun h_7=>?_) (fun h_7=>?_)
 ·refine ai<|ac ⟨rfl,[C1 0,C1 0,C1 0,C1 0,C1 0,C1 0,sN],rfl,c30 q (by omega) (by omega) (fun _ _ q=>q.aj (b:=y) fun _ q=>ah (q.Da (b:=y) rfl (k2 (by (rintro ⟨h1,h2,h3⟩<;>first | omega | contradiction)) _ _ q.ae)))⟩
 ·refine ai<|ac<|ap (fun Y=>?_) (fun Y=>?_)
  ·refine ai<|ac ⟨rfl,[C1 0,C1 0,C1 0,C1 0,C1 0,C1 0,sN],rfl,c30 q (by omega) (by omega) (fun _ _ q=>q.aj (b:=y) fun _ q=>ah (q.Da (b:=y) rfl (k2 (by (rintro ⟨h1,h2,h3⟩<;>first | omega | contradiction)) _ _ q.ae)))⟩
  ·refine ai<|ac ⟨rfl,[sl a c bs],rfl,q.an fun _ _ q=>c32 q rfl (by exact q.rb _) ‹_› (fun h_19 w_19 q=>?_) (fun h_19 w_19 q=>?_)⟩
   ·refine Dj<|ai<|ak<|aJ<|have q:=q.drew;?_
    obtain ⟨ad_24,rfl⟩:=q.dp a
    refine ⟨by omega,_,rfl,q.cV (j:=0) fun _=>⟨by omega,_,rfl,q.cV (j:=1) fun _=>q.eV (M:=L) (4) fun a_30 _ _ _=>⟨_,mD,?_⟩⟩⟩
    obtain ⟨ad_32,rfl⟩:=q.dp a_30
    refine ⟨_,q.mC,q.eV (M:=L) (8) fun a_34 c_34 _ _=>c34 (v:=sl a_34 c_34 (List.drop 8 bs)) q (fun a_35 c_35 w_35 _ q=>⟨⟨⟨_,q.mC,rfl⟩,⟨mD,⟨q.aX,⟨q.aX,trivial⟩⟩⟩⟩,⟨rfl,[C1 (bs.getD 0 0),C1 (bs.getD 1 0),C1 ((List.drop 4 bs).getD 0 0),C1 ((List.drop 4 bs).getD 1 0),C1 ((List.drop 4 bs).getD 2 0),C1 ((List.drop 4 bs).getD 3 0),sl a_35 c_35 (List.drop 8 bs)],rfl,q.aj (b:=y) fun _ q=>⟨⟨⟨_,q.mC,rfl⟩,⟨mD,⟨q.aX,⟨q.aX,trivial⟩⟩⟩⟩,ah (q.Da (b:=y) rfl (k1 (by exact ⟨by omega,by omega,by assumption⟩) (by exact ⟨ft H.1 _,ft H.1 _,ft (kt H 4).1 _,ft (kt H 4).1 _,ft (kt H 4).1 _,ft (kt H 4).1 _⟩) _ _ _ q.ae))⟩⟩⟩)⟩
   ·refine Dj<|ai<|ac ⟨rfl,[C1 0,C1 0,C1 0,C1 0,C1 0,C1 0,sN],rfl,c30 q (by omega) (by omega) (fun _ _ q=>q.aj (b:=y) fun w_35 q=>ah (q.Da (b:=y) rfl (k2 (by (rintro ⟨h1,h2,h3⟩<;>first | omega | contradiction)) _ _ q.ae)))⟩
abbrev uh (ty code r0 r1 r2 r3:Nat) (bs:List Nat):List Nat:=[ty,code,0,0]++([r0,r1,r2,r3]++bs)
abbrev iy (ty code r0 r1 r2 r3:Nat) (bs:List Nat):List Nat:=over (uh ty code r0 r1 r2 r3 bs) 2 (nb (65535 - aV (aK (uh ty code r0 r1 r2 r3 bs))) 2)
theorem c269 {ty code r0 r1 r2 r3:Nat} (q:SH w0 w L) [hb:aD L v bs] (hB:jJ ty code r0 r1 r2 r3) (hlen:bs.length≤100000)
  (k1:bs.length≤1472→ ∀ a c Y,SH w0 Y (Nb 5 (sl a c (iy ty code r0 r1 r2 r3 bs)) (iy ty code r0 r1 r2 r3 bs)::L)→K (.tuple #[sl a c (iy ty code r0 r1 r2 r3 bs),.nilIface]) Y)
  (k2: ¬bs.length≤1472→ ∀ b Y,SH w0 Y (Ex b::L)→K (.tuple #[sN,bu b]) Y):D 269 [gQ ty code r0 r1 r2 r3 v] w K:=by
 obtain ⟨a,c,rfl,hcap,hBB,hl⟩:=q.enter (v:=v)
 obtain ⟨h1,h2,h3,h4,h5,h6⟩:=hB
 refine s269 rfl<|ac<|q.az [C1 ty,C1 code,C1 r0,C1 r1,C1 r2,C1 r3,sl a c bs] fun y _ q=>aq ⟨_,q.ld (b:=y) rfl,ap (fun h_10=>?_) (fun h_10=>?_)⟩
 ·refine ac<|c30 q (by omega) (by omega) (fun _ _ q=>ah (k2 (by omega) _ _ q.ae))
 ·refine ak<|aJ<|have q:=q.drew;⟨_,q.ld (b:=y) rfl,⟨_,q.ld (b:=y) rfl,⟨_,ll,?_⟩⟩⟩
  have hb_18:=q.qi (g:=y) (o:=2)
  refine ⟨_,q.ld (b:=y) rfl,⟨rfl,[C1 ty,C1 code,C1 0,C1 0],rfl,q.an fun b_16 _ q=>⟨⟨q.ld (b:=y) rfl,⟨ll,⟨q.ld (b:=y) rfl,⟨q.ld (b:=y) rfl,trivial⟩⟩⟩⟩,⟨rfl,[.slice (some ⟨b_16,0,none⟩) 4 4,.slice (some ⟨y,2,none⟩) 4 4,sl a c bs],rfl,q.an fun _ _ q=>⟨⟨q.ld (b:=y) rfl,⟨ll,⟨q.ld (b:=y) rfl,⟨q.ld (b:=y) rfl,trivial⟩⟩⟩⟩,c131a q rfl (by exact q.ud) (by exact q.rb _) (by exact q.rb _) (by (simp<;>omega)) (fun H J _ q=>⟨⟨q.ld (b:=y) rfl,⟨ll,⟨q.ld (b:=y) rfl,⟨q.ld (b:=y) rfl,trivial⟩⟩⟩⟩,ac (⟨rfl,[sl H J ([ty,code,0,0]++([r0,r1,r2,r3]++bs))],rfl,q.an fun _ _ q=>c323 q rfl (by exact q.rb _) (by (simp<;>omega)) (fun _ q=>⟨_,IntWalk.u64_in _ (by omega),c324 (v:=sl H J ([ty,code,0,0]++([r0,r1,r2,r3]++bs))) q (by (simp<;>omega)) (by (simp<;>omega)) (fun _ _ _ q=>ac (ah (k1 (by omega) _ _ _ q.ae)))⟩)⟩)⟩)⟩⟩⟩⟩⟩
theorem c268 {ty code r0 r1 r2 r3:Nat} (q:SH w0 w L)
  (k1:(ty=3∨ty=11∨ty=4∨ty=12)→ ∀ y,SH w0 y L→K (C5 1) y) (k2:(ty=8∨ty=0)→ ∀ y,SH w0 y L→K (C5 2) y) (k3: ¬ (ty=3∨ty=11∨ty=4∨ty=12)→ ∀ y,SH w0 y L→K (C5 0) y):D 268 [gQ ty code r0 r1 r2 r3 v] w K:=by
 refine s268 rfl<|ac<|q.az [C1 ty,C1 code,C1 r0,C1 r1,C1 r2,C1 r3,v] fun b_1 _ q=>av<|ac<|q.C9 (b:=b_1) rfl<|aM<|aG<|aG<|aM<|av<|av<|aq<|ap (fun h_6=>?_) (fun h_6=>?_)
 ·refine ak<|ai<|aS<|av<|ac<|ah<|k1 (by omega) _ q.ae
 ·refine au<|ap (fun h_7=>?_) (fun h_7=>?_)
  ·refine ai<|aS<|av<|ac<|ah<|k1 (by omega) _ q.ae
  ·refine ai<|ak<|av<|aq<|ap (fun h_9=>?_) (fun h_9=>?_)
   ·refine ak<|ai<|aS<|av<|ac<|ah<|k1 (by omega) _ q.ae
   ·refine au<|ap (fun H=>?_) (fun H=>?_)
    ·refine ai<|aS<|av<|ac<|ah<|k1 (by omega) _ q.ae
    ·refine ai<|ak<|aq<|ap (fun J=>?_) (fun J=>?_)
     ·refine ak<|ai<|aS<|av<|ac<|ah<|k2 (by omega) _ q.ae
     ·refine au<|ap (fun Y=>?_) (fun Y=>?_)
      ·refine ai<|aS<|av<|ac<|ah<|k2 (by omega) _ q.ae
      ·refine ai<|ak<|aS<|ac<|ah<|k3 (by omega) _ q.ae
theorem c277 {ty code r0 r1 r2 r3:Nat} (q:SH w0 w L) (J:jJ ty code r0 r1 r2 r3) (k:num [r0,r1,r2,r3] 0 2<65536→ ∀ H,SH w0 H L→K (C2 (num [r0,r1,r2,r3] 0 2)) H):D 277 [gQ ty code r0 r1 r2 r3 v] w K:=by
 obtain ⟨h1,h2,h3,h4,h5,h6⟩:=J
 refine s277 rfl<|ac<|q.az [C1 ty,C1 code,C1 r0,C1 r1,C1 r2,C1 r3,v] fun y _ q=>ac ⟨_,ll,?_⟩
 have hb_7:=q.qi (g:=y) (o:=2)
 refine c56 (v:= .slice (some ⟨y,2,none⟩) 4 4) q (by (simp<;>omega)) (by omega) (fun _=>ac (⟨_,IntWalk.u16_in _ (by omega),ah (k (by omega) _ q.ae)⟩))
theorem c339 {ty code r0 r1 r2 r3 mark:Nat} (q:SH w0 w L) [hb:aD L v bs] (hB:jJ ty code r0 r1 r2 r3) (hm:mark<65536)
  (k: ∀ a c w',SH w0 w' (Nb 5 (sl a c bs) bs::L)→K (gQ ty code ((over [r0,r1,r2,r3] 0 (nb mark 2)).getD 0 0) ((over [r0,r1,r2,r3] 0 (nb mark 2)).getD 1 0) ((over [r0,r1,r2,r3] 0 (nb mark 2)).getD 2 0) ((over [r0,r1,r2,r3] 0 (nb mark 2)).getD 3 0) (sl a c bs)) w'):
  D 339 [gQ ty code r0 r1 r2 r3 v,C2 mark] w K:=by
 obtain ⟨a,c,rfl,hcap,hBB,hl⟩:=q.enter (v:=v)
 obtain ⟨h1,h2,h3,h4,h5,h6⟩:=hB
 have ho:(over [r0,r1,r2,r3] 0 (nb mark 2)).length=4:=by rw [eo (by rw [br];simp)];rfl
 refine s339 rfl<|ac<|q.az [C1 ty,C1 code,C1 r0,C1 r1,C1 r2,C1 r3,sl a c bs] fun y _ q=>q.an fun H _ q=>ac ⟨_,ll,?_⟩
 have hb_9:=q.qi (g:=y) (o:=2)
 refine Dc<|c324 (v:= .slice (some ⟨y,2,none⟩) 4 4) q (by (simp<;>omega)) (by (simp<;>omega)) (fun J _ _ q=>aJ ?_)
 have q:=q.drew
 refine q.C9 (b:=y) rfl<|q.C9 (b:=y) rfl ⟨_,mD,?_⟩
 obtain ⟨ad_21,rfl⟩:=q.dp J
 refine ⟨_,q.mC,q.C9 (b:=y) rfl (c34 (v:=sl a c bs) q (fun Y c_24 _ _ q=>⟨⟨q.ld (b:=y) rfl,⟨⟨_,q.mC,rfl⟩,⟨mD,⟨q.ld (b:=y) rfl,⟨q.ld (b:=y) rfl,trivial⟩⟩⟩⟩⟩,⟨rfl,[C1 ty,C1 code,C1 ((over [r0,r1,r2,r3] 0 (nb mark 2)).getD 0 0),C1 ((over [r0,r1,r2,r3] 0 (nb mark 2)).getD 1 0),C1 ((over [r0,r1,r2,r3] 0 (nb mark 2)).getD 2 0),C1 ((over [r0,r1,r2,r3] 0 (nb mark 2)).getD 3 0),sl Y c_24 bs],rfl,q.aj (b:=H) fun _ q=>ah (q.Da (b:=H) rfl (k _ _ _ q.ae))⟩⟩))⟩
end
end Go.Proofs.YtlhpilgmeededaaGreatDoor
namespace Go.Proofs.YtlhpilgmeededaaGreatDoor
open Go Go.Den
set_option maxHeartbeats 4000000
set_option maxRecDepth 8000
section
attribute [local irreducible] ay aQ aH aK aV num be over nb rowOf
abbrev fP (bs:List Nat):Prop:=20≤bs.length∧20≤bs.getD 12 0 / 16*4∧bs.getD 12 0 / 16*4≤bs.length∧bs.length≤1480
def fx (bs:List Nat) (fr to:Nat):Prop:=aV (aK (et 6 fr to bs.length++bs))=65535
abbrev ui (fr to flags:Nat) (raw:Value):Value:= .agg #[C2 fr,C2 to,C1 flags,raw]
abbrev yC:Value:=ui 0 0 0 (sN)
section
variable {w0 w:World} {L R:List ao} {K:Value→World→Prop} {v u:Value} {bs ps:List Nat}
theorem c30a {r:Int} (hL:SH w0 w L) (k:K .nilIface w):D 30 [C5 r,C5 0] w K:=by
 refine s30 rfl<|ac<|aq<|Di<|ac<|ah<|k
theorem c329 (J:SH w0 w L) [hb:aD L v bs] (k1:fP bs→K (C5 0) w) (k2: ¬fP bs→ ∀ e:Int,e≠0→K (C5 e) w):D 329 [v] w K:=by
 obtain ⟨a,c,rfl,hcap,hB,hl⟩:=J.enter (v:=v)
 refine s329 rfl<|ac<|aq<|ap (fun Y=>?_) (fun Y=>?_)
 ·refine ac<|ah<|k2 (by (simp only [fP];omega)) _ (by omega)
 ·refine ak<|ac ?_
  obtain ⟨ad_8,rfl⟩:=J.dp a
  refine ⟨by omega,_,rfl,J.cV (j:=12) fun _=>⟨by decide,_,om (by omega),Db (Db (aG (ac (ap (fun q=>?_) (fun q=>?_)))))⟩⟩
  ·refine ai<|ac<|ah<|k2 (by (simp only [fP];omega)) _ (by omega)
  ·refine ai<|ac<|ap (fun y=>?_) (fun y=>?_)
   ·refine ai<|ac<|ah<|k2 (by (simp only [fP];omega)) _ (by omega)
   ·refine ai<|ac<|ap (fun H=>?_) (fun H=>?_)
    ·refine ai<|ac<|ah<|k2 (by (simp only [fP];omega)) _ (by omega)
    ·refine ai<|ak<|ac<|ah<|k1 (by (simp only [fP];omega))
theorem c366 {fr to size:Nat} (q:SH w0 w L) (h:fr<4294967296∧to<4294967296∧size<65536) (k: ∀ a c w',SH w0 w' (Nb 5 (sl a c (et 6 fr to size)) (et 6 fr to size)::L)→K (sl a c (et 6 fr to size)) w'):D 366 [C3 fr,C3 to,C5 size] w K:=by
 refine s366 rfl<|ac<|ac<|Dc<|Dc ⟨rfl,[C4 fr,C4 to],rfl,q.an fun _ _ q=>c78a q rfl (by (simp<;>omega)) (by (simp<;>omega)) (fun y H _ q=>ac (⟨_,IntWalk.u16_in _ (by omega),Dc (⟨rfl,[C4 6,C4 size],rfl,q.an fun _ _ q=>c78a q rfl (by decide) (by (simp<;>omega)) (fun J Y _ q=>ac (mB (v:=sl y H (rowOf 4 [fr,to])) (u:=sl J Y (rowOf 2 [6,size])) q fun _ _ _ q=>ah (k _ _ _ q.ae)))⟩)⟩))⟩
theorem c330 {fr to:Nat} (q:SH w0 w L) [hb:aD L v bs] (h:fr<4294967296∧to<4294967296) (hlen:bs.length<65536) (k1:fx bs fr to→ ∀ y,SH w0 y L→K (.bool true) y) (k2: ¬fx bs fr to→ ∀ y,SH w0 y L→K (.bool false) y):
  D 330 [v,C3 fr,C3 to] w K:=by
 obtain ⟨a,c,rfl,hcap,hB,hl⟩:=q.enter (v:=v)
 refine s330 rfl<|ac<|ac<|c366 q (by omega) (fun H J _ q=>⟨rfl,[sl H J (et 6 fr to bs.length),sl a c bs],rfl,q.an fun _ _ q=>c32a q rfl (by exact q.rb _) (by exact q.rb _) (by (simp [dz,br]<;>omega)) (fun Y w_14 q=>?_) (fun Y w_14 q=>?_)⟩)
 ·refine Dt [6,14] [.bool false,.bool true] fun g=>ah<|k1 ‹_› _ q.ae
 ·refine Dt [6,14] [.bool false,.bool false] fun g=>ah<|k2 ‹_› _ q.ae
theorem c274 {fr to:Nat} (q:SH w0 w L) [hb:aD L v bs] (h:fr<4294967296∧to<4294967296)
  (k1:fP bs→fx bs fr to→num bs 0 2<65536→num bs 2 2<65536→bs.getD 13 0<256→ ∀ a c J,SH w0 J (Nb 5 (sl a c bs) bs::L)→K (.tuple #[ui (num bs 0 2) (num bs 2 2) (bs.getD 13 0) (sl a c bs),.nilIface]) J)
  (k2: ¬ (fP bs∧fx bs fr to)→ ∀ b J,SH w0 J (Ex b::L)→K (.tuple #[yC,bu b]) J):D 274 [v,C3 fr,C3 to] w K:=by
 obtain ⟨a,c,rfl,hcap,hB,hl⟩:=q.enter (v:=v)
 refine s274 rfl<|ac<|q.an fun y _ q=>av<|ac<|c329 (v:=sl a c bs) q (fun Y=>?_) (fun Y _ _=>?_)
 ·refine c30a q<|ac ⟨_,bg (neg:=true) rfl,ai (ak (aq (c330 (v:=sl a c bs) q ‹_› (by omega) (fun h_23 w_23 q=>?_) (fun h_23 w_23 q=>?_))))⟩
  ·refine Dt [0,6,7,23] [sl a c bs,pt y,.nilIface,.bool true] fun g=>Dj<|ak<|ac<|c56 (v:=sl a c bs) q (by omega) (by omega) (fun _=>ac (c56 (v:=sl a c bs) q (by omega) (by omega) (fun _=>aJ ?_)))
   have q:=q.drew
   refine ⟨_,IntWalk.u16_in _ (by omega),⟨_,IntWalk.u16_in _ (by omega),?_⟩⟩
   obtain ⟨H,rfl⟩:=q.dp a
   refine ⟨by omega,_,rfl,q.cV (j:=13) fun _=>c34 (v:=sl (some H) c bs) q (fun a_45 c_45 _ _ q=>⟨⟨q.aX,trivial⟩,⟨rfl,[C2 (num bs 0 2),C2 (num bs 2 2),C1 (bs.getD 13 0),sl a_45 c_45 bs],rfl,q.aj (b:=y) fun _ q=>⟨⟨q.aX,trivial⟩,ah (q.Da (b:=y) rfl (k1 ‹_› ‹_› (by omega) (by omega) ‹_› _ _ _ q.ae))⟩⟩⟩)⟩
  ·refine Dt [0,6,7,23] [sl a c bs,pt y,.nilIface,.bool false] fun g=>Dj<|ac ⟨rfl,[C2 0,C2 0,C1 0,sN],rfl,c30 q (by omega) (by omega) (fun _ _ q=>q.aj (b:=y) fun _ q=>ah (q.Da (b:=y) rfl (k2 (by (rintro ⟨h1,h2⟩;contradiction)) _ _ q.ae)))⟩
 ·refine c30 q (by omega) ‹_› (fun _ _ q=>ac (⟨_,bH (neg:=true) rfl,ai (ac (⟨rfl,[C2 0,C2 0,C1 0,sN],rfl,q.aj (b:=y) fun _ q=>ah (q.Da (b:=y) rfl (k2 (by omega) _ _ q.ae))⟩))⟩))
def gR (ty:Nat) (bs:List Nat):Prop:=(ty=3∨ty=11∨ty=4∨ty=12)∧mu bs∧8≤(cJ bs (num bs 2 2)).length
theorem c362 {ty code r0 r1 r2 r3:Nat} (q:SH w0 w L) [hb:aD L v bs] (hlen:bs.length≤100000)
  (k1:gR ty bs→ ∀ keep:Bool,(keep=true↔num bs 6 2≠0)→bI (bs.getD 1 0) (num bs 4 2) (bs.getD 8 0) (bs.getD 9 0) (num bs 12 4) (num bs 16 4)→ ∀ a c J,
   SH w0 J (Nb 5 (sl a c (cJ bs (num bs 2 2))) (cJ bs (num bs 2 2))::L)→
   K (.tuple #[ba (bs.getD 1 0) (num bs 4 2) keep (bs.getD 8 0) (bs.getD 9 0) (num bs 12 4) (num bs 16 4) (sl a c (cJ bs (num bs 2 2))),.nilIface]) J)
  (k2: ¬gR ty bs→ ∀ b J,SH w0 J (Ex b::L)→K (.tuple #[fv,bu b]) J):D 362 [gQ ty code r0 r1 r2 r3 v] w K:=by
 obtain ⟨a,c,rfl,hcap,hB,hl⟩:=q.enter (v:=v)
 refine s362 rfl<|ac<|q.az [C1 ty,C1 code,C1 r0,C1 r1,C1 r2,C1 r3,sl a c bs] fun Y _ q=>q.an fun y _ q=>aq<|q.Da (b:=Y) rfl<|c268 q (fun h_7 w_7 q=>?_) (fun h_7 w_7 q=>?_) (fun h_7 w_7 q=>?_)
 ·refine Dh<|ak<|ac<|q.C9 (b:=Y) rfl<|c384 (v:=sl a c bs) q ‹_› (fun h_14 keep_14 _ _ a_14 c_14 w_14 q=>?_) (fun h_14 b_14 w_14 q=>?_)
  ·refine Dt [2,3,14] [pt y,.nilIface,.tuple #[ba (bs.getD 1 0) (num bs 4 2) keep_14 (bs.getD 8 0) (bs.getD 9 0) (num bs 12 4) (num bs 16 4) (sl a_14 c_14 (cJ bs (num bs 2 2))),.nilIface]] fun g=>q.an fun H w_4 q=>q.aj (b:=H) fun _ q=>aG<|ac ⟨_,bg (neg:=true) rfl,ai (ac (q.C9 (b:=H) rfl (ap (fun h_26=>?_) (fun h_26=>?_))))⟩
   ·refine ai<|ac ⟨rfl,(DI 0 0 false 0 0 0 0 (sN)),rfl,c30 q (by omega) (by omega) (fun _ _ q=>q.aj (b:=y) fun _ q=>ah (q.Da (b:=y) rfl (k2 (by (rintro ⟨h1,h2,h3⟩<;>first | omega | contradiction)) _ _ q.ae)))⟩
   ·refine ai<|ak<|ac<|q.Da (b:=H) rfl<|q.aj (b:=y) fun _ q=>ah<|q.Da (b:=y) rfl<|k1 (by (refine ⟨by omega,by assumption,?_⟩;omega)) _ ‹_› ‹_› _ _ _ q.ae
  ·refine Dt [2,3,14] [pt y,.nilIface,.tuple #[ba (↑0) (↑0) false (↑0) (↑0) (↑0) (↑0) (sN),.iface 165 (pt b_14)]] fun g=>q.an fun H w_4 q=>q.aj (b:=H) fun _ q=>aG<|ac ⟨_,bH (neg:=true) rfl,ai (ac (⟨rfl,(DI 0 0 false 0 0 0 0 (sN)),rfl,q.aj (b:=y) fun _ q=>ah (q.Da (b:=y) rfl (k2 (by (rintro ⟨h1,h2,h3⟩<;>first | omega | contradiction)) _ _ q.ae))⟩))⟩
 ·refine Di<|ac ⟨rfl,(DI 0 0 false 0 0 0 0 (sN)),rfl,c30 q (by omega) (by omega) (fun b_10 w_10 q=>q.aj (b:=y) fun w_38 q=>ah (q.Da (b:=y) rfl (k2 (by (rintro ⟨h1,h2,h3⟩<;>first | omega | contradiction)) _ _ q.ae)))⟩
 ·refine Di<|ac ⟨rfl,(DI 0 0 false 0 0 0 0 (sN)),rfl,c30 q (by omega) (by omega) (fun b_10 w_10 q=>q.aj (b:=y) fun w_38 q=>ah (q.Da (b:=y) rfl (k2 (by (rintro ⟨h1,h2,h3⟩<;>first | omega | contradiction)) _ _ q.ae)))⟩
theorem c212 {kind code tos id:Nat} {keep:Bool} {ttl proto fr to:Nat} (q:SH w0 w L) [hb:aD L v bs] (hB:bI tos id ttl proto fr to) (hlen:bs.length≤65515)
  (k: ∀ a c w',SH w0 w' (Nb 5 (sl a c (bW tos id keep ttl proto fr to bs.length++bs.take (min bs.length 8))) (bW tos id keep ttl proto fr to bs.length++bs.take (min bs.length 8))::L)→
   K (gQ kind code 0 0 0 0 (sl a c (bW tos id keep ttl proto fr to bs.length++bs.take (min bs.length 8)))) w'):D 212 [.int .u8 kind,.int .u8 code,ba tos id keep ttl proto fr to v] w K:=by
 obtain ⟨a,c,rfl,hcap,hBB,hl⟩:=q.enter (v:=v)
 have hh:=lk tos id keep ttl proto fr to bs.length
 refine s212 rfl<|ac<|q.az [.int .u8 tos,.int .u16 id,.bool keep,.int .u8 ttl,.int .u8 proto,.int .u32 fr,.int .u32 to,sl a c bs] fun y _ q=>q.an fun H _ q=>aJ<|have q:=q.drew;q.Da (b:=y) rfl<|q.C9 (b:=y) rfl<|q.C9 (b:=y) rfl ⟨_,cq,q.lj (M:=L) (n:=bs.length) (bs:=bs) (min bs.length 8) fun J Y _ _=>c270 q (by assumption) (by assumption) (fun a_9 c_9 _ q=>⟨⟨cq,⟨q.ld (b:=y) rfl,⟨q.ld (b:=y) rfl,⟨⟨_,q.af (b:=y) rfl,rfl⟩,trivial⟩⟩⟩⟩,⟨rfl,[sl a_9 c_9 (bW tos id keep ttl proto fr to bs.length),sl J Y (List.take (min bs.length 8) bs)],rfl,q.an fun _ _ q=>⟨⟨cq,⟨q.ld (b:=y) rfl,⟨q.ld (b:=y) rfl,⟨⟨_,q.af (b:=y) rfl,rfl⟩,trivial⟩⟩⟩⟩,c131 q rfl (by exact q.rb _) (by exact q.rb _) (by (simp<;>omega)) (fun a_18 c_18 _ q=>⟨⟨cq,⟨q.ld (b:=y) rfl,⟨q.ld (b:=y) rfl,⟨⟨_,q.af (b:=y) rfl,rfl⟩,trivial⟩⟩⟩⟩,ac (⟨rfl,[.int .u8 kind,.int .u8 code,.int .u8 0,.int .u8 0,.int .u8 0,.int .u8 0,sl a_18 c_18 (bW tos id keep ttl proto fr to bs.length++List.take (min bs.length 8) bs)],rfl,q.aj (b:=H) fun _ q=>ah (q.Da (b:=H) rfl (k _ _ _ q.ae))⟩)⟩)⟩⟩⟩)⟩
end
end
section
attribute [local irreducible] ay aQ aH aK aV num be over nb rowOf cu
abbrev eX (proto fr fp to tp flags kind:Nat):Value:= .agg #[C1 proto,C3 fr,C2 fp,C3 to,C2 tp,C1 flags,C1 kind]
abbrev lm:Value:=eX 0 0 0 0 0 0 0
abbrev gx (ip port:Nat):Value:= .agg #[C3 ip,C2 port]
def cK (bs:List Nat) (l:Nat) (r1 r2:List Nat):Nat:=if cu (num bs l 2) r1 r2=65535 then 0 else cu (num bs l 2) r1 r2
attribute [local irreducible] cK
section
variable {w0 w:World} {L R:List ao} {K:Value→World→Prop} {v u:Value} {bs ps:List Nat}
theorem c275 {tos id:Nat} {keep:Bool} {ttl proto fr to a b:Nat} (q:SH w0 w L)
  (k: ∀ J,SH w0 J L→K (eX proto fr a to b 0 0) J):D 275 [ba tos id keep ttl proto fr to v,C2 a,C2 b] w K:=by
 refine s275 rfl<|ac<|q.az (DI tos id keep ttl proto fr to v) fun y _ q=>q.an fun H _ q=>ac<|q.C9 (b:=y) rfl<|q.C9 (b:=y) rfl ⟨rfl,[C3 fr,C2 a],rfl,q.C9 (b:=y) rfl (⟨rfl,[C3 to,C2 b],rfl,⟨rfl,[C1 proto,C3 fr,C2 a,C3 to,C2 b,C1 0,C1 0],rfl,q.aj (b:=H) fun _ q=>ah (q.Da (b:=H) rfl (k _ q.ae))⟩⟩)⟩
theorem c278 (q:SH w0 w L) (k: ∀ b y,SH w0 y (Ex b::L)→K (bu b) y):D 278 [] w K:=by
 refine s278 rfl<|ac<|ac<|c30 q (by omega) (by omega) (fun _ _ q=>ah (k _ _ q.ae))
theorem c276 {tos id:Nat} {keep:Bool} {ttl proto fr to kind mark:Nat} (q:SH w0 w L)
  (k1:kind=8→ ∀ J,SH w0 J L→K (.tuple #[eX proto fr mark to 0 0 kind,.nilIface]) J)
  (k2:kind=0→ ∀ J,SH w0 J L→K (.tuple #[eX proto fr 0 to mark 0 kind,.nilIface]) J)
  (k3: ¬ (kind=8∨kind=0)→ ∀ b J,SH w0 J (Ex b::L)→K (.tuple #[lm,bu b]) J):D 276 [ba tos id keep ttl proto fr to v,C1 kind,C2 mark] w K:=by
 refine s276 rfl<|ac<|q.az (DI tos id keep ttl proto fr to v) fun Y _ q=>q.an fun y _ q=>ac<|q.an fun H _ q=>av<|ac<|aM<|ac<|ap (fun h_13=>?_) (fun h_13=>?_)
 ·refine ai<|au<|q.Da (b:=Y) rfl<|c275 q (fun _ q=>q.aj (b:=H) fun _ q=>ac (q.aN (b:=H) [C1 kind] [C1 proto,C3 fr,C2 mark,C3 to,C2 0,C1 0,C1 kind] fun w_34 q=>ac (q.Da (b:=H) rfl (q.aj (b:=y) fun _ q=>ah (q.Da (b:=y) rfl (k1 (by omega) _ q.ae))))))
 ·refine ai<|ac<|ap (fun h_18=>?_) (fun h_18=>?_)
  ·refine ai<|au<|q.Da (b:=Y) rfl<|c275 q (fun _ q=>q.aj (b:=H) fun _ q=>ac (q.aN (b:=H) [C1 kind] [C1 proto,C3 fr,C2 (↑0),C3 to,C2 mark,C1 (↑0),C1 kind] fun _ q=>ac (q.Da (b:=H) rfl (q.aj (b:=y) fun _ q=>ah (q.Da (b:=y) rfl (k2 (by omega) _ q.ae))))))
  ·refine ai<|ac ⟨rfl,[C1 0,C3 0,C2 0,C3 0,C2 0,C1 0,C1 0],rfl,c278 q (fun _ _ q=>q.aj (b:=y) fun w_34 q=>ah (q.Da (b:=y) rfl (k3 (by omega) _ _ q.ae)))⟩
theorem c114 {tos id:Nat} {keep:Bool} {ttl proto fr to:Nat} (q:SH w0 w L) [hb:aD L v bs] (h:ttl<256)
  (k1:1<ttl→ ∀ a c w',SH w0 w' (Nb 5 (sl a c bs) bs::L)→K (.tuple #[ba tos id keep (ttl - 1) proto fr to (sl a c bs),.bool true]) w')
  (k2:ttl≤1→ ∀ w',SH w0 w' L→K (.tuple #[fv,.bool false]) w'):D 114 [ba tos id keep ttl proto fr to v] w K:=by
 refine s114 rfl<|ac<|q.az [.int .u8 tos,.int .u16 id,.bool keep,.int .u8 ttl,.int .u8 proto,.int .u32 fr,.int .u32 to,v] fun J _ q=>q.an fun Y _ q=>aq<|q.C9 (b:=J) rfl<|ap (fun h_6=>?_) (fun h_6=>?_)
 ·refine ac ⟨rfl,[.int .u8 0,.int .u16 0,.bool false,.int .u8 0,.int .u8 0,.int .u32 0,.int .u32 0,.slice none 0 0],rfl,q.aj (b:=Y) fun w_26 q=>ah (q.Da (b:=Y) rfl (k2 (by omega) _ q.ae))⟩
 ·refine ak<|ac<|q.C9 (b:=J) rfl ⟨_,IntWalk.u8_in _ (by omega),q.aN (b:=J) [.int .u8 (↑ttl - 1)] [.int .u8 tos,.int .u16 id,.bool keep,.int .u8 (↑ttl - 1),.int .u8 proto,.int .u32 fr,.int .u32 to,v] fun w_26 q=>ac (q.C9 (b:=J) rfl (c34 (v:=v) q (fun y H _ _ q=>q.aN (b:=J) [sl y H bs] [.int .u8 tos,.int .u16 id,.bool keep,.int .u8 (↑ttl - 1),.int .u8 proto,.int .u32 fr,.int .u32 to,sl y H bs] fun _ q=>ac (q.Da (b:=J) rfl (q.aj (b:=Y) fun w_36 q=>ah (q.Da (b:=Y) rfl ?_))))))⟩
  have hk: ∀ x:Int,x=((ttl - 1:Nat):Int)→K (.tuple #[.agg #[.int .u8 tos,.int .u16 id,.bool keep,.int .u8 x,.int .u8 proto,.int .u32 fr,.int .u32 to,sl y H bs],.bool true]) w_36:=by
   rintro _ rfl
   exact k1 (by omega) y H w_36 q.ae
  exact hk _ (by omega)
theorem c338 {ip port:Nat} (q:SH w0 w L) (h:ip<4294967296∧port<65536) (k: ∀ a c w',SH w0 w' (Nb 5 (sl a c (rowOf 4 [ip]++rowOf 2 [port])) (rowOf 4 [ip]++rowOf 2 [port])::L)→K (sl a c (rowOf 4 [ip]++rowOf 2 [port])) w'):
  D 338 [gx ip port] w K:=by
 refine s338 rfl<|ac<|q.az [C3 ip,C2 port] fun y _ q=>ac<|q.C9 (b:=y) rfl<|Dc ⟨rfl,[C4 ip],rfl,q.an fun _ _ q=>c78 q rfl (by (simp<;>omega)) (fun H J _ q=>ac (q.C9 (b:=y) rfl (Dc (⟨rfl,[C4 port],rfl,q.an fun _ _ q=>c78 q rfl (by (simp<;>omega)) (fun Y c_20 _ q=>ac (mB (v:=sl H J (rowOf 4 [ip])) (u:=sl Y c_20 (rowOf 2 [port])) q fun _ _ _ q=>ah (k _ _ _ q.ae)))⟩))))⟩
theorem c336 {l port:Nat} (q:SH w0 w L) [hb:aD L v bs] (h:l+2≤bs.length) (hp:port<65536) (k: ∀ a c y,SH w0 y (Nb 5 (sl a c (over bs l (nb port 2))) (over bs l (nb port 2))::L)→K (sl a c (over bs l (nb port 2))) y):
  D 336 [v,C5 l,C2 port] w K:=by
 obtain ⟨ad,c,rfl,hcap,hB,hl⟩:=q.enter (v:=v)
 refine s336 rfl<|ac<|ac<|Dc<|c324 (v:=sl ad c bs) q ‹_› (by (simp<;>omega)) (fun _ _ _ q=>ac (ah (k _ _ _ q.ae)))
theorem c337 {l:Nat} {z:Value} {qs:List Nat} (q:SH w0 w L) [hb:aD L v bs] [hp:aD L u ps] [hq:aD L z qs] (h:l+2≤bs.length) (hl:ps.length=qs.length∧ps.length % 2=0) (hlen:ps.length≤100000)
  (k:cK bs l ps qs<65535→ ∀ H,SH w0 H L→K (C2 (cK bs l ps qs)) H):D 337 [v,C5 l,u,z] w K:=by
 obtain ⟨ad,c,rfl,hcap,hB,hl0⟩:=q.enter (v:=v)
 obtain ⟨ad1,c1,rfl,hcap1,hB1,hl1⟩:=q.enter (v:=u)
 obtain ⟨ad2,J,rfl,hcap2,hB2,hl2⟩:=q.enter (v:=z)
 refine s337 rfl<|ac<|ac<|c56 (v:=sl ad c bs) q (by omega) (by omega) (fun _=>ac (⟨_,IntWalk.u16_in _ (by omega),c368 (v:=sl ad1 c1 ps) (u:=sl ad2 J qs) q (by omega) ‹_› ‹_› (fun _ _ q=>aq (ap (fun y=>?_) (fun y=>?_)))⟩))
 ·refine ac<|ah ?_
  have e:cK bs l ps qs=0:=by unfold cK;exact if_pos (by omega)
  exact (congrArg (fun x:Nat=>K (C2 x) _) e).mp (k (by omega) _ q)
 ·refine ak<|ac<|ah ?_
  have e:cK bs l ps qs=cu (num bs l 2) ps qs:=by unfold cK;exact if_neg (by omega)
  exact (congrArg (fun x:Nat=>K (C2 x) _) e).mp (k (by omega) _ q)
end
end
section
theorem yD {x:Nat} (h:(x:Int)=0):65535=dA x:=(if_pos (by omega)).symm
theorem yE {x:Nat} (h: ¬ (x:Int)=0):x=dA x:=(if_neg (by omega)).symm
theorem yF {bs:List Nat} (h:du bs):8≤bs.length∧bs.length≤1480:=⟨h.1,h.2.1⟩
attribute [local irreducible] ay aQ aH aK aV num be over nb rowOf cu cK fx da du
theorem qj (ip port:Nat):(rowOf 4 [ip]++rowOf 2 [port]).length=6:=by simp [dz]
section
variable {w0 w:World} {L R:List ao} {K:Value→World→Prop} {v u:Value} {bs ps:List Nat}
theorem carried {tos id:Nat} {keep:Bool} {ttl proto fr to l fi fp ti tp:Nat} (q:SH w0 w L) [hb:aD L v bs] (h:fi<4294967296∧fp<65536∧ti<4294967296∧tp<65536) (hl:l≤2) (hlen:bs.length≤100000)
  (hT:proto=6→18≤bs.length) (hU:proto≠6→8≤bs.length∧8≤num (over bs l (nb tp 2)) 4 2∧num (over bs l (nb tp 2)) 4 2≤bs.length)
  (k1:proto=6→ ∀ a c w',SH w0 w' (By (sl a c (over (over bs l (nb tp 2)) (16:Nat) (nb (cK (over bs l (nb tp 2)) (16:Nat) (rowOf 4 [fi]++rowOf 2 [fp]) (rowOf 4 [ti]++rowOf 2 [tp])) 2))) (over (over bs l (nb tp 2)) (16:Nat) (nb (cK (over bs l (nb tp 2)) (16:Nat) (rowOf 4 [fi]++rowOf 2 [fp]) (rowOf 4 [ti]++rowOf 2 [tp])) 2))::L)→
   K (sl a c (over (over bs l (nb tp 2)) (16:Nat) (nb (cK (over bs l (nb tp 2)) (16:Nat) (rowOf 4 [fi]++rowOf 2 [fp]) (rowOf 4 [ti]++rowOf 2 [tp])) 2))) w')
  (k2:proto≠6→num ((over bs l (nb tp 2)).take (num (over bs l (nb tp 2)) 4 2)) 6 2=0→ ∀ a c w',SH w0 w' (By (sl a c ((over bs l (nb tp 2)).take (num (over bs l (nb tp 2)) 4 2))) ((over bs l (nb tp 2)).take (num (over bs l (nb tp 2)) 4 2))::L)→
   K (sl a c ((over bs l (nb tp 2)).take (num (over bs l (nb tp 2)) 4 2))) w')
  (k3:proto≠6→num ((over bs l (nb tp 2)).take (num (over bs l (nb tp 2)) 4 2)) 6 2≠0→ ∀ x:Nat,x=dA (cK ((over bs l (nb tp 2)).take (num (over bs l (nb tp 2)) 4 2)) (6:Nat) (rowOf 4 [fi]++rowOf 2 [fp]) (rowOf 4 [ti]++rowOf 2 [tp]))→ ∀ a c w',
   SH w0 w' (By (sl a c (over ((over bs l (nb tp 2)).take (num (over bs l (nb tp 2)) 4 2)) (6:Nat) (nb x 2))) (over ((over bs l (nb tp 2)).take (num (over bs l (nb tp 2)) 4 2)) (6:Nat) (nb x 2))::L)→
   K (sl a c (over ((over bs l (nb tp 2)).take (num (over bs l (nb tp 2)) 4 2)) (6:Nat) (nb x 2))) w'):
  D 285 [ba tos id keep ttl proto fr to v,.int .i64 l,gx fi fp,gx ti tp] w K:=by
 obtain ⟨ad,c,rfl,hcap,hB,hl0⟩:=q.enter (v:=v)
 have he1:=qj fi fp
 have he2:=qj ti tp
 have hn:16≤bs.length∨8≤bs.length:=by omega
 have ho:(over bs l (nb tp 2)).length=bs.length:=eo (by rw [br];omega)
 refine s285 rfl<|ac<|q.az [.int .u8 tos,.int .u16 id,.bool keep,.int .u8 ttl,.int .u8 proto,.int .u32 fr,.int .u32 to,sl ad c bs] fun b_4 _ q=>q.az [.int .u32 fi,.int .u16 fp] fun H _ q=>q.az [.int .u32 ti,.int .u16 tp] fun y _ q=>ac<|q.C9 (b:=b_4) rfl<|q.C9 (b:=y) rfl<|c336 (v:=sl ad c bs) q (by omega) (by omega) (fun J Y _ q=>aq (q.C9 (b:=b_4) rfl (ap (fun h_23=>?_) (fun h_23=>?_))))
 ·refine aJ<|have q:=q.drew;q.Da (b:=H) rfl<|q.Da (b:=y) rfl<|c338 q (by omega) (fun a_27 c_27 _ q=>⟨⟨⟨_,q.af (b:=y) rfl,rfl⟩,⟨⟨_,q.af (b:=H) rfl,rfl⟩,trivial⟩⟩,c338 q (by omega) (fun a_29 c_29 _ q=>⟨⟨⟨_,q.af (b:=y) rfl,rfl⟩,⟨⟨_,q.af (b:=H) rfl,rfl⟩,trivial⟩⟩,c337 (v:=sl J Y (over bs l (nb tp 2))) (u:=sl a_27 c_27 (rowOf 4 [fi]++rowOf 2 [fp])) (z:=sl a_29 c_29 (rowOf 4 [ti]++rowOf 2 [tp])) q (by (simp<;>omega)) (by omega) (by omega) (fun _ _ q=>⟨⟨⟨_,q.af (b:=y) rfl,rfl⟩,⟨⟨_,q.af (b:=H) rfl,rfl⟩,trivial⟩⟩,c336 (v:=sl J Y (over bs l (nb tp 2))) q (by (simp<;>omega)) (by omega) (fun _ _ _ q=>⟨⟨⟨_,q.af (b:=y) rfl,rfl⟩,⟨⟨_,q.af (b:=H) rfl,rfl⟩,trivial⟩⟩,ah (k1 (by omega) _ _ _ q.ae)⟩)⟩)⟩)⟩)
 ·refine ak<|ac<|c56 (v:=sl J Y (over bs l (nb tp 2))) q (by omega) (by omega) (fun _=>ac ?_)
  have q:=q.tP (e:=5) (sl J Y (over bs l (nb tp 2)))
  refine q.tR (a:=J) (n:=(over bs l (nb tp 2)).length) (c:=Y) (bs:=over bs l (nb tp 2)) (num (over bs l (nb tp 2)) 4 2) fun a_39 c_39 q=>av<|ac<|c56 (v:=sl a_39 c_39 (List.take (num (over bs l (nb tp 2)) 4 2) (over bs l (nb tp 2)))) q (by (simp<;>omega)) (by omega) (fun _=>ac (ap (fun h_46=>?_) (fun h_46=>?_)))
  ·refine ai<|ac<|ah<|k2 (by omega) (by omega) _ _ _ q.ae
  ·refine ai<|ak<|aJ<|have q:=q.drew;q.Da (b:=H) rfl<|q.Da (b:=y) rfl<|c338 q (by omega) (fun a_50 c_50 _ q=>⟨⟨⟨_,q.af (b:=y) rfl,rfl⟩,⟨⟨_,q.af (b:=H) rfl,rfl⟩,trivial⟩⟩,c338 q (by omega) (fun a_52 c_52 _ q=>⟨⟨⟨_,q.af (b:=y) rfl,rfl⟩,⟨⟨_,q.af (b:=H) rfl,rfl⟩,trivial⟩⟩,c337 (v:=sl a_39 c_39 (List.take (num (over bs l (nb tp 2)) 4 2) (over bs l (nb tp 2)))) (u:=sl a_50 c_50 (rowOf 4 [fi]++rowOf 2 [fp])) (z:=sl a_52 c_52 (rowOf 4 [ti]++rowOf 2 [tp])) q (by (simp<;>omega)) (by omega) (by omega) (fun h_53 _ q=>⟨⟨⟨_,q.af (b:=y) rfl,rfl⟩,⟨⟨_,q.af (b:=H) rfl,rfl⟩,trivial⟩⟩,aq (ap (fun h_55=>?_) (fun h_55=>?_))⟩)⟩)⟩)
   ·refine au<|ac<|c336 (v:=sl a_39 c_39 (List.take (num (over bs l (nb tp 2)) 4 2) (over bs l (nb tp 2)))) q (by (simp<;>omega)) (by decide) (fun a_58 c_58 w_58 q=>ah (k3 (by omega) (by omega) 65535 (yD h_55) _ _ _ q.ae))
   ·refine ak<|ac<|c336 (v:=sl a_39 c_39 (List.take (num (over bs l (nb tp 2)) 4 2) (over bs l (nb tp 2)))) q (by simp only [List.length_take,ho]<;>omega) (Nat.lt_of_lt_of_le h_53 (by decide)) (fun a_58 c_58 w_58 q=>ah (k3 (by omega) (by omega) _ (yE (x:=cK _ _ _ _) h_55) _ _ _ q.ae))
theorem yG {ty code r0 r1 r2 r3 m:Nat} (h:jJ ty code r0 r1 r2 r3):jJ ty code ((over [r0,r1,r2,r3] 0 (nb m 2)).getD 0 0) ((over [r0,r1,r2,r3] 0 (nb m 2)).getD 1 0) ((over [r0,r1,r2,r3] 0 (nb m 2)).getD 2 0) ((over [r0,r1,r2,r3] 0 (nb m 2)).getD 3 0):=by
 obtain ⟨h1,q,h3,h4,y,H⟩:=h
 have e:over [r0,r1,r2,r3] 0 (nb m 2)=[m / 2 ^ 8 % 256,m / 2 ^ 0 % 256,r2,r3]:=by
  unfold over nb;rfl
 rw [e]
 exact ⟨h1,q,Nat.mod_lt _ (by decide),Nat.mod_lt _ (by decide),y,H⟩
theorem qk {ty code r0 r1 r2 r3:Nat} {bs:List Nat} :(iy ty code r0 r1 r2 r3 bs).length=8+bs.length:=by
 rw [eo]<;>simp [br]<;>omega
theorem c286 {port:Nat} (q:SH w0 w L) [hb:aD L v bs] (h:du bs) (hp:port<65536) (hlen:bs.length≤100000)
  (k: ∀ qs:List Nat,qs.length=bs.length→ ∀ a c w',SH w0 w' (By (sl a c qs) qs::L)→K (sl a c qs) w'):D 286 [v,C2 port] w K:=by
 have h8:8≤bs.length∧bs.length≤1480:=yF h
 obtain ⟨ad,c,rfl,hcap,hB,hl0⟩:=q.enter (v:=v)
 refine s286 rfl<|ac<|ac<|c164 (v:=sl ad c bs) q ‹_› (fun y J _ _ _ q=>?_) (fun y=>absurd h y)
 have hm:=yG (m:=port) J
 have hd:(bs.drop 8).length=bs.length - 8:=List.length_drop
 refine q.an fun Y _ q=>q.aj (b:=Y) fun _ q=>ac<|q.Da (b:=Y) rfl<|c339 q ‹_› ‹_› (fun _ _ _ q=>c269 q ‹_› (by omega) (fun H _ _ w_18 q=>?_) (fun H _ w_18 q=>?_))
 ·refine ac<|ah<|k (iy _ _ _ _ _ _ _) (by rw [qk,hd];omega) _ _ _ q.ae
 ·exact ac<|ah<|absurd (by rw [hd];omega) H
end
end
section
theorem yH {bs ps:List Nat} {l n:Nat} (h:l+ps.length≤n) (hn:n≤bs.length):(over bs l ps).take n=over (bs.take n) l ps:=by
 unfold over
 have h1:(bs.take l++ps).length=l+ps.length:=by simp;omega
 rw [List.take_append,List.take_of_length_le (l:=bs.take l++ps) (by rw [h1];exact h),h1,List.drop_take,List.take_take,Nat.min_eq_left (by omega)]
theorem qm {bs ps:List Nat} {l n:Nat} (h:l+ps.length≤n) (hn:n≤bs.length):(over bs l ps).drop n=bs.drop n:=by
 unfold over
 rw [List.drop_append,List.drop_of_length_le (l:=bs.take l++ps) (by simp;omega),List.nil_append,List.drop_drop]
 congr 1
 simp;omega
theorem ot {bs ps:List Nat} {l n:Nat} {m:Int} (h:l+ps.length≤n) (q:n≤bs.length):num (over bs l ps) n m=num bs n m:=by
 unfold num
 rw [show (n:Int).toNat=n from rfl,qm h q]
theorem qn {bs:List Nat} {l n k:Nat} (h:l+n≤k):num (bs.take k) l n=num bs l n:=by
 unfold num
 rw [List.drop_take,List.take_take]
 congr 2
 simp;omega
def ch (d:List Nat) (l port:Nat) (r1 r2:List Nat):List Nat:=if num d 6 2=0 then over d l (nb port 2) else over (over d l (nb port 2)) 6 (nb (dA (cK (over d l (nb port 2)) 6 r1 r2)) 2)
def dR (proto fr to:Nat) (bs:List Nat):Prop:=(proto=6∧fP bs∧fx bs fr to)∨(proto=17∧da bs fr to)∨(proto=1∧du bs∧(bs.getD 0 0=8∨bs.getD 0 0=0))
theorem yI {fr to:Nat} {bs:List Nat} (h: ¬ (fP bs∧fx bs fr to)): ¬dR 6 fr to bs:=by rintro (⟨_,h1⟩ | ⟨h1,_⟩ | ⟨h1,_⟩)<;>first | exact h h1 | omega
theorem yJ {fr to:Nat} {bs:List Nat} (h: ¬da bs fr to): ¬dR 17 fr to bs:=by rintro (⟨h1,_⟩ | ⟨_,h1⟩ | ⟨h1,_⟩)<;>first | exact h h1 | omega
theorem yK {fr to:Nat} {bs:List Nat} (h: ¬du bs): ¬dR 1 fr to bs:=by rintro (⟨h1,_⟩ | ⟨h1,_⟩ | ⟨_,h1,_⟩)<;>first | exact h h1 | omega
theorem uj {bs:List Nat} {fr to:Nat} (h:da bs fr to):8≤bs.length∧8≤num bs 4 2∧num bs 4 2≤bs.length∧num bs 4 2≤1480:=⟨h.1,h.2.1,h.2.2.1,h.2.2.2.1⟩
theorem yL {d:List Nat} {l port:Nat} {r1 r2:List Nat} (h:l+2≤d.length) (h8:8≤d.length):(ch d l port r1 r2).length=d.length:=by
 have e:(over d l (nb port 2)).length=d.length:=eo (by rw [br];omega)
 unfold ch
 split
 ·exact e
 ·rw [eo (by rw [br,e];omega),e]
attribute [local irreducible] ay aQ aH aK aV num be over nb rowOf cu cK fx da du dR ch dA
section
variable {w0 w:World} {L R:List ao} {K:Value→World→Prop} {v u:Value} {bs ps:List Nat}
theorem c285 {tos id:Nat} {keep:Bool} {ttl fr to l fi fp ti tp:Nat} (y:SH w0 w L) [hb:aD L v bs] (h:fi<4294967296∧fp<65536∧ti<4294967296∧tp<65536) (hl:l≤2) (hlen:bs.length≤100000)
  (hU:8≤num bs 4 2∧num bs 4 2≤bs.length)
  (k: ∀ a c q,SH w0 q (By (sl a c (ch (bs.take (num bs 4 2)) l tp (rowOf 4 [fi]++rowOf 2 [fp]) (rowOf 4 [ti]++rowOf 2 [tp]))) (ch (bs.take (num bs 4 2)) l tp (rowOf 4 [fi]++rowOf 2 [fp]) (rowOf 4 [ti]++rowOf 2 [tp]))::L)→
   K (sl a c (ch (bs.take (num bs 4 2)) l tp (rowOf 4 [fi]++rowOf 2 [fp]) (rowOf 4 [ti]++rowOf 2 [tp]))) q):
  D 285 [ba tos id keep ttl 17 fr to v,C5 l,gx fi fp,gx ti tp] w K:=by
 have e1:num (over bs l (nb tp 2)) 4 2=num bs 4 2:=ot (n:=4) (by rw [br];omega) (by omega)
 have e2:(over bs l (nb tp 2)).take (num bs 4 2)=over (bs.take (num bs 4 2)) l (nb tp 2):=yH (by rw [br];omega) (by omega)
 have e3:num (over (bs.take (num bs 4 2)) l (nb tp 2)) 6 2=num (bs.take (num bs 4 2)) 6 2:=ot (n:=6) (by rw [br];omega) (by simp;omega)
 refine carried y h hl hlen (by omega) (by rw [e1];omega) (by omega) ?_ ?_
 ·rw [e1,e2,e3]
  intro _ H a c q y
  have e4:ch (bs.take (num bs 4 2)) l tp (rowOf 4 [fi]++rowOf 2 [fp]) (rowOf 4 [ti]++rowOf 2 [tp])=over (bs.take (num bs 4 2)) l (nb tp 2):=by unfold ch;exact if_pos H
  rw [e4] at k
  exact k a c q y
 ·rw [e1,e2,e3]
  rintro _ H x rfl a c q y
  have e4:ch (bs.take (num bs 4 2)) l tp (rowOf 4 [fi]++rowOf 2 [fp]) (rowOf 4 [ti]++rowOf 2 [tp])=over (over (bs.take (num bs 4 2)) l (nb tp 2)) 6 (nb (dA (cK (over (bs.take (num bs 4 2)) l (nb tp 2)) 6 (rowOf 4 [fi]++rowOf 2 [fp]) (rowOf 4 [ti]++rowOf 2 [tp]))) 2):=by unfold ch;exact if_neg H
  rw [e4] at k
  exact k a c q y
theorem c285a {tos id:Nat} {keep:Bool} {ttl fr to l fi fp ti tp:Nat} (y:SH w0 w L) [hb:aD L v bs] (h:fi<4294967296∧fp<65536∧ti<4294967296∧tp<65536) (hl:l≤2) (hlen:bs.length≤100000)
  (hT:20≤bs.length)
  (k: ∀ qs:List Nat,qs.length=bs.length→ ∀ a c q,SH w0 q (By (sl a c qs) qs::L)→K (sl a c qs) q):
  D 285 [ba tos id keep ttl 6 fr to v,C5 l,gx fi fp,gx ti tp] w K:=by
 have H:(over bs l (nb tp 2)).length=bs.length:=eo (by rw [br];omega)
 exact carried y h hl hlen (by omega) (by omega) (fun _ a c q y=>k _ (by rw [eo,H];rw [H,br];omega) a c q y) (by omega) (by omega)
theorem c215 {tos id:Nat} {keep:Bool} {ttl proto fr to:Nat} (q:SH w0 w L) [hb:aD L v bs] (hB:bI tos id ttl proto fr to) (hlen:bs.length≤100000)
  (k1:proto=6→fP bs→fx bs fr to→num bs 0 2<65536→num bs 2 2<65536→bs.getD 13 0<256→ ∀ w',SH w0 w' L→K (.tuple #[eX 6 fr (num bs 0 2) to (num bs 2 2) (bs.getD 13 0) 0,.nilIface]) w')
  (k2:proto=17→da bs fr to→num (bs.take (num bs 4 2)) 0 2<65536→num (bs.take (num bs 4 2)) 2 2<65536→ ∀ w',SH w0 w' L→K (.tuple #[eX 17 fr (num (bs.take (num bs 4 2)) 0 2) to (num (bs.take (num bs 4 2)) 2 2) 0 0,.nilIface]) w')
  (k3:proto=1→du bs→bs.getD 0 0=8→ ∀ m:Nat,m<65536→ ∀ w',SH w0 w' L→K (.tuple #[eX 1 fr m to 0 0 8,.nilIface]) w')
  (k4:proto=1→du bs→bs.getD 0 0=0→ ∀ m:Nat,m<65536→ ∀ w',SH w0 w' L→K (.tuple #[eX 1 fr 0 to m 0 0,.nilIface]) w')
  (k5: ¬dR proto fr to bs→ ∀ b w',SH w0 w' (Ex b::L)→K (.tuple #[lm,bu b]) w'):D 215 [ba tos id keep ttl proto fr to v] w K:=by
 obtain ⟨ad,c,rfl,hcap,hB1,hl0⟩:=q.enter (v:=v)
 obtain ⟨h1,h2,h3,h4,h5,h6⟩:=hB
 by_cases p6:proto=6
 ·subst p6
  refine s215 rfl<|ac<|q.az [.int .u8 tos,.int .u16 id,.bool keep,.int .u8 ttl,.int .u8 (↑6),.int .u32 fr,.int .u32 to,sl ad c bs] fun y w_1 q=>q.an fun H w_2 q=>av<|ac<|q.C9 (b:=y) rfl<|aM<|ac<|Di<|ai<|ac<|q.C9 (b:=y) rfl<|q.C9 (b:=y) rfl<|q.C9 (b:=y) rfl<|c274 (v:=sl ad c bs) q (by omega) (fun h_22 _ _ _ _ _ _ w_22 q=>?_) (fun h_22 _ w_22 q=>?_)
  ·refine q.an fun b_4 w_4 q=>q.aj (b:=b_4) fun _ q=>aq ⟨_,bg (neg:=true) rfl,ak (ac (q.Da (b:=y) rfl (q.C9 (b:=b_4) rfl (q.C9 (b:=b_4) rfl (c275 q (fun _ q=>q.an fun b_6 _ q=>q.aj (b:=b_6) fun _ q=>ac (q.C9 (b:=b_4) rfl (q.aN (b:=b_6) [.int .u8 (bs.getD 13 0)] [.int .u8 (↑6),.int .u32 fr,.int .u16 (num bs 0 2),.int .u32 to,.int .u16 (num bs 2 2),.int .u8 (bs.getD 13 0),.int .u8 (↑0)] fun w_73 q=>ac (q.Da (b:=b_6) rfl (q.aj (b:=H) fun _ q=>ah (q.Da (b:=H) rfl (k1 rfl (by assumption) (by assumption) (by assumption) (by assumption) (by assumption) _ q.ae))))))))))))⟩
  ·refine q.an fun b_4 w_4 q=>q.aj (b:=b_4) fun _ q=>aq ⟨_,bH (neg:=true) rfl,ac (⟨rfl,[.int .u8 0,.int .u32 0,.int .u16 0,.int .u32 0,.int .u16 0,.int .u8 0,.int .u8 0],rfl,q.aj (b:=H) fun w_60 q=>ah (q.Da (b:=H) rfl (k5 (yI (by assumption)) _ _ q.ae))⟩)⟩
 by_cases p17:proto=17
 ·subst p17
  refine s215 rfl<|ac<|q.az [.int .u8 tos,.int .u16 id,.bool keep,.int .u8 ttl,.int .u8 (↑17),.int .u32 fr,.int .u32 to,sl ad c bs] fun y w_1 q=>q.an fun H w_2 q=>av<|ac<|q.C9 (b:=y) rfl<|aM<|ac<|Dh<|ai<|ac<|Di<|ai<|ac<|q.C9 (b:=y) rfl<|q.C9 (b:=y) rfl<|q.C9 (b:=y) rfl<|c11 (v:=sl ad c bs) q (by omega) (by assumption) (fun h_48 _ _ _ _ _ _ w_48 q=>?_) (fun h_48 _ w_48 q=>?_)
  ·refine q.an fun b_7 w_7 q=>q.aj (b:=b_7) fun _ q=>aq ⟨_,bg (neg:=true) rfl,ak (ac (q.Da (b:=y) rfl (q.C9 (b:=b_7) rfl (q.C9 (b:=b_7) rfl (c275 q (fun w_60 q=>q.aj (b:=H) fun _ q=>ah (q.Da (b:=H) rfl (k2 rfl (by assumption) (by assumption) (by assumption) _ q.ae))))))))⟩
  ·refine q.an fun b_7 w_7 q=>q.aj (b:=b_7) fun _ q=>aq ⟨_,bH (neg:=true) rfl,ac (⟨rfl,[.int .u8 0,.int .u32 0,.int .u16 0,.int .u32 0,.int .u16 0,.int .u8 0,.int .u8 0],rfl,q.aj (b:=H) fun _ q=>ah (q.Da (b:=H) rfl (k5 (yJ (by assumption)) _ _ q.ae))⟩)⟩
 by_cases p1:proto=1
 ·subst p1
  refine s215 rfl<|ac<|q.az [.int .u8 tos,.int .u16 id,.bool keep,.int .u8 ttl,.int .u8 (↑1),.int .u32 fr,.int .u32 to,sl ad c bs] fun y w_1 q=>q.an fun H w_2 q=>av<|ac<|q.C9 (b:=y) rfl<|aM<|ac<|Dh<|ai<|ac<|Dh<|ai<|ac<|Di<|ai<|ac<|q.C9 (b:=y) rfl<|c164 (v:=sl ad c bs) q (by assumption) (fun h_66 _ _ _ w_66 q=>?_) (fun h_66 _ w_66 q=>?_)
  ·refine q.an fun J w_9 q=>q.aj (b:=J) fun w_62 q=>aq ⟨_,bg (neg:=true) rfl,ak (aJ ?_)⟩
   have q:=q.drew
   refine q.Da (b:=y) rfl<|q.C9 (b:=J) rfl<|q.Da (b:=J) rfl<|c277 q (by assumption) (fun h_77 _ q=>⟨⟨⟨_,q.af (b:=J) rfl,rfl⟩,⟨q.ld (b:=J) rfl,⟨⟨_,q.af (b:=y) rfl,rfl⟩,trivial⟩⟩⟩,c276 q (fun Y w_78 q=>?_) (fun Y w_78 q=>?_) (fun Y _ w_78 q=>?_)⟩)
   ·refine ⟨⟨⟨_,q.af (b:=J) rfl,rfl⟩,⟨q.ld (b:=J) rfl,⟨⟨_,q.af (b:=y) rfl,rfl⟩,trivial⟩⟩⟩,q.aj (b:=H) fun w_72 q=>⟨⟨⟨_,q.af (b:=J) rfl,rfl⟩,⟨q.ld (b:=J) rfl,⟨⟨_,q.af (b:=y) rfl,rfl⟩,trivial⟩⟩⟩,ah (q.Da (b:=H) rfl ?_)⟩⟩
    have hk: ∀ z:Nat,z=8→K (.tuple #[eX 1 fr (num [(List.drop 4 bs).getD 0 0,(List.drop 4 bs).getD 1 0,(List.drop 4 bs).getD 2 0,(List.drop 4 bs).getD 3 0] 0 2) to 0 0 z,.nilIface]) w_72:=by
     rintro _ rfl
     exact k3 rfl h_66 Y _ h_77 _ q.ae
    exact hk _ Y
   ·refine ⟨⟨⟨_,q.af (b:=J) rfl,rfl⟩,⟨q.ld (b:=J) rfl,⟨⟨_,q.af (b:=y) rfl,rfl⟩,trivial⟩⟩⟩,q.aj (b:=H) fun w_72 q=>⟨⟨⟨_,q.af (b:=J) rfl,rfl⟩,⟨q.ld (b:=J) rfl,⟨⟨_,q.af (b:=y) rfl,rfl⟩,trivial⟩⟩⟩,ah (q.Da (b:=H) rfl ?_)⟩⟩
    have hk: ∀ z:Nat,z=0→K (.tuple #[eX 1 fr 0 to (num [(List.drop 4 bs).getD 0 0,(List.drop 4 bs).getD 1 0,(List.drop 4 bs).getD 2 0,(List.drop 4 bs).getD 3 0] 0 2) 0 z,.nilIface]) w_72:=by
     rintro _ rfl
     exact k4 rfl h_66 Y _ h_77 _ q.ae
    exact hk _ Y
   ·refine ⟨⟨⟨_,q.af (b:=J) rfl,rfl⟩,⟨q.ld (b:=J) rfl,⟨⟨_,q.af (b:=y) rfl,rfl⟩,trivial⟩⟩⟩,q.aj (b:=H) fun w_73 q=>⟨⟨⟨_,q.af (b:=J) rfl,rfl⟩,⟨q.ld (b:=J) rfl,⟨⟨_,q.af (b:=y) rfl,rfl⟩,trivial⟩⟩⟩,ah (q.Da (b:=H) rfl (k5 (by (simp only [dR];omega)) _ _ q.ae))⟩⟩
  ·refine q.an fun J w_9 q=>q.aj (b:=J) fun w_60 q=>aq ⟨_,bH (neg:=true) rfl,ac (⟨rfl,[.int .u8 0,.int .u32 0,.int .u16 0,.int .u32 0,.int .u16 0,.int .u8 0,.int .u8 0],rfl,q.aj (b:=H) fun w_62 q=>ah (q.Da (b:=H) rfl (k5 (yK (by assumption)) _ _ q.ae))⟩)⟩
 ·refine s215 rfl<|ac<|q.az [.int .u8 tos,.int .u16 id,.bool keep,.int .u8 ttl,.int .u8 proto,.int .u32 fr,.int .u32 to,sl ad c bs] fun y w_1 q=>q.an fun H w_2 q=>av<|ac<|q.C9 (b:=y) rfl<|aM<|ac<|Df<|ai<|ac<|Df<|ai<|ac<|Df<|ai<|ak<|ac ⟨rfl,[.int .u8 0,.int .u32 0,.int .u16 0,.int .u32 0,.int .u16 0,.int .u8 0,.int .u8 0],rfl,c278 q (fun _ _ q=>q.aj (b:=H) fun _ q=>ah (q.Da (b:=H) rfl (k5 (by (simp only [dR];omega)) _ _ q.ae)))⟩
end
end
section
theorem uk {proto fr to:Nat} {bs:List Nat} (h:proto=6) (h1:fP bs) (q:fx bs fr to):dR proto fr to bs:= .inl ⟨h,h1,q⟩
theorem um {proto fr to:Nat} {bs:List Nat} (h:proto=1) (h1:du bs) (q:bs.getD 0 0=8):dR proto fr to bs:= .inr (.inr ⟨h,h1,.inl q⟩)
theorem uo {proto fr to:Nat} {bs:List Nat} (h:proto=1) (h1:du bs) (q:bs.getD 0 0=0):dR proto fr to bs:= .inr (.inr ⟨h,h1,.inr q⟩)
attribute [local irreducible] ay aQ aH aK aV num be over nb rowOf cu cK fx da du dR ch dA
section
variable {w0 w:World} {L R:List ao} {K:Value→World→Prop} {v u:Value} {bs ps:List Nat}
theorem c219 {tos id:Nat} {keep:Bool} {ttl proto fr to ip port:Nat} (q:SH w0 w L) [hb:aD L v bs] (hB:bI tos id ttl proto fr to) (hlen:bs.length≤100000) (he:ip<4294967296∧port<65536)
  (k1:proto=17→da bs fr to→ ∀ a c w',SH w0 w' (By (sl a c (ch (bs.take (num bs 4 2)) 0 port (rowOf 4 [fr]++rowOf 2 [num (bs.take (num bs 4 2)) 0 2]) (rowOf 4 [ip]++rowOf 2 [port]))) (ch (bs.take (num bs 4 2)) 0 port (rowOf 4 [fr]++rowOf 2 [num (bs.take (num bs 4 2)) 0 2]) (rowOf 4 [ip]++rowOf 2 [port]))::L)→
   K (.tuple #[ba tos id keep ttl 17 ip to (sl a c (ch (bs.take (num bs 4 2)) 0 port (rowOf 4 [fr]++rowOf 2 [num (bs.take (num bs 4 2)) 0 2]) (rowOf 4 [ip]++rowOf 2 [port]))),.nilIface]) w')
  (k2:proto≠17→dR proto fr to bs→ ∀ qs:List Nat,qs.length=bs.length→ ∀ a c w',SH w0 w' (By (sl a c qs) qs::L)→K (.tuple #[ba tos id keep ttl proto ip to (sl a c qs),.nilIface]) w')
  (k3: ¬dR proto fr to bs→ ∀ b w',SH w0 w' (Ex b::L)→K (.tuple #[fv,bu b]) w'):D 219 [ba tos id keep ttl proto fr to v,gx ip port] w K:=by
 obtain ⟨ad,c,rfl,hcap,hB1,hl0⟩:=q.enter (v:=v)
 have hB2:=hB
 obtain ⟨h1,h2,h3,h4,h5,h6⟩:=hB2
 refine s219 rfl<|ac<|q.az (DI tos id keep ttl proto fr to (sl ad c bs)) fun H _ q=>q.az [C3 ip,C2 port] fun b_3 _ q=>q.an fun b_4 _ q=>ac<|q.Da (b:=H) rfl<|c215 q ‹_› ‹_› (fun h_10 J Y h_103 h_104 _ w_10 q=>?_) (fun h_10 J Y h_103 w_10 q=>?_) (fun h_10 J Y m_10 h_104 w_10 q=>?_) (fun h_10 J Y m_10 h_104 w_10 q=>?_) (fun h_10 _ w_10 q=>?_)
 ·subst h_10
  refine q.an fun y w_6 q=>q.aj (b:=y) fun _ q=>aq ⟨_,bg (neg:=true) rfl,ak (aG (ac (q.C9 (b:=y) rfl (Di (ai (au (q.Da (b:=H) rfl (⟨_,q.ar (b:=y) [C3 fr,C2 (num bs 0 2)],q.Da (b:=b_3) rfl (c285a q (by omega) (by decide) ‹_› (by omega) (fun qs_32 _ a_32 c_32 w_32 q=>q.aN (b:=H) [sl a_32 c_32 qs_32] (DI tos id keep ttl (↑6) fr to (sl a_32 c_32 qs_32)) fun _ q=>ac (q.C9 (b:=b_3) rfl (q.aN (b:=H) [C3 ip] (DI tos id keep ttl 6 ip to (sl a_32 c_32 qs_32)) fun w_78 q=>ac (q.Da (b:=H) rfl (q.aj (b:=b_4) fun _ q=>ah (q.Da (b:=b_4) rfl (k2 (by omega) (by (exact uk rfl J Y)) _ ‹_› _ _ _ q.ae))))))))⟩))))))))⟩
 ·subst h_10
  have hUl:=uj J
  refine q.an fun y w_6 q=>q.aj (b:=y) fun w_66 q=>aq ⟨_,bg (neg:=true) rfl,ak (aG (ac (q.C9 (b:=y) rfl (Di (ai (au (q.Da (b:=H) rfl (⟨_,q.ar (b:=y) [C3 fr,C2 (num (List.take (num bs 4 2) bs) 0 2)],q.Da (b:=b_3) rfl (c285 q (by omega) (by decide) ‹_› (by omega) (fun a_32 c_32 w_32 q=>q.aN (b:=H) [sl a_32 c_32 (ch (List.take (num bs 4 2) bs) 0 port (rowOf 4 [fr]++rowOf 2 [num (List.take (num bs 4 2) bs) 0 2]) (rowOf 4 [ip]++rowOf 2 [port]))] (DI tos id keep ttl (↑17) fr to (sl a_32 c_32 (ch (List.take (num bs 4 2) bs) 0 port (rowOf 4 [fr]++rowOf 2 [num (List.take (num bs 4 2) bs) 0 2]) (rowOf 4 [ip]++rowOf 2 [port])))) fun _ q=>ac (q.C9 (b:=b_3) rfl (q.aN (b:=H) [C3 ip] (DI tos id keep ttl 17 ip to (sl a_32 c_32 (ch (List.take (num bs 4 2) bs) 0 port (rowOf 4 [fr]++rowOf 2 [num (List.take (num bs 4 2) bs) 0 2]) (rowOf 4 [ip]++rowOf 2 [port])))) fun w_75 q=>ac (q.Da (b:=H) rfl (q.aj (b:=b_4) fun w_78 q=>ah (q.Da (b:=b_4) rfl (k1 rfl ‹_› _ _ _ q.ae))))))))⟩))))))))⟩
 ·subst h_10
  refine q.an fun y w_6 q=>q.aj (b:=y) fun w_66 q=>aq ⟨_,bg (neg:=true) rfl,ak (aG (ac (q.C9 (b:=y) rfl (Dh (ai (ac (q.C9 (b:=y) rfl (Di (ai (au (q.C9 (b:=H) rfl (q.C9 (b:=b_3) rfl (c286 (v:=sl ad c bs) q ‹_› (by omega) ‹_› (fun qs_42 _ a_42 c_42 _ q=>q.aN (b:=H) [sl a_42 c_42 qs_42] (DI tos id keep ttl (↑1) fr to (sl a_42 c_42 qs_42)) fun w_75 q=>ac (q.C9 (b:=b_3) rfl (q.aN (b:=H) [C3 ip] (DI tos id keep ttl 1 ip to (sl a_42 c_42 qs_42)) fun w_78 q=>ac (q.Da (b:=H) rfl (q.aj (b:=b_4) fun w_80 q=>ah (q.Da (b:=b_4) rfl (k2 (by omega) (by (exact um rfl J Y)) _ ‹_› _ _ _ q.ae))))))))))))))))))))⟩
 ·subst h_10
  refine q.an fun y w_6 q=>q.aj (b:=y) fun w_66 q=>aq ⟨_,bg (neg:=true) rfl,ak (aG (ac (q.C9 (b:=y) rfl (Dh (ai (ac (q.C9 (b:=y) rfl (Dh (ai (au (q.C9 (b:=H) rfl (q.C9 (b:=y) rfl (c286 (v:=sl ad c bs) q ‹_› ‹_› ‹_› (fun qs_22 _ a_22 c_22 _ q=>q.aN (b:=H) [sl a_22 c_22 qs_22] (DI tos id keep ttl (↑1) fr to (sl a_22 c_22 qs_22)) fun w_75 q=>ac (q.C9 (b:=b_3) rfl (q.aN (b:=H) [C3 ip] (DI tos id keep ttl 1 ip to (sl a_22 c_22 qs_22)) fun w_78 q=>ac (q.Da (b:=H) rfl (q.aj (b:=b_4) fun w_80 q=>ah (q.Da (b:=b_4) rfl (k2 (by omega) (by (exact uo rfl J Y)) _ ‹_› _ _ _ q.ae))))))))))))))))))))⟩
 ·refine q.an fun y w_6 q=>q.aj (b:=y) fun _ q=>aq ⟨_,bH (neg:=true) rfl,ac (⟨rfl,(DI 0 0 false 0 0 0 0 (sN)),rfl,q.aj (b:=b_4) fun _ q=>ah (q.Da (b:=b_4) rfl (k3 ‹_› _ _ q.ae))⟩)⟩
theorem c222 {tos id:Nat} {keep:Bool} {ttl proto fr to ip port:Nat} (q:SH w0 w L) [hb:aD L v bs] (hB:bI tos id ttl proto fr to) (hlen:bs.length≤100000) (he:ip<4294967296∧port<65536)
  (k1:proto=17→da bs fr to→ ∀ a c w',SH w0 w' (By (sl a c (ch (bs.take (num bs 4 2)) 2 port (rowOf 4 [to]++rowOf 2 [num (bs.take (num bs 4 2)) 2 2]) (rowOf 4 [ip]++rowOf 2 [port]))) (ch (bs.take (num bs 4 2)) 2 port (rowOf 4 [to]++rowOf 2 [num (bs.take (num bs 4 2)) 2 2]) (rowOf 4 [ip]++rowOf 2 [port]))::L)→
   K (.tuple #[ba tos id keep ttl 17 fr ip (sl a c (ch (bs.take (num bs 4 2)) 2 port (rowOf 4 [to]++rowOf 2 [num (bs.take (num bs 4 2)) 2 2]) (rowOf 4 [ip]++rowOf 2 [port]))),.nilIface]) w')
  (k2:proto≠17→dR proto fr to bs→ ∀ qs:List Nat,qs.length=bs.length→ ∀ a c w',SH w0 w' (By (sl a c qs) qs::L)→K (.tuple #[ba tos id keep ttl proto fr ip (sl a c qs),.nilIface]) w')
  (k3: ¬dR proto fr to bs→ ∀ b w',SH w0 w' (Ex b::L)→K (.tuple #[fv,bu b]) w'):D 222 [ba tos id keep ttl proto fr to v,gx ip port] w K:=by
 obtain ⟨ad,c,rfl,hcap,hB1,hl0⟩:=q.enter (v:=v)
 have hB2:=hB
 obtain ⟨h1,h2,h3,h4,h5,h6⟩:=hB2
 refine s222 rfl<|ac<|q.az (DI tos id keep ttl proto fr to (sl ad c bs)) fun H _ q=>q.az [C3 ip,C2 port] fun b_3 _ q=>q.an fun b_4 _ q=>ac<|q.Da (b:=H) rfl<|c215 q ‹_› ‹_› (fun h_10 J Y h_103 h_104 _ w_10 q=>?_) (fun h_10 J Y h_103 w_10 q=>?_) (fun h_10 J Y m_10 h_104 w_10 q=>?_) (fun h_10 J Y m_10 h_104 w_10 q=>?_) (fun h_10 _ w_10 q=>?_)
 ·subst h_10
  refine q.an fun y w_6 q=>q.aj (b:=y) fun _ q=>aq ⟨_,bg (neg:=true) rfl,ak (aG (ac (q.C9 (b:=y) rfl (Di (ai (au (q.Da (b:=H) rfl (⟨_,q.ar (b:=y) [C3 to,C2 (num bs 2 2)],q.Da (b:=b_3) rfl (c285a q (by omega) (by decide) ‹_› (by omega) (fun qs_32 _ a_32 c_32 w_32 q=>q.aN (b:=H) [sl a_32 c_32 qs_32] (DI tos id keep ttl (↑6) fr to (sl a_32 c_32 qs_32)) fun _ q=>ac (q.C9 (b:=b_3) rfl (q.aN (b:=H) [C3 ip] (DI tos id keep ttl 6 fr ip (sl a_32 c_32 qs_32)) fun w_78 q=>ac (q.Da (b:=H) rfl (q.aj (b:=b_4) fun _ q=>ah (q.Da (b:=b_4) rfl (k2 (by omega) (by (exact uk rfl J Y)) _ ‹_› _ _ _ q.ae))))))))⟩))))))))⟩
 ·subst h_10
  have hUl:=uj J
  refine q.an fun y w_6 q=>q.aj (b:=y) fun w_66 q=>aq ⟨_,bg (neg:=true) rfl,ak (aG (ac (q.C9 (b:=y) rfl (Di (ai (au (q.Da (b:=H) rfl (⟨_,q.ar (b:=y) [C3 to,C2 (num (List.take (num bs 4 2) bs) 2 2)],q.Da (b:=b_3) rfl (c285 q (by omega) (by decide) ‹_› (by omega) (fun a_32 c_32 w_32 q=>q.aN (b:=H) [sl a_32 c_32 (ch (List.take (num bs 4 2) bs) 2 port (rowOf 4 [to]++rowOf 2 [num (List.take (num bs 4 2) bs) 2 2]) (rowOf 4 [ip]++rowOf 2 [port]))] (DI tos id keep ttl (↑17) fr to (sl a_32 c_32 (ch (List.take (num bs 4 2) bs) 2 port (rowOf 4 [to]++rowOf 2 [num (List.take (num bs 4 2) bs) 2 2]) (rowOf 4 [ip]++rowOf 2 [port])))) fun _ q=>ac (q.C9 (b:=b_3) rfl (q.aN (b:=H) [C3 ip] (DI tos id keep ttl 17 fr ip (sl a_32 c_32 (ch (List.take (num bs 4 2) bs) 2 port (rowOf 4 [to]++rowOf 2 [num (List.take (num bs 4 2) bs) 2 2]) (rowOf 4 [ip]++rowOf 2 [port])))) fun w_75 q=>ac (q.Da (b:=H) rfl (q.aj (b:=b_4) fun w_78 q=>ah (q.Da (b:=b_4) rfl (k1 rfl ‹_› _ _ _ q.ae))))))))⟩))))))))⟩
 ·subst h_10
  refine q.an fun y w_6 q=>q.aj (b:=y) fun w_66 q=>aq ⟨_,bg (neg:=true) rfl,ak (aG (ac (q.C9 (b:=y) rfl (Dh (ai (ac (q.C9 (b:=y) rfl (Dh (ai (au (q.C9 (b:=H) rfl (q.C9 (b:=y) rfl (c286 (v:=sl ad c bs) q ‹_› ‹_› ‹_› (fun qs_22 _ a_22 c_22 _ q=>q.aN (b:=H) [sl a_22 c_22 qs_22] (DI tos id keep ttl (↑1) fr to (sl a_22 c_22 qs_22)) fun w_75 q=>ac (q.C9 (b:=b_3) rfl (q.aN (b:=H) [C3 ip] (DI tos id keep ttl 1 fr ip (sl a_22 c_22 qs_22)) fun w_78 q=>ac (q.Da (b:=H) rfl (q.aj (b:=b_4) fun w_80 q=>ah (q.Da (b:=b_4) rfl (k2 (by omega) (by (exact um rfl J Y)) _ ‹_› _ _ _ q.ae))))))))))))))))))))⟩
 ·subst h_10
  refine q.an fun y w_6 q=>q.aj (b:=y) fun w_66 q=>aq ⟨_,bg (neg:=true) rfl,ak (aG (ac (q.C9 (b:=y) rfl (Dh (ai (ac (q.C9 (b:=y) rfl (Di (ai (au (q.C9 (b:=H) rfl (q.C9 (b:=b_3) rfl (c286 (v:=sl ad c bs) q ‹_› (by omega) ‹_› (fun qs_42 _ a_42 c_42 _ q=>q.aN (b:=H) [sl a_42 c_42 qs_42] (DI tos id keep ttl (↑1) fr to (sl a_42 c_42 qs_42)) fun w_75 q=>ac (q.C9 (b:=b_3) rfl (q.aN (b:=H) [C3 ip] (DI tos id keep ttl 1 fr ip (sl a_42 c_42 qs_42)) fun w_78 q=>ac (q.Da (b:=H) rfl (q.aj (b:=b_4) fun w_80 q=>ah (q.Da (b:=b_4) rfl (k2 (by omega) (by (exact uo rfl J Y)) _ ‹_› _ _ _ q.ae))))))))))))))))))))⟩
 ·refine q.an fun y w_6 q=>q.aj (b:=y) fun _ q=>aq ⟨_,bH (neg:=true) rfl,ac (⟨rfl,(DI 0 0 false 0 0 0 0 (sN)),rfl,q.aj (b:=b_4) fun _ q=>ah (q.Da (b:=b_4) rfl (k3 ‹_› _ _ q.ae))⟩)⟩
end
end
section
theorem uq {ty:Nat} {bs:List Nat} (h:gR ty bs):8≤(cJ bs (num bs 2 2)).length:=h.2.2
abbrev yM (qs:List Nat) (keep:Bool) (v:Value):Value:=ba (qs.getD 1 0) (num qs 4 2) keep (qs.getD 8 0) (qs.getD 9 0) (num qs 12 4) (num qs 16 4) v
abbrev ur (bs:List Nat) (v:Value):Value:=gQ (bs.getD 0 0) (bs.getD 1 0) ((bs.drop 4).getD 0 0) ((bs.drop 4).getD 1 0) ((bs.drop 4).getD 2 0) ((bs.drop 4).getD 3 0) v
abbrev uu (qs:List Nat):Prop:=bI (qs.getD 1 0) (num qs 4 2) (qs.getD 8 0) (qs.getD 9 0) (num qs 12 4) (num qs 16 4)
abbrev yN (bs:List Nat):Prop:=jJ (bs.getD 0 0) (bs.getD 1 0) ((bs.drop 4).getD 0 0) ((bs.drop 4).getD 1 0) ((bs.drop 4).getD 2 0) ((bs.drop 4).getD 3 0)
def iY (proto:Nat) (bs:List Nat):Prop:=proto=1∧du bs∧gR (bs.getD 0 0) (bs.drop 8)
theorem yO {proto:Nat} {bs:List Nat} (h:proto≠1): ¬iY proto bs:=fun q=>h q.1
theorem yP {proto:Nat} {bs:List Nat} (h: ¬du bs): ¬iY proto bs:=fun q=>h q.2.1
theorem yQ {proto:Nat} {bs:List Nat} (h: ¬gR (bs.getD 0 0) (bs.drop 8)): ¬iY proto bs:=fun q=>h q.2.2
attribute [local irreducible] ay aQ aH aK aV num be over nb rowOf cu cK fx da du dR ch dA gR iY
section
variable {w0 w:World} {L R:List ao} {K:Value→World→Prop} {v u:Value} {bs ps:List Nat}
theorem c325 {tos id:Nat} {keep:Bool} {ttl proto fr to:Nat} (q:SH w0 w L) [hb:aD L v bs] (hlen:bs.length≤100000)
  (k1:proto=1→du bs→gR (bs.getD 0 0) (bs.drop 8)→yN bs→uu (bs.drop 8)→ ∀ keep':Bool,(keep'=true↔num (bs.drop 8) 6 2≠0)→ ∀ a c a' c' w',
   SH w0 w' (By (sl a c (bs.drop 8)) (bs.drop 8)::By (sl a' c' (cJ (bs.drop 8) (num (bs.drop 8) 2 2))) (cJ (bs.drop 8) (num (bs.drop 8) 2 2))::L)→
   K (.tuple #[ur bs (sl a c (bs.drop 8)),yM (bs.drop 8) keep' (sl a' c' (cJ (bs.drop 8) (num (bs.drop 8) 2 2))),.nilIface]) w')
  (k2: ¬iY proto bs→ ∀ b w',SH w0 w' (Ex b::L)→K (.tuple #[ug,fv,bu b]) w')
  (k3: ¬iY proto bs→ ∀ a c b w',SH w0 w' (Ex b::L)→K (.tuple #[ur bs (sl a c (bs.drop 8)),fv,bu b]) w'):D 325 [ba tos id keep ttl proto fr to v] w K:=by
 obtain ⟨ad,c,rfl,hcap,hB1,hl0⟩:=q.enter (v:=v)
 refine s325 rfl<|ac<|q.az [.int .u8 tos,.int .u16 id,.bool keep,.int .u8 ttl,.int .u8 proto,.int .u32 fr,.int .u32 to,sl ad c bs] fun b_1 _ q=>q.an fun J _ q=>q.an fun Y _ q=>aq<|q.C9 (b:=b_1) rfl<|ap (fun h_10=>?_) (fun h_10=>?_)
 ·refine ac ⟨rfl,[.int .u8 0,.int .u8 0,.int .u8 0,.int .u8 0,.int .u8 0,.int .u8 0,.slice none 0 0],rfl,⟨rfl,[.int .u8 0,.int .u16 0,.bool false,.int .u8 0,.int .u8 0,.int .u32 0,.int .u32 0,.slice none 0 0],rfl,c278 q (fun _ _ q=>q.aj (b:=J) fun _ q=>q.aj (b:=Y) fun _ q=>ah (q.Da (b:=J) rfl (q.Da (b:=Y) rfl (k2 (by (refine yO (by omega))) _ _ q.ae))))⟩⟩
 ·refine ak<|ac<|q.C9 (b:=b_1) rfl<|c164 (v:=sl ad c bs) q (by assumption) (fun h_17 _ _ _ w_17 q=>?_) (fun h_17 _ w_17 q=>?_)
  ·refine q.an fun y w_5 q=>q.aj (b:=y) fun _ q=>aq ⟨_,bg (neg:=true) rfl,ak (ac (q.Da (b:=y) rfl (c362 q (by (simp<;>omega)) (fun h_27 _ _ _ _ _ w_27 q=>?_) (fun h_27 _ w_27 q=>?_))))⟩
   ·refine q.an fun H w_7 q=>q.aj (b:=H) fun w_62 q=>aJ<|have q:=q.drew;q.Da (b:=y) rfl<|q.Da (b:=H) rfl<|q.aj (b:=J) fun _ q=>⟨⟨⟨_,q.af (b:=H) rfl,rfl⟩,⟨⟨_,q.af (b:=y) rfl,rfl⟩,trivial⟩⟩,q.aj (b:=Y) fun _ q=>⟨⟨⟨_,q.af (b:=H) rfl,rfl⟩,⟨⟨_,q.af (b:=y) rfl,rfl⟩,trivial⟩⟩,ah (q.Da (b:=J) rfl (q.Da (b:=Y) rfl (k1 (by omega) (by assumption) (by assumption) (by assumption) (by assumption) _ (by assumption) _ _ _ _ _ q.ae)))⟩⟩
   ·refine q.an fun H w_7 q=>q.aj (b:=H) fun _ q=>aJ<|have q:=q.drew;q.Da (b:=y) rfl<|q.Da (b:=H) rfl<|q.aj (b:=J) fun w_62 q=>⟨⟨⟨_,q.af (b:=H) rfl,rfl⟩,⟨⟨_,q.af (b:=y) rfl,rfl⟩,trivial⟩⟩,q.aj (b:=Y) fun _ q=>⟨⟨⟨_,q.af (b:=H) rfl,rfl⟩,⟨⟨_,q.af (b:=y) rfl,rfl⟩,trivial⟩⟩,ah (q.Da (b:=J) rfl (q.Da (b:=Y) rfl (k3 (by (refine yQ (by assumption))) _ _ _ _ q.ae)))⟩⟩
  ·refine q.an fun y w_5 q=>q.aj (b:=y) fun _ q=>aq ⟨_,bH (neg:=true) rfl,ac (⟨rfl,[.int .u8 0,.int .u8 0,.int .u8 0,.int .u8 0,.int .u8 0,.int .u8 0,.slice none 0 0],rfl,⟨rfl,[.int .u8 0,.int .u16 0,.bool false,.int .u8 0,.int .u8 0,.int .u32 0,.int .u32 0,.slice none 0 0],rfl,q.aj (b:=J) fun _ q=>q.aj (b:=Y) fun _ q=>ah (q.Da (b:=J) rfl (q.Da (b:=Y) rfl (k2 (by (refine yP (by assumption))) _ _ q.ae)))⟩⟩)⟩
theorem c363 {b:Nat} {l:Int} {cs:List Value} {tos id:Nat} {keep:Bool} {ttl proto fr to:Nat} (q:SH w0 w L) [p:aR L b 46 cs R] (y:cs=(DI tos id keep ttl proto fr to v)) [hb:aD L v bs] (h:0≤l∧l+2≤bs.length)
  (k:num bs l 2<65536→ ∀ H,SH w0 H L→K (C2 (num bs l 2)) H):D 363 [C5 l,pt b] w K:=by
 subst y
 obtain ⟨ad,c,rfl,hcap,hB1,hl0⟩:=q.enter (v:=v)
 refine s363 rfl<|ac<|ac<|q.C9 (b:=b) rfl<|c56 (v:=sl ad c bs) q (by omega) (by omega) (fun _=>ac (⟨_,IntWalk.u16_in _ (by omega),ah (k (by omega) _ q.ae)⟩))
theorem fk363:fG Tryz.prog 363=true:=by kernel_rfl
theorem c326 {tos id:Nat} {keep:Bool} {ttl proto fr to:Nat} (q:SH w0 w L) [hb:aD L v bs] (hB:bI tos id ttl proto fr to) (h8:8≤bs.length) (hlen:bs.length≤100000)
  (k1:proto=6∨proto=17→num bs 0 2<65536→num bs 2 2<65536→ ∀ J,SH w0 J L→K (.tuple #[eX proto fr (num bs 0 2) to (num bs 2 2) 0 0,.nilIface]) J)
  (k2:proto=1→bs.getD 0 0=8→num bs 4 2<65536→ ∀ J,SH w0 J L→K (.tuple #[eX proto fr (num bs 4 2) to 0 0 (bs.getD 0 0),.nilIface]) J)
  (k3:proto=1→bs.getD 0 0=0→num bs 4 2<65536→ ∀ J,SH w0 J L→K (.tuple #[eX proto fr 0 to (num bs 4 2) 0 (bs.getD 0 0),.nilIface]) J)
  (k4: ¬ (proto=6∨proto=17∨(proto=1∧(bs.getD 0 0=8∨bs.getD 0 0=0)))→ ∀ b J,SH w0 J (Ex b::L)→K (.tuple #[lm,bu b]) J):D 326 [ba tos id keep ttl proto fr to v] w K:=by
 obtain ⟨ad,c,rfl,hcap,hB1,hl0⟩:=q.enter (v:=v)
 obtain ⟨h1,h2,h3,h4,h5,h6⟩:=hB
 refine s326 rfl<|ac<|q.az [.int .u8 tos,.int .u16 id,.bool keep,.int .u8 ttl,.int .u8 proto,.int .u32 fr,.int .u32 to,sl ad c bs] fun y _ q=>q.an fun H _ q=>ac<|av<|ac<|q.C9 (b:=y) rfl<|aM<|aG<|aG<|aM<|av<|aq<|ap (fun h_9=>?_) (fun h_9=>?_)
 ·refine aS<|av<|aJ<|have q:=q.drew;q.Da (b:=y) rfl ⟨fk363,c363 (v:=sl ad c bs) q rfl (by omega) (fun h_16 w_16 q=>⟨⟨⟨_,q.af (b:=y) rfl,rfl⟩,trivial⟩,⟨fk363,c363 (v:=sl ad c bs) q rfl (by omega) (fun h_18 w_18 q=>⟨⟨⟨_,q.af (b:=y) rfl,rfl⟩,trivial⟩,c275 q (fun w_19 q=>⟨⟨⟨_,q.af (b:=y) rfl,rfl⟩,trivial⟩,q.aj (b:=H) fun _ q=>⟨⟨⟨_,q.af (b:=y) rfl,rfl⟩,trivial⟩,ah (q.Da (b:=H) rfl (k1 (by omega) (by assumption) (by assumption) _ q.ae))⟩⟩)⟩)⟩⟩)⟩
 ·refine ak<|aq<|ap (fun h_11=>?_) (fun h_11=>?_)
  ·refine aS<|av<|aJ<|have q:=q.drew;q.Da (b:=y) rfl ⟨fk363,c363 (v:=sl ad c bs) q rfl (by omega) (fun h_16 w_16 q=>⟨⟨⟨_,q.af (b:=y) rfl,rfl⟩,trivial⟩,⟨fk363,c363 (v:=sl ad c bs) q rfl (by omega) (fun h_18 w_18 q=>⟨⟨⟨_,q.af (b:=y) rfl,rfl⟩,trivial⟩,c275 q (fun w_19 q=>⟨⟨⟨_,q.af (b:=y) rfl,rfl⟩,trivial⟩,q.aj (b:=H) fun _ q=>⟨⟨⟨_,q.af (b:=y) rfl,rfl⟩,trivial⟩,ah (q.Da (b:=H) rfl (k1 (by omega) (by assumption) (by assumption) _ q.ae))⟩⟩)⟩)⟩⟩)⟩
  ·refine ak<|ac<|ap (fun h_13=>?_) (fun h_13=>?_)
   ·refine ai<|aS<|av<|aJ<|have q:=q.drew;q.Da (b:=y) rfl<|q.C9 (b:=y) rfl ?_
    obtain ⟨ad_23,rfl⟩:=q.dp ad
    refine ⟨by omega,_,rfl,q.cV (j:=0) fun _=>⟨fk363,c363 (v:=sl (some ad_23) c bs) q rfl (by omega) (fun _ _ q=>⟨⟨q.aX,⟨q.ld (b:=y) rfl,⟨⟨_,q.af (b:=y) rfl,rfl⟩,trivial⟩⟩⟩,c276 q (fun Y w_27 q=>?_) (fun Y w_27 q=>?_) (fun Y _ w_27 q=>?_)⟩)⟩⟩
    ·refine ⟨⟨q.aX,⟨q.ld (b:=y) rfl,⟨⟨_,q.af (b:=y) rfl,rfl⟩,trivial⟩⟩⟩,q.aj (b:=H) fun w_62 q=>⟨⟨q.aX,⟨q.ld (b:=y) rfl,⟨⟨_,q.af (b:=y) rfl,rfl⟩,trivial⟩⟩⟩,ah (q.Da (b:=H) rfl (k2 (by omega) (by assumption) (by assumption) _ q.ae))⟩⟩
    ·refine ⟨⟨q.aX,⟨q.ld (b:=y) rfl,⟨⟨_,q.af (b:=y) rfl,rfl⟩,trivial⟩⟩⟩,q.aj (b:=H) fun w_62 q=>⟨⟨q.aX,⟨q.ld (b:=y) rfl,⟨⟨_,q.af (b:=y) rfl,rfl⟩,trivial⟩⟩⟩,ah (q.Da (b:=H) rfl (k3 (by omega) (by assumption) (by assumption) _ q.ae))⟩⟩
    ·refine ⟨⟨q.aX,⟨q.ld (b:=y) rfl,⟨⟨_,q.af (b:=y) rfl,rfl⟩,trivial⟩⟩⟩,q.aj (b:=H) fun _ q=>⟨⟨q.aX,⟨q.ld (b:=y) rfl,⟨⟨_,q.af (b:=y) rfl,rfl⟩,trivial⟩⟩⟩,ah (q.Da (b:=H) rfl (k4 (by omega) _ _ q.ae))⟩⟩
   ·refine ai<|ak<|aS<|ac ⟨rfl,[.int .u8 0,.int .u32 0,.int .u16 0,.int .u32 0,.int .u16 0,.int .u8 0,.int .u8 0],rfl,c278 q (fun _ _ q=>q.aj (b:=H) fun _ q=>ah (q.Da (b:=H) rfl (k4 (by omega) _ _ q.ae)))⟩
end
end
section
abbrev inBody (bs:List Nat):List Nat:=cJ (bs.drop 8) (num (bs.drop 8) 2 2)
def mF (pr:Nat) (pb:List Nat) (p q kind:Nat):Prop:=
 ((pr=6∨pr=17)∧p=num pb 0 2∧q=num pb 2 2∧kind=0)∨(pr=1∧pb.getD 0 0=8∧p=num pb 4 2∧q=0∧kind=8)∨(pr=1∧pb.getD 0 0=0∧p=0∧q=num pb 4 2∧kind=0)
def uv (pr:Nat) (pb:List Nat):Prop:=pr=6∨pr=17∨(pr=1∧(pb.getD 0 0=8∨pb.getD 0 0=0))
def mG (proto:Nat) (bs:List Nat):Prop:=iY proto bs∧uv ((bs.drop 8).getD 9 0) (inBody bs)
theorem yR {pr:Nat} {pb:List Nat} (h:pr=6∨pr=17):mF pr pb (num pb 0 2) (num pb 2 2) 0:= .inl ⟨h,rfl,rfl,rfl⟩
theorem yS {pr:Nat} {pb:List Nat} (h:pr=1) (h1:pb.getD 0 0=8):mF pr pb (num pb 4 2) 0 (pb.getD 0 0):= .inr (.inl ⟨h,h1,rfl,rfl,h1⟩)
theorem yT {pr:Nat} {pb:List Nat} (h:pr=1) (h1:pb.getD 0 0=0):mF pr pb 0 (num pb 4 2) (pb.getD 0 0):= .inr (.inr ⟨h,h1,rfl,rfl,h1⟩)
theorem uw {proto:Nat} {bs:List Nat} (h: ¬iY proto bs): ¬mG proto bs:=fun q=>h q.1
theorem yU {proto:Nat} {bs:List Nat} (h: ¬ ((bs.drop 8).getD 9 0=6∨(bs.drop 8).getD 9 0=17∨((bs.drop 8).getD 9 0=1∧((inBody bs).getD 0 0=8∨(inBody bs).getD 0 0=0)))): ¬mG proto bs:=fun q=>h q.2
theorem qo {bs:List Nat} (h:bK bs) (j:Nat):bs.getD j 0<256:=by
 rw [List.getD_eq_getElem?_getD]
 rcases q:bs[j]? with _ | x
 ·decide
 ·exact h.1 x (List.mem_of_getElem? q)
attribute [local irreducible] ay aQ aH aK aV num be over nb rowOf cu cK fx da du dR ch dA gR iY mF mG
section
variable {w0 w:World} {L R:List ao} {K:Value→World→Prop} {v u:Value} {bs ps:List Nat}
theorem c271 {tos id:Nat} {keep:Bool} {ttl proto fr to:Nat} (y:SH w0 w L) [hb:aD L v bs] (hlen:bs.length≤100000)
  (k1:proto=1→du bs→gR (bs.getD 0 0) (bs.drop 8)→uu (bs.drop 8)→ ∀ p q kind:Nat,mF ((bs.drop 8).getD 9 0) (inBody bs) p q kind→p<65536→q<65536→kind<256→ ∀ w',SH w0 w' L→
   K (.tuple #[eX ((bs.drop 8).getD 9 0) (num (bs.drop 8) 12 4) p (num (bs.drop 8) 16 4) q 0 kind,.nilIface]) w')
  (k2: ¬mG proto bs→ ∀ b w',SH w0 w' (Ex b::L)→K (.tuple #[lm,bu b]) w'):D 271 [ba tos id keep ttl proto fr to v] w K:=by
 obtain ⟨ad,c,rfl,hcap,hB1,hl0⟩:=y.enter (v:=v)
 refine s271 rfl<|ac<|y.az (DI tos id keep ttl proto fr to (sl ad c bs)) fun b_1 _ y=>y.an fun H _ y=>ac<|y.Da (b:=b_1) rfl<|c325 y ‹_› (fun h_9 _ _ _ _ keep'_9 _ a_9 c_9 a'_9 c'_9 w_9 y=>?_) (fun h_9 b_9 w_9 y=>?_) (fun h_9 a_9 c_9 b_9 w_9 y=>?_)
 ·refine y.an fun Y w_4 y=>y.an fun J w_5 y=>y.aj (b:=Y) fun _ y=>y.aj (b:=J) fun _ y=>aq ⟨_,bg (neg:=true) rfl,ak (ac (y.Da (b:=J) rfl (c326 y ‹_› (by (exact uq ‹_›)) (by (simp<;>omega)) (fun h_18 h_181 h_182 w_18 y=>?_) (fun h_18 h_181 h_182 w_18 y=>?_) (fun h_18 h_181 h_182 w_18 y=>?_) (fun h_18 _ w_18 y=>?_))))⟩
  ·refine y.aj (b:=H) fun w_62 y=>ah<|y.Da (b:=H) rfl<|k1 ‹_› ‹_› ‹_› ‹_› _ _ _ (by (refine yR ‹_›)) ‹_› ‹_› (by omega) _ y.ae
  ·refine y.aj (b:=H) fun w_62 y=>ah<|y.Da (b:=H) rfl<|k1 ‹_› ‹_› ‹_› ‹_› _ _ _ (by (refine yS ‹_› ‹_›)) ‹_› (by omega) (by omega) _ y.ae
  ·refine y.aj (b:=H) fun w_62 y=>ah<|y.Da (b:=H) rfl<|k1 ‹_› ‹_› ‹_› ‹_› _ _ _ (by (refine yT ‹_› ‹_›)) (by omega) ‹_› (by omega) _ y.ae
  ·refine y.aj (b:=H) fun _ y=>ah<|y.Da (b:=H) rfl<|k2 (by (refine yU ‹_›)) _ _ y.ae
 ·refine y.an fun Y w_4 y=>y.an fun J w_5 y=>y.aj (b:=Y) fun _ y=>y.aj (b:=J) fun w_46 y=>aq ⟨_,bH (neg:=true) rfl,ac (⟨rfl,[C1 0,C3 0,C2 0,C3 0,C2 0,C1 0,C1 0],rfl,y.aj (b:=H) fun w_48 y=>ah (y.Da (b:=H) rfl (k2 (by (refine uw ‹_›)) _ _ y.ae))⟩)⟩
 ·refine y.an fun Y w_4 y=>y.an fun J w_5 y=>y.aj (b:=Y) fun w_46 y=>y.aj (b:=J) fun w_48 y=>aq ⟨_,bH (neg:=true) rfl,ac (⟨rfl,[C1 0,C3 0,C2 0,C3 0,C2 0,C1 0,C1 0],rfl,y.aj (b:=H) fun _ y=>ah (y.Da (b:=H) rfl (k2 (by (refine uw ‹_›)) _ _ y.ae))⟩)⟩
end
end
end Go.Proofs.YtlhpilgmeededaaGreatDoor
namespace Go.Den
open Go
def mH (f:Fr):dP→Option Value
 | .mov x=>some (ev f x)
 | .pick c a b=>match ev f c with
  | .bool true=>some (ev f a)
  | .bool false=>some (ev f b)
  | _=>none
 | _=>none
def qp (f:Fr):Option (Nat × Bool)→Option Bool
 | none=>some true
 | some (t,true)=>match f t with
  | .bool b=>some b
  | _=>some false
 | some (t,false)=>match f t with
  | .bool b=>some (!b)
  | _=>some false
def pass:Nat→List cd→Fr→List cd × Fr
 | 0,l,f=>(l,f)
 | _+1,[],f=>([],f)
 | n+1,o::r,f=>match qp f o.guard with
  | some true=>match mH f o.op with
   | some v=>pass n r (put f o.dst v)
   | none=>(o::r,f)
  | some false=>pass n r (put f o.dst undef)
  | none=>(o::r,f)
theorem ux {P:Program} {f:Fr} {w:World} {K:Value→World→Prop} {o:dP} {v:Value} (h:mH f o=some v) (k:K v w):aI P f w K o:=by
 cases o<;>simp only [mH] at h<;>try contradiction
 ·cases h;exact k
 ·rename_i c a b
  simp only [aI]
  cases q:ev f c<;>simp only [q] at h<;>try contradiction
  rename_i z
  cases z<;>cases h<;>exact k
theorem mJ {P:Program} {K:Fr→World→Prop} {w:World} : ∀ (n:Nat) (l:List cd) (f:Fr),cm P K (pass n l f).1 (pass n l f).2 w→cm P K l f w
 | 0,l,f,h=>h
 | n+1,[],f,h=>h
 | n+1,⟨d,o,g⟩::r,f,h=>by
  simp only [pass] at h
  cases g with
  | none=>
   simp only [qp] at h
   cases q:mH f o with
   | none=>rw [q] at h;exact h
   | some v=>rw [q] at h;exact ux (K:=fun v H=>cm P K r (put f d v) H) q (mJ n r _ h)
  | some tw=>
   obtain ⟨t,want⟩:=tw
   cases want<;>simp only [qp] at h<;>cases y:f t<;>simp only [y] at h<;>first | (simp only [cm,gn,y];exact mJ n r _ h) | skip
   all_goals
    rename_i z
    simp only [cm,gn,y]
    cases z<;>simp only [Bool.not_true,Bool.not_false] at h ⊢
    all_goals first
     | exact mJ n r _ h
     | (cases q:mH f o with
       | none=>rw [q] at h;simpa only [cm,gn,y] using h
       | some v=>rw [q] at h;exact ux (K:=fun v H=>cm P K r (put f d v) H) q (mJ n r _ h))
theorem pa (n:Nat) {P:Program} {K:Fr→World→Prop} {w:World} {l q:List cd} {f y:Fr} (h:pass n l f=(q,y)) (k:cm P K q y w):cm P K l f w:=mJ n l f (by rw [h];exact k)
theorem fy {P:Program} {K:Fr→World→Prop} {S:World→Prop} {f:Fr} {w:World} {d:Option Nat} {o:Oper} {r:List dI} (h:aL P o f w fun v q=>S q∧bM P K r S (put f d v) q):bM P K (⟨⟨d,.raw o,none⟩,false,false⟩::r) S f w:=h
theorem d' {P:Program} {K:Fr→World→Prop} {S:World→Prop} {f:Fr} {w:World} {d:Option Nat} {o:Oper} {r:List dI} (h:aL P o f w fun v q=>bM P K r S (put f d v) q):bM P K (⟨⟨d,.raw o,none⟩,true,false⟩::r) S f w:=h
theorem aZ {P:Program} {K:Fr→World→Prop} {f:Fr} {w:World} {d:Option Nat} {o:Oper} {r:List cd} (h:aL P o f w fun v q=>cm P K r (put f d v) q):cm P K (⟨d,.raw o,none⟩::r) f w:=h
end Go.Den
namespace Go.Den
open Go
theorem qq {x y:Nat} (q:x<18446744073709551616) (H:y<18446744073709551616):aH .xor .u64 (x:Int) (y:Int)=((x ^^^ y:Nat):Int):=by
 have h1: ∀ z:Nat,z<18446744073709551616→(BitVec.ofInt 64 (z:Int)).toNat=z:=fun z hz=>by
  rw [BitVec.ofInt_natCast,BitVec.toNat_ofNat];exact Nat.mod_eq_of_lt hz
 show IntKind.u64.wrap ((BitVec.ofInt 64 (x:Int) ^^^ BitVec.ofInt 64 (y:Int)).toNat:Int)=_
 rw [BitVec.toNat_xor,h1 x q,h1 y H]
 have:=Nat.xor_lt_two_pow (n:=64) q H
 exact IntWalk.u64_in _ (by omega)
theorem uy {x y:Nat} (q:x<18446744073709551616) (H:y<18446744073709551616):aH .and .u64 (x:Int) (y:Int)=((x &&& y:Nat):Int):=by
 have h1: ∀ z:Nat,z<18446744073709551616→(BitVec.ofInt 64 (z:Int)).toNat=z:=fun z hz=>by
  rw [BitVec.ofInt_natCast,BitVec.toNat_ofNat];exact Nat.mod_eq_of_lt hz
 show IntKind.u64.wrap ((BitVec.ofInt 64 (x:Int) &&& BitVec.ofInt 64 (y:Int)).toNat:Int)=_
 rw [BitVec.toNat_and,h1 x q,h1 y H]
 have:x &&& y≤x:=Nat.and_le_left
 exact IntWalk.u64_in _ (by omega)
def zc (n w:Nat):Nat:=(List.range n).countP fun i=>!w.testBit i
theorem uz (n w:Nat):zc (n+1) w=zc n w+if w.testBit n then 0 else 1:=by
 unfold zc
 rw [List.range_succ,List.countP_append]
 cases h:w.testBit n<;>simp [h]
theorem yV (n w j:Nat):zc n (w ^^^ 2 ^ j)+(if j<n∧w.testBit j=false then 1 else 0)=zc n w+(if j<n∧w.testBit j=true then 1 else 0):=by
 induction n with
 | zero=>simp [zc]
 | succ n ih=>
  rw [uz,uz,Nat.testBit_xor,Nat.testBit_two_pow]
  by_cases q:j=n
  ·subst q
   cases h:w.testBit j<;>simp [h] at ih ⊢ <;>omega
  ·have h1:decide (j=n)=false:=by simp [q]
   rw [h1,Bool.xor_false]
   have y:(j<n+1↔j<n):=by omega
   simp only [y]
   omega
theorem yW (n:Nat):zc n 0=n:=by simp [zc]
theorem yX {n w:Nat} (h:zc n w≠0): ∃ i,i<n∧w.testBit i=false:=by
 unfold zc at h
 have:0<(List.range n).countP fun i=>!w.testBit i:=by omega
 rw [List.countP_pos_iff] at this
 obtain ⟨i,hi,q⟩:=this
 exact ⟨i,List.mem_range.1 hi,by simpa using q⟩
def zs (ws:List Nat):Nat:=(ws.map (zc 64)).sum
theorem uA: ∀ (ws:List Nat) (i:Nat) (u:Nat),i<ws.length→zs (ws.set i u)+zc 64 (ws.getD i 0)=zs ws+zc 64 u
 | [],i,u,h=>by simp at h
 | a::r,0,u,h=>by simp [zs];omega
 | a::r,i+1,u,h=>by
  have:=uA r i u (by simpa using h)
  simp [zs] at this ⊢
  omega
theorem yY {ws:List Nat} (h:zs ws≠0): ∃ i j,i<ws.length∧j<64∧(ws.getD i 0).testBit j=false:=by
 induction ws with
 | nil=>simp [zs] at h
 | cons a r ih=>
  by_cases h1:zc 64 a=0
  ·have:zs r≠0:=by simp [zs] at h ⊢;omega
   obtain ⟨i,j,hi,q,y⟩:=ih this
   exact ⟨i+1,j,by simpa using hi,q,by simpa using y⟩
  ·obtain ⟨j,q,y⟩:=yX h1
   exact ⟨0,j,by simp,q,by simpa using y⟩
theorem yZ (n:Nat):zs (List.replicate n 0)=64*n:=by
 simp [zs,yW,List.map_replicate,List.sum_replicate_nat];omega
def dd (ws:List Nat) (k:Nat):Bool:=(ws.getD (k / 64) 0).testBit (k % 64)
def eY (ws:List Nat) (k:Nat):List Nat:=ws.set (k / 64) (ws.getD (k / 64) 0 ^^^ 2 ^ (k % 64))
theorem iZ (ws:List Nat) (k:Nat):(eY ws k).length=ws.length:=by simp [eY]
theorem qu {ws:List Nat} {k:Nat} (h:k<64*ws.length):zs (eY ws k)+(if dd ws k then 0 else 1)=zs ws+(if dd ws k then 1 else 0):=by
 have h1:=uA ws (k / 64) (ws.getD (k / 64) 0 ^^^ 2 ^ (k % 64)) (by omega)
 have q:=yV 64 (ws.getD (k / 64) 0) (k % 64)
 have y:k % 64<64:=Nat.mod_lt _ (by omega)
 unfold eY dd
 generalize ws.getD (k / 64) 0=x at*
 cases H:x.testBit (k % 64)<;>simp only [H,y] at q ⊢ <;>simp at q ⊢ <;>omega
theorem qv {ws:List Nat} (h: ∀ w∈ws,w<18446744073709551616) {k:Nat} (hk:k<64*ws.length): ∀ w∈eY ws k,w<18446744073709551616:=fun w q=>by
 rcases List.mem_or_eq_of_mem_set q with q | rfl
 ·exact h w q
 ·have hi:k / 64<ws.length:=by omega
  have y:ws.getD (k / 64) 0<2 ^ 64:=by
   rw [List.getD_eq_getElem?_getD,List.getElem?_eq_getElem hi,Option.getD_some];exact h _ (List.getElem_mem hi)
  have h1:2 ^ (k % 64)<2 ^ 64:=Nat.pow_lt_pow_right (by omega) (Nat.mod_lt _ (by omega))
  exact Nat.xor_lt_two_pow y h1
theorem y6 {ws:List Nat} {k i:Nat} (hk:k<64*ws.length):dd (eY ws k) i=(if i=k then !dd ws i else dd ws i):=by
 unfold dd eY
 by_cases h:i / 64=k / 64
 ·rw [h]
  have hi:k / 64<ws.length:=by omega
  rw [List.getD_eq_getElem?_getD,List.getElem?_set_self hi]
  simp only [Option.getD_some,Nat.testBit_xor,Nat.testBit_two_pow]
  by_cases e:i=k
  ·subst e;simp
  ·have: ¬k % 64=i % 64:=by omega
   simp [this,e]
 ·have e:i≠k:=fun e=>h (by rw [e])
  rw [if_neg e,List.getD_eq_getElem?_getD,List.getElem?_set_ne (fun e=>h e.symm),←List.getD_eq_getElem?_getD]
end Go.Den
namespace Go.Proofs.YtlhpilgmeededaaGreatDoor
open Go Go.Den
set_option maxHeartbeats 4000000
set_option maxRecDepth 8000
section
abbrev cW (least many mark left g n:Nat):List Value:=[C5 least,C5 many,C5 mark,C5 left,.slice (some ⟨g,0,none⟩) n n]
def cC (ws:List Nat):List Value:=ws.map fun (x:Nat)=>C4 (x:Int)
theorem y7 (ws:List Nat):(cC ws).length=ws.length:=by simp [cC]
theorem qw {ws:List Nat} {i j:Nat} (h:j=i) (hi:i<ws.length):(cC ws)[j]?=some (C4 (ws.getD i 0:Nat)):=by
 subst h
 simp [cC,List.getD_eq_getElem?_getD,List.getElem?_eq_getElem hi]
theorem y8 {ws:List Nat} {i j x:Nat} (h:j=i):bG (cC ws) j [C4 x]=cC (ws.set i x):=by
 subst h
 simp [bG,cC,List.map_set]
theorem mL {k:Nat} (h:k<9223372036854775808):IntKind.i64.wrap ((k:Int).tdiv 64)=((k / 64:Nat):Int):=by
 rw [Int.tdiv_eq_ediv_of_nonneg (by omega)]
 exact IntWalk.i64_in _ (by omega)
theorem ja {j:Nat} (h:j<64):2 ^ j<18446744073709551616:=by
 have:2 ^ j<2 ^ 64:=Nat.pow_lt_pow_right (by decide) h
 simpa using this
theorem uB {j:Nat} (h:j<64):IntKind.u64.wrap (1*2 ^ (min (j:Int).toNat IntKind.u64.bits))=((2 ^ j:Nat):Int):=by
 have q:IntKind.u64.bits=64:=rfl
 have h1:min (j:Int).toNat IntKind.u64.bits=j:=by rw [q];omega
 rw [h1,Int.one_mul]
 have H:=ja h
 have J:((2:Int) ^ j)=((2 ^ j:Nat):Int):=by simp
 rw [J]
 generalize 2 ^ j=y at H
 exact IntWalk.u64_in _ (by omega)
theorem mM {g k:Nat} :(⟨g,0,none⟩:Addr).add ((k:Int).toNat*1)=⟨g,k,none⟩:=by rw [add_plain];simp
theorem qx {ws:List Nat} (q: ∀ w∈ws,w<18446744073709551616) (i:Nat):ws.getD i 0<18446744073709551616:=by
 rw [List.getD_eq_getElem?_getD]
 cases h:ws[i]? with
 | none=>simp
 | some x=>exact q x (List.mem_of_getElem? h)
theorem uC {x j:Nat} (h:j<64):(x:Int).fdiv (2 ^ (min (j:Int).toNat IntKind.u64.bits))=((x / 2 ^ j:Nat):Int):=by
 have q:IntKind.u64.bits=64:=rfl
 have h1:min (j:Int).toNat IntKind.u64.bits=j:=by rw [q];omega
 have y:((2:Int) ^ j)=((2 ^ j:Nat):Int):=by simp
 rw [h1,y,Int.fdiv_eq_ediv_of_nonneg _ (Int.natCast_nonneg _)]
 rfl
theorem y9 {x:Nat} (h:x<18446744073709551616):aH .and .u64 (x:Int) 1=((x % 2:Nat):Int):=qg (m:=1) rfl h (by decide)
theorem uD (x j:Nat):x / 2 ^ j % 2=if x.testBit j then 1 else 0:=by
 rw [Nat.testBit_eq_decide_div_mod_eq]
 have:x / 2 ^ j % 2<2:=Nat.mod_lt _ (by omega)
 by_cases h:x / 2 ^ j % 2=1
 ·simp [h]
 ·have:x / 2 ^ j % 2=0:=by omega
  simp [this]
theorem y' {ws:List Nat} {k:Nat} (h:((ws.getD (k / 64) 0 / 2 ^ (k % 64) % 2:Nat):Int)≠0):dd ws k=true:=by
 rw [uD] at h
 unfold dd
 cases q:(ws.getD (k / 64) 0).testBit (k % 64) with
 | true=>rfl
 | false=>rw [q] at h;exact absurd rfl h
theorem za {ws:List Nat} {k:Nat} (h: ¬ ((ws.getD (k / 64) 0 / 2 ^ (k % 64) % 2:Nat):Int)≠0):dd ws k=false:=by
 rw [uD] at h
 unfold dd
 cases q:(ws.getD (k / 64) 0).testBit (k % 64) with
 | true=>rw [q] at h;exact absurd (by decide) h
 | false=>rfl
attribute [local irreducible] ay aQ aH
section
variable {w0 w:World} {L R R':List ao} {K:Value→World→Prop} {b g least many mark left:Nat} {ws:List Nat} {cs ds:List Value}
theorem c96 {k:Nat} (y:SH w0 w L) [p:aR L b 205 cs R] (J:cs=cW least many mark left g ws.length) [q:aR R g 29 ds R'] (Y:ds=cC ws) (hk:k<64*ws.length) (hw:(∀ w∈ws,w<18446744073709551616)∧ws.length≤1024)
  (kk: ∀ w',SH w0 w' (Cl b 205 (cW least many mark left g ws.length)::Cl g 29 (cC (eY ws k))::R')→K (.tuple #[]) w'):D 96 [pt b,C5 k] w K:=by
 subst J Y
 have y:SH w0 w (Cl b 205 (cW least many mark left g ws.length)::Cl g 29 (cC ws)::R'):=y.perm (p.perm.trans (q.perm.cons _))
 have H:k % 64<64:=Nat.mod_lt _ (by omega)
 have hlt:=qx hw.1 (k / 64)
 refine s96 rfl<|cv<|have y:=y.drew;y.C9 (b:=b) rfl ⟨by decide,_,mL (by omega),⟨⟨by omega,by omega⟩,_,mM,⟨_,y.ld (b:=g) (qw rfl (by omega)),⟨by decide,_,Int.tmod_eq_emod_of_nonneg (by omega),⟨by omega,_,uB (j:=k % 64) H,⟨_,qq hlt (ja H),⟨⟨by omega,by omega⟩,_,mM,y.cp (b:=g) [C4 ((ws.getD (k / 64) 0 ^^^ 2 ^ (k % 64):Nat):Int)] (fun w_1 y=>?_) (hl:=Nat.ble_eq_true_of_le (by rw [y7,List.length_singleton];omega))⟩⟩⟩⟩⟩⟩⟩
 rw [y8 rfl] at y
 have y:SH w0 w_1 (Cl g 29 (cC (eY ws k))::Cl b 205 (cW least many mark left g ws.length)::R'):=y
 exact kk _ y.ae
theorem c235 {k:Nat} (hL:SH w0 w L) [p:aR L b 205 cs R] (H:cs=cW least many mark left g ws.length) [q:aR R g 29 ds R'] (J:ds=cC ws) (hk:k<64*ws.length) (hw:(∀ w∈ws,w<18446744073709551616)∧ws.length≤1024)
  (k1:dd ws k=true→K (.bool true) w) (k2:dd ws k=false→K (.bool false) w):D 235 [pt b,C5 k] w K:=by
 subst H J
 have hL':SH w0 w (Cl b 205 (cW least many mark left g ws.length)::Cl g 29 (cC ws)::R'):=hL.perm (p.perm.trans (q.perm.cons _))
 have Y:k % 64<64:=Nat.mod_lt _ (by omega)
 refine s235 rfl<|ac<|ac ⟨_,hL'.ld (b:=b) rfl,⟨by decide,_,mL (by omega),⟨⟨by omega,by omega⟩,_,mM,⟨_,hL'.ld (b:=g) (qw rfl (by omega)),⟨by decide,_,Int.tmod_eq_emod_of_nonneg (by omega),⟨by omega,_,uC (j:=k % 64) Y,⟨_,y9 (Nat.lt_of_le_of_lt (Nat.div_le_self _ _) (qx hw.1 _)),ap (fun y=>?_) (fun y=>?_)⟩⟩⟩⟩⟩⟩⟩
 ·exact ah<|k1 (y' y)
 ·exact ah<|k2 (za y)
theorem c234 {x:Int} (hx: -4294967296≤x∧x≤4294967296) (q:SH w0 w L) [p:aR L b 205 cs R] (Y:cs=cW least many mark left g ws.length) (h:least≤65535∧many≤65535) (k1:(∃ n:Nat,x=least+n∧n<many)→ ∀ y,SH w0 y L→K (.bool true) y) (k2: ∀ y,SH w0 y L→K (.bool false) y):D 234 [pt b,C5 x] w K:=by
 subst Y
 refine s234 rfl<|ac<|aJ<|have q:=q.drew;q.C9 (b:=b) rfl<|ap (fun H=>?_) (fun H=>?_)
 ·refine q.C9 (b:=b) rfl<|Db<|q.C9 (b:=b) rfl<|ap (fun J=>?_) (fun J=>?_)
  ·refine ah<|k1 (by exact ⟨(x - least).toNat,by omega,by omega⟩) _ q.ae
  ·refine ah<|k2 _ q.ae
 ·refine ah<|k2 _ q.ae
structure dB where
 least:Nat
 many:Nat
 mark:Nat
 left:Nat
 g:Nat
 ws:List Nat
def gS (s:dB):Prop:=1≤s.least∧s.least≤65535∧1≤s.many∧s.many≤65535∧s.many≤64*s.ws.length∧s.ws.length≤1024∧(∀ w∈s.ws,w<18446744073709551616)∧s.left=zs s.ws∧s.mark<s.many
def ck (b:Nat) (s:dB):ao:=bi [Cl b 205 (cW s.least s.many s.mark s.left s.g s.ws.length),Cl s.g 29 (cC s.ws),Fact (gS s)]
theorem SH.ou (q:SH w0 w L) (b:Nat) {s:dB} [p:aC (ck b) L s R]:gS s∧SH w0 w (Cl b 205 (cW s.least s.many s.mark s.left s.g s.ws.length)::Cl s.g 29 (cC s.ws)::R):=by
 have h:SH w0 w (Cl b 205 (cW s.least s.many s.mark s.left s.g s.ws.length)::Cl s.g 29 (cC s.ws)::Fact (gS s)::R):=(q.at (ck b)).io
 exact ⟨(h.ae:SH w0 w [Fact (gS s)]).known,h.ae⟩
theorem SH.ky {s:dB} (q:SH w0 w (Cl b 205 (cW s.least s.many s.mark s.left s.g s.ws.length)::Cl s.g 29 (cC s.ws)::R)) (h:gS s):SH w0 w (ck b s::R):=by
 have h1:=q.fact h
 have y:SH w0 w (Cl b 205 (cW s.least s.many s.mark s.left s.g s.ws.length)::Cl s.g 29 (cC s.ws)::Fact (gS s)::R):=h1.ae
 exact SH.star (l:=[Cl b 205 (cW s.least s.many s.mark s.left s.g s.ws.length),Cl s.g 29 (cC s.ws),Fact (gS s)]) y
theorem qy (ws:List Nat):zs ws≤64*ws.length:=by
 induction ws with
 | nil=>simp [zs]
 | cons a r ih=>
  have h1:zc 64 a≤64:=by
   unfold zc
   have:=List.countP_le_length (p:=fun i=>!a.testBit i) (l:=List.range 64)
   simpa using this
  simp [zs] at ih ⊢
  omega
end
end
end Go.Proofs.YtlhpilgmeededaaGreatDoor
namespace Go.Den
open Go
theorem zb: ∀ (x:Nat),x≠0→ ∃ k m,x=2 ^ k*(2*m+1):=fun x=>by
 induction x using Nat.strongRecOn with
 | _ x ih=>
  intro h
  by_cases h2:x % 2=1
  ·exact ⟨0,x / 2,by rw [Nat.pow_zero];omega⟩
  ·obtain ⟨k,m,e⟩:=ih (x / 2) (by omega) (by omega)
   exact ⟨k+1,m,by rw [Nat.pow_succ,Nat.mul_comm (2 ^ k) 2,Nat.mul_assoc,←e];omega⟩
theorem zd {p m:Nat} (h:m<2 ^ p):m &&& (2 ^ p - (m+1))=0:=by
 apply Nat.eq_of_testBit_eq
 intro i
 rw [Nat.testBit_and,Nat.testBit_two_pow_sub_succ h]
 cases m.testBit i<;>simp
theorem ze (m n:Nat):(2*m+1) &&& (2*n+1)=2*(m &&& n)+1:=by
 apply Nat.eq_of_testBit_eq
 intro i
 cases i with
 | zero=>simp
 | succ i=>
  rw [Nat.testBit_and,Nat.testBit_succ,Nat.testBit_succ,Nat.testBit_succ,show (2*m+1) / 2=m by omega,show (2*n+1) / 2=n by omega,show (2*(m &&& n)+1) / 2=m &&& n by omega,Nat.testBit_and]
theorem zf (k a b:Nat):(2 ^ k*a) &&& (2 ^ k*b)=2 ^ k*(a &&& b):=by
 have: ∀ c,2 ^ k*c=c <<< k:=fun c=>by rw [Nat.shiftLeft_eq,Nat.mul_comm]
 rw [this,this,this,Nat.shiftLeft_and_distrib]
theorem zg {x:Nat} (J:x≠0) (Y:x<18446744073709551616): ∃ k,k<64∧x &&& (18446744073709551616 - x)=2 ^ k∧x.testBit k=true∧ ∀ j,j<k→x.testBit j=false:=by
 obtain ⟨k,m,e⟩:=zb x J
 have q:k<64:=by
  apply Classical.byContradiction
  intro q
  have h1:2 ^ 64≤2 ^ k:=Nat.pow_le_pow_right (by decide) (by omega)
  have y:2 ^ k*1≤2 ^ k*(2*m+1):=Nat.mul_le_mul_left _ (by omega)
  omega
 have H:18446744073709551616=2 ^ k*(2*2 ^ (63 - k)):=by
  rw [←Nat.pow_succ',←Nat.pow_add,show k+(63 - k+1)=64 by omega]
 have hm:m<2 ^ (63 - k):=by
  have y:2 ^ k*(2*m+1)<2 ^ k*(2*2 ^ (63 - k)):=by rw [←e,←H];exact Y
  have:=Nat.lt_of_mul_lt_mul_left y
  omega
 refine ⟨k,q,?_,?_,fun j _=>?_⟩
 ·have hs:18446744073709551616 - x=2 ^ k*(2*(2 ^ (63 - k) - (m+1))+1):=by
   rw [e,H,←Nat.mul_sub]
   congr 1
   omega
  rw [hs,e,zf,ze,zd hm]
  simp
 ·rw [e,Nat.testBit_two_pow_mul]
  simp
 ·rw [e,Nat.testBit_two_pow_mul]
  simp
  omega
def aW:List Nat:=[0,1,56,2,57,49,28,3,61,58,42,50,38,29,17,4,62,47,59,36,45,43,51,22,53,39,33,30,24,18,12,5,63,55,48,27,60,41,37,16,46,35,44,21,52,32,23,11,54,26,40,15,34,20,31,10,25,14,19,9,13,8,7,6]
def uE (k:Nat):Nat:=2 ^ k*285870213051353865 % 18446744073709551616 / 288230376151711744
theorem zh: ∀ k,k<64→uE k<64∧aW.getD (uE k) 0=k:=by decide
end Go.Den
namespace Go.Proofs.YtlhpilgmeededaaGreatDoor
open Go Go.Den
set_option maxHeartbeats 4000000
set_option maxRecDepth 8000
section
def Tz:ao where
 ex:=fun _=>False
 sh:=fun b=>b=5
 holds:=fun w=> ∃ (cs:Array Value) (t:TypeId),w.heap[5]?=some (.cells cs t (0,0))∧ ∀ i,i<64→cs[i]?=some (C1 (aW.getD i 0:Nat))
 loc:=fun w _ h y=>by
  obtain ⟨cs,t,H,J⟩:=y
  refine ⟨cs,t,?_,J⟩
  rw [h 5 (.inr rfl)]
  exact H
 dom:=fun w y x q=>by
  obtain ⟨cs,t,H,_⟩:=y
  rcases q with q | q
  ·exact q.elim
  ·rw [show x=5 from q];exact eT H
class cL (L:List ao):Prop where
 get: ∀ {w0 w:World},SH w0 w L→Tz.holds w
instance tzHead (L:List ao):cL (Tz::L):=⟨fun h=>h.holds Tz (.head _)⟩
instance (priority:=low) tzTail (A:ao) (L:List ao) [h:cL L]:cL (A::L):=⟨fun k=>h.get k.tail⟩
theorem zi {P:Program} {o:Oper} {f:Fr} {w:World} {t:TypeId} {x:Operand} (q:o.op= .unOp .neg t x) {k:IntKind} {n:Int} (y:ev f x= .int k n):
  (execOp (ev f) o).run P w= .ok (.value (.int k (k.wrap (-n)))) w:=by
 unfold execOp
 simp [q,y,Op.unary,Op.intArith]
theorem zj {w:World} {f:Fr} {o:Oper} {x i:Operand} {a:Addr} {k:IntKind} {j:Int} (q:o.op= .indexAddr 527 x i:=by rfl) (y:ev f x= .pointer (some a):=by rfl) (hi:ev f i= .int k j:=by rfl) (H:0≤j∧j<64:=by exact ⟨by omega,by omega⟩):
  (execOp (ev f) o).run Tryz.prog w= .ok (.value (.pointer (some (a.add (j.toNat*1))))) w:=jD (len:=64) (elem:=5) q Tryz.underlying527 iT y hi H
theorem zk {x:Nat} (h:x≠0) (hx:x<18446744073709551616):IntKind.u64.wrap (-(x:Int))=((18446744073709551616 - x:Nat):Int):=by
 have:IntKind.u64.wrap (-(x:Int))=(-(x:Int)) % 18446744073709551616:=rfl
 rw [this]
 omega
theorem zl (x:Nat):IntKind.u64.wrap ((x:Int)*285870213051353865)=((x*285870213051353865 % 18446744073709551616:Nat):Int):=by
 have:IntKind.u64.wrap ((x:Int)*285870213051353865)=((x:Int)*285870213051353865) % 18446744073709551616:=rfl
 rw [this]
 omega
theorem zm (x:Nat):(x:Int).fdiv (2 ^ (min (58:Int).toNat IntKind.u64.bits))=((x / 288230376151711744:Nat):Int):=by
 have h1:(2:Int) ^ (min (58:Int).toNat IntKind.u64.bits)=288230376151711744:=by decide
 rw [h1,Int.fdiv_eq_ediv_of_nonneg _ (by omega)]
 omega
theorem zo {w:World} {cs:Array Value} {t:TypeId} (q:w.heap[5]?=some (.cells cs t (0,0))) (y: ∀ i,i<64→cs[i]?=some (C1 (aW.getD i 0:Nat))) {i:Nat} (hi:i<64):w.cell? ((⟨5,0,none⟩:Addr).add ((i:Int).toNat*1))=some (C1 (aW.getD i 0:Nat)):=by
 rw [mM]
 have h:=y i hi
 simp only [World.cell?,q]
 exact h
attribute [local irreducible] ay aQ aH aW
section
variable {w0 w:World} {L R R':List ao} {K:Value→World→Prop} {b g least many mark left:Nat} {ws:List Nat} {cs ds:List Value}
theorem c293 {x:Nat} (H:SH w0 w L) [J:cL L] (q:x≠0∧x<18446744073709551616) (k: ∀ z:Nat,z<64→x.testBit z=true→(∀ j,j<z→x.testBit j=false)→K (C5 z) w):D 293 [C4 x] w K:=by
 obtain ⟨z,hz,h1,Y,h3⟩:=zg q.1 q.2
 obtain ⟨y,h5⟩:=zh z hz
 obtain ⟨tcs,tt,hb,hc⟩:=J.get H
 refine s293 rfl<|ac<|aq<|Df<|ak<|ac ⟨_,zi rfl rfl,?_⟩
 rw [zk q.1 q.2]
 refine ⟨_,uy q.2 (by omega),?_⟩
 rw [h1]
 refine ⟨_,zl _,⟨by decide,_,zm _,⟨_,zj rfl rfl rfl ⟨by omega,by exact_mod_cast y⟩,⟨_,zo hb hc y,?_⟩⟩⟩⟩
 rw [show aW.getD (2 ^ z*285870213051353865 % 18446744073709551616 / 288230376151711744) 0=z from h5]
 exact Db<|ah<|k z hz Y h3
theorem c385 {k:Nat} (y:SH w0 w L) [p:aR L b 205 cs R] (H:cs=cW least many mark left g ws.length) [q:aR R g 29 ds R'] (J:ds=cC ws) (hk:k<64*ws.length) (hw:(∀ w∈ws,w<18446744073709551616)∧ws.length≤1024) (hl:1≤left∧left≤65536∧least≤65535)
  (kk: ∀ Y,SH w0 Y (Cl b 205 (cW least many mark (left - 1) g ws.length)::Cl g 29 (cC (eY ws k))::R')→K (C5 (k+least:Nat)) Y):D 385 [pt b,C5 k] w K:=by
 have y:SH w0 w (Cl b 205 (cW least many mark left g ws.length)::Cl g 29 (cC ws)::R'):=by subst H J;exact y.perm (p.perm.trans (q.perm.cons _))
 refine s385 rfl<|ac<|ac<|c96 y rfl rfl ‹_› ‹_› (fun _ y=>ac (y.C9 (b:=b) rfl (Db (y.aN (b:=b) [C5 (↑left - 1)] [C5 least,C5 many,C5 mark,C5 (↑left - 1),sl (some ⟨g,0,none⟩) ws.length ws] fun _ y=>ac (y.C9 (b:=b) rfl (Db (ah ?_)))))))
 have e1:(left:Int) - 1=((left - 1:Nat):Int):=by omega
 have e2:(k:Int)+least=((k+least:Nat):Int):=by omega
 rw [e1] at y
 rw [e2]
 exact kk _ y.ae
theorem zp {j:Nat} (h:j<64):IntKind.u64.wrap (18446744073709551615*2 ^ (min (j:Int).toNat IntKind.u64.bits))=((18446744073709551616 - 2 ^ j:Nat):Int):=by
 have q:IntKind.u64.bits=64:=rfl
 have h1:min (j:Int).toNat IntKind.u64.bits=j:=by rw [q];omega
 have H:((2:Int) ^ j)=((2 ^ j:Nat):Int):=by simp
 have J:=ja h
 have Y:0<2 ^ j:=Nat.pow_pos (by omega)
 rw [h1,H]
 generalize 2 ^ j=y at J Y
 have:IntKind.u64.wrap (18446744073709551615*(y:Int))=(18446744073709551615*(y:Int)) % 18446744073709551616:=rfl
 rw [this]
 omega
theorem and_ones {x j:Nat} (hj:j<64) (i:Nat) (h:(x &&& (18446744073709551616 - 2 ^ j)).testBit i=true):x.testBit i=true∧j≤i:=by
 rw [Nat.testBit_and,Bool.and_eq_true] at h
 refine ⟨h.1,?_⟩
 have q:18446744073709551616 - 2 ^ j=2 ^ j*(2 ^ (64 - j) - 1):=by
  rw [Nat.mul_sub,←Nat.pow_add,show j+(64 - j)=64 by omega,Nat.mul_one]
 rw [q,Nat.testBit_two_pow_mul] at h
 simp at h
 exact h.2.1
theorem ones_and {x j i:Nat} (hj:j<64) (hi:i<64) (h:x.testBit i=true) (hji:j≤i):(x &&& (18446744073709551616 - 2 ^ j)).testBit i=true:=by
 have q:18446744073709551616 - 2 ^ j=2 ^ j*(2 ^ (64 - j) - 1):=by
  rw [Nat.mul_sub,←Nat.pow_add,show j+(64 - j)=64 by omega,Nat.mul_one]
 rw [Nat.testBit_and,h,q,Nat.testBit_two_pow_mul,Nat.testBit_two_pow_sub_one]
 simp
 omega
theorem zq {x:Nat} (q:x<18446744073709551616):aH .xor .u64 (if IntKind.u64.signed then -1 else IntKind.u64.max) (x:Int)=((18446744073709551615 - x:Nat):Int):=by
 have y:(if IntKind.u64.signed then -1 else IntKind.u64.max)=((18446744073709551615:Nat):Int):=by decide
 rw [y,qq (by omega) q]
 congr 1
 apply Nat.eq_of_testBit_eq
 intro i
 have h1:(18446744073709551615:Nat)=2 ^ 64 - 1:=by decide
 have H:(18446744073709551615:Nat) - x=2 ^ 64 - (x+1):=by omega
 rw [Nat.testBit_xor,H,Nat.testBit_two_pow_sub_succ (by simpa using q),h1,Nat.testBit_two_pow_sub_one]
 by_cases hi:i<64
 ·simp [hi]
 ·have:x.testBit i=false:=Nat.testBit_lt_two_pow (Nat.lt_of_lt_of_le q (by have:=Nat.pow_le_pow_right (n:=2) (by decide) (show 64≤i by omega);simpa using this))
  simp [hi,this]
theorem qz {x i:Nat} (q:x<18446744073709551616) (hi:i<64):(18446744073709551615 - x).testBit i=!x.testBit i:=by
 have y:(18446744073709551615:Nat) - x=2 ^ 64 - (x+1):=by omega
 rw [y,Nat.testBit_two_pow_sub_succ (by simpa using q)]
 simp [hi]
end
end
section
attribute [local irreducible] ay aQ aH aW
section
variable {w0 w:World} {L R R':List ao} {K:Value→World→Prop} {b g least many mark left:Nat} {ws:List Nat} {cs ds:List Value}
theorem c386 {fr:Nat} (hL:SH w0 w L) [ht:cL L] [p:aR L b 205 cs R] (hcs:cs=cW least many mark left g ws.length) [q:aR R g 29 ds R'] (hds:ds=cC ws) (hw:(∀ w∈ws,w<18446744073709551616)∧ws.length≤1024) (hf:fr<65536)
  (k1: ∀ k:Nat,k<64*ws.length→dd ws k=false→K (C5 k) w) (k2:(∀ k,fr≤k→k<64*ws.length→dd ws k=true)→K (C5 (-1)) w):D 386 [pt b,C5 fr] w K:=by
 subst hcs hds
 have hL':SH w0 w (Cl b 205 (cW least many mark left g ws.length)::Cl g 29 (cC ws)::R'):=hL.perm (p.perm.trans (q.perm.cons _))
 refine s386 rfl<|ac<|av<|ac ⟨by decide,_,mL (by omega),aM ?_⟩
 refine bU ([4,5,6]++List.range' 9 33) rfl [0,1,5] (fun (i:Nat)=>[pt b,C5 fr,C5 i]) (fun i w'=>(fr / 64≤i∧ ∀ k,fr≤k→k / 64<i→k<64*ws.length→dd ws k=true)∧w=w') (fun i=>ws.length - i) (fr / 64) rfl ⟨⟨Nat.le_refl _,fun k h1 h2=>by omega⟩,rfl⟩ ?_
 rintro g1 i _ ⟨⟨hi1,hi2⟩,rfl⟩
 refine aE [0,1,5] [pt b,C5 fr,C5 i] rfl fun gg=>av (ac (⟨_,hL'.ld (b:=b) rfl,ap (fun h_1=>?_) (fun h_1=>?_)⟩))
 rotate_left
 ·exact ai<|aS<|ac<|ah<|k2 fun k h1 h2=>hi2 k h1 (by omega) h2
 have hg:=qx hw.1 i
 refine ai<|ak<|aG<|ac ⟨_,hL'.ld (b:=b) rfl,⟨⟨by omega,by omega⟩,_,mM,⟨_,hL'.ld (b:=g) (qw rfl (by omega)),⟨_,p3 rfl rfl,?_⟩⟩⟩⟩
 rw [zq hg]
 generalize hx:ws.getD i 0=x at*
 obtain ⟨y,hy1,Y,J⟩: ∃ y,18446744073709551615 - x=y∧y<18446744073709551616∧ ∀ j,j<64→y.testBit j=!x.testBit j:=⟨_,rfl,by omega,fun j hj=>qz hg hj⟩
 rw [hy1]
 clear hy1
 refine bt ([6]++List.range' 26 9) rfl [0,1,5,6] (fun (z:Nat)=>[pt b,C5 fr,C5 i,C4 z]) (fun z w'=>(z<18446744073709551616∧(∀ j,j<64→z.testBit j=true→x.testBit j=false)∧(∀ j,j<64→fr≤64*i+j→x.testBit j=false→z.testBit j=true))∧w=w') ?_ ?_
 ·refine ac ⟨by decide,_,mL (by omega),ap (fun h_2=>?_) (fun h_2=>?_)⟩
  ·refine ai ?_
   have hj:fr % 64<64:=Nat.mod_lt _ (by omega)
   refine au ⟨by decide,_,Int.tmod_eq_emod_of_nonneg (by omega),⟨by omega,_,zp (j:=fr % 64) hj,⟨_,uy Y (by have:=Nat.pow_pos (n:=fr % 64) (show 0<2 by omega);omega),⟨_,rfl,⟨?_,fun j H h=>?_,fun j H h h3=>?_⟩,rfl⟩⟩⟩⟩
   ·exact Nat.lt_of_le_of_lt Nat.and_le_left Y
   ·have h4:=(and_ones hj _ h).1
    rw [J j H] at h4
    simpa using h4
   ·exact ones_and hj H (by rw [J j H,h3];rfl) (by omega)
  ·refine ai<|ak ⟨y,rfl,⟨Y,fun j H h=>?_,fun j H h h3=>?_⟩,rfl⟩
   ·rw [J j H] at h
    simpa using h
   ·rw [J j H,h3];rfl
 rintro gg z _ ⟨⟨hz1,hz2,hz3⟩,rfl⟩
 refine aE [0,1,5,6] [pt b,C5 fr,C5 i,C4 z] rfl fun gg=>ac<|ap (fun h_3=>?_) (fun h_3=>?_)
 ·refine ai<|ac<|Db<|c293 hL ⟨by omega,hz1⟩ fun q hq h4 _=>?_
  have e1:(i:Int)*64+q=((64*i+q:Nat):Int):=by omega
  refine Db<|ah ?_
  rw [e1]
  refine k1 _ (by omega) ?_
  unfold dd
  rw [show (64*i+q) / 64=i by omega,show (64*i+q) % 64=q by omega,hx]
  exact hz2 q hq h4
 ·refine ai<|ak<|au<|Db ⟨i+1,rfl,⟨⟨by omega,fun k h1 h2 h3=>?_⟩,rfl⟩,by omega⟩
  by_cases hk:k / 64<i
  ·exact hi2 k h1 hk h3
  ·have hk2:k / 64=i:=by omega
   unfold dd
   rw [hk2,hx]
   have hz0:z=0:=by omega
   cases hb:x.testBit (k % 64) with
   | true=>rfl
   | false=>
    have:=hz3 (k % 64) (Nat.mod_lt _ (by omega)) (by omega) hb
    rw [hz0] at this
    simp at this
end
end
section
attribute [local irreducible] ay aQ aH aW
section
variable {w0 w:World} {L R R':List ao} {K:Value→World→Prop} {b g least many mark left:Nat} {ws:List Nat} {cs ds:List Value}
theorem lays {s:dB} (h:gS s) {mark k:Nat} (h0:s.left≠0) (q:k<64*s.ws.length) (y:dd s.ws k=false) (H:mark<s.many):gS ⟨s.least,s.many,mark,s.left - 1,s.g,eY s.ws k⟩:=by
 obtain ⟨h1,J,Y,h4,h5,h6,h7,h8,h9⟩:=h
 have hz:=qu q
 rw [y] at hz
 simp at hz
 exact ⟨h1,J,Y,h4,by simpa [iZ] using h5,by simpa [iZ] using h6,qv h7 q,by simp only [];omega,H⟩
theorem gives {s:dB} (h:gS s) {k:Nat} (q:k<64*s.ws.length) (y:dd s.ws k=true):gS ⟨s.least,s.many,s.mark,s.left+1,s.g,eY s.ws k⟩:=by
 obtain ⟨h1,H,J,Y,h5,h6,h7,h8,h9⟩:=h
 have hz:=qu q
 rw [y] at hz
 simp at hz
 exact ⟨h1,H,J,Y,by simpa [iZ] using h5,by simpa [iZ] using h6,qv h7 q,by simp only [];omega,h9⟩
theorem c178 {s:dB} {x:Nat} (hx:x<65536) (q:SH w0 w L) [p:aC (ck b) L s R] (kk: ∀ s' (e:Int) Y,SH w0 Y (ck b s'::R)→K (C5 e) Y):D 178 [pt b,C5 x] w K:=by
 obtain ⟨y,q⟩:=SH.ou q b
 have ⟨h1,h2,h3,h4,h5,h6,h7,h8,h9⟩:=y
 refine s178 rfl<|ac<|aG<|ac<|c234 (by omega) q rfl (by omega) (fun H J q=>?_) (fun J q=>?_)
 ·refine Dj<|ai<|ac<|q.C9 (b:=b) rfl ?_
  obtain ⟨n,hn1,hn2⟩:=H
  refine ⟨((n:Nat):Int),(IntWalk.i64_in _ (by omega)).trans (by omega),c235 q rfl rfl (by omega) ⟨h7,h6⟩ (fun hb=>?_) (fun hb=>?_)⟩
  ·exact Dj<|ai<|ak<|ac<|q.C9 (b:=b) rfl ⟨((n:Nat):Int),(IntWalk.i64_in _ (by omega)).trans (by omega),c96 q rfl rfl (by omega) ⟨h7,h6⟩ fun _ q=>ac (q.C9 (b:=b) rfl (⟨((s.left+1:Nat):Int),(IntWalk.i64_in _ (by have:=qy s.ws;omega)).trans (by omega),q.aN (b:=b) [C5 ((s.left+1:Nat):Int)] (cW s.least s.many s.mark (s.left+1) s.g s.ws.length) fun _ q=>ac (ah (kk ⟨s.least,s.many,s.mark,s.left+1,s.g,eY s.ws n⟩ _ _ (SH.ky (by rw [iZ];exact q) (gives y (by omega) hb))))⟩))⟩
  ·exact Dj<|ai<|ac<|ah<|kk _ _ _ (SH.ky q y)
 ·exact Dj<|ai<|ac<|ah<|kk _ _ _ (SH.ky q y)
theorem c367 {s:dB} {x:Nat} (hx:x<65536) (q:SH w0 w L) [p:aC (ck b) L s R] [ht:cL R]
  (k1: ∀ s' (z:Nat),z<140000→ ∀ y,SH w0 y (ck b s'::R)→K (.tuple #[C5 z,C5 0]) y)
  (k2: ∀ (e:Int),e≠0→ ∀ y,SH w0 y (ck b s::R)→K (.tuple #[C5 0,C5 e]) y):D 367 [pt b,C5 x] w K:=by
 obtain ⟨hs,q⟩:=SH.ou q b
 have ⟨h1,H,h3,h4,h5,J,Y,h8,h9⟩:=hs
 refine s367 rfl<|ac ?_
 refine bt ([4,5]++List.range' 7 29) rfl [0,1,4,5] (fun (_:Unit)=>[pt b,C5 x,C5 0,C5 0]) (fun _ y=>s.left≠0∧SH w0 y (Cl b 205 (cW s.least s.many s.mark s.left s.g s.ws.length)::Cl s.g 29 (cC s.ws)::R)) ?_ ?_
 ·refine aM<|ac<|q.C9 (b:=b) rfl<|ap (fun h_12=>?_) (fun h_12=>?_)
  ·exact ai<|ac<|ah<|k2 _ (by decide) _ (SH.ky q hs)
  ·refine ai<|ac<|c234 (by omega) q rfl (by omega) (fun h_16 w_16 q=>?_) (fun w_16 q=>?_)
   ·refine Dt [0,1,4,5,16,17] [pt b,C5 x,C5 0,C5 0,.bool true,undef] fun g=>q.C9 (b:=b) rfl ?_
    obtain ⟨n,hn1,hn2⟩:=h_16
    refine ⟨((n:Nat):Int),(IntWalk.i64_in _ (by omega)).trans (by omega),c235 q rfl rfl (by omega) ⟨Y,J⟩ (fun hb=>?_) (fun hb=>?_)⟩
    ·exact Dt [0,1,4,5,17,25] [pt b,C5 x,C5 0,C5 0,.bool true,.bool true] fun g=>Dj<|pa 2 rfl<|ai<|ak ⟨(),rfl,by omega,q⟩
    ·exact Dj<|ai<|ac<|q.C9 (b:=b) rfl ⟨((n:Nat):Int),(IntWalk.i64_in _ (by omega)).trans (by omega),c385 q rfl rfl (by omega) ⟨Y,J⟩ ⟨by omega,by have:=qy s.ws;omega,H⟩ fun w_99 q=>ah (k1 ⟨s.least,s.many,s.mark,s.left - 1,s.g,eY s.ws n⟩ _ (by omega) _ (SH.ky (by rw [iZ];exact q) (lays hs (by omega) (by omega) hb h9)))⟩
   ·exact pa 12 rfl<|ai<|ak ⟨(),rfl,by omega,q⟩
 rintro g _ w_7 ⟨h0,q⟩
 refine bt ([6]++List.range' 36 10) rfl [0,4,5,6] (fun (k:Int)=>[pt b,C5 0,C5 0,C5 k]) (fun k y=>((∃ n:Nat,k=n∧n<64*s.ws.length∧dd s.ws n=false)∨k= -1)∧SH w0 y (Cl b 205 (cW s.least s.many s.mark s.left s.g s.ws.length)::Cl s.g 29 (cC s.ws)::R)) ?_ ?_
 ·refine au<|q.C9 (b:=b) rfl<|c386 q rfl rfl ⟨Y,J⟩ (by omega) (fun k h1 H=>?_) (fun _=>?_)
  ·exact ⟨_,rfl,.inl ⟨k,rfl,h1,H⟩,q⟩
  ·exact ⟨_,rfl,.inr rfl,q⟩
 rintro g k w_8 ⟨hk,q⟩
 refine bt ([6]++List.range' 36 10) rfl [0,4,5,6] (fun (k:Nat)=>[pt b,C5 0,C5 0,C5 k]) (fun k y=>(k<64*s.ws.length∧dd s.ws k=false)∧SH w0 y (Cl b 205 (cW s.least s.many s.mark s.left s.g s.ws.length)::Cl s.g 29 (cC s.ws)::R)) ?_ ?_
 ·rcases hk with ⟨k,rfl,hk⟩ | rfl
  ·exact ac<|Df<|ai<|ak ⟨k,rfl,hk,q⟩
  ·refine ac<|Di<|ai<|au<|c386 (fr:=0) q rfl rfl ⟨Y,J⟩ (by decide) (fun k h1 H=>?_) (fun hx=>?_)
   ·exact ⟨k,rfl,⟨h1,H⟩,q⟩
   ·obtain ⟨i,j,hi,hj,hb⟩:=yY (ws:=s.ws) (by omega)
    have:=hx (64*i+j) (Nat.zero_le _) (by omega)
    unfold dd at this
    rw [show (64*i+j) / 64=i by omega,show (64*i+j) % 64=j by omega,hb] at this
    cases this
 rintro g k w_9 ⟨⟨hk1,hk2⟩,q⟩
 exact ac<|Db<|q.C9 (b:=b) rfl ⟨by omega,(((k+1) % s.many:Nat):Int),Int.tmod_eq_emod_of_nonneg (by omega),q.aN (b:=b) [C5 (((k+1) % s.many:Nat):Int)] (cW s.least s.many ((k+1) % s.many) s.left s.g s.ws.length) fun _ q=>ac (c385 q rfl rfl hk1 ⟨Y,J⟩ ⟨by omega,by have:=qy s.ws;omega,H⟩ fun w_99 q=>ah (k1 ⟨s.least,s.many,(k+1) % s.many,s.left - 1,s.g,eY s.ws k⟩ _ (by omega) _ (SH.ky (by rw [iZ];exact q) (lays hs h0 hk1 hk2 (Nat.mod_lt _ (by omega))))))⟩
end
end
section
attribute [local irreducible] ay aQ aH aW
theorem zr (n:Nat):rows n [C4 0]=cC (List.replicate n 0):=by
 simp [rows,cC]
theorem zt (n i:Nat):dd (List.replicate n 0) i=false:=by
 unfold dd
 rw [List.getD_eq_getElem?_getD,List.getElem?_replicate]
 split<;>simp
abbrev mN (least most:Int):Prop:=1≤least∧most≤65535∧least≤most
section
variable {w0 w:World} {L R R':List ao} {K:Value→World→Prop}
theorem c53 {least most:Int} (q:SH w0 w L) (k1:mN least most→ ∀ b s J,SH w0 J (ck b s::L)→K (.tuple #[pt b,C5 0]) J)
  (k2: ¬mN least most→ ∀ J,SH w0 J L→K (.tuple #[.pointer none,C5 11]) J):D 53 [C5 least,C5 most] w K:=by
 by_cases hp:mN least most
 ·obtain ⟨l,rfl⟩: ∃ l:Nat,least=l:=⟨least.toNat,by omega⟩
  obtain ⟨n,rfl⟩: ∃ n:Nat,most=((l+n:Nat):Int):=⟨(most - l).toNat,by omega⟩
  refine s53 rfl<|ac<|aq<|Df<|Df<|Df<|ak<|ac<|Db ⟨((n+1:Nat):Int),(IntWalk.i64_in _ (by omega)).trans (by omega),pa 1 rfl (ac (Db (⟨((n+64:Nat):Int),(IntWalk.i64_in _ (by omega)).trans (by omega),⟨by decide,_,mL (by omega),⟨(n+64) / 64,(n+64) / 64,⟨rfl,rfl,Nat.le_refl _,by omega,by omega⟩,q.an fun y _ q=>?_⟩⟩⟩)))⟩
  rw [zr] at q
  refine ⟨rfl,cW l (n+1) 0 (n+1) y ((n+64) / 64),rfl,q.az (cW l (n+1) 0 (n+1) y ((n+64) / 64)) fun H _ q=>av (ac (aM ?_))⟩
  refine bU ([8]++List.range' 35 13) rfl [7,8] (fun (s:Nat × List Nat)=>[pt H,C5 s.1]) (fun s J=>(n+1≤s.1∧s.1≤64*((n+64) / 64)∧s.2.length=(n+64) / 64∧(∀ w∈s.2,w<18446744073709551616)∧zs s.2+(s.1 - (n+1))=64*((n+64) / 64)∧ ∀ i,s.1≤i→dd s.2 i=false)∧SH w0 J (Cl H 205 (cW l (n+1) 0 (n+1) y s.2.length)::Cl y 29 (cC s.2)::L)) (fun s=>64*((n+64) / 64) - s.1) (n+1,List.replicate ((n+64) / 64) 0) rfl ⟨⟨Nat.le_refl _,by omega,by simp,by simp,by rw [yZ];omega,fun i _=>zt _ _⟩,by rw [List.length_replicate];exact q⟩ ?_
  rintro g ⟨k,ws⟩ w_3 ⟨⟨h1,h2,h3,h4,h5,h6⟩,q⟩
  simp only at h1 h2 h3 h4 h5 h6
  have q:SH w0 w_3 (Cl H 205 (cW l (n+1) 0 (n+1) y ws.length)::Cl y 29 (cC ws)::L):=q
  refine av (ac (q.C9 (b:=H) rfl (Db (ap (fun Y=>?_) (fun Y=>?_)))))
  ·refine ai<|ak<|aG<|au<|c96 q rfl rfl (by omega) ⟨h4,by omega⟩ fun _ q=>au ?_
   have e1:(k:Int)+1=((k+1:Nat):Int):=by omega
   refine ⟨((k+1:Nat):Int),(IntWalk.i64_in _ (by omega)).trans (by omega),?_⟩
   have hz:=qu (ws:=ws) (k:=k) (by omega)
   rw [h6 k (Nat.le_refl _)] at hz
   simp at hz
   refine ⟨(k+1,eY ws k),rfl,⟨⟨by simp only [];omega,by simp only [];omega,by simpa [iZ] using h3,qv h4 (by omega),by simp only [];omega,fun i hi=>?_⟩,by rw [iZ];exact q⟩,by simp only [];omega⟩
   simp only at hi
   rw [y6 (by omega),if_neg (by omega)]
   exact h6 i (by omega)
  ·refine ai<|aS<|ac<|ah<|k1 hp H ⟨l,n+1,0,n+1,y,ws⟩ _ (SH.ky q ⟨by simp only [];omega,by simp only [];omega,by simp only [];omega,by simp only [];omega,by simp only [];omega,by simp only [];omega,h4,by simp only [];omega,by simp only [];omega⟩)
 ·refine s53 rfl<|ac<|aq<|ap (fun Y=>?_) (fun Y=>?_)
  ·refine pa 9 rfl<|ac<|ah<|k2 ‹_› _ q.ae
  ·refine ap (fun h_2=>?_) (fun h_2=>?_)
   ·refine pa 6 rfl<|ac<|ah<|k2 ‹_› _ q.ae
   ·refine pa 2 rfl<|Dg<|ac<|ah<|k2 ‹_› _ q.ae
end
end
end Go.Proofs.YtlhpilgmeededaaGreatDoor
namespace Go.Den
open Go Go.RowKit
open Go.ChangeMaps (setBlock heap_setBlock_same heap_setBlock_other)
def It {P:Program} (T:bN P) (r b:Nat) (m:List (T.κ × T.ν)) (n:List (T.κ × T.ν)) (cur:Option (T.κ × T.ν)):ao where
 ex:=fun x=>x=b∨x=r
 sh:=fun _=>False
 holds:=fun w=> ∃ (es:Array MapEntry) (clock since:Nat) (seen:Array Nat) (q:Nat),w.heap[b]?=some (.map es clock)∧eL T es clock m∧w.heap[r]?=some (.mapIter (some b) since seen q)∧since≤q∧since≤clock∧
  (∀ x∈es.toList,x.born<since)∧(leftOf es seen).toList.map (fun e=>(e.key,e.val))=n.map (fun p=>(T.ek p.1,T.en p.2))∧(∀ p,cur=some p→ ∃ (s:Array Nat) (e:MapEntry),seen=s.push e.born∧e∈es.toList∧e.key=T.ek p.1∧e.val=T.en p.2∧q=clock)
 loc:=fun w w' h ⟨es,clock,since,seen,q,y,Y,H,h2⟩=>⟨es,clock,since,seen,q,(h b (.inl (.inl rfl))).trans y,Y,(h r (.inl (.inr rfl))).trans H,h2⟩
 dom:=fun w ⟨es,clock,since,seen,q,y,Y,H,h2⟩ x J=>by
  rcases J with (rfl | rfl) | J
  ·exact eT y
  ·exact eT H
  ·exact J.elim
class lq {P:Program} (L:List ao) (r:Nat) (T:outParam (bN P)) (b:outParam Nat) (m:outParam (List (T.κ × T.ν))) (n:outParam (List (T.κ × T.ν))) (cur:outParam (Option (T.κ × T.ν))) (R:outParam (List ao)):Prop where
 perm:L.Perm (It T r b m n cur::R)
instance itHead {P:Program} (T:bN P) (r b:Nat) (m:List (T.κ × T.ν)) (n:List (T.κ × T.ν)) (cur:Option (T.κ × T.ν)) (L:List ao):lq (It T r b m n cur::L) r T b m n cur L:=⟨.refl _⟩
instance (priority:=low) itTail {P:Program} (A:ao) (L:List ao) (T:bN P) (r b:Nat) (m:List (T.κ × T.ν)) (n:List (T.κ × T.ν)) (cur:Option (T.κ × T.ν)) (R:List ao) [h:lq L r T b m n cur R]:lq (A::L) r T b m n cur (A::R):=⟨(h.perm.cons A).trans (.swap _ _ _)⟩
class mO {P:Program} (L:List ao) (b:Nat) (T:outParam (bN P)) (r:outParam Nat) (m:outParam (List (T.κ × T.ν))) (n:outParam (List (T.κ × T.ν))) (cur:outParam (Option (T.κ × T.ν))) (R:outParam (List ao)):Prop where
 perm:L.Perm (It T r b m n cur::R)
instance ioHead {P:Program} (T:bN P) (r b:Nat) (m:List (T.κ × T.ν)) (n:List (T.κ × T.ν)) (cur:Option (T.κ × T.ν)) (L:List ao):mO (It T r b m n cur::L) b T r m n cur L:=⟨.refl _⟩
instance (priority:=low) ioTail {P:Program} (A:ao) (L:List ao) (T:bN P) (r b:Nat) (m:List (T.κ × T.ν)) (n:List (T.κ × T.ν)) (cur:Option (T.κ × T.ν)) (R:List ao) [h:mO L b T r m n cur R]:mO (A::L) b T r m n cur (A::R):=⟨(h.perm.cons A).trans (.swap _ _ _)⟩
theorem mP {α β:Type} {f:α→β} : ∀ {l:List α},(l.map f).Nodup→ ∀ x∈l,∀ y∈l,f x=f y→x=y
 | [],_,x,H,_,_,_=>by cases H
 | a::r,h,x,H,y,Y,e=>by
  have J:=List.nodup_cons.1 h
  rcases List.mem_cons.1 H with h1 | h1<;>rcases List.mem_cons.1 Y with q | q
  ·rw [h1,q]
  ·exact absurd (List.mem_map.2 ⟨y,q,by rw [←e,h1]⟩) J.1
  ·exact absurd (List.mem_map.2 ⟨x,h1,by rw [e,q]⟩) J.1
  ·exact mP J.2 x h1 y q e
theorem uF {α β:Type} {f:α→β} (q: ∀ a b,f a=f b→a=b) {l:List α} (h:l.Nodup):(l.map f).Nodup:=List.pairwise_map.2 (h.imp fun y e=>y (q _ _ e))
theorem qA {α β γ:Type} {f:α→γ} {g:β→γ} {c:α→Bool} {d:β→Bool} : ∀ {l1:List α} {l2:List β},l1.map f=l2.map g→(∀ x∈l1,∀ y∈l2,f x=g y→c x=d y)→(l1.filter c).map f=(l2.filter d).map g
 | [],[],_,_=>rfl
 | [],_::_,h,_=>by cases h
 | _::_,[],h,_=>by cases h
 | a::l1,b::l2,h,q=>by
  simp only [List.map_cons,List.cons.injEq] at h
  have ih:=qA h.2 fun x H y J e=>q x (.tail _ H) y (.tail _ J) e
  have h1:=q a (.head _) b (.head _) h.1
  rw [List.filter_cons,List.filter_cons,h1]
  cases d b
  ·exact ih
  ·simp [h.1,ih]
theorem uG {κ ν:Type} [DecidableEq κ] {l:List (κ × ν)} {q:κ × ν} (h:q∈l):(aO l q.1).length<l.length:=by
 unfold aO
 induction l with
 | nil=>cases h
 | cons a r ih=>
  rw [List.filter_cons]
  rcases List.mem_cons.1 h with rfl | h
  ·simp
   exact Nat.lt_succ_of_le (List.length_filter_le _ _)
  ·have:=ih h
   split
   ·exact Nat.succ_lt_succ this
   ·exact Nat.lt_succ_of_lt this
theorem heap_set {w:World} {i:Nat} {o0:Obj} (h:w.heap[i]?=some o0) (o:Obj):(setBlock w i o).heap[i]?=some o:=by
 have q:=eT h
 simp [setBlock,q]
theorem lr {w:World} {i k:Nat} (o:Obj) (h:k≠i):(setBlock w i o).heap[k]?=w.heap[k]?:=by
 simp [setBlock,Ne.symm h]
section
variable {P:Program} {T:bN P} {w0 w:World} {L R:List ao} {o:Oper} {f:Fr} {r b:Nat} {m n:List (T.κ × T.ν)} {cur:Option (T.κ × T.ν)}
theorem SH.qB (y:SH w0 w L) (r:Nat) [p:lq L r T b m n cur R]:SH w0 w (Mt T b m::R):=by
 have h:=y.perm p.perm
 refine SH.cQ (L:=[It T r b m n cur]) (L':=[Mt T b m]) (F:=R) h rfl rfl rfl (Nat.le_refl _) (fun _ _ _=>rfl) (fun A q=>?_) (by simp) (fun A q _ H=>?_) (by simp [Mt])
 ·rcases List.mem_singleton.1 q with rfl
  obtain ⟨es,clock,_,_,_,J,Y,_⟩:=h.holds _ (.head _)
  exact ⟨es,clock,J,Y⟩
 ·rcases List.mem_singleton.1 q with rfl
  exact .inl ⟨It T r b m n cur,by simp,.inl H⟩
theorem zu {t e:TypeId} {x:Operand} {C:Value→World→Prop} (ho:o.op= .range t x) (ht:P.underlying t=some (.map T.k e)) (q:ev f x= .map (some b)) (hL:SH w0 w L) [p:bP L b T m R]
  (kk: ∀ r w',SH w0 w' (It T r b m m none::R)→C (.pointer (some ⟨r,0,none⟩)) w'):aL P o f w C:=by
 obtain ⟨es,clock,y,H⟩:=hL.fY b (T:=T)
 have J:b<w.heap.size:=eT y
 have hnew:(w.alloc (.mapIter (some b) clock #[] clock)).heap[w.heap.size]?=some (.mapIter (some b) clock #[] clock):=by show (w.heap.push _)[w.heap.size]?=_;simp
 have hold:(w.alloc (.mapIter (some b) clock #[] clock)).heap[b]?=some (.map es clock):=(Below.heap_alloc w _ b J).trans y
 unfold aL execOp
 simp only [ho,q,Instr.range,run_underlying ht,MapKept.run_getObj_map y,Sem.run_bind,Sem.run_pure,Result.andThen_ok,run_newObj,bc]
 have hall:(leftOf es #[]).toList=es.toList:=by unfold leftOf;simp
 refine kk w.heap.size _ (SH.cQ (L:=[Mt T b m]) (L':=[It T w.heap.size b m _ none]) (F:=R) (hL.perm p.perm) rfl rfl rfl (by simp) (fun k hk _=>Below.heap_alloc w _ k hk)
  (fun A Y=>by rcases List.mem_singleton.1 Y with rfl;exact ⟨es,clock,clock,#[],clock,hold,H,hnew,Nat.le_refl _,Nat.le_refl _,H.born,by rw [hall];exact H.list,by simp⟩) (by simp) (fun A Y x q=>?_) (by simp [It]))
 rcases List.mem_singleton.1 Y with rfl
 rcases q with rfl | rfl
 ·exact .inl ⟨Mt T x m,by simp,rfl⟩
 ·exact .inr (Nat.le_refl _)
theorem zv {t k e:TypeId} {x:Operand} {C:Value→World→Prop} (y:o.op= .range t x) (H:P.underlying t=some (.map k e)) (J:ev f x= .map none) (Y:SH w0 w L)
  (kk: ∀ r q,SH w0 q (Pt r (.mapIter none 0 #[] 0)::L)→C (.pointer (some ⟨r,0,none⟩)) q):aL P o f w C:=by
 obtain ⟨_,_,⟨rfl,rfl⟩,h⟩:=Y.ki (.mapIter none 0 #[] 0)
 unfold aL execOp
 simp only [y,J,Instr.range,run_underlying H,Sem.run_bind,Sem.run_pure,Result.andThen_ok,run_newObj,bc]
 exact kk _ _ h
theorem zw {x:Operand} {C:Value→World→Prop} (y:o.op= .next x false) (H:ev f x= .pointer (some ⟨r,0,none⟩)) (q:SH w0 w L) [p:im (Pt r (.mapIter none 0 #[] 0)) L R]
  (kk:SH w0 w R→C (.tuple #[.bool false]) w):aL P o f w C:=by
 have h:w.heap[r]?=_:=q.get (Pt r (.mapIter none 0 #[] 0))
 unfold aL execOp
 simp only [y,H,Instr.next,getObj,Sem.run_bind,Sem.run,h,Sem.run_pure,Result.andThen_ok,bc]
 exact kk (q.pick (Pt r (.mapIter none 0 #[] 0))).tail
theorem mQ {x:Operand} {C:Value→World→Prop} (ho:o.op= .next x false) (hx:ev f x= .pointer (some ⟨r,0,none⟩)) (hL:SH w0 w L) [p:lq L r T b m n cur R]
  (k0:n=[]→ ∀ Y,SH w0 Y (Mt T b m::R)→C (.tuple #[.bool false]) Y) (k1: ∀ k v,k∈n.map Prod.fst∧(k,v)∈m→(aO n k).length<n.length→ ∀ Y,SH w0 Y (It T r b m (aO n k) (some (k,v))::R)→C (.tuple #[.bool true,T.ek k,T.en v]) Y):aL P o f w C:=by
 have h:=hL.perm p.perm
 obtain ⟨es,clock,since,seen,c0,hb,hm,hr,h1,h2,h3,h4,-⟩:=h.holds (It T r b m n cur) (.head _)
 unfold aL execOp
 rcases run_next_at (P:=P) w o.type r b since c0 seen es clock hr hb h3 h1 with ⟨hz,hrun⟩ | ⟨e,he,w1,hw,hrun⟩
 ·simp only [ho,hx,Sem.run_bind,hrun,Result.andThen_ok,Sem.run_pure,bc]
  refine k0 ?_ _ (hL.qB r)
  have hl:=congrArg List.length h4
  simp only [List.length_map,Array.length_toList,hz] at hl
  exact List.eq_nil_of_length_eq_zero hl.symm
 ·obtain ⟨y,_⟩:=mem_left he
  have hmem:(e.key,e.val)∈n.map fun p=>(T.ek p.1,T.en p.2):=by rw [←h4];exact List.mem_map_of_mem (f:=fun e:MapEntry=>(e.key,e.val)) he
  obtain ⟨q,hq,e1⟩:=List.mem_map.1 hmem
  simp only [Prod.mk.injEq] at e1
  have hmem2:(e.key,e.val)∈m.map fun p=>(T.ek p.1,T.en p.2):=by rw [←hm.list];exact List.mem_map_of_mem (f:=fun e:MapEntry=>(e.key,e.val)) y
  obtain ⟨q2,hq2,e2⟩:=List.mem_map.1 hmem2
  simp only [Prod.mk.injEq] at e2
  have hrb:r≠b:=fun e=>by rw [e,hb] at hr;cases hr
  have hw1:SH w0 w1 (It T r b m n cur::R):=by rcases hw with rfl | rfl;exact h;exact h.drew
  have hb1:w1.heap[b]?=some (.map es clock):=by rcases hw with rfl | rfl<;>exact hb
  have hr1:w1.heap[r]?=some (.mapIter (some b) since seen c0):=by rcases hw with rfl | rfl<;>exact hr
  have hkeys:(es.toList.map (·.key)).Nodup:=by
   have h6:es.toList.map (·.key)=m.map fun p=>T.ek p.1:=by
    have:=congrArg (List.map Prod.fst) hm.list
    simpa [List.map_map,Function.comp_def] using this
   rw [h6]
   have:(m.map fun p=>T.ek p.1)=(m.map Prod.fst).map T.ek:=by simp [List.map_map,Function.comp_def]
   rw [this]
   exact uF (fun a b h=>T.inj a b h) hm.apart
  have hleft:(leftOf es (seen.push e.born)).toList.map (fun e=>(e.key,e.val))=(aO n q.1).map fun p=>(T.ek p.1,T.en p.2):=by
   have h7:(leftOf es (seen.push e.born)).toList=(leftOf es seen).toList.filter fun x=>!(x.born==e.born):=by
    unfold leftOf
    simp only [Array.toList_filter,List.filter_filter,contains_push]
    refine List.filter_congr fun x _=>?_
    cases seen.contains x.born<;>cases (x.born==e.born)<;>rfl
   rw [h7]
   refine qA h4 fun x hx' p hp J=>?_
   simp only [Prod.mk.injEq] at J
   have hxe:=(mem_left hx').1
   by_cases H:p.1=q.1
   ·have:x=e:=mP hkeys x hxe e y (by rw [J.1,H,e1.1])
    simp [this,H]
   ·have:x.born≠e.born:=fun hbn=>H (T.inj _ _ (by rw [←J.1,e1.1,mP hm.stamp x hxe e y hbn]))
    simp [this,H]
  simp only [ho,hx,Sem.run_bind,hrun,Result.andThen_ok,Sem.run_pure,bc]
  have h8:q.1=q2.1:=T.inj _ _ (e1.1.trans e2.1.symm)
  rw [←e2.1,←e2.2]
  have hlt:=uG hq
  rw [h8] at hlt hleft
  refine k1 q2.1 q2.2 ⟨h8▸List.mem_map_of_mem (f:=Prod.fst) hq,hq2⟩ hlt _ (SH.cQ (L:=[It T r b m n cur]) (L':=[It T r b m _ (some (q2.1,q2.2))]) (F:=R) hw1 rfl rfl rfl (by simp [setBlock]) (fun k _ hk=>?_) (fun A hA=>?_) (by simp) (fun A hA x hx=>?_) (by simp [It]))
  ·exact lr _ (fun e=>hk (It T r b m n cur) (by simp) (.inr e))
  ·rcases List.mem_singleton.1 hA with rfl
   exact ⟨es,clock,since,seen.push e.born,clock,(lr _ (fun e=>hrb e.symm)).trans hb1,hm,heap_set hr1 _,h2,h2,h3,hleft,fun p hp=>by cases hp;exact ⟨seen,e,rfl,y,e2.1.symm,e2.2.symm,rfl⟩⟩
  ·rcases List.mem_singleton.1 hA with rfl
   exact .inl ⟨It T r b m n cur,by simp,hx⟩
theorem mS {x:Operand} {C:Value→World→Prop} {k:T.κ} {v:T.ν} (q:o.op= .entry x) (y:ev f x= .pointer (some ⟨r,0,none⟩)) (H:SH w0 w L) [p:lq L r T b m n (some (k,v)) R]
  (kk:C (.tuple #[T.ek k,T.en v]) w):aL P o f w C:=by
 have h:=H.perm p.perm
 obtain ⟨es,clock,since,seen,J,Y,hm,hr,h1,h2,h3,h4,h5⟩:=h.holds (It T r b m n (some (k,v))) (.head _)
 obtain ⟨s,e,rfl,he,e1,e2,rfl⟩:=h5 _ rfl
 have hrun:=run_entry_at (P:=P) w r b since s es J e hr Y he hm.stamp
 unfold aL execOp
 simp only [q,y,Sem.run_bind,hrun,Result.andThen_ok,Sem.run_pure,bc]
 rw [e1,e2]
 exact kk
theorem zx {t ks e:TypeId} {x:Operand} {C:Value→World→Prop} (J:o.op= .call { callee:= .builtin .clear,args:=#[x],argTypes:=#[t] }) (Y:P.underlying t=some (.map ks e)) (hx:ev f x= .map (some b)) (q:SH w0 w L) [p:bP L b T m R]
  (kk: ∀ y,SH w0 y (Mt T b []::R)→C (.tuple #[]) y):aL P o f w C:=by
 obtain ⟨es,clock,H,hm⟩:=q.fY b (T:=T)
 have h:=q.me b (T:=T) (es:=#[]) (clock:=clock) (m':=[]) ⟨rfl,by simp,tz,by simp,by simp⟩
 unfold aL execOp
 simp only [J,resolve,invoke,builtin,Builtin.clear_,Sem.run_bind,Sem.run_pure,Result.andThen_ok,List.map_toArray,List.map_cons,List.map_nil,hx]
 simp [run_underlying Y,MapKept.run_getObj_map H,MapKept.run_setObj_map _ H,bc]
 exact kk _ h
theorem zy {t e:TypeId} {x i:Operand} {C:Value→World→Prop} (T:bN P) (q:o.op= .call { callee:= .builtin .delete,args:=#[x,i],argTypes:=#[t,T.k] }) (y:P.underlying t=some (.map T.k e))
  (H:ev f x= .map none) {k:T.κ} (hi:ev f i=T.ek k) (J:T.good k) (kk:C (.tuple #[]) w):aL P o f w C:=by
 obtain ⟨l,hl⟩:=T.key k J
 unfold aL execOp
 simp only [q,resolve,invoke,builtin,Builtin.delete_,Sem.run_bind,Sem.run_pure,Result.andThen_ok,List.map_toArray,List.map_cons,List.map_nil,H,hi]
 simp [run_underlying y,T.keyed.check w _ hl,bc]
 exact kk
theorem zz {t e:TypeId} {x i:Operand} {C:Value→World→Prop} (ho:o.op= .call { callee:= .builtin .delete,args:=#[x,i],argTypes:=#[t,T.k] }) (ht:P.underlying t=some (.map T.k e))
  (H:ev f x= .map (some b)) {k:T.κ} (hi:ev f i=T.ek k) (hk:T.good k) (hL:SH w0 w L) [p:mO L b T r m n cur R]
  (kk: ∀ Y,Y.length≤n.length→(∀ q∈Y,q∈n)→ ∀ w',SH w0 w' (It T r b (aO m k) Y none::R)→C (.tuple #[]) w'):aL P o f w C:=by
 have h:=hL.perm p.perm
 obtain ⟨es,clock,since,seen,c0,J,hm,hr,h1,h2,h3,h4,-⟩:=h.holds (It T r b m n cur) (.head _)
 have hrb:r≠b:=fun e=>by rw [e,J] at hr;cases hr
 have hI:SH w0 w (Mt T b m::Pt r (.mapIter (some b) since seen c0)::R):=by
  refine SH.cQ (L:=[It T r b m n cur]) (L':=[Mt T b m,Pt r (.mapIter (some b) since seen c0)]) (F:=R) h rfl rfl rfl (Nat.le_refl _) (fun _ _ _=>rfl) (fun A y=>?_) ?_ (fun A y x H=>?_) (fun A y x H=>?_)
  ·rcases List.mem_cons.1 y with rfl | y
   ·exact ⟨es,clock,J,hm⟩
   ·rcases List.mem_singleton.1 y with rfl
    exact hr
  ·refine List.pairwise_cons.2 ⟨fun B hB x=>?_,by simp⟩
   rcases List.mem_singleton.1 hB with rfl
   exact ⟨fun e=>by simp [Pt,show x=b from e,Ne.symm hrb],fun e=>e.elim⟩
  ·rcases List.mem_cons.1 y with rfl | y
   ·exact .inl ⟨It T r b m n cur,by simp,.inl H⟩
   ·rcases List.mem_singleton.1 y with rfl
    exact .inl ⟨It T r b m n cur,by simp,.inr H⟩
  ·rcases List.mem_cons.1 y with rfl | y
   ·exact H.elim
   ·rcases List.mem_singleton.1 y with rfl
    exact H.elim
 obtain ⟨l,hl⟩:=T.key k hk
 have key: ∃ es',(Builtin.delete_ #[t,T.k] o.type #[.map (some b),T.ek k]).run P w= .ok (.tuple #[]) (setBlock w b (.map es' clock))∧es'.toList.Sublist es.toList:=by
  rcases hm.find w hk with ⟨g1,g2⟩ | ⟨j,e0,v,g1,g2,g3,g4⟩
  ·exact ⟨es,by simp [Builtin.delete_,run_underlying ht,MapKept.run_getObj_map J,T.keyed.check w _ hl,g1,MapKept.run_setObj_map _ J,Result.andThen,setBlock],List.Sublist.refl _⟩
  ·refine ⟨es.eraseIdxIfInBounds j,by simp [Builtin.delete_,run_underlying ht,MapKept.run_getObj_map J,T.keyed.check w _ hl,g1,MapKept.run_setObj_map _ J,Result.andThen,setBlock],?_⟩
   have hjs:j<es.size:=by have:=(List.getElem?_eq_some_iff.1 g2).1;simpa using this
   have:(es.eraseIdxIfInBounds j).toList=es.toList.eraseIdx j:=by
    unfold Array.eraseIdxIfInBounds
    rw [dif_pos hjs]
    simp
   rw [this]
   exact List.eraseIdx_sublist _ _
 obtain ⟨es',hrun',hsub⟩:=key
 obtain ⟨w',hrun,hL'⟩:=tG (b:=b) (ty:=o.type) (e:=e) (t:=t) ht hk hI
 have e0:=hrun'.symm.trans hrun
 injection e0 with _ e0
 subst e0
 obtain ⟨es2,clock2,hb2,hm2⟩:=hL'.fY b (T:=T)
 have e2:=(heap_set J (.map es' clock)).symm.trans hb2
 injection e2 with e2
 injection e2 with e2 e3
 subst e2 e3
 have hr2:(setBlock w b (.map es' clock)).heap[r]?=some (.mapIter (some b) since seen c0):=(lr _ hrb).trans hr
 unfold aL execOp
 simp only [ho,resolve,invoke,builtin,Sem.run_bind,Sem.run_pure,Result.andThen_ok,List.map_toArray,List.map_cons,List.map_nil,H,hi,hrun]
 have hsub2:((leftOf es' seen).toList.map fun e=>(e.key,e.val)).Sublist (n.map fun p=>(T.ek p.1,T.en p.2)):=by
  rw [←h4]
  refine List.Sublist.map _ ?_
  unfold leftOf
  rw [Array.toList_filter,Array.toList_filter]
  exact hsub.filter _
 obtain ⟨Y,hn',hn2⟩:=List.sublist_map_iff.1 hsub2
 refine kk Y hn'.length_le (fun q hq=>hn'.subset hq) _ (SH.cQ (L:=[Mt T b (aO m k),Pt r (.mapIter (some b) since seen c0)]) (L':=[It T r b (aO m k) Y none]) (F:=R) hL' rfl rfl rfl (Nat.le_refl _) (fun _ _ _=>rfl) (fun A y=>?_) (by simp) (fun A y x H=>?_) (by simp [It]))
 ·rcases List.mem_singleton.1 y with rfl
  exact ⟨es',clock,since,seen,c0,hb2,hm2,hr2,h1,h2,fun x H=>h3 x (hsub.subset H),hn2,by simp⟩
 ·rcases List.mem_singleton.1 y with rfl
  rcases H with rfl | rfl
  ·exact .inl ⟨Mt T x (aO m k),by simp,rfl⟩
  ·exact .inl ⟨Pt x (.mapIter (some b) since seen c0),by simp,rfl⟩
end
end Go.Den
namespace Go.Den
open Go Go.RowKit
class cR (P:Program) (t:TypeId) (T:outParam (bN P)) (e:outParam TypeId) (z:outParam Value):Prop where
 und:P.underlying t=some (.map T.k e)
 zero:(P.info? e).bind (·.zero)=some z
abbrev jb (P:Program) (k:TypeId) (q:IntKind) (y:P.underlying k=some (.int q)) (lo hi:Int) (H: ∀ z,lo≤z∧z<hi→(Lit.int q z).wf=true) (ν:Type) (en:ν→Value):bN P where
 k:=k
 κ:=Int
 ν:=ν
 dec:=inferInstance
 ek:=fun z=> .int q z
 en:=en
 good:=fun z=>lo≤z∧z<hi
 keyed:=Maps.int_keyed y
 inj:=fun a _ h=>by simpa using h
 key:=fun a h=>⟨_,Maps.keyOf_int_mk y (H a h)⟩
theorem wf_u32 (z:Int) (h:0≤z∧z<4294967296):(Lit.int .u32 z).wf=true:=by simp [Lit.wf,IntKind.min,IntKind.max,IntKind.bits,IntKind.signed];omega
theorem wf_u8 (z:Int) (h:0≤z∧z<256):(Lit.int .u8 z).wf=true:=by simp [Lit.wf,IntKind.min,IntKind.max,IntKind.bits,IntKind.signed];omega
theorem wf_i64 (z:Int) (h: -9223372036854775808≤z∧z<9223372036854775808):(Lit.int .i64 z).wf=true:=by simp [Lit.wf,IntKind.min,IntKind.max,IntKind.bits,IntKind.signed];omega
section
variable {P:Program} {T:bN P} {w0 w:World} {L R:List ao} {o:Oper} {f:Fr} {r b:Nat} {m n:List (T.κ × T.ν)} {cur:Option (T.κ × T.ν)} {t e:TypeId} {z:Value} {x i v:Operand} {C:Value→World→Prop}
theorem mT {k:T.κ} {u:T.ν} (y:o.op= .mapUpdate t x i v) [h:cR P t T e z] (H:ev f x= .map (some b)) (hi:ev f i=T.ek k) (J:ev f v=T.en u) (Y:T.good k) (hL:SH w0 w L) [p:bP L b T m R]
  (kk: ∀ q,SH w0 q (Mt T b (aF m k u)::R)→C undef q):aL P o f w C:=x8 y h.und H hi J Y hL kk
theorem gd {k:T.κ} (y:o.op= .call { callee:= .builtin .delete,args:=#[x,i],argTypes:=#[t,e] }) {H:TypeId} [h:cR P t T H z] (J:ev f x= .map (some b)) (hi:ev f i=T.ek k) (Y:T.good k) (hL:SH w0 w L) [p:bP L b T m R] (he:T.k=e)
  (kk: ∀ q,SH w0 q (Mt T b (aO m k)::R)→C (.tuple #[]) q):aL P o f w C:=x9 (by rw [he];exact y) h.und J hi Y hL kk
theorem uH {k:T.κ} (J:o.op= .call { callee:= .builtin .delete,args:=#[x,i],argTypes:=#[t,e] }) {Y:TypeId} [h:cR P t T Y z] (hx:ev f x= .map (some b)) (hi:ev f i=T.ek k) (hk:T.good k) (hL:SH w0 w L) [p:mO L b T r m n cur R] (he:T.k=e)
  (kk: ∀ y,y.length≤n.length→(∀ q∈y,q∈n)→ ∀ H,SH w0 H (It T r b (aO m k) y none::R)→C (.tuple #[]) H):aL P o f w C:=zz (by rw [he];exact J) h.und hx hi hk hL kk
theorem zA {k:T.κ} (q:o.op= .call { callee:= .builtin .delete,args:=#[x,i],argTypes:=#[t,e] }) {y:TypeId} [h:cR P t T y z] (H:ev f x= .map none) (hi:ev f i=T.ek k) (J:T.good k) (he:T.k=e)
  (kk:C (.tuple #[]) w):aL P o f w C:=zy T (by rw [he];exact q) h.und H hi J kk
theorem mU (y:o.op= .range t x) [h:cR P t T e z] (H:ev f x= .map (some b)) (J:SH w0 w L) [p:bP L b T m R]
  (kk: ∀ r q,SH w0 q (It T r b m m none::R)→C (.pointer (some ⟨r,0,none⟩)) q):aL P o f w C:=zu y h.und H J kk
theorem zB (y:o.op= .range t x) [h:cR P t T e z] (H:ev f x= .map none) (J:SH w0 w L)
  (kk: ∀ r q,SH w0 q (Pt r (.mapIter none 0 #[] 0)::L)→C (.pointer (some ⟨r,0,none⟩)) q):aL P o f w C:=zv y h.und H J kk
theorem zC (y:o.op= .call { callee:= .builtin .clear,args:=#[x],argTypes:=#[t] }) [h:cR P t T e z] (H:ev f x= .map (some b)) (J:SH w0 w L) [p:bP L b T m R]
  (kk: ∀ q,SH w0 q (Mt T b []::R)→C (.tuple #[]) q):aL P o f w C:=zx y h.und H J kk
theorem eZ (y:o.op= .makeMap t none) [h:cR P t T e z] (H:SH w0 w L) (kk: ∀ b q,SH w0 q (Mt T b []::L)→C (.map (some b)) q):aL P o f w C:=by
 unfold aL execOp
 simp only [y,Instr.makeMap,run_underlying h.und,Sem.run_bind,Sem.run_pure,Result.andThen_ok,run_newObj,bc]
 exact kk _ _ (H.ya T)
theorem dh {c:Bool} {C:Value→Prop} {k:T.κ} (q:o.op= .lookup t x i c) [h:cR P t T e z] (y:ev f x= .map (some b)) (hi:ev f i=T.ek k) (H:T.good k) (J:SH w0 w L) [p:bP L b T m R]
  (k0:aB m k=none→C (if c then .tuple #[z,.bool false] else z)) (k1: ∀ v,aB m k=some v→C (if c then .tuple #[T.en v,.bool true] else T.en v)):
  ∃ v,(execOp (ev f) o).run P w= .ok (.value v) w∧C v:=x6 q h.und h.zero y hi H J k0 k1
theorem jK {c:Bool} {k:T.κ} (q:o.op= .lookup t x i c) [h:cR P t T e z] (y:ev f x= .map (some b)) (hi:ev f i=T.ek k) (H:T.good k) (J:SH w0 w L) [p:bP L b T m R] (Y:aB m k=none):
  (execOp (ev f) o).run P w= .ok (.value (if c then .tuple #[z,.bool false] else z)) w:=tE q h.und h.zero y hi H J Y
theorem dC {c:Bool} {k:T.κ} {u:T.ν} (q:o.op= .lookup t x i c) [h:cR P t T e z] (y:ev f x= .map (some b)) (hi:ev f i=T.ek k) (H:T.good k) (J:SH w0 w L) [p:bP L b T m R] (Y:aB m k=some u):
  (execOp (ev f) o).run P w= .ok (.value (if c then .tuple #[T.en u,.bool true] else T.en u)) w:=tF q h.und h.zero y hi H J Y
theorem iz {b:Nat} {m:List (T.κ × T.ν)} (q:o.op= .call { callee:= .builtin .len,args:=#[x],argTypes:=#[t] }) [h:cR P t T e z] (y:ev f x= .map (some b)) (H:SH w0 w L) [p:bP L b T m R]:
  (execOp (ev f) o).run P w= .ok (.value (C5 m.length)) w:=x7 q h.und y H
end
end Go.Den
namespace Go.Proofs.YtlhpilgmeededaaGreatDoor
open Go Go.Den
set_option maxHeartbeats 4000000
set_option maxRecDepth 8000
section
theorem v3:Tryz.prog.underlying 3=some (.int .i64):=Tryz.underlying3
theorem v5:Tryz.prog.underlying 5=some (.int .u8):=Tryz.underlying5
theorem v22:Tryz.prog.underlying 22=some (.int .u32):=Tryz.underlying22
abbrev cy:bN Tryz.prog:=jb Tryz.prog 3 .i64 v3 (-9223372036854775808) 9223372036854775808 wf_i64 Int fun z=>C5 z
instance:cR Tryz.prog 87 cy 3 (C5 0):=⟨Tryz.underlying87,by kernel_rfl⟩
abbrev bF:bN Tryz.prog:=jb Tryz.prog 3 .i64 v3 (-9223372036854775808) 9223372036854775808 wf_i64 (Int × Int × Int) fun s=> .agg #[C4 s.1,C5 s.2.1,C5 s.2.2]
instance:cR Tryz.prog 268 bF 405 (.agg #[C4 0,C5 0,C5 0]):=⟨Tryz.underlying268,by kernel_rfl⟩
abbrev a7:bN Tryz.prog:=jb Tryz.prog 3 .i64 v3 (-9223372036854775808) 9223372036854775808 wf_i64 Bool fun b=> .bool b
instance:cR Tryz.prog 269 a7 4 (.bool false):=⟨Tryz.underlying269,by kernel_rfl⟩
abbrev cw:bN Tryz.prog:=jb Tryz.prog 22 .u32 v22 0 4294967296 wf_u32 ((Nat × Nat × Nat × Nat × Nat × Nat) × Int) fun s=> .agg #[C1 s.1.1,C1 s.1.2.1,C1 s.1.2.2.1,C1 s.1.2.2.2.1,C1 s.1.2.2.2.2.1,C1 s.1.2.2.2.2.2,C5 s.2]
instance:cR Tryz.prog 187 cw 361 (.agg #[C1 0,C1 0,C1 0,C1 0,C1 0,C1 0,C5 0]):=⟨Tryz.underlying187,by kernel_rfl⟩
abbrev fz:bN Tryz.prog:=jb Tryz.prog 22 .u32 v22 0 4294967296 wf_u32 (Value × Int) fun s=> .agg #[s.1,C5 s.2]
instance:cR Tryz.prog 188 fz 323 (.agg #[sN,C5 0]):=⟨Tryz.underlying188,by kernel_rfl⟩
abbrev jc:bN Tryz.prog:=jb Tryz.prog 22 .u32 v22 0 4294967296 wf_u32 Bool fun b=> .bool b
instance:cR Tryz.prog 238 jc 4 (.bool false):=⟨Tryz.underlying238,by kernel_rfl⟩
abbrev eM:bN Tryz.prog:=jb Tryz.prog 22 .u32 v22 0 4294967296 wf_u32 Int fun z=>C4 z
instance:cR Tryz.prog 240 eM 29 (C4 0):=⟨Tryz.underlying240,by kernel_rfl⟩
abbrev dS:bN Tryz.prog:=jb Tryz.prog 5 .u8 v5 0 256 wf_u8 Nat fun b=> .pointer (some ⟨b,0,none⟩)
abbrev eu:bN Tryz.prog where
 k:=9
 κ:=ByteArray
 ν:=Int × Bool × Int
 dec:=inferInstance
 ek:= .string
 en:=fun s=> .agg #[C3 s.1,.bool s.2.1,C4 s.2.2]
 good:=fun s=>s.size≤maxLen
 keyed:=Maps.string_keyed Tryz.underlying9
 inj:=fun a _ h=>by simpa using h
 key:=fun a h=>⟨.string a.data.toList,by simp [keyOf,Tryz.underlying9,mapKey,h]⟩
instance:cR Tryz.prog 239 eu 245 (.agg #[C3 0,.bool false,C4 0]):=⟨Tryz.underlying239,by kernel_rfl⟩
end
section
def lu (now due i j:Nat):Prop:=due / 2 ^ (6*(i+1))=now / 2 ^ (6*(i+1))∧due / 2 ^ (6*i) % 64=j
structure bQ where
 now:Nat
 cs:List Value
 tb:Nat
 T:List (Int × Int × Int × Int)
 ob:Nat
 O:List (Int × Bool)
 sl:List (Nat × List (Int × Bool))
abbrev aA (i j:Nat):Nat:=2+65*i+j
structure bm (s:bQ):Prop where
 len:s.cs.length=718
 now0:s.cs[0]?=some (C4 s.now)
 nowlt:s.now<18446744073709551616
 t1:s.cs[1]?=some (.map (some s.tb))
 o1:s.cs[717]?=some (.map (some s.ob))
 slot: ∀ i j,i<11→j<64→ ∃ o:Option Nat,s.cs[aA i j]?=some (.map o)∧ ∀ b,o=some b→ ∃ m,(b,m)∈s.sl∧ ∀ t v,(t,v)∈m→ ∃ due:Nat,aB s.T t=some ((due:Int),(i:Int),(j:Int))∧lu s.now due i j
 uniq: ∀ i j i' j' b,i<11→j<64→i'<11→j'<64→s.cs[aA i j]?=some (.map (some b))→s.cs[aA i' j']?=some (.map (some b))→i=i'∧j=j'
 nd:(s.sl.map Prod.fst).Nodup
 back: ∀ b m,(b,m)∈s.sl→m≠[]→ ∃ i j,i<11∧j<64∧s.cs[aA i j]?=some (.map (some b))
 full: ∀ i,i<11→ ∃ f:Nat,f<18446744073709551616∧s.cs[aA i 64]?=some (C4 f)∧ ∀ j b m,j<64→f.testBit j=false→s.cs[aA i j]?=some (.map (some b))→(b,m)∈s.sl→m=[]
 spots: ∀ q∈s.T,(0≤q.2.1∧q.2.1<18446744073709551616)∧(q.2.2.1= -1∨(0≤q.2.2.1∧q.2.2.1<11))∧0≤q.2.2.2∧q.2.2.2<64
abbrev bJ (sl:List (Nat × List (Int × Bool))):List ao:=sl.map fun q=>Mt a7 q.1 q.2
def a8 (p:Nat) (s:bQ):ao:=bi [Cl p 275 s.cs,Mt bF s.tb s.T,Mt a7 s.ob s.O,bi (bJ s.sl),Fact (bm s)]
section
variable {w0 w:World} {L R:List ao} {p:Nat} {s:bQ}
theorem SH.ec (y:SH w0 w L) (p:Nat) {s:bQ} [q:aC (a8 p) L s R]:bm s∧SH w0 w (Cl p 275 s.cs::Mt bF s.tb s.T::Mt a7 s.ob s.O::bi (bJ s.sl)::R):=by
 have h:SH w0 w (Cl p 275 s.cs::Mt bF s.tb s.T::Mt a7 s.ob s.O::bi (bJ s.sl)::Fact (bm s)::R):=(y.at (a8 p)).io
 exact ⟨(h.ae:SH w0 w [Fact (bm s)]).known,h.ae⟩
theorem SH.dK (q:SH w0 w (Cl p 275 s.cs::Mt bF s.tb s.T::Mt a7 s.ob s.O::bi (bJ s.sl)::R)) (h:bm s):SH w0 w (a8 p s::R):=by
 have h1:=q.fact h
 have y:SH w0 w (Cl p 275 s.cs::Mt bF s.tb s.T::Mt a7 s.ob s.O::bi (bJ s.sl)::Fact (bm s)::R):=h1.ae
 exact SH.star (l:=[Cl p 275 s.cs,Mt bF s.tb s.T,Mt a7 s.ob s.O,bi (bJ s.sl),Fact (bm s)]) y
theorem SH.qC {sl:List (Nat × List (Int × Bool))} {b:Nat} {m:List (Int × Bool)} (q:SH w0 w (bi (bJ sl)::R)) (h:(b,m)∈sl):SH w0 w (Mt a7 b m::bi (bJ (sl.erase (b,m)))::R):=by
 have h1:=q.io
 have y:(bJ sl).Perm (Mt a7 b m::bJ (sl.erase (b,m))):=(List.perm_cons_erase h).map _
 have H:SH w0 w (bJ (sl.erase (b,m))++(Mt a7 b m::R)):=h1.perm ((y.append_right R).trans (List.perm_middle.symm))
 exact H.star.perm (.swap _ _ _)
theorem SH.ov {sl:List (Nat × List (Int × Bool))} {b:Nat} {m:List (Int × Bool)} (q:SH w0 w (Mt a7 b m::bi (bJ sl)::R)):SH w0 w (bi (bJ ((b,m)::sl))::R):=by
 have h1:=(q.perm (.swap _ _ _)).io
 have y:SH w0 w (Mt a7 b m::(bJ sl++R)):=h1.perm List.perm_middle
 exact SH.star (l:=bJ ((b,m)::sl)) y
end
def a6 (tb ob:Nat):List Value:=gJ aY [(0,[C4 0]),(1,[.map (some tb)]),(717,[.map (some ob)])]
def ow:Bool:=Nat.beq aY.length 718&&(List.range 11).all fun i=>((List.range 64).all fun j=>match aY[aA i j]? with | some (.map none)=>true | _=>false)&&(match aY[aA i 64]? with | some (.int .u64 (.ofNat 0))=>true | _=>false)
theorem qD:ow=true:=by kernel_rfl
theorem qE {tb ob k:Nat} (h:k≠0∧k≠1∧k≠717):(a6 tb ob)[k]?=aY[k]?:=by
 show (((aY.set 0 _).set 1 _).set 717 _)[k]?=_
 rw [List.getElem?_set_ne (by omega),List.getElem?_set_ne (by omega),List.getElem?_set_ne (by omega)]
theorem ox:aY.length=718:=by
 have h:=qD
 unfold ow at h
 rw [Bool.and_eq_true] at h
 exact Nat.eq_of_beq_eq_true h.1
theorem uI {i j:Nat} (hi:i<11) (y:j<64):aY[aA i j]?=some (.map none):=by
 have h:=qD
 unfold ow at h
 rw [Bool.and_eq_true,List.all_eq_true] at h
 have h1:=h.2 i (List.mem_range.2 hi)
 rw [Bool.and_eq_true,List.all_eq_true] at h1
 have q:=h1.1 j (List.mem_range.2 y)
 split at q
 ·assumption
 ·cases q
theorem zD {i:Nat} (hi:i<11):aY[aA i 64]?=some (.int .u64 0):=by
 have h:=qD
 unfold ow at h
 rw [Bool.and_eq_true,List.all_eq_true] at h
 have h1:=h.2 i (List.mem_range.2 hi)
 rw [Bool.and_eq_true,List.all_eq_true] at h1
 have q:=h1.2
 split at q
 ·assumption
 ·cases q
theorem uJ (tb ob:Nat):bm ⟨0,a6 tb ob,tb,[],ob,[],[]⟩ where
 len:=by show (((aY.set 0 _).set 1 _).set 717 _).length=_;simp [ox]
 now0:=by show (((aY.set 0 _).set 1 _).set 717 _)[0]?=_;rw [List.getElem?_set_ne (by omega),List.getElem?_set_ne (by omega),List.getElem?_set_self (by rw [ox];omega)];rfl
 nowlt:=by show (0:Nat)<_;decide
 t1:=by show (((aY.set 0 _).set 1 _).set 717 _)[1]?=_;rw [List.getElem?_set_ne (by omega),List.getElem?_set_self (by rw [List.length_set,ox];omega)]
 o1:=by show (((aY.set 0 _).set 1 _).set 717 _)[717]?=_;rw [List.getElem?_set_self (by simp [ox])]
 slot:=fun i j hi y=>⟨none,by rw [qE (by unfold aA;omega)];exact uI hi y,fun b h=>by cases h⟩
 uniq:=fun i j _ _ b hi y _ _ h _=>by rw [qE (by unfold aA;omega),uI hi y] at h;cases h
 nd:=List.nodup_nil
 back:=fun b m h=>by cases h
 full:=fun i hi=>⟨0,by decide,by rw [qE (by unfold aA;omega)];exact zD hi,fun j b m y _ h H=>by cases H⟩
 spots:=fun _ h=>by cases h
end
section
attribute [local irreducible] aY a6
abbrev jd:=List (Nat × List (Int × Bool))
theorem mV {sl:jd} (h:(sl.map Prod.fst).Nodup) {b:Nat} {m m':List (Int × Bool)} (h1:(b,m)∈sl) (Y:(b,m')∈sl):m=m':=by
 induction sl with
 | nil=>cases h1
 | cons q r ih=>
  have y:=List.nodup_cons.1 h
  rcases List.mem_cons.1 h1 with e1 | H<;>rcases List.mem_cons.1 Y with e2 | J
  ·rw [←e1] at e2;cases e2;rfl
  ·subst e1;exact absurd (show b∈r.map Prod.fst from List.mem_map.2 ⟨(b,m'),J,rfl⟩) y.1
  ·subst e2;exact absurd (show b∈r.map Prod.fst from List.mem_map.2 ⟨(b,m),H,rfl⟩) y.1
  ·exact ih y.2 H J
def dD (sl:jd) (b:Nat) (m m':List (Int × Bool)):jd:=(b,m')::sl.erase (b,m)
theorem zE {sl:jd} {b:Nat} {m:List (Int × Bool)} (m':List (Int × Bool)) (h1:(b,m)∈sl):((dD sl b m m').map Prod.fst).Perm (sl.map Prod.fst):=by
 have:=((List.perm_cons_erase h1).map Prod.fst).symm
 simpa [dD] using this
theorem kz {sl:jd} (h:(sl.map Prod.fst).Nodup) {b:Nat} {m m':List (Int × Bool)} (h1:(b,m)∈sl) {c:Nat} {x:List (Int × Bool)} :(c,x)∈dD sl b m m'↔(c=b∧x=m')∨(c≠b∧(c,x)∈sl):=by
 have H:sl.Nodup:=(List.pairwise_map.1 h).imp fun h e=>h (by rw [e])
 unfold dD
 rw [List.mem_cons,Prod.mk.injEq,H.mem_erase_iff]
 constructor
 ·rintro (q | ⟨q,y⟩)
  ·exact .inl q
  ·refine .inr ⟨fun e=>q ?_,y⟩
   subst e
   rw [mV h y h1]
 ·rintro (q | ⟨q,y⟩)
  ·exact .inl q
  ·exact .inr ⟨fun e=>q (by cases e;rfl),y⟩
section
variable {s:bQ} {t:Int} {i j b:Nat} {m:List (Int × Bool)}
theorem bm.uK (h:bm s) {v:Bool} (h1:(b,m)∈s.sl) (q:(t,v)∈m): ∃ i j,i<11∧j<64∧s.cs[aA i j]?=some (.map (some b))∧ ∃ due:Nat,aB s.T t=some ((due:Int),(i:Int),(j:Int))∧lu s.now due i j:=by
 obtain ⟨i,j,hi,y,H⟩:=h.back b m h1 (List.ne_nil_of_mem q)
 obtain ⟨o,J,Y⟩:=h.slot i j hi y
 rw [H] at J
 cases J
 obtain ⟨m',hm',hk⟩:=Y b rfl
 rw [mV h.nd h1 hm'] at q
 exact ⟨i,j,hi,y,H,hk t v q⟩
abbrev gh (s:bQ) (t:Int):Prop:= ∀ b m v,(b,m)∈s.sl→(t,v) ∉ m
theorem bm.uL (h:bm s) (h1: ∀ due i j,aB s.T t=some (due,i,j)→i= -1):gh s t:=fun _ _ _ q y=>by
 obtain ⟨i,j,hi,_,_,due,H,_⟩:=h.uK q y
 have:=h1 _ _ _ H
 omega
abbrev OT (s:bQ):Prop:= ∀ q∈s.O,aB s.T q.1≠none
abbrev TK (T T':List (Int × Int × Int × Int)):Prop:= ∀ u,aB T' u≠none→aB T u≠none
theorem TK.del {T:List (Int × Int × Int × Int)} (q:cn T) (t:Int):TK T (aO T t):=fun _ h=>by
 rw [gu q] at h
 split at h
 ·exact absurd rfl h
 ·exact h
theorem qF {T:List (Int × Int × Int × Int)} (q:cn T) {t u:Int} (v:Int × Int × Int) (h:aB T u≠none):aB (aF T t v) u≠none:=by
 rw [fq q]
 split
 ·exact fun e=>by cases e
 ·exact h
theorem oy {T:List (Int × Int × Int × Int)} (q:cn T) {t:Int} (v:Int × Int × Int):aB (aF T t v) t≠none:=by
 rw [fq q,if_pos rfl]
 exact fun e=>by cases e
theorem zF {s:bQ} (H:cn s.T) {t:Int} (v:Int × Int × Int) (h:OT s): ∀ q∈aF s.O t true,aB (aF s.T t v) q.1≠none:=fun q y=>by
 rcases (gr (k':=q.1) (u:=q.2)).1 y with ⟨e,_⟩ | ⟨_,y⟩
 ·rw [e];exact oy H v
 ·exact qF H v (h q y)
theorem bm.uM (h:bm s) (O:List (Int × Bool)):bm { s with O:=O } :=⟨h.len,h.now0,h.nowlt,h.t1,h.o1,h.slot,h.uniq,h.nd,h.back,h.full,h.spots⟩
theorem bm.qG (h:bm s) {T:List (Int × Int × Int × Int)} (J:gh s t) (Y: ∀ u,u≠t→aB T u=aB s.T u) (hs: ∀ q∈T,(0≤q.2.1∧q.2.1<18446744073709551616)∧(q.2.2.1= -1∨(0≤q.2.2.1∧q.2.2.1<11))∧0≤q.2.2.2∧q.2.2.2<64):bm { s with T:=T } :=by
 refine ⟨h.len,h.now0,h.nowlt,h.t1,h.o1,fun i j hi hj=>?_,h.uniq,h.nd,h.back,h.full,hs⟩
 obtain ⟨o,ho,hm⟩:=h.slot i j hi hj
 refine ⟨o,ho,fun b e=>?_⟩
 obtain ⟨m,y,hk⟩:=hm b e
 refine ⟨m,y,fun u v H=>?_⟩
 obtain ⟨due,hd,hp⟩:=hk u v H
 refine ⟨due,?_,hp⟩
 show aB T u=_
 rw [Y u (fun e=>J b m v y (e▸H))]
 exact hd
theorem bm.uN (h:bm s) (hi:i<11) (hj:j<64) (hs:s.cs[aA i j]?=some (.map (some b))) (H:(b,m)∈s.sl) {m':List (Int × Bool)}
  (hm: ∀ u v,(u,v)∈m'→ ∃ due:Nat,aB s.T u=some ((due:Int),(i:Int),(j:Int))∧lu s.now due i j)
  (hf: ∀ f:Nat,s.cs[aA i 64]?=some (C4 f)→f.testBit j=false→m'=[]):bm { s with sl:=dD s.sl b m m' } :=by
 refine ⟨h.len,h.now0,h.nowlt,h.t1,h.o1,fun J Y hi' hj'=>?_,h.uniq,(zE m' H).nodup_iff.2 h.nd,fun c x y q=>?_,fun J hi'=>?_,h.spots⟩
 ·obtain ⟨o,ho,hk⟩:=h.slot J Y hi' hj'
  refine ⟨o,ho,fun c e=>?_⟩
  subst e
  by_cases hcb:c=b
  ·subst hcb
   obtain ⟨rfl,rfl⟩:=h.uniq J Y i j c hi' hj' hi hj ho hs
   exact ⟨m',(kz h.nd H).2 (.inl ⟨rfl,rfl⟩),hm⟩
  ·obtain ⟨x,q,hy⟩:=hk c rfl
   exact ⟨x,(kz h.nd H).2 (.inr ⟨hcb,q⟩),hy⟩
 ·rcases (kz h.nd H).1 y with ⟨rfl,rfl⟩ | ⟨_,y⟩
  ·exact ⟨i,j,hi,hj,hs⟩
  ·exact h.back c x y q
 ·obtain ⟨f,hf1,hf2,hf3⟩:=h.full J hi'
  refine ⟨f,hf1,hf2,fun Y c x hj' hbit y q=>?_⟩
  rcases (kz h.nd H).1 q with ⟨rfl,rfl⟩ | ⟨_,q⟩
  ·obtain ⟨rfl,rfl⟩:=h.uniq J Y i j c hi' hj' hi hj y hs
   exact hf f hf2 hbit
  ·exact hf3 Y c x hj' hbit y q
theorem cr {cs:List Value} {k:Nat} {v:Value} {x:Nat} (h:x≠k):(cs.set k v)[x]?=cs[x]?:=List.getElem?_set_ne (fun e=>h e.symm)
theorem bm.qH (h:bm s) (hi:i<11) {f:Nat} (hf:f<18446744073709551616) (he: ∀ j b m,j<64→f.testBit j=false→s.cs[aA i j]?=some (.map (some b))→(b,m)∈s.sl→m=[]):bm { s with cs:=s.cs.set (aA i 64) (C4 f) } :=by
 have hl:aA i 64<s.cs.length:=by rw [h.len];unfold aA;omega
 have y: ∀ H q,q<64→aA H q≠aA i 64:=fun H q hj'=>by unfold aA;omega
 refine ⟨by simp [h.len],by show (s.cs.set _ _)[0]?=_;rw [cr (by unfold aA;omega)];exact h.now0,h.nowlt,by show (s.cs.set _ _)[1]?=_;rw [cr (by unfold aA;omega)];exact h.t1,by show (s.cs.set _ _)[717]?=_;rw [cr (by unfold aA;omega)];exact h.o1,fun H q hi' hj'=>?_,fun i1 j1 i2 j2 c a1 Y a3 a4 h1 h2=>?_,h.nd,fun c x J hx=>?_,fun H hi'=>?_,h.spots⟩
 ·show ∃ o,(s.cs.set _ _)[aA H q]?=_∧_
  rw [cr (y H q hj')]
  exact h.slot H q hi' hj'
 ·rw [show (s.cs.set _ _)[aA i1 j1]?=_ from cr (y i1 j1 Y)] at h1
  rw [show (s.cs.set _ _)[aA i2 j2]?=_ from cr (y i2 j2 a4)] at h2
  exact h.uniq i1 j1 i2 j2 c a1 Y a3 a4 h1 h2
 ·obtain ⟨i1,j1,a1,Y,a3⟩:=h.back c x J hx
  exact ⟨i1,j1,a1,Y,(cr (y i1 j1 Y)).trans a3⟩
 ·by_cases hii:H=i
  ·subst hii
   refine ⟨f,hf,List.getElem?_set_self hl,fun q c x hj' hbit J hx=>?_⟩
   rw [show (s.cs.set _ _)[aA H q]?=_ from cr (y H q hj')] at J
   exact he q c x hj' hbit J hx
  ·obtain ⟨g,hg1,hg2,hg3⟩:=h.full H hi'
   refine ⟨g,hg1,(cr (by unfold aA;omega)).trans hg2,fun q c x hj' hbit J hx=>?_⟩
   rw [show (s.cs.set _ _)[aA H q]?=_ from cr (y H q hj')] at J
   exact hg3 q c x hj' hbit J hx
theorem bm.qI (h:bm s) (hi:i<11) (hj:j<64) (hs:s.cs[aA i j]?=some (.map none)) (hb:b ∉ s.sl.map Prod.fst):bm { s with cs:=s.cs.set (aA i j) (.map (some b)),sl:=(b,[])::s.sl } :=by
 have hl:aA i j<s.cs.length:=by rw [h.len];unfold aA;omega
 have H: ∀ y q,q<64→ ¬ (y=i∧q=j)→aA y q≠aA i j:=fun y q hj' hn e=>hn (by unfold aA at e;omega)
 have hb': ∀ x,(b,x) ∉ s.sl:=fun x J=>hb (List.mem_map_of_mem (f:=Prod.fst) J)
 have eh: ∀ y q c,y<11→q<64→s.cs[aA y q]?=some (.map (some c))→c≠b:=fun y q c h1 Y h3 e=>by
  obtain ⟨o,ho,hk⟩:=h.slot y q h1 Y
  rw [h3] at ho
  cases ho
  obtain ⟨x,J,_⟩:=hk c rfl
  exact hb' x (e▸J)
 refine ⟨by simp [h.len],by show (s.cs.set _ _)[0]?=_;rw [cr (by unfold aA;omega)];exact h.now0,h.nowlt,by show (s.cs.set _ _)[1]?=_;rw [cr (by unfold aA;omega)];exact h.t1,by show (s.cs.set _ _)[717]?=_;rw [cr (by unfold aA;omega)];exact h.o1,fun y q hi' hj'=>?_,fun i1 j1 i2 j2 c a1 a2 a3 a4 h1 Y=>?_,List.nodup_cons.2 ⟨hb,h.nd⟩,fun c x hc J=>?_,fun y hi'=>?_,h.spots⟩
 ·show ∃ o,(s.cs.set _ _)[aA y q]?=_∧_
  by_cases he:y=i∧q=j
  ·obtain ⟨rfl,rfl⟩:=he
   exact ⟨some b,List.getElem?_set_self hl,fun c e=>by cases e;exact ⟨[],.head _,fun _ _ J=>by cases J⟩⟩
  ·rw [cr (H y q hj' he)]
   obtain ⟨o,ho,hk⟩:=h.slot y q hi' hj'
   exact ⟨o,ho,fun c e=>let ⟨x,J,hy⟩:=hk c e;⟨x,.tail _ J,hy⟩⟩
 ·by_cases e1:i1=i∧j1=j<;>by_cases e2:i2=i∧j2=j
  ·exact ⟨e1.1.trans e2.1.symm,e1.2.trans e2.2.symm⟩
  ·obtain ⟨rfl,rfl⟩:=e1
   rw [show (s.cs.set _ _)[aA i1 j1]?=_ from List.getElem?_set_self hl] at h1
   rw [show (s.cs.set _ _)[aA i2 j2]?=_ from cr (H i2 j2 a4 e2)] at Y
   cases h1
   exact absurd rfl (eh i2 j2 _ a3 a4 Y)
  ·obtain ⟨rfl,rfl⟩:=e2
   rw [show (s.cs.set _ _)[aA i2 j2]?=_ from List.getElem?_set_self hl] at Y
   rw [show (s.cs.set _ _)[aA i1 j1]?=_ from cr (H i1 j1 a2 e1)] at h1
   cases Y
   exact absurd rfl (eh i1 j1 _ a1 a2 h1)
  ·rw [show (s.cs.set _ _)[aA i1 j1]?=_ from cr (H i1 j1 a2 e1)] at h1
   rw [show (s.cs.set _ _)[aA i2 j2]?=_ from cr (H i2 j2 a4 e2)] at Y
   exact h.uniq i1 j1 i2 j2 c a1 a2 a3 a4 h1 Y
 ·rcases List.mem_cons.1 hc with e | hc
  ·cases e;exact absurd rfl J
  ·obtain ⟨i1,j1,a1,a2,a3⟩:=h.back c x hc J
   have he: ¬ (i1=i∧j1=j):=fun e=>by rw [e.1,e.2,hs] at a3;cases a3
   exact ⟨i1,j1,a1,a2,(cr (H i1 j1 a2 he)).trans a3⟩
 ·obtain ⟨g,hg1,hg2,hg3⟩:=h.full y hi'
  refine ⟨g,hg1,(cr (by unfold aA;omega)).trans hg2,fun q c x hj' hbit hc J=>?_⟩
  rcases List.mem_cons.1 J with e | hx2
  ·cases e;rfl
  ·by_cases he:y=i∧q=j
   ·obtain ⟨rfl,rfl⟩:=he
    rw [show (s.cs.set _ _)[aA y q]?=_ from List.getElem?_set_self hl] at hc
    cases hc
    exact absurd hx2 (hb' x)
   ·rw [show (s.cs.set _ _)[aA y q]?=_ from cr (H y q hj' he)] at hc
    exact hg3 q c x hj' hbit hc hx2
theorem bm.qJ (h:bm s) {d:Int} (y:aB s.T t=some (d,(i:Int),(j:Int))) {v:Bool} (h1:(b,m)∈s.sl) (H:(t,v)∈m):s.cs[aA i j]?=some (.map (some b)):=by
 obtain ⟨J,Y,_,_,h3,due,q,_⟩:=h.uK h1 H
 rw [y] at q
 simp only [Option.some.injEq,Prod.mk.injEq] at q
 obtain ⟨_,h5,h6⟩:=q
 have e1:J=i:=by omega
 have e2:Y=j:=by omega
 rw [←e1,←e2]
 exact h3
theorem bm.qK (h:bm s) (y:cn s.T) (H:gh s t):bm { s with T:=aO s.T t } :=
 h.qG H (fun u J=>by rw [gu y,if_neg J]) fun q Y=>h.spots q ((eK (k':=q.1) (u:=q.2)).1 Y).2
theorem bm.zG (h:bm s) (q:cn s.T) {d:Int} (y:aB s.T t=some (d,(i:Int),(j:Int))) (H:s.cs[aA i j]?=some (.map none)):bm { s with T:=aO s.T t } :=
 h.qK q fun _ _ _ J Y=>by have:=h.qJ y J Y;rw [H] at this;cases this
theorem bm.uO (h:bm s) (hA:cn s.T) {d:Int} (ht:aB s.T t=some (d,(i:Int),(j:Int))) (hi:i<11) (H:j<64) (q:s.cs[aA i j]?=some (.map (some b))) (y:(b,m)∈s.sl):bm { s with T:=aO s.T t,sl:=dD s.sl b m (aO m t) } :=by
 obtain ⟨o,ho,J⟩:=h.slot i j hi H
 rw [q] at ho
 cases ho
 obtain ⟨m1,Y,J⟩:=J b rfl
 cases mV h.nd y Y
 obtain ⟨f,hf1,hf2,hf3⟩:=h.full i hi
 have h1:bm { s with sl:=dD s.sl b m (aO m t) } :=h.uN hi H q y (fun u v hu=>J u v (eK.1 hu).2) fun g hg hbit=>by
  rw [hf2] at hg
  simp only [Option.some.injEq,Value.int.injEq,true_and] at hg
  have e:f=g:=by omega
  rw [hf3 j b m H (e▸hbit) q y];rfl
 refine h1.qK hA fun _ _ v hc hx=>?_
 rcases (kz h.nd y).1 hc with ⟨rfl,rfl⟩ | ⟨hne,hc⟩
 ·exact (eK.1 hx).1 rfl
 ·have:=h.qJ ht hc hx
  rw [q] at this
  cases this
  exact hne rfl
end
def dE (f j:Nat):Nat:=f &&& (18446744073709551615 - 2 ^ j)
theorem qL {f j:Nat} (q:f<18446744073709551616) (y:j<64):aH .andNot .u64 (f:Int) ((2 ^ j:Nat):Int)=((dE f j:Nat):Int):=by
 have h1: ∀ z:Nat,z<18446744073709551616→(BitVec.ofInt 64 (z:Int)).toNat=z:=fun z hz=>by
  rw [BitVec.ofInt_natCast,BitVec.toNat_ofNat];exact Nat.mod_eq_of_lt hz
 show IntKind.u64.wrap ((BitVec.ofInt 64 (f:Int) &&& ~~~ (BitVec.ofInt 64 ((2 ^ j:Nat):Int))).toNat:Int)=_
 rw [BitVec.toNat_and,BitVec.toNat_not,h1 f q,h1 _ (ja y)]
 have H:(2:Nat) ^ 64 - 1 - 2 ^ j=18446744073709551615 - 2 ^ j:=by rfl
 rw [H]
 have h3:f &&& (18446744073709551615 - 2 ^ j)≤f:=Nat.and_le_left
 exact IntWalk.u64_in _ (by omega)
theorem qM {f j:Nat} (q:f<18446744073709551616):dE f j<18446744073709551616:=Nat.lt_of_le_of_lt Nat.and_le_left q
theorem qN {f j i:Nat} (q:j<64) (hi:i<64) (h:i≠j):(dE f j).testBit i=f.testBit i:=by
 unfold dE
 rw [Nat.testBit_and,qz (ja q) hi,Nat.testBit_two_pow]
 simp [Ne.symm h]
theorem mW {z:Int} {j:Nat} (hz:z=j) (h:j<64):IntKind.u64.wrap (1*2 ^ (min z.toNat IntKind.u64.bits))=((2 ^ j:Nat):Int):=by subst hz;exact uB h
end
section
attribute [local irreducible] ay aQ aH aY a6 aW
theorem lv {w:World} {f:Fr} {o:Oper} {x i:Operand} {p n:Nat} {z:Int} (q:o.op= .indexAddr 273 x i) (y:ev f x= .pointer (some ⟨p,2,none⟩)) (hi:ev f i=C5 z) (hz:z=n) (hn:n<11):
  (execOp (ev f) o).run Tryz.prog w= .ok (.value (.pointer (some ⟨p,2+65*n,none⟩))) w:=by
 have h:=jD (w:=w) (len:=11) (elem:=272) (sz:=65) q Tryz.underlying273 (by kernel_rfl) y hi (by omega)
 rw [add_plain] at h
 subst hz
 rw [h]
 simp [Nat.mul_comm]
theorem gT {w:World} {f:Fr} {o:Oper} {x i:Operand} {p q n:Nat} {z:Int} (y:o.op= .indexAddr 270 x i) (H:ev f x= .pointer (some ⟨p,q,none⟩)) (hi:ev f i=C5 z) (hz:z=n) (hn:n<64):
  (execOp (ev f) o).run Tryz.prog w= .ok (.value (.pointer (some ⟨p,q+n,none⟩))) w:=by
 have h:=jD (w:=w) (len:=64) (elem:=269) (sz:=1) y Tryz.underlying270 (by kernel_rfl) H hi (by omega)
 rw [add_plain] at h
 subst hz
 rw [h]
 simp
theorem zH {P:Program} {w:World} {f:Fr} {o:Oper} {x:Operand} {t e:TypeId} {z:Value} {T:bN P} (q:o.op= .call { callee:= .builtin .len,args:=#[x],argTypes:=#[t] }) [h:cR P t T e z] (y:ev f x= .map none):
  (execOp (ev f) o).run P w= .ok (.value (C5 0)) w:=by
 unfold execOp
 simp [q,resolve,invoke,builtin,y,Builtin.len_,Builtin.lenOf,run_underlying h.und,goInt]
abbrev cM (t:Int):Prop:= -9223372036854775808≤t∧t<9223372036854775808
section
variable {w0 w:World} {L R:List ao} {K:Value→World→Prop} {p:Nat} {s:bQ}
theorem c88 (H:SH w0 w L) (k: ∀ p s w',(s.now=0∧s.T=[])→SH w0 w' (a8 p s::L)→K (.tuple #[pt p,C5 0]) w'):D 88 [C4 0] w K:=by
 refine s88 rfl<|ac<|aq<|Dh<|ak<|ac<|pa 1 rfl<|aZ (eZ rfl H fun q _ H=>aZ (eZ rfl H fun y _ H=>⟨by kernel_rfl,a6 q y,by kernel_rfl,H.az (a6 q y) fun J Y H=>ah ?_⟩))
 have hL4:SH w0 Y (Cl J 275 (a6 q y)::Mt bF q []::Mt a7 y []::bi (bJ [])::L):=by
  have h1:SH w0 Y ([]++(Cl J 275 (a6 q y)::Mt a7 y []::Mt bF q []::L)):=H
  have h2:SH w0 Y (bi (bJ [])::Cl J 275 (a6 q y)::Mt a7 y []::Mt bF q []::L):=h1.star
  exact h2.ae
 exact k J ⟨0,a6 q y,q,[],y,[],[]⟩ Y ⟨rfl,rfl⟩ (SH.dK hL4 (uJ q y))
theorem c172 (y:SH w0 w L) [q:aC (a8 p) L s R] (k:s.now<18446744073709551616→SH w0 w (a8 p s::R)→K (C4 s.now) w):D 172 [pt p] w K:=by
 have hL0:=y.at (a8 p)
 obtain ⟨H,y⟩:=SH.ec y p
 exact s172 rfl<|ac<|ac ⟨_,y.ld (b:=p) H.now0,ah (k H.nowlt hL0)⟩
theorem c173 {t:Int} (ht:cM t) (y:SH w0 w L) [q:aC (a8 p) L s R] (k1:aB s.T t=none→ ∀ w',SH w0 w' (a8 p s::R)→K (.tuple #[C4 0,.bool false]) w')
  (k2: ∀ due i j,aB s.T t=some (due,i,j)→(0≤due∧due<18446744073709551616)→ ∀ w',SH w0 w' (a8 p s::R)→K (.tuple #[C4 due,.bool true]) w'):D 173 [pt p,C5 t] w K:=by
 obtain ⟨hs,y⟩:=SH.ec y p
 have ht1:=hs.t1
 refine s173 rfl<|ac<|ac ⟨_,y.ld (b:=p) ‹_›,dh rfl rfl rfl (by omega) y (fun H=>?_) (fun J H=>?_)⟩
 ·exact y.an fun Y w_6 y=>y.aj (b:=Y) fun _ y=>ac<|y.C9 (b:=Y) rfl<|ah<|k1 H _ (SH.dK y.ae hs)
 ·exact y.an fun Y w_6 y=>y.aj (b:=Y) fun _ y=>ac<|y.C9 (b:=Y) rfl<|ah<|k2 J.1 J.2.1 J.2.2 H (hs.spots _ (cU H)).1 _ (SH.dK y.ae hs)
theorem c174 {t:Int} (ht:cM t) (y:SH w0 w L) [q:aC (a8 p) L s R] (k: ∀ b s' w',(s'.now=s.now∧aB s'.T t=none∧TK s.T s'.T)→SH w0 w' (a8 p s'::R)→K (.bool b) w'):D 174 [pt p,.int .i64 t] w K:=by
 obtain ⟨hs,y⟩:=SH.ec y p
 have ht1:=hs.t1
 have ho1:=hs.o1
 have hA:=y.apart s.tb (T:=bF)
 refine s174 rfl<|ac<|ac ?_
 refine ⟨_,y.ld (b:=p) (by assumption),dh rfl rfl rfl (by omega) y (fun Y=>?_) (fun H Y=>?_)⟩
 ·refine y.an fun J w_5 y=>y.aj (b:=J) fun _ y=>aq ?_
  refine ⟨_,rfl,ac (ah ?_)⟩
  exact k _ s _ ⟨rfl,Y,fun _ h=>h⟩ (SH.dK y.ae hs)
 ·refine y.an fun J w_5 y=>y.aj (b:=J) fun _ y=>aq ?_
  refine ⟨_,rfl,ak (ac ?_)⟩
  refine ⟨_,y.ld (b:=p) (by assumption),aZ (gd rfl rfl rfl (by omega) y rfl fun _ y=>aq ?_)⟩
  refine ⟨_,y.ld (b:=J) rfl,ap (fun h_26'=>?_) (fun h_26'=>?_)⟩
  ·refine ac ⟨_,y.ld (b:=p) (by assumption),aZ (gd rfl rfl rfl (by omega) y rfl fun _ y=>?_)⟩
   refine ac<|ah ?_
   have ha:gh s t:=hs.uL fun _ i j h=>by rw [Y] at h;cases h;exact h_26'
   exact k _ { s with O:=aO s.O t,T:=aO s.T t } _ ⟨rfl,by show aB (aO s.T t) t=none;rw [gu hA,if_pos rfl],TK.del hA t⟩ (SH.dK (R:=R) (y.ae (L':=Cl p 275 s.cs::Mt bF s.tb (aO s.T t)::Mt a7 s.ob (aO s.O t)::bi (bJ s.sl)::R)) ((hs.uM (aO s.O t)).qK hA ha))
  ·refine ak<|aJ<|have y:=y.drew;?_
   refine ⟨_,y.ld (b:=J) rfl,?_⟩
   obtain ⟨⟨hd1,hd2⟩,hlv,hsl⟩:=hs.spots _ (cU Y)
   simp only at hlv hsl hd1 hd2
   obtain ⟨i,hi⟩: ∃ i:Nat,H.2.1=i:=⟨H.2.1.toNat,by omega⟩
   obtain ⟨j,hj⟩: ∃ j:Nat,H.2.2=j:=⟨H.2.2.toNat,by omega⟩
   have hT:aB s.T t=some (H.1,(i:Int),(j:Int)):=by rw [Y,←hi,←hj]
   have hi':i<11:=by omega
   have hj':j<64:=by omega
   obtain ⟨o,ho,hm⟩:=hs.slot i j hi' hj'
   obtain ⟨fl,hf1,hf2,hf3⟩:=hs.full i hi'
   cases o with
   | none=>
    refine ⟨_,lv rfl rfl rfl (by assumption) (by assumption),aJ ?_⟩
    have y:=y.drew
    refine ⟨_,y.ld (b:=J) rfl,⟨_,gT rfl rfl rfl (by assumption) (by assumption),⟨_,y.ld (b:=p) (by assumption),?_⟩⟩⟩
    refine d' (zA rfl rfl rfl (by omega) rfl (fV ?_))
    have y:=y.drew
    refine ⟨_,y.ld (b:=J) rfl,⟨_,gT rfl rfl rfl (by assumption) (by assumption),⟨_,y.ld (b:=p) (by assumption),?_⟩⟩⟩
    refine ⟨_,zH rfl rfl,⟨true,decide_eq_true (by decide),cv ?_⟩⟩
    have y:=y.drew
    refine ⟨_,y.ld (b:=p) (by assumption),⟨_,y.ld (b:=J) rfl,⟨by omega,_,mW hj hj',?_⟩⟩⟩
    refine ⟨_,qL hf1 hj',y.cp (b:=p) [.int .u64 ((dE fl j:Nat):Int)] (fun w_99 y=>?_) (hl:=Nat.ble_eq_true_of_le (by rw [hs.len];show 2+65*i+64+1≤718;omega))⟩
    have y:SH w0 w_99 (Cl p 275 (s.cs.set (aA i 64) (.int .u64 ((dE fl j:Nat):Int)))::_):=y
    refine ac<|ah ?_
    exact k _ { s with cs:=s.cs.set (aA i 64) (.int .u64 ((dE fl j:Nat):Int)),T:=aO s.T t } _ ⟨rfl,by show aB (aO s.T t) t=none;rw [gu hA,if_pos rfl],TK.del hA t⟩ (SH.dK (R:=R) (y.ae (L':=Cl p 275 (s.cs.set (aA i 64) (.int .u64 ((dE fl j:Nat):Int)))::Mt bF s.tb (aO s.T t)::Mt a7 s.ob s.O::bi (bJ s.sl)::R)) ((hs.zG hA hT ho).qH hi' (qM hf1) fun j' c x hj2 hbit hc hx=>by
     by_cases e:j'=j
     ·subst e;have:=ho.symm.trans hc;cases this
     ·exact hf3 j' c x hj2 (by rw [←qN hj' hj2 e];exact hbit) hc hx))
   | some b=>
    obtain ⟨m,hb,hk⟩:=hm b rfl
    have y:=SH.qC (y.ae (L':=bi (bJ s.sl)::Cl J 405 [.int .u64 H.1,.int .i64 H.2.1,.int .i64 H.2.2]::Cl p 275 s.cs::Mt bF s.tb (aO s.T t)::Mt a7 s.ob s.O::R)) hb
    refine ⟨_,lv rfl rfl rfl (by assumption) (by assumption),aJ ?_⟩
    have y:=y.drew
    refine ⟨_,y.ld (b:=J) rfl,⟨_,gT rfl rfl rfl (by assumption) (by assumption),⟨_,y.ld (b:=p) (by assumption),?_⟩⟩⟩
    refine d' (gd rfl rfl rfl (by omega) y rfl fun _ y=>fV ?_)
    have y:=y.drew
    refine ⟨_,y.ld (b:=J) rfl,⟨_,gT rfl rfl rfl (by assumption) (by assumption),⟨_,y.ld (b:=p) (by assumption),?_⟩⟩⟩
    refine ⟨_,iz rfl rfl y,ap (fun h_54=>?_) (fun h_54=>?_)⟩
    ·refine cv<|have y:=y.drew;⟨_,y.ld (b:=p) (by assumption),?_⟩
     refine ⟨_,y.ld (b:=J) rfl,⟨by omega,_,mW hj hj',⟨_,qL hf1 hj',?_⟩⟩⟩
     refine y.cp (b:=p) [.int .u64 ((dE fl j:Nat):Int)] (fun w_99 y=>?_) (hl:=Nat.ble_eq_true_of_le (by rw [hs.len];show 2+65*i+64+1≤718;omega))
     have y:SH w0 w_99 (Cl p 275 (s.cs.set (aA i 64) (.int .u64 ((dE fl j:Nat):Int)))::_):=y
     refine ac<|ah ?_
     have y:SH w0 _ (bi (bJ (dD s.sl b m (aO m t)))::_):=SH.ov (y.ae (L':=Mt a7 b (aO m t)::bi (bJ (s.sl.erase (b,m)))::Cl p 275 (s.cs.set (aA i 64) (.int .u64 ((dE fl j:Nat):Int)))::Mt bF s.tb (aO s.T t)::Mt a7 s.ob s.O::R))
     have hm0:aO m t=[]:=List.eq_nil_of_length_eq_zero (by omega)
     exact k _ { s with cs:=s.cs.set (aA i 64) (.int .u64 ((dE fl j:Nat):Int)),T:=aO s.T t,sl:=dD s.sl b m (aO m t) } _ ⟨rfl,by show aB (aO s.T t) t=none;rw [gu hA,if_pos rfl],TK.del hA t⟩ (SH.dK (R:=R) (y.ae (L':=Cl p 275 (s.cs.set (aA i 64) (.int .u64 ((dE fl j:Nat):Int)))::Mt bF s.tb (aO s.T t)::Mt a7 s.ob s.O::bi (bJ (dD s.sl b m (aO m t)))::R)) ((hs.uO hA hT hi' hj' ho hb).qH hi' (qM hf1) fun j' c x hj2 hbit hc hx=>by
      rcases (kz hs.nd hb).1 hx with ⟨_,rfl⟩ | ⟨hne,hx⟩
      ·exact hm0
      ·by_cases e:j'=j
       ·subst e;have:=ho.symm.trans hc;cases this;exact absurd rfl hne
       ·exact hf3 j' c x hj2 (by rw [←qN hj' hj2 e];exact hbit) hc hx))
    ·refine ak<|ac<|ah ?_
     have y:SH w0 _ (bi (bJ (dD s.sl b m (aO m t)))::_):=SH.ov (y.ae (L':=Mt a7 b (aO m t)::bi (bJ (s.sl.erase (b,m)))::Cl p 275 s.cs::Mt bF s.tb (aO s.T t)::Mt a7 s.ob s.O::R))
     exact k _ { s with T:=aO s.T t,sl:=dD s.sl b m (aO m t) } _ ⟨rfl,by show aB (aO s.T t) t=none;rw [gu hA,if_pos rfl],TK.del hA t⟩ (SH.dK (R:=R) (y.ae (L':=Cl p 275 s.cs::Mt bF s.tb (aO s.T t)::Mt a7 s.ob s.O::bi (bJ (dD s.sl b m (aO m t)))::R)) (hs.uO hA hT hi' hj' ho hb))
end
end
end Go.Proofs.YtlhpilgmeededaaGreatDoor
