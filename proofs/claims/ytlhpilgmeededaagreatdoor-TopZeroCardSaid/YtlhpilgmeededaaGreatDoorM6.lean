/- Part 6 of what the law leans on: OpenT -/
import Derived.Test.YtlhpilgmeededaaGreatDoorM5
import Derived.Deep.Slices
import Derived.WalkKit
import Derived.ProofKit
import Derived.OpenShut
import Derived.ChangeOld
import Derived.ChangeArms
import Derived.Below
import Derived.Carry
import Derived.SizedLaws
import Derived.LaidLaws
import Derived.LaidHandle
set_option linter.unusedVariables false
set_option linter.unusedSimpArgs false
namespace Go.Proofs.YtlhpilgmeededaaGreatDoor
open Go Go.Den Go.ChangeShapes Go.WideShapes Go.ChangeAt Go.RowKit
set_option maxHeartbeats 4000000
set_option maxRecDepth 8000
theorem CH {w:World} {r:Reach} {b:Nat} {u:TypeId} {k:IntKind} {v:Value} (q:Tryz.prog.underlying u=some (.int k)) (h:Cell.okWide Tryz.prog w r b u v): ∃ n,v= .int k n∧k.has n:=by
 simp only [Cell.okWide,q] at h
 cases v<;>simp_all [Cell.ok]
theorem gI {n:Int} (h:IntKind.has .u8 n): ∃ m:Nat,n=m∧m<256:=by
 have h1:0≤n:=h.1
 have h2:n≤255:=h.2
 exact ⟨n.toNat,by omega,by omega⟩
theorem iL {n:Int} (h:IntKind.has .u32 n): ∃ m:Nat,n=m∧m<4294967296:=by
 have h1:0≤n:=h.1
 have h2:n≤4294967295:=h.2
 exact ⟨n.toNat,by omega,by omega⟩
theorem lP {n:Int} (h:IntKind.has .u64 n): ∃ m:Nat,n=m∧m<18446744073709551616:=by
 have h1:0≤n:=h.1
 have h2:n≤18446744073709551615:=h.2
 exact ⟨n.toNat,by omega,by omega⟩
theorem CI {w:World} {r:Reach} {b:Nat} {v:Value} (h:Value.okWide Tryz.prog w r b 37 v): ∃ c:fB,v=iJ c∧iI c:=by
 simp only [Value.okWide,Tryz.underlying37] at h
 obtain ⟨cs,rfl,hs,ts,hts,_,hc⟩:=h
 have ht:Tryz.prog.cellTypes Tryz.prog.depth 37=some [22,3,22,3,22,5,5,5,5,5,5,5,5,5,5,5,5,3,3,3,3,29,29,29,29,3,3,29,29,3,3,22,22,22,22,22,22,22]:=by kernel_rfl
 obtain rfl:[22,3,22,3,22,5,5,5,5,5,5,5,5,5,5,5,5,3,3,3,3,29,29,29,29,3,3,29,29,3,3,22,22,22,22,22,22,22]=ts:=Option.some.inj (ht.symm.trans hts)
 have h38:cs.size=38:=hs.trans (by kernel_rfl)
 have g: ∀ (i:Nat) (u:TypeId) (k:IntKind),i<38→([22,3,22,3,22,5,5,5,5,5,5,5,5,5,5,5,5,3,3,3,3,29,29,29,29,3,3,29,29,3,3,22,22,22,22,22,22,22]:List TypeId)[i % 38]?=some u→Tryz.prog.underlying u=some (.int k)→ ∃ n,cs[i]?=some (.int k n)∧k.has n:=fun i u k hi hu hk=>by
  obtain ⟨u',h1,h2⟩:=hc i cs[i] (Array.getElem?_eq_getElem (by omega))
  obtain rfl:u=u':=Option.some.inj (hu.symm.trans h1)
  obtain ⟨n,h3,h4⟩:=CH hk h2
  exact ⟨n,by rw [Array.getElem?_eq_getElem (by omega),h3],h4⟩
 obtain ⟨n0,e0,h0⟩:=g 0 22 .u32 (by decide) rfl Tryz.underlying22
 obtain ⟨n1,e1,h1⟩:=g 1 3 .i64 (by decide) rfl Tryz.underlying3
 obtain ⟨n2,e2,h2⟩:=g 2 22 .u32 (by decide) rfl Tryz.underlying22
 obtain ⟨n3,e3,h3⟩:=g 3 3 .i64 (by decide) rfl Tryz.underlying3
 obtain ⟨n4,e4,h4⟩:=g 4 22 .u32 (by decide) rfl Tryz.underlying22
 obtain ⟨n5,e5,h5⟩:=g 5 5 .u8 (by decide) rfl Tryz.underlying5
 obtain ⟨n6,e6,h6⟩:=g 6 5 .u8 (by decide) rfl Tryz.underlying5
 obtain ⟨n7,e7,h7⟩:=g 7 5 .u8 (by decide) rfl Tryz.underlying5
 obtain ⟨n8,e8,h8⟩:=g 8 5 .u8 (by decide) rfl Tryz.underlying5
 obtain ⟨n9,e9,h9⟩:=g 9 5 .u8 (by decide) rfl Tryz.underlying5
 obtain ⟨n10,e10,h10⟩:=g 10 5 .u8 (by decide) rfl Tryz.underlying5
 obtain ⟨n11,e11,h11⟩:=g 11 5 .u8 (by decide) rfl Tryz.underlying5
 obtain ⟨n12,e12,h12⟩:=g 12 5 .u8 (by decide) rfl Tryz.underlying5
 obtain ⟨n13,e13,h13⟩:=g 13 5 .u8 (by decide) rfl Tryz.underlying5
 obtain ⟨n14,e14,h14⟩:=g 14 5 .u8 (by decide) rfl Tryz.underlying5
 obtain ⟨n15,e15,h15⟩:=g 15 5 .u8 (by decide) rfl Tryz.underlying5
 obtain ⟨n16,e16,h16⟩:=g 16 5 .u8 (by decide) rfl Tryz.underlying5
 obtain ⟨q,e17,h17⟩:=g 17 3 .i64 (by decide) rfl Tryz.underlying3
 obtain ⟨y,e18,h18⟩:=g 18 3 .i64 (by decide) rfl Tryz.underlying3
 obtain ⟨J,e19,h19⟩:=g 19 3 .i64 (by decide) rfl Tryz.underlying3
 obtain ⟨Y,e20,h20⟩:=g 20 3 .i64 (by decide) rfl Tryz.underlying3
 obtain ⟨n21,e21,h21⟩:=g 21 29 .u64 (by decide) rfl Tryz.underlying29
 obtain ⟨n22,e22,h22⟩:=g 22 29 .u64 (by decide) rfl Tryz.underlying29
 obtain ⟨n23,e23,h23⟩:=g 23 29 .u64 (by decide) rfl Tryz.underlying29
 obtain ⟨n24,e24,h24⟩:=g 24 29 .u64 (by decide) rfl Tryz.underlying29
 obtain ⟨n25,e25,h25⟩:=g 25 3 .i64 (by decide) rfl Tryz.underlying3
 obtain ⟨n26,e26,h26⟩:=g 26 3 .i64 (by decide) rfl Tryz.underlying3
 obtain ⟨n27,e27,h27⟩:=g 27 29 .u64 (by decide) rfl Tryz.underlying29
 obtain ⟨n28,e28,h28⟩:=g 28 29 .u64 (by decide) rfl Tryz.underlying29
 obtain ⟨n29,e29,h29⟩:=g 29 3 .i64 (by decide) rfl Tryz.underlying3
 obtain ⟨n30,e30,h30⟩:=g 30 3 .i64 (by decide) rfl Tryz.underlying3
 obtain ⟨n31,e31,h31⟩:=g 31 22 .u32 (by decide) rfl Tryz.underlying22
 obtain ⟨n32,e32,h32⟩:=g 32 22 .u32 (by decide) rfl Tryz.underlying22
 obtain ⟨n33,e33,h33⟩:=g 33 22 .u32 (by decide) rfl Tryz.underlying22
 obtain ⟨n34,e34,h34⟩:=g 34 22 .u32 (by decide) rfl Tryz.underlying22
 obtain ⟨n35,e35,h35⟩:=g 35 22 .u32 (by decide) rfl Tryz.underlying22
 obtain ⟨n36,e36,h36⟩:=g 36 22 .u32 (by decide) rfl Tryz.underlying22
 obtain ⟨n37,e37,h37⟩:=g 37 22 .u32 (by decide) rfl Tryz.underlying22
 have hl:cs=#[.int .u32 n0,.int .i64 n1,.int .u32 n2,.int .i64 n3,.int .u32 n4,.int .u8 n5,.int .u8 n6,.int .u8 n7,.int .u8 n8,.int .u8 n9,.int .u8 n10,.int .u8 n11,.int .u8 n12,.int .u8 n13,.int .u8 n14,.int .u8 n15,.int .u8 n16,.int .i64 q,.int .i64 y,.int .i64 J,.int .i64 Y,.int .u64 n21,.int .u64 n22,.int .u64 n23,.int .u64 n24,.int .i64 n25,.int .i64 n26,.int .u64 n27,.int .u64 n28,.int .i64 n29,.int .i64 n30,.int .u32 n31,.int .u32 n32,.int .u32 n33,.int .u32 n34,.int .u32 n35,.int .u32 n36,.int .u32 n37]:=by
  apply Array.ext_getElem?
  intro i
  by_cases hi:i<38
  ·rcases (show i=0∨i=1∨i=2∨i=3∨i=4∨i=5∨i=6∨i=7∨i=8∨i=9∨i=10∨i=11∨i=12∨i=13∨i=14∨i=15∨i=16∨i=17∨i=18∨i=19∨i=20∨i=21∨i=22∨i=23∨i=24∨i=25∨i=26∨i=27∨i=28∨i=29∨i=30∨i=31∨i=32∨i=33∨i=34∨i=35∨i=36∨i=37 by omega) with rfl | rfl | rfl | rfl | rfl | rfl | rfl | rfl | rfl | rfl | rfl | rfl | rfl | rfl | rfl | rfl | rfl | rfl | rfl | rfl | rfl | rfl | rfl | rfl | rfl | rfl | rfl | rfl | rfl | rfl | rfl | rfl | rfl | rfl | rfl | rfl | rfl | rfl
   ·exact e0
   ·exact e1
   ·exact e2
   ·exact e3
   ·exact e4
   ·exact e5
   ·exact e6
   ·exact e7
   ·exact e8
   ·exact e9
   ·exact e10
   ·exact e11
   ·exact e12
   ·exact e13
   ·exact e14
   ·exact e15
   ·exact e16
   ·exact e17
   ·exact e18
   ·exact e19
   ·exact e20
   ·exact e21
   ·exact e22
   ·exact e23
   ·exact e24
   ·exact e25
   ·exact e26
   ·exact e27
   ·exact e28
   ·exact e29
   ·exact e30
   ·exact e31
   ·exact e32
   ·exact e33
   ·exact e34
   ·exact e35
   ·exact e36
   ·exact e37
  ·rw [Array.getElem?_eq_none (by omega),Array.getElem?_eq_none (by show 38≤i;omega)]
 subst hl
 obtain ⟨m0,rfl,b0⟩:=iL h0
 obtain ⟨m2,rfl,b2⟩:=iL h2
 obtain ⟨m4,rfl,b4⟩:=iL h4
 obtain ⟨m5,rfl,b5⟩:=gI h5
 obtain ⟨m6,rfl,b6⟩:=gI h6
 obtain ⟨m7,rfl,b7⟩:=gI h7
 obtain ⟨m8,rfl,b8⟩:=gI h8
 obtain ⟨m9,rfl,b9⟩:=gI h9
 obtain ⟨m10,rfl,b10⟩:=gI h10
 obtain ⟨m11,rfl,b11⟩:=gI h11
 obtain ⟨m12,rfl,b12⟩:=gI h12
 obtain ⟨m13,rfl,b13⟩:=gI h13
 obtain ⟨m14,rfl,b14⟩:=gI h14
 obtain ⟨m15,rfl,b15⟩:=gI h15
 obtain ⟨m16,rfl,b16⟩:=gI h16
 obtain ⟨m21,rfl,b21⟩:=lP h21
 obtain ⟨m22,rfl,b22⟩:=lP h22
 obtain ⟨m23,rfl,b23⟩:=lP h23
 obtain ⟨m24,rfl,b24⟩:=lP h24
 obtain ⟨m27,rfl,b27⟩:=lP h27
 obtain ⟨m28,rfl,b28⟩:=lP h28
 obtain ⟨m31,rfl,b31⟩:=iL h31
 obtain ⟨m32,rfl,b32⟩:=iL h32
 obtain ⟨m33,rfl,b33⟩:=iL h33
 obtain ⟨m34,rfl,b34⟩:=iL h34
 obtain ⟨m35,rfl,b35⟩:=iL h35
 obtain ⟨m36,rfl,b36⟩:=iL h36
 obtain ⟨m37,rfl,b37⟩:=iL h37
 exact ⟨⟨m0,n1,m2,n3,m4,m5,m6,m7,m8,m9,m10,m11,m12,m13,m14,m15,m16,q,y,J,Y,m21,m22,m23,m24,n25,n26,m27,m28,n29,n30,m31,m32,m33,m34,m35,m36,m37⟩,rfl,⟨⟨b0,b2,b4⟩,⟨_,_,_,_,_,_,rfl,b5,b6,b7,b8,b9,b10⟩,⟨_,_,_,_,_,_,rfl,b11,b12,b13,b14,b15,b16⟩,⟨b31,b32,b33,b34,b35,b36,b37⟩⟩⟩
section
variable {H:Type} {enc:TypeId × Value→H} {W:World} {base:Nat} {spare:Nat→Bool} {held:Bool}
theorem CJ {fuel:Nat} {cs:List Value} {x:DataW H × List MemPlace} (h:DataW.trod enc Tryz.prog W base spare held fuel 44 cs=some x) (hw: ∀ n∈x.1.weights Tryz.prog 44,n≤reachBytes):
  ∃ (v:Value) (bs:List Nat),cs=[v]∧Rb W v bs:=by
 have ce:Tryz.prog.cellsOf 5=1:=by kernel_rfl
 have be:Tryz.prog.bytesOf 5=1:=by kernel_rfl
 rcases Deep.open_slice Tryz.underlying44 h with ⟨J,_⟩ | ⟨a,len,cap,m,n,D,Pl,J,_,hl,_,hm,hx1,hx⟩
 ·exact ⟨_,[],J,l4 _ _ _ _,by simp,by simp,⟨none,0,rfl,Nat.le_refl _⟩⟩
 ·have hlm:len≤m:=by rw [hm];split<;>omega
  have each: ∀ i,i<len→ ∃ z:Nat,W.cell? (a.add i)=some (.int .u8 (z:Int))∧z<256:=by
   intro i hi
   obtain ⟨cs',h1,h2⟩:=hx i (by omega)
   obtain ⟨z,rfl,_,hz⟩:=DataW.trod_int Tryz.underlying5 h2
   have hb:=bounds_u8 hz
   rw [ce] at h1
   obtain ⟨_,hlen,hcell⟩:=World.cells?_some h1
   have:=hcell 0 (by omega)
   rw [Deep.add_add] at this
   refine ⟨z.toNat,?_,by omega⟩
   rw [show ((z.toNat:Nat):Int)=z by omega]
   simpa using this
  obtain ⟨q,hq⟩:=Deep.choose_lt each
  have y:((List.range len).map q).length=len:=by simp
  refine ⟨.slice (some a) len cap,(List.range len).map q,J,⟨by rw [y];simp [aT],_,_,by rw [y],fun h=>(by cases h),fun _ ea j _ hu=>?_⟩,fun _ hb=>?_,?_,⟨some a,cap,by rw [y],by rw [y];exact hl⟩⟩
  ·cases ea
   have Y:j<len:=by
    have:=(List.getElem?_eq_some_iff.1 hu).1
    simpa [aT] using this
   have hv:(aT ((List.range len).map q))[j]?=some (.int .u8 (q j:Nat)):=by simp [aT,Y]
   rw [hv] at hu
   cases hu
   exact (hq j Y).1
  ·obtain ⟨j,Y,rfl⟩:=List.mem_map.1 hb
   exact (hq j (List.mem_range.1 Y)).2
  ·rw [y]
   have h9:=hw ((((List.range len).map D).length+((List.range (m - len)).map fun j=>D (len+j)).length)*Tryz.prog.bytesOf 5) (by
    rw [hx1]
    simp only [DataW.weights,Tryz.underlying44]
    exact List.mem_cons_self ..)
   rw [be] at h9
   simp only [List.length_map,List.length_range,reachBytes] at h9
   omega
theorem CK {fuel:Nat} {cs:List Value} {x:DataW H × List MemPlace} (h:DataW.trod enc Tryz.prog W base spare held fuel 50 cs=some x) (hw: ∀ n∈x.1.weights Tryz.prog 50,n≤reachBytes):
  ∃ B:dO,cs=iK B∧Rb W B.v B.bs:=by
 have c3:Tryz.prog.cellsOf 3=1:=by kernel_rfl
 have c44:Tryz.prog.cellsOf 44=1:=by kernel_rfl
 have c29:Tryz.prog.cellsOf 29=1:=by kernel_rfl
 obtain ⟨xs,n,_,q,hl,hlen,hf⟩:=DataW.trod_struct Tryz.underlying50 h
 rw [show Tryz.prog.cellsOf 50=4 by kernel_rfl] at hl
 match cs,hl,xs,hlen,q with
 | [c0,c1,c2,c4],_,[y0,y1,y2,y3],_,q=>
  have g0:=hf 0 _ rfl
  have g1:=hf 1 _ rfl
  have g2:=hf 2 _ rfl
  have g3:=hf 3 _ rfl
  simp [c3] at g0 g1
  simp [c44] at g2
  simp [c29] at g3
  obtain ⟨z0,y,_⟩:=DataW.trod_int Tryz.underlying3 g0
  obtain ⟨z1,J,_⟩:=DataW.trod_int Tryz.underlying3 g1
  obtain ⟨z3,Y,_,hb3⟩:=DataW.trod_int Tryz.underlying29 g3
  obtain ⟨v,bs,hb,hr⟩:=CJ g2 (fun k hk=>hw k (by
   rw [q]
   simp only [DataW.weights,Tryz.underlying50,List.map_cons,List.map_nil,DataW.weightsEach,List.mem_append]
   exact .inr (.inr (.inl hk))))
  simp only [List.cons.injEq,and_true] at y J Y hb
  subst y J Y hb
  have:=bounds_u64 hb3
  refine ⟨⟨z0,z1,c2,bs,z3.toNat⟩,?_,hr⟩
  show _=[Value.int .i64 z0,.int .i64 z1,c2,.int .u64 ((z3.toNat:Nat):Int)]
  rw [show ((z3.toNat:Nat):Int)=z3 by omega]
theorem wB {P:Program} {e:TypeId} : ∀ {l:List (DataW H)} {d:DataW H},d∈l→ ∀ n∈d.weights P e,n∈DataW.weightsAll P e l
 | _::r,d,q,n,y=>by
  rw [DataW.weightsAll,List.mem_append]
  rcases List.mem_cons.1 q with rfl | q
  ·exact .inl y
  ·exact .inr (wB q n y)
theorem CL {v:Value} {d:DataW H} {ps:List MemPlace} {r:Reach} {b0:Nat} (hval:Value.okWide Tryz.prog W r b0 38 v) (hd:DataW.Trod enc Tryz.prog W base spare held 38 v d ps) (hw: ∀ n∈d.weights Tryz.prog 38,n≤reachBytes):
  ∃ l:List dO,l.length≤140737488355328∧rB W v l:=by
 obtain ⟨a,len,cap,rfl⟩:=okWide_slice Tryz.underlying38 hval
 obtain ⟨fuel,hf⟩:=hd
 have ce:Tryz.prog.cellsOf 50=4:=by kernel_rfl
 have be:Tryz.prog.bytesOf 50=48:=by kernel_rfl
 rcases Deep.open_slice Tryz.underlying38 hf with ⟨y,_⟩ | ⟨x,len',cap',m,n,D,Pl,y,_,hl,_,hm,J,hx⟩
 ·simp [Value.cells] at y
  obtain ⟨rfl,rfl,rfl⟩:=y
  exact ⟨[],by simp,⟨0,l4 _ _ _ _⟩,by simp⟩
 ·simp [Value.cells] at y
  obtain ⟨rfl,rfl,rfl⟩:=y
  simp only [Prod.mk.injEq] at J
  have hlm:len≤m:=by rw [hm];split<;>omega
  have hW: ∀ i,i<len→ ∀ n∈(D i).weights Tryz.prog 50,n≤reachBytes:=fun i hi n hn=>hw n (by
   rw [J.1]
   simp only [DataW.weights,Tryz.underlying38,List.mem_cons,List.mem_append]
   exact .inr (.inl (wB (List.mem_map.2 ⟨i,List.mem_range.2 hi,rfl⟩) n hn)))
  have each: ∀ i,i<len→ ∃ B:dO,(∀ t u,(iK B)[t]?=some u→W.cell? (x.add (i*4+t))=some u)∧Rb W B.v B.bs:=by
   intro i hi
   obtain ⟨cs',h1,h2⟩:=hx i (by omega)
   obtain ⟨B,rfl,hr⟩:=CK h2 (hW i hi)
   rw [ce] at h1
   obtain ⟨_,hlen,hcell⟩:=World.cells?_some h1
   refine ⟨B,fun t u hu=>?_,hr⟩
   have:=hcell t (by have:=(List.getElem?_eq_some_iff.1 hu).1;simpa using this)
   rw [Deep.add_add] at this
   rw [this]
   exact hu
  have:Inhabited dO:=⟨⟨0,0,.slice none 0 0,[],0⟩⟩
  obtain ⟨q,hq⟩:=Deep.choose_lt each
  have Y:((List.range len).map q).length=len:=by simp
  refine ⟨(List.range len).map q,?_,⟨len,by rw [oX,Y],some x,cap,rfl,fun h=>(by cases h),fun _ ea j u hu=>?_⟩,fun B hB=>?_⟩
  ·rw [Y]
   have h9:=hw ((((List.range len).map D).length+((List.range (m - len)).map fun j=>D (len+j)).length)*Tryz.prog.bytesOf 50) (by
    rw [J.1]
    simp only [DataW.weights,Tryz.underlying38]
    exact List.mem_cons_self ..)
   rw [be] at h9
   simp only [List.length_map,List.length_range,reachBytes] at h9
   omega
  ·cases ea
   have hj:j<len*4:=by
    have:=(List.getElem?_eq_some_iff.1 hu).1
    rw [oX,Y] at this
    exact this
   have hi:j / 4<len:=by omega
   have hBq:((List.range len).map q)[j / 4]?=some (q (j / 4)):=by simp [hi]
   have hj4:j % 4<(iK (q (j / 4))).length:=by show j % 4<4;omega
   have h5:=oY _ _ _ hBq (j % 4) _ (List.getElem?_eq_getElem hj4)
   have hjj:j / 4*4+j % 4=j:=by omega
   rw [hjj,hu] at h5
   have h6:=(hq (j / 4) hi).1 (j % 4) _ (List.getElem?_eq_getElem hj4)
   rw [hjj] at h6
   rw [h6,←h5]
  ·obtain ⟨i,hi,rfl⟩:=List.mem_map.1 hB
   exact (hq i (List.mem_range.1 hi)).2
end
end Go.Proofs.YtlhpilgmeededaaGreatDoor
