/- Part 3 of what the law leans on: Len, PassD, Hang, Wheel3, First, SpillM, Spill, Cache, State, Route, Types2, Equal, Strb, Arp, Cache2, RowT, Enc, Wait, RowE, Inner, Bys, PoolM, RingM, LeaseM, IterIn, Keys, Keys2, Gather, SortC, SortF, WheelGo, Over, OptM, BootM -/
import Derived.Test.YtlhpilgmeededaaGreatDoorM2
import Derived.Laws.BytesString
import Derived.Laws.BytesArg
import Derived.KernelRfl
import Derived.Sort.MapsRangeIn
import Derived.RangeFuncKeeps
import Derived.RangeFuncNested
import Derived.RangeFuncBound
import Derived.RangeFuncCalls
import Derived.RangeFuncLeaves
import Derived.RangeFuncBox
import Derived.Shelf.Abstract
import Derived.WalkKit
import Derived.OwnWalkIn
import Derived.TacticsInMore
import Derived.LoopNIn
import Derived.LoopIn
import Derived.TacticsIn
import Derived.Maps.AppendAt
import Derived.Sort.Grow
import Derived.Shelf.SlSortCmp.NoneTotal
set_option linter.unusedVariables false
set_option linter.unusedSimpArgs false
namespace Go.Proofs.YtlhpilgmeededaaGreatDoor
open Go Go.Den
set_option maxHeartbeats 4000000
set_option maxRecDepth 8000
section
def oz:ByteArray:=ByteArray.mk #[0,1,2,2,3,3,3,3,4,4,4,4,4,4,4,4,5,5,5,5,5,5,5,5,5,5,5,5,5,5,5,5,6,6,6,6,6,6,6,6,6,6,6,6,6,6,6,6,6,6,6,6,6,6,6,6,6,6,6,6,6,6,6,6,7,7,7,7,7,7,7,7,7,7,7,7,7,7,7,7,7,7,7,7,7,7,7,7,7,7,7,7,7,7,7,7,7,7,7,7,7,7,7,7,7,7,7,7,7,7,7,7,7,7,7,7,7,7,7,7,7,7,7,7,7,7,7,7,8,8,8,8,8,8,8,8,8,8,8,8,8,8,8,8,8,8,8,8,8,8,8,8,8,8,8,8,8,8,8,8,8,8,8,8,8,8,8,8,8,8,8,8,8,8,8,8,8,8,8,8,8,8,8,8,8,8,8,8,8,8,8,8,8,8,8,8,8,8,8,8,8,8,8,8,8,8,8,8,8,8,8,8,8,8,8,8,8,8,8,8,8,8,8,8,8,8,8,8,8,8,8,8,8,8,8,8,8,8,8,8,8,8,8,8,8,8,8,8,8,8,8,8,8,8,8,8]
def uP:Bool:=(List.range 256).all fun y=>match oz[y]? with
 | some b=>Nat.blt y (2 ^ b.toNat)&&(Nat.beq y 0||(Nat.ble 1 b.toNat&&Nat.ble (2 ^ (b.toNat - 1)) y))&&Nat.ble b.toNat 8
 | none=>false
theorem zI:uP=true:=by kernel_rfl
theorem zJ {y:Nat} (h:y<256): ∃ b,oz[y]?=some b∧y<2 ^ b.toNat∧b.toNat≤8∧(y≠0→1≤b.toNat∧2 ^ (b.toNat - 1)≤y):=by
 have h1:=zI
 unfold uP at h1
 rw [List.all_eq_true] at h1
 have q:=h1 y (List.mem_range.2 h)
 split at q
 ·rename_i b H
  simp only [Bool.and_eq_true,Bool.or_eq_true,Nat.blt_eq,Nat.beq_eq,Nat.ble_eq] at q
  exact ⟨b,H,q.1.1,q.2,fun J=>q.1.2.resolve_left J⟩
 ·cases q
theorem qO {x c:Nat} {z:Int} (h:(2:Int) ^ (min z.toNat IntKind.u64.bits)=(c:Int)):(x:Int).fdiv (2 ^ (min z.toNat IntKind.u64.bits))=((x / c:Nat):Int):=by
 rw [h,Int.fdiv_eq_ediv_of_nonneg _ (by omega)]
 rfl
theorem zK {x a c n:Nat} (q:c=2 ^ n) (h:x / c<2 ^ a):x<2 ^ (n+a):=by
 rw [Nat.pow_add,←q,Nat.mul_comm]
 exact (Nat.div_lt_iff_lt_mul (by rw [q];exact Nat.pow_pos (by omega))).1 h
theorem zL {x a c n:Nat} (q:c=2 ^ n) (h:2 ^ a≤x / c):2 ^ (n+a)≤x:=by
 rw [Nat.pow_add,←q,Nat.mul_comm]
 exact (Nat.le_div_iff_mul_le (by rw [q];exact Nat.pow_pos (by omega))).1 h
attribute [local irreducible] ay aQ aH oz
section
variable {w0 w:World} {L R:List ao} {K:Value→World→Prop} {p:Nat} {s:bQ}
theorem c244 {x:Nat} (hx:x<18446744073709551616) (k: ∀ n:Nat,n≤64→x<2 ^ n→(x≠0→1≤n∧2 ^ (n - 1)≤x)→K (C5 n) w):D 244 [C4 x] w K:=by
 refine s244 rfl<|ac ?_
 refine bt [0,2,3,4,5,6] rfl [0,2] (fun (s:Nat × Nat)=>[C4 s.1,C5 s.2]) (fun s Y=>(s.1=x / 2 ^ s.2∧s.1<4294967296∧s.2≤32∧(s.1=0→x=0))∧w=Y) ?_ ?_
 ·refine ac<|ap (fun q=>?_) (fun q=>?_)
  ·exact ai<|ac ⟨by decide,_,qO (c:=4294967296) rfl,au (⟨(x / 4294967296,32),rfl,⟨by simp,by simp only [];omega,by simp,by simp only [];omega⟩,rfl⟩)⟩
  ·exact ai<|ak ⟨(x,0),rfl,⟨by simp,by simp only [];omega,by simp,by simp⟩,rfl⟩
 rintro g ⟨y,n⟩ _ ⟨⟨h1,J,h3,H⟩,rfl⟩
 simp only at h1 J h3 H
 refine bt [0,2,7,8,9,10,11,12] rfl [0,2] (fun (s:Nat × Nat)=>[C4 s.1,C5 s.2]) (fun s Y=>(s.1=x / 2 ^ s.2∧s.1<65536∧s.2≤48∧(s.1=0→x=0))∧w=Y) ?_ ?_
 ·refine ac<|ap (fun q=>?_) (fun q=>?_)
  ·exact ai<|ac ⟨by decide,_,qO (c:=65536) rfl,au (⟨((n+16:Nat):Int),(IntWalk.i64_in _ (by omega)).trans (by omega),⟨(y / 65536,n+16),rfl,⟨by simp only [];rw [h1,Nat.div_div_eq_div_mul,Nat.pow_add],by simp only [];omega,by simp only [];omega,by simp only [];omega⟩,rfl⟩⟩)⟩
  ·exact ai<|ak ⟨(y,n),rfl,⟨h1,by simp only [];omega,by simp only [];omega,H⟩,rfl⟩
 rintro g ⟨y,n⟩ _ ⟨⟨h1,J,h3,H⟩,rfl⟩
 simp only at h1 J h3 H
 refine bt [0,2,13,14,15,16,17,18] rfl [0,2] (fun (s:Nat × Nat)=>[C4 s.1,C5 s.2]) (fun s Y=>(s.1=x / 2 ^ s.2∧s.1<256∧s.2≤56∧(s.1=0→x=0))∧w=Y) ?_ ?_
 ·refine ac<|ap (fun q=>?_) (fun q=>?_)
  ·exact ai<|ac ⟨by decide,_,qO (c:=256) rfl,au (⟨((n+8:Nat):Int),(IntWalk.i64_in _ (by omega)).trans (by omega),⟨(y / 256,n+8),rfl,⟨by simp only [];rw [h1,Nat.div_div_eq_div_mul,Nat.pow_add],by simp only [];omega,by simp only [];omega,by simp only [];omega⟩,rfl⟩⟩)⟩
  ·exact ai<|ak ⟨(y,n),rfl,⟨h1,by simp only [];omega,by simp only [];omega,H⟩,rfl⟩
 rintro g ⟨y,n⟩ _ ⟨⟨h1,J,h3,H⟩,rfl⟩
 simp only at h1 J h3 H
 obtain ⟨b,hb,hb1,hb2,hb3⟩:=zJ J
 refine ac ⟨_,IntWalk.u8_in _ (by omega),⟨_,kr (s:=oz) (j:=y) rfl Tryz.underlying9 (by kernel_rfl) rfl hb,Db (⟨((n+b.toNat:Nat):Int),(IntWalk.i64_in _ (by omega)).trans (by omega),ah (k _ (by omega) ?_ fun h0=>?_)⟩)⟩⟩
 ·exact zK rfl (h1▸hb1)
 ·obtain ⟨h5,h6⟩:=hb3 (fun e=>h0 (H e))
  refine ⟨by omega,?_⟩
  have:=zL (c:=2 ^ n) rfl (h1▸h6)
  rwa [show n+(b.toNat - 1)=n+b.toNat - 1 by omega] at this
end
end
end Go.Proofs.YtlhpilgmeededaaGreatDoor
namespace Go.Den
open Go
section
variable {P:Program} {K:Fr→World→Prop} {S:World→Prop} {f:Fr} {w:World} {d:Option Nat} {x:Operand} {a:Addr} {off:Nat} {r:List dI} {b:Bool}
theorem zM (q:ev f x= .pointer (some a)) (h:bM P K r S (put f d (.pointer (some a))) w):bM P K (⟨⟨d,.nilCheck x,none⟩,b,false⟩::r) S f w:=by
 show (match ev f x with | .pointer (some a)=>_ | .func (.func g) fs cs=>_ | _=>False)
 rw [q]
 exact h
theorem zN (q:ev f x= .pointer (some a)) (h:bM P K r S (put f d (.pointer (some (a.add off)))) w):bM P K (⟨⟨d,.faddr off x,none⟩,b,false⟩::r) S f w:=by
 show (match ev f x with | .pointer (some a)=>_ | _=>False)
 rw [q]
 exact h
end
end Go.Den
namespace Go.Proofs.YtlhpilgmeededaaGreatDoor
open Go Go.Den
set_option maxHeartbeats 4000000
set_option maxRecDepth 8000
section
theorem zO {x y k:Nat} (h:x ^^^ y<2 ^ k):x / 2 ^ k=y / 2 ^ k:=by
 apply Nat.eq_of_testBit_eq
 intro i
 rw [Nat.testBit_div_two_pow,Nat.testBit_div_two_pow]
 have h1:(x ^^^ y).testBit (i+k)=false:=Nat.testBit_lt_two_pow (Nat.lt_of_lt_of_le h (Nat.pow_le_pow_right (by omega) (by omega)))
 rw [Nat.testBit_xor] at h1
 cases q:x.testBit (i+k)<;>cases H:y.testBit (i+k)<;>simp [q,H] at h1 ⊢
theorem zP {x y k:Nat} (h:x / 2 ^ k=y / 2 ^ k):x ^^^ y<2 ^ k:=by
 apply Nat.lt_pow_two_of_testBit
 intro i hi
 have h1:(x / 2 ^ k).testBit (i - k)=(y / 2 ^ k).testBit (i - k):=by rw [h]
 rw [Nat.testBit_div_two_pow,Nat.testBit_div_two_pow,show i - k+k=i by omega] at h1
 rw [Nat.testBit_xor,h1]
 simp
theorem zQ {x y:Nat} (h:x≠y):x ^^^ y≠0:=fun e=>h (by have h1:=congrArg (·^^^ y) e;simpa [Nat.xor_assoc] using h1)
theorem zR {x:Nat} (h:x<18446744073709551616):aH .and .u64 (x:Int) 63=((x % 64:Nat):Int):=qg (m:=6) rfl h (by decide)
theorem zS {x k:Nat} (q:k<64) {z:Int} (hz:z=k):(x:Int).fdiv (2 ^ (min z.toNat IntKind.u64.bits))=((x / 2 ^ k:Nat):Int):=by subst hz;exact uC q
abbrev uQ (now due:Nat) (i j:Int):Prop:=(i= -1∧j=0∧due≤now)∨(∃ a b:Nat,i=a∧j=b∧a<11∧b<64∧lu now due a b∧ ∀ k,due / 2 ^ (6*k)=now / 2 ^ (6*k)→a<k)
def eN (f j:Nat):Nat:=f ||| 2 ^ j
theorem uR {f j:Nat} (q:f<18446744073709551616) (y:j<64):aH .or .u64 (f:Int) ((2 ^ j:Nat):Int)=((eN f j:Nat):Int):=by
 have h1: ∀ z:Nat,z<18446744073709551616→(BitVec.ofInt 64 (z:Int)).toNat=z:=fun z hz=>by
  rw [BitVec.ofInt_natCast,BitVec.toNat_ofNat];exact Nat.mod_eq_of_lt hz
 show IntKind.u64.wrap ((BitVec.ofInt 64 (f:Int) ||| BitVec.ofInt 64 ((2 ^ j:Nat):Int)).toNat:Int)=_
 rw [BitVec.toNat_or,h1 f q,h1 _ (ja y)]
 have h3:=Nat.or_lt_two_pow (n:=64) q (ja y)
 exact IntWalk.u64_in _ (by omega)
theorem zT {f j:Nat} (q:f<18446744073709551616) (y:j<64):eN f j<18446744073709551616:=Nat.or_lt_two_pow (n:=64) q (ja y)
theorem uS {f j i:Nat} :(eN f j).testBit i=(f.testBit i||decide (j=i)):=by
 unfold eN
 rw [Nat.testBit_or,Nat.testBit_two_pow]
theorem SH.fresh {w0 w:World} {R:List ao} {b:Nat} {m:List (Int × Bool)} {sl:jd} (y:SH w0 w (Mt a7 b m::bi (bJ sl)::R)):b ∉ sl.map Prod.fst:=fun h=>by
 obtain ⟨q,H,rfl⟩:=List.mem_map.1 h
 have h1:=(List.pairwise_cons.1 y.sep).1 (bi (bJ sl)) (.head _) q.1
 exact (h1.1 rfl).1 ⟨Mt a7 q.1 q.2,List.mem_map.2 ⟨q,H,rfl⟩,rfl⟩
attribute [local irreducible] ay aQ aH
section
variable {w0 w:World} {L R:List ao} {K:Value→World→Prop} {p:Nat} {s:bQ}
theorem c292 {cs:List Value} {now due:Nat} (y:SH w0 w L) [q:aR L p 275 cs R] (h0:cs[0]?=some (C4 now)) (J:now<18446744073709551616∧due<18446744073709551616)
  (k: ∀ i j:Int,uQ now due i j→ ∀ w',SH w0 w' L→K (.agg #[C4 due,C5 i,C5 j]) w'):D 292 [pt p,C4 due] w K:=by
 refine s292 rfl<|ac<|y.an fun H _ y=>aq ⟨_,y.ld (b:=p) h0,ap (fun Y=>?_) (fun Y=>?_)⟩
 ·refine ac ⟨rfl,[C4 due,C5 (-1),C5 0],rfl,y.aj (b:=H) fun _ y=>ah (y.Da (b:=H) rfl (k _ _ (by omega) _ y.ae))⟩
 refine ak<|ac ⟨_,y.ld (b:=p) h0,⟨_,qq J.2 J.1,?_⟩⟩
 have hx:due ^^^ now<18446744073709551616:=Nat.xor_lt_two_pow (n:=64) J.2 J.1
 refine c244 hx fun n _ h2 h3=>?_
 obtain ⟨h3,h4⟩:=h3 (zQ (by omega))
 refine ⟨((n - 1:Nat):Int),(IntWalk.i64_in _ (by omega)).trans (by omega),⟨by decide,(((n - 1) / 6:Nat):Int),by rw [Int.tdiv_eq_ediv_of_nonneg (by omega)];exact IntWalk.i64_in _ (by omega),pa 1 rfl (ac (⟨((6*((n - 1) / 6):Nat):Int),(IntWalk.i64_in _ (by omega)).trans (by omega),⟨by omega,_,zS (k:=6*((n - 1) / 6)) (by omega) rfl,⟨_,zR (Nat.lt_of_le_of_lt (Nat.div_le_self _ _) J.2),Db ?_⟩⟩⟩))⟩⟩
 have hs:uQ now due (((n - 1) / 6:Nat):Int) ((due / 2 ^ (6*((n - 1) / 6)) % 64:Nat):Int):=by
  refine .inr ⟨_,_,rfl,rfl,by omega,Nat.mod_lt _ (by omega),⟨zO (Nat.lt_of_lt_of_le h2 (Nat.pow_le_pow_right (by omega) (by omega))),rfl⟩,fun k hk=>?_⟩
  have h5:=zP hk
  have h6:2 ^ (n - 1)<2 ^ (6*k):=Nat.lt_of_le_of_lt h4 h5
  have h7:=(Nat.pow_lt_pow_iff_right (by omega)).1 h6
  omega
 refine ⟨rfl,[C4 due,C5 (↑((n - 1) / 6)),C5 (↑(due / 2 ^ (6*((n - 1) / 6)) % 64))],rfl,y.aj (b:=H) fun _ y=>ah (y.Da (b:=H) rfl (k _ _ ‹_› _ y.ae))⟩
theorem bm.zU (h:bm s) {t:Int} {due:Nat} (H:gh s t) (hd:due<18446744073709551616) (O:List (Int × Bool)) (J:cn s.T):bm { s with T:=aF s.T t ((due:Int),(-1:Int),(0:Int)),O:=O } :=
 (h.uM O).qG (t:=t) H (fun u Y=>by rw [fq J,if_neg Y]) fun q y=>by
  rcases (gr (k':=q.1) (u:=q.2)).1 y with ⟨_,e⟩ | ⟨_,y⟩
  ·rw [e];exact ⟨⟨Int.natCast_nonneg _,by show (due:Int)<_;omega⟩,.inl rfl,by show (0:Int)≤0;decide,by show (0:Int)<64;decide⟩
  ·exact h.spots q y
theorem bm.uT (h:bm s) {t:Int} {due i j:Nat} (H:gh s t) (hd:due<18446744073709551616) (hi:i<11) (hj:j<64) (J:cn s.T):bm { s with T:=aF s.T t ((due:Int),(i:Int),(j:Int)) } :=
 h.qG (t:=t) H (fun u Y=>by rw [fq J,if_neg Y]) fun q y=>by
  rcases (gr (k':=q.1) (u:=q.2)).1 y with ⟨_,e⟩ | ⟨_,y⟩
  ·rw [e];exact ⟨⟨Int.natCast_nonneg _,by show (due:Int)<_;omega⟩,.inr ⟨Int.natCast_nonneg _,by show (i:Int)<_;omega⟩,Int.natCast_nonneg _,by show (j:Int)<_;omega⟩
  ·exact h.spots q y
theorem bm.uU (h:bm s) {t:Int} {due i j b f:Nat} {m:List (Int × Bool)} (ht:aB s.T t=some ((due:Int),(i:Int),(j:Int))) (hp:lu s.now due i j) (hi:i<11) (y:j<64) (hs:s.cs[aA i j]?=some (.map (some b))) (hb:(b,m)∈s.sl) (hf:s.cs[aA i 64]?=some (C4 f)) (hf':f<18446744073709551616):
  bm { s with cs:=s.cs.set (aA i 64) (C4 ((eN f j:Nat):Int)),sl:=dD s.sl b m (aF m t true) } :=by
 obtain ⟨o,ho,H⟩:=h.slot i j hi y
 rw [hs] at ho
 cases ho
 obtain ⟨m1,J,H⟩:=H b rfl
 cases mV h.nd hb J
 have hl:aA i 64<s.cs.length:=by rw [h.len];unfold aA;omega
 have h1:bm { s with cs:=s.cs.set (aA i 64) (C4 ((eN f j:Nat):Int)) } :=h.qH hi (zT hf' y) fun j' c x hj' hbit hc hx=>by
  rw [uS] at hbit
  simp only [Bool.or_eq_false_iff] at hbit
  obtain ⟨g,_,q,Y⟩:=h.full i hi
  rw [hf] at q
  simp only [Option.some.injEq,Value.int.injEq,true_and] at q
  have e:f=g:=by omega
  exact Y j' c x hj' (e▸hbit.1) hc hx
 refine h1.uN hi y ((cr (by unfold aA;omega)).trans hs) hb (fun u v hu=>?_) fun g hg hbit=>?_
 ·rcases gr.1 hu with ⟨rfl,_⟩ | ⟨_,hu⟩
  ·exact ⟨due,ht,hp⟩
  ·exact H u v hu
 ·rw [show (s.cs.set _ _)[aA i 64]?=_ from List.getElem?_set_self hl] at hg
  simp only [Option.some.injEq,Value.int.injEq,true_and] at hg
  have e:eN f j=g:=by omega
  rw [←e,uS] at hbit
  simp at hbit
theorem uV (h:bm s) {t:Int} {b:Nat} {m:List (Int × Bool)} (H:(b,m)∈s.sl) {u:Int} (Y:u≠t) (J:gh s u) {c:Nat} {x:List (Int × Bool)} {v:Bool} (y:(c,x)∈dD s.sl b m (aF m t true)):(u,v) ∉ x:=fun q=>by
 rcases (kz h.nd H).1 y with ⟨rfl,rfl⟩ | ⟨_,y⟩
 ·rcases gr.1 q with ⟨e,_⟩ | ⟨_,q⟩
  ·exact Y e
  ·exact J _ m v H q
 ·exact J c x v y q
theorem c225 {t:Int} {due:Nat} (ht:cM t) (hd:due<18446744073709551616) (y:SH w0 w L) [q:aC (a8 p) L s R] (ha:gh s t)
  (k: ∀ s' w',(s'.now=s.now∧(∀ u,u≠t→gh s u→gh s' u)∧(∀ u,u≠t→aB s'.T u=aB s.T u)∧(∀ c,due / 2 ^ (6*c)=s.now / 2 ^ (6*c)→ ∀ i,c≤i→i<11→s'.cs[aA i 64]?=s.cs[aA i 64]?)∧(OT s→OT s')∧aB s'.T t≠none)→SH w0 w' (a8 p s'::R)→K (.tuple #[]) w'):D 225 [pt p,.int .i64 t,.int .u64 due] w K:=by
 obtain ⟨J,y⟩:=SH.ec y p
 have hn:=J.nowlt
 have h0:=J.now0
 have ht1:=J.t1
 have ho1:=J.o1
 have Y:=y.apart s.tb (T:=bF)
 refine s225 rfl<|ac<|c292 y (by assumption) (by omega) (fun i_10 j_10 h_102 _ y=>?_)
 refine y.an fun H _ y=>y.aj (b:=H) fun _ y=>aJ ?_
 have y:=y.drew
 refine ⟨_,y.ld (b:=p) (by assumption),⟨_,y.af (b:=H) rfl,d' (mT (u:=((due:Int),i_10,j_10)) rfl rfl rfl rfl (by omega) y fun _ y=>?_)⟩⟩
 rcases h_102 with ⟨rfl,rfl,_⟩ | ⟨i,j,rfl,rfl,hi',hj',hp,hlow⟩
 ·refine aq ⟨_,y.ld (b:=H) rfl,⟨true,decide_eq_true (by decide),?_⟩⟩
  refine ac ⟨_,y.ld (b:=p) (by assumption),aZ (mT rfl rfl rfl rfl (by omega) y fun _ y=>?_)⟩
  exact ah<|k { s with T:=aF s.T t ((due:Int),(-1:Int),(0:Int)),O:=aF s.O t true } _ ⟨rfl,fun u hu h=>h,fun u hu=>by show aB (aF s.T t _) u=_;rw [fq Y,if_neg hu],fun c _ i _ _=>rfl,zF Y _,oy Y _⟩ (SH.dK (R:=R) (y.ae (L':=Cl p 275 s.cs::Mt bF s.tb (aF s.T t ((due:Int),(-1:Int),(0:Int)))::Mt a7 s.ob (aF s.O t true)::bi (bJ s.sl)::R)) (J.zU ha hd _ Y))
 obtain ⟨o,ho,hm⟩:=J.slot i j hi' hj'
 obtain ⟨fl,hf1,hf2,hf3⟩:=J.full i hi'
 have ei:(i:Int)=(i:Nat):=rfl
 have ej:(j:Int)=(j:Nat):=rfl
 cases o with
 | none=>
  refine aq ⟨_,y.ld (b:=H) rfl,⟨false,decide_eq_false (by omega),?_⟩⟩
  refine ak<|aJ<|have y:=y.drew;?_
  refine ⟨_,y.ld (b:=H) rfl,⟨_,lv rfl rfl rfl (by assumption) (by assumption),fV ?_⟩⟩
  have y:=y.drew
  refine ⟨_,y.ld (b:=H) rfl,⟨_,gT rfl rfl rfl (by assumption) (by assumption),⟨_,y.ld (b:=p) (by assumption),?_⟩⟩⟩
  refine ⟨true,rfl,cv ?_⟩
  have y:=y.drew
  refine ⟨_,y.ld (b:=H) rfl,zM rfl (zN rfl ?_)⟩
  refine fy (eZ rfl y fun b _ y=>⟨⟨y.ld (b:=H) rfl,trivial⟩,⟨_,gT rfl rfl rfl (by assumption) (by assumption),?_⟩⟩)
  have hfr:=SH.fresh (R:=[]) (y.ae (L':=Mt a7 b []::bi (bJ s.sl)::[]))
  refine y.cp (b:=p) [.map (some b)] (fun w_5 y=>?_) (hl:=Nat.ble_eq_true_of_le (by rw [J.len];show 2+65*i+j+1≤718;omega))
  have y:SH w0 w_5 (Cl p 275 (s.cs.set (aA i j) (.map (some b)))::_):=y
  have ho':(s.cs.set (aA i j) (.map (some b)))[aA i j]?=some (.map (some b)):=List.getElem?_set_self (by rw [J.len];unfold aA;omega)
  have hf2':(s.cs.set (aA i j) (.map (some b)))[aA i 64]?=some (.int .u64 fl):=(cr (by unfold aA;omega)).trans hf2
  refine aJ<|have y:=y.drew;⟨_,y.ld (b:=H) rfl,?_⟩
  refine ⟨_,gT rfl rfl rfl (by assumption) (by assumption),⟨_,y.ld (b:=p) (by assumption),d' (mT rfl rfl rfl rfl (by omega) y fun w_76 y=>?_)⟩⟩
  refine cv<|have y:=y.drew;⟨_,y.ld (b:=p) (by assumption),?_⟩
  refine ⟨_,y.ld (b:=H) rfl,⟨by omega,_,mW rfl hj',⟨_,uR hf1 hj',?_⟩⟩⟩
  refine y.cp (b:=p) [.int .u64 ((eN fl j:Nat):Int)] (fun w_99 y=>?_) (hl:=Nat.ble_eq_true_of_le (by rw [List.length_set,J.len];show 2+65*i+64+1≤718;omega))
  have y:SH w0 w_99 (Cl p 275 ((s.cs.set (aA i j) (.map (some b))).set (aA i 64) (.int .u64 ((eN fl j:Nat):Int)))::_):=y
  have hu:dD ((b,[])::s.sl) b [] (aF [] t true)=(b,aF [] t true)::s.sl:=by simp [dD]
  have y:SH w0 _ (bi (bJ ((b,aF [] t true)::s.sl))::_):=SH.ov (y.ae (L':=Mt a7 b (aF [] t true)::bi (bJ s.sl)::Cl p 275 ((s.cs.set (aA i j) (.map (some b))).set (aA i 64) (.int .u64 ((eN fl j:Nat):Int)))::Mt bF s.tb (aF s.T t ((due:Int),(i:Int),(j:Int)))::Mt a7 s.ob s.O::R))
  rw [←hu] at y
  have hs1:=(J.uT ha hd hi' hj' Y).qI hi' hj' ho hfr
  exact k { s with cs:=(s.cs.set (aA i j) (.map (some b))).set (aA i 64) (.int .u64 ((eN fl j:Nat):Int)),T:=aF s.T t ((due:Int),(i:Int),(j:Int)),sl:=dD ((b,[])::s.sl) b [] (aF [] t true) } _ ⟨rfl,fun u hu h c x v hc=>uV hs1 (.head _) hu (fun c x v hc hx=>by
    rcases List.mem_cons.1 hc with e | hc
    ·cases e;cases hx
    ·exact h c x v hc hx) hc,fun u hu=>by show aB (aF s.T t _) u=_;rw [fq Y,if_neg hu],fun c hc i' h1 _=>(cr (by have:=hlow c hc;unfold aA;omega)).trans (cr (by have:=hlow c hc;unfold aA;omega)),fun h q hq=>qF Y _ (h q hq),oy Y _⟩
   (SH.dK (R:=R) (y.ae (L':=Cl p 275 ((s.cs.set (aA i j) (.map (some b))).set (aA i 64) (.int .u64 ((eN fl j:Nat):Int)))::Mt bF s.tb (aF s.T t ((due:Int),(i:Int),(j:Int)))::Mt a7 s.ob s.O::bi (bJ (dD ((b,[])::s.sl) b [] (aF [] t true)))::R))
    (hs1.uU (by show aB (aF s.T t _) t=_;rw [fq Y,if_pos rfl]) hp hi' hj' ho' (.head _) hf2' hf1))
 | some b=>
  obtain ⟨m,hb,hk⟩:=hm b rfl
  have y:=SH.qC (y.ae (L':=bi (bJ s.sl)::Cl H 405 [.int .u64 due,.int .i64 i,.int .i64 j]::Cl p 275 s.cs::Mt bF s.tb (aF s.T t ((due:Int),(i:Int),(j:Int)))::Mt a7 s.ob s.O::R)) hb
  refine aq ⟨_,y.ld (b:=H) rfl,⟨false,decide_eq_false (by omega),?_⟩⟩
  refine ak<|aJ<|have y:=y.drew;?_
  refine ⟨_,y.ld (b:=H) rfl,⟨_,lv rfl rfl rfl (by assumption) (by assumption),fV ?_⟩⟩
  have y:=y.drew
  refine ⟨_,y.ld (b:=H) rfl,⟨_,gT rfl rfl rfl (by assumption) (by assumption),⟨_,y.ld (b:=p) (by assumption),?_⟩⟩⟩
  refine ⟨false,rfl,ak (aJ ?_)⟩
  have y:=y.drew
  refine ⟨_,y.ld (b:=H) rfl,⟨_,gT rfl rfl rfl (by assumption) (by assumption),⟨_,y.ld (b:=p) (by assumption),?_⟩⟩⟩
  refine d' (mT rfl rfl rfl rfl (by omega) y fun w_76 y=>cv ?_)
  have y:=y.drew
  refine ⟨_,y.ld (b:=p) (by assumption),⟨_,y.ld (b:=H) rfl,⟨by omega,_,mW rfl hj',?_⟩⟩⟩
  refine ⟨_,uR hf1 hj',y.cp (b:=p) [.int .u64 ((eN fl j:Nat):Int)] (fun w_99 y=>?_) (hl:=Nat.ble_eq_true_of_le (by rw [J.len];show 2+65*i+64+1≤718;omega))⟩
  have y:SH w0 w_99 (Cl p 275 (s.cs.set (aA i 64) (.int .u64 ((eN fl j:Nat):Int)))::_):=y
  have y:SH w0 _ (bi (bJ (dD s.sl b m (aF m t true)))::_):=SH.ov (y.ae (L':=Mt a7 b (aF m t true)::bi (bJ (s.sl.erase (b,m)))::Cl p 275 (s.cs.set (aA i 64) (.int .u64 ((eN fl j:Nat):Int)))::Mt bF s.tb (aF s.T t ((due:Int),(i:Int),(j:Int)))::Mt a7 s.ob s.O::R))
  exact k { s with cs:=s.cs.set (aA i 64) (.int .u64 ((eN fl j:Nat):Int)),T:=aF s.T t ((due:Int),(i:Int),(j:Int)),sl:=dD s.sl b m (aF m t true) } _ ⟨rfl,fun u hu h c x v hc=>uV J hb hu h hc,fun u hu=>by show aB (aF s.T t _) u=_;rw [fq Y,if_neg hu],fun c hc i' h1 _=>cr (by have:=hlow c hc;unfold aA;omega),fun h q hq=>qF Y _ (h q hq),oy Y _⟩
   (SH.dK (R:=R) (y.ae (L':=Cl p 275 (s.cs.set (aA i 64) (.int .u64 ((eN fl j:Nat):Int)))::Mt bF s.tb (aF s.T t ((due:Int),(i:Int),(j:Int)))::Mt a7 s.ob s.O::bi (bJ (dD s.sl b m (aF m t true)))::R))
    ((J.uT ha hd hi' hj' Y).uU (by show aB (aF s.T t _) t=_;rw [fq Y,if_pos rfl]) hp hi' hj' ho hb hf2 hf1))
end
end
section
attribute [local irreducible] ay aQ aH aY a6 aW
theorem bm.uW {s:bQ} {t:Int} (h:bm s) (q:aB s.T t=none):gh s t:=h.uL fun _ _ _ e=>by rw [q] at e;cases e
section
variable {w0 w:World} {L R:List ao} {K:Value→World→Prop} {p:Nat} {s:bQ}
theorem c198 {t:Int} {due:Nat} (ht:cM t) (hd:due<18446744073709551616) (y:SH w0 w L) [q:aC (a8 p) L s R] (k: ∀ (e:Int) s' w',(s'.now=s.now∧ ∀ u,aB s'.T u≠none→u=t∨aB s.T u≠none)→SH w0 w' (a8 p s'::R)→K (C5 e) w'):D 198 [pt p,C5 t,C4 due] w K:=by
 obtain ⟨Y,y⟩:=SH.ec y p
 have ht1:=Y.t1
 refine s198 rfl<|ac<|ac ⟨_,y.ld (b:=p) ‹_›,dh rfl rfl rfl (by omega) y (fun h_15=>?_) (fun _ h_15=>?_)⟩
 ·refine y.an fun J w_7 y=>y.aj (b:=J) fun _ y=>aG<|ac<|ap (fun H=>?_) (fun H=>?_)
  ·exact ai<|ac<|ah<|k _ s _ ⟨rfl,fun _ h=> .inr h⟩ (SH.dK y.ae Y)
  ·refine ai<|ac<|Dj ⟨_,y.ld (b:=p) ‹_›,⟨_,iz rfl rfl y,ap (fun h_30=>?_) (fun h_30=>?_)⟩⟩
   ·exact pa 2 rfl<|ai<|ac<|ah<|k _ s _ ⟨rfl,fun _ h=> .inr h⟩ (SH.dK y.ae Y)
   ·refine pa 2 rfl<|ai<|ak<|ac ?_
    have y:=SH.dK (p:=p) (s:=s) (R:=R) y.ae Y
    refine c174 ht y fun b s1 w1 ⟨e1,e2,e3⟩ y=>ac<|c225 (p:=p) (s:=s1) ht hd y ((SH.ec y p (s:=s1) (R:=R)).1.uW e2) fun s2 w2 h y=>ac<|ah ?_
    exact k _ s2 _ ⟨h.1.trans e1,fun u hu=>by
     by_cases e:u=t
     ·exact .inl e
     ·exact .inr (e3 u (h.2.2.1 u e▸hu))⟩ y
 ·refine y.an fun J w_7 y=>y.aj (b:=J) fun _ y=>aG<|ac<|ap (fun H=>?_) (fun H=>?_)
  ·exact ai<|ac<|ah<|k _ s _ ⟨rfl,fun _ h=> .inr h⟩ (SH.dK y.ae Y)
  ·refine ai<|ac<|Dj<|pa 9 rfl<|ai<|ak<|ac ?_
   have y:=SH.dK (p:=p) (s:=s) (R:=R) y.ae Y
   refine c174 ht y fun b s1 w1 ⟨e1,e2,e3⟩ y=>ac<|c225 (p:=p) (s:=s1) ht hd y ((SH.ec y p (s:=s1) (R:=R)).1.uW e2) fun s2 w2 h y=>ac<|ah ?_
   exact k _ s2 _ ⟨h.1.trans e1,fun u hu=>by
     by_cases e:u=t
     ·exact .inl e
     ·exact .inr (e3 u (h.2.2.1 u e▸hu))⟩ y
theorem c170 (h0:s.now=0) (y:SH w0 w L) [q:aC (a8 p) L s R] (k: ∀ p2 s2 w',(s2.now=0∧TK s.T s2.T∧OT s2)→SH w0 w' (a8 p2 s2::a8 p s::R)→K (pt p2) w'):D 170 [pt p] w K:=by
 obtain ⟨hs,y⟩:=SH.ec y p
 have ht1:=hs.t1
 have hn0:=hs.now0
 rw [h0] at hn0
 have hA:=y.apart s.tb (T:=bF)
 have hG:=y.gv s.tb (T:=bF)
 refine s170 rfl<|ac<|av<|au ⟨_,y.ld (b:=p) hn0,aZ (eZ rfl y fun b1 _ y=>aZ (eZ rfl y fun b2 _ y=>⟨by kernel_rfl,a6 b1 b2,by kernel_rfl,y.az (a6 b1 b2) fun p2 _ y=>av (ac (⟨_,y.ld (b:=p) ‹_›,aZ (mU rfl rfl y fun J w_18 y=>aM ?_)⟩))⟩))⟩
 have y:SH w0 w_18 (Cl p2 275 (a6 b1 b2)::Mt bF b1 []::Mt a7 b2 []::bi (bJ [])::It bF J s.tb s.T s.T none::Cl p 275 s.cs::Mt a7 s.ob s.O::bi (bJ s.sl)::R):=by
  have h1:SH w0 w_18 (bi (bJ [])::_):=SH.star (l:=[]) y
  exact h1.ae
 have y:=SH.dK (s:=⟨0,a6 b1 b2,b1,[],b2,[],[]⟩) y (uJ b1 b2)
 refine bU ([4,5]++List.range' 19 10) rfl [3,18] (fun (_:List (Int × Int × Int × Int) × Option (Int × Int × Int × Int) × bQ)=>[pt p2,.pointer (some ⟨J,0,none⟩)]) (fun x w'=>(x.2.2.now=0∧(∀ q∈x.1,gh x.2.2 q.1)∧TK s.T x.2.2.T∧OT x.2.2)∧SH w0 w' (It bF J s.tb s.T x.1 x.2.1::a8 p2 x.2.2::Cl p 275 s.cs::Mt a7 s.ob s.O::bi (bJ s.sl)::R)) (fun x=>x.1.length) (s.T,none,⟨0,a6 b1 b2,b1,[],b2,[],[]⟩) rfl ⟨⟨rfl,fun q hq b _ _ hb=>(by cases hb),fun u hu=>absurd rfl hu,fun q hq=>by cases hq⟩,y.ae⟩ ?_
 rintro g ⟨left,cur,s2⟩ w4 ⟨⟨hz,haw,htk,hot⟩,y⟩
 simp only at hz haw htk hot
 have y:SH w0 w4 (It bF J s.tb s.T left cur::a8 p2 s2::Cl p 275 s.cs::Mt a7 s.ob s.O::bi (bJ s.sl)::R):=y
 refine av<|au<|aZ (mQ rfl rfl y (fun _ w_19 y=>?_) (fun Y v_19 H h_192 w_19 y=>?_))
 ·refine av<|ai<|aS<|ac<|ah ?_
  have y:=SH.dK (p:=p) (s:=s) (R:=a8 p2 s2::R) y.ae hs
  exact k p2 s2 _ ⟨hz,htk,hot⟩ y.ae
 ·refine av<|ai<|ak<|aM<|ac<|aZ (mS rfl rfl y (y.an fun b_5 _ y=>y.aj (b:=b_5) fun _ y=>au (y.C9 (b:=b_5) rfl ?_)))
  obtain ⟨v1,v2⟩:=v_19
  obtain ⟨⟨d1,d2⟩,_⟩:=hs.spots _ H.2
  obtain ⟨due,rfl⟩: ∃ n:Nat,v1=n:=⟨v1.toNat,by simp only at d1;omega⟩
  obtain ⟨q0,hq0,e0⟩:=List.mem_map.1 H.1
  refine c225 (p:=p2) (s:=s2) (hG _ H.2) (by simp only at d2;omega) y (e0▸haw q0 hq0) fun s3 _ h y=>?_
  exact ⟨(aO left Y,some (Y,((due:Int),v2)),s3),rfl,⟨⟨h.1.trans hz,fun q hq=>h.2.1 q.1 ((eK (k':=q.1) (u:=q.2)).1 hq).1 (haw q ((eK (k':=q.1) (u:=q.2)).1 hq).2),fun u hu=>by
   by_cases e:u=Y
   ·rw [e,hA.get H.2];exact fun e=>by cases e
   ·exact htk u (h.2.2.1 u e▸hu),h.2.2.2.2.1 hot⟩,y.ae⟩,h_192⟩
end
end
section
def eO (now i j:Nat):Nat:=(now / 2 ^ min (6*(i+1)) 64*2 ^ min (6*(i+1)) 64 % 18446744073709551616) ||| (j*2 ^ (6*i) % 18446744073709551616)
theorem uX (now i j:Nat):eO now i j<18446744073709551616:=Nat.or_lt_two_pow (n:=64) (Nat.mod_lt _ (by decide)) (Nat.mod_lt _ (by decide))
theorem uY {now i j:Nat} (H:now<18446744073709551616) (hi:i<11) (J:j<64) (h:j*2 ^ (6*i)<18446744073709551616):eO now i j / 2 ^ (6*(i+1))=now / 2 ^ (6*(i+1))∧eO now i j / 2 ^ (6*i) % 64=j:=by
 have q:j*2 ^ (6*i)<2 ^ (6*(i+1)):=by
  rw [show 6*(i+1)=6+6*i by omega,Nat.pow_add]
  exact Nat.mul_lt_mul_of_pos_right J (Nat.pow_pos (by omega))
 have key: ∃ A,eO now i j=2 ^ (6*(i+1))*A+j*2 ^ (6*i)∧A=now / 2 ^ (6*(i+1)):=by
  by_cases y:i=10
  ·subst y
   have Y:now / 2 ^ 64=0:=Nat.div_eq_of_lt (by simpa using H)
   have h1:now / 2 ^ (6*(10+1))=0:=Nat.div_eq_of_lt (Nat.lt_of_lt_of_le H (by decide))
   refine ⟨0,?_,h1.symm⟩
   unfold eO
   rw [show min (6*(10+1)) 64=64 by decide,Y,Nat.mod_eq_of_lt h]
   simp
  ·have hm:min (6*(i+1)) 64=6*(i+1):=by omega
   refine ⟨now / 2 ^ (6*(i+1)),?_,rfl⟩
   unfold eO
   have h1:now / 2 ^ (6*(i+1))*2 ^ (6*(i+1))≤now:=Nat.div_mul_le_self _ _
   rw [hm,Nat.mod_eq_of_lt (by omega),Nat.mod_eq_of_lt h,Nat.mul_comm,←Nat.two_pow_add_eq_or_of_lt q]
 obtain ⟨A,h1,h2⟩:=key
 rw [h1,←h2]
 refine ⟨?_,?_⟩
 ·rw [Nat.mul_add_div (Nat.pow_pos (by omega)),Nat.div_eq_of_lt q,Nat.add_zero]
 ·rw [show 6*(i+1)=6*i+6 by omega,Nat.pow_add,Nat.mul_assoc,Nat.mul_comm j,←Nat.mul_add,Nat.mul_div_cancel_left _ (Nat.pow_pos (by omega))]
  omega
theorem zV {x k:Nat} {z:Int} (hz:z=k):(x:Int).fdiv (2 ^ (min z.toNat IntKind.u64.bits))=((x / 2 ^ min k 64:Nat):Int):=by
 subst hz
 have q:IntKind.u64.bits=64:=rfl
 have y:((2:Int) ^ min k 64)=((2 ^ min k 64:Nat):Int):=by simp
 rw [q,Int.toNat_natCast,y,Int.fdiv_eq_ediv_of_nonneg _ (Int.natCast_nonneg _)]
 rfl
theorem uZ {x k:Nat} {z:Int} (hz:z=k):IntKind.u64.wrap ((x:Int)*2 ^ (min z.toNat IntKind.u64.bits))=((x*2 ^ min k 64 % 18446744073709551616:Nat):Int):=by
 subst hz
 have q:IntKind.u64.bits=64:=rfl
 have H:((2:Int) ^ min k 64)=((2 ^ min k 64:Nat):Int):=by simp
 rw [q,Int.toNat_natCast,H]
 generalize 2 ^ min k 64=y
 have:IntKind.u64.wrap ((x:Int)*(y:Int))=((x:Int)*(y:Int)) % 18446744073709551616:=rfl
 rw [this,←Int.natCast_mul]
 omega
theorem zW {x y:Nat} (q:x<18446744073709551616) (H:y<18446744073709551616):aH .or .u64 (x:Int) (y:Int)=((x ||| y:Nat):Int):=by
 have h1: ∀ z:Nat,z<18446744073709551616→(BitVec.ofInt 64 (z:Int)).toNat=z:=fun z hz=>by
  rw [BitVec.ofInt_natCast,BitVec.toNat_ofNat];exact Nat.mod_eq_of_lt hz
 show IntKind.u64.wrap ((BitVec.ofInt 64 (x:Int) ||| BitVec.ofInt 64 (y:Int)).toNat:Int)=_
 rw [BitVec.toNat_or,h1 x q,h1 y H]
 have h3:=Nat.or_lt_two_pow (n:=64) q H
 exact IntWalk.u64_in _ (by omega)
attribute [local irreducible] ay aQ aH aY a6 aW
section
variable {w0 w:World} {L R:List ao} {K:Value→World→Prop} {p:Nat} {s:bQ}
theorem c226 (H:SH w0 w L) [q:aC (a8 p) L s R] [ht:cL R]
  (k1:K (.tuple #[C5 0,C5 0,C4 0,.bool false]) w)
  (k2: ∀ i j f:Nat,i<11∧j<64∧s.cs[aA i 64]?=some (C4 f)∧f.testBit j=true→(∀ y,y<i→s.cs[aA y 64]?=some (C4 0))→ ∀ w',SH w0 w' (a8 p s::R)→K (.tuple #[C5 i,C5 j,C4 (eO s.now i j),.bool true]) w'):D 226 [pt p] w K:=by
 have hL0:=H.at (a8 p)
 obtain ⟨hs,H⟩:=SH.ec H p
 have hn:=hs.nowlt
 have hn0:=hs.now0
 refine s226 rfl<|ac<|av<|ac<|aM ?_
 refine bU ([2,3,4,5,6,7,8,9,10]++List.range' 11 34) rfl [0,10] (fun (i:Nat)=>[pt p,C5 i]) (fun i w'=>(i≤11∧ ∀ y,y<i→s.cs[aA y 64]?=some (C4 0))∧w=w') (fun i=>11 - i) 0 rfl ⟨⟨by decide,fun y h=>absurd h (Nat.not_lt_zero _)⟩,rfl⟩ ?_
 rintro g i _ ⟨⟨hi1,Y⟩,rfl⟩
 refine Dv [0,10] [pt p,C5 i] fun g=>av (au (ap (fun h_1=>?_) (fun h_1=>?_)))
 rotate_left
 ·exact av (ai (aS (ac (ah (k1)))))
 have hi:i<11:=by omega
 have ei:(i:Int)=(i:Nat):=rfl
 obtain ⟨f,hf1,J,hf3⟩:=hs.full i hi
 refine av (ai (ak (aG (ac (pa 2 rfl (ac (⟨_,lv rfl rfl rfl ‹_› ‹_›,⟨_,H.ld (b:=p) J,pa 1 rfl (ac (ap (fun h_2=>?_) (fun h_2=>?_)))⟩⟩)))))))
 ·refine ai<|ac<|c293 H ⟨by omega,hf1⟩ fun j hj h4 _=>?_
  have ej:(j:Int)=(j:Nat):=rfl
  refine pa 1 rfl<|ac<|Db ⟨((6*(i+1):Nat):Int),(IntWalk.i64_in _ (by omega)).trans (by omega),pa 1 rfl (aJ ?_)⟩
  have H:=H.drew
  have hL0:=hL0.drew
  refine ⟨_,H.ld (b:=p) hn0,⟨by omega,_,zV rfl,⟨by omega,_,uZ rfl,Dc (⟨((6*i:Nat):Int),(IntWalk.i64_in _ (by omega)).trans (by omega),⟨by omega,_,uZ rfl,⟨_,zW (Nat.mod_lt _ (by decide)) (Nat.mod_lt _ (by decide)),?_⟩⟩⟩)⟩⟩⟩
  rw [show min (6*i) 64=6*i by omega]
  exact ah<|k2 i j f ⟨hi,hj,J,h4⟩ Y _ hL0
 ·have hnext: ∀ y,y<i+1→s.cs[aA y 64]?=some (C4 0):=fun y h=>by
   by_cases e:y=i
   ·rw [e,J,show f=0 by omega];rfl
   ·exact Y y (by omega)
  exact ai<|ak<|au<|Dt [0,10] [pt p,C5 i] fun g=>Db ⟨i+1,rfl,⟨⟨by omega,hnext⟩,rfl⟩,by omega⟩
end
end
section
attribute [local irreducible] aY a6
def je (F:Nat→Nat):Nat→Nat
 | 0=>0
 | n+1=>je F n+F n*2 ^ (64*n)
theorem u0 {F:Nat→Nat} : ∀ (n:Nat),(∀ i,i<n→F i<18446744073709551616)→je F n<2 ^ (64*n)
 | 0,_=>by simp [je]
 | n+1,h=>by
  have h1:=u0 n fun i _=>h i (by omega)
  have q:=h n (by omega)
  have y:(F n+1)*2 ^ (64*n)≤2 ^ 64*2 ^ (64*n):=Nat.mul_le_mul_right _ (show F n+1≤2 ^ 64 from q)
  rw [show 64*(n+1)=64+64*n by omega,Nat.pow_add]
  rw [Nat.add_mul,Nat.one_mul] at y
  show je F n+F n*2 ^ (64*n)<_
  omega
theorem u1 {F G:Nat→Nat} {i:Nat} (hi:G i<F i) (hl: ∀ k,k<i→G k<18446744073709551616): ∀ (n:Nat),i<n→(∀ k,i<k→k<n→G k=F k)→je G n<je F n
 | 0,h,_=>by omega
 | n+1,h,he=>by
  show je G n+G n*2 ^ (64*n)<je F n+F n*2 ^ (64*n)
  by_cases q:i=n
  ·subst q
   have h1:=u0 i hl
   have y:(G i+1)*2 ^ (64*i)≤F i*2 ^ (64*i):=Nat.mul_le_mul_right _ hi
   rw [Nat.add_mul,Nat.one_mul] at y
   omega
  ·have h1:=u1 hi hl n (by omega) fun k h1 _=>he k h1 (by omega)
   rw [he n (by omega) (by omega)]
   omega
def mX (cs:List Value) (i:Nat):Nat:=match cs[aA i 64]? with
 | some (.int .u64 z)=>z.toNat
 | _=>0
def mY (s:bQ):Nat:=je (mX s.cs) 11
theorem qP {cs:List Value} {i f:Nat} (h:cs[aA i 64]?=some (.int .u64 f)):mX cs i=f:=by
 unfold mX
 rw [h]
 simp
theorem bm.zX {s:bQ} (h:bm s) {i:Nat} (hi:i<11):mX s.cs i<18446744073709551616:=by
 obtain ⟨f,h1,q,_⟩:=h.full i hi
 rw [qP q]
 exact h1
theorem zY {f j:Nat} (hf:f<18446744073709551616) (y:j<64) (h:f.testBit j=true):dE f j<f:=by
 have h1:dE f j≤f:=Nat.and_le_left
 rcases Nat.lt_or_eq_of_le h1 with q | q
 ·exact q
 ·have H:(dE f j).testBit j=false:=by
   unfold dE
   rw [Nat.testBit_and,qz (ja y) y,Nat.testBit_two_pow]
   simp
  rw [q,h] at H
  cases H
theorem zZ {now i j:Nat} (H:now<18446744073709551616) (hi:i<11) (J:j<64) {c:Nat} (hc:i+1≤c):eO now i j / 2 ^ (6*c)=now / 2 ^ (6*c):=by
 have h1:eO now i j / 2 ^ (6*(i+1))=now / 2 ^ (6*(i+1)):=by
  by_cases y:i=10
  ·subst y
   rw [Nat.div_eq_of_lt (Nat.lt_of_lt_of_le (uX now 10 j) (by decide)),Nat.div_eq_of_lt (Nat.lt_of_lt_of_le H (by decide))]
  ·have q:j*2 ^ (6*i)≤64*2 ^ 54:=Nat.mul_le_mul (by omega) (Nat.pow_le_pow_right (by decide) (by omega))
   exact (uY H hi J (Nat.lt_of_le_of_lt q (by decide))).1
 have q: ∀ x:Nat,x / 2 ^ (6*c)=x / 2 ^ (6*(i+1)) / 2 ^ (6*c - 6*(i+1)):=fun x=>by
  rw [Nat.div_div_eq_div_mul,←Nat.pow_add]
  congr 2
  omega
 rw [q,q,h1]
theorem z6 {now due i j:Nat} (H:now<18446744073709551616) (hd:due<18446744073709551616) (hi:i<11) (J:lu now due i j):due / 2 ^ (6*i)=eO now i j / 2 ^ (6*i):=by
 obtain ⟨h1,q⟩:=J
 have Y:j<64:=by rw [←q];exact Nat.mod_lt _ (by decide)
 have h3:j*2 ^ (6*i)≤due:=by
  have:j≤due / 2 ^ (6*i):=by rw [←q];exact Nat.mod_le _ _
  exact (Nat.le_div_iff_mul_le (Nat.pow_pos (by decide))).1 this
 obtain ⟨h4,h5⟩:=uY H hi Y (by omega)
 have y: ∀ x:Nat,x / 2 ^ (6*(i+1))=x / 2 ^ (6*i) / 64:=fun x=>by
  rw [show 6*(i+1)=6*i+6 by omega,Nat.pow_add,←Nat.div_div_eq_div_mul]
 rw [y,y] at h1 h4
 omega
def de (s:bQ) (i j f:Nat):List Value:=((s.cs.set (aA i j) (.map none)).set (aA i 64) (C4 ((dE f j:Nat):Int))).set 0 (C4 ((eO s.now i j:Nat):Int))
def kA (s:bQ) (i j f:Nat) (sl:jd):bQ:= { s with now:=eO s.now i j,cs:=de s i j f,sl:=sl }
theorem mZ {s:bQ} {i j f k:Nat} (q:k≠0) (h1:k≠aA i j) (y:k≠aA i 64):(de s i j f)[k]?=s.cs[k]?:=by
 unfold de
 rw [cr q,cr y,cr h1]
theorem bm.u2 {s:bQ} (h:bm s) {i j f:Nat} {sl:jd} (hi:i<11) (hj:j<64) (hf:s.cs[aA i 64]?=some (C4 f)) (hf':f<18446744073709551616) (hlow: ∀ q,q<i→s.cs[aA q 64]?=some (C4 0))
  (Y: ∀ c x,(c,x)∈sl↔(c,x)∈s.sl∧s.cs[aA i j]?≠some (.map (some c))) (hnd:(sl.map Prod.fst).Nodup):bm (kA s i j f sl):=by
 have hlen:=h.len
 have a1: ∀ q y,y<64→aA q y≠0∧aA q y≠aA i 64:=fun q y hj'=>by unfold aA;omega
 have a2: ∀ q y,y<64→ ¬ (q=i∧y=j)→aA q y≠aA i j:=fun q y hj' hn e=>hn (by unfold aA at e;omega)
 have cut:(de s i j f)[aA i j]?=some (.map none):=by
  unfold de
  rw [cr (a1 i j hj).1,cr (a1 i j hj).2,List.getElem?_set_self (by rw [hlen];unfold aA;omega)]
 have oth: ∀ q y,y<64→ ¬ (q=i∧y=j)→(de s i j f)[aA q y]?=s.cs[aA q y]?:=fun q y hj' hn=>mZ (a1 q y hj').1 (a2 q y hj' hn) (a1 q y hj').2
 have had: ∀ q y c,q<11→y<64→(de s i j f)[aA q y]?=some (.map (some c))→s.cs[aA q y]?=some (.map (some c))∧s.cs[aA i j]?≠some (.map (some c)):=fun q y c h1 h2 h3=>by
  by_cases e:q=i∧y=j
  ·rw [e.1,e.2,cut] at h3;cases h3
  ·rw [oth q y h2 e] at h3
   exact ⟨h3,fun h4=>e (h.uniq q y i j c h1 h2 hi hj h3 h4)⟩
 refine ⟨by show (de s i j f).length=718;simp [de,hlen],?_,uX _ _ _,?_,?_,fun q y hi' hj'=>?_,fun i1 j1 i2 j2 c b1 b2 b3 b4 h1 h2=>?_,hnd,fun c x hc hx=>?_,fun q hi'=>?_,h.spots⟩
 ·show (de s i j f)[0]?=_
  unfold de
  rw [List.getElem?_set_self (by simp [hlen])]
  rfl
 ·show (de s i j f)[1]?=_
  rw [mZ (by decide) (by unfold aA;omega) (by unfold aA;omega)]
  exact h.t1
 ·show (de s i j f)[717]?=_
  rw [mZ (by decide) (by unfold aA;omega) (by unfold aA;omega)]
  exact h.o1
 ·show ∃ o,(de s i j f)[aA q y]?=_∧_
  by_cases e:q=i∧y=j
  ·rw [e.1,e.2,cut]
   exact ⟨none,rfl,fun b e=>by cases e⟩
  ·rw [oth q y hj' e]
   obtain ⟨o,ho,hk⟩:=h.slot q y hi' hj'
   refine ⟨o,ho,fun b eb=>?_⟩
   obtain ⟨x,hx,hy⟩:=hk b eb
   subst eb
   have hne:s.cs[aA i j]?≠some (.map (some b)):=fun h4=>e (h.uniq q y i j b hi' hj' hi hj ho h4)
   refine ⟨x,(Y b x).2 ⟨hx,hne⟩,fun t v ht=>?_⟩
   obtain ⟨due,hd,hp⟩:=hy t v ht
   refine ⟨due,hd,?_,hp.2⟩
   show due / _=eO s.now i j / _
   by_cases hlt:q<i
   ·obtain ⟨g,_,H,J⟩:=h.full q hi'
    have h0:=hlow q hlt
    rw [H] at h0
    simp only [Option.some.injEq,Value.int.injEq,true_and] at h0
    have hg0:g=0:=by omega
    have:=J y b x hj' (by rw [hg0];simp) ho hx
    rw [this] at ht
    cases ht
   ·rw [zZ h.nowlt hi hj (by omega)]
    exact hp.1
 ·exact h.uniq i1 j1 i2 j2 c b1 b2 b3 b4 (had i1 j1 c b1 b2 h1).1 (had i2 j2 c b3 b4 h2).1
 ·obtain ⟨h1,h2⟩:=(Y c x).1 hc
  obtain ⟨i1,j1,b1,b2,b3⟩:=h.back c x h1 hx
  refine ⟨i1,j1,b1,b2,?_⟩
  show (de s i j f)[aA i1 j1]?=_
  rw [oth i1 j1 b2 (fun e=>h2 (by rw [←e.1,←e.2];exact b3))]
  exact b3
 ·by_cases hii:q=i
  ·subst hii
   refine ⟨dE f j,qM hf',?_,fun y c x hj' hbit hc hx=>?_⟩
   ·show (de s q j f)[aA q 64]?=_
    unfold de
    rw [cr (by unfold aA;omega),List.getElem?_set_self (by rw [List.length_set,hlen];unfold aA;omega)]
   ·obtain ⟨h1,h2⟩:=had q y c hi hj' hc
    obtain ⟨g,_,H,J⟩:=h.full q hi
    rw [hf] at H
    simp only [Option.some.injEq,Value.int.injEq,true_and] at H
    have e:f=g:=by omega
    have hjj:y≠j:=fun e=>h2 (by rw [←e];exact h1)
    rw [qN hj hj' hjj] at hbit
    exact J y c x hj' (e▸hbit) h1 ((Y c x).1 hx).1
  ·obtain ⟨g,hg1,H,J⟩:=h.full q hi'
   refine ⟨g,hg1,?_,fun y c x hj' hbit hc hx=>?_⟩
   ·show (de s i j f)[aA q 64]?=_
    rw [mZ (by unfold aA;omega) (by unfold aA;omega) (by unfold aA;omega)]
    exact H
   ·exact J y c x hj' hbit (had q y c hi' hj' hc).1 ((Y c x).1 hx).1
end
section
attribute [local irreducible] ay aQ aH aY a6 aW
theorem u4 {sl:jd} (h:(sl.map Prod.fst).Nodup) {b:Nat} {m:List (Int × Bool)} (h1:(b,m)∈sl) {c:Nat} {x:List (Int × Bool)} :(c,x)∈sl.erase (b,m)↔c≠b∧(c,x)∈sl:=by
 have H:sl.Nodup:=(List.pairwise_map.1 h).imp fun h e=>h (by rw [e])
 rw [H.mem_erase_iff]
 constructor
 ·rintro ⟨y,q⟩
  refine ⟨fun e=>y ?_,q⟩
  subst e
  rw [mV h q h1]
 ·rintro ⟨y,q⟩
  exact ⟨fun e=>y (by cases e;rfl),q⟩
theorem u6 {s q:bQ} {i j f:Nat} (hs':bm q) (hi:i<11) (J:j<64) (Y:s.cs[aA i 64]?=some (C4 f)) (hf':f<18446744073709551616) (hb:f.testBit j=true) (H: ∀ k,i≤k→k<11→q.cs[aA k 64]?=(de s i j f)[aA k 64]?) (hlen:s.cs.length=718):mY q<mY s:=by
 have y:(de s i j f)[aA i 64]?=some (C4 ((dE f j:Nat):Int)):=by
  unfold de
  rw [cr (by unfold aA;omega),List.getElem?_set_self (by rw [List.length_set,hlen];unfold aA;omega)]
 refine u1 (i:=i) ?_ (fun k _=>hs'.zX (by omega)) 11 hi fun k _ h2=>?_
 ·rw [qP Y,qP ((H i (Nat.le_refl _) hi).trans y)]
  exact zY hf' J hb
 ·unfold mX
  rw [H k (by omega) h2,mZ (by unfold aA;omega) (by unfold aA;omega) (by unfold aA;omega)]
section
variable {w0 w:World} {L R:List ao} {K:Value→World→Prop} {p:Nat} {s:bQ}
theorem c227 {i j f:Nat} (hi:i<11) (hj:j<64) (hf:s.cs[aA i 64]?=some (C4 f)) (hb:f.testBit j=true) (hlow: ∀ i',i'<i→s.cs[aA i' 64]?=some (C4 0)) (y:SH w0 w L) [q:aC (a8 p) L s R]
  (k: ∀ s' w',(s'.now=eO s.now i j∧mY s'<mY s∧TK s.T s'.T∧(OT s→OT s'))→SH w0 w' (a8 p s'::R)→K (.tuple #[]) w'):D 227 [pt p,C5 i,C5 j,C4 (eO s.now i j)] w K:=by
 obtain ⟨H,y⟩:=SH.ec y p
 obtain ⟨o,ho,hm⟩:=H.slot i j hi hj
 have hA:=y.apart s.tb (T:=bF)
 have hG:=y.gv s.tb (T:=bF)
 have ei:(i:Int)=(i:Nat):=rfl
 have ej:(j:Int)=(j:Nat):=rfl
 obtain ⟨f',Y,hf2,_⟩:=H.full i hi
 obtain rfl:f=f':=by rw [hf] at hf2;simp only [Option.some.injEq,Value.int.injEq,true_and] at hf2;omega
 generalize hfr:eO s.now i j=fr
 refine s227 rfl<|ac ⟨_,lv rfl rfl rfl ‹_› ‹_›,ac (⟨_,gT rfl rfl rfl ‹_› ‹_›,⟨_,y.ld (b:=p) ‹_›,ac (⟨_,gT rfl rfl rfl ‹_› ‹_›,y.cp (b:=p) [.map none] (fun w_1 y=>?_) (hl:=Nat.ble_eq_true_of_le (by rw [H.len];show 2+65*i+j+1≤718;omega))⟩)⟩⟩)⟩
 have y:SH w0 w_1 (Cl p 275 (s.cs.set (aA i j) (.map none))::_):=y
 have hf3:(s.cs.set (aA i j) (.map none))[aA i 64]?=some (C4 f):=(cr (by unfold aA;omega)).trans hf
 refine aJ<|have y:=y.drew;⟨_,y.ld (b:=p) hf3,⟨by omega,_,mW rfl hj,⟨_,qL Y hj,y.cp (b:=p) [C4 ((dE f j:Nat):Int)] (fun w_2 y=>?_) (hl:=Nat.ble_eq_true_of_le (by rw [List.length_set,H.len];show 2+65*i+64+1≤718;omega))⟩⟩⟩
 have y:SH w0 w_2 (Cl p 275 ((s.cs.set (aA i j) (.map none)).set (aA i 64) (C4 ((dE f j:Nat):Int)))::_):=y
 refine ac<|y.cp (b:=p) (o:=0) [C4 fr] (fun w_3 y=>?_) (hl:=Nat.ble_eq_true_of_le (by rw [List.length_set,List.length_set,H.len];show 0+1≤718;omega))
 have y:SH w0 w_3 (Cl p 275 (de s i j f)::Mt bF s.tb s.T::Mt a7 s.ob s.O::bi (bJ s.sl)::R):=by subst hfr;exact y
 cases o with
 | none=>
  have hw:bm (kA s i j f s.sl):=H.u2 hi hj hf Y hlow (fun c x=>⟨fun h=>⟨h,by rw [ho];exact fun e=>by cases e⟩,fun h=>h.1⟩) H.nd
  have y:=SH.dK (p:=p) (s:=kA s i j f s.sl) (R:=R) (y.ae (L':=Cl p 275 (de s i j f)::Mt bF s.tb s.T::Mt a7 s.ob s.O::bi (bJ s.sl)::R)) hw
  refine ac<|pa 1 rfl<|aZ (zB (t:=269) rfl rfl y fun r _ y=>aM ?_)
  refine bU ([10]++List.range' 42 14) rfl [0,41] (fun (_:Unit)=>[pt p,.pointer (some ⟨r,0,none⟩)]) (fun _ w'=>SH w0 w' (Pt r (.mapIter none 0 #[] 0)::a8 p (kA s i j f s.sl)::R)) (fun _=>0) () rfl y ?_
  rintro g _ w_5 y
  exact av<|au<|aZ (zw rfl rfl y fun y=>av (ai (aS (k _ _ ⟨rfl,u6 hw hi hj hf Y hb (fun _ _ _=>rfl) H.len,fun _ h=>h,fun h=>h⟩ y))))
 | some b=>
  obtain ⟨m,hbm,hk⟩:=hm b rfl
  have hw:bm (kA s i j f (s.sl.erase (b,m))):=H.u2 hi hj hf Y hlow (fun c x=>by
   rw [u4 H.nd hbm,ho]
   exact ⟨fun h=>⟨h.2,fun e=>h.1 (by cases e;rfl)⟩,fun h=>⟨fun e=>h.2 (by rw [e]),h.1⟩⟩) (((List.erase_sublist).map _).nodup H.nd)
  have y:=SH.qC (y.ae (L':=bi (bJ s.sl)::Cl p 275 (de s i j f)::Mt bF s.tb s.T::Mt a7 s.ob s.O::R)) hbm
  have y:=SH.dK (p:=p) (s:=kA s i j f (s.sl.erase (b,m))) (R:=Mt a7 b m::R) (y.ae (L':=Cl p 275 (de s i j f)::Mt bF s.tb s.T::Mt a7 s.ob s.O::bi (bJ (s.sl.erase (b,m)))::Mt a7 b m::R)) hw
  refine ac<|aZ (mU rfl rfl y fun J _ y=>aM ?_)
  refine bU ([10]++List.range' 42 14) rfl [0,41] (fun (_:List (Int × Bool) × Option (Int × Bool) × bQ)=>[pt p,.pointer (some ⟨J,0,none⟩)]) (fun x w'=>(x.2.2.now=fr∧(TK s.T x.2.2.T∧(OT s→OT x.2.2))∧(∀ q∈x.1,gh x.2.2 q.1∧aB x.2.2.T q.1=aB s.T q.1)∧ ∀ k,i≤k→k<11→x.2.2.cs[aA k 64]?=(de s i j f)[aA k 64]?)∧SH w0 w' (It a7 J b m x.1 x.2.1::a8 p x.2.2::R)) (fun x=>x.1.length) (m,none,kA s i j f (s.sl.erase (b,m))) rfl ⟨⟨hfr,⟨fun _ h=>h,fun h=>h⟩,fun q hq=>⟨fun c x v hc hx=>?_,rfl⟩,fun _ _ _=>rfl⟩,y⟩ ?_
  ·obtain ⟨h1,h2⟩:=(u4 H.nd hbm).1 hc
   obtain ⟨due,hd,_⟩:=hk q.1 q.2 hq
   have h3:=H.qJ hd h2 hx
   rw [ho] at h3
   cases h3
   exact h1 rfl
  rintro g ⟨left,cur,s2⟩ w_5 ⟨⟨hz,htk,haw,hfu⟩,y⟩
  simp only at hz htk haw hfu
  have y:SH w0 w_5 (It a7 J b m left cur::a8 p s2::R):=y
  refine av<|au<|aZ (mQ rfl rfl y (fun h_1 w_6 y=>?_) (fun t v h_1 h_2 w_6 y=>?_))
  ·exact av (ai (aS (k s2 _ ⟨hz.trans hfr.symm,u6 (SH.ec (R:=Mt a7 b m::R) (s:=s2) y p).1 hi hj hf Y hb hfu H.len,htk.1,htk.2⟩ y.ae)))
  refine av (ai (ak (aM (ac (aZ (mS rfl rfl y ?_))))))
  obtain ⟨hs2,hLo⟩:=SH.ec y p
  have ht2:=hs2.t1
  obtain ⟨due,hd,hp⟩:=hk t v h_1.2
  obtain ⟨q0,hq0,e0⟩:=List.mem_map.1 h_1.1
  obtain ⟨ha2,hT2⟩:=haw q0 hq0
  rw [e0] at ha2 hT2
  rw [hd] at hT2
  have htR:cM t:=(SH.gv (T:=a7) (y.qB (T:=a7) J) b) _ h_1.2
  obtain ⟨⟨d1,d2⟩,_⟩:=H.spots _ (cU hd)
  simp only at d1 d2
  refine au ⟨_,hLo.ld (b:=p) ht2,⟨_,dC (T:=bF) rfl rfl rfl htR hLo hT2,⟨_,rfl,c225 (p:=p) (s:=s2) (due:=due) htR (by omega) y ha2 fun s3 _ h y=>⟨(aO left t,some (t,v),s3),rfl,⟨⟨h.1.trans hz,⟨fun u hu=>?_,fun ho=>h.2.2.2.2.1 (htk.2 ho)⟩,fun q hq=>?_,fun k h1 h2=>?_⟩,y.ae⟩,h_2⟩⟩⟩⟩
  ·by_cases e:u=t
   ·rw [e,hd];exact fun e=>by cases e
   ·exact htk.1 u (h.2.2.1 u e▸hu)
  ·have h5:=(eK (k':=q.1) (u:=q.2)).1 hq
   obtain ⟨h6,h7⟩:=haw q h5.2
   exact ⟨h.2.1 q.1 h5.1 h6,(h.2.2.1 q.1 h5.1).trans h7⟩
  ·exact (h.2.2.2.1 i (by rw [hz,←hfr];exact z6 H.nowlt (by omega) hi hp) k h1 h2).trans (hfu k h1 h2)
end
end
section
attribute [local irreducible] ay aQ aH aY a6 aW
def ey (room wait:Int) (life patience:Nat):Prop:=1≤room∧room≤256∧1≤wait∧wait≤64∧1≤life∧1≤patience∧life≤4294967296∧patience≤4294967296
section
variable {w0 w:World} {L R:List ao} {K:Value→World→Prop}
theorem c87 {room wait:Int} {life patience:Nat} (hL:SH w0 w L) (k1:ey room wait life patience→ ∀ w',SH w0 w' L→K (.bool true) w') (k2: ¬ey room wait life patience→ ∀ w',SH w0 w' L→K (.bool false) w'):D 87 [.agg #[.int .i64 room,.int .i64 wait,.int .u64 life,.int .u64 patience]] w K:=by
 refine s87 rfl ?_
 refine ac ?_
 refine hL.az [.int .i64 room,.int .i64 wait,.int .u64 life,.int .u64 patience] fun b_1 w_1 hL=>?_
 refine ac ?_
 refine ⟨_,hL.ld (b:=b_1) rfl,?_⟩
 refine ap (fun h_5=>?_) (fun h_5=>?_)
 ·refine ⟨_,hL.ld (b:=b_1) rfl,?_⟩
  refine ap (fun h_9=>?_) (fun h_9=>?_)
  ·refine pa 2 rfl ?_
   refine ⟨_,hL.ld (b:=b_1) rfl,?_⟩
   refine ap (fun h_14=>?_) (fun h_14=>?_)
   ·refine pa 2 rfl ?_
    refine ⟨_,hL.ld (b:=b_1) rfl,?_⟩
    refine ap (fun h_19=>?_) (fun h_19=>?_)
    ·refine pa 2 rfl ?_
     refine ⟨_,hL.ld (b:=b_1) rfl,?_⟩
     refine ⟨_,hL.ld (b:=b_1) rfl,?_⟩
     refine ⟨_,tI rfl rfl rfl,?_⟩
     refine ap (fun h_27=>?_) (fun h_27=>?_)
     ·refine pa 2 rfl ?_
      refine ⟨_,hL.ld (b:=b_1) rfl,?_⟩
      refine ⟨_,hL.ld (b:=b_1) rfl,?_⟩
      refine ir fun z_34 h_341 h_342 h_343=>?_
      refine ap (fun h_35=>?_) (fun h_35=>?_)
      ·refine pa 2 rfl ?_
       refine ah ?_
       refine k1 (by (unfold ey;omega)) _ hL.ae
      ·refine pa 2 rfl ?_
       refine ah ?_
       refine k2 (by (unfold ey;omega)) _ hL.ae
     ·refine pa 10 rfl ?_
      refine ah ?_
      refine k2 (by (unfold ey;omega)) _ hL.ae
    ·refine pa 18 rfl ?_
     refine ah ?_
     refine k2 (by (unfold ey;omega)) _ hL.ae
   ·refine pa 23 rfl ?_
    refine ah ?_
    refine k2 (by (unfold ey;omega)) _ hL.ae
  ·refine pa 28 rfl ?_
   refine ah ?_
   refine k2 (by (unfold ey;omega)) _ hL.ae
 ·refine pa 32 rfl ?_
  refine ah ?_
  refine k2 (by (unfold ey;omega)) _ hL.ae
structure dT where
 room:Int
 wait:Int
 life:Nat
 pat:Nat
 eb:Nat
 E:List (Int × ((Nat × Nat × Nat × Nat × Nat × Nat) × Int))
 rb:Nat
 W:List (Int × (Value × Int))
 Z:List (Value × List Value)
 lb:Nat
 ls:bQ
 wb:Nat
 ws:bQ
 count:Int
abbrev jL (s:dT):List Value:=[C5 s.room,C5 s.wait,C4 s.life,C4 s.pat,.map (some s.eb),.map (some s.rb),pt s.lb,pt s.wb,C5 s.count]
structure dU (s:dT):Prop where
 bq: ∀ q∈s.E,bw [C1 q.2.1.1,C1 q.2.1.2.1,C1 q.2.1.2.2.1,C1 q.2.1.2.2.2.1,C1 q.2.1.2.2.2.2.1,C1 q.2.1.2.2.2.2.2]
 rows: ∀ q∈s.W,∃ zs,(q.2.1,ints zs)∈s.Z∧zs.length≤64
 lives:s.ls.now=0
 waits:s.ws.now=0
 life:1≤s.life∧s.life≤4294967296∧1≤s.pat∧s.pat≤4294967296
 bnd:s.wait≤64∧1≤s.room∧s.room≤256
 ek:(s.E.length:Int)≤s.room
 el: ∀ u,aB s.ls.T u≠none→aB s.E u≠none
 rk:(s.W.length:Int)≤s.room
 rl: ∀ u,aB s.ws.T u≠none→aB s.W u≠none
def Ca (p:Nat) (s:dT):ao:=bi [Cl p 190 (jL s),Mt cw s.eb s.E,Mt fz s.rb s.W,cj 1 s.Z,a8 s.lb s.ls,a8 s.wb s.ws,Fact (dU s)]
theorem SH.ca (y:SH w0 w L) (p:Nat) {s:dT} [q:aC (Ca p) L s R]:dU s∧SH w0 w (Cl p 190 (jL s)::Mt cw s.eb s.E::Mt fz s.rb s.W::cj 1 s.Z::a8 s.lb s.ls::a8 s.wb s.ws::R):=by
 have h:SH w0 w (Cl p 190 (jL s)::Mt cw s.eb s.E::Mt fz s.rb s.W::cj 1 s.Z::a8 s.lb s.ls::a8 s.wb s.ws::Fact (dU s)::R):=(y.at (Ca p)).io
 exact ⟨(h.ae:SH w0 w [Fact (dU s)]).known,h.ae⟩
theorem SH.ed {p:Nat} {s:dT} (q:SH w0 w (Cl p 190 (jL s)::Mt cw s.eb s.E::Mt fz s.rb s.W::cj 1 s.Z::a8 s.lb s.ls::a8 s.wb s.ws::R)) (h:dU s):SH w0 w (Ca p s::R):=by
 have h1:=q.fact h
 have y:SH w0 w (Cl p 190 (jL s)::Mt cw s.eb s.E::Mt fz s.rb s.W::cj 1 s.Z::a8 s.lb s.ls::a8 s.wb s.ws::Fact (dU s)::R):=h1.ae
 exact SH.star (l:=[Cl p 190 (jL s),Mt cw s.eb s.E,Mt fz s.rb s.W,cj 1 s.Z,a8 s.lb s.ls,a8 s.wb s.ws,Fact (dU s)]) y
theorem c45 {room wait:Int} {life patience:Nat} (q:SH w0 w L) (k1:ey room wait life patience→ ∀ p s w',s.W=[]→SH w0 w' (Ca p s::L)→K (.tuple #[pt p,C5 0]) w')
  (k2: ¬ey room wait life patience→ ∀ w',SH w0 w' L→K (.tuple #[.pointer none,C5 11]) w'):D 45 [C5 room,C5 wait,C4 life,C4 patience] w K:=by
 refine s45 rfl<|ac<|ac ⟨rfl,[C5 room,C5 wait,C4 life,C4 patience],rfl,q.an fun b_10 _ q=>q.aj (b:=b_10) fun _ q=>aq (q.Da (b:=b_10) rfl (c87 q (fun y w_21 q=>?_) (fun y w_21 q=>?_)))⟩
 ·refine Dj<|ak<|ac<|c88 q (fun H s_24 _ h_243 q=>ac (c88 q (fun J s_28 _ h_283 q=>ac (q.Da (b:=b_10) rfl (aZ (eZ rfl q fun Y _ q=>aZ (eZ rfl q fun b_33 _ q=>⟨by kernel_rfl,[C5 room,C5 wait,C4 life,C4 patience,Value.map (some Y),Value.map (some b_33),pt H,pt J,C5 0],by kernel_rfl,q.az [C5 room,C5 wait,C4 life,C4 patience,Value.map (some Y),Value.map (some b_33),pt H,pt J,C5 0] fun b_37 _ q=>ah ?_⟩)))))))
  have q:=q.nN 1 [] (by simp)
  exact k1 y b_37 ⟨room,wait,life,patience,Y,[],b_33,[],[],H,s_24,J,s_28,0⟩ _ rfl
   (SH.ed (R:=L) (q.ae (L':=Cl b_37 190 [C5 room,C5 wait,C4 life,C4 patience,Value.map (some Y),Value.map (some b_33),pt H,pt J,C5 0]::Mt cw Y []::Mt fz b_33 []::cj 1 []::a8 H s_24::a8 J s_28::L))
    ⟨fun _ h=>(by cases h),fun _ h=>(by cases h),h_243.1,h_283.1,by unfold ey at y;simp only [];omega,by unfold ey at y;simp only [];omega,by unfold ey at y;show ((0:Nat):Int)≤room;omega,fun u hu=>by simp only [h_243.2] at hu;exact absurd rfl hu,by unfold ey at y;show ((0:Nat):Int)≤room;omega,fun u hu=>by simp only [h_283.2] at hu;exact absurd rfl hu⟩)
 ·refine Dj<|ac<|ah<|k2 ‹_› _ q.ae
end
end
section
attribute [local irreducible] ay aQ aH
abbrev qQ (a b c d:Nat):Value:= .agg #[C4 a,C4 b,C4 c,C4 d]
def gU (a b c d:Nat):Prop:=120≤a∧240≤b∧7440≤c∧60≤d∧a≤4294967296∧b≤4294967296∧c≤4294967296∧d≤4294967296
abbrev nf (p o i:Int) (l c:Bool):Value:= .agg #[C1 p,C1 o,C1 i,.bool l,.bool c]
section
variable {w0 w:World} {L R:List ao} {K:Value→World→Prop} {v u:Value}
theorem c97 {a b c d:Nat} (y:SH w0 w L) (k: ∀ z:Int,(a≤z∧b≤z∧c≤z∧d≤z∧(z=a∨z=b∨z=c∨z=d))→ ∀ H,SH w0 H L→K (C4 z) H):D 97 [qQ a b c d] w K:=by
 refine s97 rfl<|ac<|y.az [C4 a,C4 b,C4 c,C4 d] fun q _ y=>ac<|y.C9 (b:=q) rfl<|y.C9 (b:=q) rfl<|y.C9 (b:=q) rfl<|y.C9 (b:=q) rfl<|ir fun _ _ _ _=>ir fun _ h_11'1 h_11'2 h_11'3=>ir fun z_11'' h_11''1 h_11''2 h_11''3=>ah<|k _ (by omega) _ y.ae
theorem c54 {a b c d:Nat} (q:SH w0 w L) (k1:gU a b c d→ ∀ H,SH w0 H L→K (.bool true) H) (k2: ¬gU a b c d→ ∀ H,SH w0 H L→K (.bool false) H):D 54 [qQ a b c d] w K:=by
 refine s54 rfl<|ac<|q.az [C4 a,C4 b,C4 c,C4 d] fun y _ q=>ac<|q.C9 (b:=y) rfl<|ap (fun h_6=>?_) (fun h_6=>?_)
 ·refine pa 99 rfl<|q.C9 (b:=y) rfl<|ap (fun J=>?_) (fun J=>?_)
  ·refine pa 99 rfl<|q.C9 (b:=y) rfl<|ap (fun Y=>?_) (fun Y=>?_)
   ·refine pa 99 rfl<|q.C9 (b:=y) rfl<|ap (fun h_20=>?_) (fun h_20=>?_)
    ·refine pa 99 rfl<|ac<|q.Da (b:=y) rfl<|c97 q (fun _ _ _ q=>ap (fun h_26=>?_) (fun h_26=>?_))
     ·refine pa 99 rfl<|ah<|k1 (by (unfold gU;omega)) _ q.ae
     ·refine pa 99 rfl<|ah<|k2 (by (unfold gU;omega)) _ q.ae
    ·refine pa 99 rfl<|ac<|ah<|k2 (by (unfold gU;omega)) _ q.ae
   ·refine pa 99 rfl<|ac<|ah<|k2 (by (unfold gU;omega)) _ q.ae
  ·refine pa 99 rfl<|ac<|ah<|k2 (by (unfold gU;omega)) _ q.ae
 ·refine pa 99 rfl<|ac<|ah<|k2 (by (unfold gU;omega)) _ q.ae
theorem c333 {f:Int} (k: ∀ b,K (.bool b) w):D 333 [C1 f] w K:=by
 refine s333 rfl<|ac<|ac<|Dj<|ap (fun q=>?_) (fun q=>?_)
 ·refine ah<|k _
 ·refine ah<|k _
theorem c331 {p f:Int} (q:SH w0 w L) (k1:(p=6∨p=17∨p=1)→ ∀ o J,SH w0 J L→K (.tuple #[nf p o 0 false false,C5 0]) J)
  (k2: ∀ e:Int,e≠0→ ∀ J,SH w0 J L→K (.tuple #[nf 0 0 0 false false,C5 e]) J):D 331 [C1 p,C1 f] w K:=by
 refine s331 rfl<|ac<|q.an fun y _ q=>av<|ac<|aM<|aG<|aM<|aG<|av<|aq<|ap (fun h_8=>?_) (fun h_8=>?_)
 ·refine aS<|av<|aq<|c333 (fun _=>cG (fun Y=>?_) (fun Y=>?_))
  ·refine ac ⟨rfl,[C1 0,C1 0,C1 0,.bool false,.bool false],rfl,q.aj (b:=y) fun H q=>ah (q.Da (b:=y) rfl (k2 _ (by omega) _ q.ae))⟩
  ·refine ak<|ac ⟨rfl,[C1 p,C1 2,C1 0,.bool false,.bool false],rfl,q.aj (b:=y) fun H q=>ah (q.Da (b:=y) rfl (k1 (by omega) _ _ q.ae))⟩
 ·refine ak<|aq<|ap (fun h_10=>?_) (fun h_10=>?_)
  ·refine aS<|av<|ac ⟨rfl,[C1 p,C1 0,C1 0,.bool false,.bool false],rfl,q.aj (b:=y) fun _ q=>ah (q.Da (b:=y) rfl (k1 (by omega) _ _ q.ae))⟩
  ·refine ak<|ac<|ap (fun h_12=>?_) (fun h_12=>?_)
   ·refine ai<|aS<|av<|ac ⟨rfl,[C1 p,C1 0,C1 0,.bool false,.bool false],rfl,q.aj (b:=y) fun H q=>ah (q.Da (b:=y) rfl (k1 (by omega) _ _ q.ae))⟩
   ·refine ai<|ak<|aS<|ac ⟨rfl,[C1 0,C1 0,C1 0,.bool false,.bool false],rfl,q.aj (b:=y) fun H q=>ah (q.Da (b:=y) rfl (k2 _ (by omega) _ q.ae))⟩
theorem c334 {p o i:Int} {l e:Bool} {a b c d:Nat} (q:SH w0 w L) (k: ∀ z:Nat,(z=a∨z=b∨z=c∨z=d∨z=0)→ ∀ w',SH w0 w' L→K (C4 z) w'):D 334 [nf p o i l e,qQ a b c d] w K:=by
 refine s334 rfl<|ac<|q.az [C1 p,C1 o,C1 i,.bool l,.bool e] fun H _ q=>q.az [C4 a,C4 b,C4 c,C4 d] fun y _ q=>av<|ac<|q.C9 (b:=H) rfl<|aM<|ac<|ap (fun h_8=>?_) (fun h_8=>?_)
 ·refine ai<|ac<|q.C9 (b:=y) rfl<|ah<|k _ (by omega) _ q.ae
 ·refine ai<|ac<|ap (fun J=>?_) (fun J=>?_)
  ·refine ai<|ac<|q.C9 (b:=y) rfl<|ah<|k _ (by omega) _ q.ae
  ·refine ai<|ac<|ap (fun Y=>?_) (fun Y=>?_)
   ·refine ai<|aq<|q.C9 (b:=H) rfl ?_
    cases l
    ·refine ak<|ac<|q.C9 (b:=y) rfl<|ah<|k _ (by omega) _ q.ae
    ·refine q.C9 (b:=H) rfl<|cG (fun h_22=>?_) (fun h_22=>?_)
     ·refine ac<|q.C9 (b:=y) rfl<|ah<|k _ (by omega) _ q.ae
     ·refine ak<|ac<|q.C9 (b:=y) rfl<|ah<|k _ (by omega) _ q.ae
   ·refine ai<|ak<|ac<|ah<|k _ (by (simp<;>omega)) _ q.ae
theorem c281 {p o i:Int} {l e out:Bool} {f:Int} (q:SH w0 w L) (k: ∀ o' i' l' e' w',SH w0 w' L→K (nf p o' i' l' e') w'):D 281 [nf p o i l e,.bool out,C1 f] w K:=by
 refine s281 rfl<|ac<|q.az [C1 p,C1 o,C1 i,.bool l,.bool e] fun y _ q=>q.an fun H _ q=>?_
 refine bt [8,9,10,11,12,13,14,15,16,17,18,19,20,21,22,23,24,25,26,27,28,29,30,31,32,33,34,35,36,37,38,39] rfl [3,6] (fun (_:Int × Int)=>[pt y,pt H]) (fun s w'=>SH w0 w' (Cl y 327 [C1 p,C1 s.1,C1 s.2,.bool l,.bool e]::Cl H 327 [C1 0,C1 0,C1 0,.bool false,.bool false]::L)) ?_ ?_
 ·refine aM<|ac<|q.C9 (b:=y) rfl<|ap (fun h_17=>?_) (fun h_17=>?_)
  ·refine ai<|ac<|q.Da (b:=y) rfl<|q.aj (b:=H) fun _ q=>ah<|q.Da (b:=H) rfl<|k _ _ _ _ _ q.ae
  ·refine ai<|ac<|q.C9 (b:=y) rfl ?_
   cases e
   ·refine pa 8 rfl<|ai<|ac<|ai ?_
    cases out
    ·exact au<|q.C9 (b:=y) rfl<|Dj<|Dj<|q.aN (b:=y) [C1 (aH BinOp.and IntKind.u8 (aH BinOp.or IntKind.u8 i f) 7)] [C1 p,C1 o,C1 (aH BinOp.and IntKind.u8 (aH BinOp.or IntKind.u8 i f) 7),.bool l,.bool false] fun w_24 q=>⟨(_,_),rfl,q⟩
    ·exact au<|q.C9 (b:=y) rfl<|Dj<|Dj<|q.aN (b:=y) [C1 (aH BinOp.and IntKind.u8 (aH BinOp.or IntKind.u8 o f) 7)] [C1 p,C1 (aH BinOp.and IntKind.u8 (aH BinOp.or IntKind.u8 o f) 7),C1 i,.bool l,.bool false] fun w_24 q=>⟨(_,_),rfl,q⟩
   ·refine pa 4 rfl ?_
    cases out
    ·exact pa 4 rfl<|ai<|ac<|ai<|au<|q.C9 (b:=y) rfl<|Dj<|Dj<|q.aN (b:=y) [C1 (aH BinOp.and IntKind.u8 (aH BinOp.or IntKind.u8 i f) 7)] [C1 p,C1 o,C1 (aH BinOp.and IntKind.u8 (aH BinOp.or IntKind.u8 i f) 7),.bool l,.bool true] fun w_24 q=>⟨(_,_),rfl,q⟩
    ·refine c333 (fun b_27=>pa 2 rfl (ai ?_))
     cases b_27
     ·exact ac<|ai<|au<|q.C9 (b:=y) rfl<|Dj<|Dj<|q.aN (b:=y) [C1 (aH BinOp.and IntKind.u8 (aH BinOp.or IntKind.u8 o f) 7)] [C1 p,C1 (aH BinOp.and IntKind.u8 (aH BinOp.or IntKind.u8 o f) 7),C1 i,.bool l,.bool true] fun w_24 q=>⟨(_,_),rfl,q⟩
     ·refine ac<|q.C9 (b:=y) rfl ⟨rfl,[C1 p,C1 2,C1 0,.bool false,.bool false],rfl,q.aj (b:=H) fun w_24 q=>ah (q.Da (b:=H) rfl (k _ _ _ _ _ q.ae))⟩
 rintro g ⟨o,i⟩ w_7 q
 refine ac<|q.C9 (b:=y) rfl<|q.C9 (b:=y) rfl<|Dj<|ac<|q.C9 (b:=y) rfl ?_
 cases l
 ·refine Dj<|ap (fun h_50=>?_) (fun h_50=>?_)
  ·refine q.aN (b:=y) [.bool true] [C1 p,C1 ((o,i).fst),C1 ((o,i).snd),.bool true,.bool e] fun w_30 q=>ac<|q.C9 (b:=y) rfl ?_
   cases e
   ·refine q.C9 (b:=y) rfl<|q.C9 (b:=y) rfl<|Dj<|Dj<|ap (fun Y=>?_) (fun Y=>?_)
    ·refine pa 6 rfl<|q.aN (b:=y) [.bool true] [C1 p,C1 ((o,i).fst),C1 ((o,i).snd),.bool true,.bool true] fun w_39 q=>ac<|q.Da (b:=y) rfl<|q.aj (b:=H) fun w_41 q=>ah<|q.Da (b:=H) rfl<|k _ _ _ _ _ q.ae
    ·refine pa 3 rfl<|Dj<|ap (fun h_67=>?_) (fun h_67=>?_)
     ·refine q.aN (b:=y) [.bool true] [C1 p,C1 ((o,i).fst),C1 ((o,i).snd),.bool true,.bool true] fun J q=>ac<|q.Da (b:=y) rfl<|q.aj (b:=H) fun w_42 q=>ah<|q.Da (b:=H) rfl<|k _ _ _ _ _ q.ae
     ·refine q.aN (b:=y) [.bool false] [C1 p,C1 ((o,i).fst),C1 ((o,i).snd),.bool true,.bool false] fun J q=>ac<|q.Da (b:=y) rfl<|q.aj (b:=H) fun w_42 q=>ah<|q.Da (b:=H) rfl<|k _ _ _ _ _ q.ae
   ·refine pa 14 rfl<|q.aN (b:=y) [.bool true] [C1 p,C1 ((o,i).fst),C1 ((o,i).snd),.bool true,.bool true] fun w_38 q=>ac<|q.Da (b:=y) rfl<|q.aj (b:=H) fun J q=>ah<|q.Da (b:=H) rfl<|k _ _ _ _ _ q.ae
  ·refine q.aN (b:=y) [.bool false] [C1 p,C1 ((o,i).fst),C1 ((o,i).snd),.bool false,.bool e] fun w_30 q=>ac<|q.C9 (b:=y) rfl ?_
   cases e
   ·refine q.C9 (b:=y) rfl<|q.C9 (b:=y) rfl<|Dj<|Dj<|ap (fun Y=>?_) (fun Y=>?_)
    ·refine pa 6 rfl<|q.aN (b:=y) [.bool true] [C1 p,C1 ((o,i).fst),C1 ((o,i).snd),.bool false,.bool true] fun w_39 q=>ac<|q.Da (b:=y) rfl<|q.aj (b:=H) fun w_41 q=>ah<|q.Da (b:=H) rfl<|k _ _ _ _ _ q.ae
    ·refine pa 3 rfl<|Dj<|ap (fun h_67=>?_) (fun h_67=>?_)
     ·refine q.aN (b:=y) [.bool true] [C1 p,C1 ((o,i).fst),C1 ((o,i).snd),.bool false,.bool true] fun J q=>ac<|q.Da (b:=y) rfl<|q.aj (b:=H) fun w_42 q=>ah<|q.Da (b:=H) rfl<|k _ _ _ _ _ q.ae
     ·refine q.aN (b:=y) [.bool false] [C1 p,C1 ((o,i).fst),C1 ((o,i).snd),.bool false,.bool false] fun J q=>ac<|q.Da (b:=y) rfl<|q.aj (b:=H) fun w_42 q=>ah<|q.Da (b:=H) rfl<|k _ _ _ _ _ q.ae
   ·refine pa 14 rfl<|q.aN (b:=y) [.bool true] [C1 p,C1 ((o,i).fst),C1 ((o,i).snd),.bool false,.bool true] fun w_38 q=>ac<|q.Da (b:=y) rfl<|q.aj (b:=H) fun J q=>ah<|q.Da (b:=H) rfl<|k _ _ _ _ _ q.ae
 ·refine pa 5 rfl<|q.aN (b:=y) [.bool true] [C1 p,C1 ((o,i).fst),C1 ((o,i).snd),.bool true,.bool e] fun w_30 q=>ac<|q.C9 (b:=y) rfl ?_
  cases e
  ·refine q.C9 (b:=y) rfl<|q.C9 (b:=y) rfl<|Dj<|Dj<|ap (fun Y=>?_) (fun Y=>?_)
   ·refine pa 6 rfl<|q.aN (b:=y) [.bool true] [C1 p,C1 ((o,i).fst),C1 ((o,i).snd),.bool true,.bool true] fun w_38 q=>ac<|q.Da (b:=y) rfl<|q.aj (b:=H) fun J q=>ah<|q.Da (b:=H) rfl<|k _ _ _ _ _ q.ae
   ·refine pa 3 rfl<|Dj<|ap (fun h_67=>?_) (fun h_67=>?_)
    ·refine q.aN (b:=y) [.bool true] [C1 p,C1 ((o,i).fst),C1 ((o,i).snd),.bool true,.bool true] fun w_38 q=>ac<|q.Da (b:=y) rfl<|q.aj (b:=H) fun w_41 q=>ah<|q.Da (b:=H) rfl<|k _ _ _ _ _ q.ae
    ·refine q.aN (b:=y) [.bool false] [C1 p,C1 ((o,i).fst),C1 ((o,i).snd),.bool true,.bool false] fun w_38 q=>ac<|q.Da (b:=y) rfl<|q.aj (b:=H) fun w_41 q=>ah<|q.Da (b:=H) rfl<|k _ _ _ _ _ q.ae
  ·refine pa 14 rfl<|q.aN (b:=y) [.bool true] [C1 p,C1 ((o,i).fst),C1 ((o,i).snd),.bool true,.bool true] fun _ q=>ac<|q.Da (b:=y) rfl<|q.aj (b:=H) fun w_38 q=>ah<|q.Da (b:=H) rfl<|k _ _ _ _ _ q.ae
end
end
section
attribute [local irreducible] ay aQ aH iU kv mh
abbrev lx (i1 b1 i2 b2 r:Int):Value:= .agg #[C3 i1,C5 b1,C3 i2,C5 b2,C3 r]
def gy (i1 b1 i2 b2 r:Int):Prop:=jH i1 b1 i2 b2∧(r=0∨ct i2 b2 r∧r≠i2)
abbrev ng (k r n:Int):Value:= .agg #[C5 k,C5 r,C3 n]
section
variable {w0 w:World} {L R:List ao} {K:Value→World→Prop} {v u:Value} {i1 b1 i2 b2 r:Int}
theorem c18 (q:SH w0 w L) (k1:gy i1 b1 i2 b2 r→ ∀ Y,SH w0 Y L→K (.bool true) Y) (k2: ¬gy i1 b1 i2 b2 r→ ∀ Y,SH w0 Y L→K (.bool false) Y):D 18 [lx i1 b1 i2 b2 r] w K:=by
 refine s18 rfl<|ac<|q.az [C3 i1,C5 b1,C3 i2,C5 b2,C3 r] fun y _ q=>ac<|q.C9 (b:=y) rfl<|ap (fun h_6=>?_) (fun h_6=>?_)
 ·refine pa 16 rfl<|ac ⟨_,q.ar (b:=y) [C3 i1,C5 b1],⟨_,q.ar (b:=y) [C3 i2,C5 b2],c52 q (fun H J q=>?_) (fun H J q=>?_)⟩⟩
  ·refine pa 4 rfl<|ah<|k1 (by (simp only [gy];simp_all;done)) _ q.ae
  ·refine pa 4 rfl<|ah<|k2 (by (simp only [gy];simp_all;done)) _ q.ae
 ·refine ⟨_,q.ar (b:=y) [C3 i2,C5 b2],q.C9 (b:=y) rfl (c51 q (fun h_12 w_12 q=>?_) (fun h_12 w_12 q=>?_))⟩
  ·refine q.C9 (b:=y) rfl<|q.C9 (b:=y) rfl<|ap (fun h_19=>?_) (fun h_19=>?_)
   ·refine pa 3 rfl<|ac ⟨_,q.ar (b:=y) [C3 i1,C5 b1],⟨_,q.ar (b:=y) [C3 i2,C5 b2],c52 q (fun H J q=>?_) (fun H J q=>?_)⟩⟩
    ·refine pa 4 rfl<|ah<|k1 (by (simp only [gy];simp_all;done)) _ q.ae
    ·refine pa 4 rfl<|ah<|k2 (by (simp only [gy];simp_all;done)) _ q.ae
   ·refine pa 3 rfl<|ac ⟨_,q.ar (b:=y) [C3 i1,C5 b1],⟨_,q.ar (b:=y) [C3 i2,C5 b2],c52 q (fun H J q=>?_) (fun H J q=>?_)⟩⟩
    ·refine pa 4 rfl<|ah<|k2 (by (simp only [gy];simp_all;done)) _ q.ae
    ·refine pa 4 rfl<|ah<|k2 (by (simp only [gy];simp_all;done)) _ q.ae
  ·refine pa 10 rfl<|ac ⟨_,q.ar (b:=y) [C3 i1,C5 b1],⟨_,q.ar (b:=y) [C3 i2,C5 b2],c52 q (fun H J q=>?_) (fun H J q=>?_)⟩⟩
   ·refine pa 4 rfl<|ah<|k2 (by (simp only [gy];simp_all;done)) _ q.ae
   ·refine pa 4 rfl<|ah<|k2 (by (simp only [gy];simp_all;done)) _ q.ae
theorem c49 {s:Int} (q:SH w0 w L) (k: ∀ z,((s=0→z=i1)∧(s=1→z=i2))→ ∀ Y,SH w0 Y L→K (C3 z) Y):D 49 [lx i1 b1 i2 b2 r,C5 s] w K:=by
 refine s49 rfl<|ac<|q.az [C3 i1,C5 b1,C3 i2,C5 b2,C3 r] fun y _ q=>av<|ac<|aM<|ac<|ap (fun J=>?_) (fun J=>?_)
 ·refine ai<|ac<|q.C9 (b:=y) rfl<|ah<|k _ (by omega) _ q.ae
 ·refine ai<|ac<|ap (fun H=>?_) (fun H=>?_)
  ·refine ai<|ac<|q.C9 (b:=y) rfl<|ah<|k _ (by omega) _ q.ae
  ·refine ai<|ak<|ac<|ah<|k _ (by omega) _ q.ae
theorem c157 {n:Int} (q:SH w0 w L) (k: ∀ H,SH w0 H L→K (ng 0 n 0) H):D 157 [C5 n] w K:=by
 refine s157 rfl<|ac<|q.an fun y _ q=>ac ⟨rfl,[C5 0,C5 n,C3 0],rfl,q.aj (b:=y) fun _ q=>ah (q.Da (b:=y) rfl (k _ q.ae))⟩
theorem c159 {a b:Int} (q:SH w0 w L) (k: ∀ t w',SH w0 w' L→K (.bool t) w'):D 159 [lx i1 b1 i2 b2 r,C3 a,C3 b] w K:=by
 refine s159 rfl<|ac<|q.az [C3 i1,C5 b1,C3 i2,C5 b2,C3 r] fun Y _ q=>ac<|ap (fun h_8=>?_) (fun h_8=>?_)
 ·refine ap (fun h_11=>?_) (fun h_11=>?_)
  ·refine pa 15 rfl<|ah<|k _ _ q.ae
  ·refine pa 2 rfl ⟨_,q.ar (b:=Y) [C3 i1,C5 b1],c51 q (fun y H q=>?_) (fun y H q=>?_)⟩
   ·refine q.C9 (b:=Y) rfl<|ap (fun J=>?_) (fun J=>?_)
    ·refine pa 3 rfl<|ah<|k _ _ q.ae
    ·refine pa 3 rfl<|ah<|k _ _ q.ae
   ·refine pa 9 rfl<|ah<|k _ _ q.ae
 ·refine pa 5 rfl ⟨_,q.ar (b:=Y) [C3 i1,C5 b1],c51 q (fun y H q=>?_) (fun y H q=>?_)⟩
  ·refine q.C9 (b:=Y) rfl<|ap (fun J=>?_) (fun J=>?_)
   ·refine pa 3 rfl<|ah<|k _ _ q.ae
   ·refine pa 3 rfl<|ah<|k _ _ q.ae
  ·refine pa 9 rfl<|ah<|k _ _ q.ae
theorem c158 {a:Int} (q:SH w0 w L) (k: ∀ t w',SH w0 w' L→K (.bool t) w'):D 158 [lx i1 b1 i2 b2 r,C3 a] w K:=by
 refine s158 rfl<|ac<|q.az [C3 i1,C5 b1,C3 i2,C5 b2,C3 r] fun y _ q=>ac<|c91 q (fun h_6=>?_) (fun h_6=>?_)
 ·refine ⟨_,q.ar (b:=y) [C3 i1,C5 b1],c93 q (fun H J q=>?_) (fun H J q=>?_)⟩
  ·refine Dt [1,2,4,7,11] [C3 a,pt y,.bool false,.bool true,.bool true] fun g=>Dj<|pa 9 rfl<|ah<|k _ _ q.ae
  ·refine Dt [1,2,4,7,11] [C3 a,pt y,.bool false,.bool true,.bool false] fun g=>Dj<|pa 3 rfl<|q.C9 (b:=y) rfl<|ap (fun Y=>?_) (fun Y=>?_)
   ·refine pa 2 rfl<|ah<|k _ _ q.ae
   ·refine pa 2 rfl<|ah<|k _ _ q.ae
 ·refine pa 15 rfl<|ah<|k _ _ q.ae
theorem c160 {a:Int} (q:SH w0 w L) (k: ∀ d n e:Int,(d=0∨d=3)∧(0≤n∧n<20)∧(e=0∨e=a∨e=r)→ ∀ w',SH w0 w' L→K (ng d n e) w'):D 160 [lx i1 b1 i2 b2 r,C3 a] w K:=by
 refine s160 rfl<|ac<|q.az [C3 i1,C5 b1,C3 i2,C5 b2,C3 r] fun H _ q=>q.an fun y _ q=>aG<|ac<|c91 q (fun h_7=>?_) (fun h_7=>?_)
 ·refine Dj<|ai<|ac ⟨_,q.ar (b:=H) [C3 i2,C5 b2],c51 q (fun J Y q=>?_) (fun J Y q=>?_)⟩
  ·refine Dt [1,2,4,14] [C3 a,pt H,pt y,.bool true] fun g=>ai<|ac ⟨rfl,[C5 3,C5 0,C3 a],rfl,q.aj (b:=y) fun _ q=>ah (q.Da (b:=y) rfl (k _ _ _ (by omega) _ q.ae))⟩
  ·refine Dt [1,2,4,14] [C3 a,pt H,pt y,.bool false] fun g=>ai<|ac ⟨_,q.ar (b:=H) [C3 i2,C5 b2],c93 q (fun h_21 w_21 q=>?_) (fun h_21 w_21 q=>?_)⟩
   ·refine pa 6 rfl<|ai<|ac<|c157 q (fun w_27 q=>q.aj (b:=y) fun _ q=>ah (q.Da (b:=y) rfl (k _ _ _ (by omega) _ q.ae)))
   ·refine q.C9 (b:=H) rfl<|ap (fun h_25=>?_) (fun h_25=>?_)
    ·refine pa 2 rfl<|ai<|ac<|c157 q (fun w_27 q=>q.aj (b:=y) fun _ q=>ah (q.Da (b:=y) rfl (k _ _ _ (by omega) _ q.ae)))
    ·refine pa 2 rfl<|ai<|ak<|ac<|q.C9 (b:=H) rfl ⟨rfl,[C5 3,C5 0,C3 r],rfl,q.aj (b:=y) fun _ q=>ah (q.Da (b:=y) rfl (k _ _ _ (by omega) _ q.ae))⟩
 ·refine Dj<|ai<|ac<|c157 q (fun _ q=>q.aj (b:=y) fun _ q=>ah (q.Da (b:=y) rfl (k _ _ _ (by omega) _ q.ae)))
theorem c110 {s a b:Int} (q:SH w0 w L) (k: ∀ d n e:Int,((s=1→d=0∨d=4)∧(s≠1→d=0∨d=1∨d=2∨d=3))∧(0≤n∧n<20)∧(e=0∨e=b∨e=r)→ ∀ w',SH w0 w' L→K (ng d n e) w'):D 110 [lx i1 b1 i2 b2 r,C5 s,C3 a,C3 b] w K:=by
 refine s110 rfl<|ac<|q.az [C3 i1,C5 b1,C3 i2,C5 b2,C3 r] fun H _ q=>q.an fun y _ q=>ac<|ap (fun h_11=>?_) (fun h_11=>?_)
 ·refine pa 5 rfl<|aG<|ac<|q.Da (b:=H) rfl<|c18 q (fun J Y q=>?_) (fun J Y q=>?_)
  ·refine Dj<|Dj<|pa 2 rfl<|ai<|ac<|Df<|pa 14 rfl<|ai<|ac<|Df<|ai<|ac<|q.Da (b:=H) rfl<|c159 q (fun _ _ q=>cG (fun h_51=>?_) (fun h_51=>?_))
   ·refine ai<|ac<|c157 q (fun _ q=>q.aj (b:=y) fun w_34 q=>ah (q.Da (b:=y) rfl (k _ _ _ (by omega) _ q.ae)))
   ·refine ai<|ac<|q.C9 (b:=H) rfl<|ap (fun h_58=>?_) (fun h_58=>?_)
    ·refine pa 5 rfl<|ai<|ac ⟨rfl,[C5 1,C5 0,C3 0],rfl,q.aj (b:=y) fun w_34 q=>ah (q.Da (b:=y) rfl (k _ _ _ (by omega) _ q.ae))⟩
    ·refine ap (fun h_61=>?_) (fun h_61=>?_)
     ·refine pa 2 rfl<|ai<|ac ⟨rfl,[C5 1,C5 0,C3 0],rfl,q.aj (b:=y) fun w_35 q=>ah (q.Da (b:=y) rfl (k _ _ _ (by omega) _ q.ae))⟩
     ·refine pa 2 rfl<|ai<|ac<|q.C9 (b:=H) rfl<|ap (fun h_69=>?_) (fun h_69=>?_)
      ·refine ai<|ac ⟨rfl,[C5 2,C5 0,C3 0],rfl,q.aj (b:=y) fun w_36 q=>ah (q.Da (b:=y) rfl (k _ _ _ (by omega) _ q.ae))⟩
      ·refine ai<|ac ⟨_,q.ar (b:=H) [C3 i1,C5 b1],c93 q (fun h_75 w_75 q=>?_) (fun h_75 w_75 q=>?_)⟩
       ·refine Dt [3,4,8,75] [C3 b,pt H,pt y,.bool true] fun g=>ai<|ac<|c157 q (fun _ q=>q.aj (b:=y) fun _ q=>ah (q.Da (b:=y) rfl (k _ _ _ (by omega) _ q.ae)))
       ·refine Dt [3,4,8,75] [C3 b,pt H,pt y,.bool false] fun g=>ai<|ak<|ac<|q.Da (b:=H) rfl<|c160 q (fun _ _ _ _ _ q=>q.aj (b:=y) fun _ q=>ah (q.Da (b:=y) rfl (k _ _ _ (by omega) _ q.ae)))
  ·refine Dj<|pa 5 rfl<|ai<|ac<|c157 q (fun w_24 q=>q.aj (b:=y) fun _ q=>ah (q.Da (b:=y) rfl (k _ _ _ (by omega) _ q.ae)))
 ·refine ap (fun h_14=>?_) (fun h_14=>?_)
  ·refine pa 2 rfl<|aG<|ac<|q.Da (b:=H) rfl<|c18 q (fun J Y q=>?_) (fun J Y q=>?_)
   ·refine Dj<|Dj<|pa 2 rfl<|ai<|ac<|Dg<|q.Da (b:=H) rfl<|c158 q (fun _ _ q=>cG (fun h_32=>?_) (fun h_32=>?_))
    ·refine pa 9 rfl<|ai<|ac<|c157 q (fun w_41 q=>q.aj (b:=y) fun w_35 q=>ah (q.Da (b:=y) rfl (k _ _ _ (by omega) _ q.ae)))
    ·refine q.C9 (b:=H) rfl<|ap (fun h_38=>?_) (fun h_38=>?_)
     ·refine pa 3 rfl<|ai<|ac<|c157 q (fun w_41 q=>q.aj (b:=y) fun w_36 q=>ah (q.Da (b:=y) rfl (k _ _ _ (by omega) _ q.ae)))
     ·refine pa 3 rfl<|ai<|ac<|Dg<|ai<|ac ⟨rfl,[C5 4,C5 0,C3 0],rfl,q.aj (b:=y) fun w_34 q=>ah (q.Da (b:=y) rfl (k _ _ _ (by omega) _ q.ae))⟩
   ·refine Dj<|pa 5 rfl<|ai<|ac<|c157 q (fun w_24 q=>q.aj (b:=y) fun w_30 q=>ah (q.Da (b:=y) rfl (k _ _ _ (by omega) _ q.ae)))
  ·refine pa 2 rfl<|aG<|ac<|q.Da (b:=H) rfl<|c18 q (fun J Y q=>?_) (fun J Y q=>?_)
   ·refine Dj<|Dj<|pa 2 rfl<|ai<|ac<|c157 q (fun w_24 q=>q.aj (b:=y) fun w_30 q=>ah (q.Da (b:=y) rfl (k _ _ _ (by omega) _ q.ae)))
   ·refine Dj<|pa 5 rfl<|ai<|ac<|c157 q (fun w_24 q=>q.aj (b:=y) fun w_30 q=>ah (q.Da (b:=y) rfl (k _ _ _ (by omega) _ q.ae)))
end
end
section
theorem laid:laidOutB Tryz.prog=true:=by kernel_rfl
theorem z7:Maps.Keyed Tryz.prog 331:=Maps.Keyed.of_law (deep_law_laid (m:=5) laid (by decide) (of_decide_eq_true (by kernel_rfl)) (by kernel_rfl) (by kernel_rfl))
theorem z8:Maps.Keyed Tryz.prog 333:=Maps.Keyed.of_law (deep_law_laid (m:=5) laid (by decide) (of_decide_eq_true (by kernel_rfl)) (by kernel_rfl) (by kernel_rfl))
theorem Aa:Maps.Keyed Tryz.prog 336:=Maps.Keyed.of_law (deep_law_laid (m:=5) laid (by decide) (of_decide_eq_true (by kernel_rfl)) (by kernel_rfl) (by kernel_rfl))
theorem qR: ∃ n,Tryz.prog.types.size+1=n+1+1+1+1:=⟨607,by kernel_rfl⟩
theorem u7:Tryz.prog.cellsOf 331=3:=by kernel_rfl
theorem Ab:Tryz.prog.cellsOf 333=5:=by kernel_rfl
theorem Ac:Tryz.prog.cellsOf 336=4:=by kernel_rfl
theorem qS:Tryz.prog.cellsOf 325=2:=by kernel_rfl
theorem qT:Tryz.prog.cellsOf 5=1:=by kernel_rfl
theorem qU:Tryz.prog.cellsOf 22=1:=by kernel_rfl
theorem qV:Tryz.prog.cellsOf 43=1:=by kernel_rfl
theorem Ad:Tryz.prog.keyType 331=true:=by kernel_rfl
theorem Ae:Tryz.prog.keyType 333=true:=by kernel_rfl
theorem Af:Tryz.prog.keyType 336=true:=by kernel_rfl
theorem wf_u16 (z:Int) (h:0≤z∧z<65536):(Lit.int .u16 z).wf=true:=by simp [Lit.wf,IntKind.min,IntKind.max,IntKind.bits,IntKind.signed];omega
abbrev eP (p:Int):Prop:=0≤p∧p<256
abbrev cN (p:Int):Prop:=0≤p∧p<4294967296
abbrev bz (p:Int):Prop:=0≤p∧p<65536
theorem Ag {p a x:Int} (h:eP p∧cN a∧bz x): ∃ l,keyOf Tryz.prog 331 (.agg #[.int .u8 p,.int .u32 a,.int .u16 x])=some l:=by
 obtain ⟨n,q⟩:=qR
 unfold keyOf
 rw [Tryz.underlying331,q]
 simp (decide:=true) [-Array.all_eq_true,Program.keyLits,Tryz.underlying331,Tryz.underlying325,Tryz.underlying5,Tryz.underlying22,Tryz.underlying43,u7,qS,qT,qU,qV,Ad,Value.formed,Value.cells,wf_u8 _ h.1,wf_u32 _ h.2.1,wf_u16 _ h.2.2]
theorem Ah {p a x b y:Int} (h:eP p∧cN a∧bz x∧cN b∧bz y): ∃ l,keyOf Tryz.prog 333 (.agg #[.int .u8 p,.int .u32 a,.int .u16 x,.int .u32 b,.int .u16 y])=some l:=by
 obtain ⟨n,q⟩:=qR
 unfold keyOf
 rw [Tryz.underlying333,q]
 simp (decide:=true) [-Array.all_eq_true,Program.keyLits,Tryz.underlying331,Tryz.underlying333,Tryz.underlying325,Tryz.underlying5,Tryz.underlying22,Tryz.underlying43,u7,Ab,qS,qT,qU,qV,Ae,Value.formed,Value.cells,wf_u8 _ h.1,wf_u32 _ h.2.1,wf_u16 _ h.2.2.1,wf_u32 _ h.2.2.2.1,wf_u16 _ h.2.2.2.2]
theorem Ai {p x b y:Int} (h:eP p∧bz x∧cN b∧bz y): ∃ l,keyOf Tryz.prog 336 (.agg #[.int .u8 p,.int .u16 x,.int .u32 b,.int .u16 y])=some l:=by
 obtain ⟨n,q⟩:=qR
 unfold keyOf
 rw [Tryz.underlying336,q]
 simp (decide:=true) [-Array.all_eq_true,Program.keyLits,Tryz.underlying336,Tryz.underlying325,Tryz.underlying5,Tryz.underlying22,Tryz.underlying43,Ac,qS,qT,qU,qV,Af,Value.formed,Value.cells,wf_u8 _ h.1,wf_u16 _ h.2.1,wf_u32 _ h.2.2.1,wf_u16 _ h.2.2.2]
abbrev gz:bN Tryz.prog where
 k:=331
 κ:=Int × Int × Int
 ν:=Int × Int
 dec:=inferInstance
 ek:=fun s=> .agg #[C1 s.1,C3 s.2.1,C2 s.2.2]
 en:=fun s=> .agg #[C2 s.1,C5 s.2]
 good:=fun s=>eP s.1∧cN s.2.1∧bz s.2.2
 keyed:=z7
 inj:=fun a _ h=>by simpa [Prod.ext_iff] using h
 key:=fun a h=>Ag h
instance:cR Tryz.prog 281 gz 339 (.agg #[C2 0,C5 0]):=⟨Tryz.underlying281,by kernel_rfl⟩
abbrev eQ:bN Tryz.prog where
 k:=333
 κ:=Int × Int × Int × Int × Int
 ν:=Int
 dec:=inferInstance
 ek:=fun s=> .agg #[C1 s.1,C3 s.2.1,C2 s.2.2.1,C3 s.2.2.2.1,C2 s.2.2.2.2]
 en:=fun z=>C5 z
 good:=fun s=>eP s.1∧cN s.2.1∧bz s.2.2.1∧cN s.2.2.2.1∧bz s.2.2.2.2
 keyed:=z8
 inj:=fun a _ h=>by simpa [Prod.ext_iff] using h
 key:=fun a h=>Ah h
instance:cR Tryz.prog 279 eQ 3 (C5 0):=⟨Tryz.underlying279,by kernel_rfl⟩
abbrev eR:bN Tryz.prog where
 k:=336
 κ:=Int × Int × Int × Int
 ν:=Int
 dec:=inferInstance
 ek:=fun s=> .agg #[C1 s.1,C2 s.2.1,C3 s.2.2.1,C2 s.2.2.2]
 en:=fun z=>C5 z
 good:=fun s=>eP s.1∧bz s.2.1∧cN s.2.2.1∧bz s.2.2.2
 keyed:=Aa
 inj:=fun a _ h=>by simpa [Prod.ext_iff] using h
 key:=fun a h=>Ai h
instance:cR Tryz.prog 280 eR 3 (C5 0):=⟨Tryz.underlying280,by kernel_rfl⟩
end
section
def bD (bs:List Nat):ByteArray:=⟨(bs.map fun b=>UInt8.ofNat b).toArray⟩
theorem foldl_push (xs:List Nat): ∀ s:ByteArray,((xs.map fun (b:Nat)=>(b:Int)).foldl (fun r n=>r.push (UInt8.ofNat n.toNat)) s).data.toList=s.data.toList++xs.map fun b=>UInt8.ofNat b:=by
 induction xs with
 | nil=>intro s;simp
 | cons x xs ih=>intro s;rw [List.map_cons,List.foldl_cons,ih];simp [ByteArray.push]
theorem Aj {a b:List Nat} (y: ∀ x∈a,x<256) (H: ∀ x∈b,x<256):bD a=bD b↔a=b:=by
 constructor
 ·intro h
  have h1:a.map (fun b=>UInt8.ofNat b)=b.map fun b=>UInt8.ofNat b:=by
   have:=congrArg (fun s:ByteArray=>s.data.toList) h
   simpa [bD] using this
  have q:=congrArg (fun l:List UInt8=>l.map fun u=>u.toNat) h1
  simp only [List.map_map] at q
  have key: ∀ l:List Nat,(∀ x∈l,x<256)→l.map ((fun u:UInt8=>u.toNat) ∘ fun b=>UInt8.ofNat b)=l:=fun l hl=>by
   conv=>rhs;rw [←List.map_id l]
   apply List.map_congr_left
   intro x J
   simp [Nat.mod_eq_of_lt (hl x J)]
  rwa [key a y,key b H] at q
 ·rintro rfl;rfl
theorem Ak {w:World} {v:Value} {bs:List Nat} (h:Rb w v bs):(convert 44 9 v).run Tryz.prog w= .ok (.string (bD bs)) w:=by
 obtain ⟨hlen,a,c,rfl,q,y⟩:=h.reads
 rw [run_convert_bytes_string w 44 9 5 a bs.length c Tryz.underlying44 (by kernel_rfl) (by kernel_rfl)]
 cases a with
 | none=>
  have:bs=[]:=List.length_eq_zero_iff.1 (q rfl)
  subst this
  simp [Conv.bytesToString]
  rfl
 | some ad=>
  have hl:(loadCells ad bs.length).run Tryz.prog w= .ok ((bs.map fun (b:Nat)=>(b:Int)).map (.int .u8)).toArray w:=by
   have:=run_loadCells_list (P:=Tryz.prog) w ad ((bs.map fun (b:Nat)=>(b:Int)).map (.int .u8)) (fun j u H=>y ad rfl j u (by rw [←H,List.map_map];rfl))
   simpa using this
  rw [run_bytesToString w ad bs.length c _ hl]
  congr 2
  have:=foldl_push bs ByteArray.empty
  apply ByteArray.ext
  apply Array.toList_inj.1
  rw [this]
  show ([]:List UInt8)++_=_
  simp [bD]
theorem jf {w:World} {f:Fr} {o:Oper} {x:Operand} {v:Value} {bs:List Nat} (q:o.op= .convert 44 9 x:=by rfl) (y:ev f x=v) (h:Rb w v bs):(execOp (ev f) o).run Tryz.prog w= .ok (.value (.string (bD bs))) w:=by
 have:=Ak h
 unfold execOp
 simp [q,y,this]
theorem Al {w:World} {f:Fr} {o:Oper} {x y:Operand} {a b:List Nat} (H:o.op= .binOp .eql 9 x y 9:=by rfl) (J:ev f x= .string (bD a)) (Y:ev f y= .string (bD b)) (ha: ∀ x∈a,x<256) (hb: ∀ x∈b,x<256):
  (execOp (ev f) o).run Tryz.prog w= .ok (.value (.bool (decide (a=b)))) w:=by
 refine nU (neg:=false) H J Y ?_
 have h:=Aj ha hb
 by_cases e:a=b
 ·subst e;simp
 ·have e1:bD a≠bD b:=fun q=>e (h.1 q)
  have e2: ¬ (bD a).toList=(bD b).toList:=fun q=>e1 (by
   apply ByteArray.ext
   apply Array.toList_inj.1
   simpa [ByteArray.toList_eq] using q)
  simp [e,e2]
attribute [local irreducible] ay aQ bD
section
variable {w0 w:World} {L R:List ao} {K:Value→World→Prop} {v u:Value} {bs ps:List Nat}
theorem c248 (q:SH w0 w L) [hb:aD L v bs] [hp:aD L u ps] (k1:bs=ps→K (.bool true) w) (k2: ¬bs=ps→K (.bool false) w):D 248 [v,u] w K:=by
 refine s248 rfl<|ac<|ac ⟨_,jf rfl rfl (q.rb v),⟨_,jf rfl rfl (q.rb u),⟨_,Al rfl rfl rfl (q.rb v).byte (q.rb u).byte,ah ?_⟩⟩⟩
 by_cases e:bs=ps
 ·refine (congrArg (fun b=>K (.bool b) w) (decide_eq_true e)).mpr (k1 e)
 ·refine (congrArg (fun b=>K (.bool b) w) (decide_eq_false e)).mpr (k2 e)
theorem c195 (q:SH w0 w L) [hb:aD L v bs] [hp:aD L u ps] (k1:bs.take ps.length=ps→ ∀ y,SH w0 y L→K (.bool true) y) (k2: ¬bs.take ps.length=ps→ ∀ y,SH w0 y L→K (.bool false) y):D 195 [v,u] w K:=by
 obtain ⟨ad,c,rfl,hcap,hB,hl0⟩:=q.enter (v:=v)
 obtain ⟨ad1,c1,rfl,hcap1,hB1,hl1⟩:=q.enter (v:=u)
 refine s195 rfl<|ac<|ac<|ap (fun H=>?_) (fun H=>?_)
 ·refine q.lj (M:=L) (n:=bs.length) (bs:=bs) (ps.length) fun J Y _ _=>c248 (v:=sl J Y (List.take ps.length bs)) (u:=sl ad1 c1 ps) q (fun h_16=>?_) (fun h_16=>?_)
  ·refine ah<|k1 ‹_› _ q.ae
  ·refine ah<|k2 ‹_› _ q.ae
 ·refine ah<|k2 (fun e=>H (by have:=congrArg List.length e;simp at this;omega)) _ q.ae
end
end
section
attribute [local irreducible] ay aQ aH num rowOf
section
variable {w0 w:World} {L R:List ao} {o:Oper} {f:Fr} {C:Value→World→Prop}
theorem oA (bs:List Nat) {x:Operand} {b n c:Nat} {cs:List Value} (ho:o.op= .convert 44 44 x) (q:ev f x= .slice (some ⟨b,0,none⟩) n c) (Y:SH w0 w L) [p:aR L b 5 cs R] (y:cs=aT bs) (hn:n=bs.length) (hc:c=bs.length) (hb:bK bs)
  (kk: ∀ w',SH w0 w' (By (.slice (some ⟨b,0,none⟩) n c) bs::R)→C (.slice (some ⟨b,0,none⟩) n c) w'):aL Tryz.prog o f w C:=by
 subst hn hc
 have hblk:=Y.eI b (t:=5) (cs:=cs)
 have hl:cs.length=bs.length:=by rw [y,fW]
 have hrun:(convert 44 44 (.slice (some ⟨b,0,none⟩) bs.length bs.length)).run Tryz.prog w= .ok (.slice (some ⟨b,0,none⟩) bs.length bs.length) (w.freeze ⟨b,bs.length,none⟩ 1):=by
  simp [convert,run_underlying Tryz.underlying44,run_underlying Tryz.underlying5,markStringish,shape,freeze,Sem.run,World.shape?,hblk,hl,Result.andThen]
 have hnew:(w.freeze ⟨b,bs.length,none⟩ 1).heap[b]?=some (.cells cs.toArray 5 (bs.length,bs.length+1)):=by
  simp only [World.freeze,Nat.one_ne_zero,if_false]
  rw [Array.getElem?_modify,if_pos rfl,hblk]
  rfl
 unfold aL execOp
 simp only [ho,q,Sem.run_bind,hrun,Result.andThen_ok,Sem.run_pure,bc]
 refine kk _ (SH.cQ (L:=[Cl b 5 cs]) (L':=[By _ bs]) (F:=R) (Y.perm p.perm) rfl rfl rfl (by simp [World.freeze]) (fun k _ hk=>?_) (fun A H=>?_) (by simp) (fun A H x q=>?_) (fun A H x q=>?_))
 ·have J:b≠k:=fun e=>hk (Cl b 5 cs) (by simp) e.symm
  simp only [World.freeze,Nat.one_ne_zero,if_false]
  rw [Array.getElem?_modify,if_neg J]
 ·rcases List.mem_singleton.1 H with rfl
  refine ⟨⟨by rw [fW];omega,_,_,rfl,fun h=>(by cases h),fun _ e _ _ hu=>?_⟩,hb.1,hb.2,_,_,rfl,Nat.le_refl _⟩
  cases e
  rw [add_plain]
  rw [←y] at hu
  simp [World.cell?,hnew]
  simpa using hu
 ·rcases List.mem_singleton.1 H with rfl
  exact q.elim
 ·rcases List.mem_singleton.1 H with rfl
  obtain ⟨_,q⟩:=q
  simp only [fk,Option.some.injEq] at q
  subst q
  exact .inl ⟨Cl b 5 cs,by simp,.inl rfl⟩
end
theorem nY:bK [0,1,8,0,6,4]:=⟨by decide,by simp⟩
theorem u9:bK [99,130,83,99]:=⟨by decide,by simp⟩
end
section
attribute [local irreducible] ay aQ aH num rowOf
abbrev kB (op m0 m1 m2 m3 m4 m5 ip t0 t1 t2 t3 t4 t5 tip:Nat):Value:= .agg #[C5 op,C1 m0,C1 m1,C1 m2,C1 m3,C1 m4,C1 m5,C3 ip,C1 t0,C1 t1,C1 t2,C1 t3,C1 t4,C1 t5,C3 tip]
abbrev bq (a b c d e f:Nat):List Value:=[C1 a,C1 b,C1 c,C1 d,C1 e,C1 f]
theorem iA {bs:List Nat} (h:bK bs) (n:Nat):bw (p9 (bs.drop n) 0):=oe ⟨fun b q=>h.1 b (List.mem_of_mem_drop q),by have:=h.2;simp;omega⟩ 0
section
variable {w0 w:World} {L R:List ao} {K:Value→World→Prop} {v u:Value} {bs ps:List Nat} {op m0 m1 m2 m3 m4 m5 ip t0 t1 t2 t3 t4 t5 tip:Nat}
theorem c145 (q:SH w0 w L) [hb:aD L v bs]
  (k1: ∀ (op m0 m1 m2 m3 m4 m5 ip t0 t1 t2 t3 t4 t5 tip:Nat),op<65536→bw (bq m0 m1 m2 m3 m4 m5)→bw (bq t0 t1 t2 t3 t4 t5)→ip<4294967296∧tip<4294967296→ ∀ w',SH w0 w' L→K (.tuple #[kB op m0 m1 m2 m3 m4 m5 ip t0 t1 t2 t3 t4 t5 tip,.nilIface]) w')
  (k2: ∀ b w',SH w0 w' (Ex b::L)→K (.tuple #[kB 0 0 0 0 0 0 0 0 0 0 0 0 0 0 0,bu b]) w'):D 145 [v] w K:=by
 obtain ⟨ad,c,rfl,hcap,hB,hl⟩:=q.enter (v:=v)
 refine s145 rfl<|ac<|q.an fun J _ q=>aq<|ap (fun h_7=>?_) (fun h_7=>?_)
 ·refine ac ⟨by kernel_rfl,[C5 0,C1 0,C1 0,C1 0,C1 0,C1 0,C1 0,C3 0,C1 0,C1 0,C1 0,C1 0,C1 0,C1 0,C3 0],by kernel_rfl,c30 q (by omega) (by omega) (fun _ _ q=>q.aj (b:=J) fun _ q=>ah (q.Da (b:=J) rfl (k2 _ _ q.ae)))⟩
 ·refine ak ?_
  obtain ⟨y,rfl⟩:=q.dp ad
  refine bt [4,10,11,12,13,14,15,16,17,18,19,20,21,22,23,24,25,26,27] rfl [0,2,3,4] (fun (H:Nat)=>[sl (some y) c bs,pt J,.nilIface,pt H]) (fun (H:Nat) w'=>((2=1→num bs 6 2<256)∧(2=2→num bs 6 2<65536)∧(2=4→num bs 6 2<4294967296))∧((4=1→num bs 14 4<256)∧(4=2→num bs 14 4<65536)∧(4=4→num bs 14 4<4294967296))∧((4=1→num bs 24 4<256)∧(4=2→num bs 24 4<65536)∧(4=4→num bs 24 4<4294967296))∧SH w0 w' (Cl H 287 [C5 (num bs 6 2),C1 ((List.drop 8 bs).getD 0 0),C1 ((List.drop 8 bs).getD 1 0),C1 ((List.drop 8 bs).getD 2 0),C1 ((List.drop 8 bs).getD 3 0),C1 ((List.drop 8 bs).getD 4 0),C1 ((List.drop 8 bs).getD 5 0),C3 (num bs 14 4),C1 ((List.drop 18 bs).getD 0 0),C1 ((List.drop 18 bs).getD 1 0),C1 ((List.drop 18 bs).getD 2 0),C1 ((List.drop 18 bs).getD 3 0),C1 ((List.drop 18 bs).getD 4 0),C1 ((List.drop 18 bs).getD 5 0),C3 (num bs 24 4)]::Cl J 287 [C5 0,C1 0,C1 0,C1 0,C1 0,C1 0,C1 0,C3 0,C1 0,C1 0,C1 0,C1 0,C1 0,C1 0,C3 0]::L)) ?_ ?_
  ·refine lZ<|have q:=q.drew;q.eV (M:=L) (8) fun a_14 _ _ _=>⟨_,bC,?_⟩
   obtain ⟨ad_16,rfl⟩:=q.dp a_14
   refine ⟨_,q.bB,q.eV (M:=L) (18) fun a_21 _ _ _=>⟨_,bC,?_⟩⟩
   obtain ⟨ad_23',rfl⟩:=q.dp a_21
   refine ⟨_,q.bB,⟨?_,?_⟩⟩
   ·refine c194 (v:=sl (some y) c bs) q (by omega) (by omega) (fun h_11=>⟨⟨⟨_,q.bB,rfl⟩,⟨bC,⟨⟨_,q.bB,rfl⟩,⟨bC,trivial⟩⟩⟩⟩,Db (⟨?_,?_⟩)⟩)
    ·refine c194 (v:=sl (some y) c bs) q (by omega) (by omega) (fun h_18=>⟨⟨⟨_,q.bB,rfl⟩,⟨bC,⟨⟨_,q.bB,rfl⟩,⟨bC,trivial⟩⟩⟩⟩,⟨_,IntWalk.u32_in _ (by omega),⟨?_,?_⟩⟩⟩)
     ·exact c194 (v:=sl (some y) c bs) q (by omega) (by omega) (fun h_25=>⟨⟨⟨_,q.bB,rfl⟩,⟨bC,⟨⟨_,q.bB,rfl⟩,⟨bC,trivial⟩⟩⟩⟩,⟨_,IntWalk.u32_in _ (by omega),⟨by kernel_rfl,[C5 (num bs 6 2),C1 ((List.drop 8 bs).getD 0 0),C1 ((List.drop 8 bs).getD 1 0),C1 ((List.drop 8 bs).getD 2 0),C1 ((List.drop 8 bs).getD 3 0),C1 ((List.drop 8 bs).getD 4 0),C1 ((List.drop 8 bs).getD 5 0),C3 (num bs 14 4),C1 ((List.drop 18 bs).getD 0 0),C1 ((List.drop 18 bs).getD 1 0),C1 ((List.drop 18 bs).getD 2 0),C1 ((List.drop 18 bs).getD 3 0),C1 ((List.drop 18 bs).getD 4 0),C1 ((List.drop 18 bs).getD 5 0),C3 (num bs 24 4)],by kernel_rfl,q.an fun H w_4 q=>⟨⟨⟨_,q.bB,rfl⟩,⟨bC,⟨⟨_,q.bB,rfl⟩,⟨bC,trivial⟩⟩⟩⟩,q.aj (b:=H) fun w_50 q=>⟨H,rfl,(by omega),(by omega),(by omega),q.ae⟩⟩⟩⟩⟩)
     ·exact q.an fun H w_4 q=>⟨⟨⟨_,q.bB,rfl⟩,⟨bC,⟨⟨_,q.bB,rfl⟩,⟨bC,trivial⟩⟩⟩⟩,c194 (v:=sl (some y) c bs) q (by omega) (by omega) (fun h_25=>⟨⟨⟨_,q.bB,rfl⟩,⟨bC,⟨⟨_,q.bB,rfl⟩,⟨bC,trivial⟩⟩⟩⟩,⟨_,IntWalk.u32_in _ (by omega),⟨by kernel_rfl,[C5 (num bs 6 2),C1 ((List.drop 8 bs).getD 0 0),C1 ((List.drop 8 bs).getD 1 0),C1 ((List.drop 8 bs).getD 2 0),C1 ((List.drop 8 bs).getD 3 0),C1 ((List.drop 8 bs).getD 4 0),C1 ((List.drop 8 bs).getD 5 0),C3 (num bs 14 4),C1 ((List.drop 18 bs).getD 0 0),C1 ((List.drop 18 bs).getD 1 0),C1 ((List.drop 18 bs).getD 2 0),C1 ((List.drop 18 bs).getD 3 0),C1 ((List.drop 18 bs).getD 4 0),C1 ((List.drop 18 bs).getD 5 0),C3 (num bs 24 4)],by kernel_rfl,q.aj (b:=H) fun w_50 q=>⟨H,rfl,(by omega),(by omega),(by omega),q.ae⟩⟩⟩⟩)⟩
    ·exact q.an fun H w_4 q=>⟨⟨⟨_,q.bB,rfl⟩,⟨bC,⟨⟨_,q.bB,rfl⟩,⟨bC,trivial⟩⟩⟩⟩,c194 (v:=sl (some y) c bs) q (by omega) (by omega) (fun h_18=>⟨⟨⟨_,q.bB,rfl⟩,⟨bC,⟨⟨_,q.bB,rfl⟩,⟨bC,trivial⟩⟩⟩⟩,⟨_,IntWalk.u32_in _ (by omega),c194 (v:=sl (some y) c bs) q (by omega) (by omega) (fun h_25=>⟨⟨⟨_,q.bB,rfl⟩,⟨bC,⟨⟨_,q.bB,rfl⟩,⟨bC,trivial⟩⟩⟩⟩,⟨_,IntWalk.u32_in _ (by omega),⟨by kernel_rfl,[C5 (num bs 6 2),C1 ((List.drop 8 bs).getD 0 0),C1 ((List.drop 8 bs).getD 1 0),C1 ((List.drop 8 bs).getD 2 0),C1 ((List.drop 8 bs).getD 3 0),C1 ((List.drop 8 bs).getD 4 0),C1 ((List.drop 8 bs).getD 5 0),C3 (num bs 14 4),C1 ((List.drop 18 bs).getD 0 0),C1 ((List.drop 18 bs).getD 1 0),C1 ((List.drop 18 bs).getD 2 0),C1 ((List.drop 18 bs).getD 3 0),C1 ((List.drop 18 bs).getD 4 0),C1 ((List.drop 18 bs).getD 5 0),C3 (num bs 24 4)],by kernel_rfl,q.aj (b:=H) fun w_50 q=>⟨H,rfl,(by omega),(by omega),(by omega),q.ae⟩⟩⟩⟩)⟩⟩)⟩
   ·exact q.an fun H w_4 q=>⟨⟨⟨_,q.bB,rfl⟩,⟨bC,⟨⟨_,q.bB,rfl⟩,⟨bC,trivial⟩⟩⟩⟩,c194 (v:=sl (some y) c bs) q (by omega) (by omega) (fun h_11=>⟨⟨⟨_,q.bB,rfl⟩,⟨bC,⟨⟨_,q.bB,rfl⟩,⟨bC,trivial⟩⟩⟩⟩,Db (c194 (v:=sl (some y) c bs) q (by omega) (by omega) (fun h_18=>⟨⟨⟨_,q.bB,rfl⟩,⟨bC,⟨⟨_,q.bB,rfl⟩,⟨bC,trivial⟩⟩⟩⟩,⟨_,IntWalk.u32_in _ (by omega),c194 (v:=sl (some y) c bs) q (by omega) (by omega) (fun h_25=>⟨⟨⟨_,q.bB,rfl⟩,⟨bC,⟨⟨_,q.bB,rfl⟩,⟨bC,trivial⟩⟩⟩⟩,⟨_,IntWalk.u32_in _ (by omega),⟨by kernel_rfl,[C5 (num bs 6 2),C1 ((List.drop 8 bs).getD 0 0),C1 ((List.drop 8 bs).getD 1 0),C1 ((List.drop 8 bs).getD 2 0),C1 ((List.drop 8 bs).getD 3 0),C1 ((List.drop 8 bs).getD 4 0),C1 ((List.drop 8 bs).getD 5 0),C3 (num bs 14 4),C1 ((List.drop 18 bs).getD 0 0),C1 ((List.drop 18 bs).getD 1 0),C1 ((List.drop 18 bs).getD 2 0),C1 ((List.drop 18 bs).getD 3 0),C1 ((List.drop 18 bs).getD 4 0),C1 ((List.drop 18 bs).getD 5 0),C3 (num bs 24 4)],by kernel_rfl,q.aj (b:=H) fun w_50 q=>⟨H,rfl,(by omega),(by omega),(by omega),q.ae⟩⟩⟩⟩)⟩⟩))⟩)⟩
  rintro g H w_26 ⟨h_11,h_18,h_25,q⟩
  refine aG<|ac ⟨by kernel_rfl,[C1 0,C1 1,C1 8,C1 0,C1 6,C1 4],by kernel_rfl,q.an fun b_30 _ q=>aZ (oA _ rfl rfl q (cs:=_) (b:=_) rfl rfl rfl nY fun _ q=>c195 (v:=sl (some y) c bs) (u:= .slice (some ⟨b_30,0,none⟩) 6 6) q (fun h_32 w_32 q=>?_) (fun h_32 w_32 q=>?_))⟩
  ·refine Dj<|q.C9 (b:=H) rfl<|ap (fun h_37=>?_) (fun h_37=>?_)
   ·refine q.C9 (b:=H) rfl<|ap (fun h_41=>?_) (fun h_41=>?_)
    ·refine pa 3 rfl<|ai<|ac ⟨by kernel_rfl,[C5 0,C1 0,C1 0,C1 0,C1 0,C1 0,C1 0,C3 0,C1 0,C1 0,C1 0,C1 0,C1 0,C1 0,C3 0],by kernel_rfl,c30 q (by omega) (by omega) (fun b_45 w_45 q=>q.aj (b:=J) fun Y q=>ah (q.Da (b:=J) rfl (k2 _ _ q.ae)))⟩
    ·refine pa 3 rfl<|ai<|ac ⟨_,q.ar (b:=H) [C1 ((List.drop 8 bs).getD 0 0),C1 ((List.drop 8 bs).getD 1 0),C1 ((List.drop 8 bs).getD 2 0),C1 ((List.drop 8 bs).getD 3 0),C1 ((List.drop 8 bs).getD 4 0),C1 ((List.drop 8 bs).getD 5 0)],c17 q (by exact iA hB _) (fun h_49 Y q=>?_) (fun h_49 Y q=>?_)⟩
     ·refine ai<|ac ⟨by kernel_rfl,[C5 0,C1 0,C1 0,C1 0,C1 0,C1 0,C1 0,C3 0,C1 0,C1 0,C1 0,C1 0,C1 0,C1 0,C3 0],by kernel_rfl,c30 q (by omega) (by omega) (fun b_51 w_51 q=>q.aj (b:=J) fun _ q=>ah (q.Da (b:=J) rfl (k2 _ _ q.ae)))⟩
     ·refine ai<|ak<|ac<|q.Da (b:=H) rfl<|q.aj (b:=J) fun Y q=>ah<|q.Da (b:=J) rfl<|k1 _ _ _ _ _ _ _ _ _ _ _ _ _ _ _ (by omega) (by exact iA hB _) (by exact iA hB _) (by omega) _ q.ae
   ·refine pa 7 rfl<|ai<|ac ⟨_,q.ar (b:=H) [C1 ((List.drop 8 bs).getD 0 0),C1 ((List.drop 8 bs).getD 1 0),C1 ((List.drop 8 bs).getD 2 0),C1 ((List.drop 8 bs).getD 3 0),C1 ((List.drop 8 bs).getD 4 0),C1 ((List.drop 8 bs).getD 5 0)],c17 q (by exact iA hB _) (fun h_49 Y q=>?_) (fun h_49 Y q=>?_)⟩
    ·refine ai<|ac ⟨by kernel_rfl,[C5 0,C1 0,C1 0,C1 0,C1 0,C1 0,C1 0,C3 0,C1 0,C1 0,C1 0,C1 0,C1 0,C1 0,C3 0],by kernel_rfl,c30 q (by omega) (by omega) (fun b_51 w_51 q=>q.aj (b:=J) fun w_51 q=>ah (q.Da (b:=J) rfl (k2 _ _ q.ae)))⟩
    ·refine ai<|ak<|ac<|q.Da (b:=H) rfl<|q.aj (b:=J) fun _ q=>ah<|q.Da (b:=J) rfl<|k1 _ _ _ _ _ _ _ _ _ _ _ _ _ _ _ (by omega) (by exact iA hB _) (by exact iA hB _) (by omega) _ q.ae
  ·refine Dj<|pa 11 rfl<|ai<|ac ⟨by kernel_rfl,[C5 0,C1 0,C1 0,C1 0,C1 0,C1 0,C1 0,C3 0,C1 0,C1 0,C1 0,C1 0,C1 0,C1 0,C3 0],by kernel_rfl,c30 q (by omega) (by omega) (fun b_45 w_45 q=>q.aj (b:=J) fun _ q=>ah (q.Da (b:=J) rfl (k2 _ _ q.ae)))⟩
theorem c149 {J Y n2 n3 n4 n5:Nat} (q:SH w0 w L) (k: ∀ w',SH w0 w' L→K (kB 2 J Y n2 n3 n4 n5 tip m0 m1 m2 m3 m4 m5 ip) w'):D 149 [kB op m0 m1 m2 m3 m4 m5 ip t0 t1 t2 t3 t4 t5 tip,.agg #[C1 J,C1 Y,C1 n2,C1 n3,C1 n4,C1 n5]] w K:=by
 refine s149 rfl<|ac<|q.az [C5 op,C1 m0,C1 m1,C1 m2,C1 m3,C1 m4,C1 m5,C3 ip,C1 t0,C1 t1,C1 t2,C1 t3,C1 t4,C1 t5,C3 tip] fun y _ q=>q.az [C1 J,C1 Y,C1 n2,C1 n3,C1 n4,C1 n5] fun b_3 _ q=>q.an fun H _ q=>ac<|q.Da (b:=b_3) rfl<|q.C9 (b:=y) rfl ⟨_,q.ar (b:=y) [C1 m0,C1 m1,C1 m2,C1 m3,C1 m4,C1 m5],q.C9 (b:=y) rfl (⟨by kernel_rfl,[C5 2,C1 J,C1 Y,C1 n2,C1 n3,C1 n4,C1 n5,C3 tip,C1 m0,C1 m1,C1 m2,C1 m3,C1 m4,C1 m5,C3 ip],by kernel_rfl,q.aj (b:=H) fun _ q=>ah (q.Da (b:=H) rfl (k _ q.ae))⟩)⟩
theorem c291 (q:SH w0 w L) (k: ∀ J,SH w0 J L→K (kB 1 m0 m1 m2 m3 m4 m5 ip 0 0 0 0 0 0 tip) J):D 291 [.agg #[C1 m0,C1 m1,C1 m2,C1 m3,C1 m4,C1 m5],C3 ip,C3 tip] w K:=by
 refine s291 rfl<|ac<|q.az [C1 m0,C1 m1,C1 m2,C1 m3,C1 m4,C1 m5] fun H _ q=>q.an fun y _ q=>ac<|q.Da (b:=H) rfl ⟨rfl,[C5 1,C1 m0,C1 m1,C1 m2,C1 m3,C1 m4,C1 m5,C3 ip,C1 0,C1 0,C1 0,C1 0,C1 0,C1 0,C3 tip],rfl,q.aj (b:=y) fun _ q=>ah (q.Da (b:=y) rfl (k _ q.ae))⟩
theorem c150 (q:SH w0 w L) (ho:op<65536) (hm:bw (bq m0 m1 m2 m3 m4 m5)) (ht:bw (bq t0 t1 t2 t3 t4 t5)) (h:ip<4294967296∧tip<4294967296)
  (k: ∀ a c bs w',bs.length=28→SH w0 w' (Nb 5 (sl a c bs) bs::L)→K (sl a c bs) w'):D 150 [kB op m0 m1 m2 m3 m4 m5 ip t0 t1 t2 t3 t4 t5 tip] w K:=by
 refine s150 rfl<|ac<|q.az [C5 op,C1 m0,C1 m1,C1 m2,C1 m3,C1 m4,C1 m5,C3 ip,C1 t0,C1 t1,C1 t2,C1 t3,C1 t4,C1 t5,C3 tip] fun y _ q=>ac<|q.C9 (b:=y) rfl ⟨_,IntWalk.u16_in _ (by omega),Dc (⟨rfl,[C4 op],rfl,q.an fun _ _ q=>c78 q rfl (by (simp<;>omega)) (fun H J _ q=>ac (q.C9 (b:=y) rfl (Dc (⟨rfl,[C4 ip],rfl,q.an fun _ _ q=>c78 q rfl (by (simp<;>omega)) (fun Y c_23 _ q=>ac (q.C9 (b:=y) rfl (Dc (⟨rfl,[C4 tip],rfl,q.an fun _ _ q=>c78 q rfl (by (simp<;>omega)) (fun a_31 c_31 _ q=>aJ ?_)⟩))))⟩))))⟩)⟩
 have q:=q.drew
 refine ⟨_,dq,⟨_,dq,⟨rfl,[C1 0,C1 1,C1 8,C1 0,C1 6,C1 4],rfl,q.an fun b_34 _ q=>⟨⟨dq,⟨dq,trivial⟩⟩,fy (oA _ rfl rfl q (cs:=_) (b:=_) rfl rfl rfl nY fun _ q=>⟨⟨dq,⟨dq,trivial⟩⟩,⟨rfl,[.slice (some ⟨b_34,0,none⟩) 6 6,sl H J (rowOf 2 [op]),.slice (some ⟨y,1,none⟩) 6 6,sl Y c_23 (rowOf 4 [ip]),.slice (some ⟨y,8,none⟩) 6 6,sl a_31 c_31 (rowOf 4 [tip])],rfl,q.an fun _ _ q=>⟨⟨dq,⟨dq,trivial⟩⟩,c131d q rfl (by exact q.rb _) (by exact q.rb _) (by exact q.mw) (by exact q.rb _) (by exact q.mw) (by exact q.rb _) (by (simp [dz,br]<;>omega)) (fun _ _ _ q=>⟨⟨dq,⟨dq,trivial⟩⟩,ah (k _ _ _ _ (by (simp [dz,br]<;>omega)) q.ae)⟩)⟩⟩⟩)⟩⟩⟩⟩
end
end
section
attribute [local irreducible] ay aQ aH aY a6 aW
theorem oB {w:World} {f:Fr} {o:Oper} (y:o.op= .build 28 #[]):(execOp (ev f) o).run Tryz.prog w= .ok (.value (.agg #[C1 0,C1 0,C1 0,C1 0,C1 0,C1 0])) w:=by
 have hz:=ij (P:=Tryz.prog) (t:=28) (z:= .agg #[C1 0,C1 0,C1 0,C1 0,C1 0,C1 0]) (by kernel_rfl) w
 have hi:(Tryz.prog.info? 5).map (·.size)=some 1:=iT
 cases q:Tryz.prog.info? 5 with
 | none=>rw [q] at hi;cases hi
 | some inf=>
  unfold execOp
  simp [y,Instr.build,hz,run_underlying Tryz.underlying28,eG q,Instr.fill,Value.cells]
section
variable {w0 w:World} {L R R2 R3:List ao} {K:Value→World→Prop} {p:Nat} {cs:List Value}
theorem c197 {a b c d e f u h:Value} {n:Int} (y:SH w0 w L) [q:aR L p 190 cs R] (H:cs=[a,b,c,d,e,f,u,h,C5 n])
  (k: ∀ (z:Int) J,SH w0 J (Cl p 190 [a,b,c,d,e,f,u,h,C5 z]::R)→K (C5 z) J):D 197 [pt p] w K:=by
 subst H
 refine s197 rfl<|ac<|ac<|y.C9 (b:=p) rfl<|Dj<|y.cp (b:=p) [C5 (IntKind.i64.wrap (n+1))] fun _ y=>ac<|y.C9 (b:=p) rfl<|ah ?_
 have y:SH w0 _ (Cl p 190 [a,b,c,d,e,f,u,h,C5 (IntKind.i64.wrap (n+1))]::R):=y
 exact k _ _ y
theorem c118 {ip:Nat} {eb lb:Nat} {E:List (Int × ((Nat × Nat × Nat × Nat × Nat × Nat) × Int))} {ls:bQ} {a b c d f h n:Value} (hi:ip<4294967296) (y:SH w0 w L) [q:aR L p 190 cs R] (Y:cs=[a,b,c,d,.map (some eb),f,pt lb,h,n]) [q2:bP R eb cw E R2] [q3:aC (a8 lb) R2 ls R3]
  (k: ∀ ls' w',(ls'.now=ls.now∧aB ls'.T (ip:Int)=none∧TK ls.T ls'.T)→SH w0 w' (Cl p 190 cs::Mt cw eb (aO E (ip:Int))::a8 lb ls'::R3)→K (.tuple #[]) w'):D 118 [pt p,C3 ip] w K:=by
 subst Y
 have y:SH w0 w (Cl p 190 [a,b,c,d,.map (some eb),f,pt lb,h,n]::Mt cw eb E::a8 lb ls::R3):=y.perm (q.perm.trans ((q2.perm.trans (q3.perm.cons _)).cons _))
 exact s118 rfl<|ac<|y.C9 (b:=p) rfl<|aZ (gd rfl rfl rfl (by omega) y rfl fun _ y=>au (y.C9 (b:=p) rfl (Db (c174 (by omega) y (fun _ H _ J y=>k H _ J y.ae)))))
theorem c119 {ip:Nat} {rb wb:Nat} {W:List (Int × (Value × Int))} {ws:bQ} {a b c d e u n:Value} (hi:ip<4294967296) (y:SH w0 w L) [q:aR L p 190 cs R] (hcs:cs=[a,b,c,d,e,.map (some rb),u,pt wb,n]) [q2:bP R rb fz W R2] [q3:aC (a8 wb) R2 ws R3]
  (k: ∀ v ws' w',(ws'.now=ws.now∧aB ws'.T (ip:Int)=none∧TK ws.T ws'.T)→(v=sN∨ ∃ o,((ip:Int),(v,o))∈W)→SH w0 w' (Cl p 190 cs::Mt fz rb (aO W (ip:Int))::a8 wb ws'::R3)→K v w'):D 119 [pt p,C3 ip] w K:=by
 subst hcs
 have y:SH w0 w (Cl p 190 [a,b,c,d,e,.map (some rb),u,pt wb,n]::Mt fz rb W::a8 wb ws::R3):=y.perm (q.perm.trans ((q2.perm.trans (q3.perm.cons _)).cons _))
 refine s119 rfl<|ac<|ac ⟨_,y.ld (b:=p) rfl,dh rfl rfl rfl (by omega) y (fun Y=>?_) (fun _ Y=>?_)⟩
 ·exact ⟨_,rfl,ac (⟨_,y.ld (b:=p) rfl,aZ (gd rfl rfl rfl (by omega) y rfl fun _ y=>ac (⟨_,y.ld (b:=p) rfl,⟨_,IntWalk.i64_in _ (by omega),c174 (by omega) y (fun b_24 H w_24 J y=>ac (ah (k _ H _ J (.inl rfl) y.ae)))⟩⟩))⟩)⟩
 ·exact ⟨_,rfl,ac (⟨_,y.ld (b:=p) rfl,aZ (gd rfl rfl rfl (by omega) y rfl fun _ y=>ac (⟨_,y.ld (b:=p) rfl,⟨_,IntWalk.i64_in _ (by omega),c174 (by omega) y (fun b_24 H w_24 J y=>ac (ah (k _ H _ J (.inr ⟨_,cU Y⟩) y.ae)))⟩⟩))⟩)⟩
theorem c340 {ip:Nat} {s:dT} {now:Nat} (hi:ip<4294967296) (hL:SH w0 w L) [q:aC (Ca p) L s R]
  (k1: ∀ w',SH w0 w' (Ca p s::R)→K (.tuple #[.agg #[.int .u8 0,.int .u8 0,.int .u8 0,.int .u8 0,.int .u8 0,.int .u8 0],.bool false]) w')
  (k2: ∀ m0 m1 m2 m3 m4 m5:Nat,bw (bq m0 m1 m2 m3 m4 m5)→ ∀ w',SH w0 w' (Ca p s::R)→K (.tuple #[.agg #[.int .u8 m0,.int .u8 m1,.int .u8 m2,.int .u8 m3,.int .u8 m4,.int .u8 m5],.bool true]) w'):D 340 [pt p,.int .u32 ip,.int .u64 now] w K:=by
 obtain ⟨hs,hL⟩:=SH.ca hL p
 refine s340 rfl ?_
 refine ac ?_
 refine hL.an fun b_6 w_6 hL=>?_
 refine ac ?_
 refine ⟨_,hL.ld (b:=p) rfl,?_⟩
 refine dh rfl rfl rfl (by omega) hL (fun h_18=>?_) (fun v_18 h_18=>?_)
 ·refine hL.an fun b_8 w_8 hL=>?_
  refine hL.aj (b:=b_8) fun w_25 hL=>?_
  refine av ?_
  refine ac ?_
  refine ⟨_,hL.ld (b:=p) rfl,?_⟩
  refine ⟨_,IntWalk.i64_in _ (by omega),?_⟩
  refine c173 (by omega) hL (fun h_28 w_28 hL=>?_) (fun due_28 i_28 j_28 h_283 h_284 w_28 hL=>?_)
  ·refine ag [2,6,7,8,9,28,33] [.int .u64 now,pt b_6,.bool false,pt b_8,.bool false,.tuple #[.int .u64 0,.bool false],undef] rfl fun g=>?_
   refine ac ?_
   refine ⟨_,rfl,?_⟩
   refine pa 6 rfl ?_
   refine ai ?_
   refine ac ?_
   refine ⟨_,oB rfl,?_⟩
   refine hL.aj (b:=b_6) fun w_32 hL=>?_
   refine ah ?_
   refine ⟨_,hL.af (b:=b_6) rfl,?_⟩
   exact k1 _ (SH.ed hL.ae hs)
  ·refine ag [2,6,7,8,9,28,33] [.int .u64 now,pt b_6,.bool false,pt b_8,.bool false,.tuple #[.int .u64 due_28,.bool true],undef] rfl fun g=>?_
   refine ac ?_
   refine ⟨_,rfl,?_⟩
   refine pa 6 rfl ?_
   refine ai ?_
   refine ac ?_
   refine ⟨_,oB rfl,?_⟩
   refine hL.aj (b:=b_6) fun w_36 hL=>?_
   refine ah ?_
   refine ⟨_,hL.af (b:=b_6) rfl,?_⟩
   exact k1 _ (SH.ed hL.ae hs)
 ·refine hL.an fun b_8 w_8 hL=>?_
  refine hL.aj (b:=b_8) fun w_26 hL=>?_
  refine av ?_
  refine ac ?_
  refine ⟨_,hL.ld (b:=p) rfl,?_⟩
  refine ⟨_,IntWalk.i64_in _ (by omega),?_⟩
  refine c173 (by omega) hL (fun h_28 w_28 hL=>?_) (fun due_28 i_28 j_28 h_283 h_284 w_28 hL=>?_)
  ·refine ag [2,6,7,8,9,28,33] [.int .u64 now,pt b_6,.bool false,pt b_8,.bool true,.tuple #[.int .u64 0,.bool false],undef] rfl fun g=>?_
   refine ac ?_
   refine ⟨_,rfl,?_⟩
   refine ⟨_,cq,?_⟩
   refine ⟨true,decide_eq_true (by omega),?_⟩
   refine ai ?_
   refine ac ?_
   refine ⟨_,oB rfl,?_⟩
   refine hL.aj (b:=b_6) fun w_33 hL=>?_
   refine ah ?_
   refine ⟨_,hL.af (b:=b_6) rfl,?_⟩
   exact k1 _ (SH.ed hL.ae hs)
  ·refine ag [2,6,7,8,9,28,33] [.int .u64 now,pt b_6,.bool false,pt b_8,.bool true,.tuple #[.int .u64 due_28,.bool true],undef] rfl fun g=>?_
   refine ac ?_
   refine ⟨_,rfl,?_⟩
   refine ⟨_,cq,?_⟩
   refine ap (fun h_37=>?_) (fun h_37=>?_)
   ·refine ai ?_
    refine ac ?_
    refine ⟨_,oB rfl,?_⟩
    refine hL.aj (b:=b_6) fun w_38 hL=>?_
    refine ah ?_
    refine ⟨_,hL.af (b:=b_6) rfl,?_⟩
    exact k1 _ (SH.ed hL.ae hs)
   ·refine ai ?_
    refine ak ?_
    refine ac ?_
    refine ⟨_,hL.ar (b:=b_8) [.int .u8 v_18.fst.fst,.int .u8 v_18.fst.snd.fst,.int .u8 v_18.fst.snd.snd.fst,.int .u8 v_18.fst.snd.snd.snd.fst,.int .u8 v_18.fst.snd.snd.snd.snd.fst,.int .u8 v_18.fst.snd.snd.snd.snd.snd],?_⟩
    refine hL.aj (b:=b_6) fun w_38 hL=>?_
    refine ah ?_
    refine ⟨_,hL.af (b:=b_6) rfl,?_⟩
    exact k2 _ _ _ _ _ _ (hs.bq _ (cU h_18)) _ (SH.ed hL.ae hs)
end
end
end Go.Proofs.YtlhpilgmeededaaGreatDoor
namespace Go.Den
open Go Go.RowKit
class jM (P:Program) (t:TypeId) (e:outParam TypeId) (z:outParam Value) (size:outParam Nat) (bytes:outParam Nat):Prop where
 is:nL P t e z size bytes
 small:bytes≤64
class kC (L:List ao) (v:Value) (e:TypeId) (size:Nat) (n:outParam Nat) (xs:outParam (List Value)) (R:outParam (List ao)):Prop where
 get: ∀ {w0 w:World} (M:List ao),SH w0 w (M++L)→SH w0 w (M++Row e size v n xs::R)
instance rowHead (e:TypeId) (size:Nat) (v:Value) (n:Nat) (xs:List Value) (L:List ao):kC (Row e size v n xs::L) v e size n xs L:=⟨fun _ h=>h⟩
instance (priority:=low) rowTail (A:ao) (L:List ao) (v:Value) (e:TypeId) (size n:Nat) (xs:List Value) (R:List ao) [h:kC L v e size n xs R]:kC (A::L) v e size n xs (A::R):=⟨fun M k=>by
 have h1:=h.get (M++[A]) (by simpa using k)
 refine h1.perm ?_
 rw [List.append_assoc]
 exact List.Perm.append_left M (.swap _ _ _)⟩
instance (priority:=high) rowNone (b:Option Addr) (L:List ao) (e:TypeId) (size:Nat):kC L (.slice b 0 0) e size 0 [] L:=⟨fun M k=>by
 have h1:SH _ _ (Row e size (.slice b 0 0) 0 []::(M++L)):=SH.gO (A:=[]) (.none b) k
 exact h1.perm List.perm_middle.symm⟩
section
variable {P:Program} {w0 w:World} {L R:List ao} {o:Oper} {f:Fr} {t e:TypeId} {z v u:Value} {size bytes n m:Nat} {xs ys:List Value} {s x:Operand} {C:Value→World→Prop}
theorem SH.rowOf (q:SH w0 w L) (v:Value) (e:TypeId) (size:Nat) [p:kC L v e size n xs R]:SH w0 w (Row e size v n xs::R):=p.get [] q
theorem dL (H:o.op= .call { callee:= .builtin .append,args:=#[s,x],argTypes:=#[t,t] }) [E:jM P t e z size bytes] (J:ev f s=v) (Y:ev f x=u) (hL:SH w0 w L) [p:kC L v e size n xs R] (hr:Reads w size u m ys)
  (h1:ys.all dZ=true) (hlen:n+m≤1000000) (k: ∀ a c q,SH w0 q (Row e size (.slice a (n+m) c) (n+m) (xs++ys)::R)→C (.slice a (n+m) c) q):aL P o f w C:=by
 obtain ⟨A,y,hL3⟩:=(p.get [] hL).iS
 refine app s x E.is H J Y hL3 y hr (fun u hu=>by rw [←rU];exact List.all_eq_true.1 h1 u hu) (by simp only [maxLen];omega) ?_ fun _ q A' ho' hL'=>by
  obtain ⟨a,c,rfl,_⟩:=ho'.lc
  exact k a c q (SH.gO ho' hL')
 exact Nat.le_trans (Nat.mul_le_mul hlen E.small) (by decide)
theorem SH.fa {g c:Nat} {t:TypeId} {cs:List Value} (q:SH w0 w L) [p:aR L g t cs R] (hl:cs.length=n*size):Reads w size (.slice (some ⟨g,0,none⟩) n c) n cs:=by
 refine ⟨hl,_,_,rfl,fun h=>(by cases h),fun _ e _ _ y=>?_⟩
 cases e
 rw [add_plain,cell_of (q.eI g),Nat.zero_add]
 exact y
theorem SH.pR (q:SH w0 w (Row e size v n xs::L)):Reads w size v n xs:=by
 obtain ⟨A,y,h⟩:=q.iS
 exact y.reads fun a H=>h.holds a (List.mem_append_left _ H)
def Rd (size:Nat) (v:Value) (xs:List Value):ao:=cj size [(v,xs)]
theorem SH.va {Z:List (Value × List Value)} (hL:SH w0 w L) [p:aC (cj size) L Z R] (h:(v,xs)∈Z):SH w0 w (Rd size v xs::L):=by
 have h1:=(hL.at (cj size)).dup (cj size Z) (.head _) (fun _ h=>h)
 have h2:SH w0 w ([cj size [(v,xs)]]++cj size Z::R):=by
  refine SH.cQ (L:=[cj size Z]) (L':=[cj size [(v,xs)]]) (F:=cj size Z::R) h1 rfl rfl rfl (Nat.le_refl _) (fun _ _ _=>rfl) (fun A y=>?_) (by simp) (fun A y b H=>?_) (fun A y b H=>?_)
  ·rcases List.mem_singleton.1 y with rfl
   intro q J
   rcases List.mem_singleton.1 J with rfl
   exact h1.holds (cj size Z) (.head _) _ h
  ·rcases List.mem_singleton.1 y with rfl
   exact H.elim
  ·rcases List.mem_singleton.1 y with rfl
   obtain ⟨q,J,h0,Y⟩:=H
   rcases List.mem_singleton.1 J with rfl
   exact .inl ⟨cj size Z,by simp,.inr ⟨_,h,h0,Y⟩⟩
 exact h2.perm ((p.perm.symm).cons _)
class ly (L:List ao) (v:Value) (size:Nat) (xs:outParam (List Value)):Prop where
 get: ∀ {w0 w:World},SH w0 w L→ ∃ n,Reads w size v n xs
instance rdShr (L:List ao) (v:Value) (size:Nat) (xs:List Value):ly (Rd size v xs::L) v size xs:=⟨fun h=>h.holds (cj size [(v,xs)]) (.head _) (v,xs) (.head _)⟩
instance rdRow (L:List ao) (v:Value) (e:TypeId) (size n:Nat) (xs:List Value):ly (Row e size v n xs::L) v size xs:=⟨fun h=>by
 obtain ⟨A,q,h⟩:=h.iS
 exact ⟨n,q.reads fun a y=>h.holds a (List.mem_append_left _ y)⟩⟩
instance (priority:=low) rdTail (A:ao) (L:List ao) (v:Value) (size:Nat) (xs:List Value) [h:ly L v size xs]:ly (A::L) v size xs:=⟨fun k=>h.get k.tail⟩
theorem SH.lz (q:SH w0 w L) (size:Nat) (a:Option Addr) (c:Nat):SH w0 w (Rd size (.slice a 0 c) []::L):=q.nN size [(.slice a 0 c,[])] fun _ y=>by
 rcases List.mem_singleton.1 y with rfl
 exact ⟨rfl,0,l4 w size a c⟩
theorem SH.vb (q:SH w0 w (Rd size v xs::L)): ∃ a n c,v= .slice a n c∧xs.length=n*size:=by
 obtain ⟨n,hl,a,c,e,_⟩:=q.holds (Rd size v xs) (.head _) (v,xs) (.head _)
 exact ⟨a,n,c,e,hl⟩
theorem SH.rd {a:Option Addr} {c:Nat} (q:SH w0 w L) [h:ly L (.slice a n c) size xs]:Reads w size (.slice a n c) n xs:=by
 obtain ⟨m,y⟩:=h.get q
 obtain ⟨H,a',c',e,J⟩:=y
 cases e
 exact ⟨H,_,_,rfl,J⟩
theorem Row.block (h:SH w0 w (Row e size v n xs::L)) {b:Nat} (q:xs≠[]) (y:fk v=some b):l6 v b:=by
 obtain ⟨A,H,hA⟩:=h.holds _ (.head _)
 cases H with
 | none b=>exact absurd rfl q
 | «at» g cs n cap hl hn hm=>
  simp only [fk,Option.some.injEq] at y
  refine ⟨n,cap,by rw [y],?_⟩
  rcases Nat.eq_zero_or_pos n with h1 | h1
  ·subst h1;simp at q
  ·omega
theorem SH.vc {Z:List (Value × List Value)} (h:SH w0 w (Row e size v n xs::cj size Z::L)):SH w0 w (cj size ((v,xs)::Z)::L):=by
 have hr:=h.pR
 refine SH.cQ (L:=[Row e size v n xs,cj size Z]) (L':=[cj size ((v,xs)::Z)]) (F:=L) h rfl rfl rfl (Nat.le_refl _) (fun _ _ _=>rfl) (fun A y=>?_) (by simp) (fun A y b J=>?_) (fun A y b J=>?_)
 ·rcases List.mem_singleton.1 y with rfl
  intro p q
  rcases List.mem_cons.1 q with rfl | q
  ·exact ⟨n,hr⟩
  ·exact h.holds (cj size Z) (by simp) p q
 ·rcases List.mem_singleton.1 y with rfl
  exact J.elim
 ·rcases List.mem_singleton.1 y with rfl
  obtain ⟨p,q,Y,H⟩:=J
  rcases List.mem_cons.1 q with rfl | q
  ·exact .inl ⟨Row e size v n xs,by simp,.inl (Row.block h Y H)⟩
  ·exact .inl ⟨cj size Z,by simp,.inr ⟨p,q,Y,H⟩⟩
theorem SH.shares {Z:List (Value × List Value)} {R2:List ao} (h:SH w0 w L) (v:Value) (e:TypeId) (size:Nat) [p:kC L v e size n xs R] [q:aC (cj size) R Z R2]:SH w0 w (cj size ((v,xs)::Z)::R2):=
 SH.vc ((h.rowOf v e size).perm (q.perm.cons _))
end
theorem qW (zs:List Int):(ints zs).all dZ=true:=by
 rw [List.all_eq_true]
 intro u q
 obtain ⟨z,_,rfl⟩:=List.mem_map.1 q
 rfl
theorem lA (zs:List Int):(ints zs).length=zs.length:=List.length_map ..
theorem vd (a b:List Int):ints (a++b)=ints a++ints b:=List.map_append
end Go.Den
namespace Go.Den
open Go Go.RowKit
class fQ {P:Program} (T:bN P) (v:Value) (u:outParam T.ν):Prop where
 eq:v=T.en u
theorem fc {P:Program} {T:bN P} {w0 w:World} {L R:List ao} {o:Oper} {f:Fr} {b:Nat} {m:List (T.κ × T.ν)} {t e:TypeId} {z vv:Value} {x i v:Operand} {C:Value→World→Prop} {k:T.κ} {u:T.ν} (y:o.op= .mapUpdate t x i v)
  [h:cR P t T e z] (H:ev f x= .map (some b)) (hi:ev f i=T.ek k) (J:ev f v=vv) [E:fQ T vv u] (Y:T.good k) (hL:SH w0 w L) [p:bP L b T m R]
  (kk: ∀ q,SH w0 q (Mt T b (aF m k u)::R)→C undef q):aL P o f w C:=mT y H hi (J.trans E.eq) Y hL kk
end Go.Den
namespace Go.Proofs.YtlhpilgmeededaaGreatDoor
open Go Go.Den
instance (z:Int):fQ cy (C5 z) z:=⟨rfl⟩
instance (a b c:Int):fQ bF (.agg #[C4 a,C5 b,C5 c]) (a,b,c):=⟨rfl⟩
instance (b:Bool):fQ a7 (.bool b) b:=⟨rfl⟩
instance (a b c d e f:Nat) (z:Int):fQ cw (.agg #[C1 a,C1 b,C1 c,C1 d,C1 e,C1 f,C5 z]) ((a,b,c,d,e,f),z):=⟨rfl⟩
instance (v:Value) (z:Int):fQ fz (.agg #[v,C5 z]) (v,z):=⟨rfl⟩
instance (b:Bool):fQ jc (.bool b) b:=⟨rfl⟩
instance (z:Int):fQ eM (C4 z) z:=⟨rfl⟩
instance (a:Int) (b:Bool) (c:Int):fQ eu (.agg #[C3 a,.bool b,C4 c]) (a,b,c):=⟨rfl⟩
end Go.Proofs.YtlhpilgmeededaaGreatDoor
namespace Go.Proofs.YtlhpilgmeededaaGreatDoor
open Go Go.Den
set_option maxHeartbeats 4000000
set_option maxRecDepth 8000
section
attribute [local irreducible] ay aQ aH aY a6 aW
instance el147:jM Tryz.prog 147 3 (C5 0) 1 8:=⟨⟨Tryz.underlying147,by kernel_rfl,rfl,by decide⟩,by decide⟩
section
variable {w0 w:World} {L R R2 R3:List ao} {K:Value→World→Prop} {p:Nat} {cs:List Value}
theorem ve {now pat:Nat} (hp:pat≤4294967296):IntKind.u64.wrap (((min now 2305843009213693952:Nat):Int)+(pat:Int))=((min now 2305843009213693952+pat:Nat):Int):=
 (IntWalk.u64_in _ (by omega)).trans (by omega)
theorem c341 {v:Value} {zs:List Int} (y:SH w0 w L) [q:ly L v 1 (ints zs)] (hlen:zs.length≤1000) (k: ∀ a c w',SH w0 w' (Row 3 1 (.slice a zs.length c) zs.length (ints zs)::L)→K (.slice a zs.length c) w'):D 341 [v] w K:=by
 obtain ⟨n,hr⟩:=q.get y
 have hn:n=zs.length:=by
  have h1:(ints zs).length=n*1:=hr.1
  rw [lA] at h1
  omega
 subst hn
 obtain ⟨a,c,rfl,ha,hc⟩:=hr.2
 refine s341 rfl<|ac<|aq<|cG (fun H=>?_) (fun H=>?_)
 ·refine ac<|ah ?_
  have h0:zs.length=0:=ha (by simpa using H)
  have hz:=List.eq_nil_of_length_eq_zero h0
  subst hz
  exact k none 0 _ (y.rowOf (sN) 3 1)
 ·refine ak<|ac ⟨rfl,[],rfl,y.an fun J _ y=>aZ (dL (v:= .slice (some ⟨J,0,none⟩) 0 0) (u:= .slice a zs.length c) rfl rfl rfl y y.rd (qW _) (by omega) fun Y c_7 _ y=>ah ?_)⟩
  have e:0+zs.length=zs.length:=Nat.zero_add _
  rw [e] at y ⊢
  exact k Y c_7 _ (SH.ae (L:=Row 3 1 (.slice Y zs.length c_7) zs.length (ints zs)::Cl J 3 []::L) y)
theorem kD {κ ν:Type} [DecidableEq κ] {m:List (κ × ν)} {k:κ} {v:ν} {q:κ × ν} (h:q∈aF m k v):q.2=v∨q∈m:=by
 obtain ⟨a,b⟩:=q
 rcases gr.1 h with h | h
 ·exact .inl h.2
 ·exact .inr h.2
theorem oC {κ ν:Type} [DecidableEq κ] {m:List (κ × ν)} {k:κ} {v:ν} {n:Int} (h:(m.length:Int)≤n) (y:aB m k=none→(m.length:Int)<n):((aF m k v).length:Int)≤n:=by
 by_cases q:m.any (fun p=>decide (p.1=k))=true
 ·rw [←List.length_map (f:=Prod.fst),tA q,List.length_map]
  exact h
 ·rw [iq (jF q),List.length_append]
  have:=y (p5.2 (jF q))
  show ((m.length+1:Nat):Int)≤n
  omega
theorem vf {s:dT} {ip:Int} {v:Value} {ord n:Int} {xs:List Value} {W:List (Int × (Value × Int))} {ws:bQ} (y:dU s) (Y:cn s.W) (hW:W=aF s.W ip (v,ord)) (hn:ws.now=s.ws.now) (hk:aB s.W ip=none→(s.W.length:Int)<s.room) (hl: ∀ u,aB ws.T u≠none→u=ip∨aB s.ws.T u≠none) (hx: ∃ zs,xs=ints zs∧zs.length≤64):dU { s with W:=W,Z:=(v,xs)::s.Z,ws:=ws,count:=n } :=by
 subst hW
 refine ⟨y.bq,fun q hq=>?_,y.lives,hn.trans y.waits,y.life,y.bnd,y.ek,y.el,oC y.rk hk,fun u hu=>?_⟩
 rotate_left
 ·show aB (aF s.W ip _) u≠none
  rw [fq Y]
  split
  ·exact fun e=>by cases e
  ·rename_i J
   exact y.rl u ((hl u hu).resolve_left J)
 rcases kD hq with h | h
 ·obtain ⟨zs,rfl,H⟩:=hx
  exact ⟨zs,by rw [h];exact .head _,H⟩
 ·obtain ⟨zs,h,H⟩:=y.rows q h
  exact ⟨zs,.tail _ h,H⟩
theorem c290 {ip now:Nat} {tok:Int} {s:dT} (hi:ip<4294967296) (y:SH w0 w L) [q:aC (Ca p) L s R]
  (k1: ∀ b s' w',SH w0 w' (Ca p s'::R)→K (.tuple #[.bool b,C5 0]) w') (k2: ∀ w',SH w0 w' (Ca p s::R)→K (.tuple #[.bool false,C5 18]) w'):D 290 [pt p,C3 ip,C5 tok,C4 now] w K:=by
 obtain ⟨hs,y⟩:=SH.ca y p
 have hlf:=hs.life
 have hbn:=hs.bnd
 have hA:=y.apart s.rb (T:=fz)
 refine s290 rfl<|ac<|ac<|y.C9 (b:=p) rfl<|dh rfl rfl rfl (by omega) y (fun h_18=>?_) (fun v_18 h_18=>?_)
 ·refine y.an fun H w_10 y=>y.aj (b:=H) fun _ y=>fV<|have y:=y.drew;Dj<|y.C9 (b:=p) rfl ⟨_,iz rfl rfl y,y.C9 (b:=p) rfl (ap (fun h_47=>?_) (fun h_47=>?_))⟩
  ·exact ac<|ah<|k2 _ (SH.ed y.ae hs)
  ·refine ak<|aq<|Dj<|ac<|c197 y rfl (fun z_53 _ y=>y.aN (b:=H) [C5 z_53] [sN,C5 z_53] fun _ y=>cv ?_)
   have y:=y.drew
   refine y.C9 (b:=p) rfl<|Db ⟨_,cq,y.C9 (b:=p) rfl ?_⟩
   have hd:min now 2305843009213693952+s.pat<18446744073709551616:=by omega
   refine ⟨_,ve (by omega),c198 (by omega) hd y (fun _ _ _ h_69 y=>?_)⟩
   have y:SH w0 _ (Rd 1 (sN) (ints [])::_):=y.lz 1 none 0
   refine ac<|y.C9 (b:=H) rfl<|c341 (v:=sN) (zs:=[]) y (by decide) (fun a_72 c_72 w_72 y=>⟨rfl,[C5 tok],rfl,y.an fun b_74 w_74 y=>aZ (dL (v:= .slice a_72 0 c_72) (u:= .slice (some ⟨b_74,0,none⟩) 1 1) rfl rfl rfl y (y.fa rfl) rfl (by (simp<;>omega)) fun J Y w_75 y=>y.aN (b:=H) [.slice J 1 Y] [.slice J 1 Y,C5 z_53] fun _ y=>aJ ?_)⟩)
   have y:=y.drew
   refine y.C9 (b:=p) rfl<|y.Da (b:=H) rfl<|d' (fc (vv:= .agg #[.slice J 1 Y,C5 z_53]) rfl rfl rfl rfl (by omega) y fun _ y=>ac (Dj (ah ?_)))
   have y:=y.shares (.slice J 1 Y) 3 1
   have hok:=vf (ip:=ip) (v:= .slice J 1 Y) (ord:=z_53) (n:=z_53) (xs:=ints []++[C5 tok]) hs hA rfl h_69.1 (fun _=>by omega) h_69.2 ⟨[tok],rfl,by show 1≤64;decide⟩
   exact k1 _ _ _ (SH.ed (SH.ae y) hok)
 ·obtain ⟨v,ord⟩:=v_18
  obtain ⟨zs,hz,hz64⟩:=hs.rows _ (cU h_18)
  have y:=y.va (size:=1) hz
  obtain ⟨a,n,c,e,hn⟩:=y.vb
  simp only at e
  subst e
  have hn:zs.length=n:=by rw [lA] at hn;omega
  subst hn
  refine y.an fun H w_10 y=>y.aj (b:=H) fun _ y=>fV<|have y:=y.drew;y.C9 (b:=H) rfl<|y.C9 (b:=p) rfl<|ap (fun h_31=>?_) (fun h_31=>?_)
  ·exact ac<|ah<|k2 _ (SH.ed (SH.ae y) hs)
  ·refine Dj<|ak<|aq<|Dj<|ak<|ac<|y.C9 (b:=H) rfl<|c341 (v:= .slice a zs.length c) y (by omega) (fun a_72 c_72 w_72 y=>⟨rfl,[C5 tok],rfl,y.an fun b_74 w_74 y=>aZ (dL (v:= .slice a_72 zs.length c_72) (u:= .slice (some ⟨b_74,0,none⟩) 1 1) rfl rfl rfl y (y.fa rfl) rfl (by omega) fun J Y w_75 y=>y.aN (b:=H) [.slice J (zs.length+1) Y] [.slice J (zs.length+1) Y,C5 ((Value.slice a zs.length c,ord).snd)] fun _ y=>aJ ?_)⟩)
   have y:=y.drew
   refine y.C9 (b:=p) rfl<|y.Da (b:=H) rfl<|d' (fc (vv:= .agg #[.slice J (zs.length+1) Y,C5 ((Value.slice a zs.length c,ord).snd)]) rfl rfl rfl rfl (by omega) y fun _ y=>ac (Dj (ah ?_)))
   have y:=y.shares (.slice J (zs.length+1) Y) 3 1
   have hok:=vf (ip:=ip) (v:= .slice J (zs.length+1) Y) (ord:=ord) (n:=s.count) (xs:=ints zs++[C5 tok]) hs hA rfl rfl (fun e=>by rw [h_18] at e;cases e) (fun u hu=> .inr hu) ⟨zs++[tok],(vd zs [tok]).symm,by rw [List.length_append];show zs.length+1≤64;omega⟩
   exact k1 _ _ _ (SH.ed (SH.ae y) hok)
end
end
end Go.Proofs.YtlhpilgmeededaaGreatDoor
namespace Go.Den
open Go Go.RowKit
class dV (L:List ao) (a:Option Addr) (size:outParam Nat) (n:outParam Nat) (xs:outParam (List Value)):Prop where
 get: ∀ {w0 w:World},SH w0 w L→ ∃ c,Reads w size (.slice a n c) n xs
instance rwRow (L:List ao) (e:TypeId) (size:Nat) (a:Option Addr) (n c:Nat) (xs:List Value):dV (Row e size (.slice a n c) n xs::L) a size n xs:=⟨fun h=>⟨c,h.pR⟩⟩
instance rwRd (L:List ao) (size:Nat) (a:Option Addr) (n c:Nat) (xs:List Value):dV (Rd size (.slice a n c) xs::L) a size n xs:=⟨fun h=>⟨c,h.rd⟩⟩
instance (priority:=low) rwTail (A:ao) (L:List ao) (a:Option Addr) (size n:Nat) (xs:List Value) [h:dV L a size n xs]:dV (A::L) a size n xs:=⟨fun k=>h.get k.tail⟩
theorem oD (a:Addr) (i j:Nat):(a.add i).add j=a.add (i+j):=by
 unfold Addr.add
 by_cases hi:i=0
 ·subst hi;simp
 ·by_cases q:j=0
  ·subst q;simp [hi]
  ·simp [hi,q,Nat.add_assoc]
section
variable {w0 w:World} {L:List ao} {size n:Nat} {xs:List Value}
theorem SH.dW (q:SH w0 w L) (a:Option Addr) [h:dV L a size n xs] (h0:0<n:=by omega): ∃ ad,a=some ad:=by
 obtain ⟨c,_,a',c',e,y,_⟩:=h.get q
 cases e
 cases a with
 | none=>have:=y rfl;omega
 | some ad=>exact ⟨ad,rfl⟩
theorem SH.fe {ad:Addr} {v:Value} {j:Nat} (q:SH w0 w L) [h:dV L (some ad) 1 n xs] (y:xs[j]?=some v):w.cell? (ad.add (j*1))=some v:=by
 obtain ⟨c,_,a',c',e,_,H⟩:=h.get q
 cases e
 rw [Nat.mul_one]
 exact H ad rfl j v y
theorem SH.vg {a:Option Addr} (q:SH w0 w L) [h:dV L a size n xs]:xs.length=n*size:=by
 obtain ⟨c,hl,_⟩:=h.get q
 exact hl
theorem SH.oE {ad:Addr} {vs:List Value} {m j:Nat} (H:SH w0 w L) [h:dV L (some ad) size n xs] (J:vs.length=m) (y: ∀ t u,vs[t]?=some u→xs[j*size+t]?=some u):cE w (ad.add (j*size)) 0 m=some vs:=by
 obtain ⟨c,_,a',c',e,_,Y⟩:=h.get H
 cases e
 subst J
 have key: ∀ (us:List Value) (i:Nat),(∀ t u,us[t]?=some u→xs[j*size+(i+t)]?=some u)→cE w (ad.add (j*size)) i us.length=some us:=by
  intro us
  induction us with
  | nil=>intro i _;rfl
  | cons u us ih=>
   intro i q
   have h1:=Y ad rfl (j*size+i) u (by simpa using q 0 u rfl)
   have h2:=ih (i+1) (fun t v y=>by have:=q (t+1) v (by simpa using y);rwa [show i+(t+1)=i+1+t by omega] at this)
   have e:(ad.add (j*size)).add i=ad.add (j*size+i):=oD ad _ _
   simp only [List.length_cons,cE]
   rw [e,h1,h2]
 exact key vs 0 (fun t u q=>by rw [Nat.zero_add];exact y t u q)
end
theorem ints_at {zs:List Int} {j:Nat} (h:j<zs.length):(ints zs)[j]?=some (C5 (zs.getD j 0)):=by
 simp [ints,h,List.getD_eq_getElem?_getD]
theorem lB {zs:List Int} {j:Nat} (h:j<zs.length):(zs.map fun z=>C3 z)[j]?=some (C3 (zs.getD j 0)):=by
 simp [h,List.getD_eq_getElem?_getD]
theorem gV {α:Type} {zs:List α} {d:α} {j:Nat} (h:j<zs.length):zs.getD j d∈zs:=by
 rw [List.getD_eq_getElem?_getD,List.getElem?_eq_getElem h]
 exact List.getElem_mem h
end Go.Den
namespace Go.Proofs.YtlhpilgmeededaaGreatDoor
open Go Go.Den
set_option maxHeartbeats 4000000
set_option maxRecDepth 8000
section
attribute [local irreducible] ay aQ aH aK aV num be over nb rowOf
section
variable {w0 w:World} {L R R2 R3:List ao} {K:Value→World→Prop} {v u:Value} {bs ps:List Nat}
theorem SH.kE {e:TypeId} {b n:Nat} {cs:List Value} (q:SH w0 w (Cl b e cs::L)) (size:Nat) (hl:cs.length=n*size) (y:n≤maxLen:=by decide):SH w0 w (Row e size (.slice (some ⟨b,0,none⟩) n n) n cs::L):=by
 refine SH.gO (A:=[Cl b e cs]) ?_ q
 have h:=bY.at (e:=e) (size:=size) b cs n n hl (Nat.le_refl _) y
 rwa [List.take_of_length_le (by omega)] at h
theorem SH.cH (q:SH w0 w L):SH w0 w (By (sN) []::L):=
 q.reads ⟨l4 w 1 none 0,by simp,by simp,⟨none,0,rfl,Nat.le_refl _⟩⟩ (fun A _ _ _ h=>h.1 rfl)
theorem c364 {x pr:Nat} (y:SH w0 w L) [q:aR L x 550 [v] R] [hb:aD L v bs] (h28:28≤bs.length)
  (k: ∀ (zs:List Int) a c w',zs.length≤1∧(∀ z∈zs,z=26∨z=36∧pr=6)→SH w0 w' (Row 3 1 (.slice a zs.length c) zs.length (ints zs)::L)→K (.slice a zs.length c) w'):D 364 [pt x,C1 pr] w K:=by
 obtain ⟨ad,c,rfl,hcap,hB1,hl0⟩:=y.enter (v:=v)
 refine s364 rfl<|ac<|av<|ac<|aM<|ac<|ap (fun Y=>?_) (fun Y=>?_)
 ·exact ai<|ac ⟨rfl,[C5 36],rfl,y.an fun _ _ y=>ah (k [36] _ _ _ ⟨Nat.le_refl _,by simp;omega⟩ (SH.kE y 1 rfl))⟩
 ·refine ai<|ac<|ap (fun H=>?_) (fun H=>?_)
  ·refine ai<|ac<|y.C9 (b:=x) rfl<|c56 (v:=sl ad c bs) y (by omega) (by omega) (fun _=>ac (Di (ap (fun J=>?_) (fun J=>?_))))
   ·exact ai<|ac ⟨rfl,[C5 26],rfl,y.an fun _ _ y=>ah (k [26] _ _ _ ⟨Nat.le_refl _,by simp⟩ (SH.kE y 1 rfl))⟩
   ·exact ai<|ak<|ac<|ah<|k [] _ _ _ ⟨by decide,by simp⟩ (y.rowOf (sN) 3 1)
  ·exact ai<|ak<|ac<|ah<|k [] _ _ _ ⟨by decide,by simp⟩ (y.rowOf (sN) 3 1)
theorem c365 {x pl n c:Nat} {a:Option Addr} {zs:List Int} (y:SH w0 w L) [q:aR L x 550 [v] R] [hb:aD R v bs] [hp:aD R u ps] [hz:dV R a 1 n (ints zs)] (h:pl+ps.length≤bs.length) (h2:ps.length % 2=0) (hlen:bs.length≤100000) (h0: ∀ z∈zs,0≤z∧z≤1000) (hzl:zs.length≤1000)
  (k: ∀ qs a' c' w',qs.length=bs.length→SH w0 w' (Cl x 550 [sl a' c' qs]::By (sl a' c' qs) qs::R)→K (.tuple #[]) w'):D 365 [pt x,C5 pl,u,.slice a n c] w K:=by
 have y:=y.perm q.perm
 obtain rfl:n=zs.length:=by have:=(y.tail).vg (a:=a);rw [lA] at this;omega
 obtain ⟨ad,cc,rfl,hcap,hB1,hl0⟩:=y.enter (v:=v)
 obtain ⟨ad2,cc2,rfl,hcap2,hB2,hl2⟩:=y.enter (v:=u)
 refine s365 rfl<|ac<|y.C9 (b:=x) rfl<|Db<|y.qa (M:=R) (n:=bs.length) (bs:=bs) (pl) (Int.toNat (↑pl+ ↑ps.length)) fun a_24 c_24 _ _=>c34 (v:=sl a_24 c_24 (List.take ((↑pl+ ↑ps.length:Int).toNat - pl) (List.drop pl bs))) (bs:=(List.take ((↑pl+ ↑ps.length:Int).toNat - pl) (List.drop pl bs))) y (fun H J _ _ y=>ac (y.C9 (b:=x) rfl (c361 (v:=sl ad cc bs) (u:=sl ad2 cc2 ps) y ‹_› (fun a_34 c_34 _ y=>y.aN (b:=x) [sl a_34 c_34 (over bs pl ps)] [sl a_34 c_34 (over bs pl ps)] fun _ y=>?_))))
 have hw:(List.take ((↑pl+ ↑ps.length:Int).toNat - pl) (List.drop pl bs)).length=ps.length:=by rw [List.length_take,List.length_drop];omega
 have ho:=eo h
 generalize (List.take ((↑pl+ ↑ps.length:Int).toNat - pl) (List.drop pl bs))=was at hw y ⊢
 generalize over bs pl ps=qs0 at ho y ⊢
 refine ac<|aM ?_
 refine bU ([10,11,12,13,14]++List.range' 41 35) rfl [0,2,8,39,40,41] (fun (Y:Nat × Option Addr × Nat × List Nat)=>[pt x,sl ad2 cc2 ps,sl H J was,.slice a zs.length c,C5 zs.length,C5 Y.1])
  (fun Y w'=>(Y.1≤zs.length∧Y.2.2.2.length=bs.length)∧SH w0 w' (Cl x 550 [sl Y.2.1 Y.2.2.1 Y.2.2.2]::By (sl Y.2.1 Y.2.2.1 Y.2.2.2) Y.2.2.2::By (sl H J was) was::R)) (fun Y=>zs.length - Y.1) (0,a_34,c_34,qs0) rfl ⟨⟨Nat.zero_le _,ho⟩,y.ae⟩ ?_
 rintro g ⟨i,a1,c1,qs⟩ w6 ⟨⟨hi,hq⟩,y⟩
 simp only at hi hq y
 refine ac<|ap (fun h_28=>?_) (fun h_28=>?_)
 ·obtain ⟨aa,rfl⟩:=y.dW a
  refine av<|ai<|ak<|aG<|ac ⟨by omega,_,rfl,⟨_,y.fe (ints_at (by omega)),ac (y.C9 (b:=x) rfl ?_)⟩⟩
  have hz1:=h0 _ (gV (zs:=zs) (d:=0) (j:=(i:Int).toNat) (by omega))
  generalize zs.getD (i:Int).toNat 0=z at hz1 ⊢
  obtain ⟨n,rfl⟩: ∃ n:Nat,z=n:=⟨z.toNat,by omega⟩
  refine c56b (v:=sl a1 c1 qs) y (by omega) (fun h_51 _=>?_) (fun h_51=>?_)
  ·exact Dt [0,2,8,10,39,40,41,51] [pt x,sl ad2 cc2 ps,sl H J was,C5 n,.slice (some aa) zs.length c,C5 zs.length,C5 i,.tuple #[C4 (num qs (↑n) 2),C5 0]] fun g=>ac<|Di<|ai<|ac ⟨_,IntWalk.u16_in _ (by omega),c368 (v:=sl H J was) (u:=sl ad2 cc2 ps) y (by omega) (by omega) (by omega) (fun _ _ y=>au (y.C9 (b:=x) rfl (c336 (v:=sl a1 c1 qs) y (by omega) ‹_› (fun a_71 c_71 _ y=>y.aN (b:=x) [sl a_71 c_71 (over qs n (nb (cu (num qs (↑n) 2) was ps) 2))] [sl a_71 c_71 (over qs n (nb (cu (num qs (↑n) 2) was ps) 2))] fun _ y=>au (Db (⟨(i+1,a_71,c_71,over qs n (nb (cu (num qs (↑n) 2) was ps) 2)),rfl,⟨⟨by omega,(eo (by rw [br];omega)).trans hq⟩,y.ae⟩,by show zs.length - (i+1)<zs.length - i;omega⟩))))))⟩
  ·exact Dt [0,2,8,10,39,40,41,51] [pt x,sl ad2 cc2 ps,sl H J was,C5 n,.slice (some aa) zs.length c,C5 zs.length,C5 i,.tuple #[C4 0,C5 12]] fun g=>ac<|Dh<|ai<|ak<|au<|Db ⟨(i+1,a1,c1,qs),rfl,⟨⟨by omega,hq⟩,y.ae⟩,by show zs.length - (i+1)<zs.length - i;omega⟩
 ·exact av<|ai<|aS<|k _ a1 c1 _ hq y.ae
theorem c326m {tos id:Nat} {keep:Bool} {ttl proto fr to:Nat} (H:SH w0 w L) [hb:aD L v bs] (J:bI tos id ttl proto fr to) (Y:8≤bs.length) (hlen:bs.length≤100000)
  (k1: ∀ p q kind:Nat,p<65536∧q<65536∧kind<256→ ∀ y,SH w0 y L→K (.tuple #[eX proto fr p to q 0 kind,.nilIface]) y)
  (k2: ∀ b y,SH w0 y (Ex b::L)→K (.tuple #[lm,bu b]) y):D 326 [ba tos id keep ttl proto fr to v] w K:=
 c326 H J Y hlen (fun _ h1 h2 y h=>k1 _ _ 0 ⟨h1,h2,by decide⟩ y h) (fun _ h0 h1 y h=>k1 _ 0 _ ⟨h1,by decide,by omega⟩ y h) (fun _ h0 h1 y h=>k1 0 _ _ ⟨by decide,h1,by omega⟩ y h) (fun _ b y h=>k2 b y h)
theorem Am {ty:Nat} {bs:List Nat} (h:gR ty bs):28≤bs.length:=by
 have:=h.2.2
 simp only [cJ,List.length_take,List.length_drop] at this
 omega
theorem c328 {tos id:Nat} {keep:Bool} {ttl proto fr to ip port:Nat} {ipAt pAt kind:Nat} (y:SH w0 w L) [hb:aD L v bs] (hlen:bs.length≤100000) (he:ip<4294967296∧port<65536) (ha:ipAt≤16∧pAt≤26)
  (k1:proto=1→ ∀ (qs:List Nat) a c w',qs.length≤100000→SH w0 w' (By (sl a c qs) qs::L)→K (.tuple #[ba tos id keep ttl proto fr to (sl a c qs),.nilIface]) w')
  (k2: ∀ b w',SH w0 w' (Ex b::L)→K (.tuple #[fv,bu b]) w'):D 328 [ba tos id keep ttl proto fr to v,gx ip port,.int .i64 ipAt,.int .i64 pAt,.int .u8 kind] w K:=by
 obtain ⟨ad,c,rfl,hcap,hB1,hl0⟩:=y.enter (v:=v)
 refine s328 rfl<|ac<|y.az [.int .u8 tos,.int .u16 id,.bool keep,.int .u8 ttl,.int .u8 proto,.int .u32 fr,.int .u32 to,sl ad c bs] fun b_5 _ y=>y.az [.int .u32 ip,.int .u16 port] fun b_6 _ y=>y.an fun J _ y=>ac<|y.Da (b:=b_5) rfl<|c325 y (by assumption) (fun h_23 _ h_232 _ _ keep'_23 _ a_23 c_23 a'_23 c'_23 w_23 y=>?_) (fun h_23 b_23 w_23 y=>?_) (fun h_23 a_23 c_23 b_23 w_23 y=>?_)
 ·refine y.an fun Y w_12 y=>Dt [2,3,4,5,6,10,11,12,24,25,26,76] [.int .i64 ipAt,.int .i64 pAt,.int .u8 kind,pt b_5,pt b_6,pt J,.nilIface,pt Y,.agg #[.int .u8 (bs.getD 0 0),.int .u8 (bs.getD 1 0),.int .u8 ((List.drop 4 bs).getD 0 0),.int .u8 ((List.drop 4 bs).getD 1 0),.int .u8 ((List.drop 4 bs).getD 2 0),.int .u8 ((List.drop 4 bs).getD 3 0),sl a_23 c_23 (List.drop 8 bs)],.agg #[.int .u8 ((List.drop 8 bs).getD 1 0),.int .u16 (num (List.drop 8 bs) 4 2),.bool keep'_23,.int .u8 ((List.drop 8 bs).getD 8 0),.int .u8 ((List.drop 8 bs).getD 9 0),.int .u32 (num (List.drop 8 bs) 12 4),.int .u32 (num (List.drop 8 bs) 16 4),sl a'_23 c'_23 (cJ (List.drop 8 bs) (num (List.drop 8 bs) 2 2))],.nilIface,undef] fun g=>y.an fun b_13 w_13 y=>y.aj (b:=Y) fun w_63 y=>y.aj (b:=b_13) fun _ y=>aq ⟨_,bg (neg:=true) rfl,ak (ac (y.Da (b:=b_13) rfl ?_))⟩
  have h28:=Am h_232
  refine c326m y (by assumption) (by (exact uq (by assumption))) (by (simp<;>omega)) (fun p q kd _ w_18 y=>?_) (fun b_18 w_18 y=>?_)
  ·refine y.an fun b_15 w_15 y=>Dt [2,3,4,5,6,10,11,12,14,15,34,35,76] [.int .i64 ipAt,.int .i64 pAt,.int .u8 kind,pt b_5,pt b_6,pt J,.nilIface,pt Y,.nilIface,pt b_15,.agg #[.int .u8 ((List.drop 8 bs).getD 9 0),.int .u32 (num (List.drop 8 bs) 12 4),.int .u16 p,.int .u32 (num (List.drop 8 bs) 16 4),.int .u16 q,.int .u8 (↑0),.int .u8 kd],.nilIface,undef] fun g=>y.aj (b:=b_15) fun w_78 y=>aq ⟨_,bg (neg:=true) rfl,ak (ac (y.C9 (b:=Y) rfl (Dt [2,3,4,5,6,10,11,12,15,41,76] [.int .i64 ipAt,.int .i64 pAt,.int .u8 kind,pt b_5,pt b_6,pt J,.nilIface,pt Y,pt b_15,sl a_23 c_23 (List.drop 8 bs),undef] fun g=>⟨rfl,[sl a_23 c_23 (List.drop 8 bs)],rfl,y.an fun b_16 _ y=>y.aN (b:=b_16) [sl a_23 c_23 (List.drop 8 bs)] [sl a_23 c_23 (List.drop 8 bs)] fun _ y=>aJ ?_⟩)))⟩
   have y:=y.drew
   refine y.Da (b:=b_6) rfl<|y.C9 (b:=b_15) rfl<|c338 y (by assumption) (fun a_44 c_44 _ y=>?_)
   have h6:=qj ip port
   generalize rowOf 4 [ip]++rowOf 2 [port]=ew at h6 y ⊢
   refine ⟨⟨y.ld (b:=b_15) rfl,⟨⟨_,y.af (b:=b_6) rfl,rfl⟩,trivial⟩⟩,c364 y (by assumption) (fun H a_47 c_47 _ h_474 y=>⟨⟨y.ld (b:=b_15) rfl,⟨⟨_,y.af (b:=b_6) rfl,rfl⟩,trivial⟩⟩,aJ ?_⟩)⟩
   have y:=y.drew
   obtain ⟨a',c',e,hcap6,hBw,hlw⟩:=y.enter (v:=sl a_44 c_44 ew)
   cases e
   have y:=y.tP (e:=5) (sl a_44 c_44 ew)
   refine y.tR (a:=a_44) (n:=ew.length) (c:=c_44) (bs:=ew) 4 fun a_50 c_50 y=>Du [3,4,5,10,11,12,15,16,17,18,48,50,76] [.int .i64 pAt,.int .u8 kind,pt b_5,pt J,.nilIface,pt Y,pt b_15,pt b_16,sl a_44 c_44 ew,.slice a_47 H.length c_47,.int .i64 ipAt,sl a_50 c_50 (List.take 4 ew),undef] fun g=>⟨rfl,[.int .i64 10],rfl,y.an fun b_51 _ y=>⟨trivial,?_⟩⟩
   have y:=SH.kE y 1 rfl
   refine fy (dL (v:= .slice (some ⟨b_51,0,none⟩) 1 1) (u:= .slice a_47 H.length c_47) rfl rfl rfl y y.rd (qW _) (by omega) fun a_53 c_53 w_53 y=>?_)
   have y:SH w0 w_53 (Row 3 1 (.slice a_53 (1+H.length) c_53) (1+H.length) (ints (10::H))::_):=y
   refine ⟨trivial,?_⟩
   have h4:(List.take 4 ew).length=4:=by rw [List.length_take];omega
   refine c365 (zs:=10::H) (u:=sl a_50 c_50 (List.take 4 ew)) y (by rw [h4,List.length_drop];rw [List.length_drop] at h28;omega) (by rw [h4]) (by rw [List.length_drop];omega) (fun z hz=>by
    rcases List.mem_cons.1 hz with rfl | hz
    ·omega
    ·rcases h_474.2 z hz with rfl | ⟨rfl,_⟩<;>omega) (by rw [List.length_cons];omega) (fun qs_54 a_54 c_54 w_54 h_544 y=>?_)
   refine bt (List.range' 55 18) rfl [5,10,11,12,15,16,18] (fun (_:Option Addr × Nat × List Nat)=>[pt b_5,pt J,.nilIface,pt Y,pt b_15,pt b_16,.slice a_47 H.length c_47]) (fun x w'=>x.2.2.length=bs.length - 8∧SH w0 w' (Cl b_16 550 [sl x.1 x.2.1 x.2.2]::By (sl x.1 x.2.1 x.2.2) x.2.2::Row 3 1 (.slice a_47 H.length c_47) H.length (ints H)::Cl Y 311 [.int .u8 (bs.getD 0 0),.int .u8 (bs.getD 1 0),.int .u8 ((List.drop 4 bs).getD 0 0),.int .u8 ((List.drop 4 bs).getD 1 0),.int .u8 ((List.drop 4 bs).getD 2 0),.int .u8 ((List.drop 4 bs).getD 3 0),sl a_23 c_23 (List.drop 8 bs)]::Cl b_15 390 [.int .u8 ((List.drop 8 bs).getD 9 0),.int .u32 (num (List.drop 8 bs) 12 4),.int .u16 p,.int .u32 (num (List.drop 8 bs) 16 4),.int .u16 q,.int .u8 (0:Nat),.int .u8 kd]::Cl J 46 [.int .u8 (0:Nat),.int .u16 (0:Nat),.bool false,.int .u8 (0:Nat),.int .u8 (0:Nat),.int .u32 (0:Nat),.int .u32 (0:Nat),.slice none 0 0]::Cl b_5 46 [.int .u8 tos,.int .u16 id,.bool keep,.int .u8 ttl,.int .u8 proto,.int .u32 fr,.int .u32 to,sl ad c bs]::L)) ?_ ?_
   ·refine aM<|ac<|y.C9 (b:=b_15) rfl<|ap (fun h_58=>?_) (fun h_58=>?_)
    ·refine ai<|au<|y.tQ (a:=a_44) (n:=ew.length) (c:=c_44) (m:=0) (bs:=ew) 4 fun a_61 c_61 y=>Dt [5,10,11,12,15,16,18,59,61] [pt b_5,pt J,.nilIface,pt Y,pt b_15,pt b_16,.slice a_47 H.length c_47,.int .i64 pAt,sl a_61 c_61 (List.drop 4 ew)] fun g=>?_
     have h42:(List.drop 4 ew).length=2:=by rw [List.length_drop];omega
     refine c365 (zs:=H) (u:=sl a_61 c_61 (List.drop 4 ew)) y (by rw [h42,h_544];omega) (by rw [h42]) (by rw [h_544,List.length_drop];omega) (fun z hz=>by
      rcases h_474.2 z hz with rfl | ⟨rfl,_⟩<;>omega) (by omega) (fun qs_63 a_63 c_63 w_63 h_634 y=>?_)
     exact ⟨(a_63,c_63,qs_63),rfl,by rw [h_634,h_544,List.length_drop],y.ae⟩
    ·refine ai<|ac<|y.C9 (b:=b_15) rfl<|ap (fun h_68=>?_) (fun h_68=>?_)
     ·refine ai<|au<|y.tQ (a:=a_44) (n:=ew.length) (c:=c_44) (m:=0) (bs:=ew) 4 fun a_70 c_70 y=>Dt [5,10,11,12,15,16,18,70] [pt b_5,pt J,.nilIface,pt Y,pt b_15,pt b_16,.slice a_47 H.length c_47,sl a_70 c_70 (List.drop 4 ew)] fun g=>⟨rfl,[.int .i64 22],rfl,y.an fun _ _ y=>?_⟩
      have y:=SH.kE y 1 rfl
      have h42:(List.drop 4 ew).length=2:=by rw [List.length_drop];omega
      refine c365 (pl:=24) (zs:=[22]) (u:=sl a_70 c_70 (List.drop 4 ew)) y (by rw [h42,h_544];omega) (by rw [h42]) (by rw [h_544,List.length_drop];omega) (fun z hz=>by
       rcases List.mem_singleton.1 hz with rfl;omega) (by decide) (fun qs_72 a_72 c_72 _ h_724 y=>?_)
      exact ⟨(a_72,c_72,qs_72),rfl,by rw [h_724,h_544,List.length_drop],y.ae⟩
     ·exact ai<|ak ⟨(a_54,c_54,qs_54),rfl,by rw [List.length_drop] at h_544;exact h_544,y.ae⟩
   rintro g ⟨a1,c1,qs⟩ w6 ⟨hq,y⟩
   simp only at hq y
   refine Dv [5,10,11,12,15,16,18] [pt b_5,pt J,.nilIface,pt Y,pt b_15,pt b_16,.slice a_47 H.length c_47] fun g=>?_
   refine bt ([19,20]++List.range' 73 26) rfl [5,10,11,12,16] (fun (_:Option Addr × Nat × List Nat)=>[pt b_5,pt J,.nilIface,pt Y,pt b_16]) (fun x w'=>x.2.2.length=bs.length - 8∧SH w0 w' (Cl b_16 550 [sl x.1 x.2.1 x.2.2]::By (sl x.1 x.2.1 x.2.2) x.2.2::Row 3 1 (.slice a_47 H.length c_47) H.length (ints H)::Cl Y 311 [.int .u8 (bs.getD 0 0),.int .u8 (bs.getD 1 0),.int .u8 ((List.drop 4 bs).getD 0 0),.int .u8 ((List.drop 4 bs).getD 1 0),.int .u8 ((List.drop 4 bs).getD 2 0),.int .u8 ((List.drop 4 bs).getD 3 0),sl a_23 c_23 (List.drop 8 bs)]::Cl b_15 390 [.int .u8 ((List.drop 8 bs).getD 9 0),.int .u32 (num (List.drop 8 bs) 12 4),.int .u16 p,.int .u32 (num (List.drop 8 bs) 16 4),.int .u16 q,.int .u8 (0:Nat),.int .u8 kd]::Cl J 46 [.int .u8 (0:Nat),.int .u16 (0:Nat),.bool false,.int .u8 (0:Nat),.int .u8 (0:Nat),.int .u32 (0:Nat),.int .u32 (0:Nat),.slice none 0 0]::Cl b_5 46 [.int .u8 tos,.int .u16 id,.bool keep,.int .u8 ttl,.int .u8 proto,.int .u32 fr,.int .u32 to,sl ad c bs]::L)) ?_ ?_
   ·refine ac<|y.C9 (b:=b_15) rfl<|ap (fun h_75=>?_) (fun h_75=>?_)
    ·refine ap (fun h_79=>?_) (fun h_79=>?_)
     ·refine ai<|aJ<|have y:=y.drew;y.C9 (b:=b_16) rfl<|Du [5,10,11,12,16,18,83] [pt b_5,pt J,.nilIface,pt Y,pt b_16,.slice a_47 H.length c_47,sl a1 c1 qs] fun g=>?_
      obtain ⟨ad_85,rfl⟩:=y.dW a_47
      refine ⟨by omega,_,rfl,⟨_,y.fe (ints_at (by omega)),?_⟩⟩
      have hq28:28≤qs.length:=by rw [List.length_drop] at h28;omega
      have hz1:=h_474.2 _ (gV (zs:=H) (d:=0) (j:=Int.toNat 0) (by simp;omega))
      have hz2:H.getD (Int.toNat 0) 0=((26:Nat):Int):=by rcases hz1 with h | ⟨_,h⟩<;>omega
      have hr:=y.fe (ad:=ad_85) (ints_at (zs:=H) (j:=Int.toNat 0) (by simp;omega))
      have hz3:=hz2
      generalize H.getD (Int.toNat 0) 0=z at hz2 hr ⊢
      subst hz2
      refine c56 (v:=sl a1 c1 qs) y (by omega) (by omega) (fun _=>⟨by first | exact ⟨hr,y.ld (b:=b_16) rfl,trivial⟩ | exact ⟨hr,⟨by omega,_,rfl,rfl⟩,y.ld (b:=b_16) rfl,trivial⟩ | exact ⟨hr,⟨_,rfl,by omega⟩,y.ld (b:=b_16) rfl,trivial⟩,?_⟩)
      ·refine ac<|Dt [5,10,11,12,16,18,19] [pt b_5,pt J,.nilIface,pt Y,pt b_16,.slice (some ad_85) H.length c_47,.int .u64 (num qs (↑26) 2)] fun g=>ap (fun h_91=>?_) (fun h_91=>?_)
       ·refine ai<|cv<|have y:=y.drew;y.C9 (b:=b_16) rfl ⟨by omega,_,rfl,⟨_,y.fe (ints_at (by omega)),?_⟩⟩
        have hr:=ints_at (zs:=H) (j:=Int.toNat 0) (by simp;omega)
        generalize H.getD (Int.toNat 0) 0=z at hz3 hr ⊢
        subst hz3
        exact c336 (v:=sl a1 c1 qs) y (by assumption) (by decide) (fun a_97 c_97 _ y=>⟨⟨y.fe hr,y.ld (b:=b_16) rfl,trivial⟩,y.aN (b:=b_16) [sl a_97 c_97 (over qs 26 (nb 65535 2))] [sl a_97 c_97 (over qs 26 (nb 65535 2))] fun _ y=>Du [5,10,11,12,16] [pt b_5,pt J,.nilIface,pt Y,pt b_16] fun g=>⟨(a_97,c_97,over qs 26 (nb 65535 2)),rfl,(eo (by rw [br];omega)).trans hq,y.ae⟩⟩)
       ·exact ai<|ak ⟨(a1,c1,qs),rfl,hq,y.ae⟩
     ·exact ai<|ak ⟨(a1,c1,qs),rfl,hq,y.ae⟩
    ·exact pa 5 rfl<|ai<|ak ⟨(a1,c1,qs),rfl,hq,y.ae⟩
   rintro g ⟨a2,c2,rs⟩ w6 ⟨hq2,y⟩
   simp only at hq2 y
   refine Dv [5,10,11,12,16] [pt b_5,pt J,.nilIface,pt Y,pt b_16] fun g=>ac<|y.C9 (b:=b_16) rfl<|y.aN (b:=Y) [sl a2 c2 rs] [.int .u8 (bs.getD 0 0),.int .u8 (bs.getD 1 0),.int .u8 ((List.drop 4 bs).getD 0 0),.int .u8 ((List.drop 4 bs).getD 1 0),.int .u8 ((List.drop 4 bs).getD 2 0),.int .u8 ((List.drop 4 bs).getD 3 0),sl a2 c2 rs] fun _ y=>ac<|y.Da (b:=Y) rfl<|c269 y (by assumption) (by omega) (fun h_104 a_104 c_104 w_104 y=>?_) (fun h_104 _ w_104 y=>?_)
   ·refine y.aN (b:=b_5) [sl a_104 c_104 (iy (bs.getD 0 0) (bs.getD 1 0) ((List.drop 4 bs).getD 0 0) ((List.drop 4 bs).getD 1 0) ((List.drop 4 bs).getD 2 0) ((List.drop 4 bs).getD 3 0) rs)] [.int .u8 tos,.int .u16 id,.bool keep,.int .u8 ttl,.int .u8 proto,.int .u32 fr,.int .u32 to,sl a_104 c_104 (iy (bs.getD 0 0) (bs.getD 1 0) ((List.drop 4 bs).getD 0 0) ((List.drop 4 bs).getD 1 0) ((List.drop 4 bs).getD 2 0) ((List.drop 4 bs).getD 3 0) rs)] fun _ y=>Dt [5,10,11] [pt b_5,pt J,.nilIface] fun g=>ac<|y.Da (b:=b_5) rfl<|y.aj (b:=J) fun _ y=>ah<|y.Da (b:=J) rfl<|k1 (by assumption) _ _ _ _ (by rw [qk];omega) y.ae
   ·exact y.aN (b:=b_5) [.slice none 0 0] [.int .u8 tos,.int .u16 id,.bool keep,.int .u8 ttl,.int .u8 proto,.int .u32 fr,.int .u32 to,.slice none 0 0] fun _ y=>Dt [5,10,11] [pt b_5,pt J,.nilIface] fun g=>ac<|y.Da (b:=b_5) rfl<|y.aj (b:=J) fun _ y=>ah<|y.Da (b:=J) rfl<|k1 (by assumption) [] none 0 _ (by decide) (SH.cH y.ae)
  ·refine y.an fun b_15 w_15 y=>Dt [2,3,4,5,6,10,11,12,14,15,34,35,76] [.int .i64 ipAt,.int .i64 pAt,.int .u8 kind,pt b_5,pt b_6,pt J,.nilIface,pt Y,.nilIface,pt b_15,.agg #[.int .u8 (↑0),.int .u32 (↑0),.int .u16 (↑0),.int .u32 (↑0),.int .u16 (↑0),.int .u8 (↑0),.int .u8 (↑0)],.iface 165 (pt b_18),undef] fun g=>y.aj (b:=b_15) fun _ y=>aq ⟨_,bH (neg:=true) rfl,ac (Dt [2,3,4,5,6,10,11,12,14,15,76] [.int .i64 ipAt,.int .i64 pAt,.int .u8 kind,pt b_5,pt b_6,pt J,.nilIface,pt Y,.iface 165 (pt b_18),pt b_15,undef] fun g=>⟨by kernel_rfl,[.int .u8 0,.int .u16 0,.bool false,.int .u8 0,.int .u8 0,.int .u32 0,.int .u32 0,.slice none 0 0],by kernel_rfl,y.aj (b:=J) fun w_78 y=>ah (y.Da (b:=J) rfl (k2 _ _ y.ae))⟩)⟩
 ·refine y.an fun Y w_12 y=>Dt [2,3,4,5,6,10,11,12,24,25,26,76] [.int .i64 ipAt,.int .i64 pAt,.int .u8 kind,pt b_5,pt b_6,pt J,.nilIface,pt Y,.agg #[.int .u8 (↑0),.int .u8 (↑0),.int .u8 (↑0),.int .u8 (↑0),.int .u8 (↑0),.int .u8 (↑0),.slice none 0 0],.agg #[.int .u8 (↑0),.int .u16 (↑0),.bool false,.int .u8 (↑0),.int .u8 (↑0),.int .u32 (↑0),.int .u32 (↑0),.slice none 0 0],.iface 165 (pt b_23),undef] fun g=>y.an fun b_13 w_13 y=>y.aj (b:=Y) fun w_54 y=>y.aj (b:=b_13) fun w_56 y=>aq ⟨_,bH (neg:=true) rfl,ac (Dt [2,3,4,5,6,10,11,12,13,14,76] [.int .i64 ipAt,.int .i64 pAt,.int .u8 kind,pt b_5,pt b_6,pt J,.nilIface,pt Y,pt b_13,.iface 165 (pt b_23),undef] fun g=>⟨by kernel_rfl,[.int .u8 0,.int .u16 0,.bool false,.int .u8 0,.int .u8 0,.int .u32 0,.int .u32 0,.slice none 0 0],by kernel_rfl,y.aj (b:=J) fun _ y=>ah (y.Da (b:=J) rfl (k2 _ _ y.ae))⟩)⟩
 ·refine y.an fun Y w_12 y=>Dt [2,3,4,5,6,10,11,12,24,25,26,76] [.int .i64 ipAt,.int .i64 pAt,.int .u8 kind,pt b_5,pt b_6,pt J,.nilIface,pt Y,.agg #[.int .u8 (bs.getD 0 0),.int .u8 (bs.getD 1 0),.int .u8 ((List.drop 4 bs).getD 0 0),.int .u8 ((List.drop 4 bs).getD 1 0),.int .u8 ((List.drop 4 bs).getD 2 0),.int .u8 ((List.drop 4 bs).getD 3 0),sl a_23 c_23 (List.drop 8 bs)],.agg #[.int .u8 (↑0),.int .u16 (↑0),.bool false,.int .u8 (↑0),.int .u8 (↑0),.int .u32 (↑0),.int .u32 (↑0),.slice none 0 0],.iface 165 (pt b_23),undef] fun g=>y.an fun b_13 w_13 y=>y.aj (b:=Y) fun w_56 y=>y.aj (b:=b_13) fun _ y=>aq ⟨_,bH (neg:=true) rfl,ac (Dt [2,3,4,5,6,10,11,12,13,14,76] [.int .i64 ipAt,.int .i64 pAt,.int .u8 kind,pt b_5,pt b_6,pt J,.nilIface,pt Y,pt b_13,.iface 165 (pt b_23),undef] fun g=>⟨by kernel_rfl,[.int .u8 0,.int .u16 0,.bool false,.int .u8 0,.int .u8 0,.int .u32 0,.int .u32 0,.slice none 0 0],by kernel_rfl,y.aj (b:=J) fun _ y=>ah (y.Da (b:=J) rfl (k2 _ _ y.ae))⟩)⟩
theorem c273 {tos id:Nat} {keep:Bool} {ttl proto fr to ip port:Nat} (q:SH w0 w L) [hb:aD L v bs] (hlen:bs.length≤100000) (he:ip<4294967296∧port<65536)
  (k1:proto=1→ ∀ (qs:List Nat) a c H,qs.length≤100000→SH w0 H (By (sl a c qs) qs::L)→K (.tuple #[ba tos id keep ttl proto fr to (sl a c qs),.nilIface]) H)
  (k2: ∀ b H,SH w0 H (Ex b::L)→K (.tuple #[fv,bu b]) H):D 273 [ba tos id keep ttl proto fr to v,gx ip port] w K:=by
 obtain ⟨ad,c,rfl,hcap,hB1,hl0⟩:=q.enter (v:=v)
 refine s273 rfl<|ac<|q.az (DI tos id keep ttl proto fr to (sl ad c bs)) fun J _ q=>q.az [C3 ip,C2 port] fun Y _ q=>q.an fun y _ q=>ac<|q.Da (b:=J) rfl<|q.Da (b:=Y) rfl<|c328 q ‹_› ‹_› (by decide) (fun _ _ _ _ w_8 _ q=>?_) (fun b_8 w_8 q=>?_)
 ·refine q.aj (b:=y) fun _ q=>Dt [4,5,10] [pt y,.nilIface,.nilIface] fun g=>ah<|q.Da (b:=y) rfl<|k1 ‹_› _ _ _ _ ‹_› q.ae
 ·refine q.aj (b:=y) fun _ q=>Dt [4,5,10] [pt y,.nilIface,.iface 165 (pt b_8)] fun g=>ah<|q.Da (b:=y) rfl<|k2 _ _ q.ae
theorem c288 {tos id:Nat} {keep:Bool} {ttl proto fr to ip port:Nat} (q:SH w0 w L) [hb:aD L v bs] (hlen:bs.length≤100000) (he:ip<4294967296∧port<65536)
  (k1:proto=1→ ∀ (qs:List Nat) a c H,qs.length≤100000→SH w0 H (By (sl a c qs) qs::L)→K (.tuple #[ba tos id keep ttl proto fr to (sl a c qs),.nilIface]) H)
  (k2: ∀ b H,SH w0 H (Ex b::L)→K (.tuple #[fv,bu b]) H):D 288 [ba tos id keep ttl proto fr to v,gx ip port] w K:=by
 obtain ⟨ad,c,rfl,hcap,hB1,hl0⟩:=q.enter (v:=v)
 refine s288 rfl<|ac<|q.az (DI tos id keep ttl proto fr to (sl ad c bs)) fun J _ q=>q.az [C3 ip,C2 port] fun Y _ q=>q.an fun y _ q=>ac<|q.Da (b:=J) rfl<|q.Da (b:=Y) rfl<|c328 q ‹_› ‹_› (by decide) (fun _ _ _ _ w_8 _ q=>?_) (fun b_8 w_8 q=>?_)
 ·refine q.aj (b:=y) fun _ q=>Dt [4,5,10] [pt y,.nilIface,.nilIface] fun g=>ah<|q.Da (b:=y) rfl<|k1 ‹_› _ _ _ _ ‹_› q.ae
 ·refine q.aj (b:=y) fun _ q=>Dt [4,5,10] [pt y,.nilIface,.iface 165 (pt b_8)] fun g=>ah<|q.Da (b:=y) rfl<|k2 _ _ q.ae
end
end
end Go.Proofs.YtlhpilgmeededaaGreatDoor
namespace Go.Den
open Go Go.RowKit
def bj (Z:List (Value × List Nat)):ao where
 ex:=fun _=>False
 sh:=fun b=> ∃ p∈Z,p.2≠[]∧fk p.1=some b
 holds:=fun w=> ∀ p∈Z,Rb w p.1 p.2
 loc:=fun w J h y p q=>(By p.1 p.2).loc w J (fun b H=>h b (.inr ⟨p,q,H.resolve_left id⟩)) (y p q)
 dom:=fun w y b H=>by
  obtain ⟨p,q,h⟩:=H.resolve_left id
  exact (By p.1 p.2).dom w (y p q) b (.inr h)
section
variable {w0 w:World} {L R:List ao} {v:Value} {bs:List Nat} {Z Z':List (Value × List Nat)}
theorem SH.kF (J:SH w0 w L):SH w0 w (bj []::L):=by
 refine SH.cQ (L:=[]) (L':=[bj []]) (F:=L) J rfl rfl rfl (Nat.le_refl _) (fun _ _ _=>rfl) (fun A q=>?_) (by simp) (fun A q b y=>?_) (fun A q b y=>?_)
 ·rcases List.mem_singleton.1 q with rfl
  exact fun p H=>by simp at H
 ·rcases List.mem_singleton.1 q with rfl
  exact y.elim
 ·rcases List.mem_singleton.1 q with rfl
  obtain ⟨p,H,_⟩:=y
  simp at H
theorem SH.nh (J:SH w0 w (bj Z::L)) (h: ∀ p∈Z',p∈Z):SH w0 w (bj Z'::L):=by
 refine SH.cQ (L:=[bj Z]) (L':=[bj Z']) (F:=L) J rfl rfl rfl (Nat.le_refl _) (fun _ _ _=>rfl) (fun A q=>?_) (by simp) (fun A q b y=>?_) (fun A q b y=>?_)
 ·rcases List.mem_singleton.1 q with rfl
  exact fun p H=>J.holds (bj Z) (.head _) p (h p H)
 ·rcases List.mem_singleton.1 q with rfl
  exact y.elim
 ·rcases List.mem_singleton.1 q with rfl
  obtain ⟨p,H,y⟩:=y
  exact .inl ⟨bj Z,.head _,.inr ⟨p,h p H,y⟩⟩
theorem SH.jN (J:SH w0 w (By v bs::bj Z::L)):SH w0 w (bj ((v,bs)::Z)::L):=by
 refine SH.cQ (L:=[By v bs,bj Z]) (L':=[bj ((v,bs)::Z)]) (F:=L) J rfl rfl rfl (Nat.le_refl _) (fun _ _ _=>rfl) (fun A H=>?_) (by simp) (fun A H b y=>?_) (fun A H b y=>?_)
 ·rcases List.mem_singleton.1 H with rfl
  intro p q
  rcases List.mem_cons.1 q with rfl | q
  ·exact J.holds (By v bs) (.head _)
  ·exact J.holds (bj Z) (.tail _ (.head _)) p q
 ·rcases List.mem_singleton.1 H with rfl
  exact y.elim
 ·rcases List.mem_singleton.1 H with rfl
  obtain ⟨p,q,y⟩:=y
  rcases List.mem_cons.1 q with rfl | q
  ·exact .inl ⟨By v bs,.head _,.inr y⟩
  ·exact .inl ⟨bj Z,.tail _ (.head _),.inr ⟨p,q,y⟩⟩
theorem SH.vh (H:SH w0 w L) [p:aC bj L Z R] (h:(v,bs)∈Z):SH w0 w (By v bs::L):=by
 have h1:=(H.at bj).dup (bj Z) (.head _) (fun _ h=>h)
 have J:SH w0 w ([By v bs]++bj Z::R):=by
  refine SH.cQ (L:=[bj Z]) (L':=[By v bs]) (F:=bj Z::R) h1 rfl rfl rfl (Nat.le_refl _) (fun _ _ _=>rfl) (fun A q=>?_) (by simp) (fun A q b y=>?_) (fun A q b y=>?_)
  ·rcases List.mem_singleton.1 q with rfl
   exact h1.holds (bj Z) (.head _) _ h
  ·rcases List.mem_singleton.1 q with rfl
   exact y.elim
  ·rcases List.mem_singleton.1 q with rfl
   exact .inl ⟨bj Z,.head _,.inr ⟨_,h,y⟩⟩
 exact J.perm ((p.perm.symm).cons _)
theorem SH.kG {A:List ao} {P:Prop} (y:SH w0 w (bi (A++[Fact P])::R)):P∧SH w0 w (A++R):=by
 have h:SH w0 w (A++(Fact P::R)):=by simpa using y.io
 have q:SH w0 w (Fact P::(A++R)):=h.perm List.perm_middle
 exact ⟨q.known,q.tail⟩
theorem SH.kH {A:List ao} {P:Prop} (q:SH w0 w (A++R)) (h:P):SH w0 w (bi (A++[Fact P])::R):=by
 have h1:SH w0 w (Fact P::(A++R)):=q.fact h
 have y:SH w0 w ((A++[Fact P])++R):=by simpa using h1.perm (List.perm_middle (l₁:=A) (l₂:=R) (a:=Fact P)).symm
 exact SH.star y
end
end Go.Den
namespace Go.Proofs.YtlhpilgmeededaaGreatDoor
open Go Go.Den
set_option maxHeartbeats 4000000
set_option maxRecDepth 8000
section
structure Bf where
 o:Int
 v:Value
 bs:List Nat
def dv (l:List Bf):List Value:=l.flatMap fun x=>[C5 x.o,x.v]
def iB (l:List Bf):List (Value × List Nat):=l.map fun x=>(x.v,x.bs)
structure gA where
 g:Nat
 l:List Bf
structure lC (s:gA):Prop where
 len:s.l.length≤1024
 own: ∀ x∈s.l,0≤x.o∧x.o≤255∧x.bs.length≤1514
def Po (p:Nat) (s:gA):ao:=bi ([Cl p 181 [.slice (some ⟨s.g,0,none⟩) s.l.length s.l.length],Cl s.g 236 (dv s.l),bj (iB s.l)]++[Fact (lC s)])
def eS:Bf:=⟨0,sN,[]⟩
theorem vi (l:List Bf):(dv l).length=l.length*2:=by
 induction l with
 | nil=>rfl
 | cons B r ih=>simp only [dv,List.flatMap_cons,List.length_append,List.length_cons,List.length_nil] at ih ⊢;omega
theorem oF: ∀ (l:List Bf) (i:Nat) (B:Bf),l[i]?=some B→(dv l)[i*2]?=some (C5 B.o)∧(dv l)[i*2+1]?=some B.v
 | [],i,B,h=>by simp at h
 | C::r,0,B,h=>by simp at h;subst h;exact ⟨rfl,rfl⟩
 | C::r,i+1,B,h=>by
  have:=oF r i B (by simpa using h)
  have e:(i+1)*2=i*2+1+1:=by omega
  have f:dv (C::r)=C5 C.o::C.v::dv r:=rfl
  rw [e,f]
  simpa using this
theorem qX: ∀ (l:List Bf) (i:Nat) (B:Bf),i<l.length→bG (dv l) (i*2) [C5 B.o,B.v]=dv (l.set i B)
 | [],i,B,h=>by simp at h
 | C::r,0,B,h=>rfl
 | C::r,i+1,B,h=>by
  have ih:=qX r i B (by simpa using h)
  have e:(i+1)*2=i*2+1+1:=by omega
  have f:dv (C::r)=C5 C.o::C.v::dv r:=rfl
  rw [e,f]
  simp only [bG,List.set_cons_succ] at ih ⊢
  rw [ih]
  rfl
section
variable {w0 w:World} {L R R2:List ao} {K:Value→World→Prop} {p:Nat} {s:gA} {v:Value} {bs:List Nat}
theorem SH.po (y:SH w0 w L) (p:Nat) {s:gA} [q:aC (Po p) L s R]:lC s∧SH w0 w (Cl p 181 [.slice (some ⟨s.g,0,none⟩) s.l.length s.l.length]::Cl s.g 236 (dv s.l)::bj (iB s.l)::R):=(y.at (Po p)).kG
theorem SH.fA {p:Nat} {s:gA} (q:SH w0 w (Cl p 181 [.slice (some ⟨s.g,0,none⟩) s.l.length s.l.length]::Cl s.g 236 (dv s.l)::bj (iB s.l)::R)) (h:lC s):SH w0 w (Po p s::R):=SH.kH q h
theorem SH.An {g i:Nat} {l:List Bf} {B:Bf} (y:SH w0 w L) [q:aR L g 236 (dv l) R] (h:l[i]?=some B):cE w ((⟨g,0,none⟩:Addr).add (i*2)) 0 2=some [C5 B.o,B.v]:=by
 have e:=oF l i B h
 have h1:=y.ld (b:=g) (i:=i*2) e.1
 have H:=y.ld (b:=g) (i:=i*2+1) e.2
 simp only [cE]
 rw [add_plain,Nat.zero_add,add_plain,Nat.add_zero,h1,add_plain,H]
theorem SH.vj {g i:Nat} {l:List Bf} {B:Bf} (y:SH w0 w L) [q:aR L g 236 (dv l) R] (h:l[i]?=some B):w.cell? (((⟨g,0,none⟩:Addr).add (i*2)).add 0)=some (C5 B.o):=by
 rw [add_plain,Nat.zero_add,add_plain,Nat.add_zero]
 exact y.ld (b:=g) (i:=i*2) (oF l i B h).1
theorem SH.Ao {g i:Nat} {l:List Bf} {B:Bf} (y:SH w0 w L) [q:aR L g 236 (dv l) R] (h:l[i]?=some B):w.cell? (((⟨g,0,none⟩:Addr).add (i*2)).add 1)=some B.v:=by
 rw [add_plain,Nat.zero_add,add_plain]
 exact y.ld (b:=g) (i:=i*2+1) (oF l i B h).2
theorem Ap (n:Nat):rows n [C5 0,sN]=dv (List.replicate n eS):=by
 induction n with
 | zero=>rfl
 | succ n ih=>
  rw [List.replicate_succ]
  show rows (n+1) _=C5 0::sN::dv (List.replicate n eS)
  rw [←ih]
  rfl
theorem SH.Aq (n:Nat) (H:SH w0 w L):SH w0 w (bj (iB (List.replicate n eS))::L):=
 ((SH.cH H.kF).jN).nh fun _ y=>by
  simp only [iB,List.map_replicate,List.mem_replicate] at y
  rw [y.2];exact .head _
theorem vl (g j:Nat):(⟨g,j*2,none⟩:Addr)=(⟨g,0,none⟩:Addr).add (j*2):=by rw [add_plain,Nat.zero_add]
theorem lC.set {s:gA} (h:lC s) {j:Nat} {B:Bf} (q:0≤B.o∧B.o≤255∧B.bs.length≤1514):lC { s with l:=s.l.set j B } :=
 ⟨by show (s.l.set j B).length≤1024;rw [List.length_set];exact h.len,fun x y=>by
  rcases List.mem_or_eq_of_mem_set y with h1 | rfl
  ·exact h.own x h1
  ·exact q⟩
theorem SH.vm {l:List Bf} {B:Bf} (j:Nat) (y:SH w0 w (By B.v B.bs::bj (iB l)::L)):SH w0 w (bj (iB (l.set j B))::L):=
 y.jN.nh fun _ H=>by
  obtain ⟨x,J,rfl⟩:=List.mem_map.1 H
  rcases List.mem_or_eq_of_mem_set J with h1 | rfl
  ·exact .tail _ (List.mem_map.2 ⟨x,h1,rfl⟩)
  ·exact .head _
theorem fk144:fG Tryz.prog 144=true:=by kernel_rfl
attribute [local irreducible] ay aQ aH aY a6 aW aK aV num be over nb rowOf
theorem c142 {o:Int} (y:SH w0 w L) (k1:0<o∧o≤255→ ∀ q,SH w0 q L→K (.bool true) q) (k2: ¬ (0<o∧o≤255)→ ∀ q,SH w0 q L→K (.bool false) q):D 142 [C5 o] w K:=by
 refine s142 rfl<|ac<|ac<|ap (fun H=>?_) (fun H=>?_)
 ·refine ap (fun J=>?_) (fun J=>?_)
  ·refine pa 2 rfl<|ah<|k1 (by omega) _ y.ae
  ·refine pa 2 rfl<|ah<|k2 (by omega) _ y.ae
 ·refine pa 5 rfl<|ah<|k2 (by omega) _ y.ae
theorem c144 {o:Int} (q:SH w0 w L) (k1:o=0→ ∀ y,SH w0 y L→K (.bool true) y) (k2:o≠0→ ∀ y,SH w0 y L→K (.bool false) y):D 144 [.agg #[C5 o,v]] w K:=by
 refine s144 rfl<|ac<|q.az [C5 o,v] fun H _ q=>ac<|q.C9 (b:=H) rfl<|ap (fun J=>?_) (fun J=>?_)
 ·refine ah<|k1 ‹_› _ q.ae
 ·refine ah<|k2 ‹_› _ q.ae
theorem c143 {g:Nat} {l:List Bf} (y:SH w0 w L) [q:aR L g 236 (dv l) R] (hlen:l.length≤1024)
  (k1: ∀ (i:Nat) B H,l[i]?=some B∧B.o=0→SH w0 H L→K (C5 i) H) (k2:(∀ x∈l,x.o≠0)→ ∀ H,SH w0 H L→K (C5 (-1)) H):D 143 [.slice (some ⟨g,0,none⟩) l.length l.length,.func (.func 144) #[] #[]] w K:=by
 refine s143 rfl<|ac<|av<|ac<|aM ?_
 refine bU (4::5::List.range' 8 11) rfl [0,1,4,6,7,8] (fun (i:Nat)=>[.slice (some ⟨g,0,none⟩) l.length l.length,.func (.func 144) #[] #[],C5 0,.slice (some ⟨g,0,none⟩) l.length l.length,C5 l.length,C5 i]) (fun i H=>(i≤l.length∧ ∀ j B,j<i→l[j]?=some B→B.o≠0)∧SH w0 H L) (fun i=>l.length - i) 0 rfl ⟨⟨Nat.zero_le _,fun j B h=>absurd h (Nat.not_lt_zero _)⟩,y⟩ ?_
 rintro g' i w6 ⟨⟨hi,hn⟩,y⟩
 refine aE [0,1,4,6,7,8] [.slice (some ⟨g,0,none⟩) l.length l.length,.func (.func 144) #[] #[],C5 0,.slice (some ⟨g,0,none⟩) l.length l.length,C5 l.length,C5 i] rfl fun _=>ac<|ap (fun h_9=>?_) (fun h_9=>?_)
 ·have hil:i<l.length:=by omega
  have hB:l[i]?=some l[i]:=List.getElem?_eq_getElem hil
  generalize l[i]=B at hB
  refine av<|ai<|ak<|aG<|ac<|ac ⟨by omega,_,rfl,⟨_,SH.An y hB,⟨fk144,c144 y (fun J Y y=>?_) (fun J Y y=>?_)⟩⟩⟩
  ·exact Dt [0,1,4,5,6,7,8,16] [.slice (some ⟨g,0,none⟩) l.length l.length,Value.func (Fn.func 144) #[] #[],C5 0,C5 i,.slice (some ⟨g,0,none⟩) l.length l.length,C5 l.length,C5 i,.bool true] fun g=>ai<|ac<|ah<|k1 i B _ ⟨hB,by assumption⟩ y
  ·exact Dt [0,1,4,5,6,7,8,16] [.slice (some ⟨g,0,none⟩) l.length l.length,Value.func (Fn.func 144) #[] #[],C5 0,C5 i,.slice (some ⟨g,0,none⟩) l.length l.length,C5 l.length,C5 i,.bool false] fun g=>ai<|ak<|au<|Db ⟨i+1,rfl,⟨⟨by omega,fun j C hj hC=>by rcases Nat.lt_succ_iff_lt_or_eq.1 hj with h | rfl;exact hn j C h hC;rw [hB] at hC;cases hC;assumption⟩,y⟩,by show l.length - (i+1)<l.length - i;omega⟩
 ·exact av<|ai<|aS<|ac<|ah<|k2 (fun x hx=>by obtain ⟨j,hj⟩:=List.getElem?_of_mem hx;exact hn j x (by have:=(List.getElem?_eq_some_iff.1 hj).1;omega) hj) _ y
theorem c44 {m:Int} (y:SH w0 w L) (k1:1≤m∧m≤1024→ ∀ p s H,s.l=List.replicate m.toNat eS→SH w0 H (Po p s::L)→K (.tuple #[pt p,C5 0]) H) (k2: ¬ (1≤m∧m≤1024)→ ∀ H,SH w0 H L→K (.tuple #[.pointer none,C5 11]) H):D 44 [C5 m] w K:=by
 refine s44 rfl<|ac<|aq<|ap (fun Y=>?_) (fun Y=>?_)
 ·refine pa 4 rfl<|ac<|ah<|k2 (by omega) _ y.ae
 ·refine ap (fun h_8=>?_) (fun h_8=>?_)
  ·refine ac<|ah<|k2 (by omega) _ y.ae
  ·refine ak<|ac ?_
   obtain ⟨n,rfl⟩: ∃ n:Nat,m=n:=⟨m.toNat,by omega⟩
   refine ⟨n,n,⟨rfl,rfl,Nat.le_refl _,by omega,by omega⟩,?_⟩
   rw [Ap]
   refine y.an fun q _ y=>⟨rfl,[.slice (some ⟨q,0,none⟩) n n],rfl,y.az [.slice (some ⟨q,0,none⟩) n n] fun J _ y=>ah ?_⟩
   have hl:(List.replicate n eS).length=n:=List.length_replicate
   have h1:=SH.Aq n y
   refine k1 (by omega) J ⟨q,List.replicate n eS⟩ _ rfl (SH.fA (s:=⟨q,List.replicate n eS⟩) ?_ ⟨by show (List.replicate n eS).length≤1024;omega,fun _ hx=>by rw [List.eq_of_mem_replicate hx];decide⟩)
   rw [show (gA.mk q (List.replicate n eS)).l.length=n from hl]
   exact h1.ae
theorem c120 {i o:Int} (y:SH w0 w L) [q:aC (Po p) L s R]
  (k1: ∀ (j:Nat) B J,i=j→s.l[j]?=some B→SH w0 J (Po p s::R)→K (.tuple #[.pointer (some ⟨s.g,j*2,none⟩),C5 0]) J) (k2: ∀ (e:Int) J,e≠0→SH w0 J (Po p s::R)→K (.tuple #[.pointer none,C5 e]) J):D 120 [pt p,C5 i,C5 o] w K:=by
 obtain ⟨H,y⟩:=SH.po y p
 have hlen:=H.len
 refine s120 rfl<|ac<|aG<|ac<|c142 y (fun Y w_10 y=>?_) (fun Y w_10 y=>?_)
 ·refine Dj<|ai<|ac<|ap (fun h_14=>?_) (fun h_14=>?_)
  ·exact pa 10 rfl<|ai<|ac<|ah<|k2 _ _ (by decide) (SH.fA y.ae H)
  ·refine y.C9 (b:=p) rfl<|ap (fun h_22=>?_) (fun h_22=>?_)
   ·exact pa 2 rfl<|ai<|ac<|ah<|k2 _ _ (by decide) (SH.fA y.ae H)
   ·refine pa 2 rfl<|ai<|ac<|y.C9 (b:=p) rfl ⟨by omega,_,rfl,?_⟩
    obtain ⟨j,rfl⟩: ∃ j:Nat,i=j:=⟨i.toNat,by omega⟩
    have hB:s.l[j]?=some s.l[j]:=List.getElem?_eq_getElem (by omega)
    generalize s.l[j]=B at hB
    refine ⟨_,SH.vj y hB,ap (fun h_34=>?_) (fun h_34=>?_)⟩
    ·exact ai<|ac<|ah<|k2 _ _ (by decide) (SH.fA y.ae H)
    ·exact ai<|ak<|ac<|y.C9 (b:=p) rfl ⟨by omega,_,rfl,ah (vl s.g j▸k1 j B _ rfl hB (SH.fA y.ae H))⟩
 ·exact Dj<|ai<|ac<|ah<|k2 _ _ (by decide) (SH.fA y.ae H)
theorem c156 {i:Int} (y:SH w0 w L) [q:aC (Po p) L s R]
  (k1: ∀ (j:Nat) B H,i=j→s.l[j]?=some B→SH w0 H (Po p s::R)→K (C5 B.o) H) (k2: ∀ H,SH w0 H (Po p s::R)→K (C5 (-1)) H):D 156 [pt p,C5 i] w K:=by
 obtain ⟨Y,y⟩:=SH.po y p
 have hlen:=Y.len
 refine s156 rfl<|ac<|aq<|ap (fun h_6=>?_) (fun h_6=>?_)
 ·exact pa 9 rfl<|ac<|ah<|k2 _ (SH.fA y.ae Y)
 ·refine y.C9 (b:=p) rfl<|ap (fun J=>?_) (fun J=>?_)
  ·exact ac<|ah<|k2 _ (SH.fA y.ae Y)
  ·refine ak<|ac<|y.C9 (b:=p) rfl ⟨by omega,_,rfl,?_⟩
   obtain ⟨j,rfl⟩: ∃ j:Nat,i=j:=⟨i.toNat,by omega⟩
   have hB:s.l[j]?=some s.l[j]:=List.getElem?_eq_getElem (by omega)
   generalize s.l[j]=B at hB
   exact ⟨_,SH.vj y hB,ah (k1 j B _ rfl hB (SH.fA y.ae Y))⟩
theorem c70 {i o:Int} (H:SH w0 w L) [q:aC (Po p) L s R] (k: ∀ s' e w',SH w0 w' (Po p s'::R)→K (C5 e) w'):D 70 [pt p,C5 i,C5 o] w K:=by
 refine s70 rfl<|ac<|ac<|c120 H (fun y B_13 w_13 _ Y H=>?_) (fun _ w_13 _ H=>?_)
 ·refine aq<|Di<|au ⟨rfl,[C5 0,sN],rfl,?_⟩
  obtain ⟨hs,H⟩:=SH.po H p
  have hj:=(List.getElem?_eq_some_iff.1 Y).1
  refine H.aN (b:=s.g) [C5 0,sN] (dv (s.l.set y eS)) (he:=qX _ _ eS hj) (hl:=Nat.ble_eq_true_of_le (by rw [vi];simp;omega)) fun J H=>?_
  have h1:SH w0 J (By (sN) []::bj (iB s.l)::Cl p 181 [.slice (some ⟨s.g,0,none⟩) s.l.length s.l.length]::Cl s.g 236 (dv (s.l.set y eS))::R):=(SH.cH H).ae
  have h2:=SH.vm (B:=eS) y h1
  have H:SH w0 J (Po p { s with l:=s.l.set y eS } ::R):=SH.fA (s:= { s with l:=s.l.set y eS }) (by rw [show (gA.mk s.g (s.l.set y eS)).l.length=s.l.length from List.length_set];exact h2.ae) (hs.set (by decide))
  exact ac<|ah<|k _ _ _ H
 ·exact aq<|Df<|ak<|ac<|ah<|k s _ _ H
theorem c108 {i:Int} (y:SH w0 w L) [q:aC (Po p) L s R] (k: ∀ bs a c b w',bs.length≤1514→SH w0 w' (By (sl a c bs) bs::Po p s::R)→K (.tuple #[sl a c bs,.bool b]) w'):D 108 [pt p,C5 i] w K:=by
 refine s108 rfl<|ac<|aq<|c156 y (fun _ B_8 w_8 J H y=>?_) (fun w_8 y=>?_)
 ·refine ap (fun h_9=>?_) (fun h_9=>?_)
  ·exact ac<|ah<|k [] none 0 false _ (by decide) (SH.cH y)
  ·refine ak<|ac ?_
   obtain ⟨hs,y⟩:=SH.po y p
   refine y.C9 (b:=p) rfl ?_
   have hj:=(List.getElem?_eq_some_iff.1 H).1
   have hB:=hs.own B_8 (List.mem_of_getElem? H)
   have hm:(B_8.v,B_8.bs)∈iB s.l:=List.mem_map.2 ⟨B_8,List.mem_of_getElem? H,rfl⟩
   refine ⟨⟨by omega,by omega⟩,_,rfl,?_⟩
   subst J
   refine ⟨_,SH.Ao y H,?_⟩
   have y:=y.vh hm
   generalize hbv:B_8.v=bv at y ⊢
   refine c34 (v:=bv) y (fun Y c_18 _ _ y=>ah ?_)
   have h2:=SH.fA (p:=p) (s:=s) (R:=By (sl Y c_18 B_8.bs) B_8.bs::R) y.ae hs
   exact k _ _ _ true _ hB.2.2 h2.ae
 ·exact Di<|ac<|ah<|k [] none 0 false _ (by decide) (SH.cH y)
theorem c102 {o:Int} (Y:SH w0 w L) [q:aC (Po p) L s R] [hb:aD R v bs] (hlen:bs.length≤100000)
  (k1:(0<o∧o≤255)∧bs.length≤1514→ ∀ (j:Int) s' w',SH w0 w' (Po p s'::R)→K (.tuple #[C5 j,C5 0]) w')
  (k2: ¬ ((0<o∧o≤255)∧bs.length≤1514)→ ∀ w',SH w0 w' (Po p s::R)→K (.tuple #[C5 (-1),C5 11]) w')
  (k3:(∀ x∈s.l,x.o≠0)→ ∀ w',SH w0 w' (Po p s::R)→K (.tuple #[C5 (-1),C5 18]) w'):D 102 [pt p,C5 o,v] w K:=by
 obtain ⟨hs,Y⟩:=SH.po Y p
 have hlen:=hs.len
 obtain ⟨ad,c,rfl,hcap,hB1,hl0⟩:=Y.enter (v:=v)
 refine s102 rfl<|ac<|aq<|c142 Y (fun h_10 w_10 Y=>?_) (fun h_10 w_10 Y=>?_)
 ·refine Dj<|ap (fun h_15=>?_) (fun h_15=>?_)
  ·exact ac<|ah<|k2 (by omega) _ (SH.fA Y.ae hs)
  ·refine ak<|ac<|Y.C9 (b:=p) rfl<|c143 Y ‹_› (fun J B_21 w_21 h_213 Y=>?_) (fun _ w_21 Y=>?_)
   ·refine aq<|Df<|ak<|aJ<|have Y:=Y.drew;Y.C9 (b:=p) rfl<|c34 (v:=sl ad c bs) Y (fun y H _ _ Y=>⟨⟨Y.ld (b:=p) rfl,trivial⟩,⟨rfl,[C5 o,sl y H bs],rfl,?_⟩⟩)
    have hj:=(List.getElem?_eq_some_iff.1 h_213.1).1
    refine ⟨⟨by omega,by omega⟩,⟨s.g,J*2,none⟩,(vl s.g J).symm,Y.aN (b:=s.g) [C5 o,sl y H bs] (dv (s.l.set J ⟨o,sl y H bs,bs⟩)) (he:=qX _ _ ⟨o,sl y H bs,bs⟩ hj) (hl:=Nat.ble_eq_true_of_le (by rw [vi];simp;omega)) fun w_20 Y=>?_⟩
    have h1:SH w0 w_20 (By (sl y H bs) bs::bj (iB s.l)::Cl p 181 [.slice (some ⟨s.g,0,none⟩) s.l.length s.l.length]::Cl s.g 236 (dv (s.l.set J ⟨o,sl y H bs,bs⟩))::R):=Y.ae
    have h2:=SH.vm (B:=⟨o,sl y H bs,bs⟩) J h1
    have Y:SH w0 w_20 (Po p { s with l:=s.l.set J ⟨o,sl y H bs,bs⟩ } ::R):=SH.fA (s:= { s with l:=s.l.set J ⟨o,sl y H bs,bs⟩ }) (by rw [show (gA.mk s.g (s.l.set J ⟨o,sl y H bs,bs⟩)).l.length=s.l.length from List.length_set];exact h2.ae) (hs.set ⟨by show 0≤o;omega,by show o≤255;omega,by show bs.length≤1514;omega⟩)
    exact ac<|ah<|k1 ⟨⟨by omega,by omega⟩,by omega⟩ _ _ _ Y
   ·exact aq<|Di<|ac<|ah<|k3 ‹_› _ (SH.fA Y.ae hs)
 ·exact Dj<|pa 5 rfl<|ac<|ah<|k2 (by omega) _ (SH.fA Y.ae hs)
end
end
section
structure jg where
 pv:Option Addr
 o:Int
 g:Nat
 zs:List Int
 f:Nat
 m:Nat
 d:Int
structure kI (s:jg):Prop where
 len:1≤s.zs.length∧s.zs.length≤256
 own:1≤s.o∧s.o≤255
 fst:s.f<s.zs.length
 many:s.m≤s.zs.length
abbrev gB (s:jg):List Value:=[.pointer s.pv,C5 s.o,.slice (some ⟨s.g,0,none⟩) s.zs.length s.zs.length,C5 s.f,C5 s.m,C5 s.d]
def Ri (p:Nat) (s:jg):ao:=bi ([Cl p 194 (gB s),Cl s.g 3 (ints s.zs)]++[Fact (kI s)])
section
variable {w0 w:World} {L R R2 R3 R4:List ao} {K:Value→World→Prop} {p r:Nat} {s:jg} {ps:gA} {v:Value} {bs:List Nat}
theorem SH.ri (y:SH w0 w L) (p:Nat) {s:jg} [q:aC (Ri p) L s R]:kI s∧SH w0 w (Cl p 194 (gB s)::Cl s.g 3 (ints s.zs)::R):=(y.at (Ri p)).kG
theorem SH.iC {p:Nat} {s:jg} (q:SH w0 w (Cl p 194 (gB s)::Cl s.g 3 (ints s.zs)::R)) (h:kI s):SH w0 w (Ri p s::R):=SH.kH q h
theorem Ar (g j:Nat):(⟨g,j,none⟩:Addr)=(⟨g,0,none⟩:Addr).add (j*1):=by rw [add_plain,Nat.zero_add,Nat.mul_one]
theorem ints_set (zs:List Int) (j:Nat) (z:Int):bG (ints zs) j [C5 z]=ints (zs.set j z):=by
 show (ints zs).set j (C5 z)=ints (zs.set j z)
 simp [ints,List.map_set]
theorem As (n:Nat):rows n [C5 0]=ints (List.replicate n 0):=by
 simp [rows,ints]
theorem fk155:fG Tryz.prog 155=true:=by kernel_rfl
attribute [local irreducible] ay aQ aH aY a6 aW aK aV num be over nb rowOf
theorem c47 {a:Option Addr} {n o:Int} (y:SH w0 w L) (k1:(1≤n∧n≤256)∧1≤o∧o≤255→ ∀ p s H,s.pv=a∧s.m=0→SH w0 H (Ri p s::L)→K (.tuple #[pt p,C5 0]) H) (k2: ¬ ((1≤n∧n≤256)∧1≤o∧o≤255)→ ∀ H,SH w0 H L→K (.tuple #[.pointer none,C5 11]) H):D 47 [.pointer a,C5 n,C5 o] w K:=by
 by_cases hn:1≤n∧n≤256
 ·obtain ⟨n,rfl⟩: ∃ m:Nat,n=m:=⟨n.toNat,by omega⟩
  have hl:(List.replicate n (0:Int)).length=n:=List.length_replicate
  refine s47 rfl<|ac<|aq<|Df<|Df<|pa 3 rfl<|ap (fun J=>?_) (fun J=>?_)
  ·refine pa 5 rfl<|ac<|ah<|k2 (by omega) _ y.ae
  ·refine pa 3 rfl<|ap (fun Y=>?_) (fun Y=>?_)
   ·refine ac<|ah<|k2 (by omega) _ y.ae
   ·refine ak<|ac ⟨n,n,⟨rfl,rfl,Nat.le_refl _,by omega,by omega⟩,?_⟩
    rw [As]
    exact y.an fun q _ y=>⟨by kernel_rfl,[.pointer a,C5 o,.slice (some ⟨q,0,none⟩) n n,C5 0,C5 0,C5 0],by kernel_rfl,y.az [.pointer a,C5 o,.slice (some ⟨q,0,none⟩) n n,C5 0,C5 0,C5 0] fun _ _ y=>ah (k1 ⟨⟨by omega,by omega⟩,by omega,by omega⟩ _ ⟨a,o,q,List.replicate n 0,0,0,0⟩ _ ⟨rfl,rfl⟩ (SH.iC (s:=⟨a,o,q,List.replicate n 0,0,0,0⟩) (by simp only [gB,hl];exact y) ⟨⟨by simp only [hl];omega,by simp only [hl];omega⟩,⟨by show 1≤o;omega,by show o≤255;omega⟩,by simp only [hl];omega,Nat.zero_le _⟩))⟩
 ·refine s47 rfl<|ac<|aq<|ap (fun h_9=>?_) (fun h_9=>?_)
  ·refine pa 12 rfl<|ac<|ah<|k2 (by omega) _ y.ae
  ·refine Dg<|pa 9 rfl<|ac<|ah<|k2 (by omega) _ y.ae
theorem c105 (y:SH w0 w L) [q:aC (Ri r) L s R] (k: ∀ H,SH w0 H (Ri r s::R)→K (C5 s.m) H):D 105 [pt r] w K:=by
 obtain ⟨J,y⟩:=SH.ri y r
 exact s105 rfl<|ac<|ac<|y.C9 (b:=r) rfl<|ah<|k _ (SH.iC y.ae J)
theorem c106 (y:SH w0 w L) [q:aC (Ri r) L s R] (k: ∀ H,SH w0 H (Ri r s::R)→K (C5 s.zs.length) H):D 106 [pt r] w K:=by
 obtain ⟨J,y⟩:=SH.ri y r
 exact s106 rfl<|ac<|ac<|y.C9 (b:=r) rfl<|ah<|k _ (SH.iC y.ae J)
theorem c129 {j:Nat} (hj:j≤256) (y:SH w0 w L) [q:aC (Ri r) L s R] (k: ∀ H,SH w0 H (Ri r s::R)→K (.pointer (some ⟨s.g,(s.f+j) % s.zs.length,none⟩)) H):D 129 [pt r,C5 j] w K:=by
 obtain ⟨J,y⟩:=SH.ri y r
 obtain ⟨h1,Y,h3,h4⟩:=J
 refine s129 rfl<|ac<|aJ<|have y:=y.drew;y.C9 (b:=r) rfl<|y.C9 (b:=r) rfl<|Db<|y.C9 (b:=r) rfl ⟨by omega,_,Int.tmod_eq_emod_of_nonneg (by omega),?_⟩
 have e:((s.f:Int)+j) % (s.zs.length:Int)=(((s.f+j) % s.zs.length:Nat):Int):=by rw [Int.natCast_emod,Int.natCast_add]
 have hlt:=Nat.mod_lt (s.f+j) (by omega:s.zs.length>0)
 exact ⟨⟨by rw [e];omega,by rw [e];omega⟩,⟨s.g,(s.f+j) % s.zs.length,none⟩,by rw [e];exact (Ar s.g _).symm,ah (k _ (SH.iC y.ae ⟨h1,Y,h3,h4⟩))⟩
theorem c155 {y H p:Nat} (q:SH w0 w L) [q2:aC (Po p) L ps R] [q3:aC (Ri r) R s R2] [q4:aR R2 y 83 [pt r] R3] [q5:aR R3 H 44 [v] R4] [hb:aD R4 v bs] (hlen:bs.length≤100000) (hp:s.pv=some ⟨p,0,none⟩)
  (k: ∀ ps' (j e:Int) w',SH w0 w' (Po p ps'::Ri r s::Cl y 83 [pt r]::Cl H 44 [v]::R4)→K (.tuple #[C5 j,C5 e]) w'):D 155 [pt y,pt H] w K:=by
 have q:SH w0 w (Po p ps::Ri r s::Cl y 83 [pt r]::Cl H 44 [v]::R4):=(((q.perm q2.perm).perm (q3.perm.cons _)).perm ((q4.perm.cons _).cons _)).perm (((q5.perm.cons _).cons _).cons _)
 obtain ⟨ad,c,rfl,hcap,hB1,hl0⟩:=q.enter (v:=v)
 have q:SH w0 w (Ri r s::Po p ps::Cl y 83 [pt r]::Cl H 44 [sl ad c bs]::R4):=q.ae
 obtain ⟨hs,q⟩:=SH.ri q r
 have hcs:gB s=[pt p,C5 s.o,.slice (some ⟨s.g,0,none⟩) s.zs.length s.zs.length,C5 s.f,C5 s.m,C5 s.d]:=by simp only [gB];rw [hp]
 have fin: ∀ ps' w',SH w0 w' (Cl r 194 [pt p,C5 s.o,.slice (some ⟨s.g,0,none⟩) s.zs.length s.zs.length,C5 s.f,C5 s.m,C5 s.d]::Cl s.g 3 (ints s.zs)::Po p ps'::Cl y 83 [pt r]::Cl H 44 [sl ad c bs]::R4)→SH w0 w' (Po p ps'::Ri r s::Cl y 83 [pt r]::Cl H 44 [sl ad c bs]::R4):=fun ps' w' h=>by
  rw [←hcs] at h
  exact (SH.iC h hs).ae
 rw [hcs] at q
 refine s155 rfl<|ac<|aJ<|have q:=q.drew;q.C9 (b:=y) rfl<|q.C9 (b:=r) rfl<|q.C9 (b:=y) rfl<|q.C9 (b:=r) rfl<|q.C9 (b:=H) rfl<|c102 (v:=sl ad c bs) q ‹_› (fun h_13 _ J Y q=>?_) (fun h_13 Y q=>?_) (fun _ Y q=>?_)
 ·exact ⟨⟨q.ld (b:=H) rfl,⟨q.ld (b:=r) rfl,⟨q.ld (b:=y) rfl,⟨q.ld (b:=r) rfl,⟨q.ld (b:=y) rfl,trivial⟩⟩⟩⟩⟩,ah (k J _ _ _ (fin J _ q.ae))⟩
 ·exact ⟨⟨q.ld (b:=H) rfl,⟨q.ld (b:=r) rfl,⟨q.ld (b:=y) rfl,⟨q.ld (b:=r) rfl,⟨q.ld (b:=y) rfl,trivial⟩⟩⟩⟩⟩,ah (k ps _ _ _ (fin ps _ q.ae))⟩
 ·exact ⟨⟨q.ld (b:=H) rfl,⟨q.ld (b:=r) rfl,⟨q.ld (b:=y) rfl,⟨q.ld (b:=r) rfl,⟨q.ld (b:=y) rfl,trivial⟩⟩⟩⟩⟩,ah (k ps _ _ _ (fin ps _ q.ae))⟩
theorem kI.push {s:jg} (h:kI s) (hm:s.m<s.zs.length) (j:Nat) (z:Int):kI { s with zs:=s.zs.set j z,m:=s.m+1 } :=by
 obtain ⟨h1,q,y,h4⟩:=h
 exact ⟨by simp only [List.length_set];exact h1,q,by simp only [List.length_set];exact y,by simp only [List.length_set];omega⟩
theorem c154 {Y J p:Nat} (q:SH w0 w L) [q2:aC (Po p) L ps R] [q3:aC (Ri r) R s R2] [q4:aR R2 Y 83 [pt r] R3] [q5:aR R3 J 44 [v] R4] [hb:aD R4 v bs] (hlen:bs.length≤100000) (hp:s.pv=some ⟨p,0,none⟩)
  (k: ∀ ps' s' (e:Int) w',s'.pv=s.pv→SH w0 w' (Po p ps'::Ri r s'::Cl Y 83 [pt r]::Cl J 44 [v]::R4)→K (C5 e) w'):D 154 [pt r,.func (.func 155) #[] #[pt Y,pt J]] w K:=by
 have q:SH w0 w (Po p ps::Ri r s::Cl Y 83 [pt r]::Cl J 44 [v]::R4):=(((q.perm q2.perm).perm (q3.perm.cons _)).perm ((q4.perm.cons _).cons _)).perm (((q5.perm.cons _).cons _).cons _)
 obtain ⟨ad,c,rfl,hcap,hB1,hl0⟩:=q.enter (v:=v)
 have fin: ∀ ps' s' w',kI s'→SH w0 w' (Cl r 194 (gB s')::Cl s'.g 3 (ints s'.zs)::Po p ps'::Cl Y 83 [pt r]::Cl J 44 [sl ad c bs]::R4)→SH w0 w' (Po p ps'::Ri r s'::Cl Y 83 [pt r]::Cl J 44 [sl ad c bs]::R4):=fun ps' s' w' H h=>(SH.iC h H).ae
 have q:SH w0 w (Ri r s::Po p ps::Cl Y 83 [pt r]::Cl J 44 [sl ad c bs]::R4):=q.ae
 obtain ⟨H,q⟩:=SH.ri q r
 refine s154 rfl<|ac<|ac<|fV<|have q:=q.drew;q.C9 (b:=r) rfl<|q.C9 (b:=r) rfl<|ap (fun h_16=>?_) (fun h_16=>?_)
 ·refine ac<|ac ⟨fk155,?_⟩
  have q:SH _ _ (Po p ps::Ri r s::Cl Y 83 [pt r]::Cl J 44 [sl ad c bs]::R4):=fin ps s _ H q.ae
  refine c155 (L:=Po p ps::Ri r s::Cl Y 83 [pt r]::Cl J 44 [sl ad c bs]::R4) (R:=Ri r s::Cl Y 83 [pt r]::Cl J 44 [sl ad c bs]::R4) (R2:=Cl Y 83 [pt r]::Cl J 44 [sl ad c bs]::R4) (R3:=Cl J 44 [sl ad c bs]::R4) (R4:=R4) (ps:=ps) (p:=p) (s:=s) (v:=sl ad c bs) q hlen hp (fun ps' y _ w_19 q=>?_)
  have q:SH w0 w_19 (Ri r s::Po p ps'::Cl Y 83 [pt r]::Cl J 44 [sl ad c bs]::R4):=q.ae
  obtain ⟨H,q⟩:=SH.ri q r
  refine ac<|ap (fun h_23=>?_) (fun h_23=>?_)
  ·refine ai<|ac<|q.C9 (b:=r) rfl ?_
   have q:SH w0 w_19 (Ri r s::Po p ps'::Cl Y 83 [pt r]::Cl J 44 [sl ad c bs]::R4):=SH.iC q.ae H
   refine c129 (j:=s.m) (s:=s) (by have:=H.4;have:=H.1;omega) q (fun _ q=>?_)
   obtain ⟨H,q⟩:=SH.ri q r
   have hlt:=Nat.mod_lt (s.f+s.m) (by omega:s.zs.length>0)
   refine q.aN (b:=s.g) [C5 y] (ints (s.zs.set ((s.f+s.m) % s.zs.length) y)) (he:=ints_set _ _ _) (hl:=Nat.ble_eq_true_of_le (by rw [lA];simp;omega)) fun _ q=>?_
   have hps:=H.push (by omega) ((s.f+s.m) % s.zs.length) y
   have hll:(s.zs.set ((s.f+s.m) % s.zs.length) y).length=s.zs.length:=List.length_set
   refine ac<|q.C9 (b:=r) rfl<|Dj<|q.aN (b:=r) [C5 (IntKind.i64.wrap (↑s.m+1))] [.pointer s.pv,C5 s.o,.slice (some { block:=s.g,off:=0 }) s.zs.length s.zs.length,C5 s.f,C5 (IntKind.i64.wrap (↑s.m+1)),C5 s.d] fun w_65 q=>ac<|ah ?_
   have h9:SH w0 w_65 (Cl r 194 (gB { s with zs:=s.zs.set ((s.f+s.m) % s.zs.length) y,m:=s.m+1 })::Cl s.g 3 (ints (s.zs.set ((s.f+s.m) % s.zs.length) y))::Po p ps'::Cl Y 83 [pt r]::Cl J 44 [sl ad c bs]::R4):=by
    have hwr:IntKind.i64.wrap ((s.m:Int)+1)=((s.m+1:Nat):Int):=(IntWalk.i64_in _ (by have:=H.4;have:=H.1;omega)).trans (by omega)
    rw [hwr] at q
    simp only [gB,hll]
    exact q.ae
   exact k ps' { s with zs:=s.zs.set ((s.f+s.m) % s.zs.length) y,m:=s.m+1 } _ _ rfl (fin ps' _ _ hps h9)
  ·exact ai<|ak<|ac<|q.C9 (b:=r) rfl<|Dj<|q.aN (b:=r) [C5 (IntKind.i64.wrap (s.d+1))] [.pointer s.pv,C5 s.o,.slice (some { block:=s.g,off:=0 }) s.zs.length s.zs.length,C5 s.f,C5 s.m,C5 (IntKind.i64.wrap (s.d+1))] fun _ q=>ac<|ah<|k ps' { s with d:=IntKind.i64.wrap (s.d+1) } _ _ rfl (fin ps' { s with d:=IntKind.i64.wrap (s.d+1) } _ ⟨H.1,H.2,H.3,H.4⟩ q.ae)
 ·exact ak<|ac<|q.C9 (b:=r) rfl<|Dj<|q.aN (b:=r) [C5 (IntKind.i64.wrap (s.d+1))] [.pointer s.pv,C5 s.o,.slice (some { block:=s.g,off:=0 }) s.zs.length s.zs.length,C5 s.f,C5 s.m,C5 (IntKind.i64.wrap (s.d+1))] fun _ q=>ac<|ah<|k ps { s with d:=IntKind.i64.wrap (s.d+1) } _ _ rfl (fin ps { s with d:=IntKind.i64.wrap (s.d+1) } _ ⟨H.1,H.2,H.3,H.4⟩ q.ae)
theorem c107 {p:Nat} (q:SH w0 w L) [q2:aC (Po p) L ps R] [q3:aC (Ri r) R s R2] [hb:aD R2 v bs] (hlen:bs.length≤100000) (hp:s.pv=some ⟨p,0,none⟩)
  (k: ∀ ps' Y (e:Int) w',Y.pv=s.pv→SH w0 w' (Po p ps'::Ri r Y::R2)→K (C5 e) w'):D 107 [pt r,v] w K:=by
 have q:SH w0 w (Po p ps::Ri r s::R2):=((q.perm q2.perm).perm (q3.perm.cons _))
 obtain ⟨ad,c,rfl,hcap,hB1,hl0⟩:=q.enter (v:=v)
 exact s107 rfl<|ac<|q.az [pt r] fun J _ q=>q.az [sl ad c bs] fun _ _ q=>ac<|q.C9 (b:=J) rfl<|c154 q ‹_› ‹_› (fun y H _ _ _ q=>ah (k y H _ _ ‹_› q.ae))
theorem c75 {p:Nat} (q:SH w0 w L) [q2:aC (Po p) L ps R] [q3:aC (Ri r) R s R2] (hp:s.pv=some ⟨p,0,none⟩)
  (k: ∀ ps' s' (bs:List Nat) a c b w',s'.pv=s.pv→bs.length≤1514→SH w0 w' (Po p ps'::Ri r s'::By (sl a c bs) bs::R2)→K (.tuple #[sl a c bs,.bool b]) w'):D 75 [pt r] w K:=by
 have q:SH w0 w (Po p ps::Ri r s::R2):=((q.perm q2.perm).perm (q3.perm.cons _))
 have q:SH w0 w (Ri r s::Po p ps::R2):=q.ae
 obtain ⟨J,q⟩:=SH.ri q r
 have hcs:gB s=[pt p,C5 s.o,.slice (some ⟨s.g,0,none⟩) s.zs.length s.zs.length,C5 s.f,C5 s.m,C5 s.d]:=by simp only [gB];rw [hp]
 have ho:=J.1
 have ho2:=J.3
 have ho3:=J.4
 refine s75 rfl<|ac<|aq<|q.C9 (b:=r) rfl<|ap (fun h_11=>?_) (fun h_11=>?_)
 ·refine ac<|ah ?_
  have h9:SH w0 w (Ri r s::Po p ps::By (sl none 0 []) []::R2):=SH.iC (SH.cH q).ae J
  exact k ps s [] none 0 false _ rfl (by decide) h9.ae
 ·refine ak<|ac ?_
  have q:SH w0 w (Ri r s::Po p ps::R2):=SH.iC q.ae J
  refine c129 (j:=0) (s:=s) (by omega) q (fun _ q=>?_)
  obtain ⟨J,q⟩:=SH.ri q r
  rw [hcs] at q
  have hlt:=Nat.mod_lt (s.f+0) (by omega:s.zs.length>0)
  refine ⟨_,q.ld (b:=s.g) (ints_at hlt),?_⟩
  generalize s.zs.getD ((s.f+0) % s.zs.length) 0=z
  refine ac<|q.C9 (b:=r) rfl<|c108 q (fun y a_22 c_22 _ _ Y q=>aJ ?_)
  have q:=q.drew
  refine q.C9 (b:=r) rfl<|q.C9 (b:=r) rfl<|c70 q (fun H _ _ q=>aJ ?_)
  have q:=q.drew
  refine q.C9 (b:=r) rfl<|Db<|q.C9 (b:=r) rfl ⟨by omega,_,Int.tmod_eq_emod_of_nonneg (by omega),q.aN (b:=r) [C5 ((↑s.f+1) % ↑s.zs.length)] [pt p,C5 s.o,.slice (some { block:=s.g,off:=0 }) s.zs.length s.zs.length,C5 ((↑s.f+1) % ↑s.zs.length),C5 s.m,C5 s.d] fun _ q=>ac (q.C9 (b:=r) rfl (Db (q.aN (b:=r) [C5 (↑s.m - 1)] [pt p,C5 s.o,.slice (some { block:=s.g,off:=0 }) s.zs.length s.zs.length,C5 ((↑s.f+1) % ↑s.zs.length),C5 (↑s.m - 1),C5 s.d] fun w_52 q=>ac (ah ?_))))⟩
  have e1:((s.f:Int)+1) % (s.zs.length:Int)=(((s.f+1) % s.zs.length:Nat):Int):=by rw [Int.natCast_emod,Int.natCast_add];rfl
  have e2:(s.m:Int) - 1=((s.m - 1:Nat):Int):=by omega
  have hlt2:=Nat.mod_lt (s.f+1) (by omega:s.zs.length>0)
  rw [e1,e2] at q
  have h8:SH w0 w_52 (Ri r { s with f:=(s.f+1) % s.zs.length,m:=s.m - 1 } ::Po p H::By (sl a_22 c_22 y) y::R2):=SH.iC (by
   simp only [gB]
   rw [hp]
   exact q.ae) ⟨J.1,J.2,hlt2,by show s.m - 1≤s.zs.length;omega⟩
  exact k H { s with f:=(s.f+1) % s.zs.length,m:=s.m - 1 } _ _ _ true _ rfl Y h8.ae
end
end
section
structure iD where
 f:Nat
 l:Nat
 bb:Nat
 lb:Nat
 rb:Nat
 B:List (Int × Bool)
 Lo:List (ByteArray × (Int × Bool × Int))
 Re:List (Int × Int)
structure jh (s:iD):Prop where
 ou:s.f≤s.l∧s.l<4294967296∧s.l - s.f<256
 ips: ∀ q∈s.Lo,0≤q.2.1∧q.2.1<4294967296
abbrev lD (s:iD):List Value:=[C3 s.f,C3 s.l,.map (some s.bb),.map (some s.lb),.map (some s.rb)]
def Bo (p:Nat) (s:iD):ao:=bi ([Cl p 242 (lD s),Mt jc s.bb s.B,Mt eu s.lb s.Lo,Mt eM s.rb s.Re]++[Fact (jh s)])
abbrev oG (ip:Int) (firm:Bool) (u:Int):Value:= .agg #[C3 ip,.bool firm,C4 u]
section
variable {w0 w:World} {L R R2 R3:List ao} {K:Value→World→Prop} {p:Nat} {s:iD} {v:Value}
theorem SH.bo (y:SH w0 w L) (p:Nat) {s:iD} [q:aC (Bo p) L s R]:jh s∧SH w0 w (Cl p 242 (lD s)::Mt jc s.bb s.B::Mt eu s.lb s.Lo::Mt eM s.rb s.Re::R):=(y.at (Bo p)).kG
theorem SH.dF {p:Nat} {s:iD} (q:SH w0 w (Cl p 242 (lD s)::Mt jc s.bb s.B::Mt eu s.lb s.Lo::Mt eM s.rb s.Re::R)) (h:jh s):SH w0 w (Bo p s::R):=SH.kH q h
theorem jh.del {s:iD} (h:jh s) (c:ByteArray):jh { s with Lo:=aO s.Lo c } :=⟨h.1,fun q y=>h.2 q ((eK (k':=q.1) (u:=q.2)).1 y).2⟩
theorem jh.put {s:iD} (h:jh s) {c:ByteArray} {ip:Int} {f:Bool} {u:Int} (hi:0≤ip∧ip<4294967296):jh { s with Lo:=aF s.Lo c (ip,f,u) } :=⟨h.1,fun q y=>by
 rcases kD y with e | e
 ·rw [e];exact hi
 ·exact h.2 q e⟩
theorem fk125:fG Tryz.prog 125=true:=by kernel_rfl
theorem fk128:fG Tryz.prog 128=true:=by kernel_rfl
attribute [local irreducible] ay aQ aH aY a6 aW aK aV num be over nb rowOf
theorem c123 {now:Nat} (y:SH w0 w L) (k: ∀ (m:Nat) q,m≤2305843009213693952→SH w0 q L→K (C4 m) q):D 123 [C4 now] w K:=by
 exact s123 rfl<|ac<|ac ⟨_,cq,ah (k _ _ (Nat.min_le_right _ _) y)⟩
theorem c126 {ip u now:Int} {f:Bool} (q:SH w0 w L) (k: ∀ b J,SH w0 J L→K (.bool b) J):D 126 [oG ip f u,C4 now] w K:=by
 refine s126 rfl<|ac<|q.az [C3 ip,.bool f,C4 u] fun y _ q=>ac<|q.C9 (b:=y) rfl<|ap (fun H=>?_) (fun H=>?_)
 ·refine ah<|k _ _ q.ae
 ·refine ah<|k _ _ q.ae
theorem c125 {bx:Nat} {ip u now:Int} {f:Bool} {c:ByteArray} (y:SH w0 w L) [q:aR L bx 29 [C4 now] R] (k: ∀ b J,SH w0 J L→K (.bool b) J):D 125 [.string c,oG ip f u,pt bx] w K:=by
 refine s125 rfl<|ac<|y.az [C3 ip,.bool f,C4 u] fun H _ y=>ac<|y.Da (b:=H) rfl<|y.C9 (b:=bx) rfl<|c126 y (fun _ _ y=>ah (k _ _ y.ae))
theorem c128 {bx:Nat} {ip u now:Int} (y:SH w0 w L) [q:aR L bx 29 [C4 now] R] (k: ∀ b J,SH w0 J L→K (.bool b) J):D 128 [C3 ip,C4 u,pt bx] w K:=by
 refine s128 rfl<|ac<|ac<|y.C9 (b:=bx) rfl<|ap (fun H=>?_) (fun H=>?_)
 ·refine ah<|k _ _ y.ae
 ·refine ah<|k _ _ y.ae
theorem c356 {c:ByteArray} {now:Nat} (hc:c.size≤maxLen) (y:SH w0 w L) [q:aC (Bo p) L s R] (k1: ∀ ip f u w',0≤ip∧ip<4294967296→aB s.Lo c=some (ip,f,u)→SH w0 w' (Bo p s::R)→K (.tuple #[oG ip f u,.bool true]) w')
  (k2: ∀ w',SH w0 w' (Bo p s::R)→K (.tuple #[oG 0 false 0,.bool false]) w'):D 356 [pt p,.string c,.int .u64 now] w K:=by
 obtain ⟨hs,y⟩:=SH.bo y p
 refine s356 rfl<|ac<|y.an fun J _ y=>ac<|y.C9 (b:=p) rfl<|dh rfl rfl rfl (by omega) y (fun Y=>?_) (fun _ Y=>?_)
 ·exact y.an fun H w_8 y=>y.aj (b:=H) fun w_25 y=>fV<|have y:=y.drew;Dj<|ac ⟨rfl,[.int .u32 0,.bool false,.int .u64 0],rfl,y.aj (b:=J) fun _ y=>ah (y.Da (b:=J) rfl (k2 _ (SH.dF y.ae hs)))⟩
 ·refine y.an fun H w_8 y=>y.aj (b:=H) fun _ y=>fV<|have y:=y.drew;Dj<|y.Da (b:=H) rfl<|c123 y (fun _ _ _ y=>⟨⟨⟨_,y.af (b:=H) rfl,rfl⟩,trivial⟩,c126 y (fun b_25 w_25 y=>⟨⟨⟨_,y.af (b:=H) rfl,rfl⟩,trivial⟩,?_⟩)⟩)
  cases b_25
  ·exact ak<|ac<|y.Da (b:=H) rfl<|y.aj (b:=J) fun w_37 y=>ah<|y.Da (b:=J) rfl<|k1 _ _ _ _ (hs.ips _ (cU Y)) Y (SH.dF y.ae hs)
  ·exact ac ⟨rfl,[.int .u32 0,.bool false,.int .u64 0],rfl,y.aj (b:=J) fun w_37 y=>ah (y.Da (b:=J) rfl (k2 _ (SH.dF y.ae hs)))⟩
theorem c382 {ip now:Nat} (hi:ip<4294967296) (y:SH w0 w L) [q:aC (Bo p) L s R] (k: ∀ b w',SH w0 w' (Bo p s::R)→K (.bool b) w'):D 382 [pt p,C3 ip,C4 now] w K:=by
 obtain ⟨hs,y⟩:=SH.bo y p
 refine s382 rfl<|ac<|ac<|c123 y (fun m_10 _ _ y=>pa 1 rfl ?_)
 refine bt (6::List.range' 11 32) rfl [0,1,2,6] (fun (_:Unit)=>[pt p,C3 ip,C4 m_10,.bool false]) (fun _ w'=>SH w0 w' (Cl p 242 (lD s)::Mt jc s.bb s.B::Mt eu s.lb s.Lo::Mt eM s.rb s.Re::R)) ?_ ?_
 ·refine ac<|y.C9 (b:=p) rfl<|ap (fun h_16=>?_) (fun h_16=>?_)
  ·exact pa 26 rfl<|ai<|ac<|ah<|k _ _ (SH.dF y.ae hs)
  ·refine y.C9 (b:=p) rfl<|ap (fun h_23=>?_) (fun h_23=>?_)
   ·exact pa 19 rfl<|ai<|ac<|ah<|k _ _ (SH.dF y.ae hs)
   ·refine pa 3 rfl<|y.C9 (b:=p) rfl<|dh rfl rfl rfl (by omega) y (fun h_31=>?_) (fun v_31 h_31=>?_)
    ·refine pa 3 rfl<|y.C9 (b:=p) rfl<|dh rfl rfl rfl (by omega) y (fun Y=>?_) (fun v_39 Y=>?_)
     ·exact Df<|ai<|ak ⟨(),rfl,y.ae⟩
     ·refine ap (fun h_41=>?_) (fun h_41=>?_)
      ·exact ai<|ac<|ah<|k _ _ (SH.dF y.ae hs)
      ·exact ai<|ak ⟨(),rfl,y.ae⟩
    ·cases v_31
     ·refine pa 3 rfl<|y.C9 (b:=p) rfl<|dh rfl rfl rfl (by omega) y (fun Y=>?_) (fun v_39 Y=>?_)
      ·exact Df<|ai<|ak ⟨(),rfl,y.ae⟩
      ·refine ap (fun h_41=>?_) (fun h_41=>?_)
       ·exact ai<|ac<|ah<|k _ _ (SH.dF y.ae hs)
       ·exact ai<|ak ⟨(),rfl,y.ae⟩
     ·exact pa 11 rfl<|ai<|ac<|ah<|k _ _ (SH.dF y.ae hs)
 rintro g _ w6 y
 refine av<|ac<|y.C9 (b:=p) rfl<|aZ (mU rfl rfl y fun H _ y=>aM ?_)
 refine bU (6::8::List.range' 48 14) rfl [1,2,6,47] (fun (_:List (ByteArray × (Int × Bool × Int)) × Option (ByteArray × (Int × Bool × Int)))=>[C3 ip,C4 m_10,.bool false,pt H]) (fun x w'=>SH w0 w' (It eu H s.lb s.Lo x.1 x.2::Cl p 242 (lD s)::Mt jc s.bb s.B::Mt eM s.rb s.Re::R)) (fun x=>x.1.length) (s.Lo,none) rfl y.ae ?_
 rintro g ⟨left,cur⟩ w5 y
 have y:SH w0 w5 (It eu H s.lb s.Lo left cur::Cl p 242 (lD s)::Mt jc s.bb s.B::Mt eM s.rb s.Re::R):=y
 refine ac<|aZ (mQ rfl rfl y (fun _ w_48 y=>?_) (fun J v_48 _ h_482 w_48 y=>?_))
 ·exact av<|ai<|aS<|ac<|ah<|k _ _ (SH.dF y.ae hs)
 ·refine av<|ai<|ak<|aM<|ac<|aZ (mS rfl rfl y (y.an fun b_8 _ y=>y.aj (b:=b_8) fun _ y=>?_))
  refine ac<|y.C9 (b:=b_8) rfl<|ap (fun h_55=>?_) (fun h_55=>?_)
  ·refine y.Da (b:=b_8) rfl<|c126 y (fun _ _ y=>cG (fun h_60=>?_) (fun h_60=>?_))
   ·exact ai<|ac<|ah<|k _ _ (SH.dF (y.qB (P:=Tryz.prog) (T:=eu) (b:=s.lb) (m:=s.Lo) H).ae hs)
   ·exact ai<|ak ⟨(aO left J,some (J,v_48)),rfl,y.ae,h_482⟩
  ·exact pa 6 rfl<|ai<|ak ⟨(aO left J,some (J,v_48)),rfl,y.ae,h_482⟩
theorem c357 {ip now:Nat} (hi:ip<4294967296) (y:SH w0 w L) [q:aC (Bo p) L s R] (k: ∀ (ip:Nat) b w',ip<4294967296→SH w0 w' (Bo p s::R)→K (.tuple #[C3 ip,.bool b]) w'):D 357 [pt p,C3 ip,C4 now] w K:=by
 have hs:=(SH.bo y p).1
 obtain ⟨hr1,hr2,hr3⟩:=hs.ou
 have y:=y.at (Bo p)
 refine s357 rfl<|ac<|aq<|c382 ‹_› y (fun H _ y=>?_)
 cases H
 ·refine ak<|av<|aJ<|have y:=y.drew;?_
  obtain ⟨_,y⟩:=SH.bo y p
  refine y.C9 (b:=p) rfl<|y.C9 (b:=p) rfl ⟨_,IntWalk.u32_in _ (by omega),⟨((s.l - s.f+1:Nat):Int),(IntWalk.u32_in _ (by omega)).trans (by omega),aM ?_⟩⟩
  have y:SH w0 _ (Bo p s::R):=SH.dF y.ae hs
  refine bU ([6,7,8,9]++List.range' 25 15) rfl [0,2,6,7,24,25] (fun (i:Nat)=>[pt p,C4 now,C3 0,.bool false,C3 (s.l - s.f+1:Nat),C3 i]) (fun i w'=>i≤s.l - s.f+1∧SH w0 w' (Bo p s::R)) (fun i=>s.l - s.f+1 - i) 0 rfl ⟨Nat.zero_le _,y⟩ ?_
  rintro g i w5 ⟨hi2,y⟩
  obtain ⟨_,y⟩:=SH.bo y p
  refine ac<|ap (fun J=>?_) (fun J=>?_)
  ·refine av<|ai<|ak<|aG<|ac<|ac<|y.C9 (b:=p) rfl ⟨_,IntWalk.u32_in _ (by omega),ac ?_⟩
   have y:SH w0 w5 (Bo p s::R):=SH.dF y.ae hs
   rw [show (s.f:Int)+(i:Int)=((s.f+i:Nat):Int) from (Int.natCast_add _ _).symm]
   refine c382 (ip:=s.f+i) (by omega) y (fun Y _ y=>ai ?_)
   cases Y
   ·exact ak<|au ⟨_,IntWalk.u32_in _ (by omega),⟨i+1,rfl,⟨by omega,y⟩,by omega⟩⟩
   ·exact ac<|ah<|k _ _ _ (by omega) y
  ·exact av<|ai<|aS<|ac<|ah<|k 0 false _ (by decide) (SH.dF y.ae hs)
 ·refine ac<|ah<|k _ _ _ ‹_› y.ae
theorem c319 {c:ByteArray} {firm:Bool} (hc:c.size≤maxLen) (y:SH w0 w L) [q:aC (Bo p) L s R] (k: ∀ s' b w',SH w0 w' (Bo p s'::R)→K (.bool b) w'):D 319 [pt p,.string c,.bool firm] w K:=by
 obtain ⟨hs,y⟩:=SH.bo y p
 refine s319 rfl<|ac<|ac<|y.C9 (b:=p) rfl<|dh rfl rfl rfl (by omega) y (fun J=>?_) (fun _ J=>?_)
 ·exact y.an fun H w_7 y=>y.aj (b:=H) fun _ y=>aq<|Dj<|pa 6 rfl<|ac<|ah<|k s _ _ (SH.dF y.ae hs)
 ·refine y.an fun H w_7 y=>y.aj (b:=H) fun _ y=>aq<|Dj<|y.C9 (b:=H) rfl<|cG (fun Y=>?_) (fun Y=>?_)
  ·exact Dt [0,1,6,20,24] [pt p,Value.string c,.bool false,.bool !true,.bool true] fun g=>ac<|ah<|k s _ _ (SH.dF y.ae hs)
  ·exact Dt [0,1,6,20,24] [pt p,Value.string c,.bool false,.bool !true,.bool false] fun g=>ak<|ac<|y.C9 (b:=p) rfl<|aZ (gd rfl rfl rfl (by omega) y rfl fun _ y=>ac (ah (k { s with Lo:=aO s.Lo c } _ _ (SH.dF (s:= { s with Lo:=aO s.Lo c }) y.ae (hs.del c)))))
theorem c360 {c:ByteArray} {ip now til:Nat} (hc:c.size≤maxLen) (hi:ip<4294967296) (y:SH w0 w L) [q:aC (Bo p) L s R] (k: ∀ s' e w',SH w0 w' (Bo p s'::R)→K (C5 e) w'):D 360 [pt p,.string c,C3 ip,C4 now,C4 til] w K:=by
 have y:=y.at (Bo p)
 refine s360 rfl<|ac<|ac<|c356 ‹_› y (fun _ _ _ Y _ _ y=>?_) (fun Y y=>?_)
 ·refine y.an fun H w_11 y=>y.aj (b:=H) fun _ y=>aq<|Dj<|y.C9 (b:=H) rfl<|ap (fun h_26=>?_) (fun h_26=>?_)
  ·exact ac<|ah<|k s _ _ y.ae
  ·refine ak<|aJ<|have y:=y.drew;?_
   obtain ⟨hs,y⟩:=SH.bo y p
   exact y.C9 (b:=p) rfl<|c123 y (fun J _ _ y=>⟨⟨y.ld (b:=p) rfl,trivial⟩,⟨rfl,[C3 ip,.bool true,C4 J],rfl,d' (fc (vv:= .agg #[C3 ip,.bool true,C4 J]) rfl rfl rfl rfl (by omega) y fun _ y=>ac (ah (k { s with Lo:=aF s.Lo c (ip,true,J) } _ _ (SH.dF (s:= { s with Lo:=aF s.Lo c (ip,true,J) }) y.ae (hs.put (by omega))))))⟩⟩)
 ·exact y.an fun H w_11 y=>y.aj (b:=H) fun _ y=>aq<|Dj<|pa 6 rfl<|ac<|ah<|k s _ _ y.ae
theorem c321 {c:ByteArray} {ip now til:Nat} (hc:c.size≤maxLen) (hi:ip<4294967296) (y:SH w0 w L) [q:aC (Bo p) L s R] (k: ∀ s' e w',SH w0 w' (Bo p s'::R)→K (C5 e) w'):D 321 [pt p,.string c,C3 ip,C4 now,C4 til] w K:=by
 have y:=y.at (Bo p)
 refine s321 rfl<|ac<|ac<|c356 ‹_› y (fun _ _ _ Y _ _ y=>?_) (fun Y y=>?_)
 ·refine y.an fun H w_11 y=>y.aj (b:=H) fun _ y=>aq<|Dj<|y.C9 (b:=H) rfl<|ap (fun h_26=>?_) (fun h_26=>?_)
  ·exact ac<|ah<|k s _ _ y.ae
  ·refine ak<|ac ?_
   obtain ⟨hs,y⟩:=SH.bo y p
   refine y.C9 (b:=p) rfl<|aZ (gd rfl rfl rfl (by omega) y rfl fun _ y=>aJ ?_)
   have y:=y.drew
   exact y.C9 (b:=p) rfl<|c123 y (fun J _ _ y=>⟨⟨y.ld (b:=p) rfl,trivial⟩,d' (fc (vv:=C4 J) rfl rfl rfl rfl (by omega) y fun _ y=>ac (ah (k { s with Lo:=aO s.Lo c,Re:=aF s.Re ip J } _ _ (SH.dF (s:= { s with Lo:=aO s.Lo c,Re:=aF s.Re ip J }) y.ae ⟨(hs.del c).1,(hs.del c).2⟩))))⟩)
 ·exact y.an fun H w_11 y=>y.aj (b:=H) fun _ y=>aq<|Dj<|pa 6 rfl<|ac<|ah<|k s _ _ y.ae
theorem c315 {c:ByteArray} {wish now til:Nat} (hc:c.size≤maxLen) (hi:wish<4294967296) (y:SH w0 w L) [q:aC (Bo p) L s R] (k: ∀ s' (ip:Nat) e w',ip<4294967296→SH w0 w' (Bo p s'::R)→K (.tuple #[C3 ip,C5 e]) w'):D 315 [pt p,.string c,C3 wish,C4 now,C4 til] w K:=by
 have hs:=(SH.bo y p).1
 have y:=y.at (Bo p)
 refine s315 rfl<|ac<|aq ⟨_,nU (neg:=false) rfl rfl rfl rfl,?_⟩
 generalize hcb:(false ^^ (c.toList==(ByteArray.mk #[]).toList))=cb
 cases cb
 ·refine ap (fun h_21=>?_) (fun h_21=>?_)
  ·exact ac<|ah<|k s 0 _ _ (by decide) y.ae
  ·refine ak<|ac<|c356 ‹_› y (fun ip_27 f_27 _ w_27 _ _ y=>?_) (fun w_27 y=>?_)
   ·refine y.an fun H w_12 y=>y.aj (b:=H) fun _ y=>aq<|Dj<|ak<|aq<|y.C9 (b:=H) rfl<|cG (fun h_45=>?_) (fun h_45=>?_)
    ·refine ac<|c123 y (fun J w_47 h_472 y=>y.aN (b:=H) [C4 J] [C3 ip_27,.bool f_27,C4 J] fun _ y=>cv ?_)
     have y:=y.drew
     obtain ⟨n,rfl⟩: ∃ n:Nat,ip_27=n:=⟨ip_27.toNat,by omega⟩
     obtain ⟨_,y⟩:=SH.bo y p
     exact y.C9 (b:=p) rfl<|y.Da (b:=H) rfl<|d' (fc (vv:= .agg #[C3 n,.bool f_27,C4 J]) rfl rfl rfl rfl (by omega) y fun _ y=>ac (y.C9 (b:=H) rfl (ah (k { s with Lo:=aF s.Lo c (n,f_27,J) } n _ _ (by omega) (SH.dF (s:= { s with Lo:=aF s.Lo c (n,f_27,J) }) y.ae (hs.put (by omega)))))))
    ·refine ak<|ac<|y.C9 (b:=H) rfl<|ah ?_
     obtain ⟨n,rfl⟩: ∃ n:Nat,ip_27=n:=⟨ip_27.toNat,by omega⟩
     exact k s n _ _ (by omega) y.ae
   ·refine y.an fun H w_12 y=>y.aj (b:=H) fun w_27 y=>aq<|Dj<|ac<|c357 ‹_› y (fun Y _ _ _ y=>aq (cG (fun h_40=>?_) (fun h_40=>?_)))
    ·exact ac<|ah<|k s 0 _ _ (by decide) y.ae
    ·refine ak<|au ⟨rfl,[C3 Y,.bool false,C4 0],rfl,y.aj (b:=H) fun _ y=>aq (y.C9 (b:=H) rfl (Dj (ac (c123 y (fun J w_47 h_472 y=>y.aN (b:=H) [C4 J] [C3 Y,.bool false,C4 J] fun _ y=>cv ?_)))))⟩
     have y:=y.drew
     obtain ⟨_,y⟩:=SH.bo y p
     exact y.C9 (b:=p) rfl<|y.Da (b:=H) rfl<|d' (fc (vv:= .agg #[C3 Y,.bool false,C4 J]) rfl rfl rfl rfl (by omega) y fun _ y=>ac (y.C9 (b:=H) rfl (ah (k { s with Lo:=aF s.Lo c (Y,false,J) } Y _ _ (by omega) (SH.dF (s:= { s with Lo:=aF s.Lo c (Y,false,J) }) y.ae (hs.put (by omega)))))))
 ·exact pa 5 rfl<|ac<|ah<|k s 0 _ _ (by decide) y.ae
theorem c124 {bx lb:Nat} {now:Int} {m:List (ByteArray × (Int × Bool × Int))} (y:SH w0 w L) [q:aR L bx 29 [C4 now] R] [q2:bP R lb eu m R2] (k: ∀ m' w',(∀ q∈m',q∈m)→SH w0 w' (Mt eu lb m'::Cl bx 29 [C4 now]::R2)→K (.tuple #[]) w'):D 124 [.map (some lb),.func (.func 125) #[] #[pt bx]] w K:=by
 have y:SH w0 w (Cl bx 29 [C4 now]::Mt eu lb m::R2):=(y.perm q.perm).perm (q2.perm.cons _)
 have hg: ∀ q∈m,(eu).good q.1:=fun q hq=>y.gv lb (T:=eu) q hq
 refine s124 rfl<|ac<|aZ (mU rfl rfl y fun J _ y=>aM ?_)
 refine bU ([4,5]++List.range' 8 11) rfl [0,1,7] (fun (_:List (ByteArray × (Int × Bool × Int)) × List (ByteArray × (Int × Bool × Int)) × Option (ByteArray × (Int × Bool × Int)))=>[.map (some lb),.func (.func 125) #[] #[pt bx],pt J]) (fun x w'=>(∀ q∈x.1,q∈m)∧SH w0 w' (It eu J lb x.1 x.2.1 x.2.2::Cl bx 29 [C4 now]::R2)) (fun x=>x.2.1.length) (m,m,none) rfl ⟨fun q h=>h,y.ae⟩ ?_
 rintro g ⟨m1,left,cur⟩ w5 ⟨hm,y⟩
 have y:SH w0 w5 (It eu J lb m1 left cur::Cl bx 29 [C4 now]::R2):=y
 refine Dv [0,1,7] [.map (some lb),.func (.func 125) #[] #[pt bx],pt J] fun g=>ac<|aZ (mQ rfl rfl y (fun _ w_8 y=>?_) (fun H Y h_81 h_82 w_8 y=>?_))
 ·refine av<|ai<|aS<|k _ _ ‹_› y.ae
 ·refine av<|ai<|ak<|aM<|ac<|aZ (mS rfl rfl y (y.an fun b_5 _ y=>y.aj (b:=b_5) fun _ y=>ac (y.Da (b:=b_5) rfl (Dt [0,1,4,7,13,14,15] [Value.map (some lb),Value.func (Fn.func 125) #[] #[pt bx],Value.string H,pt J,Value.func (Fn.func 125) #[] #[pt bx],Value.string H,.agg #[C3 Y.fst,.bool Y.snd.fst,C4 Y.snd.snd]] fun g=>⟨fk125,c125 y (fun b_16 _ y=>ai ?_)⟩))))
  cases b_16
  ·exact ak ⟨(m1,aO left H,some (H,Y)),rfl,⟨hm,y.ae⟩,h_82⟩
  ·exact au<|aZ (uH (T:=eu) (k:=H) rfl rfl rfl (hg _ (hm _ h_81.2)) y rfl fun n' hn1 _ _ y=>⟨(aO m1 H,n',none),rfl,⟨fun q hq=>hm q ((eK (k':=q.1) (u:=q.2)).1 hq).2,y.ae⟩,Nat.lt_of_le_of_lt hn1 h_82⟩)
theorem c127 {bx rb:Nat} {now:Int} {m:List (Int × Int)} (y:SH w0 w L) [q:aR L bx 29 [C4 now] R] [q2:bP R rb eM m R2] (k: ∀ m' w',(∀ q∈m',q∈m)→SH w0 w' (Mt eM rb m'::Cl bx 29 [C4 now]::R2)→K (.tuple #[]) w'):D 127 [.map (some rb),.func (.func 128) #[] #[pt bx]] w K:=by
 have y:SH w0 w (Cl bx 29 [C4 now]::Mt eM rb m::R2):=(y.perm q.perm).perm (q2.perm.cons _)
 have hg: ∀ q∈m,(eM).good q.1:=fun q hq=>y.gv rb (T:=eM) q hq
 refine s127 rfl<|ac<|aZ (mU rfl rfl y fun Y _ y=>aM ?_)
 refine bU ([4,5]++List.range' 8 11) rfl [0,1,7] (fun (_:List (Int × Int) × List (Int × Int) × Option (Int × Int))=>[.map (some rb),.func (.func 128) #[] #[pt bx],pt Y]) (fun x w'=>(∀ q∈x.1,q∈m)∧SH w0 w' (It eM Y rb x.1 x.2.1 x.2.2::Cl bx 29 [C4 now]::R2)) (fun x=>x.2.1.length) (m,m,none) rfl ⟨fun q h=>h,y.ae⟩ ?_
 rintro g ⟨m1,left,cur⟩ w5 ⟨hm,y⟩
 have y:SH w0 w5 (It eM Y rb m1 left cur::Cl bx 29 [C4 now]::R2):=y
 refine ac<|aZ (mQ rfl rfl y (fun _ w_8 y=>?_) (fun H v_8 h_81 J w_8 y=>?_))
 ·refine av<|ai<|aS<|k _ _ ‹_› y.ae
 ·refine av<|ai<|ak<|aM<|ac<|aZ (mS rfl rfl y (ac (⟨fk128,?_⟩)))
  refine c128 y (fun b_16 _ y=>ai ?_)
  cases b_16
  ·exact ak ⟨(m1,aO left H,some (H,v_8)),rfl,⟨hm,y.ae⟩,J⟩
  ·exact au<|aZ (uH (T:=eM) (k:=H) rfl rfl rfl (hg _ (hm _ h_81.2)) y rfl fun n' hn1 _ _ y=>⟨(aO m1 H,n',none),rfl,⟨fun q hq=>hm q ((eK (k':=q.1) (u:=q.2)).1 hq).2,y.ae⟩,Nat.lt_of_le_of_lt hn1 J⟩)
theorem c74 {now:Nat} (y:SH w0 w L) [q:aC (Bo p) L s R] (k: ∀ s' e w',SH w0 w' (Bo p s'::R)→K (C5 e) w'):D 74 [pt p,C4 now] w K:=by
 obtain ⟨hs,y⟩:=SH.bo y p
 refine s74 rfl<|ac<|y.az [C4 now] fun Y _ y=>ac<|y.C9 (b:=Y) rfl<|c123 y (fun m_7 _ _ y=>y.aN (b:=Y) [C4 m_7] [C4 m_7] fun _ y=>aJ ?_)
 have y:=y.drew
 refine y.C9 (b:=p) rfl ⟨_,iz rfl rfl y,y.C9 (b:=p) rfl (⟨_,iz rfl rfl y,Dj (ac (y.C9 (b:=p) rfl (c124 y (fun H _ _ y=>ac (y.C9 (b:=p) rfl (c127 y (fun J _ _ y=>aJ ?_)))))))⟩)⟩
 have y:=y.drew
 exact y.C9 (b:=p) rfl ⟨_,iz rfl rfl y,Dj (y.C9 (b:=p) rfl (⟨_,iz rfl rfl y,Dj (ah (k { s with Lo:=H,Re:=J } _ _ (SH.dF (s:= { s with Lo:=H,Re:=J }) y.ae ⟨hs.1,fun q hq=>hs.2 q (‹∀ q∈H,q∈s.Lo› q hq)⟩)))⟩))⟩
theorem c92 {f l n c:Nat} {a:Option Addr} {zs:List Int} (hf:f<4294967296∧l<4294967296) (hz: ∀ z∈zs,0≤z∧z<4294967296) (hzl:zs.length≤1000) (y:SH w0 w L) [qr:dV L a 1 n (zs.map fun z=>C3 z)]
  (k1:f≤l∧l - f<256→ ∀ p s w',s.Lo=[]∧s.Re=[]→SH w0 w' (Bo p s::L)→K (.tuple #[pt p,C5 0]) w')
  (k2: ¬ (f≤l∧l - f<256)→ ∀ w',SH w0 w' L→K (.tuple #[.pointer none,C5 11]) w'):D 92 [C3 f,C3 l,.slice a n c] w K:=by
 obtain rfl:n=zs.length:=by have:=y.vg (a:=a);rw [List.length_map] at this;omega
 refine s92 rfl<|ac<|aq<|ap (fun h_13=>?_) (fun h_13=>?_)
 ·refine pa 6 rfl<|ac<|ah<|k2 (by omega) _ y.ae
 ·refine ⟨_,IntWalk.u32_in _ (by omega),ap (fun h_18=>?_) (fun h_18=>?_)⟩
  ·refine ac<|ah<|k2 (by omega) _ y.ae
  ·refine ak<|ac<|pa 2 rfl<|aZ (eZ (P:=Tryz.prog) (t:=238) rfl y fun H _ y=>aZ (eZ (P:=Tryz.prog) (t:=239) rfl y fun J _ y=>aZ (eZ (P:=Tryz.prog) (t:=240) rfl y fun Y _ y=>⟨rfl,[C3 f,C3 l,Value.map (some H),Value.map (some J),Value.map (some Y)],rfl,y.az [C3 f,C3 l,Value.map (some H),Value.map (some J),Value.map (some Y)] fun b_26 _ y=>av (ac (aM ?_))⟩)))
   refine bU ([10]++List.range' 29 10) rfl [8,27,28,29] (fun (x:Nat × List (Int × Bool))=>[pt b_26,.slice a zs.length c,C5 zs.length,C5 x.1]) (fun x w'=>x.1≤zs.length∧SH w0 w' (Cl b_26 242 [C3 f,C3 l,.map (some H),.map (some J),.map (some Y)]::Mt jc H x.2::Mt eu J []::Mt eM Y []::L)) (fun x=>zs.length - x.1) (0,[]) rfl ⟨Nat.zero_le _,y.ae⟩ ?_
   rintro g ⟨i,B⟩ w5 ⟨hi,y⟩
   simp only at hi y
   refine ac<|ap (fun h_30=>?_) (fun h_30=>?_)
   ·obtain ⟨aa,rfl⟩:=y.dW a
    have hz1:=hz _ (gV (zs:=zs) (d:=0) (j:=(i:Int).toNat) (by omega))
    exact av<|ai<|ak<|aG<|ac ⟨by omega,_,rfl,⟨_,y.fe (lB (by omega)),au (y.C9 (b:=b_26) rfl (aZ (fc (vv:= .bool true) rfl rfl rfl rfl (by omega) y fun _ y=>au (Db (⟨(i+1,aF B (zs.getD (i:Int).toNat 0) true),rfl,⟨by omega,y.ae⟩,by show zs.length - (i+1)<zs.length - i;omega⟩)))))⟩⟩
   ·exact av<|ai<|aS<|ac<|ah<|k1 (by omega) b_26 ⟨f,l,H,J,Y,B,[],[]⟩ _ ⟨rfl,rfl⟩ (SH.dF (s:=⟨f,l,H,J,Y,B,[],[]⟩) y.ae ⟨⟨by show f≤l;omega,by show l<4294967296;omega,by show l - f<256;omega⟩,fun _ hq=>by simp at hq⟩)
end
end
end Go.Proofs.YtlhpilgmeededaaGreatDoor
namespace Go.Den
open Go Go.RowKit
open Go.ChangeMaps (setBlock heap_setBlock_same heap_setBlock_other)
section
variable {P:Program} {T:bN P} {w:World} {r b:Nat} {m n:List (T.κ × T.ν)} {cur:Option (T.κ × T.ν)}
theorem Au (w:World) (o:Obj):w.grownBy (w.alloc o) none:=⟨rfl,rfl,rfl,by simp,fun k q _=>Below.heap_alloc w o k q⟩
theorem It.range {t e:TypeId} (Y:P.underlying t=some (.map T.k e)) (h:(Mt T b m).holds w): ∃ q,(Instr.range t (.map (some b))).run P w= .ok (.pointer (some ⟨w.heap.size,0,none⟩)) q∧(It T w.heap.size b m m none).holds q∧w.grownBy q none:=by
 obtain ⟨es,clock,y,H⟩:=h
 have J:b<w.heap.size:=eT y
 have hnew:(w.alloc (.mapIter (some b) clock #[] clock)).heap[w.heap.size]?=some (.mapIter (some b) clock #[] clock):=by show (w.heap.push _)[w.heap.size]?=_;simp
 have hold:(w.alloc (.mapIter (some b) clock #[] clock)).heap[b]?=some (.map es clock):=(Below.heap_alloc w _ b J).trans y
 have hall:(leftOf es #[]).toList=es.toList:=by unfold leftOf;simp
 refine ⟨_,?_,⟨es,clock,clock,#[],clock,hold,H,hnew,Nat.le_refl _,Nat.le_refl _,H.born,by rw [hall];exact H.list,by simp⟩,Au _ _⟩
 simp only [Instr.range,run_underlying Y,MapKept.run_getObj_map y,Sem.run_bind,Sem.run_pure,Result.andThen_ok,run_newObj]
 rfl
theorem It.left (h:(It T r b m n cur).holds w):w.rangeLeft b r=n.length:=by
 obtain ⟨es,clock,since,seen,c0,q,hm,y,h1,h2,h3,H,-⟩:=h
 have hl:=congrArg List.length H
 simp only [List.length_map,Array.length_toList] at hl
 unfold World.rangeLeft
 rw [q,y]
 exact hl
theorem It.walks {q:World} (h:(It T r b m n cur).holds w) (k:KeepsWalks w q):(It T r b m n cur).holds q:=by
 obtain ⟨es,clock,since,seen,y,H,J,Y,h2⟩:=h
 exact ⟨es,clock,since,seen,y,k.same b _ H rfl,J,k.same r _ Y rfl,h2⟩
theorem It.isWalk (h:(It T r b m n cur).holds w): ∃ o:Obj,w.heap[r]?=some o∧o.isWalk=true:=by
 obtain ⟨es,clock,since,seen,c0,hb,hm,q,h2⟩:=h
 exact ⟨_,q,rfl⟩
theorem It.next (h:(It T r b m n cur).holds w) (ty:TypeId):(n=[]∧(Instr.next (.pointer (some ⟨r,0,none⟩)) false ty).run P w= .ok (.tuple #[.bool false]) w)∨
  ∃ k v w',(k∈n.map Prod.fst∧(k,v)∈m)∧(Instr.next (.pointer (some ⟨r,0,none⟩)) false ty).run P w= .ok (.tuple #[.bool true,T.ek k,T.en v]) w'∧(It T r b m (aO n k) (some (k,v))).holds w'∧w.grownBy w' (some r)∧
   (Instr.entry (.pointer (some ⟨r,0,none⟩))).run P w'= .ok (.tuple #[T.ek k,T.en v]) w':=by
 obtain ⟨es,clock,since,seen,c0,hb,Y,hr,h1,h2,h3,h4,-⟩:=h
 rcases run_next_at (P:=P) w ty r b since c0 seen es clock hr hb h3 h1 with ⟨hz,hrun⟩ | ⟨e,he,w1,hw,hrun⟩
 ·have hl:=congrArg List.length h4
  simp only [List.length_map,Array.length_toList,hz] at hl
  exact .inl ⟨List.eq_nil_of_length_eq_zero hl.symm,hrun⟩
 ·obtain ⟨y,_⟩:=mem_left he
  have hmem:(e.key,e.val)∈n.map fun p=>(T.ek p.1,T.en p.2):=by rw [←h4];exact List.mem_map_of_mem (f:=fun e:MapEntry=>(e.key,e.val)) he
  obtain ⟨q,hq,e1⟩:=List.mem_map.1 hmem
  simp only [Prod.mk.injEq] at e1
  have hmem2:(e.key,e.val)∈m.map fun p=>(T.ek p.1,T.en p.2):=by rw [←Y.list];exact List.mem_map_of_mem (f:=fun e:MapEntry=>(e.key,e.val)) y
  obtain ⟨q2,hq2,e2⟩:=List.mem_map.1 hmem2
  simp only [Prod.mk.injEq] at e2
  have hrb:r≠b:=fun e=>by rw [e,hb] at hr;cases hr
  have hb1:w1.heap[b]?=some (.map es clock):=by rcases hw with rfl | rfl<;>exact hb
  have hr1:w1.heap[r]?=some (.mapIter (some b) since seen c0):=by rcases hw with rfl | rfl<;>exact hr
  have hkeys:(es.toList.map (·.key)).Nodup:=by
   have h6:es.toList.map (·.key)=m.map fun p=>T.ek p.1:=by
    have:=congrArg (List.map Prod.fst) Y.list
    simpa [List.map_map,Function.comp_def] using this
   rw [h6]
   have:(m.map fun p=>T.ek p.1)=(m.map Prod.fst).map T.ek:=by simp [List.map_map,Function.comp_def]
   rw [this]
   exact uF (fun a b h=>T.inj a b h) Y.apart
  have hleft:(leftOf es (seen.push e.born)).toList.map (fun e=>(e.key,e.val))=(aO n q.1).map fun p=>(T.ek p.1,T.en p.2):=by
   have h7:(leftOf es (seen.push e.born)).toList=(leftOf es seen).toList.filter fun x=>!(x.born==e.born):=by
    unfold leftOf
    simp only [Array.toList_filter,List.filter_filter,contains_push]
    refine List.filter_congr fun x _=>?_
    cases seen.contains x.born<;>cases (x.born==e.born)<;>rfl
   rw [h7]
   refine qA h4 fun x hx' p hp J=>?_
   simp only [Prod.mk.injEq] at J
   have hxe:=(mem_left hx').1
   by_cases H:p.1=q.1
   ·have:x=e:=mP hkeys x hxe e y (by rw [J.1,H,e1.1])
    simp [this,H]
   ·have:x.born≠e.born:=fun hbn=>H (T.inj _ _ (by rw [←J.1,e1.1,mP Y.stamp x hxe e y hbn]))
    simp [this,H]
  have h8:q.1=q2.1:=T.inj _ _ (e1.1.trans e2.1.symm)
  rw [h8] at hleft
  have hb2:(setBlock w1 r (.mapIter (some b) since (seen.push e.born) clock)).heap[b]?=some (.map es clock):=(lr _ (fun e=>hrb e.symm)).trans hb1
  have hr2:=heap_set hr1 (.mapIter (some b) since (seen.push e.born) clock)
  refine .inr ⟨q2.1,q2.2,_,⟨h8▸List.mem_map_of_mem (f:=Prod.fst) hq,hq2⟩,by rw [e2.1,e2.2];exact hrun,⟨es,clock,since,seen.push e.born,clock,hb2,Y,hr2,h2,h2,h3,hleft,fun p hp=>by cases hp;exact ⟨seen,e,rfl,y,e2.1.symm,e2.2.symm,rfl⟩⟩,?_,?_⟩
  ·rcases hw with rfl | rfl<;>exact ⟨rfl,rfl,rfl,by simp [setBlock],fun k _ hk=>lr _ (fun e=>hk (by rw [e]))⟩
  ·have:=run_entry_at (P:=P) _ r b since seen es clock e hr2 hb2 y Y.stamp
   rw [e2.1,e2.2]
   exact this
end
section
variable {F:Fence} {nn:Nat} {P:Program} {T:bN P} (w:World) {ops:Array Oper} {rest:List Oper} {o:Oper} {a:Act} {Q:Exit→Act→World→Prop} {r b:Nat} {m n:List (T.κ × T.ν)} {cur:Option (T.κ × T.ν)}
theorem vn (H:o.guard=none) (x:Operand) {t e:TypeId} (q:o.op= .range t x) (J:P.underlying t=some (.map T.k e)) (Y:a.eval x= .map (some b)) (h:(Mt T b m).holds w)
  (hK: ∀ y,(It T w.heap.size b m m none).holds y→w.grownBy y none→wpListIn F nn P ops Q rest (a.put o.dst (.pointer (some ⟨w.heap.size,0,none⟩))) y):wpListIn F nn P ops Q (o::rest) a w:=by
 refine wpListIn_plain H fun K' hK'=>?_
 obtain ⟨y,hrun,r1,r2⟩:=It.range J h
 unfold Oper.wpIn
 refine ⟨by simp [Oper.about,q],?_⟩
 rw [Oper.semAt_plain F _ _ (by rw [q];intro c hc';cases hc')]
 simp [execOp,q,Y,hrun,Result.andThen]
 exact hK' _ _ (hK y r1 r2)
theorem vo (hg:o.guard=none) (x:Operand) (q:o.op= .next x false) (hx:a.eval x= .pointer (some ⟨r,0,none⟩)) (h:(It T r b m n cur).holds w)
  (k0:n=[]→wpListIn F nn P ops Q rest (a.put o.dst (.tuple #[.bool false])) w)
  (k1: ∀ k v y,(k∈n.map Prod.fst∧(k,v)∈m)→(It T r b m (aO n k) (some (k,v))).holds y→w.grownBy y (some r)→(Instr.entry (.pointer (some ⟨r,0,none⟩))).run P y= .ok (.tuple #[T.ek k,T.en v]) y→
   wpListIn F nn P ops Q rest (a.put o.dst (.tuple #[.bool true,T.ek k,T.en v])) y):wpListIn F nn P ops Q (o::rest) a w:=by
 refine wpListIn_plain hg fun K' hK'=>?_
 unfold Oper.wpIn
 refine ⟨by simp [Oper.about,q],?_⟩
 rw [Oper.semAt_plain F _ _ (by rw [q];intro c hc';cases hc')]
 rcases It.next h o.type with ⟨h0,hrun⟩ | ⟨k,v,y,hk,hrun,H,J,Y⟩
 ·simp [execOp,q,hx,hrun,Result.andThen]
  exact hK' _ _ (k0 h0)
 ·simp [execOp,q,hx,hrun,Result.andThen]
  exact hK' _ _ (k1 k v y hk H J Y)
end
theorem vp {κ ν:Type} [DecidableEq κ] {l:List (κ × ν)} (J:(l.map Prod.fst).Nodup) {k:κ} (y:k∈l.map Prod.fst):(l.map Prod.fst).Perm (k::(aO l k).map Prod.fst):=by
 induction l with
 | nil=>cases y
 | cons q r ih=>
  have H:=List.nodup_cons.1 J
  unfold aO
  rw [List.filter_cons]
  by_cases e:q.1=k
  ·have:r.filter (fun p=>!decide (p.1=k))=r:=List.filter_eq_self.2 fun p Y=>by
    simp only [Bool.not_eq_true',decide_eq_false_iff_not]
    exact fun e'=>H.1 (by rw [e,←e'];exact List.mem_map_of_mem (f:=Prod.fst) Y)
   simp [e,this]
  ·have h1:k∈r.map Prod.fst:=by
    rcases List.mem_cons.1 y with h | h
    ·exact absurd h.symm e
    ·exact h
   have:=ih H.2 h1
   simp only [e,decide_false,Bool.not_false,if_true,List.map_cons]
   exact (this.cons _).trans (.swap _ _ _)
end Go.Den
namespace Go.Proofs.YtlhpilgmeededaaGreatDoor
open Go Go.Proofs Go.RowKit Go.Shelf Go.Den
attribute [local go_sem] Oper.semAt_some
set_option maxRecDepth 100000
set_option maxHeartbeats 2000000
theorem vq {W:World} {base:Nat} {e:TypeId} {size:Nat} {v:Value} {k:Nat} {xs:List Value} (h:W.ownsRow base e size v k xs): ∀ (j:Nat) (o:Obj),v.ownBlock=some j→W.heap[j]?=some o→o.isWalk=false:=by
 intro j o y H
 rcases h.2 with ⟨rfl,_⟩ | ⟨g,cap,cur,rfl,_,q,_⟩
 ·simp [Value.ownBlock] at y
 ·have:g=j:=by simpa [Value.ownBlock] using y
  subst this
  rw [q] at H
  cases H
  rfl
theorem i3:(Tryz.prog.info? 3).map (fun i=>(i.zero,i.size,i.bytes))=some (some (C5 0),1,8):=by kernel_rfl
theorem Av (F:Fence) (n:Nat) (hF:F.fn 296) (hro:F.round=none) (hn:1≤n) (Bm b:Nat) {m:List (Int × Bool)} (w:World) (hBm:Bm<w.heap.size) (hm:w.cell? ⟨Bm,0,none⟩=some (.map (some b))) (hown:(Mt a7 b m).holds w):
  SeqStopsK F n Tryz.prog 296 #[.pointer (some ⟨Bm,0,none⟩)] (fun x:Int=>#[C5 x]) KeepsWalks (fun ss=>ss.Perm (m.map Prod.fst)) (fun _=>True) m.length w:=fun l J Jx W hW hJ _ hY h0=>by
 have hap:(m.map Prod.fst).Nodup:=by obtain ⟨_,_,_,h⟩:=hown;exact h.apart
 have hm':=(hW.cell (p:=⟨Bm,0,none⟩) hBm).trans hm
 have hown':(Mt a7 b m).holds W:=(Mt a7 b m).loc w W (fun x hx=>by rcases hx with rfl | hx;exact hW.block _ ((Mt a7 x m).dom w hown x (.inl rfl));exact hx.elim) hown
 refine callsIn_of_wp Tryz.func296 rfl hF ?_ hro
 simp only [Tryz.ntmps296,List.size_toArray,List.length_cons,List.length_nil,Nat.reduceAdd,Nat.reduceSub,Array.replicate_succ,Array.replicate_zero,List.push_toArray,List.append_toArray,List.nil_append,List.cons_append]
 gi_wp2_with (first
  | (gi_at_range;refine vn (T:=a7) _ rfl _ rfl Tryz.underlying269 rfl hown' ?_;intro w0 hit0 hg0)
  | gi_in)
 skip
 gi_loopw [3] (fun _ wr=> ∃ (left:List (Int × Bool)) (cur:Option (Int × Bool)) (ss:List Int),(It a7 W.heap.size b m left cur).holds wr∧(ss++left.map Prod.fst).Perm (m.map Prod.fst)∧J ss wr)
  (fun _ wr=>wr.rangeLeft b W.heap.size)
 case atStart=>exact ⟨m,none,[],hit0,List.Perm.refl _,hJ [] W w0 none h0 hg0 (fun r e=>by cases e)⟩
 case round=>
  obtain ⟨left,cur,ss,q,H,hJs⟩:=hrel
  have hnd:=H.nodup_iff.2 hap
  gi_wp2_with (first
   | (gi_at_next;refine vo (T:=a7) (m:=m) _ rfl _ rfl rfl q (fun hz=>?_) (fun k v Y hk hit2 hg2 _=>?_))
   | gi_in)
  ·subst hz
   gi_wp2
   go_end0
   exact ⟨⟨_,rfl⟩,.inl ⟨ss,by simpa using H,hJs⟩⟩
  ·have hl:=H.length_eq
   have y:=vp (List.nodup_append.1 hnd).2.1 hk.1
   have hll:=y.length_eq
   simp only [List.length_append,List.length_map,List.length_cons] at hl hll
   have hJ2:J ss Y:=hJ ss wr Y (some W.heap.size) hJs hg2 (fun r e=>by cases e;exact ⟨Nat.le_refl _,It.isWalk (T:=a7) q⟩)
   obtain ⟨fn,tmps,assign,body,hy,hR⟩:=hY ss k Y hJ2 (by omega)
   gi_wp2
   rw [show Sem.run Tryz.prog (Instr.yield l #[C5 k]) Y=_ from hy]
   refine ⟨fun _=>hn,hR.mono ?_⟩
   rintro e W3 (⟨rfl,hJ3,hk3⟩ | ⟨rfl,hJx3⟩)
   ·gi_wp2
    have hit3:=It.walks (T:=a7) hit2 hk3
    go_roundw
    case rel=>exact ⟨aO left k,some (k,v),ss++[k],hit3,by rw [List.append_assoc];exact (List.Perm.append_left ss y.symm).trans H,hJ3⟩
    case measure=>rw [It.left (T:=a7) hit3,It.left (T:=a7) q];omega
   ·gi_wp2
    exact bodyPost_ret (results_none rfl _ _ _) rfl ⟨⟨_,rfl⟩,.inr ⟨ss++[k],trivial,hJx3⟩⟩
theorem Aw (F:Fence) (n:Nat) (hF:F.fn 342) (q:F.round=none) (hn:2≤n) (g:Nat) (lb:Array Value) (hFg:F.fn g) (eg: ∀ args w,(callFunc g args).run Tryz.prog w= .ok (.enter g args) w) (S:List Int→Prop) (N:Nat) (hN:N≤1000000) (w:World)
  (hseq:SeqStopsK F (n - 1) Tryz.prog g lb (fun x:Int=>#[C5 x]) KeepsWalks S (fun _=>True) N w):
  CallsIn F n Tryz.prog 342 #[sN,.func (.func g) #[] lb] w fun e w'=> ∃ (v:Value) (ss:List Int),e= .returned v∧S ss∧w'.ownsRow w.heap.size 3 1 v ss.length (ss.map (.int .i64))∧(v=sN↔ss=[])∧Below w.heap.size w w':=by
 obtain ⟨i0,hi,hz0,hz1,hz2⟩:=info_parts i3
 refine callsIn_of_wp_marks Tryz.func342 rfl hF ?_ q
 simp only [Tryz.ntmps342,List.size_toArray,List.length_cons,List.length_nil,Nat.reduceAdd,Nat.reduceSub,Array.replicate_succ,Array.replicate_zero,List.push_toArray,List.append_toArray,List.nil_append,List.cons_append]
 gi_wp2
 have bO:=Boxed.new w 147 (sN)
 have hB0:Below w.heap.size w (w.alloc (.cells #[sN] 147)):=(Below.refl _ w).alloc (Nat.le_refl _) _
 refine wpIn_rangeFunc_ownG q (by omega) (gf:=g) (lb:=lb) rfl hFg eg hseq walksK_t walksK_b hB0 (fun _=>rfl)
  (fun pre W=>(∃ v,Boxed W w.heap.size 147 v∧W.ownsRow w.heap.size 3 1 v pre.length (pre.map (.int .i64))∧(v=sN↔pre=[]))∧Below w.heap.size w W)
  (fun _ _ _=>False)
  (OwnFrom.and (Own.from (holdsRow_own w.heap.size w.heap.size 147 3 1 (fun pre:List Int=>pre.length) (fun pre=>pre.map (.int .i64)) (fun pre v=>v=sN↔pre=[])) _) (ownFrom_below (Nat.le_refl _) (by simp)))
  (fun _ _ _ _ _ hs _ _=>hs)
  ⟨⟨_,bO,World.ownsRow_nil _ _ _ _,by simp⟩,hB0⟩
  (fun x=> { tmps:=#[sN,.func (.func g) #[] lb,.pointer (some ⟨w.heap.size,0,none⟩),undef,sN,C5 x,.func (.func g) #[] lb,C5 x,undef,undef,undef,undef,undef],defers:=[] }) ?assign ?body ?done ?stop
 case assign=>
  intro l x W K y
  gi_wp2
  exact y
 case body=>
  rintro l pre x W ⟨⟨v,Y,hrow,hnil⟩,H⟩ hlt
  have hc:=Y.cell
  gi_wp2_with (gi_at_builtin;(refine wpListIn_append_own _ rfl _ _ 147 rfl w.heap.size 3 i0 (C5 0) 1 8 Tryz.underlying147 hi hz0 hz1 hz2 rfl (by decide) _ _ _ rfl (hrow.alloc _) ⟨W.heap.size,0,none⟩ 1 1 [C5 x] rfl rfl (cell_one_new _ _ _) (by simp [Value.oneCell']) (Nat.le_trans (by omega:pre.length+1≤1000000) (by decide)) (by omega) (by have:=H.size;simp;omega) ?_;intro v' w1 hown' hgrow _;obtain ⟨g',cap',rfl⟩:=ownsRow_succ hown';obtain ⟨J,hv2,hr2,hk2,hb2⟩:=Y.appended (by decide) hrow H.size (Nat.le_refl _) hown' hgrow;have hc1:=J.cell;have hf1:=J.frozen))
  have hkw:KeepsWalks W w1:=(KeepsWalks.alloc W _).trans (KeepsWalks.of_grownBy hgrow (vq (hrow.alloc _)))
  exact ⟨hk2.from _,hkw.trans (KeepsWalks.setCell _ _ _),⟨_,hv2,by simpa using hr2,by simp⟩,H.trans hb2⟩
 case done=>
  rintro D ys W hD hS ⟨⟨v,Y,hrow,hnil⟩,H⟩ y
  have hc:=Y.cell
  gi_wp2
  exact ⟨by simp,.inl ⟨_,_,rfl,run_takeDeferred y,⟨_,results_tmp rfl _ _ _,v,ys,rfl,hS,ownsRow_putObj hrow _ y rfl,hnil,H.trans (belowK_b (w:=w) (Nat.le_refl _) W D _ _ (by simp at hD;omega) y rfl rfl)⟩⟩⟩
 case stop=>
  rintro D c pre W _ _ h _
  exact h.elim
end Go.Proofs.YtlhpilgmeededaaGreatDoor
namespace Go.Proofs.YtlhpilgmeededaaGreatDoor
open Go Go.Proofs Go.RowKit Go.Shelf Go.Den
attribute [local go_sem] Oper.semAt_some
set_option maxRecDepth 100000
set_option maxHeartbeats 2000000
theorem i22:(Tryz.prog.info? 22).map (fun i=>(i.zero,i.size,i.bytes))=some (some (C3 0),1,4):=by kernel_rfl
theorem Ax (F:Fence) (n:Nat) (hF:F.fn 311) (hro:F.round=none) (hn:1≤n) (Bm b:Nat) {m:List (Int × ((Nat × Nat × Nat × Nat × Nat × Nat) × Int))} (w:World) (hBm:Bm<w.heap.size) (hm:w.cell? ⟨Bm,0,none⟩=some (.map (some b))) (hown:(Mt cw b m).holds w):
  SeqStopsK F n Tryz.prog 311 #[.pointer (some ⟨Bm,0,none⟩)] (fun x:Int=>#[C3 x]) KeepsWalks (fun ss=>ss.Perm (m.map Prod.fst)) (fun _=>True) m.length w:=fun l J Jx W hW hJ _ hY h0=>by
 have hap:(m.map Prod.fst).Nodup:=by obtain ⟨_,_,_,h⟩:=hown;exact h.apart
 have hm':=(hW.cell (p:=⟨Bm,0,none⟩) hBm).trans hm
 have hown':(Mt cw b m).holds W:=(Mt cw b m).loc w W (fun x hx=>by rcases hx with rfl | hx;exact hW.block _ ((Mt cw x m).dom w hown x (.inl rfl));exact hx.elim) hown
 refine callsIn_of_wp Tryz.func311 rfl hF ?_ hro
 simp only [Tryz.ntmps311,List.size_toArray,List.length_cons,List.length_nil,Nat.reduceAdd,Nat.reduceSub,Array.replicate_succ,Array.replicate_zero,List.push_toArray,List.append_toArray,List.nil_append,List.cons_append]
 gi_wp2_with (first
  | (gi_at_range;refine vn (T:=cw) _ rfl _ rfl Tryz.underlying187 rfl hown' ?_;intro w0 hit0 hg0)
  | gi_in)
 skip
 gi_loopw [3] (fun _ wr=> ∃ (left:List (Int × ((Nat × Nat × Nat × Nat × Nat × Nat) × Int))) (cur:Option (Int × ((Nat × Nat × Nat × Nat × Nat × Nat) × Int))) (ss:List Int),(It cw W.heap.size b m left cur).holds wr∧(ss++left.map Prod.fst).Perm (m.map Prod.fst)∧J ss wr)
  (fun _ wr=>wr.rangeLeft b W.heap.size)
 case atStart=>exact ⟨m,none,[],hit0,List.Perm.refl _,hJ [] W w0 none h0 hg0 (fun r e=>by cases e)⟩
 case round=>
  obtain ⟨left,cur,ss,q,H,hJs⟩:=hrel
  have hnd:=H.nodup_iff.2 hap
  gi_wp2_with (first
   | (gi_at_next;refine vo (T:=cw) (m:=m) _ rfl _ rfl rfl q (fun hz=>?_) (fun k v Y hk hit2 hg2 _=>?_))
   | gi_in)
  ·subst hz
   gi_wp2
   go_end0
   exact ⟨⟨_,rfl⟩,.inl ⟨ss,by simpa using H,hJs⟩⟩
  ·have hl:=H.length_eq
   have y:=vp (List.nodup_append.1 hnd).2.1 hk.1
   have hll:=y.length_eq
   simp only [List.length_append,List.length_map,List.length_cons] at hl hll
   have hJ2:J ss Y:=hJ ss wr Y (some W.heap.size) hJs hg2 (fun r e=>by cases e;exact ⟨Nat.le_refl _,It.isWalk (T:=cw) q⟩)
   obtain ⟨fn,tmps,assign,body,hy,hR⟩:=hY ss k Y hJ2 (by omega)
   gi_wp2
   rw [show Sem.run Tryz.prog (Instr.yield l #[C3 k]) Y=_ from hy]
   refine ⟨fun _=>hn,hR.mono ?_⟩
   rintro e W3 (⟨rfl,hJ3,hk3⟩ | ⟨rfl,hJx3⟩)
   ·gi_wp2
    have hit3:=It.walks (T:=cw) hit2 hk3
    go_roundw
    case rel=>exact ⟨aO left k,some (k,v),ss++[k],hit3,by rw [List.append_assoc];exact (List.Perm.append_left ss y.symm).trans H,hJ3⟩
    case measure=>rw [It.left (T:=cw) hit3,It.left (T:=cw) q];omega
   ·gi_wp2
    exact bodyPost_ret (results_none rfl _ _ _) rfl ⟨⟨_,rfl⟩,.inr ⟨ss++[k],trivial,hJx3⟩⟩
theorem Ay (F:Fence) (n:Nat) (hF:F.fn 310) (q:F.round=none) (hn:2≤n) (g:Nat) (lb:Array Value) (hFg:F.fn g) (eg: ∀ args w,(callFunc g args).run Tryz.prog w= .ok (.enter g args) w) (S:List Int→Prop) (N:Nat) (hN:N≤1000000) (w:World)
  (hseq:SeqStopsK F (n - 1) Tryz.prog g lb (fun x:Int=>#[C3 x]) KeepsWalks S (fun _=>True) N w):
  CallsIn F n Tryz.prog 310 #[sN,.func (.func g) #[] lb] w fun e w'=> ∃ (v:Value) (ss:List Int),e= .returned v∧S ss∧w'.ownsRow w.heap.size 22 1 v ss.length (ss.map (.int .u32))∧(v=sN↔ss=[])∧Below w.heap.size w w':=by
 obtain ⟨i0,hi,hz0,hz1,hz2⟩:=info_parts i22
 refine callsIn_of_wp_marks Tryz.func310 rfl hF ?_ q
 simp only [Tryz.ntmps310,List.size_toArray,List.length_cons,List.length_nil,Nat.reduceAdd,Nat.reduceSub,Array.replicate_succ,Array.replicate_zero,List.push_toArray,List.append_toArray,List.nil_append,List.cons_append]
 gi_wp2
 have bO:=Boxed.new w 228 (sN)
 have hB0:Below w.heap.size w (w.alloc (.cells #[sN] 228)):=(Below.refl _ w).alloc (Nat.le_refl _) _
 refine wpIn_rangeFunc_ownG q (by omega) (gf:=g) (lb:=lb) rfl hFg eg hseq walksK_t walksK_b hB0 (fun _=>rfl)
  (fun pre W=>(∃ v,Boxed W w.heap.size 228 v∧W.ownsRow w.heap.size 22 1 v pre.length (pre.map (.int .u32))∧(v=sN↔pre=[]))∧Below w.heap.size w W)
  (fun _ _ _=>False)
  (OwnFrom.and (Own.from (holdsRow_own w.heap.size w.heap.size 228 22 1 (fun pre:List Int=>pre.length) (fun pre=>pre.map (.int .u32)) (fun pre v=>v=sN↔pre=[])) _) (ownFrom_below (Nat.le_refl _) (by simp)))
  (fun _ _ _ _ _ hs _ _=>hs)
  ⟨⟨_,bO,World.ownsRow_nil _ _ _ _,by simp⟩,hB0⟩
  (fun x=> { tmps:=#[sN,.func (.func g) #[] lb,.pointer (some ⟨w.heap.size,0,none⟩),undef,sN,C3 x,.func (.func g) #[] lb,C3 x,undef,undef,undef,undef,undef],defers:=[] }) ?assign ?body ?done ?stop
 case assign=>
  intro l x W K y
  gi_wp2
  exact y
 case body=>
  rintro l pre x W ⟨⟨v,Y,hrow,hnil⟩,H⟩ hlt
  have hc:=Y.cell
  gi_wp2_with (gi_at_builtin;(refine wpListIn_append_own _ rfl _ _ 228 rfl w.heap.size 22 i0 (C3 0) 1 4 Tryz.underlying228 hi hz0 hz1 hz2 rfl (by decide) _ _ _ rfl (hrow.alloc _) ⟨W.heap.size,0,none⟩ 1 1 [C3 x] rfl rfl (cell_one_new _ _ _) (by simp [Value.oneCell']) (Nat.le_trans (by omega:pre.length+1≤1000000) (by decide)) (by omega) (by have:=H.size;simp;omega) ?_;intro v' w1 hown' hgrow _;obtain ⟨g',cap',rfl⟩:=ownsRow_succ hown';obtain ⟨J,hv2,hr2,hk2,hb2⟩:=Y.appended (by decide) hrow H.size (Nat.le_refl _) hown' hgrow;have hc1:=J.cell;have hf1:=J.frozen))
  have hkw:KeepsWalks W w1:=(KeepsWalks.alloc W _).trans (KeepsWalks.of_grownBy hgrow (vq (hrow.alloc _)))
  exact ⟨hk2.from _,hkw.trans (KeepsWalks.setCell _ _ _),⟨_,hv2,by simpa using hr2,by simp⟩,H.trans hb2⟩
 case done=>
  rintro D ys W hD hS ⟨⟨v,Y,hrow,hnil⟩,H⟩ y
  have hc:=Y.cell
  gi_wp2
  exact ⟨by simp,.inl ⟨_,_,rfl,run_takeDeferred y,⟨_,results_tmp rfl _ _ _,v,ys,rfl,hS,ownsRow_putObj hrow _ y rfl,hnil,H.trans (belowK_b (w:=w) (Nat.le_refl _) W D _ _ (by simp at hD;omega) y rfl rfl)⟩⟩⟩
 case stop=>
  rintro D c pre W _ _ h _
  exact h.elim
end Go.Proofs.YtlhpilgmeededaaGreatDoor
namespace Go.Proofs.YtlhpilgmeededaaGreatDoor
open Go Go.Den Go.RowKit Go.Proofs Go.Shelf
set_option maxHeartbeats 4000000
set_option maxRecDepth 8000
section
variable {w0 w:World} {L R R2 R3:List ao} {K:Value→World→Prop}
theorem vr {y:World} {e:TypeId} {size n:Nat} {v:Value} {xs:List Value} (hL:SH w0 w L) (hrow:y.ownsRow w.heap.size e size v n xs) (q:Below w.heap.size w y): ∃ a c,v= .slice a n c∧SH w0 y (Row e size v n xs::L):=by
 have hg:bX w y:=⟨q.os,q.tape,q.output,q.size,q.block⟩
 obtain ⟨hl,⟨rfl,rfl⟩ | ⟨g,cap,cur,rfl,hbase,H,hn,hcap,J,Y⟩⟩:=hrow
 ·obtain rfl:xs=[]:=List.eq_nil_of_length_eq_zero (by rw [hl,Nat.zero_mul])
  exact ⟨none,0,rfl,(hL.cZ hg).rowOf (sN) e size⟩
 ·have h1:SH w y [Cl g e cur.toList]:=⟨q,by simpa [Pt] using H,by simp,fun A hA b hx=>by
   rcases List.mem_singleton.1 hA with rfl
   have:b=g:=hx
   omega⟩
  refine ⟨_,_,rfl,SH.gO (A:=[Cl g e cur.toList]) ?_ (hL.join h1)⟩
  rw [←Y]
  exact .at g cur.toList n cap (by simpa using J) hn hcap
theorem c342 {bx b:Nat} {m:List (Int × Bool)} (H:SH w0 w L) [q:aR L bx 269 [.map (some b)] R] [q2:bP L b a7 m R2] (hlen:m.length≤1000000)
  (k: ∀ (ss:List Int) a c y,ss.Perm (m.map Prod.fst)→SH w0 y (Row 3 1 (.slice a ss.length c) ss.length (ints ss)::L)→K (.slice a ss.length c) y):D 342 [sN,.func (.func 296) #[] #[pt bx]] w K:=by
 have J:=H.ld (b:=bx) (i:=0) rfl
 have Y:(Mt a7 b m).holds w:=H.fY b (T:=a7)
 refine Calls.mono (callsIn_wide.1 (Aw Fence.wide 5 trivial rfl (by omega) 296 #[pt bx] trivial (enters_of Tryz.func296 (by kernel_rfl) rfl) _ _ hlen w (Av Fence.wide 4 trivial rfl (by omega) bx b w (World.block_lt_of_cell? w _ J) J Y))) ?_
 rintro e y ⟨v,ss,rfl,hp,hrow,_,hb⟩
 obtain ⟨a,c,rfl,h⟩:=vr H hrow hb
 exact ⟨_,rfl,k ss a c y hp h⟩
theorem c310 {bx b:Nat} {m:List (Int × ((Nat × Nat × Nat × Nat × Nat × Nat) × Int))} (H:SH w0 w L) [q:aR L bx 187 [.map (some b)] R] [q2:bP L b cw m R2] (hlen:m.length≤1000000)
  (k: ∀ (ss:List Int) a c y,ss.Perm (m.map Prod.fst)→SH w0 y (Row 22 1 (.slice a ss.length c) ss.length (ss.map fun z=>C3 z)::L)→K (.slice a ss.length c) y):D 310 [sN,.func (.func 311) #[] #[pt bx]] w K:=by
 have J:=H.ld (b:=bx) (i:=0) rfl
 have Y:(Mt cw b m).holds w:=H.fY b (T:=cw)
 refine Calls.mono (callsIn_wide.1 (Ay Fence.wide 5 trivial rfl (by omega) 311 #[pt bx] trivial (enters_of Tryz.func311 (by kernel_rfl) rfl) _ _ hlen w (Ax Fence.wide 4 trivial rfl (by omega) bx b w (World.block_lt_of_cell? w _ J) J Y))) ?_
 rintro e y ⟨v,ss,rfl,hp,hrow,_,hb⟩
 obtain ⟨a,c,rfl,h⟩:=vr H hrow hb
 exact ⟨_,rfl,k ss a c y hp h⟩
attribute [local irreducible] ay aQ aH aY a6 aW
theorem c229 {b:Nat} (q:SH w0 w L) (k: ∀ bx y,SH w0 y (Cl bx 269 [.map (some b)]::L)→K (.func (.func 296) #[] #[pt bx]) y):D 229 [.map (some b)] w K:=by
 refine s229 rfl<|ac<|q.az [Value.map (some b)] fun _ _ q=>ac<|ah<|k _ _ q.ae
theorem c251 {b:Nat} (q:SH w0 w L) (k: ∀ bx y,SH w0 y (Cl bx 187 [.map (some b)]::L)→K (.func (.func 311) #[] #[pt bx]) y):D 251 [.map (some b)] w K:=by
 refine s251 rfl<|ac<|q.az [Value.map (some b)] fun _ _ q=>ac<|ah<|k _ _ q.ae
theorem c294 {bx b:Nat} {m:List (Int × Bool)} (y:SH w0 w L) [q:aR L bx 269 [.map (some b)] R] [q2:bP L b a7 m R2] (hlen:m.length≤1000000)
  (k: ∀ (ss:List Int) a c H,ss.Perm (m.map Prod.fst)→SH w0 H (Row 3 1 (.slice a ss.length c) ss.length (ints ss)::L)→K (.slice a ss.length c) H):D 294 [.func (.func 296) #[] #[pt bx]] w K:=by
 refine s294 rfl<|ac<|ac<|c342 y ‹_› (fun _ _ _ _ _ y=>ah (k _ _ _ _ ‹_› y.ae))
theorem c250 {bx b:Nat} {m:List (Int × ((Nat × Nat × Nat × Nat × Nat × Nat) × Int))} (y:SH w0 w L) [q:aR L bx 187 [.map (some b)] R] [q2:bP L b cw m R2] (hlen:m.length≤1000000)
  (k: ∀ (ss:List Int) a c H,ss.Perm (m.map Prod.fst)→SH w0 H (Row 22 1 (.slice a ss.length c) ss.length (ss.map fun z=>C3 z)::L)→K (.slice a ss.length c) H):D 250 [.func (.func 311) #[] #[pt bx]] w K:=by
 refine s250 rfl<|ac<|ac<|c310 y ‹_› (fun _ _ _ _ _ y=>ah (k _ _ _ _ ‹_› y.ae))
end
end Go.Proofs.YtlhpilgmeededaaGreatDoor
namespace Go.Proofs.YtlhpilgmeededaaGreatDoor
open Go Go.Den Go.RowKit Go.Proofs
set_option maxHeartbeats 4000000
set_option maxRecDepth 8000
attribute [local irreducible] ay aQ aH aY a6 aW
abbrev dw (a b:Int):Int:=if a<b then -1 else if b<a then 1 else 0
section
variable {w0 w:World} {L R R2 R3:List ao} {K:Value→World→Prop}
theorem c297 {a:Int} (k:K (.bool false) w):D 297 [C4 a] w K:=by
 refine s297 rfl<|ac<|ac<|Df<|ah<|k
theorem c298 {a:Int} (k:K (.bool false) w):D 298 [C5 a] w K:=by
 refine s298 rfl<|ac<|ac<|Df<|ah<|k
theorem c232 {a b:Int} (k:K (C5 (dw a b)) w):D 232 [C4 a,C4 b] w K:=by
 refine s232 rfl<|ac<|ac<|c297<|ac<|c297<|aq<|ak<|aq<|ak<|aq<|ap (fun q=>?_) (fun q=>?_)
 ·refine ac<|ah ?_
  rwa [show dw a b= -1 by unfold dw;simp [q]] at k
 ·refine ak<|aq<|ap (fun y=>?_) (fun y=>?_)
  ·refine ac<|ah ?_
   rwa [show dw a b=1 by unfold dw;rw [if_neg q,if_pos (by omega)]] at k
  ·refine ak<|ac<|ah ?_
   rwa [show dw a b=0 by unfold dw;rw [if_neg q,if_neg (by omega)]] at k
theorem c233 {a b:Int} (k:K (C5 (dw a b)) w):D 233 [C5 a,C5 b] w K:=by
 refine s233 rfl<|ac<|ac<|c298<|ac<|c298<|aq<|ak<|aq<|ak<|aq<|ap (fun q=>?_) (fun q=>?_)
 ·refine ac<|ah ?_
  rwa [show dw a b= -1 by unfold dw;simp [q]] at k
 ·refine ak<|aq<|ap (fun y=>?_) (fun y=>?_)
  ·refine ac<|ah ?_
   rwa [show dw a b=1 by unfold dw;rw [if_neg q,if_pos (by omega)]] at k
  ·refine ak<|ac<|ah ?_
   rwa [show dw a b=0 by unfold dw;rw [if_neg q,if_neg (by omega)]] at k
theorem c231 {b:Nat} {x y:Int} {c:Nat} (J:SH w0 w L) [q:aR L b 3 [C5 x,C5 y] R] (k:K (C5 (if x≠0 then x else y)) w):D 231 [.slice (some ⟨b,0,none⟩) 2 c] w K:=by
 refine s231 rfl<|ac<|ac<|av<|ac<|aM ?_
 refine bU ([2,5,8]++List.range' 9 8) rfl [3,6,7,8] (fun (i:Nat)=>[C5 0,.slice (some ⟨b,0,none⟩) 2 c,C5 2,C5 i]) (fun i Y=>(i≤2∧(1≤i→x=0)∧(2≤i→y=0))∧w=Y) (fun i=>2 - i) 0 rfl ⟨by omega,rfl⟩ ?_
 rintro g i Y ⟨hi,rfl⟩
 rcases (by omega:i=0∨i=1∨i=2) with rfl | rfl | rfl
 ·refine aE [3,6,7,8] [C5 0,.slice (some ⟨b,0,none⟩) 2 c,C5 2,C5 (↑0)] rfl fun g=>ac ⟨true,decide_eq_true (by decide),av (ai (ak (aG (ac (⟨by decide,_,rfl,⟨_,J.ld (b:=b) rfl,ac (ap (fun H=>?_) (fun H=>?_))⟩⟩)))))⟩
  ·refine ai<|ac<|ah ?_
   rwa [if_pos ‹_›] at k
  ·exact ai<|ak<|au ⟨_,IntWalk.i64_in _ (by omega),⟨1,rfl,⟨⟨by omega,fun _=>by omega,fun h=>absurd h (by omega)⟩,rfl⟩,by omega⟩⟩
 ·refine aE [3,6,7,8] [C5 0,.slice (some ⟨b,0,none⟩) 2 c,C5 2,C5 (↑1)] rfl fun g=>ac ⟨true,decide_eq_true (by decide),av (ai (ak (aG (ac (⟨by decide,_,rfl,⟨_,J.ld (b:=b) rfl,ac (ap (fun H=>?_) (fun H=>?_))⟩⟩)))))⟩
  ·refine ai<|ac<|ah ?_
   rwa [if_neg (fun h=>h (hi.2.1 (by omega)))] at k
  ·exact ai<|ak<|au ⟨_,IntWalk.i64_in _ (by omega),⟨2,rfl,⟨⟨by omega,fun _=>hi.2.1 (by omega),fun _=>by omega⟩,rfl⟩,by omega⟩⟩
 ·refine aE [3,6,7,8] [C5 0,.slice (some ⟨b,0,none⟩) 2 c,C5 2,C5 (↑2)] rfl fun g=>ac ⟨false,decide_eq_false (by decide),av (ai (aS (ac (ah ?_))))⟩
  rwa [if_neg (fun h=>h (hi.2.1 (by omega))),hi.2.2 (by omega)] at k
def ez (T:List (Int × Int × Int × Int)) (a:Int):Int:=((aB T a).map (·.1)).getD 0
abbrev oH (T:List (Int × Int × Int × Int)) (a b:Int):Int:=if dw (ez T a) (ez T b)≠0 then dw (ez T a) (ez T b) else dw a b
abbrev qY (T:List (Int × Int × Int × Int)) (a:Int):Value:= .agg #[C4 (ez T a),C5 (((aB T a).map (·.2.1)).getD 0),C5 (((aB T a).map (·.2.2)).getD 0)]
theorem iE {o:Oper} {f:Fr} {x i:Operand} {tb:Nat} {a:Int} {T:List (Int × Int × Int × Int)} (q:o.op= .lookup 268 x i false) (y:ev f x= .map (some tb)) (hi:ev f i=C5 a) (H:cM a) (J:SH w0 w L) [q2:bP L tb bF T R3]:
  (execOp (ev f) o).run Tryz.prog w= .ok (.value (qY T a)) w:=by
 cases h:aB T a with
 | none=>simpa [qY,ez,h] using jK (T:=bF) q y hi H J h
 | some v=>simpa [qY,ez,h] using dC (T:=bF) q y hi H J h
theorem c230 {bx p tb:Nat} {a b:Int} {T:List (Int × Int × Int × Int)} {cs:List Value} (H:cM a) (J:cM b) (y:SH w0 w L) [q:aR L bx 184 [pt p] R] [q1:aR L p 275 cs R2] (h1:cs[1]?=some (.map (some tb))) [q2:bP L tb bF T R3]:
  D 230 [C5 a,C5 b,pt bx] w fun v w'=>v=C5 (oH T a b)∧ ∃ q os,w'=Go.Sort.grow (w.drewN q) os:=by
 refine s230 rfl<|ac<|aJ<|have y:=y.drew;⟨_,y.ld (b:=bx) rfl,⟨_,y.ld (b:=p) ‹_›,⟨_,iE rfl rfl rfl H y,⟨_,rfl,⟨_,y.ld (b:=bx) rfl,⟨_,y.ld (b:=p) ‹_›,⟨_,iE rfl rfl rfl J y,⟨_,rfl,c232 (⟨⟨iE rfl rfl rfl J y,y.ld (b:=p) ‹_›,y.ld (b:=bx) rfl,iE rfl rfl rfl H y,y.ld (b:=p) ‹_›,y.ld (b:=bx) rfl,trivial⟩,c233 (⟨⟨iE rfl rfl rfl J y,y.ld (b:=p) ‹_›,y.ld (b:=bx) rfl,iE rfl rfl rfl H y,y.ld (b:=p) ‹_›,y.ld (b:=bx) rfl,trivial⟩,⟨rfl,[C5 (dw (ez T a) (ez T b)),C5 (dw a b)],rfl,?_⟩⟩)⟩)⟩⟩⟩⟩⟩⟩⟩⟩
 obtain ⟨Y,w_24,hnb,y⟩:=y.ki (.cells [C5 (dw (ez T a) (ez T b)),C5 (dw a b)].toArray 3)
 exact ⟨Y,w_24,hnb,⟨⟨iE rfl rfl rfl J y,y.ld (b:=p) ‹_›,y.ld (b:=bx) rfl,iE rfl rfl rfl H y,y.ld (b:=p) ‹_›,y.ld (b:=bx) rfl,trivial⟩,c231 y (⟨⟨iE rfl rfl rfl J y,y.ld (b:=p) ‹_›,y.ld (b:=bx) rfl,iE rfl rfl rfl H y,y.ld (b:=p) ‹_›,y.ld (b:=bx) rfl,trivial⟩,ah (⟨rfl,1,#[_],by rw [←hnb.2,Go.Sort.alloc_eq_grow];rfl⟩)⟩)⟩⟩
end
end Go.Proofs.YtlhpilgmeededaaGreatDoor
namespace Go.Proofs.YtlhpilgmeededaaGreatDoor
open Go Go.Den Go.RowKit Go.Proofs Go.Shelf Go.Sort
set_option maxRecDepth 100000
def vt:Ren where
 f:=fun x=>match x with
  | 6=>295
  | 15=>344
  | 14=>343
  | 28=>377
  | 29=>244
  | 20=>369
  | 21=>370
  | 22=>371
  | 23=>372
  | 24=>373
  | 25=>374
  | 26=>375
  | 27=>376
  | 46=>388
  | 47=>389
  | 48=>390
  | 49=>391
  | 50=>392
  | 57=>394
  | n=>n
 t:=fun x=>match x with
  | 22=>147
  | 24=>3
  | 25=>416
  | 3=>3
  | 39=>208
  | 0=>0
  | 53=>22
  | 55=>29
  | 4=>4
  | 46=>561
  | 45=>560
  | 50=>144
  | 5=>5
  | 9=>9
  | 66=>575
  | 70=>250
  | 76=>582
  | 77=>583
  | n=>n
 g:=fun x=>x
theorem vu:SlLaysF.n6 Tryz.prog vt where
 mixed:=by kernel_rfl
 f6:=⟨"slices.SortFunc[[]int,int]",by kernel_rfl,Tryz.func295.trans (by kernel_rfl)⟩
 f14:=⟨"slices.pdqsortCmpFunc[int]",by kernel_rfl,Tryz.func343.trans (by kernel_rfl)⟩
 f15:=Tryz.func344.trans (by kernel_rfl)
 f20:=⟨"slices.insertionSortCmpFunc[int]",by kernel_rfl,Tryz.func369.trans (by kernel_rfl)⟩
 f21:=⟨"slices.heapSortCmpFunc[int]",by kernel_rfl,Tryz.func370.trans (by kernel_rfl)⟩
 f22:=⟨"slices.breakPatternsCmpFunc[int]",by kernel_rfl,Tryz.func371.trans (by kernel_rfl)⟩
 f23:=⟨"slices.choosePivotCmpFunc[int]",by kernel_rfl,Tryz.func372.trans (by kernel_rfl)⟩
 f24:=⟨"slices.reverseRangeCmpFunc[int]",by kernel_rfl,Tryz.func373.trans (by kernel_rfl)⟩
 f25:=⟨"slices.partialInsertionSortCmpFunc[int]",by kernel_rfl,Tryz.func374.trans (by kernel_rfl)⟩
 f26:=⟨"slices.partitionEqualCmpFunc[int]",by kernel_rfl,Tryz.func375.trans (by kernel_rfl)⟩
 f27:=⟨"slices.partitionCmpFunc[int]",by kernel_rfl,Tryz.func376.trans (by kernel_rfl)⟩
 f28:=Tryz.func377.trans (by kernel_rfl)
 f29:=Tryz.func244.trans (by kernel_rfl)
 f46:=⟨"slices.siftDownCmpFunc[int]",by kernel_rfl,Tryz.func388.trans (by kernel_rfl)⟩
 f47:=Tryz.func389.trans (by kernel_rfl)
 f48:=Tryz.func390.trans (by kernel_rfl)
 f49:=⟨"slices.medianAdjacentCmpFunc[int]",by kernel_rfl,Tryz.func391.trans (by kernel_rfl)⟩
 f50:=⟨"slices.medianCmpFunc[int]",by kernel_rfl,Tryz.func392.trans (by kernel_rfl)⟩
 f57:=⟨"slices.order2CmpFunc[int]",by kernel_rfl,Tryz.func394.trans (by kernel_rfl)⟩
 t0:=Tryz.underlying0
 a0:=Tryz.isAgg0
 z0:=Tryz.sizeOf0
 v0:=Tryz.zeroValue0
 t3:=Tryz.underlying3
 a3:=Tryz.isAgg3
 z3:=Tryz.sizeOf3
 v3:=Tryz.zeroValue3
 t4:=Tryz.underlying4
 a4:=Tryz.isAgg4
 z4:=Tryz.sizeOf4
 v4:=Tryz.zeroValue4
 t5:=Tryz.underlying5
 a5:=Tryz.isAgg5
 z5:=Tryz.sizeOf5
 v5:=Tryz.zeroValue5
 t9:=Tryz.underlying9
 a9:=Tryz.isAgg9
 z9:=Tryz.sizeOf9
 v9:=Tryz.zeroValue9
 t22:=Tryz.underlying147
 a22:=Tryz.isAgg147
 z22:=Tryz.sizeOf147
 v22:=Tryz.zeroValue147
 a24:=Tryz.isAgg3
 z24:=Tryz.sizeOf3
 t25:=Tryz.underlying416
 a25:=Tryz.isAgg416
 z25:=Tryz.sizeOf416
 v25:=Tryz.zeroValue416
 t39:=Tryz.underlying208
 a39:=Tryz.isAgg208
 z39:=Tryz.sizeOf208
 v39:=Tryz.zeroValue208
 t45:=Tryz.underlying560
 a45:=Tryz.isAgg560
 z45:=Tryz.sizeOf560
 v45:=Tryz.zeroValue560
 t46:=Tryz.underlying561
 a46:=Tryz.isAgg561
 z46:=Tryz.sizeOf561
 v46:=Tryz.zeroValue561
 t50:=Tryz.underlying144
 a50:=Tryz.isAgg144
 z50:=Tryz.sizeOf144
 v50:=Tryz.zeroValue144
 t53:=Tryz.underlying22
 a53:=Tryz.isAgg22
 z53:=Tryz.sizeOf22
 v53:=Tryz.zeroValue22
 t55:=Tryz.underlying29
 a55:=Tryz.isAgg29
 z55:=Tryz.sizeOf29
 v55:=Tryz.zeroValue29
 t66:=Tryz.underlying575
 a66:=Tryz.isAgg575
 z66:=Tryz.sizeOf575
 v66:=Tryz.zeroValue575
 t70:=Tryz.underlying250
 a70:=Tryz.isAgg250
 z70:=Tryz.sizeOf250
 v70:=Tryz.zeroValue250
 t76:=Tryz.underlying582
 a76:=Tryz.isAgg582
 z76:=Tryz.sizeOf582
 v76:=Tryz.zeroValue582
 t77:=Tryz.underlying583
 a77:=Tryz.isAgg583
 z77:=Tryz.sizeOf583
 v77:=Tryz.zeroValue583
abbrev iF:= {x:Int // cM x}
instance:Inhabited iF:=⟨⟨0,by decide⟩⟩
def encI (x:iF):Value:=C5 x.1
section
variable {T:List (Int × Int × Int × Int)}
abbrev jO (T:List (Int × Int × Int × Int)) (x y:iF):Int:=oH T x.1 y.1
theorem oJ (x y:iF):ltOf (jO T) x y=decide (ez T x.1<ez T y.1∨ez T x.1=ez T y.1∧x.1<y.1):=by
 unfold ltOf
 rw [decide_eq_decide]
 show oH T x.1 y.1<0↔_
 unfold oH dw
 split<;>(repeat' split)<;>omega
theorem Az:SWO (ltOf (jO T)) where
 irrefl x:=by rw [oJ];simp
 trans x y z h1 q:=by rw [oJ,decide_eq_true_eq] at*;omega
 ntrans x y z h1 q:=by rw [oJ,decide_eq_false_iff_not] at*;omega
theorem AA (x y:iF) (h1:ltOf (jO T) x y=false) (h2:ltOf (jO T) y x=false):x=y:=by
 rw [oJ,decide_eq_false_iff_not] at*
 exact Subtype.ext (by omega)
end
theorem AB {w:World} {g m:Nat} {os:Array Obj} {cur:Array Value} {e:TypeId} {fr:Nat × Nat} (d:Array iF) (q:w.heap[g]?=some (.cells cur e fr)):(sortWorld encI w g 0 m d os).heap[g]?=some (.cells (putCells encI 0 d cur) e fr):=by
 have y:g<w.heap.size:=(Array.getElem?_eq_some_iff.1 q).1
 unfold sortWorld
 rw [heap_grow_old _ _ (by simpa using y)]
 simp [putRow,mapBlock,Go.Sort.ahead,Array.getElem?_modify,q,onCells]
theorem AD {w:World} {g m:Nat} {os:Array Obj} (d:Array iF) {k:Nat} (y:k<w.heap.size) (q:k≠g):(sortWorld encI w g 0 m d os).heap[k]?=w.heap[k]?:=by
 unfold sortWorld
 rw [heap_grow_old _ _ (by simpa using y)]
 simp [putRow,mapBlock,Go.Sort.ahead,Array.getElem?_modify,Ne.symm q]
theorem AE (cur:Array Value) (ts:List iF) (h:ts.length≤cur.size):(putCells encI 0 ts.toArray cur).toList.take ts.length=ts.map encI:=by
 apply List.ext_getElem?
 intro j
 by_cases q:j<ts.length
 ·rw [List.getElem?_take_of_lt q,Array.getElem?_toList]
  simp [putCells,q,show j<cur.size by omega]
 ·rw [List.getElem?_take_eq_none (by omega),List.getElem?_eq_none (by simp;omega)]
theorem vw {w0 w:World} {R:List ao} {g m:Nat} {os:Array Obj} {cs:List Value} (d:Array iF) (H:SH w0 w (Cl g 3 cs::R)):SH w0 (sortWorld encI w g 0 m d os) (Cl g 3 (putCells encI 0 d cs.toArray).toList::R):=by
 refine SH.cQ (L:=[Cl g 3 cs]) (L':=[Cl g 3 (putCells encI 0 d cs.toArray).toList]) (F:=R) H rfl rfl rfl (by simp [sortWorld]) (fun _ J q=>AD d J fun e=>q (Cl g 3 cs) (by simp) e) (fun A y=>?_) (by simp) (fun A y _ Y=>?_) (by simp [Pt])
 ·rcases List.mem_singleton.1 y with rfl
  have:=AB (m:=m) (os:=os) d (H.holds (Cl g 3 cs) (.head _))
  simpa [Pt] using this
 ·rcases List.mem_singleton.1 y with rfl
  exact .inl ⟨Cl g 3 cs,by simp,Y⟩
theorem c295 {w0 w:World} {R R1 R2 R3:List ao} {K:Value→World→Prop} {a:Option Addr} {n c bx p tb:Nat} {zs:List Int} {T:List (Int × Int × Int × Int)} {cs:List Value} (hz: ∀ z∈zs,cM z) (hn:n≤1000000)
  (hL:SH w0 w (Row 3 1 (.slice a n c) n (ints zs)::R)) [q:aR R bx 184 [pt p] R1] [q1:aR R p 275 cs R2] (h1:cs[1]?=some (.map (some tb))) [q2:bP R tb bF T R3]
  (k: ∀ ts,ts.Perm zs→ ∀ J,SH w0 J (Row 3 1 (.slice a n c) n (ints ts)::R)→K (.tuple #[]) J):D 295 [.slice a n c,.func (.func 230) #[] #[pt bx]] w K:=by
 obtain ⟨A,ho,Y⟩:=hL.iS
 have hl:=ho.length
 rw [lA,Nat.mul_one] at hl
 generalize hx:ints zs=xs at ho hL
 cases ho with
 | none b=>
  refine Calls.mono (AnyF.slices_SortFunc_none (P:=Tryz.prog) (ρ:=vt) { vu with } a 0 _ w) ?_
  rintro e J ⟨rfl,rfl⟩
  exact ⟨_,rfl,k zs (.refl _) _ (by rw [hx];exact hL)⟩
 | «at» g cells n cap hcl hnc hcm=>
  have Y:SH w0 w (Cl g 3 cells::R):=Y
  have hg:=Y.eI g
  let d:List iF:=zs.pmap Subtype.mk hz
  have hd:d.map encI=ints zs:=by
   show (zs.pmap Subtype.mk hz).map encI=ints zs
   rw [List.map_pmap]
   exact List.pmap_eq_map ..
  have H:d.length=n:=by rw [←hl];exact List.length_pmap ..
  have hH:Holds encI w g 0 d.toArray:=fun j hj=>by
   have hj':j<n:=by simpa [H] using hj
   have h2:cells[j]?=some (encI d.toArray[j]!):=by
    have h3:(cells.take (n*1))[j]?=(d.map encI)[j]?:=by rw [hd,hx]
    rw [List.getElem?_take_of_lt (by omega)] at h3
    rw [h3,List.getElem?_map,List.getElem?_eq_getElem (by omega)]
    simp [getElem!_pos,show j<d.length by omega]
   refine ⟨?_,by simp [World.frozen?,hg]⟩
   have:=cell_of hg (0+j)
   rw [Nat.zero_add] at this ⊢
   exact this.trans h2
  have hcmp:CmpLays1 Tryz.prog 230 #[pt bx] encI (jO T) g 0 d.toArray.size w:=fun m os dk hs x y=>by
   have hS:=(vw (m:=m) (os:=os) dk Y).tail
   refine Calls.mono (c230 x.2 y.2 hS h1) ?_
   rintro e J ⟨v,rfl,rfl,q,os',hw⟩
   exact ⟨rfl,q,os',hw⟩
  have hsz:d.toArray.size=n:=by simp [H]
  have hs:=Any.slices_SortFunc_total vu encI (fun _=>rfl) (jO T) Az 230 #[pt bx] g 0 c d.toArray w (enters_of Tryz.func230 (by kernel_rfl) rfl) hcmp hH (eT hg) (by rw [hsz];omega) AA
  rw [hsz] at hs
  change Calls Tryz.prog 295 _ _ _ at hs
  refine Calls.mono hs ?_
  rintro e J ⟨rfl,m,os,rfl⟩
  have hperm:(d.mergeSort fun x y=>!(ltOf (jO T)) y x).Perm d:=List.mergeSort_perm ..
  generalize hts:(d.mergeSort fun x y=>!(ltOf (jO T)) y x)=ts at hperm
  have hSH:=vw (m:=m) (os:=os) ts.toArray Y
  have htl:ts.length=n:=by rw [hperm.length_eq,H]
  have hzs:d.map (·.1)=zs:=by
   show (zs.pmap Subtype.mk hz).map (·.1)=zs
   rw [List.map_pmap]
   simp
  refine ⟨_,rfl,k (ts.map (·.1)) (by rw [←hzs];exact hperm.map _) _ (SH.gO (A:=[Cl g 3 (putCells encI 0 ts.toArray cells.toArray).toList]) ?_ ?_)⟩
  ·have e1:ints (ts.map (·.1))=(putCells encI 0 ts.toArray cells.toArray).toList.take (n*1):=by
    have:=AE cells.toArray ts (by simp [htl];omega)
    rw [Nat.mul_one,←htl,this]
    simp [ints,encI]
   rw [e1]
   exact .at g _ n c (by simp [putCells];omega) hnc hcm
  ·exact hSH
end Go.Proofs.YtlhpilgmeededaaGreatDoor
namespace Go.Proofs.YtlhpilgmeededaaGreatDoor
open Go Go.Den Go.RowKit Go.Proofs
set_option maxHeartbeats 4000000
set_option maxRecDepth 8000
attribute [local irreducible] ay aQ aH aY a6 aW
section
variable {w0 w:World} {L R R1 R2 R3 R4:List ao} {K:Value→World→Prop} {p:Nat} {s:bQ}
theorem c228 {bf b bx p tb:Nat} {m:List (Int × Bool)} {T:List (Int × Int × Int × Int)} {cs:List Value} (hL:SH w0 w L) [q0:aR L bf 269 [.map (some b)] R] [q3:bP L b a7 m R4] (hlen:m.length≤1000000)
  [q:aR L bx 184 [pt p] R1] [q1:aR L p 275 cs R2] (h1:cs[1]?=some (.map (some tb))) [q2:bP L tb bF T R3]
  (k: ∀ (ts:List Int) a c w',ts.Perm (m.map Prod.fst)→SH w0 w' (Row 3 1 (.slice a ts.length c) ts.length (ints ts)::L)→K (.slice a ts.length c) w'):D 228 [.func (.func 296) #[] #[pt bf],.func (.func 230) #[] #[pt bx]] w K:=by
 have hG:=hL.gv b (T:=a7)
 refine s228 rfl<|ac<|ac<|c294 hL ‹_› (fun y _ _ _ H hL=>ac ?_)
 have hz: ∀ z∈y,cM z:=fun z hz=>by
  obtain ⟨q,hq,rfl⟩:=List.mem_map.1 (H.mem_iff.1 hz)
  exact hG q hq
 have hn:y.length=m.length:=by rw [H.length_eq,List.length_map]
 refine c295 hz (by omega) hL ‹_› (fun J Y _ hL=>?_)
 have e:J.length=y.length:=Y.length_eq
 refine ac<|ah ?_
 rw [←e] at hL ⊢
 exact k J _ _ _ (Y.trans H) hL
theorem ni {l m:List Int} (h:l.Nodup) (q: ∀ x∈l,x∈m):l.length≤m.length:=by
 induction l generalizing m with
 | nil=>exact Nat.zero_le _
 | cons a r ih=>
  have H:=List.nodup_cons.1 h
  have h1:=ih (m:=m.erase a) H.2 fun x y=>(List.mem_erase_of_ne (fun e=>by rw [e] at y;exact H.1 y)).2 (q x (.tail _ y))
  rw [List.length_erase_of_mem (q a (.head _))] at h1
  have:=List.length_pos_of_mem (q a (.head _))
  simp only [List.length_cons]
  omega
theorem kJ {ν:Type} {m:List (Int × ν)} {k:Int} :aB m k≠none↔k∈m.map Prod.fst:=by
 constructor
 ·intro h
  cases e:aB m k with
  | none=>exact absurd e h
  | some v=>exact List.mem_map.2 ⟨(k,v),cU e,rfl⟩
 ·intro h e
  obtain ⟨q,y,rfl⟩:=List.mem_map.1 h
  exact p5.1 e q.2 y
theorem c171 {now:Nat} (hn:now<18446744073709551616) (hlen:s.T.length≤1000000) (hO:OT s) (H:SH w0 w L) [q:aC (a8 p) L s R] [hz:cL R]
  (k: ∀ (ts:List Int) a c (e:Int) w',(ts.Nodup∧(∀ t∈ts,aB s.T t≠none)∧ ∀ t∈ts,cM t)→SH w0 w' (Row 3 1 (.slice a ts.length c) ts.length (ints ts)::R)→K (.tuple #[.slice a ts.length c,C5 e]) w'):D 171 [pt p,C4 now] w K:=by
 obtain ⟨hs,H⟩:=SH.ec H p
 have hn0:=hs.now0
 have fin: ∀ (e:Int) w',SH w0 w' R→K (.tuple #[sN,C5 e]) w':=fun e w' h=>k [] none 0 e w' ⟨.nil,by simp,by simp⟩ (h.rowOf (sN) 3 1)
 refine s171 rfl<|ac<|H.az [pt p] fun J _ H=>aG<|ac<|ap (fun h_15=>?_) (fun h_15=>?_)
 ·refine ai<|ac<|ah<|fin _ _ H.ae
 ·refine ai<|ac<|H.C9 (b:=J) rfl ⟨_,H.ld (b:=p) ‹_›,Dt [1,2,4,5,17,21,32] [C4 now,pt J,sN,C5 0,C4 now,C4 s.now,undef] fun g=>ap (fun h_22=>?_) (fun h_22=>?_)⟩
  ·refine ai<|ac<|ah<|fin _ _ H.ae
  ·refine ai<|ak ?_
   have H:=SH.dK (p:=p) (s:=s) (R:=Cl J 184 [pt p]::R) H.ae hs
   refine bt ([6,7,8,9]++List.range' 23 19) rfl [1,2] (fun (_:bQ)=>[C4 now,pt J]) (fun x w'=>(TK s.T x.T∧OT x)∧SH w0 w' (a8 p x::Cl J 184 [pt p]::R)) ?_ ?_
   ·refine aM ?_
    refine bU ([6,7,8,9]++List.range' 23 19) rfl [1,2] (fun (_:bQ)=>[C4 now,pt J]) (fun x w'=>(TK s.T x.T∧OT x)∧SH w0 w' (a8 p x::Cl J 184 [pt p]::R)) mY s rfl ⟨⟨fun _ h=>h,hO⟩,H⟩ ?_
    rintro g x w4 ⟨⟨htk,hot⟩,H⟩
    refine Dv [1,2] [C4 now,pt J] fun g=>aM<|ac<|H.C9 (b:=J) rfl<|c226 H ?_ (fun i_25 j_25 f_25 ⟨h1,h2,h3,h4⟩ x_25 w_25 H=>?_)
    ·exact aq<|Dt [1,2,6,7,8,9] [C4 now,pt J,C5 0,C5 0,C4 0,.bool false] fun g=>Dj<|pa 5 rfl<|aS ⟨x,rfl,⟨htk,hot⟩,H⟩
    ·refine aq<|Dt [1,2,6,7,8,9] [C4 now,pt J,C5 i_25,C5 j_25,C4 (eO x.now i_25 j_25),.bool true] fun g=>Dj<|ap (fun h_35=>?_) (fun h_35=>?_)
     ·exact aS ⟨x,rfl,⟨htk,hot⟩,H⟩
     ·exact ak<|au<|H.C9 (b:=J) rfl<|c227 h1 h2 h3 h4 x_25 H fun s' w' h H=>⟨s',rfl,⟨⟨fun u hu=>htk u (h.2.2.1 u hu),h.2.2.2 hot⟩,H.ae⟩,h.2.1⟩
   rintro g x w4 ⟨⟨htk,hot⟩,H⟩
   obtain ⟨hs,H⟩:=SH.ec H p
   have ht1:=hs.t1
   have ho1:=hs.o1
   have hA:=H.apart x.ob (T:=a7)
   have hnd:(x.O.map Prod.fst).Nodup:=hA
   have hkeys: ∀ t∈x.O.map Prod.fst,aB s.T t≠none:=fun t ht=>by
    obtain ⟨q,hq,rfl⟩:=List.mem_map.1 ht
    exact htk _ (hot q hq)
   have hlen2:x.O.length≤1000000:=by
    have:=ni hnd fun t ht=>kJ.1 (hkeys t ht)
    rw [List.length_map,List.length_map] at this
    omega
   have hcl:0+1≤x.cs.length:=by rw [hs.len];decide
   refine Dv [1,2] [C4 now,pt J] fun g=>ac<|H.C9 (b:=J) rfl<|pa 1 rfl<|H.cp (b:=p) (o:=0) [C4 now] (fun w_3 H=>?_) (hl:=Nat.ble_eq_true_of_le hcl)
   have H:SH w0 w_3 (Cl p 275 (x.cs.set 0 (C4 now))::_):=H
   have ht2:(x.cs.set 0 (C4 now))[1]?=some (.map (some x.tb)):=(cr (by decide)).trans ht1
   have ho2:(x.cs.set 0 (C4 now))[717]?=some (.map (some x.ob)):=(cr (by decide)).trans ho1
   refine ac<|H.C9 (b:=J) rfl ⟨_,H.ld (b:=p) ‹_›,Dt [2,49] [pt J,Value.map (some x.ob)] fun g=>c229 H (fun _ _ H=>c228 H ‹_› ‹_› (fun y a_52 Y _ h_524 H=>av (ac (aM ?_))))⟩
   have hk: ∀ t∈y,cM t:=fun t ht=>by
    obtain ⟨q,hq,rfl⟩:=List.mem_map.1 (h_524.mem_iff.1 ht)
    exact H.gv x.ob (T:=a7) q hq
   have hts:y.length≤1000000:=by rw [h_524.length_eq,List.length_map];exact hlen2
   refine bU ([12]++List.range' 55 10) rfl [2,10,53,54,55] (fun (i:Nat × List (Int × Int × Int × Int))=>[pt J,.slice a_52 y.length Y,.slice a_52 y.length Y,C5 y.length,C5 i.1]) (fun i w'=>i.1≤y.length∧SH w0 w' (Row 3 1 (.slice a_52 y.length Y) y.length (ints y)::Cl J 184 [pt p]::Cl p 275 (x.cs.set 0 (C4 now))::Mt bF x.tb i.2::Mt a7 x.ob x.O::R)) (fun i=>y.length - i.1) (0,x.T) rfl ⟨Nat.zero_le _,H.ae⟩ ?_
   rintro g ⟨i,T⟩ w6 ⟨hi,H⟩
   simp only at hi H
   refine Dv [2,10,53,54,55] [pt J,.slice a_52 y.length Y,.slice a_52 y.length Y,C5 y.length,C5 i] fun g=>ac<|ap (fun h_56=>?_) (fun h_56=>?_)
   ·refine av<|ai<|ak<|aG<|ac ?_
    obtain ⟨ad_57,rfl⟩:=H.dW a_52
    exact ⟨by omega,_,rfl,⟨_,H.fe (ints_at (by omega)),au (H.C9 (b:=J) rfl (⟨_,H.ld (b:=p) ‹_›,aZ (gd rfl rfl rfl (hk _ (gV (by omega))) H rfl fun _ H=>Dt [2,10,53,54,55] [pt J,.slice (some ad_57) y.length Y,.slice (some ad_57) y.length Y,C5 y.length,C5 i] fun g=>au (Db (⟨(i+1,aO T (y.getD (i:Int).toNat 0)),rfl,⟨by show i+1≤_;omega,H.ae⟩,by show y.length - (i+1)<y.length - i;omega⟩)))⟩))⟩⟩
   ·exact av<|ai<|aS<|ac<|H.C9 (b:=J) rfl ⟨_,H.ld (b:=p) ‹_›,aZ (zC rfl rfl H fun _ H=>ac (ah (k y _ _ _ _ ⟨h_524.nodup_iff.2 hnd,fun t ht=>hkeys t (h_524.mem_iff.1 ht),hk⟩ H.ae)))⟩
end
end Go.Proofs.YtlhpilgmeededaaGreatDoor
namespace Go.Proofs.YtlhpilgmeededaaGreatDoor
open Go Go.Den Go.RowKit Go.Proofs
set_option maxHeartbeats 4000000
set_option maxRecDepth 8000
attribute [local irreducible] ay aQ aH aY a6 aW
instance el228:jM Tryz.prog 228 22 (C3 0) 1 4:=⟨⟨Tryz.underlying228,by kernel_rfl,rfl,by decide⟩,by decide⟩
theorem TK.len {T T':List (Int × Int × Int × Int)} (q:cn T') (h:TK T T'):T'.length≤T.length:=by
 have:=ni (l:=T'.map Prod.fst) (m:=T.map Prod.fst) q fun x y=>kJ.1 (h x (kJ.2 y))
 rwa [List.length_map,List.length_map] at this
theorem wrap_u32 (z:Int):0≤IntKind.u32.wrap z∧IntKind.u32.wrap z<4294967296:=by simp [IntKind.wrap,IntKind.bits,IntKind.signed];omega
section
variable {w0 w:World} {L R R1 R2 R3 R4:List ao} {K:Value→World→Prop} {p:Nat} {s:bQ}
theorem c117 {now:Nat} (hn:now<18446744073709551616) (h0:s.now=0) (hlen:s.T.length≤1000) (H:SH w0 w L) [q:aC (a8 p) L s R] [hz:cL R]
  (k: ∀ (ips:List Int) a c w',(∀ t∈ips,0≤t∧t<4294967296)→ips.length≤1000→SH w0 w' (Row 22 1 (.slice a ips.length c) ips.length (ips.map fun z=> .int .u32 z)::a8 p s::R)→K (.slice a ips.length c) w'):D 117 [pt p,.int .u64 now] w K:=by
 refine s117 rfl<|ac<|ac ?_
 refine c170 (by assumption) H (fun p2_14 s2_14 _ h_143 H=>ac (⟨_,cq,?_⟩))
 refine c172 H (fun _ H=>ir fun z_21 _ _ _=>?_)
 obtain ⟨zn,rfl⟩: ∃ n:Nat,z_21=n:=⟨z_21.toNat,by omega⟩
 have hl2:=h_143.2.1.len ((SH.ec H p2_14).2.apart s2_14.tb (T:=bF))
 refine c171 (p:=p2_14) (s:=s2_14) (by omega) (by omega) h_143.2.2 H (fun y a_22 J _ _ h_225 H=>?_)
 have htl:y.length≤1000:=by
  have:=ni h_225.1 (m:=s.T.map Prod.fst) fun t ht=>kJ.1 (h_143.2.1 t (h_225.2.1 t ht))
  rw [List.length_map] at this
  omega
 refine ac<|ag [0,1,4,6] [pt p,.int .u64 now,.slice none 0 0,.slice a_22 y.length J] rfl fun g=>av ?_
 refine ac<|aM ?_
 have H:=H.rowOf (.slice none 0 0) 22 1
 refine bU ([8,10,11,12]++List.range' 27 20) rfl [0,1,8,25,26,27] (fun (x:Nat × Option Addr × Nat × Nat × List Int)=>[pt p,.int .u64 now,.slice x.2.1 x.2.2.2.1 x.2.2.1,.slice a_22 y.length J,.int .i64 y.length,.int .i64 x.1])
  (fun x w'=>(x.1≤y.length∧x.2.2.2.1≤x.1∧x.2.2.2.2.length=x.2.2.2.1∧ ∀ t∈x.2.2.2.2,0≤t∧t<4294967296)∧SH w0 w' (Row 22 1 (.slice x.2.1 x.2.2.2.1 x.2.2.1) x.2.2.2.1 (x.2.2.2.2.map fun z=> .int .u32 z)::Row 3 1 (.slice a_22 y.length J) y.length (ints y)::a8 p s::R)) (fun x=>y.length - x.1) (0,none,0,0,[]) rfl ⟨⟨Nat.zero_le _,Nat.le_refl _,rfl,by simp⟩,H⟩ ?_
 rintro g ⟨i,a,c,n,ips⟩ w6 ⟨⟨hi,hle,hn,hip⟩,H⟩
 simp only at hi hle hn hip H
 refine aE [0,1,8,25,26,27] [pt p,.int .u64 now,.slice a n c,.slice a_22 y.length J,.int .i64 y.length,.int .i64 i] rfl fun g=>ac<|ap (fun h_28=>?_) (fun h_28=>?_)
 rotate_left
 ·refine av<|ai<|aS ?_
  refine ac<|ah ?_
  subst hn
  exact k _ _ _ _ hip (by omega) H.ae
 have hki:cM (y.getD (i:Int).toNat 0):=h_225.2.2 _ (gV (show i<y.length by omega))
 generalize hz:y.getD (i:Int).toNat 0=z at hki
 have hzr:=wrap_u32 z
 have nx: ∀ x:List Int,x=ips++[IntKind.u32.wrap z]→x.length=n+1∧(∀ t∈x,0≤t∧t<4294967296)∧(x.map fun z=>Value.int .u32 z)=(ips.map fun z=>Value.int .u32 z)++[Value.int .u32 (IntKind.u32.wrap z)]:=fun x e=>by
  subst e
  refine ⟨by simp [hn],fun t ht=>?_,by simp⟩
  rcases List.mem_append.1 ht with h | h
  ·exact hip t h
  ·rw [List.mem_singleton.1 h];exact hzr
 obtain ⟨hx1,hx2,hx3⟩:=nx _ rfl
 refine av<|ai<|ak ?_
 obtain ⟨Y,rfl⟩:=H.dW a_22
 refine bt ([8,10,11,12]++List.range' 29 17) rfl [0,1,8,25,26,27] (fun (x:Option Addr × Nat × Nat × List Int)=>[pt p,.int .u64 now,.slice x.1 x.2.2.1 x.2.1,.slice (some Y) y.length J,.int .i64 y.length,.int .i64 i])
  (fun x w'=>(x.2.2.1≤i+1∧x.2.2.2.length=x.2.2.1∧ ∀ t∈x.2.2.2,0≤t∧t<4294967296)∧SH w0 w' (Row 22 1 (.slice x.1 x.2.2.1 x.2.1) x.2.2.1 (x.2.2.2.map fun z=> .int .u32 z)::Row 3 1 (.slice (some Y) y.length J) y.length (ints y)::a8 p s::R)) ?_ ?_
 rotate_left
 ·rintro g ⟨a',c',n',ips'⟩ w7 ⟨⟨h1,h2,h3⟩,H⟩
  exact au ⟨_,IntWalk.i64_in _ (by omega),⟨(i+1,a',c',n',ips'),rfl,⟨⟨by show i+1≤_;omega,h1,h2,h3⟩,H⟩,by show y.length - (i+1)<y.length - i;omega⟩⟩
 refine aM<|ac ⟨by omega,_,rfl,?_⟩
 refine ⟨.int .i64 z,by rw [←hz];exact H.fe (ints_at (by omega)),ac (c173 (by assumption) H (fun _ w_34 H=>?_) (fun due_34 _ _ _ _ w_34 H=>?_))⟩
 ·refine ac<|ag [0,1,8,10,11,25,26,27] [pt p,.int .u64 now,.slice a n c,.int .i64 z,.int .u64 0,.slice (some Y) y.length J,.int .i64 y.length,.int .i64 i] rfl fun g=>⟨_,cq,?_⟩
  refine ⟨true,decide_eq_true (by omega),ai (au ?_)⟩
  refine ⟨_,rfl,ag [0,1,8,25,26,27,41,43] [pt p,.int .u64 now,.slice a n c,.slice (some Y) y.length J,.int .i64 y.length,.int .i64 i,.slice a n c,.int .u32 (IntKind.u32.wrap z)] rfl fun g=>⟨rfl,[.int .u32 (IntKind.u32.wrap z)],rfl,?_⟩⟩
  refine H.an fun b_44 w_44 H=>aZ (dL (v:= .slice a n c) (u:= .slice (some ⟨b_44,0,none⟩) 1 1) rfl rfl rfl H (H.fa rfl) rfl (by omega) fun a_45 c_45 w_45 H=>?_)
  have H:SH w0 _ (Row 22 1 (.slice a_45 (n+1) c_45) (n+1) ((ips.map fun z=>Value.int .u32 z)++[Value.int .u32 (IntKind.u32.wrap z)])::Row 3 1 (.slice (some Y) y.length J) y.length (ints y)::a8 p s::R):=H.ae
  rw [←hx3] at H
  exact ⟨(a_45,c_45,n+1,ips++[IntKind.u32.wrap z]),rfl,⟨by show n+1≤i+1;omega,hx1,hx2⟩,H⟩
 ·refine ac<|ag [0,1,8,10,11,25,26,27] [pt p,.int .u64 now,.slice a n c,.int .i64 z,.int .u64 due_34,.slice (some Y) y.length J,.int .i64 y.length,.int .i64 i] rfl fun g=>⟨_,cq,?_⟩
  refine ap (fun h_40=>?_) (fun h_40=>?_)
  ·refine ai<|au ⟨_,rfl,?_⟩
   refine ag [0,1,8,25,26,27,41,43] [pt p,.int .u64 now,.slice a n c,.slice (some Y) y.length J,.int .i64 y.length,.int .i64 i,.slice a n c,.int .u32 (IntKind.u32.wrap z)] rfl fun g=>⟨rfl,[.int .u32 (IntKind.u32.wrap z)],rfl,H.an fun b_44 w_44 H=>?_⟩
   refine aZ (dL (v:= .slice a n c) (u:= .slice (some ⟨b_44,0,none⟩) 1 1) rfl rfl rfl H (H.fa rfl) rfl (by omega) fun a_45 c_45 w_45 H=>?_)
   have H:SH w0 _ (Row 22 1 (.slice a_45 (n+1) c_45) (n+1) ((ips.map fun z=>Value.int .u32 z)++[Value.int .u32 (IntKind.u32.wrap z)])::Row 3 1 (.slice (some Y) y.length J) y.length (ints y)::a8 p s::R):=H.ae
   rw [←hx3] at H
   exact ⟨(a_45,c_45,n+1,ips++[IntKind.u32.wrap z]),rfl,⟨by show n+1≤i+1;omega,hx1,hx2⟩,H⟩
  ·exact ai<|ak ⟨(a,c,n,ips),rfl,⟨by show n≤i+1;omega,hn,hip⟩,H.ae⟩
end
end Go.Proofs.YtlhpilgmeededaaGreatDoor
namespace Go.Proofs.YtlhpilgmeededaaGreatDoor
open Go Go.Den
set_option maxHeartbeats 4000000
set_option maxRecDepth 8000
section
structure bE where
 code:Nat
 v:Value
 bs:List Nat
def cz (l:List bE):List Value:=l.flatMap fun x=>[C1 x.code,x.v]
def eB (l:List bE):List (Value × List Nat):=l.map fun x=>(x.v,x.bs)
abbrev lE (x:bE):Prop:=x.code<256∧x.bs.length≤1000
abbrev oL (l:List bE):Prop:=l.length≤2000∧ ∀ x∈l,lE x
theorem vx (l:List bE):(cz l).length=l.length*2:=by
 induction l with
 | nil=>rfl
 | cons B r ih=>simp only [cz,List.flatMap_cons,List.length_append,List.length_cons,List.length_nil] at ih ⊢;omega
theorem vy (a b:List bE):cz (a++b)=cz a++cz b:=by simp [cz]
theorem qZ: ∀ (l:List bE) (i:Nat) (B:bE),l[i]?=some B→(cz l)[i*2]?=some (C1 B.code)∧(cz l)[i*2+1]?=some B.v
 | [],i,B,h=>by simp at h
 | C::r,0,B,h=>by simp at h;subst h;exact ⟨rfl,rfl⟩
 | C::r,i+1,B,h=>by
  have:=qZ r i B (by simpa using h)
  have e:(i+1)*2=i*2+1+1:=by omega
  have f:cz (C::r)=C1 C.code::C.v::cz r:=rfl
  rw [e,f]
  simpa using this
def Os (v:Value) (l:List bE):ao:=bi [Rd 2 v (cz l),bj (eB l)]
def AF (w:World) (v:Value) (l:List bE):Prop:=(∃ n,Reads w 2 v n (cz l))∧ ∀ x∈l,Rb w x.v x.bs
class dG (L:List ao) (v:Value) (l:outParam (List bE)):Prop where
 get: ∀ {w0 w:World},SH w0 w L→AF w v l
instance osHead (v:Value) (l:List bE) (L:List ao):dG (Os v l::L) v l:=⟨fun h=>by
 have h1:=(h.holds (Os v l) (.head _)).1
 exact ⟨h1 (Rd 2 v (cz l)) (.head _) (v,cz l) (.head _),fun x q=>h1 (bj (eB l)) (.tail _ (.head _)) (x.v,x.bs) (List.mem_map.2 ⟨x,q,rfl⟩)⟩⟩
instance (priority:=low) osTail (A:ao) (L:List ao) (v:Value) (l:List bE) [h:dG L v l]:dG (A::L) v l:=⟨fun k=>h.get k.tail⟩
section
variable {w0 w:World} {L R R2 R3:List ao} {K:Value→World→Prop} {v u:Value} {bs:List Nat} {l:List bE}
theorem SH.oM {e:TypeId} {n:Nat} (q:SH w0 w (Row e 2 v n (cz l)::bj (eB l)::L)):SH w0 w (Os v l::L):=by
 have h1:SH w0 w (Row e 2 v n (cz l)::cj 2 []::bj (eB l)::L):=(q.nN 2 [] (fun _ y=>by simp at y)).perm (.swap _ _ _)
 exact SH.star (l:=[Rd 2 v (cz l),bj (eB l)]) h1.vc
theorem SH.oN (H:SH w0 w L) [h:dG L v l]: ∃ a c,v= .slice a l.length c∧dV L a 2 l.length (cz l)∧(∀ x∈l,aD L x.v x.bs):=by
 obtain ⟨⟨n,q⟩,hb⟩:=h.get H
 have y:n=l.length:=by have:=q.1;rw [vx] at this;omega
 subst y
 obtain ⟨hl,a,c,rfl,ha,hc⟩:=q
 refine ⟨a,c,rfl,⟨fun {w0 w} k=>?_⟩,fun x J=>⟨fun {w0 w} k=>(h.get k).2 x J⟩⟩
 obtain ⟨⟨n,q⟩,_⟩:=h.get k
 have y:n=l.length:=by have:=q.1;rw [vx] at this;omega
 subst y
 exact ⟨c,q⟩
theorem SH.q9 {ad:Addr} {i:Nat} {B:bE} (y:SH w0 w L) [h:dV L (some ad) 2 l.length (cz l)] (H:l[i]?=some B):cE w (ad.add (i*2)) 0 2=some [C1 B.code,B.v]:=
 y.oE rfl fun t _ q=>by
  have e:=qZ l i B H
  match t,q with
  | 0,q=>simp only [List.getElem?_cons_zero,Option.some.injEq] at q;subst q;exact e.1
  | 1,q=>simp only [List.getElem?_cons_succ,List.getElem?_cons_zero,Option.some.injEq] at q;subst q;exact e.2
  | t+2,q=>simp at q
theorem SH.AG {ad:Addr} {i:Nat} {B:bE} (q:SH w0 w L) [h:dV L (some ad) 2 l.length (cz l)] (y:l[i]?=some B):w.cell? ((ad.add (i*2)).add 1)=some B.v:=by
 obtain ⟨c,_,a',c',e,_,H⟩:=h.get q
 cases e
 rw [oD]
 exact H ad rfl (i*2+1) B.v (qZ l i B y).2
theorem fk381:fG Tryz.prog 381=true:=by kernel_rfl
instance el379:jM Tryz.prog 379 496 (.agg #[C1 0,sN]) 2 32:=⟨⟨Tryz.underlying379,by kernel_rfl,rfl,by decide⟩,by decide⟩
attribute [local irreducible] ay aQ aH aY a6 aW aK aV num be over nb rowOf
theorem c381 {bx code k:Nat} (y:SH w0 w L) [q:aR L bx 5 [C1 k] R] (kk: ∀ b Y,SH w0 Y L→K (.bool b) Y):D 381 [.agg #[C1 code,v],pt bx] w K:=by
 refine s381 rfl<|ac<|y.az [C1 code,v] fun H _ y=>ac<|y.C9 (b:=H) rfl<|y.C9 (b:=bx) rfl<|ap (fun J=>?_) (fun J=>?_)
 ·refine ah<|kk _ _ y.ae
 ·refine ah<|kk _ _ y.ae
theorem c380 {bx k:Nat} (y:SH w0 w L) [h:dG L v l] [q:aR L bx 5 [C1 k] R] (hl:l.length≤2000) (kk: ∀ (z:Int) Y,(z= -1∨ ∃ i:Nat,z=i∧i<l.length)→SH w0 Y L→K (C5 z) Y):D 380 [v,.func (.func 381) #[] #[pt bx]] w K:=by
 obtain ⟨a,c,rfl,hrw,hby⟩:=SH.oN y (v:=v)
 refine s380 rfl<|ac<|av<|ac<|aM ?_
 refine bU (4::5::List.range' 8 11) rfl [0,1,4,6,7,8] (fun (i:Nat)=>[.slice a l.length c,.func (.func 381) #[] #[pt bx],C5 0,.slice a l.length c,C5 l.length,C5 i]) (fun i Y=>i≤l.length∧SH w0 Y L) (fun i=>l.length - i) 0 rfl ⟨Nat.zero_le _,y⟩ ?_
 rintro g i w6 ⟨hi,y⟩
 refine aE [0,1,4,6,7,8] [.slice a l.length c,.func (.func 381) #[] #[pt bx],C5 0,.slice a l.length c,C5 l.length,C5 i] rfl fun _=>ac<|ap (fun h_9=>?_) (fun h_9=>?_)
 ·have H:i<l.length:=by omega
  have hB:l[i]?=some l[i]:=List.getElem?_eq_getElem H
  generalize l[i]=B at hB
  obtain ⟨aa,rfl⟩:=y.dW a
  refine av<|ai<|ak<|aG<|ac<|ac ⟨by omega,_,rfl,⟨_,SH.q9 y hB,⟨fk381,c381 y (fun J _ y=>ai ?_)⟩⟩⟩
  cases J
  ·exact ak<|au<|Db ⟨i+1,rfl,⟨by omega,y⟩,by omega⟩
  ·exact ac<|ah<|kk _ _ (.inr ⟨i,rfl,H⟩) y
 ·exact av<|ai<|aS<|ac<|ah<|kk _ _ (.inl rfl) y
theorem c355 {code:Nat} (q:SH w0 w L) [h:dG L v l] (hl:oL l) (k1: ∀ bs a c H,bs.length≤1000→SH w0 H (By (sl a c bs) bs::L)→K (.tuple #[sl a c bs,.bool true]) H) (k2: ∀ H,SH w0 H L→K (.tuple #[sN,.bool false]) H):D 355 [v,C1 code] w K:=by
 obtain ⟨hl1,Y⟩:=hl
 obtain ⟨a,c,rfl,hrw,hby⟩:=SH.oN q (v:=v)
 refine s355 rfl<|ac<|q.az [C1 code] fun _ _ q=>ac<|c380 (v:= .slice a l.length c) q ‹_› (fun y _ _ q=>aq (ap (fun J=>?_) (fun J=>?_)))
 ·refine ac<|ah<|k2 _ q.ae
 ·refine ak<|ac ?_
  obtain ⟨ad_14,rfl⟩:=q.dW a
  refine ⟨by omega,_,rfl,?_⟩
  obtain ⟨i,rfl,hil⟩: ∃ i:Nat,y=i∧i<l.length:=by
   rcases (by assumption:y= -1∨ ∃ i:Nat,y=i∧i<l.length) with h | h
   ·omega
   ·exact h
  have hB:l[i]?=some l[i]:=List.getElem?_eq_getElem hil
  have hm:=List.mem_of_getElem? hB
  generalize l[i]=B at hB hm
  haveI:=hby B hm
  have hbl:=(Y B hm).2
  refine ⟨_,SH.AG q hB,c34 (v:=B.2) q (fun _ _ _ _ q=>ah (k1 _ _ _ _ ‹_› q.ae))⟩
theorem c314 {code:Nat} {size:Nat} (J:SH w0 w L) [h:dG L v l] (hl:oL l) (hsz:1≤size∧size≤4) (k: ∀ (n:Nat) b w',n<4294967296→SH w0 w' L→K (.tuple #[C3 n,.bool b]) w'):D 314 [v,C1 code,C5 size] w K:=by
 refine s314 rfl<|ac<|ac<|c355 (v:=v) J ‹_› (fun q y H Y _ J=>?_) (fun Y J=>?_)
 ·refine aq<|Dt [2,6,7,8,9,20,24] [C5 size,C3 0,.bool false,sl y H q,.bool true,undef,undef] fun g=>Dj<|Df<|pa 3 rfl<|ap (fun h_28=>?_) (fun h_28=>?_)
  ·refine ac<|Dt [2,6,7,8] [C5 size,C3 0,.bool false,sl y H q] fun g=>ah<|k _ _ _ (by decide) J.ae
  ·refine ak<|ac<|Dt [2,6,7,8] [C5 size,C3 0,.bool false,sl y H q] fun g=>c56 (v:=sl y H q) J (by omega) (by omega) (fun _=>ac (Dj (Dt [6,7,11,37] [C3 0,.bool false,C5 0,C3 (IntKind.u32.wrap ↑(num q 0 ↑size))] fun g=>Di (ah ?_))))
   have hwr:=wrap_u32 (num q 0 size:Nat)
   generalize IntKind.u32.wrap (num q 0 size:Nat)=z at hwr ⊢
   obtain ⟨n,rfl⟩: ∃ n:Nat,z=n:=⟨z.toNat,by omega⟩
   exact k n true _ (by omega) J.ae
 ·refine aq<|Dt [2,6,7,8,9,20,24] [C5 size,C3 0,.bool false,sN,.bool false,undef,undef] fun g=>Dj<|pa 10 rfl<|Dt [2,6,7,8,29] [C5 size,C3 0,.bool false,sN,.bool true] fun g=>ac<|ah<|k _ _ _ (by decide) J.ae
theorem c312 {M:List ao} (q:SH w0 w L) [hs:fm L M] [hm:aD M v bs] (h1:1≤bs.length) (hlen:bs.length≤100000) (k1: ∀ (x:bE) (rs:List Nat) a c w',lE x→rs.length<bs.length→aD M (sl a c rs) rs→SH w0 w' (By x.v x.bs::L)→K (.tuple #[.agg #[C1 x.code,x.v],sl a c rs,C5 0]) w') (k2: ∀ (e:Int) w',e≠0→SH w0 w' L→K (.tuple #[.agg #[C1 0,sN],sN,C5 e]) w'):D 312 [v] w K:=by
 haveI hb:aD L v bs:=⟨fun k=>hm.get (k.ae (L':=M))⟩
 obtain ⟨ad,c,rfl,hcap,hB1,hl0⟩:=q.enter (v:=v)
 refine s312 rfl<|ac<|q.an fun y _ q=>ac<|c56b (v:=sl ad c bs) q (by omega) (fun h_10 _=>?_) (fun h_10=>?_)
 ·refine aq<|Dh<|ak<|ac<|Db<|Db ?_
  by_cases hm:2+num bs 1 1≤bs.length
  ·refine c354 (v:=sl ad c bs) (l:=2) (r:=2+(num bs 1 1:Nat)) q (by omega) (fun H J _ q=>?_)
   have hn1:num bs 1 1<256:=lh hB1 1 1
   have hdl:(List.take ((2+((num bs 1 1:Nat):Int)).toNat - (2:Int).toNat) (List.drop (2:Int).toNat bs)).length≤1000:=by rw [List.length_take];omega
   generalize (List.take ((2+((num bs 1 1:Nat):Int)).toNat - (2:Int).toNat) (List.drop (2:Int).toNat bs))=dt at hdl q ⊢
   refine aq<|Dh<|ak<|aJ<|have q:=q.drew;?_
   obtain ⟨ad_30,rfl⟩:=q.dp ad
   exact ⟨by omega,_,rfl,q.cV (j:=0) fun _=>⟨rfl,[C1 (bs.getD 0 0),sl H J dt],rfl,Dc (q.eV (M:=M) (Int.toNat (2+ ↑(num bs 1 1))) fun _ _ Y _=>q.aj (b:=y) fun _ q=>⟨⟨q.aX,trivial⟩,ah (q.Da (b:=y) rfl (k1 ⟨bs.getD 0 0,sl H J dt,dt⟩ _ _ _ _ ⟨qo hB1 0,hdl⟩ (by rw [List.length_drop];omega) Y q.ae))⟩)⟩⟩
  ·refine c354a (v:=sl ad c bs) (l:=2) (r:=2+(num bs 1 1:Nat)) q (by omega) (fun e _=>aq (Dg (ac (⟨rfl,[C1 0,sN],rfl,q.aj (b:=y) fun _ q=>ah (q.Da (b:=y) rfl (k2 _ _ ‹_› q.ae))⟩))))
 ·refine aq<|Di<|ac ⟨rfl,[C1 0,sN],rfl,q.aj (b:=y) fun _ q=>ah (q.Da (b:=y) rfl (k2 _ _ (by omega) q.ae))⟩
theorem c383 {code n:Nat} (q:SH w0 w L) (hn:n<256) (k: ∀ a c Y,SH w0 Y (By (sl a c [n]) [n]::L)→K (.agg #[C1 code,sl a c [n]]) Y):D 383 [C1 code,C1 n] w K:=by
 refine s383 rfl<|ac<|q.an fun H _ q=>ac ⟨rfl,[C1 n],rfl,q.an fun y _ q=>⟨rfl,[C1 code,.slice (some ⟨y,0,none⟩) 1 1],rfl,q.aj (b:=H) fun J q=>ah (q.Da (b:=H) rfl ?_)⟩⟩
 have q:SH w0 J (Cl y 5 [C1 n]::L):=q.ae
 exact k (some ⟨y,0,none⟩) 1 _ (SH.l8 (e:=5) (SH.fX (bs:=[n]) ⟨by simpa using hn,by simp⟩ (SH.kE q 1 rfl (by simp [maxLen]))))
theorem c359 {code ip:Nat} (q:SH w0 w L) (hi:ip<4294967296) (k: ∀ bs a c Y,bs.length=4→SH w0 Y (By (sl a c bs) bs::L)→K (.agg #[C1 code,sl a c bs]) Y):D 359 [C1 code,C3 ip] w K:=by
 refine s359 rfl<|ac<|q.an fun y _ q=>ac<|Dc ⟨rfl,[C4 ip],rfl,q.an fun _ _ q=>c78 q rfl (by (simp<;>omega)) (fun H J _ q=>ac (⟨rfl,[C1 code,sl H J (rowOf 4 [ip])],rfl,q.aj (b:=y) fun _ q=>ah (q.Da (b:=y) rfl (k _ _ _ _ (by (simp [dz,br]<;>omega)) q.ae))⟩))⟩
theorem c257 (H:SH w0 w L) [hb:aD L v bs] (hlen:bs.length≤2000) (k1: ∀ l a c w',oL l→SH w0 w' (Os (.slice a l.length c) l::L)→K (.tuple #[.slice a l.length c,C5 0]) w') (k2: ∀ (e:Int) w',e≠0→SH w0 w' L→K (.tuple #[sN,C5 e]) w'):D 257 [v] w K:=by
 obtain ⟨ad,c,rfl,hcap,hB1,hl0⟩:=H.enter (v:=v)
 refine s257 rfl<|ac<|av<|au<|av<|aM ?_
 have H:SH w0 w (Row 496 2 (sN) 0 []::bj (eB [])::L):=(H.kF).rowOf (sN) 496 2
 refine bU ([0,2,3,4,5,6,7]++List.range' 8 27) rfl [0,2,3,4] (fun (x:(Option Addr × Nat × List Nat) × (Option Addr × Nat × List bE))=>[sl x.1.1 x.1.2.1 x.1.2.2,sN,C5 0,.slice x.2.1 x.2.2.2.length x.2.2.1]) (fun x w'=>(aD L (sl x.1.1 x.1.2.1 x.1.2.2) x.1.2.2∧x.2.2.2.length+x.1.2.2.length≤bs.length∧ ∀ y∈x.2.2.2,lE y)∧SH w0 w' (Row 496 2 (.slice x.2.1 x.2.2.2.length x.2.2.1) x.2.2.2.length (cz x.2.2.2)::bj (eB x.2.2.2)::L)) (fun x=>x.1.2.2.length) ((ad,c,bs),(none,0,[])) rfl ⟨⟨hb,by simp,fun y hy=>by simp at hy⟩,H⟩ ?_
 rintro g ⟨⟨a1,c1,rs⟩,⟨a2,c2,l⟩⟩ w5 ⟨⟨hb1,hle,hop⟩,H⟩
 simp only at hb1 hle hop H
 haveI:=hb1
 refine Dv [0,2,3,4] [sl a1 c1 rs,sN,C5 0,.slice a2 l.length c2] fun g=>?_
 obtain ⟨_,_,e1,hcap1,hB2,hl2⟩:=H.enter (v:=sl a1 c1 rs)
 cases e1
 refine aq<|ap (fun h_10=>?_) (fun h_10=>?_)
 ·refine ak<|aM<|av<|ac ?_
  obtain ⟨J,rfl⟩:=H.dp a1
  refine ⟨by omega,_,rfl,H.cV (j:=0) fun _=>aM (ac (ap (fun h_15=>?_) (fun h_15=>?_)))⟩
  ·exact ai<|ac<|ah<|k1 l _ _ _ ⟨by omega,hop⟩ (SH.oM H)
  ·refine ai<|ac<|ap (fun h_18=>?_) (fun h_18=>?_)
   ·exact ai<|ac<|Dt [0,2,3,4] [sl (some J) c1 rs,sN,C5 0,.slice a2 l.length c2] fun g=>H.eV (M:=L) (1) fun a_20 c_20 _ _=>aS ⟨((a_20,c_20,List.drop 1 rs),(a2,c2,l)),rfl,⟨⟨by assumption,by show l.length+(List.drop 1 rs).length≤bs.length;rw [List.length_drop];omega,hop⟩,H⟩,by show (List.drop 1 rs).length<rs.length;rw [List.length_drop];omega⟩
   ·refine ai<|ak<|ac<|Dt [0,2,3,4] [sl (some J) c1 rs,sN,C5 0,.slice a2 l.length c2] fun g=>c312 (M:=L) (v:=sl (some J) c1 rs) H (by omega) (by omega) (fun x Y a_23 c_23 w_23 h_235 _ h_237 H=>?_) (fun e_23 w_23 _ H=>?_)
    ·obtain ⟨xc,xv,xb⟩:=x
     simp only at h_235 H ⊢
     obtain ⟨a_4,c_4,rfl,hc4,hB4,hl4⟩:=H.enter (v:=xv)
     refine H.an fun b_5 w_5 H=>H.aj (b:=b_5) fun _ H=>aq<|Dt [0,2,3,4,5,6,7] [sl (some J) c1 rs,sN,C5 0,.slice a2 l.length c2,pt b_5,sl a_23 c_23 Y,C5 0] fun g=>Dh<|ak<|au<|H.Da (b:=b_5) rfl<|Dt [0,2,3,4,6,30,31] [sl (some J) c1 rs,sN,C5 0,.slice a2 l.length c2,sl a_23 c_23 Y,.slice a2 l.length c2,.agg #[C1 xc,sl a_4 c_4 xb]] fun g=>⟨rfl,[C1 xc,sl a_4 c_4 xb],rfl,H.an fun b_32 _ H=>aZ (dL (v:= .slice a2 l.length c2) (u:= .slice (some ⟨b_32,0,none⟩) 1 1) rfl rfl rfl H (H.fa rfl) rfl (by omega) fun a_33 c_33 w_33 H=>?_)⟩
     have hX:(l++[bE.mk xc (sl a_4 c_4 xb) xb]).length=l.length+1:=by simp
     have h9:SH w0 w_33 (By (sl a_4 c_4 xb) xb::bj (eB l)::Row 496 2 (.slice a_33 (l.length+1) c_33) (l.length+1) (cz (l++[bE.mk xc (sl a_4 c_4 xb) xb]))::L):=by
      rw [vy]
      show SH w0 w_33 (By (sl a_4 c_4 xb) xb::bj (eB l)::Row 496 2 (.slice a_33 (l.length+1) c_33) (l.length+1) (cz l++[C1 xc,sl a_4 c_4 xb])::L)
      exact H.ae
     have h8:=(h9.jN).nh (Z':=eB (l++[bE.mk xc (sl a_4 c_4 xb) xb])) (fun _ hq=>by
      simp only [eB,List.map_append,List.mem_append,List.map_cons,List.map_nil,List.mem_singleton] at hq
      rcases hq with hq | hq
      ·exact .tail _ hq
      ·rw [hq];exact .head _)
     refine ⟨((a_23,c_23,Y),(a_33,c_33,l++[bE.mk xc (sl a_4 c_4 xb) xb])),by simp only [hX];rfl,⟨⟨h_237,by simp only [hX];omega,fun y hy=>?_⟩,by simp only [hX];exact h8.ae⟩,by show Y.length<rs.length;omega⟩
     rcases List.mem_append.1 hy with h | h
     ·exact hop y h
     ·rw [List.mem_singleton.1 h];exact h_235
    ·refine H.an fun b_5 w_5 H=>H.aj (b:=b_5) fun _ H=>aq<|Dt [0,2,3,4,5,6,7] [sl (some J) c1 rs,sN,C5 0,.slice a2 l.length c2,pt b_5,sN,C5 e_23] fun g=>Dg<|ac<|ah<|k2 _ _ ‹_› H.ae
 ·refine aS<|ac<|ah<|k2 _ _ (by omega) H.ae
instance elt44:jM Tryz.prog 44 5 (C1 0) 1 1:=⟨gq,by decide⟩
theorem SH.AH (q:SH w0 w L):SH w0 w (Nb 5 (sN) []::L):=SH.fX ⟨by simp,by simp⟩ (q.rowOf (sN) 5 1)
theorem c322 (q:SH w0 w L) [h:dG L v l] (hl:l.length≤100∧ ∀ x∈l,lE x) (k1: ∀ bs a c w',bs.length≤200000→SH w0 w' (By (sl a c bs) bs::L)→K (.tuple #[sl a c bs,C5 0]) w') (k2: ∀ (e:Int) w',e≠0→SH w0 w' L→K (.tuple #[sN,C5 e]) w'):D 322 [v] w K:=by
 obtain ⟨hl1,hl2⟩:=hl
 obtain ⟨a,c,rfl,hrw,hby⟩:=SH.oN q (v:=v)
 refine s322 rfl<|ac<|av<|au<|av<|ac<|aM ?_
 have q:=SH.AH q
 refine bU ([2,3,4,6]++List.range' 9 31) rfl [2,3,4,7,8,9] (fun (x:Nat × Option Addr × Nat × List Nat)=>[sN,C5 0,sl x.2.1 x.2.2.1 x.2.2.2,.slice a l.length c,C5 l.length,C5 x.1]) (fun x w'=>(x.1≤l.length∧x.2.2.2.length≤x.1*1002)∧SH w0 w' (Nb 5 (sl x.2.1 x.2.2.1 x.2.2.2) x.2.2.2::L)) (fun x=>l.length - x.1) (0,none,0,[]) rfl ⟨⟨Nat.zero_le _,by simp⟩,q⟩ ?_
 rintro g ⟨i,a1,c1,out⟩ w5 ⟨⟨hi,ho⟩,q⟩
 simp only at hi ho q
 refine ac<|ap (fun h_9=>?_) (fun h_9=>?_)
 ·have hil:i<l.length:=by omega
  have hB:l[i]?=some l[i]:=List.getElem?_eq_getElem hil
  have hm:=List.mem_of_getElem? hB
  generalize l[i]=B at hB hm
  obtain ⟨xc,xv,xb⟩:=B
  haveI hbx:aD L xv xb:=hby _ hm
  have hbl:xc<256∧xb.length≤1000:=hl2 _ hm
  obtain ⟨aa,rfl⟩:=q.dW a
  obtain ⟨a_4,c_4,rfl,hc4,hB4,hl4⟩:=q.enter (v:=xv)
  refine av<|ai<|ak<|aG<|ac ⟨by omega,_,rfl,⟨_,SH.q9 q hB,q.an fun y _ q=>q.aj (b:=y) fun _ q=>aG (ac (q.C9 (b:=y) rfl (ap (fun h_16=>?_) (fun h_16=>?_))))⟩⟩
  ·refine pa 6 rfl<|ai<|ac<|ah<|k2 _ _ (by omega) q.ae
  ·refine q.C9 (b:=y) rfl<|ap (fun h_20=>?_) (fun h_20=>?_)
   ·refine pa 2 rfl<|ai<|ac<|ah<|k2 _ _ (by omega) q.ae
   ·refine pa 2 rfl<|ai<|ac<|q.C9 (b:=y) rfl<|ap (fun h_26=>?_) (fun h_26=>?_)
    ·refine ai<|ac<|ah<|k2 _ _ (by omega) q.ae
    ·refine ai<|ak<|cv<|have q:=q.drew;q.C9 (b:=y) rfl<|q.C9 (b:=y) rfl ⟨_,IntWalk.u8_in _ (by omega),q.C9 (b:=y) rfl (⟨rfl,_,rfl,q.an fun b_34 w_34 q=>?_⟩)⟩
     have q:SH w0 w_34 (Cl b_34 5 [C1 xc,C1 xb.length]::Cl y 496 [C1 xc,sl a_4 c_4 xb]::Nb 5 (sl a1 c1 out) out::L):=q
     refine ⟨⟨q.ld (b:=y) rfl,⟨q.ld (b:=y) rfl,⟨q.ld (b:=y) rfl,trivial⟩⟩⟩,?_⟩
     have q:SH w0 w_34 (Nb 5 (sl a1 c1 out) out::Cl b_34 5 [C1 xc,C1 xb.length]::Cl y 496 [C1 xc,sl a_4 c_4 xb]::L):=q.ae
     obtain ⟨hbo,q⟩:=q.jC
     refine fy (dL (v:=sl a1 c1 out) (u:= .slice (some ⟨b_34,0,none⟩) 2 2) rfl rfl rfl q (q.fa rfl) rfl (by omega) fun a_35 c_35 _ q=>⟨⟨q.ld (b:=y) rfl,⟨q.ld (b:=y) rfl,⟨q.ld (b:=y) rfl,trivial⟩⟩⟩,fy (dL (v:= .slice a_35 (out.length+2) c_35) (u:=sl a_4 c_4 xb) rfl rfl rfl q (q.rb (sl a_4 c_4 xb)).reads (nO _) (by omega) fun J Y w_38 q=>⟨⟨q.ld (b:=y) rfl,⟨q.ld (b:=y) rfl,⟨q.ld (b:=y) rfl,trivial⟩⟩⟩,au (Db ?_)⟩)⟩)
     have H:(out++[xc,xb.length]++xb).length=out.length+2+xb.length:=by simp;omega
     have h9:SH w0 w_38 (Row 5 1 (.slice J (out++[xc,xb.length]++xb).length Y) (out++[xc,xb.length]++xb).length (aT (out++[xc,xb.length]++xb))::L):=by
      rw [H,gM,gM]
      show SH w0 w_38 (Row 5 1 (.slice J (out.length+2+xb.length) Y) (out.length+2+xb.length) (aT out++[C1 xc,C1 xb.length]++aT xb)::L)
      exact q.ae
     have hB9:bK (out++[xc,xb.length]++xb):=lg (lg hbo ⟨fun _ hz=>by simp at hz;omega,by simp⟩ (by simp;omega)) hB4 (by simp;omega)
     refine ⟨(i+1,J,Y,out++[xc,xb.length]++xb),by show _=[sN,C5 0,.slice J (out++[xc,xb.length]++xb).length Y,.slice (some aa) l.length c,C5 l.length,C5 ((i+1:Nat):Int)];rw [H];rfl,⟨⟨by omega,by simp only [H];omega⟩,SH.fX hB9 h9⟩,by show l.length - (i+1)<l.length - i;omega⟩
 ·refine av<|ai<|aS<|ac ⟨rfl,[C1 255],rfl,q.an fun b_41 _ q=>?_⟩
  have q:SH w0 _ (Nb 5 (sl a1 c1 out) out::Cl b_41 5 [C1 255]::L):=q.ae
  obtain ⟨hbo,q⟩:=q.jC
  refine aZ (dL (v:=sl a1 c1 out) (u:= .slice (some ⟨b_41,0,none⟩) 1 1) rfl rfl rfl q (q.fa rfl) rfl (by omega) fun a_42 c_42 w_42 q=>ah ?_)
  have H:(out++[255]).length=out.length+1:=by simp
  have h9:SH w0 w_42 (Row 5 1 (.slice a_42 (out++[255]).length c_42) (out++[255]).length (aT (out++[255]))::L):=by
   rw [H,gM]
   show SH w0 w_42 (Row 5 1 (.slice a_42 (out.length+1) c_42) (out.length+1) (aT out++[C1 255])::L)
   exact q.ae
  have h8:=(SH.fX (lg hbo ⟨by decide,by decide⟩ (by simp;omega)) h9).l8
  rw [←H]
  exact k1 (out++[255]) _ _ _ (by rw [H];omega) h8
end
end
section
structure ji where
 op:Nat
 xid:Nat
 secs:Nat
 wide:Bool
 ci:Nat
 yi:Nat
 si:Nat
 gi:Nat
 m0:Nat
 m1:Nat
 m2:Nat
 m3:Nat
 m4:Nat
 m5:Nat
 oa:Option Addr
 oc:Nat
 ol:List bE
structure ff (m:ji):Prop where
 num:m.op<256∧m.xid<4294967296∧m.secs<65536∧m.ci<4294967296∧m.yi<4294967296∧m.si<4294967296∧m.gi<4294967296
 bq:bw (bq m.m0 m.m1 m.m2 m.m3 m.m4 m.m5)
 opts:oL m.ol
abbrev fg (m:ji):Value:= .agg #[C1 m.op,C3 m.xid,C2 m.secs,.bool m.wide,C3 m.ci,C3 m.yi,C3 m.si,C3 m.gi,C1 m.m0,C1 m.m1,C1 m.m2,C1 m.m3,C1 m.m4,C1 m.m5,.slice m.oa m.ol.length m.oc]
def nj:ji:=⟨0,0,0,false,0,0,0,0,0,0,0,0,0,0,none,0,[]⟩
section
variable {w0 w:World} {L R R2 R3:List ao} {K:Value→World→Prop} {v u:Value} {bs:List Nat} {m:ji}
theorem jj (bs:List Nat):(bD bs).size=bs.length:=by simp [bD,ByteArray.size]
theorem AI (n:Nat):rows n [C1 0]=aT (List.replicate n 0):=by simp [rows,aT]
theorem jP {o:Oper} {f:Fr} {x y:Operand} {a b:ByteArray} (q:o.op= .binOp .add 9 x y 9) (H:ev f x= .string a) (J:ev f y= .string b) (h:a.size+b.size≤1000000):(execOp (ev f) o).run Tryz.prog w= .ok (.value (.string (a++b))) w:=by
 unfold execOp
 have h1: ¬ ((a.size+b.size:Nat):Int)>IntKind.i64.max:=by simp only [IntKind.max,IntKind.bits,IntKind.signed];omega
 simp [q,H,J,eqGuard,binOp,Op.stringOp]
 omega
attribute [local irreducible] ay aQ aH aY a6 aW aK aV num be over nb rowOf bD
theorem c256 {op:Nat} (q:SH w0 w L) (k: ∀ b J,SH w0 J L→K (.bool b) J):D 256 [C1 op] w K:=by
 refine s256 rfl<|ac<|ac<|ap (fun y=>?_) (fun y=>?_)
 ·refine pa 5 rfl<|ah<|k _ _ q.ae
 ·refine ap (fun H=>?_) (fun H=>?_)
  ·refine pa 2 rfl<|ah<|k _ _ q.ae
  ·refine pa 2 rfl<|ah<|k _ _ q.ae
theorem c261 (Y:ff m) (q:SH w0 w L) [h:dG L (.slice m.oa m.ol.length m.oc) m.ol] (k: ∀ z J,SH w0 J L→K (C5 z) J):D 261 [fg m] w K:=by
 have ho:=Y.opts
 refine s261 rfl<|ac<|q.az [C1 m.op,C3 m.xid,C2 m.secs,.bool m.wide,C3 m.ci,C3 m.yi,C3 m.si,C3 m.gi,C1 m.m0,C1 m.m1,C1 m.m2,C1 m.m3,C1 m.m4,C1 m.m5,.slice m.oa m.ol.length m.oc] fun y _ q=>ac<|q.C9 (b:=y) rfl<|c314 (v:= .slice m.oa m.ol.length m.oc) q ‹_› (by decide) (fun H _ _ _ q=>ac (Dt [2,3] [C5 0,C3 H] fun _=>Db (ah (k _ _ q.ae))))
theorem c266 (hm:ff m) (q:SH w0 w L) [h:dG L (.slice m.oa m.ol.length m.oc) m.ol] (k: ∀ ip Y m1 m2 m3 m4 m5:Nat,∀ w',ip<4294967296→bw (bq Y m1 m2 m3 m4 m5)→SH w0 w' L→K (.tuple #[C3 ip,.agg #[C1 Y,C1 m1,C1 m2,C1 m3,C1 m4,C1 m5]]) w'):D 266 [fg m] w K:=by
 obtain ⟨h1,h2,h3,h4,h5,h6,h7⟩:=hm.num
 have hmm:=hm.bq
 refine s266 rfl<|ac<|q.az [C1 m.op,C3 m.xid,C2 m.secs,.bool m.wide,C3 m.ci,C3 m.yi,C3 m.si,C3 m.gi,C1 m.m0,C1 m.m1,C1 m.m2,C1 m.m3,C1 m.m4,C1 m.m5,.slice m.oa m.ol.length m.oc] fun y _ q=>q.an fun H _ q=>aG<|ac<|q.Da (b:=y) rfl<|c261 ‹_› q (fun _ _ q=>ap (fun h_7=>?_) (fun h_7=>?_))
 ·exact pa 10 rfl<|Dt [1,2,3,4] [pt y,C3 0,pt H,.bool true] fun g=>ai<|ac<|c60 q (fun w_17 q=>q.aj (b:=H) fun _ q=>ah (q.Da (b:=H) rfl (k _ 255 255 255 255 255 255 _ (by decide) qb q.ae)))
 ·refine q.C9 (b:=y) rfl<|Dt [1,2,3,8,10,11] [pt y,C3 0,pt H,.bool false,.bool m.wide,undef] fun g=>?_
  generalize m.wide=wd
  cases wd
  ·refine pa 7 rfl<|ai<|ac<|q.C9 (b:=y) rfl<|Dt [1,2,3,20] [pt y,C3 0,pt H,C3 m.ci] fun g=>ap (fun h_21=>?_) (fun h_21=>?_)
   ·exact ai<|aJ<|have q:=q.drew;q.C9 (b:=y) rfl ⟨_,q.ar (b:=y) [C1 m.m0,C1 m.m1,C1 m.m2,C1 m.m3,C1 m.m4,C1 m.m5],q.aj (b:=H) fun J q=>ah (q.Da (b:=H) rfl (k _ _ _ _ _ _ _ _ (by omega) ‹_› q.ae))⟩
   ·exact ai<|ak<|aJ<|have q:=q.drew;q.C9 (b:=y) rfl ⟨_,q.ar (b:=y) [C1 m.m0,C1 m.m1,C1 m.m2,C1 m.m3,C1 m.m4,C1 m.m5],q.aj (b:=H) fun J q=>ah (q.Da (b:=H) rfl (k _ _ _ _ _ _ _ _ (by omega) ‹_› q.ae))⟩
  ·refine q.C9 (b:=y) rfl<|ap (fun h_14=>?_) (fun h_14=>?_)
   ·exact pa 3 rfl<|ai<|ac<|c60 q (fun w_17 q=>q.aj (b:=H) fun J q=>Dt [1,2,3] [pt y,C3 4294967295,pt H] fun g=>ah (q.Da (b:=H) rfl (k _ 255 255 255 255 255 255 _ (by decide) qb q.ae)))
   ·exact pa 3 rfl<|ai<|ac<|q.C9 (b:=y) rfl<|Dt [1,2,3,20] [pt y,C3 0,pt H,C3 m.ci] fun g=>Dg<|ai<|aJ<|have q:=q.drew;q.C9 (b:=y) rfl ⟨_,q.ar (b:=y) [C1 m.m0,C1 m.m1,C1 m.m2,C1 m.m3,C1 m.m4,C1 m.m5],q.aj (b:=H) fun J q=>ah (q.Da (b:=H) rfl (k _ _ _ _ _ _ _ _ (by omega) ‹_› q.ae))⟩
theorem vz {a b c d e f:Nat} (h:bw (bq a b c d e f)):bK [a,b,c,d,e,f]:=by
 obtain ⟨x0,x1,x2,x3,x4,x5,e,h0,h1,h2,h3,h4,h5⟩:=h
 simp only [List.cons.injEq,Value.int.injEq,true_and,and_true] at e
 exact ⟨fun _ hz=>by simp at hz;omega,by simp⟩
theorem c313 (hm:ff m) (q:SH w0 w L) [h:dG L (.slice m.oa m.ol.length m.oc) m.ol] (k: ∀ (c:ByteArray) w',c.size≤2000→SH w0 w' L→K (.string c) w'):D 313 [fg m] w K:=by
 have ho:=hm.opts
 have hM:=vz hm.bq
 refine s313 rfl<|ac<|q.az [C1 m.op,C3 m.xid,C2 m.secs,.bool m.wide,C3 m.ci,C3 m.yi,C3 m.si,C3 m.gi,C1 m.m0,C1 m.m1,C1 m.m2,C1 m.m3,C1 m.m4,C1 m.m5,.slice m.oa m.ol.length m.oc] fun y _ q=>av<|ac<|q.C9 (b:=y) rfl<|c355 (v:= .slice m.oa m.ol.length m.oc) q ‹_› (fun J a_8 c_8 w_8 _ q=>?_) (fun w_8 q=>?_)
 ·refine ac<|Dt [1,2,3,4,12] [pt y,vS #[],sl a_8 c_8 J,.bool true,undef] fun g=>ap (fun h_15=>?_) (fun h_15=>?_)
  ·exact ai<|ac ⟨_,jf rfl rfl (q.rb (sl a_8 c_8 J)),ah (k _ _ (by rw [jj];omega) q.ae)⟩
  ·exact ai<|ak<|aJ<|have q:=q.drew;⟨_,dq,⟨_,jf rfl rfl (q.ix (g:=y) (o:=8) (bs:=[m.m0,m.m1,m.m2,m.m3,m.m4,m.m5]) hM rfl),Du [2,23] [vS #[],Value.string (bD [m.m0,m.m1,m.m2,m.m3,m.m4,m.m5])] fun g=>⟨rfl,[C1 1],rfl,q.an fun H w_19 q=>⟨⟨jf rfl rfl (q.ix (g:=y) (o:=8) (bs:=[m.m0,m.m1,m.m2,m.m3,m.m4,m.m5]) hM rfl),⟨dq,trivial⟩⟩,⟨_,jf rfl rfl (q.ix (g:=H) (o:=0) (bs:=[1]) ⟨by simp,by simp⟩ rfl),⟨_,jP rfl rfl rfl (by rw [jj,jj];simp),ah (k _ _ (by rw [ByteArray.size_append,jj,jj];simp) q.ae)⟩⟩⟩⟩⟩⟩
 ·exact ac<|pa 6 rfl<|Dt [1,2,3,16] [pt y,vS #[],sN,.bool false] fun g=>ai<|ak<|aJ<|have q:=q.drew;⟨_,dq,⟨_,jf rfl rfl (q.ix (g:=y) (o:=8) (bs:=[m.m0,m.m1,m.m2,m.m3,m.m4,m.m5]) hM rfl),Du [2,23] [vS #[],Value.string (bD [m.m0,m.m1,m.m2,m.m3,m.m4,m.m5])] fun g=>⟨rfl,[C1 1],rfl,q.an fun H w_19 q=>⟨⟨jf rfl rfl (q.ix (g:=y) (o:=8) (bs:=[m.m0,m.m1,m.m2,m.m3,m.m4,m.m5]) hM rfl),⟨dq,trivial⟩⟩,⟨_,jf rfl rfl (q.ix (g:=H) (o:=0) (bs:=[1]) ⟨by simp,by simp⟩ rfl),⟨_,jP rfl rfl rfl (by rw [jj,jj];simp),ah (k _ _ (by rw [ByteArray.size_append,jj,jj];simp) q.ae)⟩⟩⟩⟩⟩⟩
theorem c207 (y:SH w0 w L) [hb:aD L v bs] (hlen:bs.length≤2000) (k1: ∀ m w',ff m→SH w0 w' (Os (.slice m.oa m.ol.length m.oc) m.ol::L)→K (.tuple #[fg m,C5 0]) w')
  (k2: ∀ (e:Int) w',e≠0→SH w0 w' L→K (.tuple #[fg nj,C5 e]) w'):D 207 [v] w K:=by
 obtain ⟨ad,c,rfl,hcap,hB1,hl0⟩:=y.enter (v:=v)
 have n4: ∀ l:Int,num bs l 4<4294967296:=fun l=>lh hB1 l 4
 have n2: ∀ l:Int,num bs l 2<65536:=fun l=>lh hB1 l 2
 refine s207 rfl<|ac<|y.an fun H _ y=>aG<|ac<|ap (fun h_11=>?_) (fun h_11=>?_)
 ·refine ai<|ac<|Dt [0,2,3] [sl ad c bs,pt H,C5 0] fun g=>⟨by kernel_rfl,[C1 0,C3 0,C2 0,.bool false,C3 0,C3 0,C3 0,C3 0,C1 0,C1 0,C1 0,C1 0,C1 0,C1 0,sN],by kernel_rfl,y.aj (b:=H) fun _ y=>ah (y.Da (b:=H) rfl (k2 _ _ (by omega) y.ae))⟩
 ·refine ai<|ac ?_
  obtain ⟨q,rfl⟩:=y.dp ad
  refine ⟨by omega,_,rfl,y.cV (j:=0) fun _=>Dt [0,2,3,16,19,25] [sl (some q) c bs,pt H,C5 0,C1 (bs.getD 0 0),undef,undef] fun g=>c256 y (fun _ _ y=>cG (fun h_18=>?_) (fun h_18=>?_))⟩
  ·refine pa 13 rfl<|Dt [0,2,3,13] [sl (some q) c bs,pt H,C5 0,.bool true] fun g=>ai<|ac ⟨by kernel_rfl,[C1 0,C3 0,C2 0,.bool false,C3 0,C3 0,C3 0,C3 0,C1 0,C1 0,C1 0,C1 0,C1 0,C1 0,sN],by kernel_rfl,y.aj (b:=H) fun _ y=>ah (y.Da (b:=H) rfl (k2 _ _ (by omega) y.ae))⟩
  ·refine ⟨by omega,_,rfl,y.cV (j:=1) fun _=>ap (fun h_23=>?_) (fun h_23=>?_)⟩
   ·refine pa 8 rfl<|Dt [0,2,3,13] [sl (some q) c bs,pt H,C5 0,.bool true] fun g=>ai<|ac ⟨by kernel_rfl,[C1 0,C3 0,C2 0,.bool false,C3 0,C3 0,C3 0,C3 0,C1 0,C1 0,C1 0,C1 0,C1 0,C1 0,sN],by kernel_rfl,y.aj (b:=H) fun w_36 y=>ah (y.Da (b:=H) rfl (k2 _ _ (by omega) y.ae))⟩
   ·refine pa 3 rfl<|Dt [0,2,3,25,26] [sl (some q) c bs,pt H,C5 0,.bool false,sl (some q) c bs] fun g=>⟨by omega,_,rfl,y.cV (j:=2) fun _=>ap (fun h_29=>?_) (fun h_29=>?_)⟩
    ·refine pa 2 rfl<|ai<|ac<|Dt [0,2,3] [sl (some q) c bs,pt H,C5 0] fun g=>⟨by kernel_rfl,[C1 0,C3 0,C2 0,.bool false,C3 0,C3 0,C3 0,C3 0,C1 0,C1 0,C1 0,C1 0,C1 0,C1 0,sN],by kernel_rfl,y.aj (b:=H) fun _ y=>ah (y.Da (b:=H) rfl (k2 _ _ (by omega) y.ae))⟩
    ·refine pa 2 rfl<|ai<|ac<|y.eV (M:=L) (236) fun a_34 c_34 _ _=>Dt [0,2,3,34] [sl (some q) c bs,pt H,C5 0,sl a_34 c_34 (List.drop 236 bs)] fun g=>⟨rfl,[C1 99,C1 130,C1 83,C1 99],rfl,y.an fun b_35 _ y=>aZ (oA _ rfl rfl y (cs:=_) (b:=_) rfl rfl rfl u9 fun w_36 y=>c195 (v:=sl a_34 c_34 (List.drop 236 bs)) (u:= .slice (some ⟨b_35,0,none⟩) 4 4) y (fun h_37 w_37 y=>?_) (fun h_37 w_37 y=>?_))⟩
     ·refine Dj<|ai<|ak<|ac<|y.eV (M:=L) (240) fun a_42 c_42 _ _=>c257 (v:=sl a_42 c_42 (List.drop 240 bs)) y (by (simp<;>omega)) (fun J Y c_43 w_43 _ y=>?_) (fun e_43 w_43 _ y=>?_)
      ·refine aq<|Dt [0,2,3,4,5] [sl (some q) c bs,pt H,C5 0,.slice Y J.length c_43,C5 0] fun g=>Dh<|ak<|ac<|c56 (v:=sl (some q) c bs) y (by omega) (by omega) (fun _=>aJ ?_)
       have y:=y.drew
       refine ⟨by omega,_,rfl,Du [0,2,3,4,6,56] [sl (some q) c bs,pt H,C5 0,.slice Y J.length c_43,C4 (num bs 8 2),.pointer (some (q.add (0*1)))] fun g=>y.cV (j:=0) fun _=>⟨_,IntWalk.u16_in _ (by omega),⟨by omega,_,rfl,y.cV (j:=10) fun _=>Dj (ap (fun h_66=>?_) (fun h_66=>?_))⟩⟩⟩
       ·refine y.eV (M:=L) (28) fun a_76 c_76 hb_76 hl_76=>Du [2,3,4,57,58,61,66,67,69,71,73,76] [pt H,C5 0,.slice Y J.length c_43,C1 (bs.getD 0 0),sl (some q) c bs,C2 (num bs 8 2),.bool true,sl (some q) c bs,sl (some q) c bs,sl (some q) c bs,sl (some q) c bs,sl a_76 c_76 (List.drop 28 bs)] fun g=>⟨_,bC,?_⟩
        obtain ⟨ad_78,rfl⟩:=y.dp a_76
        exact ⟨_,y.bB,c258 (v:=sl (some q) c bs) y (by omega) (fun h_59=>⟨⟨⟨_,y.bB,rfl⟩,⟨bC,⟨y.aX,⟨y.aX,trivial⟩⟩⟩⟩,c258 (v:=sl (some q) c bs) y (by omega) (fun h_68=>⟨⟨⟨_,y.bB,rfl⟩,⟨bC,⟨y.aX,⟨y.aX,trivial⟩⟩⟩⟩,c258 (v:=sl (some q) c bs) y (by omega) (fun h_70=>⟨⟨⟨_,y.bB,rfl⟩,⟨bC,⟨y.aX,⟨y.aX,trivial⟩⟩⟩⟩,c258 (v:=sl (some q) c bs) y (by omega) (fun h_72=>⟨⟨⟨_,y.bB,rfl⟩,⟨bC,⟨y.aX,⟨y.aX,trivial⟩⟩⟩⟩,c258 (v:=sl (some q) c bs) y (by omega) (fun h_74=>⟨⟨⟨_,y.bB,rfl⟩,⟨bC,⟨y.aX,⟨y.aX,trivial⟩⟩⟩⟩,Du [2,3,57,59,61,66,68,70,72,74,78,79] [pt H,C5 0,C1 (bs.getD 0 0),C3 (num bs 4 4),C2 (num bs 8 2),.bool true,C3 (num bs 12 4),C3 (num bs 16 4),C3 (num bs 20 4),C3 (num bs 24 4),.agg #[C1 ((List.drop 28 bs).getD 0 0),C1 ((List.drop 28 bs).getD 1 0),C1 ((List.drop 28 bs).getD 2 0),C1 ((List.drop 28 bs).getD 3 0),C1 ((List.drop 28 bs).getD 4 0),C1 ((List.drop 28 bs).getD 5 0)],.slice Y J.length c_43] fun g=>⟨by kernel_rfl,[C1 (bs.getD 0 0),C3 (num bs 4 4),C2 (num bs 8 2),.bool true,C3 (num bs 12 4),C3 (num bs 16 4),C3 (num bs 20 4),C3 (num bs 24 4),C1 ((List.drop 28 bs).getD 0 0),C1 ((List.drop 28 bs).getD 1 0),C1 ((List.drop 28 bs).getD 2 0),C1 ((List.drop 28 bs).getD 3 0),C1 ((List.drop 28 bs).getD 4 0),C1 ((List.drop 28 bs).getD 5 0),.slice Y J.length c_43],by kernel_rfl,y.aj (b:=H) fun w_82 y=>⟨⟨⟨_,y.bB,rfl⟩,⟨bC,⟨y.aX,⟨y.aX,trivial⟩⟩⟩⟩,ah (y.Da (b:=H) rfl (k1 ⟨bs.getD 0 0,num bs 4 4,num bs 8 2,true,num bs 12 4,num bs 16 4,num bs 20 4,num bs 24 4,(bs.drop 28).getD 0 0,(bs.drop 28).getD 1 0,(bs.drop 28).getD 2 0,(bs.drop 28).getD 3 0,(bs.drop 28).getD 4 0,(bs.drop 28).getD 5 0,Y,c_43,J⟩ _ ⟨⟨qo hB1 0,n4 4,n2 8,n4 12,n4 16,n4 20,n4 24⟩,iA hB1 28,by assumption⟩ y.ae))⟩⟩⟩)⟩)⟩)⟩)⟩)⟩
       ·refine y.eV (M:=L) (28) fun a_76 c_76 hb_76 hl_76=>Du [2,3,4,57,58,61,66,67,69,71,73,76] [pt H,C5 0,.slice Y J.length c_43,C1 (bs.getD 0 0),sl (some q) c bs,C2 (num bs 8 2),.bool false,sl (some q) c bs,sl (some q) c bs,sl (some q) c bs,sl (some q) c bs,sl a_76 c_76 (List.drop 28 bs)] fun g=>⟨_,bC,?_⟩
        obtain ⟨ad_78,rfl⟩:=y.dp a_76
        exact ⟨_,y.bB,c258 (v:=sl (some q) c bs) y (by omega) (fun h_59=>⟨⟨⟨_,y.bB,rfl⟩,⟨bC,⟨y.aX,⟨y.aX,trivial⟩⟩⟩⟩,c258 (v:=sl (some q) c bs) y (by omega) (fun h_68=>⟨⟨⟨_,y.bB,rfl⟩,⟨bC,⟨y.aX,⟨y.aX,trivial⟩⟩⟩⟩,c258 (v:=sl (some q) c bs) y (by omega) (fun h_70=>⟨⟨⟨_,y.bB,rfl⟩,⟨bC,⟨y.aX,⟨y.aX,trivial⟩⟩⟩⟩,c258 (v:=sl (some q) c bs) y (by omega) (fun h_72=>⟨⟨⟨_,y.bB,rfl⟩,⟨bC,⟨y.aX,⟨y.aX,trivial⟩⟩⟩⟩,c258 (v:=sl (some q) c bs) y (by omega) (fun h_74=>⟨⟨⟨_,y.bB,rfl⟩,⟨bC,⟨y.aX,⟨y.aX,trivial⟩⟩⟩⟩,Du [2,3,57,59,61,66,68,70,72,74,78,79] [pt H,C5 0,C1 (bs.getD 0 0),C3 (num bs 4 4),C2 (num bs 8 2),.bool false,C3 (num bs 12 4),C3 (num bs 16 4),C3 (num bs 20 4),C3 (num bs 24 4),.agg #[C1 ((List.drop 28 bs).getD 0 0),C1 ((List.drop 28 bs).getD 1 0),C1 ((List.drop 28 bs).getD 2 0),C1 ((List.drop 28 bs).getD 3 0),C1 ((List.drop 28 bs).getD 4 0),C1 ((List.drop 28 bs).getD 5 0)],.slice Y J.length c_43] fun g=>⟨by kernel_rfl,[C1 (bs.getD 0 0),C3 (num bs 4 4),C2 (num bs 8 2),.bool false,C3 (num bs 12 4),C3 (num bs 16 4),C3 (num bs 20 4),C3 (num bs 24 4),C1 ((List.drop 28 bs).getD 0 0),C1 ((List.drop 28 bs).getD 1 0),C1 ((List.drop 28 bs).getD 2 0),C1 ((List.drop 28 bs).getD 3 0),C1 ((List.drop 28 bs).getD 4 0),C1 ((List.drop 28 bs).getD 5 0),.slice Y J.length c_43],by kernel_rfl,y.aj (b:=H) fun w_82 y=>⟨⟨⟨_,y.bB,rfl⟩,⟨bC,⟨y.aX,⟨y.aX,trivial⟩⟩⟩⟩,ah (y.Da (b:=H) rfl (k1 ⟨bs.getD 0 0,num bs 4 4,num bs 8 2,false,num bs 12 4,num bs 16 4,num bs 20 4,num bs 24 4,(bs.drop 28).getD 0 0,(bs.drop 28).getD 1 0,(bs.drop 28).getD 2 0,(bs.drop 28).getD 3 0,(bs.drop 28).getD 4 0,(bs.drop 28).getD 5 0,Y,c_43,J⟩ _ ⟨⟨qo hB1 0,n4 4,n2 8,n4 12,n4 16,n4 20,n4 24⟩,iA hB1 28,by assumption⟩ y.ae))⟩⟩⟩)⟩)⟩)⟩)⟩)⟩
      ·refine aq<|Dt [0,2,3,4,5] [sl (some q) c bs,pt H,C5 0,sN,C5 e_43] fun g=>Dg<|ac<|Dt [0,2,3,4,5] [sl (some q) c bs,pt H,C5 0,sN,C5 e_43] fun g=>⟨by kernel_rfl,[C1 0,C3 0,C2 0,.bool false,C3 0,C3 0,C3 0,C3 0,C1 0,C1 0,C1 0,C1 0,C1 0,C1 0,sN],by kernel_rfl,y.aj (b:=H) fun _ y=>ah (y.Da (b:=H) rfl (k2 _ _ ‹_› y.ae))⟩
     ·refine Dj<|ai<|ac<|Dt [0,2,3] [sl (some q) c bs,pt H,C5 0] fun g=>⟨by kernel_rfl,[C1 0,C3 0,C2 0,.bool false,C3 0,C3 0,C3 0,C3 0,C1 0,C1 0,C1 0,C1 0,C1 0,C1 0,sN],by kernel_rfl,y.aj (b:=H) fun _ y=>ah (y.Da (b:=H) rfl (k2 _ _ (by omega) y.ae))⟩
theorem c265 (hm:ff m) (hlen:m.ol.length≤100) (q:SH w0 w L) [h:dG L (.slice m.oa m.ol.length m.oc) m.ol] (k1: ∀ bs a c w',bs.length≤1472→SH w0 w' (By (sl a c bs) bs::L)→K (.tuple #[sl a c bs,C5 0]) w')
  (k2: ∀ (e:Int) w',e≠0→SH w0 w' L→K (.tuple #[sN,C5 e]) w'):D 265 [fg m] w K:=by
 obtain ⟨h1,h2,h3,h4,h5,h6,h7⟩:=hm.num
 have hM:=vz hm.bq
 have hop:=hm.opts.2
 refine s265 rfl<|ac<|q.az [C1 m.op,C3 m.xid,C2 m.secs,.bool m.wide,C3 m.ci,C3 m.yi,C3 m.si,C3 m.gi,C1 m.m0,C1 m.m1,C1 m.m2,C1 m.m3,C1 m.m4,C1 m.m5,.slice m.oa m.ol.length m.oc] fun y _ q=>aq<|q.C9 (b:=y) rfl<|c256 q (fun _ _ q=>cG (fun h_17=>?_) (fun h_17=>?_))
 ·refine ac<|ah<|k2 _ _ (by omega) q.ae
 ·refine ak<|ac<|q.C9 (b:=y) rfl<|Dt [1,2,3,20] [pt y,sN,C5 0,.slice m.oa m.ol.length m.oc] fun g=>c322 (v:= .slice m.oa m.ol.length m.oc) q (by trivial) (fun H J Y w_21 _ q=>?_) (fun e_21 w_21 _ q=>?_)
  ·refine aG<|ac<|Dh<|ai<|ac<|Dt [1,2,3,4] [pt y,sN,C5 0,sl J Y H] fun g=>Db<|ap (fun h_32=>?_) (fun h_32=>?_)
   ·refine ai<|ac<|ah<|k2 _ _ (by omega) q.ae
   ·refine ai<|ak<|ac<|q.C9 (b:=y) rfl<|Dc<|Dt [1,2,3,4,36] [pt y,sN,C5 0,sl J Y H,C4 m.xid] fun g=>⟨rfl,[C4 m.xid],rfl,q.an fun _ _ q=>c78 q rfl (by (simp<;>omega)) (fun a_38 c_38 _ q=>ac (q.C9 (b:=y) rfl (Dt [1,2,3,4,6,43] [pt y,sN,C5 0,sl J Y H,sl a_38 c_38 (rowOf 4 [m.xid]),C2 m.secs] fun g=>Dc (⟨rfl,[C4 m.secs],rfl,q.an fun _ _ q=>c78 q rfl (by (simp<;>omega)) (fun a_46 c_46 _ q=>ac (q.C9 (b:=y) rfl (Dt [1,2,3,4,6,8,51] [pt y,sN,C5 0,sl J Y H,sl a_38 c_38 (rowOf 4 [m.xid]),sl a_46 c_46 (rowOf 2 [m.secs]),C3 m.ci] fun g=>Dc (q.C9 (b:=y) rfl (Dc (q.C9 (b:=y) rfl (Dc (q.C9 (b:=y) rfl (Dt [1,2,3,4,6,8,52,55,58,60] [pt y,sN,C5 0,sl J Y H,sl a_38 c_38 (rowOf 4 [m.xid]),sl a_46 c_46 (rowOf 2 [m.secs]),C4 m.ci,C4 m.yi,C4 m.si,C3 m.gi] fun g=>Dc (⟨rfl,[C4 m.ci,C4 m.yi,C4 m.si,C4 m.gi],rfl,q.an fun _ _ q=>c78c q rfl (by (simp<;>omega)) (by (simp<;>omega)) (by (simp<;>omega)) (by (simp<;>omega)) (fun a_63 c_63 _ q=>?_)⟩))))))))))⟩))))⟩
    refine ac<|Dt [1,2,3,4,6,8,10] [pt y,sN,C5 0,sl J Y H,sl a_38 c_38 (rowOf 4 [m.xid]),sl a_46 c_46 (rowOf 2 [m.secs]),sl a_63 c_63 (rowOf 4 [m.ci,m.yi,m.si,m.gi])] fun g=>⟨rfl,[C1 0,C1 0],rfl,q.an fun b_66 _ q=>?_⟩
    refine bt (List.range' 67 4) rfl [1,2,3,4,6,8,10,12] (fun (_:Nat)=>[pt y,sN,C5 0,sl J Y H,sl a_38 c_38 (rowOf 4 [m.xid]),sl a_46 c_46 (rowOf 2 [m.secs]),sl a_63 c_63 (rowOf 4 [m.ci,m.yi,m.si,m.gi]),.slice (some ⟨b_66,0,none⟩) 2 2]) (fun x w'=>x<256∧SH w0 w' (Cl b_66 5 [C1 x,C1 (0:Nat)]::Cl y 381 [C1 m.op,C3 m.xid,C2 m.secs,.bool m.wide,C3 m.ci,C3 m.yi,C3 m.si,C3 m.gi,C1 m.m0,C1 m.m1,C1 m.m2,C1 m.m3,C1 m.m4,C1 m.m5,.slice m.oa m.ol.length m.oc]::By (sl a_63 c_63 (rowOf 4 [m.ci,m.yi,m.si,m.gi])) (rowOf 4 [m.ci,m.yi,m.si,m.gi])::By (sl a_46 c_46 (rowOf 2 [m.secs])) (rowOf 2 [m.secs])::By (sl a_38 c_38 (rowOf 4 [m.xid])) (rowOf 4 [m.xid])::By (sl J Y H) H::L)) ?_ ?_
    ·refine ac<|q.C9 (b:=y) rfl ?_
     generalize hwd:m.wide=wd
     cases wd
     ·exact ai<|ak ⟨0,rfl,by decide,by rw [hwd] at q;exact q.ae⟩
     ·exact ai<|au ⟨by decide,_,rfl,q.aN (b:=b_66) [C1 128] [C1 128,C1 0] fun _ q=>⟨128,rfl,by decide,by rw [hwd] at q;exact q.ae⟩⟩
    rintro g x w6 ⟨hx,q⟩
    refine Dv [1,2,3,4,6,8,10,12] [pt y,sN,C5 0,sl J Y H,sl a_38 c_38 (rowOf 4 [m.xid]),sl a_46 c_46 (rowOf 2 [m.secs]),sl a_63 c_63 (rowOf 4 [m.ci,m.yi,m.si,m.gi]),.slice (some ⟨b_66,0,none⟩) 2 2] fun g=>aJ<|have q:=q.drew;q.C9 (b:=y) rfl ⟨_,dq,Du [2,3,4,72,74,75,76,77,79] [sN,C5 0,sl J Y H,C1 m.op,sl a_38 c_38 (rowOf 4 [m.xid]),sl a_46 c_46 (rowOf 2 [m.secs]),.slice (some ⟨b_66,0,none⟩) 2 2,sl a_63 c_63 (rowOf 4 [m.ci,m.yi,m.si,m.gi]),.slice (some ⟨y,8,none⟩) 6 6] fun g=>⟨rfl,[C1 m.op,C1 1,C1 6,C1 0],rfl,q.an fun b_73 _ q=>⟨⟨dq,⟨q.ld (b:=y) rfl,trivial⟩⟩,⟨by kernel_rfl,[.slice (some ⟨b_73,0,none⟩) 4 4,sl a_38 c_38 (rowOf 4 [m.xid]),sl a_46 c_46 (rowOf 2 [m.secs]),.slice (some ⟨b_66,0,none⟩) 2 2,sl a_63 c_63 (rowOf 4 [m.ci,m.yi,m.si,m.gi]),.slice (some ⟨y,8,none⟩) 6 6],by kernel_rfl,q.an fun _ _ q=>⟨⟨dq,⟨q.ld (b:=y) rfl,trivial⟩⟩,c131d q rfl (q.ix (g:=b_73) (o:=0) (bs:=[m.op,1,6,0]) ⟨fun z hz=>by simp at hz;omega,by simp⟩ rfl) (by exact q.rb _) (by exact q.rb _) (q.ix (g:=b_66) (o:=0) (bs:=[x,0]) ⟨fun z hz=>by simp at hz;omega,by simp⟩ rfl) (by exact q.rb _) (q.ix (g:=y) (o:=8) (bs:=[m.m0,m.m1,m.m2,m.m3,m.m4,m.m5]) hM rfl) (by simp [dz,br]) (fun a_81 c_81 _ q=>?_)⟩⟩⟩⟩⟩
    have h34:([m.op,1,6,0]++(rowOf 4 [m.xid]++(rowOf 2 [m.secs]++([x,0]++(rowOf 4 [m.ci,m.yi,m.si,m.gi]++[m.m0,m.m1,m.m2,m.m3,m.m4,m.m5]))))).length=34:=by simp [dz,br]
    generalize ([m.op,1,6,0]++(rowOf 4 [m.xid]++(rowOf 2 [m.secs]++([x,0]++(rowOf 4 [m.ci,m.yi,m.si,m.gi]++[m.m0,m.m1,m.m2,m.m3,m.m4,m.m5])))))=hd at h34 q ⊢
    refine ⟨⟨dq,⟨q.ld (b:=y) rfl,trivial⟩⟩,ac (Db (⟨202,202,⟨by omega,by omega,Nat.le_refl _,by decide,by decide⟩,?_⟩))⟩
    rw [AI]
    exact q.an fun b_86 _ q=>Dt [2,3,4,82,86] [sN,C5 0,sl J Y H,sl a_81 c_81 hd,.slice (some ⟨b_86,0,none⟩) 202 202] fun g=>⟨rfl,[C1 99,C1 130,C1 83,C1 99],rfl,q.an fun b_87 _ q=>aZ (oA _ rfl rfl q (cs:=_) (b:=_) rfl rfl rfl u9 fun _ q=>⟨rfl,[sl a_81 c_81 hd,.slice (some ⟨b_86,0,none⟩) 202 202,.slice (some ⟨b_87,0,none⟩) 4 4,sl J Y H],rfl,q.an fun _ _ q=>c131b q rfl (by exact q.rb _) (q.ix (g:=b_86) (o:=0) (bs:=List.replicate 202 0) ⟨fun z hz=>by rw [List.eq_of_mem_replicate hz];decide,by decide⟩ rfl) (by exact q.rb _) (by exact q.rb _) (by simp;omega) (fun _ _ _ q=>ah (k1 _ _ _ _ (by simp;omega) q.ae))⟩)⟩
  ·refine aG<|ac<|Dg<|ai<|ac<|Dt [1,2,3,4,5] [pt y,sN,C5 0,sN,C5 e_21] fun g=>ah<|k2 _ _ ‹_› q.ae
end
end
end Go.Proofs.YtlhpilgmeededaaGreatDoor
