/- DEN: a resolved form of the model's code, with a weakest precondition that computes by unfolding, and its soundness over the model. Conditions: none; it holds of whatever program. -/
import Derived.Below
import Derived.Orders
import Derived.Still
import Derived.OrdersHeld
import Derived.LoopN
import Derived.IntWalk
import Derived.Deep.Draws
import Derived.KernelRfl
namespace Go.Den
open Go Go.RowKit

/-! ### Frames -/
abbrev Fr := Nat → Value
def upd (f : Fr) (d : Nat) (v : Value) : Fr := fun t => bif Nat.beq t d then v else f t
def put (f : Fr) : Option Nat → Value → Fr
  | some d, v => upd f d v
  | none, _ => f
def ev (f : Fr) : Operand → Value
  | .tmp t => f t
  | .const v => v
  | .global g => .pointer (some ⟨g, 0, none⟩)
  | .func f => .func (.func f) #[] #[]
theorem upd_same (f : Fr) (d : Nat) (v : Value) : upd f d v d = v := by simp [upd]
theorem upd_other (f : Fr) {d t : Nat} (v : Value) (h : t ≠ d) : upd f d v t = f t := by
  have e : Nat.beq t d = false := by
    cases hb : Nat.beq t d with
    | false => rfl
    | true => exact absurd (Nat.eq_of_beq_eq_true hb) h
  simp [upd, e]

structure Rel (n : Nat) (a : Act) (f : Fr) : Prop where
  size : a.tmps.size = n
  val : ∀ t, a.tmps.getD t undef = f t
  defers : a.defers = []

theorem Rel.eval {n : Nat} {a : Act} {f : Fr} (h : Rel n a f) (x : Operand) : a.eval x = ev f x := by
  cases x <;> simp [Act.eval, ev]
  exact (by simpa using h.val _)
theorem Rel.evalF {n : Nat} {a : Act} {f : Fr} (h : Rel n a f) : a.eval = ev f := funext h.eval
theorem Rel.put {n : Nat} {a : Act} {f : Fr} (h : Rel n a f) {d : Option Nat} (hd : ∀ x, d = some x → x < n) (v : Value) : Rel n (a.put d v) (put f d v) := by
  cases d with
  | none => exact h
  | some d =>
    refine ⟨by simp [Act.put, h.size], fun t => ?_, by simpa [Act.put] using h.defers⟩
    have hd' : d < a.tmps.size := by rw [h.size]; exact hd d rfl
    by_cases ht : t = d
    · subst ht
      show _ = upd f t v t
      rw [upd_same]
      simp [Act.put, hd']
    · have := h.val t
      show _ = upd f d v t
      rw [upd_other f v ht, ← this]
      simp [Act.put, Array.getElem?_setIfInBounds_ne (fun e => ht e.symm)]

def memN : List Nat → Nat → Bool
  | [], _ => false
  | a :: r, t => bif Nat.beq t a then true else memN r t

/-! ### Calls -/
def Does (P : Program) (f : FuncId) (args : List Value) (w : World) (R : Value → World → Prop) : Prop :=
  Calls P f args.toArray w fun e w' => ∃ v, e = .returned v ∧ R v w'
theorem Does.mono {P : Program} {f : FuncId} {args : List Value} {w : World} {R R' : Value → World → Prop} (h : Does P f args w R)
    (hr : ∀ v w', R v w' → R' v w') : Does P f args w R' := Calls.mono h fun _ _ ⟨v, e, r⟩ => ⟨v, e, hr _ _ r⟩

/-! ### What one operation does, by the model -/
def Upon (P : Program) (K : Value → World → Prop) : Result Next → Prop
  | .ok (.value v) w => K v w
  | .ok .skip w => K undef w
  | .ok (.enter f args) w => Does P f args.toList w K
  | _ => False
def Runs (P : Program) (o : Oper) (f : Fr) (w : World) (K : Value → World → Prop) : Prop := Upon P K ((execOp (ev f) o).run P w)

theorem Upon.mono {P : Program} {K K' : Value → World → Prop} {r : Result Next} (h : Upon P K r) (hk : ∀ v w', K v w' → K' v w') : Upon P K' r := by
  cases r with
  | halt x w => exact h.elim
  | ok x w => cases x <;> simp only [Upon] at h ⊢ <;> first | exact hk _ _ h | exact h.elim | exact Does.mono h hk

theorem Upon.wp {P : Program} {o : Oper} {a : Act} {K : Value → World → Prop} {next : Act → World → Prop} {Q : Exit → Act → World → Prop} {r : Result Next}
    (hk : ∀ v w', K v w' → next (a.put o.dst v) w') (h : Upon P K r) : o.upon P a next Q r := by
  cases r with
  | halt x w => exact h.elim
  | ok x w =>
    cases x <;> simp only [Upon] at h <;> simp only [Oper.upon] <;> first | exact hk _ _ h | exact h.elim | skip
    refine Calls.mono (by simpa [Does] using h) ?_
    rintro e w' ⟨v, rfl, hv⟩
    exact hk _ _ hv

/-! ### Guards -/
def guardVC (v : Value) (want : Bool) (A B : Prop) : Prop :=
  match v with
  | .bool true => match want with | true => A | false => B
  | .bool false => match want with | true => B | false => A
  | _ => B
def yieldOf (v : Value) : Option Bool := match v with | .bool b => some b | _ => none
theorem guardVC_iff (v : Value) (want : Bool) (A B : Prop) : guardVC v want A B ↔ if yieldOf v == some want then A else B := by
  unfold guardVC yieldOf
  cases v <;> simp
  rename_i b; cases b <;> cases want <;> simp

/-- What a kind of types compares with nil. -/
inductive NilKind where
  | ptr | slice | map | func
/-! ### Operations, resolved -/
inductive MOp where
  | mov (x : Operand)
  | pick (c a b : Operand)
  | alloc (t : TypeId) (z : List Value)
  | box (t : TypeId) (x : Operand)
  | load (n : Option Nat) (x : Operand)
  | store (n : Nat) (x v : Operand)
  | nilCheck (x : Operand)
  | bin (op : BinOp) (x y : Operand)
  | eqNil (neg : Bool) (k : NilKind) (x y : Operand)
  | eqB (neg : Bool) (x y : Operand)
  | not (x : Operand)
  | conv (k : IntKind) (x : Operand)
  | field (off : Nat) (n : Option Nat) (x : Operand)
  | extract (x : Operand) (i : Nat)
  | faddr (off : Nat) (x : Operand)
  | iaddr (sz : Nat) (x i : Operand)
  | slice (sz : Nat) (x : Operand) (lo hi mx : Option Operand)
  | mkFunc (fn : Fn) (first captured : List Operand)
  | mkIface (t : TypeId) (x : Operand)
  | build (z : List Value) (ps : List (Nat × Nat × Operand))
  | call (f : FuncId) (args : List Operand)
  | len (x : Operand)
  | lenS (x : Operand)
  | mkSlice (e : TypeId) (z : List Value) (bytes : Nat) (l c : Operand)
  | buildS (e : TypeId) (n : Nat) (z : List Value) (ps : List (Nat × Nat × Operand))
  | callV (g : Operand) (args : List Operand)
  | maxI (x : Operand) (r : List Operand)
  | eqS (neg : Bool) (ks : List Bool) (x y : Operand)
  | raw (o : Oper)

def kEq (a b : IntKind) : Bool := Nat.beq a.ctorIdx b.ctorIdx
theorem kEq_iff (a b : IntKind) : kEq a b = true ↔ a = b := by cases a <;> cases b <;> simp [kEq] <;> decide
def ite' (b : Bool) (A : Prop) : Prop := match b with | true => A | false => False

/-- '&', '|', '^', '&^' on a kind's bits. -/
def bitI (op : BinOp) (k : IntKind) (x y : Int) : Int :=
  let a := BitVec.ofInt k.bits x
  let b := BitVec.ofInt k.bits y
  match op with
  | .and => k.wrap (a &&& b).toNat
  | .or => k.wrap (a ||| b).toNat
  | .xor => k.wrap (a ^^^ b).toNat
  | _ => k.wrap (a &&& ~~~b).toNat

def binVC (op : BinOp) (x y : Value) (K : Value → Prop) : Prop :=
  match x, y with
  | .int k a, .int k' b =>
    match op with
    | .add => ite' (kEq k k') (∃ z, k.wrap (a + b) = z ∧ K (.int k z))
    | .sub => ite' (kEq k k') (∃ z, k.wrap (a - b) = z ∧ K (.int k z))
    | .mul => ite' (kEq k k') (∃ z, k.wrap (a * b) = z ∧ K (.int k z))
    | .quo => ite' (kEq k k') (b ≠ 0 ∧ ∃ z, k.wrap (a.tdiv b) = z ∧ K (.int k z))
    | .rem => ite' (kEq k k') (b ≠ 0 ∧ ∃ z, a.tmod b = z ∧ K (.int k z))
    | .and => ite' (kEq k k') (∃ z, bitI .and k a b = z ∧ K (.int k z))
    | .or => ite' (kEq k k') (∃ z, bitI .or k a b = z ∧ K (.int k z))
    | .xor => ite' (kEq k k') (∃ z, bitI .xor k a b = z ∧ K (.int k z))
    | .andNot => ite' (kEq k k') (∃ z, bitI .andNot k a b = z ∧ K (.int k z))
    | .shl => 0 ≤ b ∧ ∃ z, k.wrap (a * 2 ^ (min b.toNat k.bits)) = z ∧ K (.int k z)
    | .shr => 0 ≤ b ∧ ∃ z, a.fdiv (2 ^ (min b.toNat k.bits)) = z ∧ K (.int k z)
    | .eql => ite' (kEq k k') (∃ z, decide (a = b) = z ∧ K (.bool z))
    | .neq => ite' (kEq k k') (∃ z, decide (a ≠ b) = z ∧ K (.bool z))
    | .lss => ite' (kEq k k') (∃ z, decide (a < b) = z ∧ K (.bool z))
    | .leq => ite' (kEq k k') (∃ z, decide (a ≤ b) = z ∧ K (.bool z))
    | .gtr => ite' (kEq k k') (∃ z, decide (b < a) = z ∧ K (.bool z))
    | .geq => ite' (kEq k k') (∃ z, decide (b ≤ a) = z ∧ K (.bool z))
  | _, _ => False

def nilB : Value → Option Bool
  | .pointer a => some a.isNone
  | .slice a _ _ => some a.isNone
  | .map a => some a.isNone
  | .nilFunc => some true
  | .func .. => some false
  | _ => none
def nilOf (k : NilKind) (x y : Value) : Option Bool :=
  match k, x, y with
  | .ptr, .pointer a, .pointer none => some a.isNone
  | .slice, .slice a _ _, .slice none _ _ => some a.isNone
  | .map, .map a, .map none => some a.isNone
  | .func, .nilFunc, .nilFunc => some true
  | .func, .func .., .nilFunc => some false
  | _, _, _ => none

def cellsAt (w : World) (a : Addr) : Nat → Nat → Option (List Value)
  | _, 0 => some []
  | i, n + 1 => match w.cell? (a.add i), cellsAt w a (i + 1) n with
    | some v, some vs => some (v :: vs)
    | _, _ => none
def oneC : Value → Bool
  | .agg _ | .tuple _ => false
  | _ => true
def stored (w : World) (a : Addr) : Nat → List Value → Option World
  | _, [] => some w
  | i, v :: vs => if oneC v && (w.cell? (a.add i)).isSome && !w.frozen? (a.add i) then stored (w.setCell (a.add i) v) a (i + 1) vs else none

def put1 (cs : List Value) (off : Nat) : List Value → List Value
  | [] => cs
  | v :: vs => put1 (cs.set off v) (off + 1) vs
def fillL (cs : List Value) : List (Nat × List Value) → List Value
  | [] => cs
  | (off, vs) :: r => fillL (put1 cs off vs) r

def boundV (f : Fr) (x : Option Operand) (d : Nat) (top : Nat) (K : Nat → Prop) : Prop :=
  match x with
  | none => K d
  | some o => match ev f o with
    | .int _ i => ∃ n : Nat, (i = n ∧ n ≤ top) ∧ K n
    | _ => False
def rows (n : Nat) (z : List Value) : List Value := (List.replicate n z).flatten
/-- '==' of flat structs: 'true' stands for a whole number, 'false' for a bool. -/
def flatEq : List Bool → List Value → List Value → Option Bool
  | [], [], [] => some true
  | true :: ks, .int k a :: xs, .int k' b :: ys => match kEq k k' with
    | true => (flatEq ks xs ys).map (decide (a = b) && ·)
    | false => none
  | false :: ks, .bool a :: xs, .bool b :: ys => (flatEq ks xs ys).map ((a == b) && ·)
  | _, _, _ => none
def maxL (f : Fr) (k : IntKind) (K : Int → Prop) : Int → List Operand → Prop
  | m, [] => K m
  | m, x :: r => match ev f x with
    | .int k' b => ite' (kEq k k') (∃ z, (if b > m then b else m) = z ∧ maxL f k K z r)
    | _ => False
def NewB (w : World) (o : Obj) (b : Nat) (w' : World) : Prop := w.heap.size = b ∧ w.alloc o = w'

def funcOK (P : Program) (g : FuncId) : Bool :=
  match P.funcs[g]? with
  | some fn => fn.body.isSome && !(fn.name == "runtime.NumGoroutine")
  | none => false
def loadVC (w : World) (a : Addr) (n : Option Nat) (K : Value → World → Prop) : Prop :=
  match n with
  | none => ∃ v, w.cell? a = some v ∧ K v w
  | some n => ∃ vs, cellsAt w a 0 n = some vs ∧ K (.agg vs.toArray) w

def opVC (P : Program) (f : Fr) (w : World) (K : Value → World → Prop) : MOp → Prop
  | .mov x => K (ev f x) w
  | .pick c a b => match ev f c with | .bool true => K (ev f a) w | .bool false => K (ev f b) w | _ => False
  | .alloc t z => ∃ b w', NewB w (.cells z.toArray t) b w' ∧ K (.pointer (some ⟨b, 0, none⟩)) w'
  | .box t x => ∃ b w', NewB w (.cells (ev f x).cells t) b w' ∧ K (.pointer (some ⟨b, 0, none⟩)) w'
  | .load n x => match ev f x with
    | .pointer (some a) => loadVC w a n K
    | _ => False
  | .store n x v => match ev f x with
    | .pointer (some a) => (ev f v).cells.size = n ∧ ∃ w', stored w a 0 (ev f v).cells.toList = some w' ∧ K undef w'
    | _ => False
  | .nilCheck x => match ev f x with
    | .pointer (some a) => K (.pointer (some a)) w
    | .func (.func g) fs cs => K (.func (.func g) fs cs) w
    | _ => False
  | .bin op x y => binVC op (ev f x) (ev f y) fun v => K v w
  | .eqNil neg k x y => match nilOf k (ev f x) (ev f y) with
    | some b => ∃ z, (neg ^^ b) = z ∧ K (.bool z) w
    | none => False
  | .eqB neg x y => match ev f x, ev f y with
    | .bool a, .bool b => ∃ z, (neg ^^ (a == b)) = z ∧ K (.bool z) w
    | _, _ => False
  | .not x => match ev f x with
    | .bool b => ∃ z, (!b) = z ∧ K (.bool z) w
    | _ => False
  | .conv k x => match ev f x with
    | .int _ n => ∃ z, k.wrap n = z ∧ K (.int k z) w
    | _ => False
  | .field off n x => match ev f x with
    | .agg cs => match n with
      | none => ∃ v, cs.toList[off]? = some v ∧ K v w
      | some n => K (.agg (cs.extract off (off + n))) w
    | _ => False
  | .extract x i => match ev f x with
    | .tuple vs => match vs.toList[i]? with | some v => K v w | none => False
    | _ => False
  | .faddr off x => match ev f x with
    | .pointer (some a) => K (.pointer (some (a.add off))) w
    | _ => False
  | .iaddr sz x i => match ev f x, ev f i with
    | .slice (some a) n _, .int _ j => (0 ≤ j ∧ j < n) ∧ ∃ a', a.add (j.toNat * sz) = a' ∧ K (.pointer (some a')) w
    | _, _ => False
  | .slice sz x lo hi mx => match ev f x with
    | .slice a n c => boundV f mx c c fun m => boundV f hi n m fun h => boundV f lo 0 h fun l =>
        ∃ v, (Value.slice (if m = l then a else a.map (·.add (l * sz))) (h - l) (m - l)) = v ∧ K v w
    | _ => False
  | .mkFunc fn fs cs => K (.func fn (fs.map (ev f)).toArray (cs.map (ev f)).toArray) w
  | .mkIface t x => K (.iface t (ev f x)) w
  | .build z ps => (ps.all fun p => (ev f p.2.2).cells.size == p.2.1 && Nat.ble (p.1 + p.2.1) z.length) = true ∧
      ∃ cs, fillL z (ps.map fun p => (p.1, (ev f p.2.2).cells.toList)) = cs ∧ K (.agg cs.toArray) w
  | .call g args => Does P g (args.map (ev f)) w K
  | .len x => match ev f x with
    | .slice _ n _ => K (.int .i64 n) w
    | _ => False
  | .lenS x => match ev f x with
    | .string s => K (.int .i64 s.size) w
    | _ => False
  | .mkSlice e z bytes l c => match ev f l, ev f c with
    | .int _ i, .int _ j => ∃ n m : Nat, (i = n ∧ j = m ∧ n ≤ m ∧ m * bytes ≤ 140737488355328 ∧ m ≤ 140737488355328) ∧
        ∃ b w', NewB w (.cells (rows m z).toArray e) b w' ∧ K (.slice (some ⟨b, 0, none⟩) n m) w'
    | _, _ => False
  | .buildS e n z ps => (ps.all fun p => (ev f p.2.2).cells.size == p.2.1 && Nat.ble (p.1 + p.2.1) (rows n z).length) = true ∧
      ∃ cs, fillL (rows n z) (ps.map fun p => (p.1, (ev f p.2.2).cells.toList)) = cs ∧ ∃ b w', NewB w (.cells cs.toArray e) b w' ∧ K (.slice (some ⟨b, 0, none⟩) n n) w'
  | .callV g args => match ev f g with
    | .func (.func k) fs cs => funcOK P k = true ∧ Does P k (fs.toList ++ args.map (ev f) ++ cs.toList) w K
    | _ => False
  | .maxI x r => match ev f x with
    | .int k a => maxL f k (fun z => K (.int k z) w) a r
    | _ => False
  | .eqS neg ks x y => match ev f x, ev f y with
    | .agg a, .agg b => match flatEq ks a.toList b.toList with
      | some t => ∃ z, (neg ^^ t) = z ∧ K (.bool z) w
      | none => False
    | _, _ => False
  | .raw o => Runs P o f w K

theorem boundV_mono {f : Fr} {x : Option Operand} {d top : Nat} {K K' : Nat → Prop} (h : boundV f x d top K) (hk : ∀ n, K n → K' n) : boundV f x d top K' := by
  unfold boundV at *
  cases x with
  | none => exact hk _ h
  | some o =>
    simp only at *
    split at h
    · obtain ⟨n, a, b⟩ := h; exact ⟨n, a, hk _ b⟩
    · exact h.elim
theorem ite'_mono {b : Bool} {A B : Prop} (h : ite' b A) (hk : A → B) : ite' b B := by cases b <;> first | exact h.elim | exact hk h
theorem binVC_mono {op : BinOp} {x y : Value} {K K' : Value → Prop} (h : binVC op x y K) (hk : ∀ v, K v → K' v) : binVC op x y K' := by
  unfold binVC at *
  split at h
  · cases op <;> simp only at h ⊢ <;> first
      | exact ite'_mono h fun ⟨z, e, k⟩ => ⟨z, e, hk _ k⟩
      | exact ite'_mono h fun ⟨q, z, e, k⟩ => ⟨q, z, e, hk _ k⟩
      | exact h.imp id fun ⟨z, e, k⟩ => ⟨z, e, hk _ k⟩
  · exact h.elim

theorem maxL_mono {f : Fr} {k : IntKind} {K K' : Int → Prop} : ∀ {r : List Operand} {m : Int}, maxL f k K m r → (∀ z, K z → K' z) → maxL f k K' m r
  | [], m, h, hk => hk _ h
  | x :: r, m, h, hk => by
    simp only [maxL] at *
    split at h
    · exact ite'_mono h fun ⟨z, e, k⟩ => ⟨z, e, maxL_mono k hk⟩
    · exact h.elim
theorem opVC_mono {P : Program} {f : Fr} {w : World} {K K' : Value → World → Prop} {m : MOp} (h : opVC P f w K m) (hk : ∀ v w', K v w' → K' v w') : opVC P f w K' m := by
  cases m with
  | mov x => exact hk _ _ h
  | pick c a b => simp only [opVC] at *; split at h <;> first | exact hk _ _ h | exact h.elim
  | alloc t z => obtain ⟨b, w', e, k⟩ := h; exact ⟨b, w', e, hk _ _ k⟩
  | box t x => obtain ⟨b, w', e, k⟩ := h; exact ⟨b, w', e, hk _ _ k⟩
  | load n x =>
    simp only [opVC] at *
    split at h
    · cases n <;> simp only [loadVC] at * <;> (obtain ⟨v, e, k⟩ := h; exact ⟨v, e, hk _ _ k⟩)
    · exact h.elim
  | store n x v =>
    simp only [opVC] at *
    split at h
    · obtain ⟨a, w', e, k⟩ := h; exact ⟨a, w', e, hk _ _ k⟩
    · exact h.elim
  | nilCheck x => simp only [opVC] at *; split at h <;> first | exact hk _ _ h | exact h.elim
  | bin op x y => simp only [opVC] at *; exact binVC_mono h fun v k => hk _ _ k
  | eqNil neg k x y => simp only [opVC] at *; split at h <;> first | (obtain ⟨z, e, k⟩ := h; exact ⟨z, e, hk _ _ k⟩) | exact h.elim
  | eqB neg x y => simp only [opVC] at *; split at h <;> first | (obtain ⟨z, e, k⟩ := h; exact ⟨z, e, hk _ _ k⟩) | exact h.elim
  | not x => simp only [opVC] at *; split at h <;> first | (obtain ⟨z, e, k⟩ := h; exact ⟨z, e, hk _ _ k⟩) | exact h.elim
  | conv k x => simp only [opVC] at *; split at h <;> first | (obtain ⟨z, e, k⟩ := h; exact ⟨z, e, hk _ _ k⟩) | exact h.elim
  | field off n x =>
    simp only [opVC] at *
    split at h
    · cases n <;> first | (obtain ⟨z, e, k⟩ := h; exact ⟨z, e, hk _ _ k⟩) | exact hk _ _ h
    · exact h.elim
  | extract x i =>
    simp only [opVC] at *
    split at h
    · split at h <;> first | exact hk _ _ h | exact h.elim
    · exact h.elim
  | faddr off x => simp only [opVC] at *; split at h <;> first | exact hk _ _ h | exact h.elim
  | iaddr sz x i => simp only [opVC] at *; split at h <;> first | (obtain ⟨q, z, e, k⟩ := h; exact ⟨q, z, e, hk _ _ k⟩) | exact h.elim
  | slice sz x lo hi mx =>
    simp only [opVC] at *
    split at h
    · exact boundV_mono h fun m h1 => boundV_mono h1 fun n h2 => boundV_mono h2 fun l ⟨v, e, k⟩ => ⟨v, e, hk _ _ k⟩
    · exact h.elim
  | mkFunc fn fs cs => exact hk _ _ h
  | mkIface t x => exact hk _ _ h
  | build z ps => obtain ⟨a, cs, e, k⟩ := h; exact ⟨a, cs, e, hk _ _ k⟩
  | call g args => exact Does.mono h hk
  | len x => simp only [opVC] at *; split at h <;> first | exact hk _ _ h | exact h.elim
  | lenS x => simp only [opVC] at *; split at h <;> first | exact hk _ _ h | exact h.elim
  | mkSlice e z bytes l c =>
    simp only [opVC] at *
    split at h
    · obtain ⟨n, m, q, b, w', e, k⟩ := h; exact ⟨n, m, q, b, w', e, hk _ _ k⟩
    · exact h.elim
  | buildS e n z ps => obtain ⟨q, cs, e1, b, w', e, k⟩ := h; exact ⟨q, cs, e1, b, w', e, hk _ _ k⟩
  | callV g args => simp only [opVC] at *; split at h <;> first | exact ⟨h.1, Does.mono h.2 hk⟩ | exact h.elim
  | maxI x r => simp only [opVC] at *; split at h <;> first | exact maxL_mono h fun z k => hk _ _ k | exact h.elim
  | eqS neg ks x y =>
    simp only [opVC] at *
    split at h
    · split at h <;> first | (obtain ⟨z, e, k⟩ := h; exact ⟨z, e, hk _ _ k⟩) | exact h.elim
    · exact h.elim
  | raw o => exact Upon.mono h hk

/-! ### A row of operations, in a fixed order -/
structure MOper where
  dst : Option Nat
  op : MOp
  guard : Option (Nat × Bool)

def wpL (P : Program) (K : Fr → World → Prop) : List MOper → Fr → World → Prop
  | [], f, w => K f w
  | o :: rest, f, w => match o.guard with
    | none => opVC P f w (fun v w' => wpL P K rest (put f o.dst v) w') o.op
    | some (t, want) => guardVC (f t) want (opVC P f w (fun v w' => wpL P K rest (put f o.dst v) w') o.op) (wpL P K rest (put f o.dst undef) w)

/-! ### Resolving an operation -/
def isAggD : TypeDesc → Bool
  | .struct _ => true
  | .array _ _ => true
  | _ => false
def aggN (P : Program) (t : TypeId) : Option (Option Nat) :=
  match P.underlying t with
  | some d => match isAggD d with
    | true => (P.info? t).map fun i => some i.size
    | false => some none
  | none => none
def nilKind (P : Program) (t : TypeId) : Option NilKind :=
  match P.underlying t with
  | some (.pointer _) => some .ptr
  | some (.slice _) => some .slice
  | some (.map _ _) => some .map
  | some (.func _ _ _) => some .func
  | _ => none
def isInt (P : Program) (t : TypeId) : Bool :=
  match P.underlying t with
  | some (.int _) => true
  | _ => false
def isBool (P : Program) (t : TypeId) : Bool :=
  match P.underlying t with
  | some .bool => true
  | _ => false
def buildParts (P : Program) (fs : Array Field) (parts : Array (Nat × Operand)) : Option (List (Nat × Nat × Operand)) :=
  parts.toList.mapM fun p => match fs[p.1]? with
    | some fd => some (fd.offset, P.cellsOf fd.type, p.2)
    | none => none
/-- A struct of one-cell numbers and bools, one behind the other. -/
def flatFrom (P : Program) : Nat → List Field → Option (List Bool)
  | _, [] => some []
  | i, fd :: r => match Nat.beq fd.offset i && !(fd.name == "_"), P.underlying fd.type, flatFrom P (i + 1) r with
    | true, some (.int _), some ks => some (true :: ks)
    | true, some .bool, some ks => some (false :: ks)
    | _, _, _ => none
def flatK (P : Program) (t : TypeId) : Option (List Bool) :=
  match P.underlying t with
  | some (.struct fs) => match P.stoodInHeld t with
    | false => flatFrom P 0 fs.toList
    | true => none
  | _ => none
def sliceParts (sz : Nat) (parts : Array (Nat × Operand)) : List (Nat × Nat × Operand) := parts.toList.map fun p => (p.1 * sz, sz, p.2)
def comp (P : Program) (o : Oper) : MOp :=
  match o.op with
  | .move x => .mov x
  | .assign x => .mov x
  | .pick c a b => .pick c a b
  | .alloc t => match (P.info? t).bind (·.zero) with
    | some z => .alloc t z.cells.toList
    | none => .raw o
  | .box t x => .box t x
  | .load t x => match aggN P t with
    | some n => .load n x
    | none => .raw o
  | .store t x v => match P.info? t with
    | some i => .store i.size x v
    | none => .raw o
  | .nilCheck x => .nilCheck x
  | .binOp .eql t x y _ => match nilKind P t with
    | some k => .eqNil false k x y
    | none => if isInt P t then .bin .eql x y else if isBool P t then .eqB false x y else match P.eqGuardType P.depth t, flatK P t with | false, some ks => .eqS false ks x y | _, _ => .raw o
  | .binOp .neq t x y _ => match nilKind P t with
    | some k => .eqNil true k x y
    | none => if isInt P t then .bin .neq x y else if isBool P t then .eqB true x y else match P.eqGuardType P.depth t, flatK P t with | false, some ks => .eqS true ks x y | _, _ => .raw o
  | .binOp op t x y _ => if isInt P t then .bin op x y else .raw o
  | .unOp .not _ x => .not x
  | .convert s d x => match P.underlying s, P.underlying d with
    | some (.int _), some (.int k) => .conv k x
    | _, _ => .raw o
  | .makeFunc fn fs cs => .mkFunc fn fs.toList cs.toList
  | .makeInterface t x => match P.underlying t with
    | some (.interface _) => .raw o
    | some _ => .mkIface t x
    | none => .raw o
  | .extract x i => .extract x i
  | .fieldAddr s x i => match P.underlying s with
    | some (.struct fs) => match fs[i]? with
      | some fd => match P.info? fd.type with
        | some inf => if inf.size = 0 then .raw o else .faddr fd.offset x
        | none => .raw o
      | none => .raw o
    | _ => .raw o
  | .field s x i => match P.underlying s with
    | some (.struct fs) => match fs[i]? with
      | some fd => match aggN P fd.type with
        | some n => .field fd.offset n x
        | none => .raw o
      | none => .raw o
    | _ => .raw o
  | .indexAddr t x i => match P.underlying t with
    | some (.slice e) => match P.info? e with
      | some inf => .iaddr inf.size x i
      | none => .raw o
    | _ => .raw o
  | .slice t x lo hi mx => match P.underlying t with
    | some (.slice e) => match P.info? e with
      | some inf => if mx.isSome && hi.isNone then .raw o else .slice inf.size x lo hi mx
      | none => .raw o
    | _ => .raw o
  | .build t parts => match P.underlying t, (P.info? t).bind (·.zero) with
    | some (.struct fs), some z => match fs.all fun fd => (P.info? fd.type).isSome with
      | true => match buildParts P fs parts with
        | some ps => .build z.cells.toList ps
        | none => .raw o
      | false => .raw o
    | _, _ => .raw o
  | .makeSlice t l c => match P.underlying t with
    | some (.slice e) => match P.info? e with
      | some inf => match inf.zero with
        | some z => if z.cells.size = inf.size ∧ 0 < inf.size then .mkSlice e z.cells.toList inf.bytes l c else .raw o
        | none => .raw o
      | none => .raw o
    | _ => .raw o
  | .buildSlice t n parts => match P.underlying t with
    | some (.slice e) => match P.info? e with
      | some inf => match inf.zero with
        | some z => if z.cells.size = inf.size ∧ 0 < inf.size ∧ n * inf.size ≤ 16777216 then .buildS e n z.cells.toList (sliceParts inf.size parts) else .raw o
        | none => .raw o
      | none => .raw o
    | _ => .raw o
  | .call { callee := .value (.tmp g), args, .. } => .callV (.tmp g) args.toList
  | .call { callee := .builtin .max, args, .. } => match args.toList with
    | x :: r => .maxI x r
    | [] => .raw o
  | .call { callee := .value (.func g), args, .. } => if funcOK P g then .call g args.toList else .raw o
  | .call { callee := .builtin .len, args, argTypes } => match argTypes.toList, args.toList with
    | [t], [x] => match P.underlying t with
      | some (.slice _) => .len x
      | some .string => .lenS x
      | _ => .raw o
    | _, _ => .raw o
  | _ => .raw o

/-! ### Each operation is what its resolved form says -/
section sound
variable {P : Program} {f : Fr} {w : World} {K : Value → World → Prop}

theorem run_und {t : TypeId} {d : TypeDesc} (h : P.underlying t = some d) (w : World) : (underlying t).run P w = .ok d w := by simp [underlying, h]
theorem run_info {t : TypeId} {d : TypeInfo} (h : P.info? t = some d) (w : World) : (typeInfo t).run P w = .ok d w := by simp [typeInfo, h]
theorem run_size {t : TypeId} {d : TypeInfo} (h : P.info? t = some d) (w : World) : (sizeOf t).run P w = .ok d.size w := by simp [sizeOf, run_info h]
theorem run_zero {t : TypeId} {z : Value} (h : (P.info? t).bind (·.zero) = some z) (w : World) : (zeroValue t).run P w = .ok z w := by
  obtain ⟨i, hi, hz⟩ := Option.bind_eq_some_iff.1 h
  simp [zeroValue, run_info hi, hz]
theorem run_agg {t : TypeId} {d : TypeDesc} (h : P.underlying t = some d) (w : World) :
    (isAgg t).run P w = .ok (isAggD d) w := by
  simp only [isAgg, Sem.run_bind, run_und h, Result.andThen_ok]
  cases d <;> rfl
theorem run_loadFrom (a : Addr) : ∀ (n i : Nat) (acc : Array Value) (vs : List Value), cellsAt w a i n = some vs →
    (loadCellsFrom a i n acc).run P w = .ok (acc ++ vs.toArray) w
  | 0, i, acc, vs, h => by simp [cellsAt] at h; subst h; simp [loadCellsFrom]
  | n + 1, i, acc, vs, h => by
    simp only [cellsAt] at h
    split at h
    · rename_i v vs' h1 h2
      cases h
      simp only [loadCellsFrom, Sem.run_bind, run_load, h1, Result.andThen_ok]
      rw [run_loadFrom a n (i + 1) (acc.push v) vs' h2]
      simp
    · cases h
theorem run_cells (a : Addr) (n : Nat) (vs : List Value) (h : cellsAt w a 0 n = some vs) : (loadCells a n).run P w = .ok vs.toArray w := by
  rw [loadCells, run_loadFrom a n 0 #[] vs h]; simp
theorem oneC_eq (v : Value) : oneC v = v.oneCell' := by cases v <;> rfl
theorem run_stored (a : Addr) : ∀ (vs : List Value) (i : Nat) (w w' : World), stored w a i vs = some w' → (storeCells a vs i).run P w = .ok () w'
  | [], i, w, w', h => by simp [stored] at h; subst h; rfl
  | v :: vs, i, w, w', h => by
    simp only [stored] at h
    split at h
    · rename_i hc
      simp only [Bool.and_eq_true, Bool.not_eq_true'] at hc
      obtain ⟨⟨h1, h2⟩, h3⟩ := hc
      obtain ⟨u, hu⟩ := Option.isSome_iff_exists.1 h2
      simp only [storeCells, Sem.run_bind, run_store P w (a.add i) v .plain (by rw [← oneC_eq]; exact h1), hu, h3, Result.andThen_ok, Bool.false_eq_true, if_false]
      exact run_stored a vs (i + 1) _ _ h
    · cases h
theorem aggN_spec {t : TypeId} {n : Option Nat} (h : aggN P t = some n) (a : Addr) (hn : loadVC w a n K) :
    ∃ v, (loadVar t a).run P w = .ok v w ∧ K v w := by
  unfold aggN at h
  unfold loadVC at hn
  cases hu : P.underlying t with
  | none => simp [hu] at h
  | some d =>
    simp only [hu] at h
    cases hd : isAggD d with
    | true =>
      simp only [hd] at h
      obtain ⟨i, hi, rfl⟩ := Option.map_eq_some_iff.1 h
      obtain ⟨vs, e, k⟩ := hn
      exact ⟨_, by simp [loadVar, run_agg hu, hd, run_size hi, run_cells a _ vs e], k⟩
    | false =>
      simp only [hd] at h
      cases h
      obtain ⟨v, e, k⟩ := hn
      exact ⟨_, by simp [loadVar, run_agg hu, hd, e], k⟩

theorem bin_int {op : BinOp} {t : TypeId} {x y : Value} {K : Value → Prop}
    (h : binVC op x y K) : ∃ v, (binOp op t x y).run P w = .ok v w ∧ K v := by
  unfold binVC at h
  split at h
  · rename_i k a k' b
    cases op <;> simp only at h
    case shl => obtain ⟨hb, z, rfl, hz⟩ := h; exact ⟨_, by simp [binOp, Op.shift, show ¬ b < 0 by omega], hz⟩
    case shr => obtain ⟨hb, z, rfl, hz⟩ := h; exact ⟨_, by simp [binOp, Op.shift, show ¬ b < 0 by omega], hz⟩
    all_goals
      cases hk : kEq k k' with
      | false => simp only [hk, ite'] at h
      | true =>
        simp only [hk, ite'] at h
        obtain rfl := (kEq_iff _ _).1 hk
        first
          | (obtain ⟨hb, z, rfl, hz⟩ := h; refine ⟨_, ?_, hz⟩; (simp [binOp, Op.intDiv, hb]; done))
          | (obtain ⟨z, rfl, hz⟩ := h; refine ⟨_, ?_, hz⟩; (simp [binOp, Op.intArith]; done))
          | (obtain ⟨z, rfl, hz⟩ := h; refine ⟨_, ?_, hz⟩; (simp [binOp, Op.intBits, bitI]; done))
          | (obtain ⟨z, rfl, hz⟩ := h; refine ⟨_, ?_, hz⟩; (simp [binOp, Op.intCmp]; done))
          | (obtain ⟨z, rfl, hz⟩ := h; refine ⟨_, ?_, hz⟩; (simp [binOp, Op.intCmp]; rfl))
          | (obtain ⟨z, rfl, hz⟩ := h; refine ⟨_, ?_, hz⟩; (simp [binOp, Op.intCmp, bne]; rfl))
  · exact h.elim
theorem run_eqB_in (d : Nat) {t : TypeId} (h : P.underlying t = some .bool) (a b : Bool) : (Op.equalIn (d + 1) t (.bool a) (.bool b)).run P w = .ok (a == b) w := by
  simp only [Op.equalIn, Sem.run_bind, run_und h, Result.andThen_ok, Sem.run_pure]
theorem run_eqB {t : TypeId} (h : P.underlying t = some .bool) (a b : Bool) : (Op.equal t (.bool a) (.bool b)).run P w = .ok (a == b) w := run_eqB_in 9999 h a b
theorem run_eqNil_in (d : Nat) {t : TypeId} {k : NilKind} (h : nilKind P t = some k) {x y : Value} {b : Bool} (hb : nilOf k x y = some b) : (Op.equalIn (d + 1) t x y).run P w = .ok b w := by
  unfold nilKind at h
  unfold nilOf at hb
  split at hb
  · rename_i a
    cases hb
    split at h <;> cases h
    rename_i hu
    simp only [Op.equalIn, Sem.run_bind, run_und hu, Result.andThen_ok]
    cases a <;> rfl
  · rename_i a n c n' c'
    cases hb
    split at h <;> cases h
    rename_i hu
    simp only [Op.equalIn, Sem.run_bind, run_und hu, Result.andThen_ok]
    cases a <;> rfl
  · rename_i a
    cases hb
    split at h <;> cases h
    rename_i hu
    simp only [Op.equalIn, Sem.run_bind, run_und hu, Result.andThen_ok]
    cases a <;> rfl
  · cases hb
    split at h <;> cases h
    rename_i hu
    simp only [Op.equalIn, Sem.run_bind, run_und hu, Result.andThen_ok, Sem.run_pure]
  · cases hb
    split at h <;> cases h
    rename_i hu
    simp only [Op.equalIn, Sem.run_bind, run_und hu, Result.andThen_ok, Sem.run_pure]
  · cases hb
theorem run_eqNil {t : TypeId} {k : NilKind} (h : nilKind P t = some k) {x y : Value} {b : Bool} (hb : nilOf k x y = some b) : (Op.equal t x y).run P w = .ok b w := run_eqNil_in 9999 h hb

theorem run_guard_int (op : BinOp) (t : TypeId) (x y : Operand) (k k' : IntKind) (a b : Int) : (eqGuard op t x y (.int k a) (.int k' b)).run P w = .ok () w := by
  cases op <;> rfl
theorem run_guard_bool (op : BinOp) (t : TypeId) (x y : Operand) (a b : Bool) : (eqGuard op t x y (.bool a) (.bool b)).run P w = .ok () w := by
  cases op <;> rfl
theorem run_guard_nil {k : NilKind} (op : BinOp) (t : TypeId) (x y : Operand) {u v : Value} {b : Bool} (hb : nilOf k u v = some b) : (eqGuard op t x y u v).run P w = .ok () w := by
  unfold nilOf at hb
  split at hb <;> first | (cases hb; done) | (cases hb; cases op <;> rfl)

theorem sound_bin {o : Oper} {op : BinOp} {t : TypeId} {x y : Operand} {t' : TypeId} (ho : o.op = .binOp op t x y t') (h : opVC P f w K (.bin op x y)) : Runs P o f w K := by
  simp only [opVC] at h
  obtain ⟨v, hv, hk⟩ := bin_int (P := P) (w := w) (t := t) h
  have hi : ∃ k a k' b, ev f x = .int k a ∧ ev f y = .int k' b := by
    unfold binVC at h
    split at h
    · rename_i k a k' b h1 h2; exact ⟨k, a, k', b, h1, h2⟩
    · exact h.elim
  obtain ⟨k, a, k', b, hx, hy⟩ := hi
  rw [hx, hy] at hv
  simp only [Runs, execOp, ho, Sem.run_bind, hx, hy, run_guard_int, Result.andThen_ok, hv, Upon, Sem.run_pure]
  exact hk
theorem sound_eqB {o : Oper} {neg : Bool} {t : TypeId} {x y : Operand} {t' : TypeId} (ho : o.op = .binOp (if neg then .neq else .eql) t x y t') (ht : isBool P t = true) (h : opVC P f w K (.eqB neg x y)) : Runs P o f w K := by
  have hu : P.underlying t = some .bool := by
    unfold isBool at ht
    split at ht <;> first | assumption | cases ht
  simp only [opVC] at h
  split at h
  · rename_i a b hx hy
    obtain ⟨z, rfl, hk⟩ := h
    cases neg
    · simp only [Runs, execOp, ho, Bool.false_eq_true, if_false, Sem.run_bind, hx, hy, run_guard_bool, Result.andThen_ok, binOp, run_eqB hu, Sem.run_pure, Upon]
      simpa using hk
    · simp only [Runs, execOp, ho, if_true, Sem.run_bind, hx, hy, run_guard_bool, Result.andThen_ok, binOp, run_eqB hu, Sem.run_pure, Upon]
      simpa using hk
  · exact h.elim
theorem sound_eqNil {o : Oper} {neg : Bool} {t : TypeId} {x y : Operand} {t' : TypeId} {k : NilKind} (ho : o.op = .binOp (if neg then .neq else .eql) t x y t') (ht : nilKind P t = some k) (h : opVC P f w K (.eqNil neg k x y)) : Runs P o f w K := by
  simp only [opVC] at h
  split at h
  · rename_i b hb
    obtain ⟨z, rfl, hk⟩ := h
    have hrun := run_eqNil (w := w) ht hb
    have hnot : ∀ op, binOp op t (ev f x) (ev f y) = (match op with
        | .eql => (do pure (.bool (← Op.equal t (ev f x) (ev f y))) : Sem Value)
        | .neq => (do pure (.bool (!(← Op.equal t (ev f x) (ev f y)))) : Sem Value)
        | _ => binOp op t (ev f x) (ev f y)) := by
      intro op
      revert hb
      generalize ev f x = u
      generalize ev f y = v
      intro hb
      unfold nilOf at hb
      split at hb <;> first | (cases hb; done) | (cases hb; cases op <;> rfl)
    cases neg
    · simp only [Runs, execOp, ho, Bool.false_eq_true, if_false, Sem.run_bind, run_guard_nil _ _ _ _ hb, Result.andThen_ok, hnot, hrun, Sem.run_pure, Upon]
      simpa using hk
    · simp only [Runs, execOp, ho, if_true, Sem.run_bind, run_guard_nil _ _ _ _ hb, Result.andThen_ok, hnot, hrun, Sem.run_pure, Upon]
      simpa using hk
  · exact h.elim
theorem run_bound {o : Option Operand} {d top : Nat} {K' : Nat → Prop} (h : boundV f o d top K') (_code : Bool → BoundsCode) :
    ∃ n, K' n ∧ (match o with | none => n = d | some x => ∃ k, ev f x = .int k n ∧ n ≤ top) := by
  unfold boundV at h
  cases o with
  | none => exact ⟨d, h, rfl⟩
  | some x =>
    simp only at h
    split at h
    · rename_i k i hx
      obtain ⟨n, ⟨rfl, hn⟩, hk⟩ := h
      exact ⟨n, hk, k, hx, hn⟩
    · exact h.elim
theorem run_sliceBound {k : IntKind} {n top : Nat} (h : n ≤ top) (c : BoundsCode) : (Instr.sliceBound (.int k n) top c).run P w = .ok n w := by
  simp [Instr.sliceBound, asIntOf, h]

theorem buildParts_spec {fs : Array Field} : ∀ {parts : List (Nat × Operand)} {ps : List (Nat × Nat × Operand)},
    (parts.mapM fun p => match fs[p.1]? with
      | some fd => some (fd.offset, P.cellsOf fd.type, p.2)
      | none => (none : Option (Nat × Nat × Operand))) = some ps →
    ∀ (places : Array (Nat × Nat)), (∀ (i : Nat) (fd : Field), fs[i]? = some fd → places[i]? = some (fd.offset, P.cellsOf fd.type)) →
    ∀ (cs : Array Value), (ps.all fun p => (ev f p.2.2).cells.size == p.2.1 && Nat.ble (p.1 + p.2.1) cs.size) = true →
      Instr.fill (places[·]?) cs (parts.map fun p => (p.1, ev f p.2)) = some (fillL cs.toList (ps.map fun p => (p.1, (ev f p.2.2).cells.toList))).toArray
  | [], ps, h, places, hp, cs, ha => by
    simp at h; subst h; simp [Instr.fill, fillL]
  | (i, x) :: parts, ps, h, places, hp, cs, ha => by
    simp only [List.mapM_cons] at h
    cases hf : fs[i]? with
    | none => simp [hf] at h
    | some fd =>
      simp only [hf, Option.bind_eq_bind, Option.bind_some, Option.pure_def] at h
      obtain ⟨ps', h', e⟩ := Option.bind_eq_some_iff.1 h
      cases e
      simp only [List.all_cons, Bool.and_eq_true] at ha
      obtain ⟨⟨h1, h2⟩, h3⟩ := ha
      have h1' : (ev f x).cells.size = P.cellsOf fd.type := by simpa using h1
      have h2' : fd.offset + P.cellsOf fd.type ≤ cs.size := Nat.le_of_ble_eq_true h2
      have hput : ∀ (vs : List Value) (cs : Array Value) (off k : Nat), (vs.zipIdx k).foldl (fun cs (p : Value × Nat) => cs.setIfInBounds (off + p.2) p.1) cs = (put1 cs.toList (off + k) vs).toArray := by
        intro vs
        induction vs with
        | nil => intro cs off k; simp [put1]
        | cons v vs ih => intro cs off k; simp only [List.zipIdx_cons, List.foldl_cons, put1]; rw [ih]; simp [Nat.add_assoc]
      have hlen : ∀ (vs cs : List Value) (off : Nat), (put1 cs off vs).length = cs.length := by
        intro vs
        induction vs with
        | nil => intro cs off; rfl
        | cons v vs ih => intro cs off; simp [put1, ih]
      have hfold : (ev f x).cells.zipIdx.foldl (fun cs (p : Value × Nat) => cs.setIfInBounds (fd.offset + p.2) p.1) cs = (put1 cs.toList fd.offset (ev f x).cells.toList).toArray := by
        have := hput (ev f x).cells.toList cs fd.offset 0
        rw [← Array.foldl_toList, Array.toList_zipIdx]
        simpa using this
      simp only [List.map_cons, Instr.fill, hp i fd hf, fillL]
      rw [if_neg (by simp [h1']; omega)]
      have := buildParts_spec h' places hp (put1 cs.toList fd.offset (ev f x).cells.toList).toArray (by simpa [hlen] using h3)
      rw [show (Array.foldl (fun cs x_1 => match x_1 with | (c, j) => cs.setIfInBounds (fd.offset + j) c) cs (ev f x).cells.zipIdx) = _ from hfold]
      simpa using this
theorem places_spec {fs : Array Field} (w : World) (hall : ∀ (i : Nat) (fd : Field), fs[i]? = some fd → ∃ inf, P.info? fd.type = some inf) :
    ∃ places : Array (Nat × Nat), ((fs.mapM fun (fd : Field) => do pure (fd.offset, ← sizeOf fd.type) : Sem (Array (Nat × Nat)))).run P w = .ok places w ∧ ∀ (i : Nat) (fd : Field), fs[i]? = some fd → places[i]? = some (fd.offset, P.cellsOf fd.type) := by
  refine ⟨fs.map fun fd => (fd.offset, P.cellsOf fd.type), ?_, fun i fd h => by simp [h]⟩
  have key : ∀ (l : List Field), (∀ fd ∈ l, ∃ inf, P.info? fd.type = some inf) → ((l.mapM fun (fd : Field) => do pure (fd.offset, ← sizeOf fd.type) : Sem (List (Nat × Nat)))).run P w = .ok (l.map fun fd => (fd.offset, P.cellsOf fd.type)) w := by
    intro l
    induction l with
    | nil => intro _; rfl
    | cons fd l ih =>
      intro h
      obtain ⟨inf, hi⟩ := h fd (by simp)
      simp only [List.mapM_cons, Sem.run_bind, run_size hi, Result.andThen_ok, Sem.run_pure, ih (fun x hx => h x (by simp [hx])), List.map_cons, Program.cellsOf, hi, Option.map_some, Option.getD_some]
  have hl : ∀ fd ∈ fs.toList, ∃ inf, P.info? fd.type = some inf := fun fd hfd => by
    obtain ⟨i, hi⟩ := List.getElem?_of_mem hfd
    exact hall i fd (by simpa using hi)
  rw [Array.mapM_eq_mapM_toList]
  simp only [Sem.run_map, key fs.toList hl, Result.andThen_ok]
  congr 1
  apply Array.ext'
  simp

theorem isInt_spec {t : TypeId} (h : isInt P t = true) : ∃ k, P.underlying t = some (.int k) := by
  unfold isInt at h
  split at h <;> first | exact ⟨_, by assumption⟩ | cases h
theorem sound_call {o : Oper} {g : FuncId} {args : Array Operand} {ts : Array TypeId} (ho : o.op = .call { callee := .value (.func g), args, argTypes := ts }) (hg : funcOK P g = true) (h : Does P g (args.toList.map (ev f)) w K) : Runs P o f w K := by
  unfold funcOK at hg
  split at hg
  · rename_i fn hfn
    simp only [Bool.and_eq_true, Bool.not_eq_true', beq_eq_false_iff_ne] at hg
    obtain ⟨h1, h2⟩ := hg
    have h2' : (fn.name == "runtime.NumGoroutine") = false := by simpa using h2
    have h1' : fn.body.isNone = false := by cases hb : fn.body <;> simp_all
    have hrun : (execOp (ev f) o).run P w = .ok (.enter g (args.map (ev f))) w := by
      simp only [execOp, ho, Sem.run_bind, resolve, ev, Deferred.ofValue, Sem.run_pure, Result.andThen_ok, invoke, callFunc, run_program, hfn, h2', h1', Bool.false_eq_true, if_false]
      simp
    simp only [Runs, hrun, Upon]
    simpa [Does] using h
  · cases hg

def eqStep (d : Nat) (a b : Array Value) (fd : Field) (_ : Option Bool × Unit) : Sem (ForInStep (Option Bool × Unit)) :=
  if fd.name ≠ "_" then do
    let x ← part fd.type a fd.offset
    let y ← part fd.type b fd.offset
    let e ← Op.equalIn d fd.type x y
    if (!e) = true then pure (ForInStep.done (some false, ())) else pure (ForInStep.yield (none, ()))
  else pure (ForInStep.yield (none, ()))
theorem run_eqInt_in (d : Nat) {t : TypeId} {k0 : IntKind} (h : P.underlying t = some (.int k0)) (k : IntKind) (a b : Int) : (Op.equalIn (d + 1) t (.int k a) (.int k b)).run P w = .ok (a == b) w := by
  simp only [Op.equalIn, Sem.run_bind, run_und h, Result.andThen_ok, if_true, Sem.run_pure]
theorem run_part1 {t : TypeId} {d : TypeDesc} (h : P.underlying t = some d) (hd : isAggD d = false) {cs : Array Value} {i : Nat} {v : Value} (hv : cs.toList[i]? = some v) : (part t cs i).run P w = .ok v w := by
  have hv' : cs[i]? = some v := by simpa using hv
  simp only [part, Sem.run_bind, run_agg h, hd, Result.andThen_ok, Bool.false_eq_true, if_false, hv', Sem.run_pure]
theorem run_eqFields (d : Nat) (a b : Array Value) : ∀ (l : List Field) (i : Nat) (ks : List Bool) (r : Bool), flatFrom P i l = some ks → flatEq ks (a.toList.drop i) (b.toList.drop i) = some r →
    (forIn l ((none, ()) : Option Bool × Unit) (eqStep (d + 1) a b)).run P w = .ok (if r then (none, ()) else (some false, ())) w
  | [], i, ks, r, hk, hr => by
    simp only [flatFrom, Option.some.injEq] at hk
    subst hk
    have : r = true := by
      generalize a.toList.drop i = la at hr
      generalize b.toList.drop i = lb at hr
      unfold flatEq at hr
      split at hr <;> simp_all
    subst this
    simp
  | fd :: l, i, ks, r, hk, hr => by
    simp only [flatFrom] at hk
    have hdrop : ∀ (c : Array Value) (v : Value) (vs : List Value), c.toList.drop i = v :: vs → c.toList[i]? = some v ∧ c.toList.drop (i + 1) = vs := fun c v vs h => by
      have h1 : (c.toList.drop i)[0]? = some v := by rw [h]; rfl
      have h2 : (c.toList.drop i).drop 1 = vs := by rw [h]; rfl
      rw [List.getElem?_drop] at h1
      rw [List.drop_drop] at h2
      exact ⟨by simpa using h1, h2⟩
    split at hk
    · rename_i k0 ks' hok hu hks
      cases hk
      simp only [Bool.and_eq_true, Bool.not_eq_true', beq_eq_false_iff_ne] at hok
      obtain ⟨hoff, hname⟩ := hok
      have hoff' : fd.offset = i := Nat.eq_of_beq_eq_true hoff
      have hname' : fd.name ≠ "_" := by simpa using hname
      generalize e2 : a.toList.drop i = la at hr
      generalize e3 : b.toList.drop i = lb at hr
      unfold flatEq at hr
      split at hr
      · rename_i h; cases h
      · rename_i ks1 k x xs k' y ys e1
        cases e1
        obtain ⟨hx, hxs⟩ := hdrop a _ _ e2
        obtain ⟨hy, hys⟩ := hdrop b _ _ e3
        cases hkk : kEq k k' with
        | false => rw [hkk] at hr; cases hr
        | true =>
          rw [hkk] at hr
          obtain rfl := (kEq_iff _ _).1 hkk
          obtain ⟨r', hr', rfl⟩ := Option.map_eq_some_iff.1 hr
          have ih := run_eqFields d a b l (i + 1) _ r' hks (by rw [hxs, hys]; exact hr')
          simp only [List.forIn_cons, Sem.run_bind, eqStep, if_pos hname', hoff', run_part1 hu rfl hx, run_part1 hu rfl hy, Result.andThen_ok, run_eqInt_in d hu]
          by_cases hxy : x = y
          · simp [hxy, ih]
          · simp [hxy]
      · rename_i h; cases h
      · cases hr
    · rename_i ks' hok hu hks
      cases hk
      simp only [Bool.and_eq_true, Bool.not_eq_true', beq_eq_false_iff_ne] at hok
      obtain ⟨hoff, hname⟩ := hok
      have hoff' : fd.offset = i := Nat.eq_of_beq_eq_true hoff
      have hname' : fd.name ≠ "_" := by simpa using hname
      generalize e2 : a.toList.drop i = la at hr
      generalize e3 : b.toList.drop i = lb at hr
      unfold flatEq at hr
      split at hr
      · rename_i h; cases h
      · rename_i h; cases h
      · rename_i ks1 x xs y ys e1
        cases e1
        obtain ⟨hx, hxs⟩ := hdrop a _ _ e2
        obtain ⟨hy, hys⟩ := hdrop b _ _ e3
        obtain ⟨r', hr', rfl⟩ := Option.map_eq_some_iff.1 hr
        have ih := run_eqFields d a b l (i + 1) _ r' hks (by rw [hxs, hys]; exact hr')
        simp only [List.forIn_cons, Sem.run_bind, eqStep, if_pos hname', hoff', run_part1 hu rfl hx, run_part1 hu rfl hy, Result.andThen_ok, run_eqB_in d hu]
        by_cases hxy : x = y
        · simp [hxy, ih]
        · have : (x == y) = false := by simpa using hxy
          simp [this]
      · cases hr
    · cases hk
theorem run_eqS {t : TypeId} {ks : List Bool} (h : flatK P t = some ks) {a b : Array Value} {r : Bool} (hr : flatEq ks a.toList b.toList = some r) : (Op.equal t (.agg a) (.agg b)).run P w = .ok r w := by
  unfold flatK at h
  split at h
  · rename_i fs hu
    split at h
    · rename_i hst
      have key : (Op.equalIn (9998 + 1 + 1) t (.agg a) (.agg b)).run P w = .ok r w := by
        rw [Op.equalIn]
        simp only [Sem.run_bind, run_und hu, Result.andThen_ok, run_program, hst, Bool.false_eq_true, if_false]
        have := run_eqFields (w := w) 9998 a b fs.toList 0 ks r h hr
        rw [Array.forIn_toList] at this
        change ((Sem.run P (forIn fs ((none, ()) : Option Bool × Unit) (eqStep (9998 + 1) a b)) w).andThen _) = _
        rw [this]
        cases r <;> rfl
      exact key
    · cases h
  · cases h
theorem sound_eqS {o : Oper} {neg : Bool} {t : TypeId} {x y : Operand} {t' : TypeId} {ks : List Bool} (ho : o.op = .binOp (if neg then .neq else .eql) t x y t') (ht : flatK P t = some ks)
    (hg : P.eqGuardType P.depth t = false) (h : opVC P f w K (.eqS neg ks x y)) : Runs P o f w K := by
  simp only [opVC] at h
  split at h
  · rename_i a b hx hy
    split at h
    · rename_i r hr
      obtain ⟨z, rfl, hk⟩ := h
      have hrun := run_eqS (w := w) ht hr
      have hgd : ∀ op, (eqGuard op t x y (.agg a) (.agg b)).run P w = .ok () w := fun op => by
        cases op <;> first | rfl | (simp [eqGuard, hg])
      cases neg
      · simp only [Runs, execOp, ho, Bool.false_eq_true, if_false, Sem.run_bind, hx, hy, hgd, Result.andThen_ok, binOp, hrun, Sem.run_pure, Upon]
        simpa using hk
      · simp only [Runs, execOp, ho, if_true, Sem.run_bind, hx, hy, hgd, Result.andThen_ok, binOp, hrun, Sem.run_pure, Upon]
        simpa using hk
    · exact h.elim
  · exact h.elim
theorem rows_eq (n : Nat) (z : Array Value) (_hz : 0 < z.size) : (rows n z.toList).toArray = (Array.range (n * z.size)).map fun i => z[i % z.size]! := by
  apply Array.ext'
  simp only [Array.toList_map, Array.toList_range]
  unfold rows
  induction n with
  | zero => simp
  | succ n ih =>
    rw [List.replicate_succ', List.flatten_append, ih, Nat.succ_mul, List.range_add, List.map_append]
    congr 1
    simp only [List.flatten_cons, List.flatten_nil, List.append_nil, List.map_map]
    apply List.ext_getElem?
    intro i
    by_cases hi : i < z.size
    · have : (n * z.size + i) % z.size = i := by rw [Nat.mul_comm, Nat.mul_add_mod]; exact Nat.mod_eq_of_lt hi
      simp [hi, this]
    · simp [hi]
theorem rows_length (n : Nat) (z : List Value) : (rows n z).length = n * z.length := by simp [rows, List.length_flatten, List.map_replicate, List.sum_replicate_nat]
theorem fill_slice {sz : Nat} : ∀ {parts : List (Nat × Operand)} (cs : Array Value),
    ((parts.map fun p => (p.1 * sz, sz, p.2)).all fun p => (ev f p.2.2).cells.size == p.2.1 && Nat.ble (p.1 + p.2.1) cs.size) = true →
      Instr.fill (fun i => some (i * sz, sz)) cs (parts.map fun p => (p.1, ev f p.2)) = some (fillL cs.toList ((parts.map fun p => (p.1 * sz, sz, p.2)).map fun p => (p.1, (ev f p.2.2).cells.toList))).toArray
  | [], cs, _ => by simp [Instr.fill, fillL]
  | (i, x) :: parts, cs, ha => by
    simp only [List.map_cons, List.all_cons, Bool.and_eq_true] at ha
    obtain ⟨⟨h1, h2⟩, h3⟩ := ha
    have h1' : (ev f x).cells.size = sz := by simpa using h1
    have h2' : i * sz + sz ≤ cs.size := Nat.le_of_ble_eq_true h2
    have hput : ∀ (vs : List Value) (cs : Array Value) (off k : Nat), (vs.zipIdx k).foldl (fun cs (p : Value × Nat) => cs.setIfInBounds (off + p.2) p.1) cs = (put1 cs.toList (off + k) vs).toArray := by
      intro vs
      induction vs with
      | nil => intro cs off k; simp [put1]
      | cons v vs ih => intro cs off k; simp only [List.zipIdx_cons, List.foldl_cons, put1]; rw [ih]; simp [Nat.add_assoc]
    have hlen : ∀ (vs cs : List Value) (off : Nat), (put1 cs off vs).length = cs.length := by
      intro vs
      induction vs with
      | nil => intro cs off; rfl
      | cons v vs ih => intro cs off; simp [put1, ih]
    have hfold : (ev f x).cells.zipIdx.foldl (fun cs (p : Value × Nat) => cs.setIfInBounds (i * sz + p.2) p.1) cs = (put1 cs.toList (i * sz) (ev f x).cells.toList).toArray := by
      have := hput (ev f x).cells.toList cs (i * sz) 0
      rw [← Array.foldl_toList, Array.toList_zipIdx]
      simpa using this
    simp only [List.map_cons, Instr.fill, fillL]
    rw [if_neg (by simp [h1']; omega)]
    have := fill_slice (parts := parts) (put1 cs.toList (i * sz) (ev f x).cells.toList).toArray (by simpa [hlen] using h3)
    rw [show (Array.foldl (fun cs x_1 => match x_1 with | (c, j) => cs.setIfInBounds (i * sz + j) c) cs (ev f x).cells.zipIdx) = _ from hfold]
    simpa using this
theorem run_max {k : IntKind} {K' : Int → Prop} : ∀ (r : List Operand) (m : Int), maxL f k K' m r → ∃ z, ((r.map (ev f)).foldlM Builtin.max2 (.int k m)).run P w = .ok (.int k z) w ∧ K' z
  | [], m, h => ⟨m, rfl, h⟩
  | x :: r, m, h => by
    simp only [maxL] at h
    split at h
    · rename_i k' b hx
      cases hk : kEq k k' with
      | false => rw [hk] at h; exact h.elim
      | true =>
        rw [hk] at h
        obtain ⟨z, rfl, h⟩ := h
        obtain ⟨z', hz, hK⟩ := run_max r _ h
        exact ⟨z', by simp only [List.map_cons, List.foldlM_cons, Sem.run_bind, hx, Builtin.max2, Sem.run_pure, Result.andThen_ok, hz], hK⟩
    · exact h.elim

theorem comp_sound (o : Oper) (h : opVC P f w K (comp P o)) : Runs P o f w K := by
  obtain ⟨dst, op, type, pos, after, guard⟩ := o
  cases op <;> simp only [comp] at h <;> (try exact h)
  case pick c a b =>
    simp only [opVC] at h
    split at h
    · rename_i hc; simp only [Runs, execOp, Sem.run_bind, hc, asBool, Sem.run_pure, Result.andThen_ok, if_true, Upon]; exact h
    · rename_i hc; simp only [Runs, execOp, Sem.run_bind, hc, asBool, Sem.run_pure, Result.andThen_ok, Bool.false_eq_true, if_false, Upon]; exact h
    · exact h.elim
  case alloc t =>
    split at h
    · rename_i z hz
      obtain ⟨b, w', ⟨rfl, rfl⟩, hk⟩ := h
      have hr : (Instr.alloc t true (.tuple #[])).run P w = .ok (.pointer (some ⟨w.heap.size, 0, none⟩)) (w.alloc (.cells z.cells t)) := by
        unfold Instr.alloc
        rw [Sem.run_bind, run_zero hz]
        rfl
      simp only [Runs, execOp, Sem.run_bind, hr, Result.andThen_ok, Sem.run_pure, Upon]
      simpa using hk
    · exact h
  case box t x =>
    obtain ⟨b, w', ⟨rfl, rfl⟩, hk⟩ := h
    simp only [Runs, execOp, Sem.run_bind, Instr.box, newVar, newRow, run_newObj, Result.andThen_ok, Sem.run_pure, Upon]
    exact hk
  case load t x =>
    split at h
    · rename_i n hn
      simp only [opVC] at h
      split at h
      · rename_i a hx
        obtain ⟨v, hv, hk⟩ := aggN_spec (P := P) hn a h
        simp only [Runs, execOp, Sem.run_bind, Instr.loadAt, hx, Instr.sureAddr, Sem.run_pure, Result.andThen_ok, hv, Upon]
        exact hk
      · exact h.elim
    · exact h
  case store t x v =>
    split at h
    · rename_i i hi
      simp only [opVC] at h
      split at h
      · rename_i a hx
        obtain ⟨hs, w', hst, hk⟩ := h
        simp only [Runs, execOp, Sem.run_bind, Instr.storeAt, hx, Instr.sureAddr, Sem.run_pure, Result.andThen_ok, storeVar, run_size hi, Upon]
        rw [if_neg (by simp [hs])]
        simp only [run_stored a _ 0 w w' hst, Result.andThen_ok]
        exact hk
      · exact h.elim
    · exact h
  case nilCheck x =>
    simp only [opVC] at h
    split at h
    · rename_i a hx; simp only [Runs, execOp, hx, Sem.run_pure, Upon]; exact h
    · rename_i g fs cs hx; simp only [Runs, execOp, hx, Sem.run_pure, Upon]; exact h
    · exact h.elim
  case binOp op t x y t' =>
    by_cases he : op = .eql
    · subst he
      simp only at h
      split at h
      · rename_i k hk; exact sound_eqNil (neg := false) rfl hk h
      · split at h
        · exact sound_bin rfl h
        · split at h
          · rename_i hb; exact sound_eqB (neg := false) rfl hb h
          · split at h
            · rename_i hg hks; exact sound_eqS (neg := false) rfl hks hg h
            · exact h
    · by_cases hn : op = .neq
      · subst hn
        simp only at h
        split at h
        · rename_i k hk; exact sound_eqNil (neg := true) rfl hk h
        · split at h
          · exact sound_bin rfl h
          · split at h
            · rename_i hb; exact sound_eqB (neg := true) rfl hb h
            · split at h
              · rename_i hg hks; exact sound_eqS (neg := true) rfl hks hg h
              · exact h
      · have h' : opVC P f w K (if isInt P t = true then .bin op x y else .raw ⟨dst, .binOp op t x y t', type, pos, after, guard⟩) := by
          cases op <;> first | exact absurd rfl he | exact absurd rfl hn | exact h
        split at h'
        · exact sound_bin rfl h'
        · exact h'
  case unOp op t x =>
    cases op <;> simp only at h <;> (try exact h)
    simp only [opVC] at h
    split at h
    · rename_i b hx
      obtain ⟨z, rfl, hk⟩ := h
      simp only [Runs, execOp, Sem.run_bind, hx, Op.unary, Sem.run_pure, Result.andThen_ok, Upon]; exact hk
    · exact h.elim
  case convert s d x =>
    split at h
    · rename_i k' k hs hd
      simp only [opVC] at h
      split at h
      · rename_i k'' n hx
        obtain ⟨z, rfl, hk⟩ := h
        simp only [Runs, execOp, Sem.run_bind, convert, run_und hs, run_und hd, Result.andThen_ok, hx, Conv.intToInt, Sem.run_pure, Upon]; exact hk
      · exact h.elim
    · exact h
  case makeFunc fn fs cs =>
    have e1 : fs.map (ev f) = (fs.toList.map (ev f)).toArray := by apply Array.ext'; simp
    have e2 : cs.map (ev f) = (cs.toList.map (ev f)).toArray := by apply Array.ext'; simp
    simp only [Runs, execOp, Sem.run_bind, Instr.makeFunc, Sem.run_pure, Result.andThen_ok, Upon, e1, e2]
    exact h
  case makeInterface t x =>
    split at h
    · exact h
    · rename_i d hns hu
      simp only [Runs, execOp, Sem.run_bind, Instr.makeInterface, run_und hu, Result.andThen_ok]
      cases d <;> first | exact absurd rfl (hns _) | exact h
    · exact h
  case extract x i =>
    simp only [opVC] at h
    split at h
    · rename_i vs hx
      split at h
      · rename_i v hv
        have hv' : vs[i]? = some v := by simpa using hv
        simp only [Runs, execOp, Sem.run_bind, hx, Instr.extract, hv', Sem.run_pure, Result.andThen_ok, Upon]; exact h
      · exact h.elim
    · exact h.elim
  case fieldAddr s x i =>
    split at h
    · rename_i fs hu
      split at h
      · rename_i fd hf
        split at h
        · rename_i inf hi
          split at h
          · exact h
          · rename_i hz
            simp only [opVC] at h
            split at h
            · rename_i a hx
              simp only [Runs, execOp, Sem.run_bind, Instr.fieldAt, run_und hu, Result.andThen_ok, hf, hx, Instr.sureAddr, Sem.run_pure, fieldPlace, run_size hi, Sem.run_ite, if_neg hz, Upon]; exact h
            · exact h.elim
        · exact h
      · exact h
    · exact h
  case field s x i =>
    split at h
    · rename_i fs hu
      split at h
      · rename_i fd hf
        split at h
        · rename_i n hn
          simp only [opVC] at h
          split at h
          · rename_i cs hx
            unfold aggN at hn
            cases hud : P.underlying fd.type with
            | none => simp [hud] at hn
            | some d =>
              simp only [hud] at hn
              cases hd : isAggD d with
              | true =>
                simp only [hd] at hn
                obtain ⟨inf, hi, rfl⟩ := Option.map_eq_some_iff.1 hn
                simp only [Runs, execOp, Sem.run_bind, Instr.field, run_und hu, Result.andThen_ok, hf, hx, asAgg, Sem.run_pure, part, run_agg hud, hd, if_true, run_size hi, Upon]; exact h
              | false =>
                simp only [hd] at hn
                cases hn
                obtain ⟨v, hv, hk⟩ := h
                have hv' : cs[fd.offset]? = some v := by simpa using hv
                simp only [Runs, execOp, Sem.run_bind, Instr.field, run_und hu, Result.andThen_ok, hf, hx, asAgg, Sem.run_pure, part, run_agg hud, hd, Bool.false_eq_true, if_false, hv', Upon]; exact hk
          · exact h.elim
        · exact h
      · exact h
    · exact h
  case indexAddr t x i =>
    split at h
    · rename_i e hu
      split at h
      · rename_i inf hi
        simp only [opVC] at h
        split at h
        · rename_i a n c k j hx hj
          obtain ⟨hb, a', rfl, hk⟩ := h
          simp only [Runs, execOp, Sem.run_bind, Instr.indexAt, hx, hj, asIntOf, Sem.run_pure, Result.andThen_ok, run_und hu, if_pos hb, run_size hi, Upon]; exact hk
        · exact h.elim
      · exact h
    · exact h
  case slice t x lo hi mx =>
    split at h
    · rename_i e hu
      split at h
      · rename_i inf hinf
        split at h
        · exact h
        · rename_i hmh
          simp only [opVC] at h
          split at h
          · rename_i a n c hx
            obtain ⟨m, h1, hm⟩ := run_bound h (fun _ => .index)
            obtain ⟨hh, h2, hh'⟩ := run_bound h1 (fun _ => .index)
            obtain ⟨l, ⟨v, rfl, hk⟩, hl⟩ := run_bound h2 (fun _ => .index)
            have hb : (Instr.sliceBounds true n c (lo.map (ev f)) (hi.map (ev f)) (mx.map (ev f))).run P w = .ok (l, hh, m) w := by
              unfold Instr.sliceBounds
              cases mx with
              | none =>
                simp only at hm; subst hm
                cases hi with
                | none =>
                  simp only at hh'; subst hh'
                  cases lo with
                  | none => simp only at hl; subst hl; simp
                  | some lo => obtain ⟨k, e1, e2⟩ := hl; simp [e1, run_sliceBound e2]
                | some hi =>
                  obtain ⟨k, e1, e2⟩ := hh'
                  cases lo with
                  | none => simp only at hl; subst hl; simp [e1, run_sliceBound e2]
                  | some lo => obtain ⟨k', e1', e2'⟩ := hl; simp [e1, run_sliceBound e2, e1', run_sliceBound e2']
              | some mx =>
                obtain ⟨k0, e0, e0'⟩ := hm
                cases hi with
                | none => simp at hmh
                | some hi =>
                  obtain ⟨k, e1, e2⟩ := hh'
                  cases lo with
                  | none => simp only at hl; subst hl; simp [e0, run_sliceBound e0', e1, run_sliceBound e2]
                  | some lo => obtain ⟨k', e1', e2'⟩ := hl; simp [e0, run_sliceBound e0', e1, run_sliceBound e2, e1', run_sliceBound e2']
            simp only [Runs, execOp, Sem.run_bind, Instr.sliceAt, run_und hu, Result.andThen_ok, Instr.slice, hx, hb, run_size hinf, Sem.run_pure, Upon]
            exact hk
          · exact h.elim
      · exact h
    · exact h
  case build t parts =>
    split at h
    · rename_i fs z hu hz
      split at h
      · rename_i hall
        split at h
        · rename_i ps hps
          obtain ⟨hchk, cs, rfl, hk⟩ := h
          have hall' : ∀ (i : Nat) (fd : Field), fs[i]? = some fd → ∃ inf, P.info? fd.type = some inf := fun i fd hi => by
            have := Array.all_eq_true'.1 hall fd (Array.mem_of_getElem? hi)
            exact Option.isSome_iff_exists.1 this
          obtain ⟨places, hpl, hp⟩ := places_spec (P := P) w hall'
          have hfill := buildParts_spec (f := f) hps places hp z.cells (by simpa using hchk)
          simp only [Runs, execOp, Sem.run_bind, Instr.build, run_zero hz, Result.andThen_ok, run_und hu]
          rw [hpl]
          simp only [Result.andThen_ok]
          have e : (Array.map (fun x => match x with | (i, x) => (i, ev f x)) parts).toList = parts.toList.map fun p => (p.1, ev f p.2) := by simp
          rw [e, hfill]
          simp only [Sem.run_pure, Result.andThen_ok, Upon]
          exact hk
        · exact h
      · exact h
    · exact h
  case makeSlice t l c =>
    split at h
    · rename_i e hu
      split at h
      · rename_i inf hi
        split at h
        · rename_i z hz
          split at h
          · rename_i hsz
            simp only [opVC] at h
            split at h
            · rename_i k i k' j hl hc
              obtain ⟨n, m, ⟨rfl, rfl, hnm, hby, hm⟩, b, w', ⟨rfl, rfl⟩, hk⟩ := h
              have hw : ∀ q : Nat, q ≤ 140737488355328 → IntKind.i64.wrap (q : Int) = q := fun q hq => IntWalk.i64_in _ (by omega)
              have hw1 := hw n (by omega)
              have hw2 := hw m hm
              have hrow : (rows m z.cells.toList).toArray = (Array.range (m * z.cells.size)).map fun i => z.cells[i % z.cells.size]! := rows_eq m z.cells (by omega)
              have hby' : ((inf.bytes : Int) * (m : Int)) ≤ 140737488355328 := by
                have h9 := Int.ofNat_le.2 hby
                rw [Int.natCast_mul] at h9
                rw [Int.mul_comm]
                exact h9
              have hrun : (Instr.makeSlice t (.int k n) (.int k' m)).run P w = .ok (.slice (some ⟨w.heap.size, 0, none⟩) n m) (w.alloc (.cells (rows m z.cells.toList).toArray e)) := by
                unfold Instr.makeSlice
                simp only [Sem.run_bind, run_und hu, Result.andThen_ok, asInt, asIntOf, Sem.run_pure, run_info hi, hw1, hw2]
                rw [if_neg (by
                  simp only [Bool.or_eq_true, decide_eq_true_eq, not_or]
                  refine ⟨⟨⟨?_, ?_⟩, ?_⟩, ?_⟩ <;> omega)]
                simp only [Sem.run_bind, run_askRoom, Result.andThen_ok, Int.toNat_natCast, run_size hi]
                rw [hrow]
                by_cases h0 : m * inf.size = 0
                · rw [if_pos h0]
                  have hm0 : m = 0 := by rcases Nat.mul_eq_zero.1 h0 with h | h <;> omega
                  subst hm0
                  have e0 : ∀ g : Nat → Value, Array.map g (Array.range (0 * inf.size)) = #[] := fun g => by simp
                  have e0' : ∀ g : Nat → Value, Array.map g (Array.range (0 * z.cells.size)) = #[] := fun g => by simp
                  simp only [Sem.run_pure, Result.andThen_ok, e0, e0', newRow, Sem.run_bind, run_newObj, World.alloc_eq]
                · rw [if_neg h0]
                  simp only [Sem.run_bind, run_zero (P := P) (t := e) (z := z) (by rw [hi]; exact hz), Result.andThen_ok, Sem.run_pure, newRow, run_newObj, hsz.1, World.alloc_eq]
              simp only [Runs, execOp, Sem.run_bind, hl, hc, hrun, Result.andThen_ok, Sem.run_pure, Upon]
              exact hk
            · exact h.elim
          · exact h
        · exact h
      · exact h
    · exact h
  case buildSlice t n parts =>
    split at h
    · rename_i e hu
      split at h
      · rename_i inf hi
        split at h
        · rename_i z hz
          split at h
          · rename_i hsz
            obtain ⟨hchk, cs, rfl, b, w', ⟨rfl, rfl⟩, hk⟩ := h
            have hrow : (rows n z.cells.toList).toArray = (Array.range (n * inf.size)).map fun i => z.cells[i % z.cells.size]! := by rw [← hsz.1]; exact rows_eq n z.cells (by omega)
            have hfill := fill_slice (f := f) (sz := inf.size) (parts := parts.toList) (rows n z.cells.toList).toArray (by simpa [sliceParts] using hchk)
            have e1 : (Array.map (fun x => match x with | (i, x) => (i, ev f x)) parts).toList = parts.toList.map fun p => (p.1, ev f p.2) := by simp
            have hrun : (Instr.buildSlice t n (parts.map fun (i, x) => (i, ev f x))).run P w = .ok (.slice (some ⟨w.heap.size, 0, none⟩) n n)
                (w.alloc (.cells (fillL (rows n z.cells.toList) ((sliceParts inf.size parts).map fun p => (p.1, (ev f p.2.2).cells.toList))).toArray e)) := by
              unfold Instr.buildSlice
              simp only [Sem.run_bind, run_und hu, Result.andThen_ok, run_size hi]
              rw [if_neg (by omega)]
              by_cases h0 : n * inf.size = 0
              · have hn0 : n = 0 := by rcases Nat.mul_eq_zero.1 h0 with h | h <;> omega
                subst hn0
                rw [if_pos h0]
                rw [hrow] at hfill
                have e0 : ∀ g : Nat → Value, Array.map g (Array.range (0 * inf.size)) = #[] := fun g => by simp
                rw [e0] at hfill
                rw [e1]
                simp only [Sem.run_pure, Result.andThen_ok, Sem.run_bind]
                rw [e0, hfill]
                simp only [newRow, run_newObj, Sem.run_bind, Sem.run_pure, Result.andThen_ok, World.alloc_eq, sliceParts]
                have e3 : rows 0 z.cells.toList = [] := by simp [rows]
                rw [e3]
              · rw [if_neg h0]
                simp only [Sem.run_bind, run_zero (P := P) (t := e) (z := z) (by rw [hi]; exact hz), Result.andThen_ok, Sem.run_pure]
                rw [← hrow, e1]
                simp only [hfill, Sem.run_bind, newRow, run_newObj, World.alloc_eq, sliceParts, Result.andThen_ok, Sem.run_pure]
            simp only [Runs, execOp, Sem.run_bind, hrun, Result.andThen_ok, Sem.run_pure, Upon]
            exact hk
          · exact h
        · exact h
      · exact h
    · exact h
  case call c =>
    obtain ⟨callee, args, ts⟩ := c
    cases callee with
    | value g =>
      cases g with
      | func g =>
        simp only at h
        split at h
        · rename_i hg; exact sound_call rfl hg h
        · exact h
      | tmp g =>
        simp only [opVC] at h
        split at h
        · rename_i k fs cs hg
          obtain ⟨hok, h⟩ := h
          unfold funcOK at hok
          split at hok
          · rename_i fn hfn
            simp only [Bool.and_eq_true, Bool.not_eq_true'] at hok
            obtain ⟨h1, h2⟩ := hok
            have h1' : fn.body.isNone = false := by cases hb : fn.body <;> simp_all
            have hrun : (execOp (ev f) ⟨dst, .call { callee := .value (.tmp g), args, argTypes := ts }, type, pos, after, guard⟩).run P w = .ok (.enter k (fs ++ args.map (ev f) ++ cs)) w := by
              simp only [execOp, Sem.run_bind, resolve, hg, Deferred.ofValue, Sem.run_pure, Result.andThen_ok, invoke, callFunc, run_program, hfn, h2, h1', Bool.false_eq_true, if_false]
            simp only [Runs, hrun, Upon]
            simpa [Does] using h
          · cases hok
        · exact h.elim
      | _ => exact h
    | invoke r m => exact h
    | builtin b =>
      cases b <;> simp only at h <;> (try exact h)
      case max =>
        split at h
        · rename_i x r hx
          simp only [opVC] at h
          split at h
          · rename_i k a ha
            obtain ⟨z, hz, hK⟩ := run_max (P := P) (w := w) r a h
            have e2 : (args.map (ev f)).toList = ev f x :: r.map (ev f) := by rw [Array.toList_map, hx]; rfl
            have hrun : (Builtin.max_ ts type (args.map (ev f))).run P w = .ok (.int k z) w := by
              unfold Builtin.max_
              rw [e2, ha]
              exact hz
            simp only [Runs, execOp, Sem.run_bind, resolve, Sem.run_pure, Result.andThen_ok, invoke, builtin, hrun, Upon]
            exact hK
          · exact h.elim
        · exact h
      split at h
      · rename_i t x ht hx
        have ht' : ts = #[t] := by cases ts; simp at ht; simp [ht]
        have hx' : args = #[x] := by cases args; simp at hx; simp [hx]
        subst ht' hx'
        split at h
        · rename_i e hu
          simp only [opVC] at h
          split at h
          · rename_i a n c hv
            simp only [Runs, execOp, Sem.run_bind, resolve, Sem.run_pure, Result.andThen_ok, invoke, builtin, Builtin.len_]
            simp [hv, run_und hu, Upon, goInt]; exact h
          · exact h.elim
        · rename_i hu
          simp only [opVC] at h
          split at h
          · rename_i s hv
            simp only [Runs, execOp, Sem.run_bind, resolve, Sem.run_pure, Result.andThen_ok, invoke, builtin, Builtin.len_]
            simp [hv, run_und hu, Upon, goInt]; exact h
          · exact h.elim
        · exact h
      · exact h
end sound

/-! ### Rows of operations in text order -/
def guardOf (ops : Array Oper) (o : Oper) : Option (Option (Nat × Bool)) :=
  match o.guard with
  | none => some none
  | some (j, want) => match (ops[j]?).bind (·.dst) with
    | some t => some (some (t, want))
    | none => none
def gWant (f : Fr) : Option (Nat × Bool) → Bool
  | none => true
  | some (t, want) => yieldOf (f t) == some want
def dstOK (n : Nat) : Option Nat → Bool
  | some d => Nat.blt d n
  | none => true
def compOper (P : Program) (n : Nat) (ops : Array Oper) (o : Oper) : Option MOper :=
  match dstOK n o.dst, guardOf ops o with
  | true, some g => some ⟨o.dst, comp P o, g⟩
  | _, _ => none
def compL (P : Program) (n : Nat) (ops : Array Oper) : List Oper → Option (List MOper)
  | [] => some []
  | o :: r => match compOper P n ops o, compL P n ops r with
    | some m, some ms => some (m :: ms)
    | _, _ => none

theorem wanted_iff {n : Nat} {a : Act} {f : Fr} (hr : Rel n a f) {ops : Array Oper} {o : Oper} {g : Option (Nat × Bool)} (hg : guardOf ops o = some g) :
    Region.wanted o (yielded ops a.tmps) = gWant f g := by
  unfold guardOf at hg
  unfold Region.wanted gWant
  cases ho : o.guard with
  | none => simp [ho] at hg; subst hg; rfl
  | some jw =>
    obtain ⟨j, want⟩ := jw
    simp only [ho] at hg
    cases hd : (ops[j]?).bind (·.dst) with
    | none => simp [hd] at hg
    | some t =>
      simp only [hd, Option.some.injEq] at hg
      subst hg
      simp only
      have : yielded ops a.tmps j = yieldOf (f t) := by
        unfold yielded
        rw [hd]
        have hv := hr.val t
        simp only [Option.bind_some]
        unfold yieldOf
        rw [← hv]
        rw [Array.getD_eq_getD_getElem?]
        cases ht : a.tmps[t]? with
        | none => simp [undef]
        | some v => cases v <;> simp
      rw [this]

theorem compOper_spec {P : Program} {n : Nat} {ops : Array Oper} {o : Oper} {m : MOper} (h : compOper P n ops o = some m) :
    m.dst = o.dst ∧ m.op = comp P o ∧ guardOf ops o = some m.guard ∧ ∀ x, o.dst = some x → x < n := by
  unfold compOper at h
  split at h
  · rename_i g hd hg
    cases h
    refine ⟨rfl, rfl, hg, fun x hx => ?_⟩
    rw [hx] at hd
    simp only [dstOK] at hd
    exact Nat.le_of_ble_eq_true hd
  · cases h

/-- One operation, its guard and all, as the model carries it out. -/
theorem oper_sound {P : Program} {n : Nat} {ops : Array Oper} {o : Oper} {m : MOper} (hm : compOper P n ops o = some m) {a : Act} {f : Fr} (hr : Rel n a f) {w : World}
    {KA : Value → World → Prop} {KB : Prop} {next : Act → World → Prop} {Q : Exit → Act → World → Prop}
    (hA : ∀ v w', KA v w' → next (a.put o.dst v) w') (hB : KB → next (a.put o.dst undef) w)
    (h : match m.guard with
      | none => opVC P f w KA m.op
      | some (t, want) => guardVC (f t) want (opVC P f w KA m.op) KB) :
    if Region.wanted o (yielded ops a.tmps) then o.wp P a w next Q ∨ (o.asks P a w ∧ LetsOut Q) else next (a.put o.dst undef) w := by
  obtain ⟨hd, hop, hg, hlt⟩ := compOper_spec hm
  rw [wanted_iff hr hg]
  have key : opVC P f w KA m.op → o.wp P a w next Q := fun h => by
    rw [hop] at h
    have := comp_sound o h
    unfold Oper.wp
    unfold Runs at this
    rw [hr.evalF]
    exact Upon.wp (fun v w' hk => hA v w' hk) this
  cases hgm : m.guard with
  | none =>
    simp only [hgm] at h
    simp only [gWant, if_true]
    exact .inl (key h)
  | some tw =>
    obtain ⟨t, want⟩ := tw
    simp only [hgm] at h
    rw [guardVC_iff] at h
    by_cases hc : gWant f (some (t, want)) = true
    · rw [if_pos hc]; rw [if_pos (show (yieldOf (f t) == some want) = true from hc)] at h; exact .inl (key h)
    · rw [if_neg hc]; rw [if_neg (show ¬ (yieldOf (f t) == some want) = true from hc)] at h; exact hB h

theorem wpL_sound {P : Program} {n : Nat} {ops : Array Oper} {K : Fr → World → Prop} {Q : Exit → Act → World → Prop} (hQ : ∀ a f w, Rel n a f → K f w → Q .normal a w) :
    ∀ (l : List Oper) (k : Nat) (ms : List MOper) (a : Act) (f : Fr) (w : World), (∀ j, l[j]? = ops[k + j]?) → compL P n ops l = some ms → Rel n a f → wpL P K ms f w →
      wpOps P ops Q (List.range' k l.length) a w
  | [], k, ms, a, f, w, _, hc, hr, h => by
    simp [compL] at hc; subst hc
    exact hQ a f w hr h
  | o :: l, k, ms, a, f, w, hl, hc, hr, h => by
    have h0 : ops[k]? = some o := by simpa using (hl 0).symm
    unfold compL at hc
    split at hc
    · rename_i m ms' hm hms
      cases hc
      simp only [List.length_cons, List.range'_succ, wpOps, h0]
      obtain ⟨hd, hop, hg, hlt⟩ := compOper_spec hm
      have step : ∀ v w', wpL P K ms' (put f m.dst v) w' → wpOps P ops Q (List.range' (k + 1) l.length) (a.put o.dst v) w' := fun v w' hv => by
        refine wpL_sound hQ l (k + 1) ms' _ _ _ (fun j => by have := hl (j + 1); simpa [Nat.add_assoc, Nat.add_comm 1 j] using this) hms ?_ hv
        rw [hd]
        exact hr.put hlt v
      exact oper_sound hm hr (KA := fun v w' => wpL P K ms' (put f m.dst v) w') (KB := wpL P K ms' (put f m.dst undef) w) step (step undef w) (by
        simp only [wpL] at h
        cases hgm : m.guard with
        | none => simpa [hgm] using h
        | some tw => obtain ⟨t, want⟩ := tw; simpa [hgm] using h)
    · cases hc

/-! ### Rows of operations whose order the tape draws -/
def quietOp : MOp → Bool
  | .alloc .. | .box .. | .store .. | .call .. | .raw _ | .mkSlice .. | .buildS .. | .callV .. => false
  | _ => true
def loadIs (w : World) (a : Addr) (n : Option Nat) (v : Value) : Prop :=
  match n with
  | none => w.cell? a = some v
  | some n => ∃ vs, cellsAt w a 0 n = some vs ∧ Value.agg vs.toArray = v
def pin (f : Fr) (m : MOp) (v : Value) : World → Prop :=
  match m with
  | .load n x => match ev f x with
    | .pointer (some a) => fun w => loadIs w a n v
    | _ => fun _ => True
  | _ => fun _ => True
theorem binVC_val {op : BinOp} {x y : Value} {K : Value → Prop} (h : binVC op x y K) : ∃ v, K v ∧ binVC op x y (fun u => u = v) := by
  unfold binVC at *
  split at h
  · rename_i k a k' b
    cases op <;> simp only at h ⊢
    case shl => obtain ⟨q, z, rfl, hz⟩ := h; exact ⟨_, hz, q, _, rfl, rfl⟩
    case shr => obtain ⟨q, z, rfl, hz⟩ := h; exact ⟨_, hz, q, _, rfl, rfl⟩
    all_goals
      cases hk : kEq k k' with
      | false => simp only [hk, ite'] at h
      | true =>
        simp only [hk, ite'] at h ⊢
        first
          | (obtain ⟨q, z, rfl, hz⟩ := h; exact ⟨_, hz, q, _, rfl, rfl⟩)
          | (obtain ⟨z, rfl, hz⟩ := h; exact ⟨_, hz, _, rfl, rfl⟩)
  · exact h.elim
theorem boundV_val {f : Fr} {x : Option Operand} {d top : Nat} {K : Nat → Prop} (h : boundV f x d top K) : ∃ n, K n ∧ boundV f x d top (fun m => m = n) := by
  unfold boundV at *
  cases x with
  | none => exact ⟨d, h, rfl⟩
  | some o =>
    simp only at *
    split at h
    · rename_i i hx; obtain ⟨n, q, hk⟩ := h; exact ⟨n, hk, by first | exact ⟨n, q, rfl⟩ | (rw [hx]; exact ⟨n, q, rfl⟩)⟩
    · exact h.elim
/-- A quiet operation yields one value, in every world that reads as this one where it looks. -/
theorem quiet_spec {P : Program} {f : Fr} {w : World} {K : Value → World → Prop} {m : MOp} (hq : quietOp m = true) (h : opVC P f w K m) :
    ∃ v, K v w ∧ pin f m v w ∧ ∀ w', pin f m v w' → opVC P f w' (fun u w'' => u = v ∧ w'' = w') m := by
  cases m with
  | mov x => exact ⟨_, h, trivial, fun w' _ => ⟨rfl, rfl⟩⟩
  | pick c a b =>
    simp only [opVC] at h
    split at h <;> first | exact h.elim | (rename_i hc; exact ⟨_, h, trivial, fun w' _ => by simp only [opVC, hc]; try (first | exact ⟨rfl, rfl⟩ | exact ⟨rfl, trivial⟩ | exact ⟨trivial, trivial⟩ | exact trivial)⟩)
  | load n x =>
    simp only [opVC] at h
    split at h
    · rename_i a hx
      cases n with
      | none =>
        obtain ⟨v, e, hk⟩ := h
        refine ⟨v, hk, by simp only [pin, hx, loadIs]; exact e, fun w' hp => ?_⟩
        simp only [pin, hx, loadIs] at hp
        simp only [opVC, hx, loadVC]
        first | exact ⟨v, hp, rfl, rfl⟩ | exact ⟨v, hp, rfl, trivial⟩
      | some n =>
        obtain ⟨vs, e, hk⟩ := h
        refine ⟨_, hk, by simp only [pin, hx, loadIs]; exact ⟨vs, e, rfl⟩, fun w' hp => ?_⟩
        simp only [pin, hx, loadIs] at hp
        obtain ⟨vs', e', he⟩ := hp
        simp only [opVC, hx, loadVC]
        first | exact ⟨vs', e', he, rfl⟩ | exact ⟨vs', e', he, trivial⟩
    · exact h.elim
  | nilCheck x =>
    simp only [opVC] at h
    split at h <;> first | exact h.elim | (rename_i hc; exact ⟨_, h, trivial, fun w' _ => by simp only [opVC, hc]; try (first | exact ⟨rfl, rfl⟩ | exact ⟨rfl, trivial⟩ | exact ⟨trivial, trivial⟩ | exact trivial)⟩)
  | bin op x y =>
    simp only [opVC] at h
    obtain ⟨v, hk, hb⟩ := binVC_val h
    exact ⟨v, hk, trivial, fun w' _ => by simp only [opVC]; exact binVC_mono hb fun u e => ⟨e, trivial⟩⟩
  | eqNil neg k x y =>
    simp only [opVC] at h
    split at h <;> first | exact h.elim | (rename_i b hc; obtain ⟨z, rfl, hk⟩ := h; exact ⟨_, hk, trivial, fun w' _ => by simp only [opVC, hc]; try (first | exact ⟨_, rfl, rfl, rfl⟩ | exact ⟨_, rfl, rfl, trivial⟩)⟩)
  | eqB neg x y =>
    simp only [opVC] at h
    split at h
    · rename_i a b hx hy; obtain ⟨z, rfl, hk⟩ := h; exact ⟨_, hk, trivial, fun w' _ => by simp only [opVC, hx, hy]; try (first | exact ⟨_, rfl, rfl, rfl⟩ | exact ⟨_, rfl, rfl, trivial⟩)⟩
    · exact h.elim
  | not x =>
    simp only [opVC] at h
    split at h <;> first | exact h.elim | (rename_i b hc; obtain ⟨z, rfl, hk⟩ := h; exact ⟨_, hk, trivial, fun w' _ => by simp only [opVC, hc]; try (first | exact ⟨_, rfl, rfl, rfl⟩ | exact ⟨_, rfl, rfl, trivial⟩)⟩)
  | conv k x =>
    simp only [opVC] at h
    split at h <;> first | exact h.elim | (rename_i b hc; obtain ⟨z, rfl, hk⟩ := h; exact ⟨_, hk, trivial, fun w' _ => by simp only [opVC, hc]; try (first | exact ⟨_, rfl, rfl, rfl⟩ | exact ⟨_, rfl, rfl, trivial⟩)⟩)
  | field off n x =>
    simp only [opVC] at h
    split at h
    · rename_i cs hc
      cases n with
      | none => obtain ⟨v, e, hk⟩ := h; exact ⟨v, hk, trivial, fun w' _ => by simp only [opVC, hc]; try (first | exact ⟨v, e, rfl, rfl⟩ | exact ⟨v, e, rfl, trivial⟩)⟩
      | some n => exact ⟨_, h, trivial, fun w' _ => by simp only [opVC, hc]; try (first | exact ⟨rfl, rfl⟩ | exact ⟨rfl, trivial⟩ | exact ⟨trivial, trivial⟩ | exact trivial)⟩
    · exact h.elim
  | extract x i =>
    simp only [opVC] at h
    split at h
    · rename_i vs hc
      split at h
      · rename_i v hv; exact ⟨v, h, trivial, fun w' _ => by simp only [opVC, hc, hv]; try exact ⟨trivial, trivial⟩⟩
      · exact h.elim
    · exact h.elim
  | faddr off x =>
    simp only [opVC] at h
    split at h <;> first | exact h.elim | (rename_i hc; exact ⟨_, h, trivial, fun w' _ => by simp only [opVC, hc]; try (first | exact ⟨rfl, rfl⟩ | exact ⟨rfl, trivial⟩ | exact ⟨trivial, trivial⟩ | exact trivial)⟩)
  | iaddr sz x i =>
    simp only [opVC] at h
    split at h
    · rename_i hx hj; obtain ⟨q, z, rfl, hk⟩ := h; exact ⟨_, hk, trivial, fun w' _ => by simp only [opVC, hx, hj]; try (first | exact ⟨q, _, rfl, rfl, rfl⟩ | exact ⟨q, _, rfl, rfl, trivial⟩)⟩
    · exact h.elim
  | slice sz x lo hi mx =>
    simp only [opVC] at h
    split at h
    · rename_i a n c hx
      obtain ⟨m, h1, b1⟩ := boundV_val h
      obtain ⟨hh, h2, b2⟩ := boundV_val h1
      obtain ⟨l, ⟨v, rfl, hk⟩, b3⟩ := boundV_val h2
      exact ⟨_, hk, trivial, fun w' _ => by simp only [opVC, hx]; exact boundV_mono b1 fun _ e => by subst e; exact boundV_mono b2 fun _ e => by subst e; exact boundV_mono b3 fun _ e => by subst e; first | exact ⟨_, rfl, rfl, rfl⟩ | exact ⟨_, rfl, rfl, trivial⟩⟩
    · exact h.elim
  | mkFunc fn fs cs => exact ⟨_, h, trivial, fun w' _ => ⟨rfl, rfl⟩⟩
  | mkIface t x => exact ⟨_, h, trivial, fun w' _ => ⟨rfl, rfl⟩⟩
  | build z ps => obtain ⟨q, cs, rfl, hk⟩ := h; exact ⟨_, hk, trivial, fun w' _ => ⟨q, _, rfl, rfl, rfl⟩⟩
  | len x =>
    simp only [opVC] at h
    split at h <;> first | exact h.elim | (rename_i hc; exact ⟨_, h, trivial, fun w' _ => by simp only [opVC, hc]; try (first | exact ⟨rfl, rfl⟩ | exact ⟨rfl, trivial⟩ | exact ⟨trivial, trivial⟩ | exact trivial)⟩)
  | lenS x =>
    simp only [opVC] at h
    split at h <;> first | exact h.elim | (rename_i hc; exact ⟨_, h, trivial, fun w' _ => by simp only [opVC, hc]; try (first | exact ⟨rfl, rfl⟩ | exact ⟨rfl, trivial⟩ | exact ⟨trivial, trivial⟩ | exact trivial)⟩)
  | maxI x r =>
    simp only [opVC] at h
    split at h
    · rename_i k a ha
      have hv : ∀ (r : List Operand) (m : Int) (K' : Int → Prop), maxL f k K' m r → ∃ z, K' z ∧ maxL f k (fun u => u = z) m r := by
        intro r
        induction r with
        | nil => intro m K' h; exact ⟨m, h, rfl⟩
        | cons x r ih =>
          intro m K' h
          simp only [maxL] at h ⊢
          split at h
          · rename_i k' b hx
            cases hk : kEq k k' with
            | false => rw [hk] at h; exact h.elim
            | true =>
              rw [hk] at h
              obtain ⟨z, rfl, h⟩ := h
              obtain ⟨u, hu, h2⟩ := ih _ _ h
              exact ⟨u, hu, ⟨_, rfl, h2⟩⟩
          · exact h.elim
      obtain ⟨z, hz, h2⟩ := hv r a _ h
      exact ⟨_, hz, trivial, fun w' _ => by simp only [opVC, ha]; exact maxL_mono h2 fun u e => by subst e; exact ⟨rfl, trivial⟩⟩
    · exact h.elim
  | eqS neg ks x y =>
    simp only [opVC] at h
    split at h
    · rename_i a b hx hy
      split at h
      · rename_i t ht; obtain ⟨z, rfl, hk⟩ := h; exact ⟨_, hk, trivial, fun w' _ => by simp only [opVC, hx, hy, ht]; try (first | exact ⟨_, rfl, rfl, rfl⟩ | exact ⟨_, rfl, rfl, trivial⟩)⟩
      · exact h.elim
    · exact h.elim
  | alloc | box | store | call | raw | mkSlice | buildS | callV => cases hq

/-! ### Whatever order the tape draws: quiet operations may be taken first -/
section draws
variable {P : Program} {ops : Array Oper} {Q : Exit → Act → World → Prop}
def waitsOn (ops : Array Oper) (j i : Nat) : Bool :=
  match ops[j]? with
  | some oj => oj.after.any fun e => Region.binds .any e && e.on == i
  | none => false
theorem waitsOn_spec {j i : Nat} (h : waitsOn ops j i = true) : ∃ oj, ops[j]? = some oj ∧ ∃ e ∈ oj.after, Region.binds .any e = true ∧ e.on = i := by
  unfold waitsOn at h
  split at h
  · rename_i oj hj
    obtain ⟨e, he, hb⟩ := Array.any_eq_true'.1 h
    simp only [Bool.and_eq_true, beq_iff_eq] at hb
    exact ⟨oj, hj, e, he, hb.1, hb.2⟩
  · cases h
/-- Operation i comes up only when all others have. -/
def predsOf (ops : Array Oper) (k : Nat) : List Nat :=
  match ops[k]? with
  | some o => (o.after.toList.filter fun e => Region.binds .any e).map (·.on)
  | none => []
def inN : List Nat → Nat → Bool
  | [], _ => false
  | a :: r, t => bif Nat.beq t a then true else inN r t
def addN : List Nat → List Nat → List Nat
  | [], r => r
  | k :: ks, r => bif inN r k then addN ks r else addN ks (k :: r)
/-- All that a number waits on, directly or through others. -/
def marks (ops : Array Oper) : List Nat → List Nat → List Nat
  | [], r => r
  | k :: ks, r => bif inN r k then marks ops ks (addN (predsOf ops k) r) else marks ops ks r
def allN (f : Nat → Bool) : Nat → Bool
  | 0 => true
  | n + 1 => f n && allN f n
def sinkN (ops : Array Oper) (i : Nat) : Bool := let r := marks ops (List.range ops.size).reverse [i]; allN (fun j => inN r j) ops.size
/-- Operation i comes up only when all others have. -/
def sinkB (ops : Array Oper) (i : Nat) : Bool := ((List.range ops.size).all fun j => Nat.beq j i || waitsOn ops i j) || sinkN ops i
/-- What has come up: with each also all that it waits on. -/
def Closed (ops : Array Oper) (listed : Array Bool) : Prop := ∀ (k : Nat) (o : Oper), ops[k]? = some o → listed.getD k false = true → ∀ e ∈ o.after, Region.binds .any e = true → listed.getD e.on false = true
theorem getD_false {listed : Array Bool} {k : Nat} (h : listed.getD k true = false) : listed.getD k false = false ∧ k < listed.size := by
  rcases Nat.lt_or_ge k listed.size with h' | h'
  · simp [h'] at h ⊢; exact h
  · simp [Array.getElem?_eq_none h'] at h
theorem getD_mono {listed : Array Bool} {i k : Nat} (h : listed.getD k false = true) : (listed.setIfInBounds i true).getD k false = true := by
  rcases Nat.lt_or_ge k listed.size with h' | h'
  · by_cases hik : i = k
    · subst hik; simp [h']
    · simp only [Array.getD_eq_getD_getElem?] at h ⊢
      rw [Array.getElem?_setIfInBounds_ne hik]
      exact h
  · simp [Array.getElem?_eq_none h'] at h
theorem Closed.set {listed : Array Bool} {i : Nat} (hc : Closed ops listed) (hi : i ∈ Region.ready .any ops listed) : Closed ops (listed.setIfInBounds i true) := by
  intro k o ho hk e he hb
  obtain ⟨_, oi, hoi, hall⟩ := mem_ready.1 hi
  by_cases hik : i = k
  · subst hik
    obtain rfl : o = oi := Option.some.inj (ho.symm.trans hoi)
    exact getD_mono (hall e he hb)
  · refine getD_mono (hc k o ho ?_ e he hb)
    simp only [Array.getD_eq_getD_getElem?] at hk ⊢
    rw [Array.getElem?_setIfInBounds_ne hik] at hk
    exact hk
theorem Closed.init (n : Nat) : Closed ops (Array.replicate n false) := by
  intro k o ho hk
  simp only [Array.getD_eq_getD_getElem?, Array.getElem?_replicate] at hk
  split at hk <;> simp at hk
theorem inN_mem : ∀ {r : List Nat} {t : Nat}, inN r t = true → t ∈ r
  | a :: r, t, h => by
    unfold inN at h
    cases hb : Nat.beq t a with
    | true => exact List.mem_cons.2 (.inl (Nat.eq_of_beq_eq_true hb))
    | false => rw [hb] at h; exact List.mem_cons.2 (.inr (inN_mem h))
theorem addN_mem {p : Nat → Prop} : ∀ (ks r : List Nat), (∀ k ∈ ks, p k) → (∀ k ∈ r, p k) → ∀ k ∈ addN ks r, p k
  | [], r, _, hr => hr
  | a :: ks, r, hk, hr => by
    unfold addN
    cases inN r a with
    | true => exact addN_mem ks r (fun k h => hk k (.tail _ h)) hr
    | false =>
      refine addN_mem ks (a :: r) (fun k h => hk k (.tail _ h)) fun k h => ?_
      rcases List.mem_cons.1 h with rfl | h
      · exact hk _ (.head _)
      · exact hr k h
theorem predsOf_mem {k i : Nat} (h : i ∈ predsOf ops k) : ∃ o, ops[k]? = some o ∧ ∃ e ∈ o.after, Region.binds .any e = true ∧ e.on = i := by
  unfold predsOf at h
  split at h
  · rename_i o ho
    obtain ⟨e, he, rfl⟩ := List.mem_map.1 h
    obtain ⟨he, hb⟩ := List.mem_filter.1 he
    exact ⟨o, ho, e, by simpa using he, hb, rfl⟩
  · cases h
theorem marks_mem {listed : Array Bool} {j : Nat} (hc : Closed ops listed) (hj : j ∈ Region.ready .any ops listed) : ∀ (ks r : List Nat), (∀ k ∈ r, k = j ∨ listed.getD k false = true) → ∀ k ∈ marks ops ks r, k = j ∨ listed.getD k false = true
  | [], r, hr => hr
  | a :: ks, r, hr => by
    unfold marks
    cases ha : inN r a with
    | false => exact marks_mem hc hj ks r hr
    | true =>
      refine marks_mem hc hj ks _ (addN_mem _ _ (fun k hk => ?_) hr)
      obtain ⟨o, ho, e, he, hb, rfl⟩ := predsOf_mem hk
      rcases hr a (inN_mem ha) with rfl | hl
      · obtain ⟨_, oj, hoj, hall⟩ := mem_ready.1 hj
        obtain rfl : o = oj := Option.some.inj (ho.symm.trans hoj)
        exact .inr (hall e he hb)
      · exact .inr (hc a o ho hl e he hb)
theorem allN_spec {f : Nat → Bool} : ∀ {n : Nat}, allN f n = true → ∀ j, j < n → f j = true
  | n + 1, h, j, hj => by
    simp only [allN, Bool.and_eq_true] at h
    rcases Nat.lt_or_ge j n with h' | h'
    · exact allN_spec h.2 j h'
    · obtain rfl : j = n := by omega
      exact h.1
def wpX (P : Program) (ops : Array Oper) (Q : Exit → Act → World → Prop) (S : World → Prop) : Nat → Array Bool → Act → World → Prop
  | 0, listed, a, w => Region.ready .any ops listed = [] ∧ Q .normal a w
  | fuel + 1, listed, a, w =>
    (Region.ready .any ops listed = [] → Q .normal a w) ∧
    ∀ i ∈ Region.ready .any ops listed, wpOp P ops Q i (fun a' w' => (sinkB ops i = true ∧ Region.ready .any ops (listed.setIfInBounds i true) = [] ∧ Q .normal a' w') ∨
      (S w' ∧ wpX P ops Q S fuel (listed.setIfInBounds i true) a' w')) a w
theorem wpAny_done : ∀ (fuel : Nat) {listed : Array Bool} {a : Act} {w : World}, Region.ready .any ops listed = [] → Q .normal a w → wpAny P .any ops Q fuel listed a w
  | 0, _, _, _, hr, h => ⟨hr, h⟩
  | _ + 1, _, _, _, hr, h => ⟨fun _ => h, by rw [hr]; simp⟩
theorem wpX_done {S : World → Prop} : ∀ (fuel : Nat) {listed : Array Bool} {a : Act} {w : World}, Region.ready .any ops listed = [] → Q .normal a w → wpX P ops Q S fuel listed a w
  | 0, _, _, _, hr, h => ⟨hr, h⟩
  | _ + 1, _, _, _, hr, h => ⟨fun _ => h, by rw [hr]; simp⟩
theorem wpAny_of_X {S : World → Prop} : ∀ (fuel : Nat) (listed : Array Bool) (a : Act) (w : World), wpX P ops Q S fuel listed a w → wpAny P .any ops Q fuel listed a w
  | 0, _, _, _, h => h
  | fuel + 1, _, _, _, h => ⟨h.1, fun i hi => wpOp_mono (fun a' w' h' => by
      rcases h' with ⟨_, hr, hq⟩ | ⟨_, hx⟩
      · exact wpAny_done fuel hr hq
      · exact wpAny_of_X fuel _ a' w' hx) (h.2 i hi)⟩
theorem wpX_weaken {S S' : World → Prop} (hs : ∀ w, S' w → S w) : ∀ (fuel : Nat) (listed : Array Bool) (a : Act) (w : World), wpX P ops Q S' fuel listed a w → wpX P ops Q S fuel listed a w
  | 0, _, _, _, h => h
  | fuel + 1, _, _, _, h => ⟨h.1, fun i hi => wpOp_mono (fun a' w' h' => by
      rcases h' with h' | ⟨hS, hx⟩
      · exact .inl h'
      · exact .inr ⟨hs _ hS, wpX_weaken hs fuel _ a' w' hx⟩) (h.2 i hi)⟩
theorem sink_last {i j : Nat} {listed : Array Bool} (hs : sinkB ops j = true) (hcl : Closed ops listed) (hj : j ∈ Region.ready .any ops listed) (hi : i ∈ Region.ready .any ops listed) : j = i := by
  by_cases hji : j = i
  · exact hji
  · exfalso
    obtain ⟨_, oj, hoj, hall⟩ := mem_ready.1 hj
    obtain ⟨hun, oi, hoi, _⟩ := mem_ready.1 hi
    have hlt : i < ops.size := (Array.getElem?_eq_some_iff.1 hoi).1
    have hno : ¬ listed.getD i false = true := by rw [(getD_false hun).1]; decide
    simp only [sinkB, Bool.or_eq_true] at hs
    rcases hs with hs | hs
    · have h1 := List.all_eq_true.1 hs i (List.mem_range.2 hlt)
      simp only [Bool.or_eq_true] at h1
      rcases h1 with h1 | h1
      · exact hji (Nat.eq_of_beq_eq_true h1).symm
      · obtain ⟨o', ho', e, he, hb, hon⟩ := waitsOn_spec h1
        obtain rfl : o' = oj := Option.some.inj (ho'.symm.trans hoj)
        have := hall e he hb
        rw [hon] at this
        exact hno this
    · have h1 := allN_spec (show allN (fun j' => inN (marks ops (List.range ops.size).reverse [j]) j') ops.size = true from hs) i hlt
      rcases marks_mem hcl hj _ _ (by simp) i (inN_mem h1) with h | h
      · exact hji h.symm
      · exact hno h
theorem wpX_first {S : World → Prop} {i : Nat} {oi : Oper} {v : Value} (hi : ops[i]? = some oi) (hsel : ∀ (j : Nat) (o : Oper) cs b, ops[j]? = some o → o.op ≠ .select cs b)
    (hQ : ∀ c a w, Q (.panic c) (a.put oi.dst v) w → Q (.panic c) a w) :
    ∀ (fuel : Nat) (listed : Array Bool) (a : Act) (w : World), Closed ops listed →
      (∀ j oj, ops[j]? = some oj → j ≠ i → listed.getD j true = false → (∀ e ∈ oj.after, Region.binds .any e = true → e.on ≠ i) → oi.apart ops oj = true) →
      i ∈ Region.ready .any ops listed → YieldsIf P ops S oi v a → S w →
      wpX P ops Q S fuel (listed.setIfInBounds i true) (a.put oi.dst v) w → wpX P ops Q S (fuel + 1) listed a w := by
  intro fuel
  induction fuel with
  | zero =>
    intro listed a w _ _ hr hy hS H
    refine ⟨fun h => (by rw [h] at hr; cases hr), fun j hj => ?_⟩
    by_cases hji : j = i
    · subst hji; exact hy.wpOp hi hS (.inr ⟨hS, H⟩)
    · have := ready_mono hj hji
      rw [H.1] at this
      cases this
  | succ fuel ih =>
    intro listed a w hcl hfree hr hy hS H
    refine ⟨fun h => (by rw [h] at hr; cases hr), fun j hj => ?_⟩
    by_cases hji : j = i
    · subst hji; exact hy.wpOp hi hS (.inr ⟨hS, H⟩)
    · have h1 := H.2 j (ready_mono hj hji)
      obtain ⟨hjun, oj, hoj, hall⟩ := mem_ready.1 hj
      have hnot : ∀ e ∈ oj.after, Region.binds .any e = true → e.on ≠ i := fun e he hb heq => by
        have h1 := hall e he hb
        have h0 := (mem_ready.1 hr).1
        rw [heq] at h1
        rcases Nat.lt_or_ge i listed.size with h' | h'
        · simp [h'] at h0 h1; rw [h0] at h1; cases h1
        · simp [Array.getElem?_eq_none h'] at h1
      have h2 := wpOp_putIf hoj (hfree j oj hoj hji hjun hnot) (fun cs b => hsel i oi cs b hi) (fun cs b => hsel j oj cs b hoj) hQ hy h1
      have hfree' : ∀ k ok, ops[k]? = some ok → k ≠ i → (listed.setIfInBounds j true).getD k true = false →
          (∀ e ∈ ok.after, Region.binds .any e = true → e.on ≠ i) → oi.apart ops ok = true := fun k ok hk hki hun hno => by
        refine hfree k ok hk hki ?_ hno
        by_cases hjk : j = k
        · subst hjk; exact hjun
        · rw [getD_set_ne true hjk] at hun; exact hun
      refine wpOp_mono (fun a' w' h3 => ?_) h2
      obtain ⟨hy', h3⟩ := h3
      rcases h3 with ⟨hs, _, _⟩ | ⟨hS', hx⟩
      · exact absurd (sink_last hs hcl hj hr) hji
      · refine .inr ⟨hS', ih (listed.setIfInBounds j true) a' w' (hcl.set hj) hfree' (ready_mono hr (Ne.symm hji)) hy' hS' ?_⟩
        rw [Array.setIfInBounds_comm _ _ hji]
        exact hx
end draws

/-- The order in which a region is walked: quiet operations that may come up, first; else the one that may come up. 'q': is number i quiet? -/
def orderOK (ops : Array Oper) (q : Nat → Bool) : List Nat → Array Bool → Bool
  | [], listed => (Region.ready .any ops listed).isEmpty
  | i :: r, listed => (match q i with
    | true => (Region.ready .any ops listed).contains i && Region.free .any ops listed i
    | false => Region.ready .any ops listed == [i]) && orderOK ops q r (listed.setIfInBounds i true)
def addPin (f : Fr) (m : MOp) (v : Value) (S : World → Prop) : World → Prop :=
  match m with
  | .load n x => match ev f x with
    | .pointer (some a) => fun w => loadIs w a n v ∧ S w
    | _ => S
  | _ => S
structure DOper where
  op : MOper
  sink : Bool
def wpD (P : Program) (K : Fr → World → Prop) : List DOper → (World → Prop) → Fr → World → Prop
  | [], _, f, w => K f w
  | ⟨o, sink⟩ :: rest, S, f, w =>
    match o.guard with
    | none => match quietOp o.op with
      | true => opVC P f w (fun v w' => wpD P K rest (addPin f o.op v S) (put f o.dst v) w') o.op
      | false => match sink with
        | true => opVC P f w (fun v w' => wpD P K rest S (put f o.dst v) w') o.op
        | false => opVC P f w (fun v w' => S w' ∧ wpD P K rest S (put f o.dst v) w') o.op
    | some (t, want) => guardVC (f t) want (match quietOp o.op with
      | true => opVC P f w (fun v w' => wpD P K rest (addPin f o.op v S) (put f o.dst v) w') o.op
      | false => match sink with
        | true => opVC P f w (fun v w' => wpD P K rest S (put f o.dst v) w') o.op
        | false => opVC P f w (fun v w' => S w' ∧ wpD P K rest S (put f o.dst v) w') o.op) (wpD P K rest S (put f o.dst undef) w)

/-! ### The order is of no weight -/
section drawn
variable {P : Program} {ops : Array Oper}
theorem quiet_form {o : Oper} (hn : ∀ x, o.op ≠ .nilCheck x) (hq : quietOp (comp P o) = true) (ρ : Operand → Value) : ∃ s : Sem Value, execOp ρ o = s >>= fun v => pure (Next.value v) := by
  obtain ⟨dst, op, type, pos, after, guard⟩ := o
  cases op
  case move x => exact ⟨pure (ρ x), rfl⟩
  case assign x => exact ⟨pure (ρ x), rfl⟩
  case pick c a b => exact ⟨do pure (if ← asBool (ρ c) then ρ a else ρ b), by simp [execOp]⟩
  case load t x => exact ⟨_, rfl⟩
  case binOp op t x y t' => exact ⟨_, rfl⟩
  case unOp op t x => exact ⟨_, rfl⟩
  case convert s d x => exact ⟨_, rfl⟩
  case makeInterface t x => exact ⟨_, rfl⟩
  case makeFunc fn fs cs => exact ⟨_, rfl⟩
  case slice t x lo hi mx => exact ⟨_, rfl⟩
  case fieldAddr s x i => exact ⟨_, rfl⟩
  case field s x i => exact ⟨_, rfl⟩
  case indexAddr t x i => exact ⟨_, rfl⟩
  case extract x i => exact ⟨_, rfl⟩
  case build t ps => exact ⟨_, rfl⟩
  case nilCheck x => exact absurd rfl (hn x)
  case call c =>
    obtain ⟨callee, args, ts⟩ := c
    cases callee with
    | value g =>
      cases g with
      | func g => simp only [comp] at hq; split at hq <;> cases hq
      | _ => cases hq
    | invoke r m => cases hq
    | builtin b =>
      cases b <;> simp only [comp, quietOp, Bool.false_eq_true] at hq
      · exact ⟨Builtin.len_ ts type (args.map ρ), rfl⟩
      · exact ⟨Builtin.max_ ts type (args.map ρ), rfl⟩
  all_goals
    simp only [comp] at hq
    first | (cases hq; done) | (split at hq <;> first | (cases hq; done) | (split at hq <;> first | (cases hq; done) | (split at hq <;> first | (cases hq; done) | (split at hq <;> cases hq))))

theorem quiet_value {o : Oper} {f : Fr} {w : World} {v : Value} (hq : quietOp (comp P o) = true) (h : opVC P f w (fun u w'' => u = v ∧ w'' = w) (comp P o)) :
    (execOp (ev f) o).run P w = .ok (.value v) w := by
  by_cases hn : ∃ x, o.op = .nilCheck x
  · obtain ⟨x, hx⟩ := hn
    have hc : comp P o = .nilCheck x := by unfold comp; rw [hx]
    rw [hc] at h
    simp only [opVC] at h
    simp only [execOp, hx]
    split at h
    · rename_i a ha; obtain ⟨rfl, _⟩ := h; rw [ha]; rfl
    · rename_i g fs cs ha; obtain ⟨rfl, _⟩ := h; rw [ha]; rfl
    · exact h.elim
  · have hr := comp_sound o h
    unfold Runs at hr
    obtain ⟨s, hs⟩ := quiet_form (fun x hx => hn ⟨x, hx⟩) hq (ev f)
    rw [hs] at hr ⊢
    simp only [Sem.run_bind, Sem.run_pure] at hr ⊢
    cases hrun : s.run P w with
    | halt x w' => rw [hrun] at hr; exact hr.elim
    | ok u w' =>
      rw [hrun] at hr
      simp only [Result.andThen_ok, Upon] at hr ⊢
      obtain ⟨rfl, rfl⟩ := hr
      rfl

def compD (P : Program) (n : Nat) (ops : Array Oper) : List Nat → Option (List DOper)
  | [] => some []
  | i :: r => match ops[i]? with
    | some o => match compOper P n ops o, compD P n ops r with
      | some m, some ms => some (⟨m, r.isEmpty && sinkB ops i⟩ :: ms)
      | _, _ => none
    | none => none
def isQuiet (P : Program) (ops : Array Oper) (i : Nat) : Bool :=
  match ops[i]? with
  | some o => quietOp (comp P o)
  | none => false

theorem addPin_iff (f : Fr) (m : MOp) (v : Value) (S : World → Prop) (w : World) : addPin f m v S w ↔ pin f m v w ∧ S w := by
  unfold addPin pin
  cases m <;> simp
  rename_i n x
  generalize ev f x = u
  cases u <;> (try simp)
  rename_i a
  cases a <;> simp

theorem wpD_sound {n : Nat} {K : Fr → World → Prop} {Q : Exit → Act → World → Prop} (hQ : ∀ a f w, Rel n a f → K f w → Q .normal a w) (hP : ∀ c a w, ¬ Q (.panic c) a w)
    (hsel : Region.noSelect ops = true) : ∀ (ord : List Nat) (ms : List DOper) (listed : Array Bool) (S : World → Prop) (a : Act) (f : Fr) (w : World),
      compD P n ops ord = some ms → orderOK ops (isQuiet P ops) ord listed = true → Closed ops listed → Rel n a f → S w → wpD P K ms S f w → wpX P ops Q S ord.length listed a w
  | [], ms, listed, S, a, f, w, hc, ho, hcl, hr, hS, h => by
    simp [compD] at hc; subst hc
    exact ⟨by simpa [orderOK] using ho, hQ a f w hr h⟩
  | i :: ord, ms, listed, S, a, f, w, hc, ho, hcl, hr, hS, h => by
    unfold compD at hc
    cases hoi : ops[i]? with
    | none => simp [hoi] at hc
    | some o =>
      simp only [hoi] at hc
      split at hc
      · rename_i m ms' hm hms
        cases hc
        obtain ⟨hd, hop, hg, hlt⟩ := compOper_spec hm
        simp only [orderOK, Bool.and_eq_true] at ho
        obtain ⟨ho1, ho2⟩ := ho
        have hirdy : i ∈ Region.ready .any ops listed := by
          split at ho1
          · simp only [Bool.and_eq_true] at ho1; simpa using ho1.1
          · have : Region.ready .any ops listed = [i] := by simpa using ho1
            rw [this]; simp
        have ih : ∀ (S' : World → Prop) (a' : Act) (f' : Fr) (w' : World), Rel n a' f' → S' w' → wpD P K ms' S' f' w' → wpX P ops Q S' ord.length (listed.setIfInBounds i true) a' w' :=
          fun S' a' f' w' hr' hS' h' => wpD_sound hQ hP hsel ord ms' _ S' a' f' w' hms ho2 (hcl.set hirdy) hr' hS' h'
        have hq : isQuiet P ops i = quietOp m.op := by unfold isQuiet; rw [hoi, hop]
        rw [hq] at ho1
        -- a value that is not wanted
        have skip : gWant f m.guard = false → wpD P K ms' S (put f m.dst undef) w → (quietOp m.op = true ∨ Region.ready .any ops listed = [i]) → wpX P ops Q S (ord.length + 1) listed a w := fun hgw hD hcase => by
          have hw : Region.wanted o (yielded ops a.tmps) = false := by rw [wanted_iff hr hg]; exact hgw
          have hrest := ih S (a.put o.dst undef) (put f m.dst undef) w (by rw [hd]; exact hr.put hlt undef) hS hD
          rcases hcase with hqt | hrd
          · rw [hqt] at ho1
            simp only [Bool.and_eq_true] at ho1
            exact wpX_first hoi (Region.noSelect_spec hsel) (fun c a w hq => (hP c _ _ hq).elim) ord.length listed a w hcl (Region.free_spec hoi ho1.2) (by simpa using ho1.1) (.inr ⟨hw, rfl⟩) hS hrest
          · refine ⟨fun h0 => (by rw [hrd] at h0; cases h0), fun j hj => ?_⟩
            rw [hrd] at hj
            obtain rfl : j = i := by simpa using hj
            unfold wpOp
            simp only [hoi, hw, Bool.false_eq_true, if_false]
            exact .inr ⟨hS, hrest⟩
        have want : gWant f m.guard = true → (match quietOp m.op with
            | true => opVC P f w (fun v w' => wpD P K ms' (addPin f m.op v S) (put f m.dst v) w') m.op
            | false => match (ord.isEmpty && sinkB ops i) with
              | true => opVC P f w (fun v w' => wpD P K ms' S (put f m.dst v) w') m.op
              | false => opVC P f w (fun v w' => S w' ∧ wpD P K ms' S (put f m.dst v) w') m.op) → wpX P ops Q S (ord.length + 1) listed a w := fun hgw hV => by
          have hw : Region.wanted o (yielded ops a.tmps) = true := by rw [wanted_iff hr hg]; exact hgw
          cases hqt : quietOp m.op with
          | true =>
            rw [hqt] at hV ho1
            simp only [Bool.and_eq_true] at ho1
            obtain ⟨v, hK, hpin, hst⟩ := quiet_spec hqt hV
            have hS' : addPin f m.op v S w := (addPin_iff _ _ _ _ _).2 ⟨hpin, hS⟩
            refine wpX_weaken (fun w' h' => ((addPin_iff _ _ _ _ _).1 h').2) _ _ _ _ (wpX_first hoi (Region.noSelect_spec hsel) (fun c a w hq => (hP c _ _ hq).elim) ord.length listed a w hcl (Region.free_spec hoi ho1.2) (by simpa using ho1.1) (.inl ⟨hw, fun w' hw' => ?_⟩) hS'
              (ih _ _ _ _ (by rw [hd]; exact hr.put hlt v) hS' hK))
            rw [hr.evalF]
            rw [hop] at hqt hst
            exact quiet_value hqt (hst w' (by rw [hop] at hw'; exact ((addPin_iff _ _ _ _ _).1 hw').1))
          | false =>
            rw [hqt] at hV ho1
            have hrd : Region.ready .any ops listed = [i] := by simpa using ho1
            refine ⟨fun h0 => (by rw [hrd] at h0; cases h0), fun j hj => ?_⟩
            rw [hrd] at hj
            obtain rfl : j = i := by simpa using hj
            unfold wpOp
            simp only [hoi, hw, if_true]
            refine .inl ?_
            unfold Oper.wp
            rw [hr.evalF]
            rw [hop] at hV
            cases hsk : (ord.isEmpty && sinkB ops j) with
            | true =>
              rw [hsk] at hV
              simp only [Bool.and_eq_true] at hsk
              obtain rfl : ord = [] := by simpa using hsk.1
              have hms' : ms' = [] := by simpa [compD] using hms.symm
              subst hms'
              have := comp_sound o hV
              unfold Runs at this
              exact Upon.wp (fun v w' hk => .inl ⟨hsk.2, by simpa [orderOK] using ho2, hQ _ _ _ (by rw [hd]; exact hr.put hlt v) hk⟩) this
            | false =>
              rw [hsk] at hV
              have := comp_sound o hV
              unfold Runs at this
              exact Upon.wp (fun v w' hk => .inr ⟨hk.1, ih S _ _ _ (by rw [hd]; exact hr.put hlt v) hk.1 hk.2⟩) this
        have hcase : quietOp m.op = true ∨ Region.ready .any ops listed = [i] := by
          cases hqt : quietOp m.op with
          | true => exact .inl rfl
          | false => rw [hqt] at ho1; exact .inr (by simpa using ho1)
        cases hgm : m.guard with
        | none =>
          rw [hgm] at want
          simp only [wpD, hgm] at h
          exact want rfl h
        | some tw =>
          obtain ⟨t, b⟩ := tw
          rw [hgm] at want skip
          simp only [wpD, hgm] at h
          rw [guardVC_iff] at h
          by_cases hc : gWant f (some (t, b)) = true
          · rw [if_pos (show (yieldOf (f t) == some b) = true from hc)] at h; exact want hc h
          · rw [if_neg (show ¬ (yieldOf (f t) == some b) = true from hc)] at h; exact skip (by simpa using hc) h hcase
      · cases hc
end drawn

/-! ### Code -/
inductive MCode where
  | skip
  | ops (l : List MOper)
  | opsD (l : List DOper)
  | seq (a b : MCode)
  | cond (c : Operand) (a b : MCode)
  | block (id : Nat) (b : MCode)
  | loop (b : MCode)
  | exit (id : Nat)
  | ret

def sched (ops : Array Oper) (q : Nat → Bool) : Nat → Array Bool → List Nat
  | 0, _ => []
  | k + 1, listed =>
    let rs := Region.ready .any ops listed
    match rs.find? (fun i => q i && Region.free .any ops listed i) with
    | some i => i :: sched ops q k (listed.setIfInBounds i true)
    | none => match rs with
      | [i] => i :: sched ops q k (listed.setIfInBounds i true)
      | _ => []
def noSel (ops : Array Oper) : Bool := Region.noSelect ops
def compR (P : Program) (n : Nat) (ops : Array Oper) : Option MCode :=
  let ord := sched ops (isQuiet P ops) ops.size (Array.replicate ops.size false)
  match Nat.beq ord.length ops.size && (orderOK ops (isQuiet P ops) ord (Array.replicate ops.size false) && Region.noSelect ops) with
  | true => (compD P n ops ord).map .opsD
  | false => none
def compC (P : Program) (n : Nat) : Code → Option MCode
  | .skip => some .skip
  | .region _ ops false => (compL P n ops ops.toList).map .ops
  | .region _ ops true => compR P n ops
  | .seq a b => match compC P n a, compC P n b with
    | some x, some y => some (.seq x y)
    | _, _ => none
  | .cond c a b => match compC P n a, compC P n b with
    | some x, some y => some (.cond c x y)
    | _, _ => none
  | .block id b => (compC P n b).map (.block id)
  | .loop b => (compC P n b).map .loop
  | .exit id => some (.exit id)
  | .ret => some .ret
  | _ => none

abbrev Post := Exit → Fr → World → Prop
def thenK (next : Fr → World → Prop) (Q : Post) : Post
  | .normal, f, w => next f w
  | e, f, w => Q e f w
def blockK (id : Nat) (Q : Post) : Post
  | .exit id', f, w => match Nat.beq id' id with | true => Q .normal f w | false => Q (.exit id') f w
  | e, f, w => Q e f w
def condVC (v : Value) (A B : Prop) : Prop :=
  match v with
  | .bool true => A
  | .bool false => B
  | _ => False
def iterK (step : (Fr → World → Prop) → Fr → World → Prop) : Nat → Fr → World → Prop
  | 0 => fun _ _ => False
  | n + 1 => step (iterK step n)
def wpC (P : Program) : MCode → Post → Fr → World → Prop
  | .skip, Q, f, w => Q .normal f w
  | .ops l, Q, f, w => wpL P (Q .normal) l f w
  | .opsD l, Q, f, w => wpD P (Q .normal) l (fun _ => True) f w.drew
  | .seq a b, Q, f, w => wpC P a (thenK (fun f w => wpC P b Q f w) Q) f w
  | .cond c a b, Q, f, w => condVC (ev f c) (wpC P a Q f w) (wpC P b Q f w)
  | .block id b, Q, f, w => wpC P b (blockK id Q) f w
  | .loop b, Q, f, w => ∃ n, iterK (fun next f w => wpC P b (thenK next Q) f w) n f w
  | .exit id, Q, f, w => Q (.exit id) f w
  | .ret, Q, f, w => Q .ret f w

/-- A post over frames, as one over the model's own. -/
def lift (n : Nat) (Q : Post) : Exit → Act → World → Prop
  | .panic _, _, _ => False
  | .outgrown, _, _ => False
  | e, a, w => ∃ f, Rel n a f ∧ Q e f w

theorem wpC_sound {P : Program} {n : Nat} (hm : P.follows .mixedOrders = true) : ∀ (c : Code) (m : MCode) (Q : Post) (a : Act) (f : Fr) (w : World), compC P n c = some m → Rel n a f → wpC P m Q f w → c.wp P (lift n Q) a w
  | .skip, m, Q, a, f, w, hc, hr, h => by
    cases hc
    exact wp_skip ⟨f, hr, h⟩
  | .region id ops draw, m, Q, a, f, w, hc, hr, h => by
    cases draw with
    | false =>
      simp only [compC] at hc
      obtain ⟨l, hl, rfl⟩ := Option.map_eq_some_iff.1 hc
      refine wp_region ?_
      have := wpL_sound (Q := lift n Q) (fun a f w hr hk => ⟨f, hr, hk⟩) ops.toList 0 l a f w (fun j => by simp) hl hr h
      rw [List.range_eq_range']
      simpa using this
    | true =>
      simp only [compC, compR] at hc
      split at hc
      · rename_i hok
        simp only [Bool.and_eq_true] at hok
        obtain ⟨hlen, hord, hsel⟩ := hok
        obtain ⟨l, hl, rfl⟩ := Option.map_eq_some_iff.1 hc
        refine wp_region_any hm (wpAny_of_X (S := fun _ => True) _ _ _ _ ?_)
        have := wpD_sound (Q := lift n Q) (fun a f w hr hk => ⟨f, hr, hk⟩) (fun c a w h => h) hsel _ l _ (fun _ => True) a f w.drew hl hord (Closed.init _) hr trivial h
        rw [Nat.eq_of_beq_eq_true hlen] at this
        exact this
      · cases hc
  | .seq x y, m, Q, a, f, w, hc, hr, h => by
    simp only [compC] at hc
    split at hc
    · rename_i mx my hx hy
      cases hc
      refine wp_seq (wp_mono (wpC_sound hm x mx _ a f w hx hr h) fun e a' w' he => ?_)
      cases e with
      | normal => obtain ⟨f', hr', h'⟩ := he; exact wpC_sound hm y my Q a' f' w' hy hr' h'
      | panic c => exact he
      | outgrown => exact he
      | exit id => exact he
      | goto l => exact he
      | ret => exact he
    · cases hc
  | .cond c x y, m, Q, a, f, w, hc, hr, h => by
    simp only [compC] at hc
    split at hc
    · rename_i mx my hx hy
      cases hc
      simp only [wpC, condVC] at h
      split at h
      · rename_i hv; exact wp_cond (t := true) (by rw [hr.eval]; exact hv) (wpC_sound hm x mx Q a f w hx hr h)
      · rename_i hv; exact wp_cond (t := false) (by rw [hr.eval]; exact hv) (wpC_sound hm y my Q a f w hy hr h)
      · exact h.elim
    · cases hc
  | .block id b, m, Q, a, f, w, hc, hr, h => by
    simp only [compC] at hc
    obtain ⟨mb, hb, rfl⟩ := Option.map_eq_some_iff.1 hc
    refine wp_block (wp_mono (wpC_sound hm b mb _ a f w hb hr h) fun e a' w' he => ?_)
    cases e with
    | exit id' =>
      obtain ⟨f', hr', h'⟩ := he
      simp only [Exit.inBlock]
      simp only [blockK] at h'
      split
      · rename_i hid
        subst hid
        have : Nat.beq id' id' = true := Nat.beq_refl id'
        simp only [this] at h'
        exact ⟨f', hr', h'⟩
      · rename_i hid
        have : Nat.beq id' id = false := by
          cases hb : Nat.beq id' id with
          | false => rfl
          | true => exact absurd (Nat.eq_of_beq_eq_true hb) hid
        simp only [this] at h'
        exact ⟨f', hr', h'⟩
    | normal => exact he
    | panic c => exact he
    | outgrown => exact he
    | goto l => exact he
    | ret => exact he
  | .loop b, m, Q, a, f, w, hc, hr, h => by
    simp only [compC] at hc
    obtain ⟨mb, hb, rfl⟩ := Option.map_eq_some_iff.1 hc
    obtain ⟨k, h⟩ := h
    refine wp_loop_rounds k ?_
    have key : ∀ k (a : Act) (f : Fr) (w : World), Rel n a f → iterK (fun next f w => wpC P mb (thenK next Q) f w) k f w → Code.rounds P b (lift n Q) k a w := by
      intro k
      induction k with
      | zero => intro a f w _ h; exact h
      | succ k ih =>
        intro a f w hr h
        rw [rounds_succ]
        refine wp_mono (wpC_sound hm b mb _ a f w hb hr h) fun e a' w' he => ?_
        cases e with
        | normal => obtain ⟨f', hr', h'⟩ := he; exact ih a' f' w' hr' h'
        | panic c => exact he
        | outgrown => exact he
        | exit id => exact he
        | goto l => exact he
        | ret => exact he
    exact key k a f w hr h
  | .exit id, m, Q, a, f, w, hc, hr, h => by
    cases hc
    exact wp_exit ⟨f, hr, h⟩
  | .ret, m, Q, a, f, w, hc, hr, h => by
    cases hc
    exact wp_ret ⟨f, hr, h⟩
  | .rangeFunc .., m, Q, a, f, w, hc, hr, h => by cases hc
  | .scope _, m, Q, a, f, w, hc, hr, h => by cases hc
  | .label _, m, Q, a, f, w, hc, hr, h => by cases hc
  | .goto _, m, Q, a, f, w, hc, hr, h => by cases hc
  | .refuse _, m, Q, a, f, w, hc, hr, h => by cases hc

/-! ### Functions -/
inductive MRes where
  | tmp (t : Nat)
  | cell (t : Nat) (n : Option Nat)
def compRes (P : Program) : ResultVar → Option MRes
  | .tmp t => some (.tmp t)
  | .cell t ty => (aggN P ty).map (.cell t)
def resVC (w : World) (f : Fr) : List MRes → (List Value → Prop) → Prop
  | [], K => K []
  | .tmp t :: r, K => resVC w f r fun vs => K (f t :: vs)
  | .cell t n :: r, K => match f t with
    | .pointer (some a) => loadVC w a n fun v _ => resVC w f r fun vs => K (v :: vs)
    | _ => False
def oneOr : List Value → Value
  | [v] => v
  | vs => .tuple vs.toArray
structure MFunc where
  ntmps : Nat
  res : List MRes
  body : MCode
def compF (P : Program) (fn : Func) : Option MFunc :=
  match fn.results.toList.mapM (compRes P), fn.body.bind (compC P fn.ntmps) with
  | some r, some b => some ⟨fn.ntmps, r, b⟩
  | _, _ => none
def retK (res : List MRes) (R : Value → World → Prop) : Post
  | .normal, f, w => resVC w f res fun vs => R (oneOr vs) w
  | .ret, f, w => resVC w f res fun vs => R (oneOr vs) w
  | _, _, _ => False
def argsF : List Value → Fr
  | [] => fun _ => undef
  | v :: vs => fun t => match t with | 0 => v | t + 1 => argsF vs t

theorem loadVC_run {P : Program} {w : World} {t : TypeId} {n : Option Nat} (h : aggN P t = some n) {a : Addr} {K : Value → World → Prop} (hn : loadVC w a n K) :
    ∃ v, (loadVar t a).run P w = .ok v w ∧ K v w := aggN_spec h a hn
def resOne (tmps : Array Value) : ResultVar → Sem Value
  | .tmp t => pure (tmps.getD t undef)
  | .cell a t => do loadVar t (← asAddr (tmps.getD a undef))
theorem results_eq (fn : Func) (tmps : Array Value) : results fn tmps = (do let vs ← fn.results.mapM (resOne tmps); pure (if h : vs.size = 1 then vs[0] else .tuple vs)) := by
  unfold results
  have e : (fun x => match x with
    | ResultVar.tmp t => (pure (tmps.getD t undef) : Sem Value)
    | ResultVar.cell a t => do loadVar t (← asAddr (tmps.getD a undef))) = resOne tmps := by
    funext x
    cases x <;> rfl
  rw [← e]
  rfl
theorem res_sound {P : Program} {w : World} {f : Fr} {tmps : Array Value} (hv : ∀ t, tmps.getD t undef = f t) : ∀ (rs : List ResultVar) (ms : List MRes) (K : List Value → Prop), rs.mapM (compRes P) = some ms → resVC w f ms K →
    ∃ vs, (rs.mapM (resOne tmps)).run P w = Result.ok vs w ∧ K vs
  | [], ms, K, hm, h => by
    simp at hm; subst hm
    exact ⟨[], rfl, h⟩
  | r :: rs, ms, K, hm, h => by
    simp only [List.mapM_cons] at hm
    obtain ⟨m, h1, hm⟩ := Option.bind_eq_some_iff.1 hm
    obtain ⟨ms', h2, hm⟩ := Option.bind_eq_some_iff.1 hm
    cases hm
    cases r with
    | tmp t =>
      cases h1
      simp only [resVC] at h
      obtain ⟨vs, hrun, hK⟩ := res_sound hv rs ms' _ h2 h
      refine ⟨f t :: vs, ?_, hK⟩
      simp only [List.mapM_cons, Sem.run_bind, resOne, Sem.run_pure, Result.andThen_ok, hv, hrun]
    | cell a t =>
      simp only [compRes] at h1
      obtain ⟨n, hn, rfl⟩ := Option.map_eq_some_iff.1 h1
      simp only [resVC] at h
      split at h
      · rename_i ad had
        obtain ⟨v, hrun1, h'⟩ := loadVC_run hn h
        obtain ⟨vs, hrun, hK⟩ := res_sound hv rs ms' _ h2 h'
        refine ⟨v :: vs, ?_, hK⟩
        simp only [List.mapM_cons, Sem.run_bind, resOne, hv, had, asAddr, Sem.run_pure, Result.andThen_ok, hrun1, hrun]
      · exact h.elim

theorem does_of {P : Program} {g : FuncId} {fn : Func} {mf : MFunc} {args : List Value} {w : World} {R : Value → World → Prop} (hf : P.funcs[g]? = some fn) (hm : P.follows .mixedOrders = true)
    (hc : compF P fn = some mf) (ha : args.length ≤ mf.ntmps) (h : wpC P mf.body (retK mf.res R) (argsF args) w) : Does P g args w R := by
  unfold compF at hc
  split at hc
  · rename_i rs b hrs hb
    cases hc
    obtain ⟨c, hbody, hcomp⟩ := Option.bind_eq_some_iff.1 hb
    refine calls_of_wp hf hbody ?_
    have hrel : Rel fn.ntmps { tmps := args.toArray ++ Array.replicate (fn.ntmps - args.toArray.size) undef, defers := [] } (argsF args) := by
      refine ⟨by simp; simp at ha; omega, fun t => ?_, rfl⟩
      have key : ∀ (l : List Value) (t : Nat), argsF l t = l.getD t undef := by
        intro l
        induction l with
        | nil => intro t; simp [argsF]
        | cons v l ih => intro t; cases t with
          | zero => simp [argsF]
          | succ t => simp [argsF, ih]
      rw [key]
      simp only [Array.getD_eq_getD_getElem?, List.getD_eq_getElem?_getD]
      rw [Array.getElem?_append]
      split
      · simp
      · rename_i hlt
        simp only [Array.getElem?_replicate]
        rw [List.getElem?_eq_none (by simpa using hlt)]
        split <;> rfl
    refine wp_mono (wpC_sound hm c b _ _ _ w hcomp hrel h) fun e a' w' he => ?_
    have fin : ∀ f', Rel fn.ntmps a' f' → resVC w' f' rs (fun vs => R (oneOr vs) w') → a'.defers = [] ∧ ∃ v, (results fn a'.tmps).run P w' = .ok v w' ∧ ∃ v', Ending.returned v = .returned v' ∧ R v' w' := fun f' hr' hres => by
      obtain ⟨vs, hrun, hR⟩ := res_sound hr'.val fn.results.toList rs _ hrs hres
      refine ⟨hr'.defers, oneOr vs, ?_, _, rfl, hR⟩
      rw [results_eq, Sem.run_bind, Array.mapM_eq_mapM_toList, Sem.run_map, hrun]
      simp only [Result.andThen_ok, Sem.run_pure]
      have e : (if h : vs.toArray.size = 1 then vs.toArray[0] else Value.tuple vs.toArray) = oneOr vs := by
        match vs with
        | [] => rfl
        | [v] => rfl
        | _ :: _ :: _ => simp [oneOr]
      rw [e]
    cases e with
    | normal => obtain ⟨f', hr', h'⟩ := he; exact fin f' hr' h'
    | ret => obtain ⟨f', hr', h'⟩ := he; exact fin f' hr' h'
    | exit id => obtain ⟨f', hr', h'⟩ := he; exact h'
    | goto l => obtain ⟨f', hr', h'⟩ := he; exact h'
    | panic c => exact he.elim
    | outgrown => exact he.elim
  · cases hc

/-! ### What is written -/
def dstIn (ws : List Nat) : Option Nat → Bool
  | some d => memN ws d
  | none => true
def writesL (ws : List Nat) : List MOper → Bool
  | [] => true
  | o :: r => dstIn ws o.dst && writesL ws r
def writesD (ws : List Nat) : List DOper → Bool
  | [] => true
  | o :: r => dstIn ws o.op.dst && writesD ws r
/-- The code writes no temporaries but those listed. -/
def writesC (ws : List Nat) : MCode → Bool
  | .skip => true
  | .ops l => writesL ws l
  | .opsD l => writesD ws l
  | .seq a b => writesC ws a && writesC ws b
  | .cond _ a b => writesC ws a && writesC ws b
  | .block _ b => writesC ws b
  | .loop b => writesC ws b
  | .exit _ => true
  | .ret => true
def Same (ws : List Nat) (f g : Fr) : Prop := ∀ t, memN ws t = false → g t = f t
theorem Same.refl (ws : List Nat) (f : Fr) : Same ws f f := fun _ _ => rfl
theorem Same.trans {ws : List Nat} {f g h : Fr} (a : Same ws f g) (b : Same ws g h) : Same ws f h := fun t ht => (b t ht).trans (a t ht)
theorem Same.put {ws : List Nat} {f : Fr} {d : Option Nat} (hd : dstIn ws d = true) (v : Value) : Same ws f (put f d v) := fun t ht => by
  cases d with
  | none => rfl
  | some d =>
    refine upd_other f v fun e => ?_
    subst e
    simp only [dstIn] at hd
    rw [hd] at ht
    cases ht

theorem guardVC_mono {v : Value} {want : Bool} {A A' B B' : Prop} (h : guardVC v want A B) (ha : A → A') (hb : B → B') : guardVC v want A' B' := by
  rw [guardVC_iff] at *
  split at h
  · rw [if_pos (by assumption)]; exact ha h
  · rw [if_neg (by assumption)]; exact hb h
theorem condVC_mono {v : Value} {A A' B B' : Prop} (h : condVC v A B) (ha : A → A') (hb : B → B') : condVC v A' B' := by
  unfold condVC at *
  split at h <;> first | exact ha h | exact hb h | exact h.elim

theorem wpL_same {P : Program} {ws : List Nat} {K K' : Fr → World → Prop} : ∀ {l : List MOper} {f : Fr} {w : World}, writesL ws l = true → wpL P K l f w → (∀ f' w', Same ws f f' → K f' w' → K' f' w') → wpL P K' l f w
  | [], f, w, _, h, hk => hk f w (Same.refl _ _) h
  | o :: r, f, w, hw, h, hk => by
    simp only [writesL, Bool.and_eq_true] at hw
    have step : ∀ v w', wpL P K r (put f o.dst v) w' → wpL P K' r (put f o.dst v) w' := fun v w' h' => wpL_same hw.2 h' fun f' w'' hs hK => hk f' w'' ((Same.put hw.1 v).trans hs) hK
    simp only [wpL] at h ⊢
    split at h
    · exact opVC_mono h step
    · exact guardVC_mono h (fun h => opVC_mono h step) (step undef w)
theorem wpD_same {P : Program} {ws : List Nat} {K K' : Fr → World → Prop} : ∀ {l : List DOper} {S : World → Prop} {f : Fr} {w : World}, writesD ws l = true → wpD P K l S f w → (∀ f' w', Same ws f f' → K f' w' → K' f' w') → wpD P K' l S f w
  | [], S, f, w, _, h, hk => hk f w (Same.refl _ _) h
  | ⟨o, sink⟩ :: r, S, f, w, hw, h, hk => by
    simp only [writesD, Bool.and_eq_true] at hw
    have step : ∀ S v w', wpD P K r S (put f o.dst v) w' → wpD P K' r S (put f o.dst v) w' := fun S v w' h' => wpD_same hw.2 h' fun f' w'' hs hK => hk f' w'' ((Same.put hw.1 v).trans hs) hK
    revert h
    have body : (match quietOp o.op with
      | true => opVC P f w (fun v w' => wpD P K r (addPin f o.op v S) (put f o.dst v) w') o.op
      | false => match sink with
        | true => opVC P f w (fun v w' => wpD P K r S (put f o.dst v) w') o.op
        | false => opVC P f w (fun v w' => S w' ∧ wpD P K r S (put f o.dst v) w') o.op) → (match quietOp o.op with
      | true => opVC P f w (fun v w' => wpD P K' r (addPin f o.op v S) (put f o.dst v) w') o.op
      | false => match sink with
        | true => opVC P f w (fun v w' => wpD P K' r S (put f o.dst v) w') o.op
        | false => opVC P f w (fun v w' => S w' ∧ wpD P K' r S (put f o.dst v) w') o.op) := fun h => by
      cases hq : quietOp o.op with
      | true => rw [hq] at h; exact opVC_mono h fun v w' => step _ v w'
      | false =>
        rw [hq] at h
        cases sink with
        | true => exact opVC_mono h fun v w' => step _ v w'
        | false => exact opVC_mono h fun v w' h' => ⟨h'.1, step _ v w' h'.2⟩
    intro h
    simp only [wpD] at h ⊢
    split at h
    · exact body h
    · exact guardVC_mono h body (step S undef w)
theorem wpC_same {P : Program} {ws : List Nat} : ∀ {m : MCode} {Q Q' : Post} {f : Fr} {w : World}, writesC ws m = true → wpC P m Q f w → (∀ e f' w', Same ws f f' → Q e f' w' → Q' e f' w') → wpC P m Q' f w
  | .skip, Q, Q', f, w, _, h, hk => hk _ f w (Same.refl _ _) h
  | .ops l, Q, Q', f, w, hw, h, hk => wpL_same hw h fun f' w' => hk _ f' w'
  | .opsD l, Q, Q', f, w, hw, h, hk => wpD_same hw h fun f' w' => hk _ f' w'
  | .seq a b, Q, Q', f, w, hw, h, hk => by
    simp only [writesC, Bool.and_eq_true] at hw
    refine wpC_same (m := a) hw.1 h fun e f' w' hs he => ?_
    cases e with
    | normal => exact wpC_same (m := b) hw.2 he fun e f'' w'' hs' he' => hk e f'' w'' (hs.trans hs') he'
    | _ => exact hk _ f' w' hs he
  | .cond c a b, Q, Q', f, w, hw, h, hk => by
    simp only [writesC, Bool.and_eq_true] at hw
    exact condVC_mono h (fun h => wpC_same (m := a) hw.1 h hk) (fun h => wpC_same (m := b) hw.2 h hk)
  | .block id b, Q, Q', f, w, hw, h, hk => by
    refine wpC_same (m := b) hw h fun e f' w' hs he => ?_
    cases e with
    | exit id' =>
      simp only [blockK] at he ⊢
      split at he <;> exact hk _ f' w' hs he
    | _ => exact hk _ f' w' hs he
  | .loop b, Q, Q', f, w, hw, h, hk => by
    obtain ⟨n, h⟩ := h
    refine ⟨n, ?_⟩
    have key : ∀ n (g : Fr) (w : World), Same ws f g → iterK (fun next f w => wpC P b (thenK next Q) f w) n g w → iterK (fun next f w => wpC P b (thenK next Q') f w) n g w := by
      intro n
      induction n with
      | zero => intro g w _ h; exact h
      | succ n ih =>
        intro g w hg h
        refine wpC_same (m := b) hw h fun e f' w' hs he => ?_
        cases e with
        | normal => exact ih f' w' (hg.trans hs) he
        | _ => exact hk _ f' w' (hg.trans hs) he
    exact key n f w (Same.refl _ _) h
  | .exit id, Q, Q', f, w, _, h, hk => hk _ f w (Same.refl _ _) h
  | .ret, Q, Q', f, w, _, h, hk => hk _ f w (Same.refl _ _) h

/-! ### Loops and cuts: 'ws': what the piece writes; 'ts': of that, what is read later, with its values as a function of a state -/
def mixL (f : Fr) (ws : List Nat) (g : Fr) : Fr := fun t => bif memN ws t then g t else f t
def setL (f : Fr) : List Nat → List Value → Fr
  | t :: ts, v :: vs => upd (setL f ts vs) t v
  | _, _ => f
theorem setL_self : ∀ (ts : List Nat) (f : Fr) (vs : List Value), ts.map f = vs → setL f ts vs = f
  | [], f, vs, h => by subst h; rfl
  | t :: ts, f, vs, h => by
    subst h
    simp only [List.map_cons, setL]
    rw [setL_self ts f _ rfl]
    funext u
    by_cases hu : u = t
    · subst hu; exact upd_same f u _
    · exact upd_other f _ hu
theorem mixL_self {ws : List Nat} {f g : Fr} (h : Same ws f g) : mixL f ws g = g := by
  funext t
  unfold mixL
  cases ht : memN ws t with
  | true => rfl
  | false => exact (h t ht).symm

theorem loop_rule {P : Program} {b : MCode} {Q : Post} {f : Fr} {w : World} {σ : Type} (ws : List Nat) (hws : writesC ws b = true) (ts : List Nat) (vals : σ → List Value) (I : σ → World → Prop) (μ : σ → Nat)
    (s0 : σ) (h0 : ts.map f = vals s0) (hI : I s0 w)
    (round : ∀ (g : Fr) (s : σ) (w : World), I s w → wpC P b (thenK (fun f' w' => ∃ s', ts.map f' = vals s' ∧ I s' w' ∧ μ s' < μ s) Q) (setL (mixL f ws g) ts (vals s)) w) : wpC P (.loop b) Q f w := by
  refine ⟨μ s0 + 1, ?_⟩
  have key : ∀ n (s : σ) (g : Fr) (w : World), μ s < n → Same ws f g → ts.map g = vals s → I s w → iterK (fun next f w => wpC P b (thenK next Q) f w) n g w := by
    intro n
    induction n with
    | zero => intro s g w h; omega
    | succ n ih =>
      intro s g w hn hg hv hI
      have hr := round g s w hI
      rw [mixL_self hg, setL_self ts g _ hv] at hr
      refine wpC_same (m := b) hws hr fun e f' w' hs he => ?_
      cases e with
      | normal =>
        obtain ⟨s', hv', hI', hlt⟩ := he
        exact ih s' f' w' (by omega) (hg.trans hs) hv' hI'
      | _ => exact he
  exact key _ s0 f w (by omega) (Same.refl _ _) h0 hI
/-- A cut: what stands before is walked up to the assertion, what stands behind it from there, once. -/
theorem cut_rule {P : Program} {a b : MCode} {Q : Post} {f : Fr} {w : World} {σ : Type} (ws : List Nat) (hws : writesC ws a = true) (ts : List Nat) (vals : σ → List Value) (J : σ → World → Prop)
    (first : wpC P a (thenK (fun f' w' => ∃ s, ts.map f' = vals s ∧ J s w') Q) f w)
    (rest : ∀ (g : Fr) (s : σ) (w : World), J s w → wpC P b Q (setL (mixL f ws g) ts (vals s)) w) : wpC P (.seq a b) Q f w := by
  refine wpC_same (m := a) hws first fun e f' w' hs he => ?_
  cases e with
  | normal =>
    obtain ⟨s, hv, hJ⟩ := he
    have := rest f' s w' hJ
    rw [mixL_self hs, setL_self ts f' _ hv] at this
    exact this
  | _ => exact he

end Go.Den
