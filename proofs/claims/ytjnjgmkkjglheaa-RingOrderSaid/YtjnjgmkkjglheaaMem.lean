/- MEM: what is known of memory, as a list of atoms that lie apart; and the laws by which it is carried over each operation. Conditions: none; it holds of whatever program. -/
import Derived.Test.YtjnjgmkkjglheaaDen
namespace Go.Den
open Go Go.RowKit

/-- A piece of memory: the blocks that it owns, those that it shares (and nobody writes), and what it says of them. -/
structure Atom where
  ex : Nat → Prop
  sh : Nat → Prop
  holds : World → Prop
  loc : ∀ w w' : World, (∀ b, ex b ∨ sh b → w'.heap[b]? = w.heap[b]?) → holds w → holds w'
  dom : ∀ w : World, holds w → ∀ b, ex b ∨ sh b → b < w.heap.size
def Sep (A B : Atom) : Prop := ∀ b, (A.ex b → ¬ B.ex b ∧ ¬ B.sh b) ∧ (A.sh b → ¬ B.ex b)
theorem Sep.symm {A B : Atom} (h : Sep A B) : Sep B A := fun b => ⟨fun hb => ⟨fun ha => ((h b).1 ha).1 hb, fun ha => (h b).2 ha hb⟩, fun hb ha => ((h b).1 ha).2 hb⟩
/-- In world w, over base w0 (below whose size nothing has turned), the atoms hold, and lie apart. -/
structure SH (w0 w : World) (L : List Atom) : Prop where
  below : Below w0.heap.size w0 w
  holds : ∀ A ∈ L, A.holds w
  sep : L.Pairwise Sep
  new : ∀ A ∈ L, ∀ b, A.ex b → w0.heap.size ≤ b

theorem lt_of_some {w : World} {b : Nat} {o : Obj} (h : w.heap[b]? = some o) : b < w.heap.size := (Array.getElem?_eq_some_iff.1 h).1

/-- One block, owned. -/
def Pt (b : Nat) (o : Obj) : Atom where
  ex := fun x => x = b
  sh := fun _ => False
  holds := fun w => w.heap[b]? = some o
  loc := fun w w' h hw => (h b (.inl rfl)).trans hw
  dom := fun w hw x hx => by rcases hx with rfl | hx; exact lt_of_some hw; exact hx.elim
/-- One block of cells, owned. -/
abbrev Cl (b : Nat) (t : TypeId) (cs : List Value) : Atom := Pt b (.cells cs.toArray t (0, 0))

theorem SH.nil (w : World) : SH w w [] := ⟨Below.refl _ _, by simp, .nil, by simp⟩
theorem SH.size {w0 w : World} {L : List Atom} (h : SH w0 w L) : w0.heap.size ≤ w.heap.size := h.below.size

/-- Some of the atoms are turned into others. -/
theorem SH.turn {w0 w w' : World} {L L' F : List Atom} (h : SH w0 w (L ++ F)) (hos : w'.os = w.os) (htape : w'.tape = w.tape) (hout : w'.output = w.output) (hsize : w.heap.size ≤ w'.heap.size)
    (hkeep : ∀ b, b < w.heap.size → (∀ A ∈ L, ¬ A.ex b) → w'.heap[b]? = w.heap[b]?) (hL : ∀ A ∈ L', A.holds w') (hsep : L'.Pairwise Sep)
    (hex : ∀ A ∈ L', ∀ b, A.ex b → (∃ B ∈ L, B.ex b) ∨ w.heap.size ≤ b) (hsh : ∀ A ∈ L', ∀ b, A.sh b → (∃ B ∈ L, B.ex b ∨ B.sh b) ∨ w.heap.size ≤ b ∨ b < w0.heap.size) : SH w0 w' (L' ++ F) := by
  have hsepF : ∀ A ∈ L, ∀ B ∈ F, Sep A B := fun A hA B hB => (List.pairwise_append.1 h.sep).2.2 A hA B hB
  have hF : ∀ A ∈ F, A.holds w := fun A hA => h.holds A (List.mem_append_right _ hA)
  refine ⟨⟨hos.trans h.below.os, htape.trans h.below.tape, hout.trans h.below.output, Nat.le_trans h.below.size hsize, fun k hk => ?_⟩, fun A hA => ?_, ?_, fun A hA b hb => ?_⟩
  · rw [hkeep k (Nat.lt_of_lt_of_le hk h.below.size) (fun A hA he => Nat.lt_irrefl _ (Nat.lt_of_lt_of_le hk (h.new A (List.mem_append_left _ hA) k he)))]
    exact h.below.block k hk
  · rcases List.mem_append.1 hA with hA | hA
    · exact hL A hA
    · refine A.loc w w' (fun b hb => hkeep b (A.dom w (hF A hA) b hb) fun B hB he => ?_) (hF A hA)
      rcases hb with hb | hb
      · exact ((hsepF B hB A hA b).1 he).1 hb
      · exact ((hsepF B hB A hA b).1 he).2 hb
  · refine List.pairwise_append.2 ⟨hsep, (List.pairwise_append.1 h.sep).2.1, fun A hA B hB b => ⟨fun ha => ⟨fun hb => ?_, fun hb => ?_⟩, fun ha hb => ?_⟩⟩
    · rcases hex A hA b ha with ⟨C, hC, hc⟩ | hn
      · exact ((hsepF C hC B hB b).1 hc).1 hb
      · exact Nat.lt_irrefl _ (Nat.lt_of_lt_of_le (B.dom w (hF B hB) b (.inl hb)) hn)
    · rcases hex A hA b ha with ⟨C, hC, hc⟩ | hn
      · exact ((hsepF C hC B hB b).1 hc).2 hb
      · exact Nat.lt_irrefl _ (Nat.lt_of_lt_of_le (B.dom w (hF B hB) b (.inr hb)) hn)
    · rcases hsh A hA b ha with ⟨C, hC, hc | hc⟩ | hn | hn
      · exact ((hsepF C hC B hB b).1 hc).1 hb
      · exact (hsepF C hC B hB b).2 hc hb
      · exact Nat.lt_irrefl _ (Nat.lt_of_lt_of_le (B.dom w (hF B hB) b (.inl hb)) hn)
      · exact Nat.lt_irrefl _ (Nat.lt_of_lt_of_le hn (h.new B (List.mem_append_right _ hB) b hb))
  · rcases List.mem_append.1 hA with hA | hA
    · rcases hex A hA b hb with ⟨C, hC, hc⟩ | hn
      · exact h.new C (List.mem_append_left _ hC) b hc
      · exact Nat.le_trans h.below.size hn
    · exact h.new A (List.mem_append_right _ hA) b hb

/-- What leaves the blocks that are there as they are. -/
structure Grows (w w' : World) : Prop where
  os : w'.os = w.os
  tape : w'.tape = w.tape
  output : w'.output = w.output
  size : w.heap.size ≤ w'.heap.size
  block : ∀ b, b < w.heap.size → w'.heap[b]? = w.heap[b]?
theorem Grows.refl (w : World) : Grows w w := ⟨rfl, rfl, rfl, Nat.le_refl _, fun _ _ => rfl⟩
theorem Grows.trans {a b c : World} (h : Grows a b) (k : Grows b c) : Grows a c :=
  ⟨k.os.trans h.os, k.tape.trans h.tape, k.output.trans h.output, Nat.le_trans h.size k.size, fun x hx => (k.block x (Nat.lt_of_lt_of_le hx h.size)).trans (h.block x hx)⟩
theorem Grows.cell {w w' : World} (h : Grows w w') {a : Addr} {v : Value} (hc : w.cell? a = some v) : w'.cell? a = some v := by
  have hlt := World.block_lt_of_cell? w a hc
  rw [← hc]; exact World.cell?_of_block (w := w) (h.block a.block hlt)
theorem Grows.drew (w : World) : Grows w w.drew := ⟨rfl, rfl, rfl, Nat.le_refl _, fun _ _ => rfl⟩
theorem Grows.alloc (w : World) (o : Obj) : Grows w (w.alloc o) := ⟨rfl, rfl, rfl, by simp, fun b hb => Below.heap_alloc w o b hb⟩
theorem Grows.newB {w w' : World} {o : Obj} {b : Nat} (h : NewB w o b w') : Grows w w' := by obtain ⟨_, rfl⟩ := h; exact Grows.alloc w o
theorem SH.grows {w0 w w' : World} {L : List Atom} (h : SH w0 w L) (g : Grows w w') : SH w0 w' L := by
  have := SH.turn (L := []) (L' := []) (F := L) h g.os g.tape g.output g.size (fun b hb _ => g.block b hb) (by simp) .nil (by simp) (by simp)
  exact this
theorem SH.drew {w0 w : World} {L : List Atom} (h : SH w0 w L) : SH w0 w.drew L := h.grows (Grows.drew w)
theorem Below.grows {w0 w w' : World} (h : Below w0.heap.size w0 w) (g : Grows w w') : Below w0.heap.size w0 w' :=
  h.trans ⟨g.os, g.tape, g.output, g.size, fun k hk => g.block k (Nat.lt_of_lt_of_le hk h.size)⟩

/-- A new block. -/
theorem SH.newO {w0 w : World} {L : List Atom} (h : SH w0 w L) (o : Obj) : ∃ b w', NewB w o b w' ∧ SH w0 w' (Pt b o :: L) := by
  refine ⟨w.heap.size, w.alloc o, ⟨rfl, rfl⟩, ?_⟩
  have hnew : (w.alloc o).heap[w.heap.size]? = some o := by show (w.heap.push o)[w.heap.size]? = some o; simp
  exact SH.turn (L := []) (L' := [Pt w.heap.size o]) (F := L) h rfl rfl rfl (by simp) (fun b hb _ => Below.heap_alloc w o b hb) (by simpa [Pt] using hnew) (by simp) (by simp [Pt]) (by simp [Pt])
theorem SH.new' {w0 w : World} {L : List Atom} (h : SH w0 w L) (t : TypeId) (cs : List Value) : ∃ b w', NewB w (.cells cs.toArray t) b w' ∧ SH w0 w' (Cl b t cs :: L) := h.newO _
theorem SH.box {w0 w : World} {L : List Atom} (h : SH w0 w L) (t : TypeId) (cs : Array Value) : ∃ b w', NewB w (.cells cs t) b w' ∧ SH w0 w' (Cl b t cs.toList :: L) := by
  simpa using h.newO (.cells cs t)
/-- Fewer atoms. -/
theorem SH.sub {w0 w : World} {L L' : List Atom} (h : SH w0 w L) (hs : L'.Sublist L) : SH w0 w L' :=
  ⟨h.below, fun A hA => h.holds A (hs.subset hA), h.sep.sublist hs, fun A hA => h.new A (hs.subset hA)⟩
theorem SH.tail {w0 w : World} {A : Atom} {L : List Atom} (h : SH w0 w (A :: L)) : SH w0 w L := h.sub (List.sublist_cons_self _ _)
theorem SH.perm {w0 w : World} {L L' : List Atom} (h : SH w0 w L) (hp : L.Perm L') : SH w0 w L' :=
  ⟨h.below, fun A hA => h.holds A (hp.mem_iff.2 hA), hp.pairwise h.sep (fun hab => hab.symm), fun A hA => h.new A (hp.mem_iff.2 hA)⟩
theorem SH.empty {w0 w : World} {L : List Atom} (h : SH w0 w L) : SH w0 w [] := h.sub (List.nil_sublist _)

/-! ### An atom out of the list -/
class Pick (A : Atom) (L : List Atom) (R : outParam (List Atom)) : Prop where
  perm : L.Perm (A :: R)
instance pickHead (A : Atom) (L : List Atom) : Pick A (A :: L) L := ⟨.refl _⟩
instance (priority := low) pickTail (A B : Atom) (L R : List Atom) [h : Pick A L R] : Pick A (B :: L) (B :: R) := ⟨(h.perm.cons B).trans (.swap _ _ _)⟩
theorem SH.pick {w0 w : World} {L R : List Atom} (h : SH w0 w L) (A : Atom) [p : Pick A L R] : SH w0 w (A :: R) := h.perm p.perm
theorem SH.get {w0 w : World} {L R : List Atom} (h : SH w0 w L) (A : Atom) [p : Pick A L R] : A.holds w := h.holds A (p.perm.mem_iff.2 (by simp))
/-- The block of that number, wherever it stands in the list. -/
class AtB (L : List Atom) (b : Nat) (t : outParam TypeId) (cs : outParam (List Value)) (R : outParam (List Atom)) : Prop where
  perm : L.Perm (Cl b t cs :: R)
instance atHead (b : Nat) (t : TypeId) (cs : List Value) (L : List Atom) : AtB (Pt b (.cells cs.toArray t (0, 0)) :: L) b t cs L := ⟨.refl _⟩
instance (priority := low) atTail (A : Atom) (L : List Atom) (b : Nat) (t : TypeId) (cs : List Value) (R : List Atom) [h : AtB L b t cs R] : AtB (A :: L) b t cs (A :: R) := ⟨(h.perm.cons A).trans (.swap _ _ _)⟩
theorem SH.blk {w0 w : World} {L R : List Atom} (h : SH w0 w L) (b : Nat) {t : TypeId} {cs : List Value} [p : AtB L b t cs R] : w.heap[b]? = some (.cells cs.toArray t (0, 0)) :=
  h.holds (Cl b t cs) (p.perm.mem_iff.2 (by simp))
theorem cell_of {w : World} {b : Nat} {t : TypeId} {cs : List Value} {fr : Nat × Nat} (h : w.heap[b]? = some (.cells cs.toArray t fr)) (i : Nat) : w.cell? ⟨b, i, none⟩ = cs[i]? := by simp [World.cell?, h]
/-- A cell of a block that is known. -/
theorem SH.ld {w0 w : World} {L R : List Atom} (h : SH w0 w L) {b i : Nat} {t : TypeId} {cs : List Value} [p : AtB L b t cs R] {v : Value} (hv : cs[i]? = some v) : w.cell? ⟨b, i, none⟩ = some v := (cell_of (h.blk b) i).trans hv
theorem add_plain (b o n : Nat) : (⟨b, o, none⟩ : Addr).add n = ⟨b, o + n, none⟩ := by
  unfold Addr.add
  split
  · rename_i h; subst h; rfl
  · rfl
theorem cellsAt_of {w : World} {b : Nat} {t : TypeId} {cs : List Value} {fr : Nat × Nat} (h : w.heap[b]? = some (.cells cs.toArray t fr)) (o : Nat) :
    ∀ (n i : Nat), o + i + n ≤ cs.length → cellsAt w ⟨b, o, none⟩ i n = some ((cs.drop (o + i)).take n)
  | 0, i, _ => by simp [cellsAt]
  | n + 1, i, hl => by
    simp only [cellsAt]
    rw [add_plain, cell_of h, cellsAt_of h o n (i + 1) (by omega), List.getElem?_eq_getElem (by omega)]
    simp only [Option.some.injEq]
    rw [List.drop_eq_getElem_cons (i := o + i) (by omega), List.take_succ_cons]
    rfl
/-- A whole struct, out of a block that is known. -/
theorem SH.lds {w0 w : World} {L R : List Atom} (h : SH w0 w L) {b n : Nat} {t : TypeId} {cs : List Value} [p : AtB L b t cs R] (hn : Nat.beq cs.length n = true) : cellsAt w ⟨b, 0, none⟩ 0 n = some cs := by
  have e := Nat.eq_of_beq_eq_true hn
  have := cellsAt_of (h.blk b) 0 n 0 (by omega)
  rw [this]
  congr 1
  simp [← e]

/-! ### Stores -/
theorem stored_spec {b : Nat} {t : TypeId} : ∀ (vs : List Value) (cs : List Value) (o i : Nat) (w : World), w.heap[b]? = some (.cells cs.toArray t (0, 0)) → o + i + vs.length ≤ cs.length → (∀ v ∈ vs, oneC v = true) →
    ∃ w', stored w ⟨b, o, none⟩ i vs = some w' ∧ w'.heap[b]? = some (.cells (put1 cs (o + i) vs).toArray t (0, 0)) ∧ (∀ k, k ≠ b → w'.heap[k]? = w.heap[k]?) ∧ w'.heap.size = w.heap.size ∧ w'.os = w.os ∧ w'.tape = w.tape ∧ w'.output = w.output
  | [], cs, o, i, w, h, hl, h1 => ⟨w, rfl, h, fun _ _ => rfl, rfl, rfl, rfl, rfl⟩
  | v :: vs, cs, o, i, w, h, hl, h1 => by
    simp only [List.length_cons] at hl
    have hc : (w.cell? ⟨b, o + i, none⟩).isSome = true := by rw [cell_of h]; simp; omega
    have hf : w.frozen? ⟨b, o + i, none⟩ = false := by simp [World.frozen?, h]
    have hset : (w.setCell ⟨b, o + i, none⟩ v).heap[b]? = some (.cells (cs.set (o + i) v).toArray t (0, 0)) := by
      have hlt := lt_of_some h
      simp only [World.setCell, Array.getElem?_modify, if_true, h]
      simp
    obtain ⟨w', h2, h3, h4, h5, h6, h7, h8⟩ := stored_spec vs (cs.set (o + i) v) o (i + 1) (w.setCell ⟨b, o + i, none⟩ v) hset (by simp; omega) (fun u hu => h1 u (by simp [hu]))
    refine ⟨w', ?_, ?_, fun k hk => ?_, ?_, h6, h7, h8⟩
    · simp only [stored, add_plain, h1 v (by simp), hc, hf]
      exact h2
    · simp only [put1]
      exact h3
    · rw [h4 k hk]; exact Below.heap_setCell w _ v k hk
    · rw [h5]; simp [World.setCell]
/-- A store into a block that is owned. -/
theorem SH.st {w0 w : World} {L R : List Atom} (h : SH w0 w L) {b o : Nat} {t : TypeId} {cs : List Value} [p : AtB L b t cs R] (vs : List Value) (hl : Nat.ble (o + vs.length) cs.length = true) (h1 : vs.all oneC = true) :
    ∃ w', stored w ⟨b, o, none⟩ 0 vs = some w' ∧ SH w0 w' (Cl b t (put1 cs o vs) :: R) := by
  obtain ⟨w', h2, h3, h4, h5, h6, h7, h8⟩ := stored_spec vs cs o 0 w (h.blk b) (by simpa using Nat.le_of_ble_eq_true hl) (by simpa using h1)
  refine ⟨w', h2, ?_⟩
  exact SH.turn (L := [Cl b t cs]) (L' := [Cl b t (put1 cs o vs)]) (F := R) (h.perm p.perm) h6 h7 h8 (by omega) (fun k _ hk => h4 k (by simpa [Pt] using hk)) (by simpa [Pt] using h3) (by simp) (by simp [Pt]) (by simp [Pt])

/-! ### Steps -/
theorem SH.newK {w0 w : World} {L : List Atom} {o : Obj} {C : Nat → World → Prop} (h : SH w0 w L) (k : ∀ b w', SH w0 w' (Pt b o :: L) → C b w') : ∃ b w', NewB w o b w' ∧ C b w' := by
  obtain ⟨b, w', hn, hL⟩ := h.newO o
  exact ⟨b, w', hn, k b w' hL⟩
theorem SH.boxK {w0 w : World} {L : List Atom} (cs : List Value) {t : TypeId} {C : Nat → World → Prop} (h : SH w0 w L) (k : ∀ b w', SH w0 w' (Cl b t cs :: L) → C b w') : ∃ b w', NewB w (.cells cs.toArray t) b w' ∧ C b w' := h.newK k
theorem SH.stK {w0 w : World} {L R : List Atom} {b o n : Nat} {t : TypeId} {cs : List Value} (vs : List Value) {C : World → Prop} (h : SH w0 w L) [p : AtB L b t cs R] (k : ∀ w', SH w0 w' (Cl b t (put1 cs o vs) :: R) → C w')
    (hn : Nat.beq vs.length n = true := by rfl) (hl : Nat.ble (o + vs.length) cs.length = true := by rfl) (h1 : vs.all oneC = true := by rfl) :
    vs.toArray.size = n ∧ ∃ w', stored w ⟨b, o, none⟩ 0 vs = some w' ∧ C w' := by
  obtain ⟨w2, hs, h⟩ := SH.st (o := o) h (b := b) vs hl h1
  exact ⟨by simpa using Nat.eq_of_beq_eq_true hn, w2, hs, k w2 h⟩
theorem SH.grown {w w' : World} {L : List Atom} (h : SH w w' L) : Grows w w' := ⟨h.below.os, h.below.tape, h.below.output, h.below.size, h.below.block⟩
/-- Into a row with many guards: by name (the kernel is not to compare two rows branch by branch). -/
theorem row_in {P : Program} {l : List MOper} {b : MCode} {Q : Post} {f : Fr} {w : World} (h : wpL P (fun f w => wpC P b Q f w) l f w) : wpC P (.seq (.ops l) b) Q f w := h
theorem draw_in {P : Program} {l : List DOper} {b : MCode} {Q : Post} {f : Fr} {w : World} (h : wpD P (fun f w => wpC P b Q f w) l (fun _ => True) f w.drew) : wpC P (.seq (.opsD l) b) Q f w := h

/-- A short frame in a long one's stead: what is read later, by its values. -/
theorem reframe {P : Program} {b : MCode} {Q : Post} {f : Fr} {w : World} (ts : List Nat) (vals : List Value) (hv : ts.map f = vals) (h : ∀ g, wpC P b Q (setL g ts vals) w) : wpC P b Q f w := by
  have := h f
  rwa [setL_self ts f vals hv] at this

/-! ### Statements, by name: a walk marks 'wpC' irreducible, and enters each statement by one of these. -/
section
variable {P : Program} {a b : MCode} {Q : Post} {f : Fr} {w : World}
theorem seq_in (h : wpC P a (thenK (fun f w => wpC P b Q f w) Q) f w) : wpC P (.seq a b) Q f w := h
theorem ops_in {l : List MOper} (h : wpL P (Q .normal) l f w) : wpC P (.ops l) Q f w := h
theorem drawn_in {l : List DOper} (h : wpD P (Q .normal) l (fun _ => True) f w.drew) : wpC P (.opsD l) Q f w := h
theorem block_in {n : Nat} (h : wpC P b (blockK n Q) f w) : wpC P (.block n b) Q f w := h
theorem block_then {n : Nat} {c : MCode} (h : wpC P b (blockK n (thenK (fun f w => wpC P c Q f w) Q)) f w) : wpC P (.seq (.block n b) c) Q f w := h
theorem cond_in {c : Operand} (h : condVC (ev f c) (wpC P a Q f w) (wpC P b Q f w)) : wpC P (.cond c a b) Q f w := h
theorem if_in {l : List MOper} {c : Operand} {d : MCode} (h : wpL P (fun f w => condVC (ev f c) (wpC P a (thenK (fun f w => wpC P d Q f w) Q) f w) (wpC P b (thenK (fun f w => wpC P d Q f w) Q) f w)) l f w) :
    wpC P (.seq (.seq (.ops l) (.cond c a b)) d) Q f w := h
theorem ifd_in {l : List DOper} {c : Operand} {d : MCode} (h : wpD P (fun f w => condVC (ev f c) (wpC P a (thenK (fun f w => wpC P d Q f w) Q) f w) (wpC P b (thenK (fun f w => wpC P d Q f w) Q) f w)) l (fun _ => True) f w.drew) :
    wpC P (.seq (.seq (.opsD l) (.cond c a b)) d) Q f w := h
theorem skip_in (h : Q .normal f w) : wpC P .skip Q f w := h
theorem ret_in (h : Q .ret f w) : wpC P .ret Q f w := h
theorem exit_in {n : Nat} (h : Q (.exit n) f w) : wpC P (.exit n) Q f w := h
end
end Go.Den
