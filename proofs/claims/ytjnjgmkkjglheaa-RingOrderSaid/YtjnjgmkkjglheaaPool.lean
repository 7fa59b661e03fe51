/- Pools in memory: a block with the slice of buffers, a block with the buffers, and the bytes, which nobody writes. -/
import Derived.Test.YtjnjgmkkjglheaaApp
import Derived.Test.YtjnjgmkkjglheaaCode
namespace Go.Den
open Go Go.RowKit
def vals (bs : List Int) : List Value := bs.map (.int .u8 ·)
def ints (zs : List Int) : List Value := zs.map (.int .i64 ·)
structure Buf where
  own : Int
  sl : Value
  bs : List Int
def flat (bufs : List Buf) : List Value := bufs.flatMap fun B => [.int .i64 B.own, B.sl]
def blockOf : Value → Option Nat
  | .slice (some a) _ _ => some a.block
  | _ => none
theorem Reads.same {w w' : World} {size : Nat} {v : Value} {n : Nat} {xs : List Value} (h : Reads w size v n xs) (hb : ∀ b, xs ≠ [] → blockOf v = some b → w'.heap[b]? = w.heap[b]?) : Reads w' size v n xs := by
  obtain ⟨hl, a, c, rfl, ha, hc⟩ := h
  refine ⟨hl, a, c, rfl, ha, fun ad e j u hu => ?_⟩
  subst e
  have h0 : xs ≠ [] := fun h => by subst h; simp at hu
  rw [← hc ad rfl j u hu]
  refine World.cell?_of_block (a := ad.add j) ?_
  have hbl : (ad.add j).block = ad.block := by unfold Addr.add; split <;> rfl
  rw [hbl]
  exact hb ad.block h0 rfl
theorem Reads.grows {w w' : World} {size : Nat} {v : Value} {n : Nat} {xs : List Value} (h : Reads w size v n xs) (g : Grows w w') : Reads w' size v n xs := by
  obtain ⟨hl, a, c, rfl, ha, hc⟩ := h
  exact ⟨hl, a, c, rfl, ha, fun ad e j u hu => g.cell (hc ad e j u hu)⟩
/-- Slices that are read by many, and that nobody writes. -/
def Shr (size : Nat) (l : List (Value × List Value)) : Atom where
  ex := fun _ => False
  sh := fun b => ∃ p ∈ l, p.2 ≠ [] ∧ blockOf p.1 = some b
  holds := fun w => ∀ p ∈ l, ∃ n, Reads w size p.1 n p.2
  loc := fun w w' h hw p hp => by
    obtain ⟨n, hr⟩ := hw p hp
    exact ⟨n, hr.same fun b h0 hb => h b (.inr ⟨p, hp, h0, hb⟩)⟩
  dom := fun w hw b hb => by
    obtain ⟨p, hp, h0, hb⟩ := hb.resolve_left id
    obtain ⟨n, hl, a, c, hv, ha, hc⟩ := hw p hp
    rw [hv] at hb
    cases a with
    | none => cases hb
    | some ad =>
      simp only [blockOf, Option.some.injEq] at hb
      obtain ⟨u, hu⟩ : ∃ u, p.2[0]? = some u := by
        cases h2 : p.2 with
        | nil => exact absurd h2 h0
        | cons u r => exact ⟨u, rfl⟩
      have := World.block_lt_of_cell? w _ (hc ad rfl 0 u hu)
      have hbl : (ad.add 0).block = ad.block := by unfold Addr.add; split <;> rfl
      rw [hbl, hb] at this
      exact this
def shr (bufs : List Buf) : List (Value × List Value) := bufs.map fun B => (B.sl, vals B.bs)
/-- Where a pool's buffers lie: the block, for how many it has room, and what stands behind them. -/
structure Home where
  b : Nat
  c : Nat
  sp : List Value
structure PoolR (T bT : TypeId) (w : World) (bp : Nat) (bb : Home) (bufs : List Buf) : Prop where
  top : w.heap[bp]? = some (.cells [Value.slice (some ⟨bb.b, 0, none⟩) bufs.length bb.c].toArray T (0, 0))
  row : w.heap[bb.b]? = some (.cells (flat bufs ++ bb.sp).toArray bT (0, 0))
  bytes : ∀ B ∈ bufs, Reads w 1 B.sl B.bs.length (vals B.bs)
theorem flat_length (bufs : List Buf) : (flat bufs).length = bufs.length * 2 := by
  induction bufs with
  | nil => rfl
  | cons B r ih => simp only [flat, List.flatMap_cons, List.length_append, List.length_cons, List.length_nil] at ih ⊢; omega
theorem flat_at : ∀ (bufs : List Buf) (i : Nat) (B : Buf), bufs[i]? = some B → (flat bufs)[i * 2]? = some (.int .i64 B.own) ∧ (flat bufs)[i * 2 + 1]? = some B.sl
  | [], i, B, h => by simp at h
  | C :: r, 0, B, h => by simp at h; subst h; exact ⟨rfl, rfl⟩
  | C :: r, i + 1, B, h => by
    have := flat_at r i B (by simpa using h)
    have e : (i + 1) * 2 = i * 2 + 1 + 1 := by omega
    have f : flat (C :: r) = .int .i64 C.own :: C.sl :: flat r := rfl
    rw [e, f]
    simpa using this
theorem flat_set : ∀ (bufs : List Buf) (i : Nat) (B : Buf), i < bufs.length → put1 (flat bufs) (i * 2) [.int .i64 B.own, B.sl] = flat (bufs.set i B)
  | [], i, B, h => by simp at h
  | C :: r, 0, B, h => rfl
  | C :: r, i + 1, B, h => by
    have := flat_set r i B (by simpa using h)
    have e : (i + 1) * 2 = i * 2 + 1 + 1 := by omega
    have f : flat (C :: r) = .int .i64 C.own :: C.sl :: flat r := rfl
    have g : flat ((C :: r).set (i + 1) B) = .int .i64 C.own :: C.sl :: flat (r.set i B) := rfl
    rw [e, f, g, ← this]
    simp [put1]
theorem flat_own : ∀ (bufs : List Buf) (i : Nat) (B : Buf) (o : Int), bufs[i]? = some B → put1 (flat bufs) (i * 2) [.int .i64 o] = flat (bufs.set i { B with own := o })
  | [], i, B, o, h => by simp at h
  | C :: r, 0, B, o, h => by simp at h; subst h; rfl
  | C :: r, i + 1, B, o, h => by
    have := flat_own r i B o (by simpa using h)
    have e : (i + 1) * 2 = i * 2 + 1 + 1 := by omega
    have f : flat (C :: r) = .int .i64 C.own :: C.sl :: flat r := rfl
    have g : flat ((C :: r).set (i + 1) { B with own := o }) = .int .i64 C.own :: C.sl :: flat (r.set i { B with own := o }) := rfl
    rw [e, f, g, ← this]
    simp [put1]
theorem flat_sp {l : List Value} (sp : List Value) {j : Nat} {v : Value} (h : l[j]? = some v) : (l ++ sp)[j]? = some v := by
  rw [List.getElem?_append_left (List.getElem?_eq_some_iff.1 h).1]; exact h
theorem put1_append : ∀ (vs a b : List Value) (o : Nat), o + vs.length ≤ a.length → put1 (a ++ b) o vs = put1 a o vs ++ b
  | [], a, b, o, _ => rfl
  | v :: vs, a, b, o, h => by
    simp only [List.length_cons] at h
    simp only [put1]
    rw [List.set_append_left _ _ (by omega)]
    exact put1_append vs (a.set o v) b (o + 1) (by simp; omega)
theorem flat_set' {bufs : List Buf} (sp : List Value) {i : Nat} (B : Buf) (h : i < bufs.length) : put1 (flat bufs ++ sp) (i * 2) [.int .i64 B.own, B.sl] = flat (bufs.set i B) ++ sp := by
  rw [put1_append _ _ _ _ (by rw [flat_length]; simp; omega), flat_set bufs i B h]
theorem flat_own' {bufs : List Buf} (sp : List Value) {i : Nat} {B : Buf} (o : Int) (h : bufs[i]? = some B) : put1 (flat bufs ++ sp) (i * 2) [.int .i64 o] = flat (bufs.set i { B with own := o }) ++ sp := by
  have hi : i < bufs.length := (List.getElem?_eq_some_iff.1 h).1
  rw [put1_append _ _ _ _ (by rw [flat_length]; simp; omega), flat_own bufs i B o h]
/-- The atoms of a pool. -/
def poolL (T bT : TypeId) (bp : Nat) (bb : Home) (bufs : List Buf) : List Atom := [Cl bp T [.slice (some ⟨bb.b, 0, none⟩) bufs.length bb.c], Cl bb.b bT (flat bufs ++ bb.sp), Shr 1 (shr bufs)]
theorem SH.pool {w0 w : World} {L : List Atom} {T bT : TypeId} {bp : Nat} {bb : Home} {bufs : List Buf} (h : SH w0 w L) (hp : ∀ A ∈ poolL T bT bp bb bufs, A ∈ L) : PoolR T bT w bp bb bufs := by
  refine ⟨h.holds (Cl bp T _) (hp _ (.head _)), h.holds (Cl bb.b bT (flat bufs ++ bb.sp)) (hp _ (.tail _ (.head _))), fun B hB => ?_⟩
  obtain ⟨n, hr⟩ := h.holds (Shr 1 (shr bufs)) (hp _ (by simp [poolL])) (B.sl, vals B.bs) (List.mem_map.2 ⟨B, hB, rfl⟩)
  have : n = B.bs.length := by have := hr.1; simpa [vals] using this.symm
  subst this
  exact hr
theorem PoolR.grows {T bT : TypeId} {w w' : World} {bp : Nat} {bb : Home} {bufs : List Buf} (h : PoolR T bT w bp bb bufs) (g : Grows w w') : PoolR T bT w' bp bb bufs :=
  ⟨(g.block bp (lt_of_some h.top)).trans h.top, (g.block bb.b (lt_of_some h.row)).trans h.row, fun B hB => (h.bytes B hB).grows g⟩
theorem PoolR.slice {T bT : TypeId} {w : World} {bp : Nat} {bb : Home} {bufs : List Buf} (h : PoolR T bT w bp bb bufs) : w.cell? ((⟨bp, 0, none⟩ : Addr).add 0) = some (.slice (some ⟨bb.b, 0, none⟩) bufs.length bb.c) := by
  rw [add_plain]; exact cell_of h.top 0
theorem PoolR.own {T bT : TypeId} {w : World} {bp : Nat} {bb : Home} {bufs : List Buf} (h : PoolR T bT w bp bb bufs) {i : Nat} {B : Buf} (hB : bufs[i]? = some B) : w.cell? (((⟨bb.b, 0, none⟩ : Addr).add (i * 2)).add 0) = some (.int .i64 B.own) := by
  rw [add_plain, add_plain, cell_of h.row]; simpa using flat_sp bb.sp (flat_at bufs i B hB).1
theorem PoolR.sl {T bT : TypeId} {w : World} {bp : Nat} {bb : Home} {bufs : List Buf} (h : PoolR T bT w bp bb bufs) {i : Nat} {B : Buf} (hB : bufs[i]? = some B) : w.cell? (((⟨bb.b, 0, none⟩ : Addr).add (i * 2)).add 1) = some B.sl := by
  rw [add_plain, add_plain, cell_of h.row]; simpa using flat_sp bb.sp (flat_at bufs i B hB).2
theorem PoolR.both {T bT : TypeId} {w : World} {bp : Nat} {bb : Home} {bufs : List Buf} (h : PoolR T bT w bp bb bufs) {i : Nat} {B : Buf} (hB : bufs[i]? = some B) : cellsAt w ((⟨bb.b, 0, none⟩ : Addr).add (i * 2)) 0 2 = some [.int .i64 B.own, B.sl] := by
  have h1 := h.own hB
  have h2 := h.sl hB
  simp only [cellsAt]
  rw [h1, h2]
end Go.Den
