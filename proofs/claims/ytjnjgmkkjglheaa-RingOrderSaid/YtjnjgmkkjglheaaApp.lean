/- Append, over the list of atoms: rows that are owned grow, and hold what was appended. Conditions: none; it holds of whatever program. -/
import Derived.Test.YtjnjgmkkjglheaaMem
import Derived.Maps.AppendAt
namespace Go.Den
open Go Go.RowKit
/-- A row that may be appended to: no room at all, or an owned block. -/
inductive OwnRow (e : TypeId) (size : Nat) : Value → Nat → List Value → List Atom → Prop
  | none (b : Option Addr) : OwnRow e size (.slice b 0 0) 0 [] []
  | at (g : Nat) (cs : List Value) (n cap : Nat) (hl : cs.length = cap * size) (hn : n ≤ cap) (hm : cap ≤ maxLen) : OwnRow e size (.slice (some ⟨g, 0, none⟩) n cap) n (cs.take (n * size)) [Cl g e cs]
/-- A slice, and what lies in its cells. -/
def Reads (w : World) (size : Nat) (v : Value) (n : Nat) (xs : List Value) : Prop :=
  xs.length = n * size ∧ ∃ a c, v = .slice a n c ∧ (a = none → n = 0) ∧ ∀ ad, a = some ad → ∀ j u, xs[j]? = some u → w.cell? (ad.add j) = some u
theorem OwnRow.length {e : TypeId} {size : Nat} {v : Value} {n : Nat} {xs : List Value} {A : List Atom} (h : OwnRow e size v n xs A) : xs.length = n * size := by
  cases h with
  | none b => simp
  | «at» g cs n cap hl hn hm => rw [List.length_take, hl]; exact Nat.min_eq_left (Nat.mul_le_mul_right _ hn)
theorem run_append_zero {P : Program} {w : World} (t ty e : TypeId) (i : TypeInfo) (ht : P.underlying t = some (.slice e)) (hi : P.info? e = some i) (b a : Option Addr) (n c c' : Nat) (hn : n ≤ c) :
    (Builtin.append_ #[t, t] ty #[.slice b n c, .slice a 0 c']).run P w = .ok (.slice b n c) w := by
  cases a <;> cases b <;> simp [Builtin.append_, underlying, ht, sizeOf, typeInfo, hi, Builtin.lenOf, Builtin.firstCells, loadCells, loadCellsFrom, storeCells, hn]
/-- A new row in a new block. -/
theorem SH.row {w0 w : World} {L : List Atom} (h : SH w0 w L) (e : TypeId) (cs : Array Value) :
    SH w0 (w.drew.alloc (.cells cs e)) (Cl w.heap.size e cs.toList :: L) := by
  have hd := h.drew
  have hnew : (w.drew.alloc (.cells cs e)).heap[w.heap.size]? = some (.cells cs e) := by show (w.heap.push _)[w.heap.size]? = _; simp
  exact SH.turn (L := []) (L' := [Cl w.heap.size e cs.toList]) (F := L) hd rfl rfl rfl (by simp) (fun b hb _ => Below.heap_alloc w.drew _ b hb) (by simpa [Pt] using hnew) (by simp) (by simp [Pt]) (by simp [Pt])
theorem append_rule {P : Program} {w0 w : World} {R A : List Atom} (t ty e : TypeId) (i : TypeInfo) (z : Value) (size bytes : Nat) (ht : P.underlying t = some (.slice e)) (hi : P.info? e = some i) (hz : i.zero = some z)
    (hsize : i.size = size) (hby : i.bytes = bytes) (hzs : z.cells.size = size) (hsz : 0 < size)
    {v x : Value} {n m : Nat} {xs news : List Value} (hL : SH w0 w (A ++ R)) (hown : OwnRow e size v n xs A) (hx : Reads w size x m news) (h1 : ∀ u ∈ news, u.oneCell' = true)
    (h63 : n + m ≤ maxLen) (hbytes : (n + m) * bytes ≤ 140737488355328) :
    ∃ v' w' A', (Builtin.append_ #[t, t] ty #[v, x]).run P w = .ok v' w' ∧ OwnRow e size v' (n + m) (xs ++ news) A' ∧ SH w0 w' (A' ++ R) := by
  obtain ⟨hl, a, c, rfl, ha, hnews⟩ := hx
  by_cases hm : m = 0
  · subst hm
    have hn0 : news = [] := List.eq_nil_of_length_eq_zero (by simpa using hl)
    subst hn0
    cases hown with
    | none b => exact ⟨_, w, _, run_append_zero t ty e i ht hi b a 0 0 c (Nat.le_refl _), .none b, hL⟩
    | «at» g cs n cap hl hn hmx => exact ⟨_, w, _, run_append_zero t ty e i ht hi _ a n cap c hn, by rw [List.append_nil]; exact .at g cs n cap hl hn hmx, hL⟩
  cases a with
  | none => exact absurd (ha rfl) hm
  | some ad =>
  have hnews := hnews ad rfl
  have hsmall : n + m ≤ 9223372036854775807 := by simp only [maxLen] at h63; omega
  cases hown with
  | none b =>
    have hge := grownCap_ge w (0 + m) 0 e
    have hcm := grownCap_le_maxLen w (0 + m) 0 e h63
    have hrun : (Builtin.append_ #[t, t] ty #[.slice b 0 0, .slice (some ad) m c]).run P w = .ok (.slice (some ⟨w.heap.size, 0, none⟩) (0 + m) (grownCap w (0 + m) 0 e)) (w.drew.alloc (.cells (news.toArray ++ Builtin.zeroCells z.cells (grownCap w (0 + m) 0 e - (0 + m))) e)) := by
      cases b with
      | none =>
        have := run_append_nil (P := P) w t ty e i z ht hi hz ad m c news (by rw [hsize]; exact hl) hnews (by omega) (by omega) (by rw [hby]; have hb := hbytes; simp only [Nat.zero_add] at hb; omega)
        simpa using this
      | some b =>
        have := run_append_grow (P := P) w t ty e i z ht hi hz b 0 0 [] (by simp) (by simp) ad m c news (by rw [hsize]; exact hl) hnews (by omega) (by omega) (by rw [hby]; exact growslice_fits (by omega) hbytes)
        simpa using this
    refine ⟨_, _, [Cl w.heap.size e _], hrun, ?_, hL.row e _⟩
    · have hsz2 : (news.toArray ++ Builtin.zeroCells z.cells (grownCap w (0 + m) 0 e - (0 + m))).toList.length = grownCap w (0 + m) 0 e * size := by
        simp only [Array.length_toList, Array.size_append, List.size_toArray, size_zeroCells, hzs, hl, ← Nat.add_mul]
        congr 1
        omega
      have htk : (news.toArray ++ Builtin.zeroCells z.cells (grownCap w (0 + m) 0 e - (0 + m))).toList.take ((0 + m) * size) = [] ++ news := by
        simp only [Array.toList_append, List.nil_append]
        rw [Nat.zero_add, ← hl]
        exact List.take_left
      rw [← htk]
      exact .at _ _ _ _ hsz2 hge hcm
  | «at» g cs n cap hcl hn hcap =>
    have hg : w.heap[g]? = some (.cells cs.toArray e (0, 0)) := hL.holds (Cl g e cs) (by simp)
    have hw : w0.heap.size ≤ g := hL.new (Cl g e cs) (by simp) g rfl
    have hr : w.ownsRow w0.heap.size e size (.slice (some ⟨g, 0, none⟩) n cap) n (cs.take (n * size)) :=
      ⟨by rw [List.length_take, hcl]; exact Nat.min_eq_left (Nat.mul_le_mul_right _ hn), .inr ⟨g, cap, cs.toArray, rfl, hw, hg, hn, hcap, by simpa using hcl, rfl⟩⟩
    obtain ⟨v', w', hrun, hr', hgr, hnil, hat⟩ := run_append_own_at (P := P) w w0.heap.size t ty e i z size bytes ht hi hz hsize hby hzs hsz _ n _ hr ad m c news hl hnews h1 h63 hbytes hL.size
    obtain ⟨hlen, hv⟩ := hr'
    rcases hv with ⟨rfl, h0⟩ | ⟨g', cap', cur, rfl, hbg, hgg, hnc, hcm, hcs, htk⟩
    · omega
    · refine ⟨_, w', [Cl g' e cur.toList], hrun, ?_, ?_⟩
      · rw [← htk]
        exact .at g' cur.toList (n + m) cap' (by simpa using hcs) hnc hcm
      · have hat' : g' = g ∨ g' = w.heap.size := by simpa [Value.ownBlock] using hat
        refine SH.turn (L := [Cl g e cs]) (L' := [Cl g' e cur.toList]) (F := R) hL hgr.os hgr.tape hgr.output hgr.size (fun b hb hne => hgr.block b hb ?_) (by simpa [Pt] using hgg) (by simp) ?_ (by simp [Pt])
        · intro h
          simp only [Value.ownBlock, Option.some.injEq] at h
          exact hne (Cl g e cs) (by simp) h
        · intro B hB b hb
          simp only [List.mem_singleton] at hB
          subst hB
          have hb : b = g' := hb
          subst hb
          rcases hat' with h | h
          · exact .inl ⟨Cl g e cs, by simp, h⟩
          · exact .inr (by omega)
/-- The operation, resolved: the rest goes on with a row that holds what was appended. -/
theorem runs_append {P : Program} {o : Oper} {f : Fr} {w0 w : World} {R A : List Atom} {K : Value → World → Prop} (s x : Operand) (t e : TypeId) (i : TypeInfo) (z : Value) (size bytes : Nat)
    (ho : o.op = .call { callee := .builtin .append, args := #[s, x], argTypes := #[t, t] }) (ht : P.underlying t = some (.slice e)) (hi : P.info? e = some i) (hz : i.zero = some z)
    (hsize : i.size = size) (hby : i.bytes = bytes) (hzs : z.cells.size = size) (hsz : 0 < size)
    {n m : Nat} {xs news : List Value} {v u : Value} (hv : ev f s = v) (hu : ev f x = u) (hL : SH w0 w (A ++ R)) (hown : OwnRow e size v n xs A) (hx : Reads w size u m news) (h1 : ∀ u ∈ news, u.oneCell' = true)
    (h63 : n + m ≤ maxLen) (hbytes : (n + m) * bytes ≤ 140737488355328)
    (k : ∀ v' w' A', OwnRow e size v' (n + m) (xs ++ news) A' → SH w0 w' (A' ++ R) → K v' w') : Runs P o f w K := by
  subst hv hu
  obtain ⟨v', w', A', hr, h2, h3⟩ := append_rule (P := P) t o.type e i z size bytes ht hi hz hsize hby hzs hsz hL hown hx h1 h63 hbytes
  unfold Runs execOp
  simp only [ho, resolve, invoke, builtin, Sem.run_bind, Sem.run_pure, Result.andThen_ok, List.map_toArray, List.map_cons, List.map_nil, hr]
  exact k _ _ _ h2 h3
end Go.Den
