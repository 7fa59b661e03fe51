/- Rows of slices that are taken from ahead and laid on behind: a row anywhere in its block. -/
import Derived.Test.YtjnjgmkkjglheaaRHas
import Derived.ArgAppend
namespace Go.Den
open Go Go.RowKit
/-- A row of one-cell elements that is owned, and may begin anywhere in its block. -/
inductive OffRow (e : TypeId) : Value → Nat → List Value → List Atom → Prop
  | none (b : Option Addr) : OffRow e (.slice b 0 0) 0 [] []
  | at (g off : Nat) (cs : List Value) (n cap : Nat) (hl : cs.length = off + cap) (hn : n ≤ cap) (hm : cap ≤ maxLen) : OffRow e (.slice (some ⟨g, off, none⟩) n cap) n ((cs.drop off).take n) [Cl g e cs]
theorem OwnRow.off {e : TypeId} {v : Value} {n : Nat} {xs : List Value} {A : List Atom} (h : OwnRow e 1 v n xs A) : OffRow e v n xs A := by
  cases h with
  | none b => exact .none b
  | «at» g cs n cap hl hn hm =>
    have := OffRow.at (e := e) g 0 cs n cap (by omega) hn hm
    rw [List.drop_zero] at this
    rw [Nat.mul_one]
    exact this
theorem OffRow.length {e : TypeId} {v : Value} {n : Nat} {xs : List Value} {A : List Atom} (h : OffRow e v n xs A) : xs.length = n := by
  cases h with
  | none b => rfl
  | «at» g off cs n cap hl hn hm => rw [List.length_take, List.length_drop]; omega
theorem OffRow.slice {e : TypeId} {v : Value} {n : Nat} {xs : List Value} {A : List Atom} (h : OffRow e v n xs A) : ∃ a c, v = .slice a n c ∧ n ≤ c := by
  cases h with
  | none b => exact ⟨_, _, rfl, Nat.le_refl _⟩
  | «at» g off cs n cap hl hn hm => exact ⟨_, _, rfl, hn⟩
theorem OffRow.reads {e : TypeId} {v : Value} {n : Nat} {xs : List Value} {A : List Atom} (h : OffRow e v n xs A) {w : World} (ha : ∀ a ∈ A, a.holds w) : Reads w 1 v n xs := by
  refine ⟨by rw [h.length]; omega, ?_⟩
  cases h with
  | none b => exact ⟨_, _, rfl, fun _ => rfl, fun ad _ j u hu => by simp at hu⟩
  | «at» g off cs n cap hl hn hm =>
    refine ⟨_, _, rfl, fun h => (by cases h), fun ad ea j u hu => ?_⟩
    cases ea
    have hg : w.heap[g]? = some (.cells cs.toArray _ (0, 0)) := ha _ (List.mem_singleton.2 rfl)
    rw [add_plain, cell_of hg]
    rw [List.getElem?_take] at hu
    split at hu
    · rw [List.getElem?_drop] at hu; exact hu
    · cases hu
/-- The first element goes. -/
theorem OffRow.tail {e : TypeId} {a : Option Addr} {c n : Nat} {x : Value} {xs : List Value} {A : List Atom} (h : OffRow e (.slice a (n + 1) c) (n + 1) (x :: xs) A) :
    1 ≤ n + 1 ∧ n + 1 ≤ c ∧ ∃ A', A'.Sublist A ∧ OffRow e (.slice (if c = 1 then a else a.map (·.add (1 * 1))) (n + 1 - 1) (c - 1)) n xs A' := by
  generalize hv : Value.slice a (n + 1) c = v at h
  generalize hm : n + 1 = m at h
  generalize hxs : x :: xs = ys at h
  cases h with
  | none b => omega
  | «at» g off cs n' cap hl hn hmx =>
    subst hm
    cases hv
    refine ⟨by omega, hn, ?_⟩
    by_cases h1 : c = 1
    · subst h1
      have hn0 : n = 0 := by omega
      subst hn0
      have hlen := congrArg List.length hxs
      rw [List.length_take, List.length_drop] at hlen
      have hx0 : xs = [] := List.eq_nil_of_length_eq_zero (by simp at hlen; omega)
      subst hx0
      exact ⟨[], List.nil_sublist _, .none _⟩
    · rw [if_neg h1]
      refine ⟨[Cl g e cs], List.Sublist.refl _, ?_⟩
      show OffRow e (.slice (some ((⟨g, off, Option.none⟩ : Addr).add (1 * 1))) (n + 1 - 1) (c - 1)) n xs [Cl g e cs]
      rw [add_plain]
      have hxs2 : xs = (cs.drop (off + 1 * 1)).take n := by
        have := congrArg List.tail hxs
        rw [List.tail_cons] at this
        rw [this, show off + 1 * 1 = off + 1 by omega, ← List.tail_drop, ← List.drop_one, ← List.drop_one, List.drop_take]
        rfl
      rw [hxs2]
      exact .at g (off + 1 * 1) cs n (c - 1) (by omega) (by omega) (by omega)
theorem set_take {ds : List Value} {n : Nat} (u : Value) (h : n < ds.length) : (ds.set n u).take (n + 1) = ds.take n ++ [u] := by
  rw [List.take_add_one, List.getElem?_set]
  simp [h, List.take_set]
  rw [List.set_eq_of_length_le]
  rw [List.length_take]
  omega
/-- One element more, behind. -/
theorem runs_append_off {P : Program} {o : Oper} {f : Fr} {w0 w : World} {R A : List Atom} {K : Value → World → Prop} {t e : TypeId} {z : Value} {bytes : Nat} (s x : Operand) (he : ElemOf P t e z 1 bytes)
    (ho : o.op = .call { callee := .builtin .append, args := #[s, x], argTypes := #[t, t] })
    {n : Nat} {xs : List Value} {v u y : Value} (hv : ev f s = v) (hu : ev f x = u) (hL : SH w0 w (A ++ R)) (hown : OffRow e v n xs A) (hx : Reads w 1 u 1 [y]) (h1 : y.oneCell' = true) (h1c : oneC y = true)
    (h63 : n + 1 ≤ maxLen) (hbytes : (n + 1) * bytes ≤ 140737488355328)
    (k : ∀ v' w' A', OffRow e v' (n + 1) (xs ++ [y]) A' → SH w0 w' (A' ++ R) → K v' w') : Runs P o f w K := by
  cases hown with
  | none b =>
    exact app s x he ho hv hu (A := []) hL (.none b) hx (by simpa using h1) (by omega) (by omega) fun v' w' A' hv' hL' => by
      have hv' : OwnRow e 1 v' 1 [y] A' := by simpa using hv'
      exact k v' w' A' hv'.off hL'
  | «at» g off cs n cap hl hn hm =>
  have hi := he.info
  cases hif : P.info? e with
  | none => rw [hif] at hi; cases hi
  | some i =>
  rw [hif] at hi
  simp only [Option.map_some, Option.some.injEq, Prod.mk.injEq] at hi
  obtain ⟨hz, hsz, hby⟩ := hi
  obtain ⟨hlx, a, c, rfl, ha, hnews⟩ := hx
  cases a with
  | none => exact absurd (ha rfl) (by decide)
  | some ad =>
  have hnews := hnews ad rfl
  have hg : w.heap[g]? = some (.cells cs.toArray e (0, 0)) := hL.holds (Cl g e cs) (by simp)
  have hcells : ∀ j u, ((cs.drop off).take n)[j]? = some u → w.cell? ((⟨g, off, none⟩ : Addr).add j) = some u := fun j u hu => by
    rw [add_plain, cell_of hg]
    rw [List.getElem?_take] at hu
    split at hu
    · rw [List.getElem?_drop] at hu; exact hu
    · cases hu
  have hlen : ((cs.drop off).take n).length = n * 1 := by rw [List.length_take, List.length_drop]; omega
  have key : ∃ v' w' A', (Builtin.append_ #[t, t] o.type #[.slice (some ⟨g, off, none⟩) n cap, .slice (some ad) 1 c]).run P w = .ok v' w' ∧ OffRow e v' (n + 1) ((cs.drop off).take n ++ [y]) A' ∧ SH w0 w' (A' ++ R) := by
    by_cases hroom : n + 1 ≤ cap
    · have hin : off + n < cs.length := by omega
      have hrun := run_append_room_cells (P := P) w t o.type e i he.und hif g off n cap ad 1 c [y] (by rw [hsz]; rfl) hnews (by simpa using h1) hroom
        (fun j hj => by rw [hsz]; simp at hj; subst hj; rw [cell_of hg]; simp; omega) (fun j hj => by simp [World.frozen?, hg])
      have hLL : SH w0 w (Cl g e cs :: R) := hL
      obtain ⟨w', hst, hL'⟩ := SH.st hLL (b := g) (o := off + n) [y] (Nat.ble_eq_true_of_le (by simp; omega)) (by simp [h1c])
      have hw' : w' = w.setCell ⟨g, off + n, none⟩ y := by
        simp only [stored, add_plain, Nat.add_zero] at hst
        split at hst
        · exact (Option.some.inj hst).symm
        · cases hst
      refine ⟨.slice (some ⟨g, off, none⟩) (n + 1) cap, w', [Cl g e (cs.set (off + n) y)], hrun.trans ?_, ?_, hL'⟩
      · rw [hw', hsz, Nat.mul_one]
        rfl
      · have hd : (cs.drop off).take n ++ [y] = ((cs.set (off + n) y).drop off).take (n + 1) := by
          rw [List.drop_set]
          rw [if_neg (by omega), show off + n - off = n by omega, set_take _ (by rw [List.length_drop]; omega)]
        rw [hd]
        exact .at g off _ (n + 1) cap (by rw [List.length_set]; exact hl) hroom hm
    · obtain ⟨v', w', hrun, hr', hgr⟩ := run_append_arg_grows (P := P) w t o.type e i z 1 bytes he.und hif hz hsz hby he.cells he.pos ⟨g, off, none⟩ n cap _ hlen hcells ad 1 c [y] (by rfl) hnews (by omega) h63 hbytes
      obtain ⟨hl2, hv⟩ := hr'
      rcases hv with ⟨rfl, h0⟩ | ⟨g', cap', cur, rfl, hbg, hgg, hnc, hcm, hcs, htk⟩
      · omega
      · refine ⟨_, w', [Cl g' e cur.toList], hrun, ?_, ?_⟩
        · have hO : OwnRow e 1 (.slice (some ⟨g', 0, none⟩) (n + 1) cap') (n + 1) (cur.toList.take ((n + 1) * 1)) [Cl g' e cur.toList] := .at g' cur.toList (n + 1) cap' (by simpa using hcs) hnc hcm
          rw [htk] at hO
          exact hO.off
        · refine SH.turn (L := [Cl g e cs]) (L' := [Cl g' e cur.toList]) (F := R) hL hgr.os hgr.tape hgr.output hgr.size (fun b hb _ => hgr.block b hb (by simp)) (by simpa [Pt] using hgg) (by simp) ?_ (by simp [Pt])
          intro B hB b hb
          simp only [List.mem_singleton] at hB
          subst hB
          have hb : b = g' := hb
          subst hb
          exact .inr hbg
  obtain ⟨v', w', A', hr, h2, h3⟩ := key
  unfold Runs execOp
  simp only [ho, resolve, invoke, builtin, Sem.run_bind, Sem.run_pure, Result.andThen_ok, List.map_toArray, List.map_cons, List.map_nil, hv, hu, hr]
  exact k _ _ _ h2 h3
end Go.Den
