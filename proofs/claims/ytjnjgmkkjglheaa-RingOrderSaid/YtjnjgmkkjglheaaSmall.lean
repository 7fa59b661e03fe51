/- The small functions that the laws share: copies of rows, and what an owner is. -/
import Derived.Test.YtjnjgmkkjglheaaPool
namespace Go.Den
open Go Go.RowKit
/-- What a piece of work has made, over what was there. -/
theorem SH.join {w0 w w' : World} {A R : List Atom} (h : SH w0 w R) (k : SH w w' A) (hsh : ∀ a ∈ A, ∀ b, ¬ a.sh b := by simp [Pt]) : SH w0 w' (A ++ R) := by
  have hg : Grows w w' := k.grown
  exact SH.turn (L := []) (L' := A) (F := R) h hg.os hg.tape hg.output hg.size (fun b hb _ => hg.block b hb) k.holds k.sep (fun a ha b hb => .inr (k.new a ha b hb)) (fun a ha b hb => absurd hb (hsh a ha b))
theorem OwnRow.unshared {e : TypeId} {size : Nat} {v : Value} {n : Nat} {xs : List Value} {A : List Atom} (h : OwnRow e size v n xs A) : ∀ a ∈ A, ∀ b, ¬ a.sh b := by
  cases h with
  | none b => simp
  | «at» g cs n cap hl hn hm => simp [Pt]
theorem OwnRow.slice {e : TypeId} {size : Nat} {v : Value} {n : Nat} {xs : List Value} {A : List Atom} (h : OwnRow e size v n xs A) : ∃ a c, v = .slice a n c := by
  cases h with
  | none b => exact ⟨_, _, rfl⟩
  | «at» g cs n cap hl hn hm => exact ⟨_, _, rfl⟩
theorem OwnRow.reads {e : TypeId} {size : Nat} {v : Value} {n : Nat} {xs : List Value} {A : List Atom} (h : OwnRow e size v n xs A) {w : World} (ha : ∀ a ∈ A, a.holds w) : Reads w size v n xs := by
  refine ⟨h.length, ?_⟩
  cases h with
  | none b => exact ⟨_, _, rfl, fun _ => rfl, fun ad _ j u hu => by simp at hu⟩
  | «at» g cs n cap hl hn hm =>
    refine ⟨_, _, rfl, fun h => (by cases h), fun ad e j u hu => ?_⟩
    cases e
    have hg : w.heap[g]? = some (.cells cs.toArray _ (0, 0)) := ha _ (List.mem_singleton.2 rfl)
    rw [add_plain, cell_of hg, Nat.zero_add]
    rw [List.getElem?_take] at hu
    split at hu
    · exact hu
    · cases hu
/-- An atom that owns nothing may stand twice. -/
theorem SH.dup {w0 w : World} {L : List Atom} (h : SH w0 w L) (A : Atom) (hA : A ∈ L) (hex : ∀ b, ¬ A.ex b) : SH w0 w (A :: L) := by
  refine ⟨h.below, fun B hB => ?_, List.pairwise_cons.2 ⟨fun B hB b => ⟨fun hb => absurd hb (hex b), fun hb hc => ?_⟩, h.sep⟩, fun B hB b hb => ?_⟩
  · rcases List.mem_cons.1 hB with rfl | hB
    · exact h.holds _ hA
    · exact h.holds _ hB
  · by_cases e : A = B
    · subst e; exact hex b hc
    · obtain ⟨i, hi, rfl⟩ := List.getElem_of_mem hA
      obtain ⟨j, hj, rfl⟩ := List.getElem_of_mem hB
      have hp := List.pairwise_iff_getElem.1 h.sep
      rcases Nat.lt_trichotomy i j with hij | hij | hij
      · exact ((hp i j hi hj hij) b).2 hb hc
      · subst hij; exact e rfl
      · exact (((hp j i hj hi hij) b).1 hc).2 hb
  · rcases List.mem_cons.1 hB with rfl | hB
    · exact absurd hb (hex b)
    · exact h.new _ hB b hb
structure ElemOf (P : Program) (t e : TypeId) (z : Value) (size bytes : Nat) : Prop where
  und : P.underlying t = some (.slice e)
  info : (P.info? e).map (fun i => (i.zero, i.size, i.bytes)) = some (some z, size, bytes)
  cells : z.cells.size = size
  pos : 0 < size
theorem app {P : Program} {o : Oper} {f : Fr} {w0 w : World} {R A : List Atom} {K : Value → World → Prop} {t e : TypeId} {z : Value} {size bytes : Nat} (s x : Operand) (he : ElemOf P t e z size bytes)
    (ho : o.op = .call { callee := .builtin .append, args := #[s, x], argTypes := #[t, t] })
    {n m : Nat} {xs news : List Value} {v u : Value} (hv : ev f s = v) (hu : ev f x = u) (hL : SH w0 w (A ++ R)) (hown : OwnRow e size v n xs A) (hx : Reads w size u m news) (h1 : ∀ u ∈ news, u.oneCell' = true)
    (h63 : n + m ≤ maxLen) (hbytes : (n + m) * bytes ≤ 140737488355328)
    (k : ∀ v' w' A', OwnRow e size v' (n + m) (xs ++ news) A' → SH w0 w' (A' ++ R) → K v' w') : Runs P o f w K := by
  have hi := he.info
  cases hif : P.info? e with
  | none => rw [hif] at hi; cases hi
  | some i =>
    rw [hif] at hi
    simp only [Option.map_some, Option.some.injEq, Prod.mk.injEq] at hi
    obtain ⟨h1z, h2z, h3z⟩ := hi
    exact runs_append s x t e i z size bytes ho he.und hif h1z h2z h3z he.cells he.pos hv hu hL hown hx h1 h63 hbytes k
end Go.Den
namespace Go.Proofs.Ytjnjgmkkjglheaa
open Go Go.Den
theorem el23 : ElemOf Try.prog 23 5 (.int .u8 0) 1 1 := ⟨Try.underlying23, by kernel_rfl, rfl, by decide⟩
theorem el40 : ElemOf Try.prog 40 3 (.int .i64 0) 1 8 := ⟨Try.underlying40, by kernel_rfl, rfl, by decide⟩
theorem el67 : ElemOf Try.prog 67 23 (.slice none 0 0) 1 24 := ⟨Try.underlying67, by kernel_rfl, rfl, by decide⟩
theorem el80 : ElemOf Try.prog 80 87 (.agg #[.int .i64 0, .slice none 0 0]) 2 32 := ⟨Try.underlying80, by kernel_rfl, rfl, by decide⟩
theorem el48 : ElemOf Try.prog 48 84 (.agg #[.int .i64 0, .slice none 0 0]) 2 32 := ⟨Try.underlying48, by kernel_rfl, rfl, by decide⟩
attribute [local irreducible] wpC
theorem vals_one (bs : List Int) : ∀ u ∈ vals bs, u.oneCell' = true := fun u hu => by obtain ⟨z, _, rfl⟩ := List.mem_map.1 hu; rfl
theorem ints_one (bs : List Int) : ∀ u ∈ ints bs, u.oneCell' = true := fun u hu => by obtain ⟨z, _, rfl⟩ := List.mem_map.1 hu; rfl
/-- A new row, and nothing else. -/
def NewRow (e : TypeId) (size : Nat) (n : Nat) (xs : List Value) (w : World) : Value → World → Prop := fun v w' => ∃ A, OwnRow e size v n xs A ∧ SH w w' A
theorem own_spec {x : Value} {m : Nat} {news : List Value} {w : World} (hx : Reads w 1 x m news) (h1 : ∀ u ∈ news, u.oneCell' = true) (hm : m ≤ 1000000) : Does Try.prog 24 [x] w (NewRow 5 1 m news w) := by
  refine s24 rfl ?_
  refine row_in ?_
  refine row_in ?_
  refine ⟨rfl, _, rfl, ?_⟩
  refine (SH.nil w).newK fun b w1 hL => ?_
  refine app _ _ el23 rfl rfl rfl (A := []) hL.empty (.none _) (hx.grows hL.grown) h1 (by simp only [maxLen]; omega) (by omega) fun v w2 A hv hL => ?_
  refine ret_in ?_
  have hv : OwnRow 5 1 v m news A := by simpa using hv
  exact ⟨A, hv, by simpa using hL⟩
theorem clone23_spec {x : Value} {m : Nat} {news : List Value} {w : World} (hx : Reads w 1 x m news) (h1 : ∀ u ∈ news, u.oneCell' = true) (hm : m ≤ 1000000) : Does Try.prog 54 [x] w (NewRow 5 1 m news w) := by
  obtain ⟨hl, a, c, rfl, ha, hc⟩ := id hx
  refine s54 rfl ?_
  refine row_in ?_
  refine if_in ?_
  refine ⟨_, rfl, ?_⟩
  cases a with
  | none =>
    refine row_in ?_
    refine ret_in ?_
    have hm0 := ha rfl
    subst hm0
    have hn0 : news = [] := List.eq_nil_of_length_eq_zero (by simpa using hl)
    subst hn0
    exact ⟨[], .none none, SH.nil w⟩
  | some a =>
  refine skip_in ?_
  refine row_in ?_
  refine ⟨rfl, _, rfl, ?_⟩
  refine (SH.nil w).newK fun b w1 hL => ?_
  refine app _ _ el23 rfl rfl rfl (A := []) hL.empty (.none _) (hx.grows hL.grown) h1 (by simp only [maxLen]; omega) (by omega) fun v w2 A hv hL => ?_
  refine ret_in ?_
  have hv : OwnRow 5 1 v m news A := by simpa using hv
  exact ⟨A, hv, by simpa using hL⟩
end Go.Proofs.Ytjnjgmkkjglheaa
