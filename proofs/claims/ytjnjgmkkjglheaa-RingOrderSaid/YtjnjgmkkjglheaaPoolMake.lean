/- Pools are made and copied; and changed, one buffer at a time. -/
import Derived.Test.YtjnjgmkkjglheaaPoolLoops
namespace Go.Den
open Go Go.RowKit
/-- The atoms of a pool, ahead of others. -/
abbrev PoolS (T bT : TypeId) (bp : Nat) (bb : Home) (bufs : List Buf) (R : List Atom) : List Atom := Cl bp T [.slice (some ⟨bb.b, 0, none⟩) bufs.length bb.c] :: Cl bb.b bT (flat bufs ++ bb.sp) :: Shr 1 (shr bufs) :: R
def noBuf : Buf := ⟨0, .slice none 0 0, []⟩
theorem reads_nil (w : World) (size : Nat) (a : Option Addr) (c : Nat) : Reads w size (.slice a 0 c) 0 [] := ⟨by simp, a, c, rfl, fun _ => rfl, fun ad _ j u hu => by simp at hu⟩
theorem SH.shrNil {w0 w : World} {L : List Atom} (h : SH w0 w L) (size : Nat) (l : List (Value × List Value)) (hl : ∀ p ∈ l, p.2 = [] ∧ ∃ n, Reads w size p.1 n p.2) : SH w0 w (Shr size l :: L) := by
  have hs : ∀ b, ¬ (Shr size l).sh b := fun b ⟨p, hp, h0, _⟩ => h0 (hl p hp).1
  refine ⟨h.below, fun A hA => ?_, List.pairwise_cons.2 ⟨fun B _ b => ⟨fun hb => hb.elim, fun hb => absurd hb (hs b)⟩, h.sep⟩, fun A hA b hb => ?_⟩
  · rcases List.mem_cons.1 hA with rfl | hA
    · exact fun p hp => (hl p hp).2
    · exact h.holds _ hA
  · rcases List.mem_cons.1 hA with rfl | hA
    · exact hb.elim
    · exact h.new _ hA b hb
theorem rows_flat (n : Nat) : rows n [.int .i64 0, .slice none 0 0] = flat (List.replicate n noBuf) := by
  induction n with
  | zero => rfl
  | succ n ih =>
    have e : flat (List.replicate (n + 1) noBuf) = .int .i64 0 :: .slice none 0 0 :: flat (List.replicate n noBuf) := by rw [List.replicate_succ]; rfl
    rw [e, ← ih]
    simp [rows, List.replicate_succ]
theorem shr_new {w0 w : World} {L : List Atom} (h : SH w0 w L) (n : Nat) : SH w0 w (Shr 1 (shr (List.replicate n noBuf)) :: L) := by
  refine h.shrNil 1 _ fun p hp => ?_
  obtain ⟨B, hB, rfl⟩ := List.mem_map.1 hp
  obtain rfl := List.eq_of_mem_replicate hB
  exact ⟨rfl, 0, reads_nil w 1 none 0⟩
end Go.Den
namespace Go.Proofs.Ytjnjgmkkjglheaa
open Go Go.Den
attribute [local irreducible] wpC
theorem new_spec (many : Int) (w : World) : Does Try.prog 13 [.int .i64 many] w fun v w' =>
    (many < 1 ∨ 1024 < many → v = .tuple #[.pointer none, .int .i64 11] ∧ w' = w) ∧
    (1 ≤ many ∧ many ≤ 1024 → ∃ (bp : Nat) (bb : Home), bb.c = many.toNat ∧ v = .tuple #[ptr bp, .int .i64 0] ∧ SH w w' (PoolS 82 87 bp bb (List.replicate many.toNat noBuf) [])) := by
  refine s13 rfl ?_
  refine row_in ?_
  refine if_in ?_
  by_cases h1 : many < 1
  · refine ⟨true, decide_eq_true h1, ?_⟩
    refine row_in ?_
    refine ret_in ?_
    exact ⟨fun _ => ⟨rfl, rfl⟩, fun h => by omega⟩
  refine ⟨false, decide_eq_false h1, ?_⟩
  by_cases h2 : 1024 < many
  · refine ⟨true, decide_eq_true h2, ?_⟩
    refine row_in ?_
    refine ret_in ?_
    exact ⟨fun _ => ⟨rfl, rfl⟩, fun h => by omega⟩
  refine ⟨false, decide_eq_false h2, ?_⟩
  refine skip_in ?_
  obtain ⟨n, rfl⟩ : ∃ n : Nat, many = n := ⟨many.toNat, by omega⟩
  refine row_in ?_
  refine ⟨n, n, ⟨rfl, rfl, Nat.le_refl _, by omega, by omega⟩, ?_⟩
  refine (SH.nil w).newK fun bb w1 hL => ?_
  refine ⟨rfl, _, rfl, ?_⟩
  refine hL.boxK [_] fun bp w2 hL => ?_
  refine ret_in ?_
  refine ⟨fun h => by omega, fun _ => ⟨bp, ⟨bb, n, []⟩, rfl, rfl, ?_⟩⟩
  have hL : SH w w2 [Cl bp 82 [.slice (some ⟨bb, 0, none⟩) n n], Cl bb 87 (rows n [.int .i64 0, .slice none 0 0])] := hL
  rw [rows_flat, ← List.append_nil (flat (List.replicate n noBuf))] at hL
  have hS := shr_new hL n
  rw [Int.toNat_natCast]
  have hS := hS.perm (List.Perm.trans (List.Perm.swap _ _ _) (List.Perm.cons _ (List.Perm.swap _ _ _)))
  simpa [PoolS] using hS
theorem rnew_spec (many : Int) (w : World) : Does Try.prog 14 [.int .i64 many] w fun v w' =>
    (many < 1 ∨ 1024 < many → v = .tuple #[.pointer none, .int .i64 11] ∧ w' = w) ∧
    (1 ≤ many ∧ many ≤ 1024 → ∃ (bp : Nat) (bb : Home), bb.c = many.toNat ∧ v = .tuple #[ptr bp, .int .i64 0] ∧ SH w w' (PoolS 50 84 bp bb (List.replicate many.toNat noBuf) [])) := by
  refine s14 rfl ?_
  refine row_in ?_
  refine if_in ?_
  by_cases h1 : many < 1
  · refine ⟨true, decide_eq_true h1, ?_⟩
    refine row_in ?_
    refine ret_in ?_
    exact ⟨fun _ => ⟨rfl, rfl⟩, fun h => by omega⟩
  refine ⟨false, decide_eq_false h1, ?_⟩
  by_cases h2 : 1024 < many
  · refine ⟨true, decide_eq_true h2, ?_⟩
    refine row_in ?_
    refine ret_in ?_
    exact ⟨fun _ => ⟨rfl, rfl⟩, fun h => by omega⟩
  refine ⟨false, decide_eq_false h2, ?_⟩
  refine skip_in ?_
  obtain ⟨n, rfl⟩ : ∃ n : Nat, many = n := ⟨many.toNat, by omega⟩
  refine row_in ?_
  refine ⟨n, n, ⟨rfl, rfl, Nat.le_refl _, by omega, by omega⟩, ?_⟩
  refine (SH.nil w).newK fun bb w1 hL => ?_
  refine ⟨rfl, _, rfl, ?_⟩
  refine hL.boxK [_] fun bp w2 hL => ?_
  refine ret_in ?_
  refine ⟨fun h => by omega, fun _ => ⟨bp, ⟨bb, n, []⟩, rfl, rfl, ?_⟩⟩
  have hL : SH w w2 [Cl bp 50 [.slice (some ⟨bb, 0, none⟩) n n], Cl bb 84 (rows n [.int .i64 0, .slice none 0 0])] := hL
  rw [rows_flat, ← List.append_nil (flat (List.replicate n noBuf))] at hL
  have hS := shr_new hL n
  rw [Int.toNat_natCast]
  have hS := hS.perm (List.Perm.trans (List.Perm.swap _ _ _) (List.Perm.cons _ (List.Perm.swap _ _ _)))
  simpa [PoolS] using hS
end Go.Proofs.Ytjnjgmkkjglheaa
