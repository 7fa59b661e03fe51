/- Rings in memory, and what small functions answer of them. -/
import Derived.Test.YtjnjgmkkjglheaaLeast
namespace Go.Proofs.Ytjnjgmkkjglheaa
open Go Go.Den
attribute [local irreducible] wpC
/-- A ring: its owner, its slots, where it begins, how many it has, how many were dropped. -/
structure Rg where
  own : Int
  slots : List Int
  first : Nat
  many : Nat
  drop : Int
structure Rg.ok (G : Rg) : Prop where
  pos : 0 < G.slots.length
  size : G.slots.length ≤ 256
  first : G.first < G.slots.length
  many : G.many ≤ G.slots.length
def Rg.hdr (G : Rg) (p : Nat) (sb : Home) : List Value := [ptr p, .int .i64 G.own, .slice (some ⟨sb.b, 0, none⟩) G.slots.length sb.c, .int .i64 G.first, .int .i64 G.many, .int .i64 G.drop]
abbrev RingS (rp : Nat) (sb : Home) (p : Nat) (G : Rg) (R : List Atom) : List Atom := Cl rp 95 (G.hdr p sb) :: Cl sb.b 3 (ints G.slots ++ sb.sp) :: R
def Rg.at (G : Rg) (k : Nat) : Int := G.slots.getD ((G.first + k) % G.slots.length) 0
def Rg.rows (G : Rg) : List Int := (List.range G.many).map G.at
theorem rows_length (G : Rg) : G.rows.length = G.many := by simp [Rg.rows]
def bump (z : Int) : Int := IntKind.wrap .i64 (z + 1)
theorem len_spec {w0 w : World} {R : List Atom} {rp p : Nat} {sb : Home} {G : Rg} (hL : SH w0 w (RingS rp sb p G R)) : Does Try.prog 35 [ptr rp] w fun v w' => v = .int .i64 G.many ∧ w' = w := by
  refine s35 rfl ?_
  refine row_in ?_
  refine row_in ?_
  refine ⟨_, hL.ld rfl, ?_⟩
  refine ret_in ?_
  exact ⟨rfl, rfl⟩
theorem size_spec {w0 w : World} {R : List Atom} {rp p : Nat} {sb : Home} {G : Rg} (hL : SH w0 w (RingS rp sb p G R)) : Does Try.prog 36 [ptr rp] w fun v w' => v = .int .i64 G.slots.length ∧ w' = w := by
  refine s36 rfl ?_
  refine row_in ?_
  refine row_in ?_
  refine ⟨_, hL.ld rfl, ?_⟩
  refine ret_in ?_
  exact ⟨rfl, rfl⟩
theorem dropped_spec {w0 w : World} {R : List Atom} {rp p : Nat} {sb : Home} {G : Rg} (hL : SH w0 w (RingS rp sb p G R)) : Does Try.prog 45 [ptr rp] w fun v w' => v = .int .i64 G.drop ∧ w' = w := by
  refine s45 rfl ?_
  refine row_in ?_
  refine row_in ?_
  refine ⟨_, hL.ld rfl, ?_⟩
  refine ret_in ?_
  exact ⟨rfl, rfl⟩
theorem slot_spec {w0 w : World} {R : List Atom} {rp p : Nat} {sb : Home} {G : Rg} (hL : SH w0 w (RingS rp sb p G R)) (ok : G.ok) (k : Nat) (hk : k ≤ 256) :
    Does Try.prog 56 [ptr rp, .int .i64 k] w fun v w' => v = .pointer (some ⟨sb.b, (G.first + k) % G.slots.length, none⟩) ∧ Grows w w' := by
  have h1 := ok.pos
  have h2 := ok.size
  have h3 := ok.first
  have hm : (G.first + k) % G.slots.length < G.slots.length := Nat.mod_lt _ h1
  refine s56 rfl ?_
  refine row_in ?_
  refine draw_in ?_
  have hL := hL.drew
  refine ⟨_, hL.ld rfl, ?_⟩
  refine ⟨_, hL.ld rfl, ?_⟩
  refine ⟨((G.first + k : Nat) : Int), (IntWalk.i64_in _ (by omega)).trans (by omega), ?_⟩
  refine ⟨_, hL.ld rfl, ?_⟩
  refine ⟨(show (G.slots.length : Int) ≠ 0 by omega), (((G.first + k) % G.slots.length : Nat) : Int), ?_, ?_⟩
  · show ((G.first + k : Nat) : Int).tmod (G.slots.length : Int) = _
    rw [Int.natCast_emod]
    exact Int.tmod_eq_emod_of_nonneg (by omega)
  refine ⟨⟨by omega, by omega⟩, (⟨sb.b, 0 + (G.first + k) % G.slots.length * 1, none⟩ : Addr), add_plain _ _ _, ?_⟩
  refine ret_in ?_
  exact ⟨by rw [Nat.zero_add, Nat.mul_one]; rfl, Grows.drew w⟩
theorem rows_ints (n : Nat) : Go.Den.rows n [Value.int .i64 0] = ints (List.replicate n 0) := by
  induction n with
  | zero => rfl
  | succ n ih =>
    unfold ints at ih ⊢
    rw [List.replicate_succ, List.map_cons, ← ih]
    simp [Go.Den.rows, List.replicate_succ]
/-! ### The row of buffers, as the slots are gone round -/
def Rg.lay (G : Rg) (Z : Int) : Rg := { G with slots := G.slots.set ((G.first + G.many) % G.slots.length) Z, many := G.many + 1 }
def Rg.took (G : Rg) : Rg := { G with first := (G.first + 1) % G.slots.length, many := G.many - 1 }
def Rg.lost (G : Rg) : Rg := { G with drop := bump G.drop }
theorem Rg.ok.lay {G : Rg} (ok : G.ok) (h : G.many < G.slots.length) (Z : Int) : (G.lay Z).ok := by
  refine ⟨?_, ?_, ?_, ?_⟩
  · show 0 < (G.slots.set _ _).length; rw [List.length_set]; exact ok.pos
  · show (G.slots.set _ _).length ≤ 256; rw [List.length_set]; exact ok.size
  · show G.first < (G.slots.set _ _).length; rw [List.length_set]; exact ok.first
  · show G.many + 1 ≤ (G.slots.set _ _).length; rw [List.length_set]; exact h
theorem Rg.ok.took {G : Rg} (ok : G.ok) : G.took.ok := ⟨ok.pos, ok.size, Nat.mod_lt _ ok.pos, by have := ok.many; show G.many - 1 ≤ G.slots.length; omega⟩
theorem Rg.ok.lost {G : Rg} (ok : G.ok) : G.lost.ok := ⟨ok.pos, ok.size, ok.first, ok.many⟩
theorem rows_lay {G : Rg} (ok : G.ok) (h : G.many < G.slots.length) (Z : Int) : (G.lay Z).rows = G.rows ++ [Z] := by
  unfold Rg.rows
  have hlen : (G.slots.set ((G.first + G.many) % G.slots.length) Z).length = G.slots.length := List.length_set
  show (List.range (G.many + 1)).map _ = _
  rw [List.range_succ, List.map_append]
  congr 1
  · apply List.map_congr_left
    intro k hk
    have hk := List.mem_range.1 hk
    unfold Rg.at
    show (G.slots.set _ Z).getD ((G.first + k) % (G.slots.set _ Z).length) 0 = _
    rw [hlen, List.getD_eq_getElem?_getD, List.getElem?_set_ne, ← List.getD_eq_getElem?_getD]
    intro e
    have := Nat.sub_mod_eq_zero_of_mod_eq e
    rw [show G.first + G.many - (G.first + k) = G.many - k by omega, Nat.mod_eq_of_lt (by omega)] at this
    omega
  · show [(G.slots.set _ Z).getD ((G.first + G.many) % (G.slots.set _ Z).length) 0] = [Z]
    rw [hlen, List.getD_eq_getElem?_getD, List.getElem?_set]
    simp [Nat.mod_lt _ ok.pos]
theorem rows_took {G : Rg} (h : 0 < G.many) : G.rows = G.at 0 :: G.took.rows := by
  unfold Rg.rows
  obtain ⟨m, hm⟩ : ∃ m, G.many = m + 1 := ⟨G.many - 1, by omega⟩
  have hm2 : G.took.many = m := by show G.many - 1 = m; omega
  rw [hm2, hm, List.range_succ_eq_map, List.map_cons, List.map_map]
  congr 1
  apply List.map_congr_left
  intro k _
  show G.at (k + 1) = G.took.at k
  unfold Rg.at
  show _ = G.slots.getD (((G.first + 1) % G.slots.length + k) % G.slots.length) 0
  rw [Nat.mod_add_mod]
  congr 2
  omega
theorem rows_lost (G : Rg) : G.lost.rows = G.rows := rfl
theorem rows_new (o : Int) (n : Nat) : (Rg.mk o (List.replicate n 0) 0 0 0).rows = [] := rfl
theorem ringnew_spec (p : Nat) (size owner : Int) (w : World) : Does Try.prog 32 [ptr p, .int .i64 size, .int .i64 owner] w fun v w' =>
    ((size < 1 ∨ 256 < size ∨ owns owner = false) → v = .tuple #[.pointer none, .int .i64 11] ∧ w' = w) ∧
    (1 ≤ size → size ≤ 256 → owns owner = true → ∃ (rp : Nat) (sb : Home), v = .tuple #[ptr rp, .int .i64 0] ∧ SH w w' (RingS rp sb p ⟨owner, List.replicate size.toNat 0, 0, 0, 0⟩ [])) := by
  refine s32 rfl ?_
  refine row_in ?_
  refine if_in ?_
  by_cases h1 : size < 1
  · refine ⟨true, decide_eq_true h1, ?_⟩
    refine row_in ?_
    refine ret_in ?_
    exact ⟨fun _ => ⟨rfl, rfl⟩, fun h => by omega⟩
  refine ⟨false, decide_eq_false h1, ?_⟩
  by_cases h2 : 256 < size
  · refine ⟨true, decide_eq_true h2, ?_⟩
    refine row_in ?_
    refine ret_in ?_
    exact ⟨fun _ => ⟨rfl, rfl⟩, fun h => by omega⟩
  refine ⟨false, decide_eq_false h2, ?_⟩
  by_cases h3 : owner < 1
  · refine ⟨true, decide_eq_true h3, ?_⟩
    refine row_in ?_
    refine ret_in ?_
    exact ⟨fun _ => ⟨rfl, rfl⟩, fun _ _ h => by rw [owns_no1 h3] at h; cases h⟩
  refine ⟨false, decide_eq_false h3, ?_⟩
  by_cases h4 : 255 < owner
  · refine ⟨true, decide_eq_true h4, ?_⟩
    refine row_in ?_
    refine ret_in ?_
    exact ⟨fun _ => ⟨rfl, rfl⟩, fun _ _ h => by rw [owns_no2 h4] at h; cases h⟩
  refine ⟨false, decide_eq_false h4, ?_⟩
  refine skip_in ?_
  obtain ⟨n, rfl⟩ : ∃ n : Nat, size = n := ⟨size.toNat, by omega⟩
  refine row_in ?_
  refine ⟨n, n, ⟨rfl, rfl, Nat.le_refl _, by omega, by omega⟩, ?_⟩
  refine (SH.nil w).newK fun sb w1 hL => ?_
  refine ⟨rfl, _, rfl, ?_⟩
  refine hL.boxK [_, _, _, _, _, _] fun rp w2 hL => ?_
  refine ret_in ?_
  refine ⟨fun h => ?_, fun _ _ _ => ⟨rp, ⟨sb, n, []⟩, rfl, ?_⟩⟩
  · rw [owns_yes h3 h4] at h
    rcases h with h | h | h
    · omega
    · omega
    · cases h
  · have hr := rows_ints n
    have hL : SH w w2 [Cl rp 95 [ptr p, .int .i64 owner, .slice (some ⟨sb, 0, none⟩) n n, .int .i64 0, .int .i64 0, .int .i64 0], Cl sb 3 (rows n [.int .i64 0])] := hL
    rw [hr] at hL
    rw [Int.toNat_natCast]
    simpa [RingS, Rg.hdr] using hL
end Go.Proofs.Ytjnjgmkkjglheaa
