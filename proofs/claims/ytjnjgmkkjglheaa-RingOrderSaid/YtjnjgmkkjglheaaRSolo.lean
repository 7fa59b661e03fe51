/- A ring on a pool, without the document's answer: what each step keeps. -/
import Derived.Test.YtjnjgmkkjglheaaRPure
namespace Go.Proofs.Ytjnjgmkkjglheaa
open Go Go.Den
attribute [local irreducible] wpC
structure Solo (w0 w : World) (R : List Atom) (rp p : Nat) (sb h : Home) (n : Nat) (o : Int) (G : Rg) (b : List Buf) : Prop where
  hL : SH w0 w (RingS rp sb p G (PoolS 82 87 p h b R))
  ok : G.ok
  good : Good b
  len : b.length = n
  own : G.own = o
theorem Rg.ok.put {G : Rg} (ok : G.ok) (b : List Buf) (m : Nat) : (putG G b m).ok := by
  unfold putG
  split
  · rename_i h
    refine ok.lay ?_ _
    unfold putE at h
    split at h
    · assumption
    · exact absurd h (by decide)
  · exact ok.lost
theorem Rg.ok.move {G : Rg} (ok : G.ok) (b : List Buf) (z o : Int) : (moveG G b z o).ok := by
  unfold moveG
  split
  · rename_i h
    refine ok.lay ?_ _
    unfold moveE at h
    split at h
    · assumption
    · exact absurd h (by decide)
  · exact ok.lost
theorem Rg.ok.takeo {G : Rg} (ok : G.ok) : (takeoG G).ok := by
  unfold takeoG
  split
  · exact ok
  · exact ok.took
theorem putG_own (G : Rg) (b : List Buf) (m : Nat) : (putG G b m).own = G.own := by unfold putG; split <;> rfl
theorem moveG_own (G : Rg) (b : List Buf) (z o : Int) : (moveG G b z o).own = G.own := by unfold moveG; split <;> rfl
theorem takeoG_own (G : Rg) : (takeoG G).own = G.own := by unfold takeoG; split <;> rfl
theorem Good.put {b : List Buf} (hg : Good b) (G : Rg) (s : Value) (bs : List Int) : Good (putB G b s bs) := by
  unfold putB; split
  · exact hg.take _ _ _
  · exact hg
theorem Good.move {b : List Buf} (hg : Good b) (G : Rg) (z o : Int) : Good (moveB G b z o) := by
  unfold moveB; split
  · exact hg.hand _ _ _
  · exact hg
theorem Good.takeo {b : List Buf} (hg : Good b) (G : Rg) : Good (takeoB G b) := by
  unfold takeoB; split
  · exact hg
  · exact hg.free _ _
theorem putB_length (G : Rg) (b : List Buf) (s : Value) (bs : List Int) : (putB G b s bs).length = b.length := by
  unfold putB; split
  · exact takeB_length _ _ _ _
  · rfl
theorem moveB_length (G : Rg) (b : List Buf) (z o : Int) : (moveB G b z o).length = b.length := by
  unfold moveB; split
  · exact handB_length _ _ _ _
  · rfl
theorem takeoB_length (G : Rg) (b : List Buf) : (takeoB G b).length = b.length := by
  unfold takeoB; split
  · rfl
  · exact freeB_length _ _ _
section
variable {w0 w : World} {R : List Atom} {rp p : Nat} {sb h : Home} {n : Nat} {o : Int} {G : Rg} {b : List Buf}
theorem Solo.grows {w' : World} (H : Solo w0 w R rp p sb h n o G b) (g : Grows w w') : Solo w0 w' R rp p sb h n o G b := ⟨H.hL.grows g, H.ok, H.good, H.len, H.own⟩
theorem Solo.pool (H : Solo w0 w R rp p sb h n o G b) : PoolR 82 87 w p h b := (ring_pool H.hL).poolR
theorem Solo.small (H : Solo w0 w R rp p sb h n o G b) : ∀ B ∈ b, B.bs.length ≤ 1000000 := fun B hB => Nat.le_trans (H.good.small B hB) (by decide)
theorem solo_put (H : Solo w0 w R rp p sb h n o G b) {a : Option Addr} {c : Nat} {bs : List Int} (hn : n ≤ 1000) (hx : Reads w 1 (.slice a bs.length c) bs.length (vals bs)) :
    Does Try.prog 34 [ptr rp, .slice a bs.length c] w fun v w' => v = .int .i64 (putE G b bs.length) ∧ ∃ s, Solo w0 w' R rp p sb h n o (putG G b bs.length) (putB G b s bs) := by
  refine (put_spec H.hL H.ok hx (by rw [H.len]; omega)).mono ?_
  rintro _ w' ⟨rfl, s, hL⟩
  exact ⟨rfl, s, hL, H.ok.put _ _, H.good.put _ _ _, by rw [putB_length]; exact H.len, by rw [putG_own]; exact H.own⟩
theorem solo_move (H : Solo w0 w R rp p sb h n o G b) (z t : Int) :
    Does Try.prog 38 [ptr rp, .int .i64 z, .int .i64 t] w fun v w' => v = .int .i64 (moveE G b z t) ∧ Solo w0 w' R rp p sb h n o (moveG G b z t) (moveB G b z t) := by
  refine (move_spec H.hL H.ok).mono ?_
  rintro _ w' ⟨rfl, hL⟩
  exact ⟨rfl, hL, H.ok.move _ _ _, H.good.move _ _ _, by rw [moveB_length]; exact H.len, by rw [moveG_own]; exact H.own⟩
theorem solo_take (H : Solo w0 w R rp p sb h n o G b) :
    Does Try.prog 33 [ptr rp] w fun v w' => ∃ x A, v = .tuple #[x, .bool (decide (0 < G.many))] ∧ OwnRow 5 1 x (takeoV G b).length (vals (takeoV G b)) A ∧ Solo w0 w' (A ++ R) rp p sb h n o (takeoG G) (takeoB G b) := by
  refine (ringtake_spec H.hL H.ok H.small).mono ?_
  rintro _ w' ⟨x, A, rfl, hx, hL⟩
  exact ⟨x, A, rfl, hx, hL, H.ok.takeo, H.good.takeo _, by rw [takeoB_length]; exact H.len, by rw [takeoG_own]; exact H.own⟩
theorem solo_sub {R' : List Atom} (H : Solo w0 w R' rp p sb h n o G b) (hs : R.Sublist R') : Solo w0 w R rp p sb h n o G b :=
  ⟨H.hL.sub (.cons_cons _ (.cons_cons _ (.cons_cons _ (.cons_cons _ (.cons_cons _ hs))))), H.ok, H.good, H.len, H.own⟩
theorem solo_ptake (H : Solo w0 w R rp p sb h n o G b) (t : Int) {a : Option Addr} {c : Nat} {bs : List Int} (hn : n ≤ 1000) (hx : Reads w 1 (.slice a bs.length c) bs.length (vals bs)) :
    Does Try.prog 23 [ptr p, .int .i64 t, .slice a bs.length c] w fun v w' => v = .tuple #[.int .i64 (takeN b t bs.length), .int .i64 (takeE b t bs.length)] ∧ ∃ s, Solo w0 w' R rp p sb h n o G (takeB b t s bs) := by
  refine (take_spec (ring_pool H.hL) t hx (by rw [H.len]; omega)).mono ?_
  rintro _ w' ⟨s, rfl, hL⟩
  exact ⟨rfl, s, pool_ring hL, H.ok, H.good.take _ _ _, by rw [takeB_length]; exact H.len, H.own⟩
end
end Go.Proofs.Ytjnjgmkkjglheaa
