/- A call on a pool, beside a document's answer that has no buffers: the pool does what it does. -/
import Derived.Test.YtjnjgmkkjglheaaGood
namespace Go.Den
open Go Go.RowKit
/-- A short frame in a long one's stead, inside a row. -/
theorem reframeL {P : Program} {K : Fr → World → Prop} {l : List MOper} {f : Fr} {w : World} (ts : List Nat) (vals : List Value) (hv : ts.map f = vals) (h : ∀ g, wpL P K l (setL g ts vals) w) : wpL P K l f w := by
  have := h f
  rwa [setL_self ts f vals hv] at this
/-- The same inside a drawn row; what is kept of it is said anew. -/
theorem reframeD {P : Program} {K : Fr → World → Prop} {l : List DOper} {S : World → Prop} {f : Fr} {w : World} (ts : List Nat) (vals : List Value) (hv : ts.map f = vals) (h : ∀ g, wpD P K l S (setL g ts vals) w) : wpD P K l S f w := by
  have := h f
  rwa [setL_self ts f vals hv] at this
end Go.Den
namespace Go.Proofs.Ytjnjgmkkjglheaa
open Go Go.Den
attribute [local irreducible] wpC
theorem errOf_nil (k o : Int) : errOf [] k o ≠ 0 := by
  unfold errOf
  split
  · rw [if_pos (by simp only [List.length_nil]; omega)]; decide
  · decide
def nilRef (r : Nat) : Atom := Cl r 50 [.slice none 0 0]
theorem nil_own {w0 w : World} {L : List Atom} {r : Nat} (hL : SH w0 w L) (hr : nilRef r ∈ L) : Own2 w r none [] := own2_empty (hL.holds _ hr)
theorem rhandnil_spec {w : World} {r : Nat} (hr : Own2 w r none []) (k a b : Int) : Does Try.prog 48 [ptr r, .int .i64 k, .int .i64 a, .int .i64 b] w fun v w' => w' = w ∧ ∃ e, v = .int .i64 e := by
  refine s48 rfl ?_
  refine row_in ?_
  refine if_in ?_
  by_cases h1 : b < 1
  · refine ⟨true, decide_eq_true h1, ?_⟩
    refine row_in ?_
    refine ret_in ?_
    exact ⟨rfl, _, rfl⟩
  refine ⟨false, decide_eq_false h1, ?_⟩
  by_cases h2 : 255 < b
  · refine ⟨true, decide_eq_true h2, ?_⟩
    refine row_in ?_
    refine ret_in ?_
    exact ⟨rfl, _, rfl⟩
  refine ⟨false, decide_eq_false h2, ?_⟩
  refine skip_in ?_
  refine row_in ?_
  refine (check_spec hr k a).mono ?_
  rintro _ _ ⟨rfl, rfl⟩
  refine seq_in (seq_in (ops_in ?_))
  refine ⟨false, decide_eq_false (errOf_nil k a), ?_⟩
  refine cond_in ?_
  refine skip_in ?_
  refine row_in ?_
  refine ret_in ?_
  exact ⟨rfl, _, rfl⟩
theorem rfreenil_spec {w : World} {r : Nat} (hr : Own2 w r none []) (k a : Int) : Does Try.prog 49 [ptr r, .int .i64 k, .int .i64 a] w fun v w' => w' = w ∧ ∃ e, v = .int .i64 e := by
  refine s49 rfl ?_
  refine row_in ?_
  refine row_in ?_
  refine (check_spec hr k a).mono ?_
  rintro _ _ ⟨rfl, rfl⟩
  refine seq_in (seq_in (ops_in ?_))
  refine ⟨false, decide_eq_false (errOf_nil k a), ?_⟩
  refine cond_in ?_
  refine skip_in ?_
  refine row_in ?_
  refine ret_in ?_
  exact ⟨rfl, _, rfl⟩
theorem rtakenil_spec {w : World} {r : Nat} (hr : Own2 w r none []) (o : Int) (a : Option Addr) (n c : Nat) : Does Try.prog 47 [ptr r, .int .i64 o, .slice a n c] w fun v w' => w' = w ∧ ∃ k e, v = .tuple #[.int .i64 k, .int .i64 e] := by
  obtain ⟨cc, hd⟩ := hr.hdr
  refine s47 rfl ?_
  refine row_in ?_
  refine if_in ?_
  by_cases h1 : o < 1
  · refine ⟨true, decide_eq_true h1, ?_⟩
    refine row_in ?_
    refine ret_in ?_
    exact ⟨rfl, _, _, rfl⟩
  refine ⟨false, decide_eq_false h1, ?_⟩
  by_cases h2 : 255 < o
  · refine ⟨true, decide_eq_true h2, ?_⟩
    refine row_in ?_
    refine ret_in ?_
    exact ⟨rfl, _, _, rfl⟩
  refine ⟨false, decide_eq_false h2, ?_⟩
  by_cases h3 : (1514 : Int) < n
  · refine ⟨true, decide_eq_true h3, ?_⟩
    refine row_in ?_
    refine ret_in ?_
    exact ⟨rfl, _, _, rfl⟩
  refine ⟨false, decide_eq_false h3, ?_⟩
  refine skip_in ?_
  refine seq_in (row_in ?_)
  refine block_in ?_
  refine loop_rule (8 :: 6 :: 7 :: List.range' 20 30) rfl [8] (fun (_ : Unit) => [.int .i64 0]) (fun _ w' => w' = w) (fun _ => 0) () rfl rfl ?_
  rintro g _ _ rfl
  refine if_in ?_
  refine ⟨_, hd, ?_⟩
  refine ⟨false, rfl, ?_⟩
  refine exit_in ?_
  refine row_in ?_
  refine ret_in ?_
  exact ⟨rfl, _, _, rfl⟩
set_option maxHeartbeats 4000000 in
theorem donil_spec {w0 w : World} {R : List Atom} {p r : Nat} {h : Home} {b : List Buf} (hL : SH w0 w (PoolS 82 87 p h b (nilRef r :: R))) (k : Call) (hx : Reads w0 1 k.x k.bs.length (vals k.bs)) (hlen : b.length ≤ 1000000) (hbs : k.bs.length ≤ 1600) :
    Does Try.prog 15 [ptr p, ptr r, k.v] w fun v w' => ∃ t s, v = .bool t ∧ SH w0 w' (PoolS 82 87 p h (doB b k s) (nilRef r :: R)) := by
  refine s15 rfl ?_
  refine row_in ?_
  refine hL.boxK [_, _, _, _, _] fun b5 w1 hL => ?_
  refine row_in ?_
  refine ⟨_, hL.ld rfl, ?_⟩
  refine (own_spec (hx.old hL) (vals_one _) (by omega)).mono ?_
  rintro v w2 ⟨A, hv, hA⟩
  have hL := hL.join hA hv.unshared
  obtain ⟨oa, oc, rfl⟩ := hv.slice
  have hL : SH w0 w2 (Cl b5 25 k.l :: PoolS 82 87 p h b (nilRef r :: (A ++ R))) := hL.perm (List.perm_middle.trans (List.Perm.cons _ ((List.perm_append_comm_assoc A (PoolS 82 87 p h b []) (nilRef r :: R)).trans (List.Perm.append_left (PoolS 82 87 p h b []) List.perm_middle))))
  refine row_in ?_
  refine cut_rule (8 :: 9 :: 10 :: 11 :: 12 :: List.range' 17 63) rfl [8] (fun (s : Bool × Value) => [.bool s.1]) (fun s w' => SH w0 w' (PoolS 82 87 p h (doB b k s.2) (nilRef r :: (A ++ R)))) ?_ ?_
  · refine row_in ?_
    refine ⟨_, hL.ld rfl, ?_⟩
    refine block_in ?_
    refine row_in ?_
    have hown : Reads w2 1 (.slice oa k.bs.length oc) k.bs.length (vals k.bs) := hv.reads fun a ha => hL.holds a (by simp [ha])
    have hL : SH w0 w2 (PoolS 82 87 p h b (nilRef r :: Cl b5 25 k.l :: (A ++ R))) := hL.perm ((List.perm_append_comm_assoc [Cl b5 25 k.l] (PoolS 82 87 p h b []) (nilRef r :: (A ++ R))).trans (List.Perm.append_left (PoolS 82 87 p h b []) (List.Perm.swap _ _ _)))
    have fin : ∀ (w' : World) (b' : List Buf) (s : Value), b' = doB b k s → SH w0 w' (PoolS 82 87 p h b' (nilRef r :: Cl b5 25 k.l :: (A ++ R))) → SH w0 w' (PoolS 82 87 p h (doB b k s) (nilRef r :: (A ++ R))) := fun w' b' s h1 hL => by
      subst h1
      exact hL.sub (.cons_cons _ (.cons_cons _ (.cons_cons _ (.cons_cons _ (.cons _ (.refl _))))))
    by_cases h0 : k.what = 0
    · refine ⟨true, decide_eq_true h0, ?_⟩
      refine cond_in ?_
      refine row_in ?_
      refine ⟨_, hL.ld rfl, ?_⟩
      refine (take_spec hL k.owner hown hlen).mono ?_
      rintro _ w3 ⟨s, rfl, hL⟩
      refine row_in ?_
      refine ⟨_, hL.ld rfl, ?_⟩
      refine ⟨_, hL.ld rfl, ?_⟩
      refine (rtakenil_spec (nil_own hL (by simp)) k.owner _ _ _).mono ?_
      rintro _ _ ⟨rfl, k0, e0, rfl⟩
      refine ops_in ?_
      refine ⟨decide (takeN b k.owner k.bs.length = k0), rfl, ?_⟩
      cases decide (takeN b k.owner k.bs.length = k0)
      · exact ⟨(false, s), rfl, fin _ _ s (by unfold doB; rw [if_pos h0]) hL⟩
      refine ⟨_, rfl, ?_⟩
      exact ⟨(_, s), rfl, fin _ _ s (by unfold doB; rw [if_pos h0]) hL⟩
    refine ⟨false, decide_eq_false h0, ?_⟩
    refine cond_in ?_
    refine row_in ?_
    by_cases h1 : k.what = 1
    · refine ⟨true, decide_eq_true h1, ?_⟩
      refine cond_in ?_
      refine drawn_in ?_
      have hL := hL.drew
      refine ⟨_, hL.ld rfl, ?_⟩
      refine ⟨_, hL.ld rfl, ?_⟩
      refine ⟨_, hL.ld rfl, ?_⟩
      refine ⟨_, hL.ld rfl, ?_⟩
      refine ⟨_, hL.ld rfl, ?_⟩
      refine ⟨_, hL.ld rfl, ?_⟩
      refine (hand_spec hL k.buffer k.owner k.to).mono ?_
      rintro _ w3 ⟨rfl, hL⟩
      refine ⟨⟨hL.ld rfl, hL.ld rfl, hL.ld rfl, hL.ld rfl, hL.ld rfl, hL.ld rfl, trivial⟩, ?_⟩
      refine (rhandnil_spec (nil_own hL (by simp)) k.buffer k.owner k.to).mono ?_
      rintro _ _ ⟨rfl, _, rfl⟩
      refine ⟨⟨hL.ld rfl, hL.ld rfl, hL.ld rfl, hL.ld rfl, hL.ld rfl, hL.ld rfl, trivial⟩, ?_⟩
      refine ⟨_, rfl, ?_⟩
      exact ⟨(_, undef), rfl, fin _ _ undef (by unfold doB; rw [if_neg h0, if_pos h1]) hL⟩
    refine ⟨false, decide_eq_false h1, ?_⟩
    refine cond_in ?_
    refine row_in ?_
    by_cases h2 : k.what = 2
    · refine ⟨true, decide_eq_true h2, ?_⟩
      refine cond_in ?_
      refine drawn_in ?_
      have hL := hL.drew
      refine ⟨_, hL.ld rfl, ?_⟩
      refine ⟨_, hL.ld rfl, ?_⟩
      refine ⟨_, hL.ld rfl, ?_⟩
      refine ⟨_, hL.ld rfl, ?_⟩
      refine (free_spec hL k.buffer k.owner).mono ?_
      rintro _ w3 ⟨rfl, hL⟩
      refine ⟨⟨hL.ld rfl, hL.ld rfl, hL.ld rfl, hL.ld rfl, trivial⟩, ?_⟩
      refine (rfreenil_spec (nil_own hL (by simp)) k.buffer k.owner).mono ?_
      rintro _ _ ⟨rfl, _, rfl⟩
      refine ⟨⟨hL.ld rfl, hL.ld rfl, hL.ld rfl, hL.ld rfl, trivial⟩, ?_⟩
      refine ⟨_, rfl, ?_⟩
      exact ⟨(_, undef), rfl, fin _ _ undef (by unfold doB; rw [if_neg h0, if_neg h1, if_pos h2]) hL⟩
    refine ⟨false, decide_eq_false h2, ?_⟩
    refine cond_in ?_
    refine skip_in ?_
    exact ⟨(true, undef), rfl, fin _ _ undef (by unfold doB; rw [if_neg h0, if_neg h1, if_neg h2]) hL⟩
  clear hL
  rintro g ⟨t, s⟩ w3 hL
  have hL : SH w0 w3 (PoolS 82 87 p h (doB b k s) (nilRef r :: (A ++ R))) := hL
  have pin : ∀ X : List Atom, (X ++ PoolS 82 87 p h (doB b k s) (nilRef r :: R)).Perm (PoolS 82 87 p h (doB b k s) (nilRef r :: (X ++ R))) := fun X => (List.perm_append_comm_assoc X (PoolS 82 87 p h (doB b k s) []) (nilRef r :: R)).trans (List.Perm.append_left (PoolS 82 87 p h (doB b k s) []) List.perm_middle)
  refine seq_in (row_in ?_)
  refine block_in ?_
  refine loop_rule (13 :: List.range' 80 12) rfl [13] (fun (t : Nat × List Value × List Atom) => [.int .i64 t.1])
    (fun t w' => t.1 ≤ k.bs.length ∧ OwnRow 5 1 (.slice oa k.bs.length oc) k.bs.length t.2.1 t.2.2 ∧ (∀ x ∈ t.2.1, ∃ z, x = Value.int .u8 z) ∧ SH w0 w' (PoolS 82 87 p h (doB b k s) (nilRef r :: (t.2.2 ++ R)))) (fun t => k.bs.length - t.1) (0, vals k.bs, A) rfl
    ⟨Nat.zero_le _, hv, fun x hx => by obtain ⟨z, _, rfl⟩ := List.mem_map.1 hx; exact ⟨z, rfl⟩, hL⟩ ?_
  clear hL hv hA
  rintro g2 ⟨i, xs, A'⟩ w4 ⟨hi, hv, hz, hL⟩
  have hi : i ≤ k.bs.length := hi
  have hv : OwnRow 5 1 (.slice oa k.bs.length oc) k.bs.length xs A' := hv
  have hz : ∀ x ∈ xs, ∃ z, x = Value.int .u8 z := hz
  have hL : SH w0 w4 (PoolS 82 87 p h (doB b k s) (nilRef r :: (A' ++ R))) := hL
  refine if_in ?_
  by_cases hil : i < k.bs.length
  rotate_left
  · refine ⟨false, decide_eq_false (by omega), ?_⟩
    refine exit_in ?_
    refine row_in ?_
    refine ret_in ?_
    exact ⟨t, s, rfl, hL.sub (.cons_cons _ (.cons_cons _ (.cons_cons _ (.cons_cons _ (List.sublist_append_right A' R)))))⟩
  refine ⟨true, decide_eq_true (by omega), ?_⟩
  refine skip_in ?_
  obtain ⟨gb, cs, cap, he, rfl, hxs, hcl, hcap, hmax⟩ := hv.blk (by omega)
  simp only [Value.slice.injEq, true_and] at he
  obtain ⟨rfl, rfl⟩ := he
  obtain ⟨x, hx1⟩ : ∃ x, cs[i]? = some x := ⟨cs[i]'(by omega), List.getElem?_eq_getElem _⟩
  obtain ⟨z, rfl⟩ := hz x (by rw [hxs]; exact List.mem_of_getElem? (i := i) (by rw [List.getElem?_take, if_pos (by omega)]; exact hx1))
  have hL : SH w0 w4 (PoolS 82 87 p h (doB b k s) (nilRef r :: Cl gb 5 cs :: R)) := hL
  refine block_then ?_
  refine ops_in ?_
  refine ⟨⟨by omega, by omega⟩, (⟨gb, 0 + i * 1, none⟩ : Addr), add_plain _ _ _, ?_⟩
  refine ⟨_, hL.ld (by rw [Nat.zero_add, Nat.mul_one]; exact hx1), ?_⟩
  refine ⟨_, rfl, ?_⟩
  refine ⟨⟨by omega, by omega⟩, (⟨gb, 0 + i * 1, none⟩ : Addr), add_plain _ _ _, ?_⟩
  refine hL.stK [_] (fun w5 hL => ?_) rfl (Nat.ble_eq_true_of_le (by simp; omega)) rfl
  refine ops_in ?_
  refine ⟨((i + 1 : Nat) : Int), (IntWalk.i64_in _ (by omega)).trans (by omega), ?_⟩
  have hL := hL.perm (pin [_])
  refine ⟨(i + 1, _, [Cl gb 5 (put1 cs (0 + i * 1) [.int .u8 (IntKind.wrap .u8 (z + 1))])]), rfl, ⟨hil, .at gb _ k.bs.length oc (by show (cs.set _ _).length = _; rw [List.length_set]; exact hcl) hcap hmax, fun x hx => ?_, hL⟩, by simp only []; omega⟩
  have hx : x ∈ (cs.set (0 + i * 1) (Value.int .u8 (IntKind.wrap .u8 (z + 1)))).take (k.bs.length * 1) := hx
  rw [List.take_set] at hx
  rcases List.mem_or_eq_of_mem_set hx with h | h
  · exact hz x (by rw [hxs]; exact h)
  · exact ⟨_, h⟩
end Go.Proofs.Ytjnjgmkkjglheaa
