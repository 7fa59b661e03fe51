/- The document's answer for rings: New, Put, Move, Take; and copies of both. -/
import Derived.Test.YtjnjgmkkjglheaaRingAll
namespace Go.Proofs.Ytjnjgmkkjglheaa
open Go Go.Den
attribute [local irreducible] wpC
structure Rr where
  size : Int
  own : Int
  rows : List Int
  drop : Int
def Rr.hdr (S : Rr) (q : Nat) (v : Value) : List Value := [ptr q, .int .i64 S.size, .int .i64 S.own, v, .int .i64 S.drop]
/-- The document's ring, over its pool; its row of buffers' numbers is its own. -/
structure RefIn (w0 w : World) (sp q : Nat) (h : Home) (S : Rr) (c : List Buf) (v : Value) (A R : List Atom) : Prop where
  own : OwnRow 3 1 v S.rows.length (ints S.rows) A
  hL : SH w0 w (Cl sp 101 (S.hdr q v) :: PoolS 50 84 q h c (A ++ R))
theorem RefIn.grows {w0 w w' : World} {sp q : Nat} {h : Home} {S : Rr} {c : List Buf} {v : Value} {A R : List Atom} (H : RefIn w0 w sp q h S c v A R) (g : Grows w w') : RefIn w0 w' sp q h S c v A R := ⟨H.own, H.hL.grows g⟩
theorem RefIn.reads {w0 w : World} {sp q : Nat} {h : Home} {S : Rr} {c : List Buf} {v : Value} {A R : List Atom} (H : RefIn w0 w sp q h S c v A R) : Reads w 1 v S.rows.length (ints S.rows) := H.own.reads fun a ha => H.hL.holds a (by simp [ha])
theorem RefIn.pool {w0 w : World} {sp q : Nat} {h : Home} {S : Rr} {c : List Buf} {v : Value} {A R : List Atom} (H : RefIn w0 w sp q h S c v A R) : SH w0 w (PoolS 50 84 q h c (Cl sp 101 (S.hdr q v) :: (A ++ R))) := pool_in (X := [_]) H.hL
theorem RefIn.back {w0 w : World} {sp q : Nat} {h : Home} {S : Rr} {c : List Buf} {v : Value} {A R : List Atom} (hv : OwnRow 3 1 v S.rows.length (ints S.rows) A) (H : SH w0 w (PoolS 50 84 q h c (Cl sp 101 (S.hdr q v) :: (A ++ R)))) : RefIn w0 w sp q h S c v A R :=
  ⟨hv, H.perm (List.perm_append_comm_assoc (PoolS 50 84 q h c []) [Cl sp 101 (S.hdr q v)] (A ++ R))⟩
theorem refnew_spec (q : Nat) (size owner : Int) (w : World) : Does Try.prog 40 [ptr q, .int .i64 size, .int .i64 owner] w fun v w' =>
    ((size < 1 ∨ 256 < size ∨ owns owner = false) → v = .tuple #[.pointer none, .int .i64 11] ∧ w' = w) ∧
    (1 ≤ size → size ≤ 256 → owns owner = true → ∃ sp : Nat, v = .tuple #[ptr sp, .int .i64 0] ∧ SH w w' [Cl sp 101 ((Rr.mk size owner [] 0).hdr q (.slice none 0 0))]) := by
  refine s40 rfl ?_
  refine row_in ?_
  refine if_in ?_
  by_cases h1 : size < 1
  · refine ⟨true, decide_eq_true h1, ?_⟩
    refine row_in ?_
    refine ret_in ?_
    exact ⟨fun _ => ⟨rfl, rfl⟩, fun h => by omega⟩
  refine ⟨false, decide_eq_false h1, ?_⟩
  by_cases h2 : 256 < size
  · refine ⟨true, decide_eq_true h2, ?_⟩
    refine row_in ?_
    refine ret_in ?_
    exact ⟨fun _ => ⟨rfl, rfl⟩, fun h => by omega⟩
  refine ⟨false, decide_eq_false h2, ?_⟩
  by_cases h3 : owner < 1
  · refine ⟨true, decide_eq_true h3, ?_⟩
    refine row_in ?_
    refine ret_in ?_
    exact ⟨fun _ => ⟨rfl, rfl⟩, fun _ _ h => by rw [owns_no1 h3] at h; cases h⟩
  refine ⟨false, decide_eq_false h3, ?_⟩
  by_cases h4 : 255 < owner
  · refine ⟨true, decide_eq_true h4, ?_⟩
    refine row_in ?_
    refine ret_in ?_
    exact ⟨fun _ => ⟨rfl, rfl⟩, fun _ _ h => by rw [owns_no2 h4] at h; cases h⟩
  refine ⟨false, decide_eq_false h4, ?_⟩
  refine skip_in ?_
  refine row_in ?_
  refine ⟨rfl, _, rfl, ?_⟩
  refine (SH.nil w).boxK [_, _, _, _, _] fun sp w2 hL => ?_
  refine ret_in ?_
  refine ⟨fun h => ?_, fun _ _ _ => ⟨sp, rfl, hL⟩⟩
  rw [owns_yes h3 h4] at h
  rcases h with h | h | h
  · omega
  · omega
  · cases h
def Rr.more (S : Rr) (z : Int) : Rr := { S with rows := S.rows ++ [z] }
def Rr.lost (S : Rr) : Rr := { S with drop := bump S.drop }
def rputE (S : Rr) (c : List Buf) (m : Nat) : Int := if (S.rows.length : Int) < S.size then takeE c S.own m else 18
def rputS (S : Rr) (c : List Buf) (m : Nat) : Rr := if rputE S c m = 0 then S.more (takeN c S.own m) else S.lost
def rputB (S : Rr) (c : List Buf) (s : Value) (bs : List Int) : List Buf := if (S.rows.length : Int) < S.size then takeB c S.own s bs else c
def rmoveE (S : Rr) (c : List Buf) (z o : Int) : Int := if (S.rows.length : Int) < S.size then handE c z o S.own else 18
def rmoveS (S : Rr) (c : List Buf) (z o : Int) : Rr := if rmoveE S c z o = 0 then S.more z else S.lost
def rmoveB (S : Rr) (c : List Buf) (z o : Int) : List Buf := if (S.rows.length : Int) < S.size then handB c z o S.own else c
/-- A number more, behind the row of numbers. -/
theorem RefIn.more {w0 w1 w2 : World} {sp q bz : Nat} {h : Home} {S : Rr} {c : List Buf} {v v' : Value} {A' R : List Atom} {z : Int} (hv' : OwnRow 3 1 v' (S.rows.length + 1) (ints S.rows ++ [.int .i64 z]) A') (hL : SH w0 w1 (A' ++ (Cl bz 3 [.int .i64 z] :: Cl sp 101 (S.hdr q v) :: PoolS 50 84 q h c R)))
    (hst : SH w0 w1 (Cl sp 101 (S.hdr q v) :: PoolS 50 84 q h c (A' ++ R)) → SH w0 w2 (Cl sp 101 ((S.more z).hdr q v') :: PoolS 50 84 q h c (A' ++ R))) : RefIn w0 w2 sp q h (S.more z) c v' A' R := by
  refine ⟨?_, hst ?_⟩
  · show OwnRow 3 1 v' (S.rows ++ [z]).length (ints (S.rows ++ [z])) A'
    rw [List.length_append]
    unfold ints
    rw [List.map_append]
    exact hv'
  · have h1 := hL.sub ((List.sublist_cons_self _ _).append_left A')
    exact h1.perm (List.perm_append_comm_assoc A' (Cl sp 101 (S.hdr q v) :: PoolS 50 84 q h c []) R)
set_option maxHeartbeats 8000000 in
theorem rput_spec {w0 w : World} {R : List Atom} {sp q : Nat} {h : Home} {S : Rr} {c : List Buf} {v : Value} {A : List Atom} (H : RefIn w0 w sp q h S c v A R) {a : Option Addr} {cc : Nat} {bs : List Int} (hx : Reads w0 1 (.slice a bs.length cc) bs.length (vals bs)) (hlen : c.length ≤ 1000000) (hsz : S.size ≤ 256) :
    Does Try.prog 60 [ptr sp, .slice a bs.length cc] w fun u w' => u = .int .i64 (rputE S c bs.length) ∧ ∃ s v' A', RefIn w0 w' sp q h (rputS S c bs.length) (rputB S c s bs) v' A' R := by
  obtain ⟨va, vc, rfl⟩ := H.own.slice
  refine s60 rfl ?_
  refine row_in ?_
  refine row_in ?_
  refine row_in ?_
  have H := H.grows (Grows.drew w)
  have hL := H.hL
  refine seq_in (seq_in (drawn_in ?_))
  refine ⟨_, hL.ld rfl, ?_⟩
  refine ⟨_, hL.ld rfl, ?_⟩
  by_cases hroom : (S.rows.length : Int) < S.size
  rotate_left
  · have hE : rputE S c bs.length = 18 := if_neg hroom
    have hS : rputS S c bs.length = S.lost := by unfold rputS; rw [hE, if_neg (by decide)]
    have hB : rputB S c undef bs = c := if_neg hroom
    refine ⟨false, decide_eq_false hroom, ?_⟩
    refine cond_in ?_
    refine skip_in ?_
    refine if_in ?_
    refine ⟨true, rfl, ?_⟩
    refine row_in ?_
    refine ⟨_, hL.ld rfl, ?_⟩
    refine ⟨_, rfl, ?_⟩
    refine hL.stK [_] (fun w2 hL => ?_)
    refine row_in ?_
    refine ret_in ?_
    exact ⟨(rfl : _ = Value.int .i64 18).trans (by rw [hE]), undef, _, A, by rw [hS, hB]; exact ⟨H.own, hL⟩⟩
  have hE : rputE S c bs.length = takeE c S.own bs.length := if_pos hroom
  refine ⟨true, decide_eq_true hroom, ?_⟩
  refine cond_in ?_
  refine drawn_in ?_
  have H := H.grows (Grows.drew _)
  have hL := H.hL
  refine ⟨_, hL.ld rfl, ?_⟩
  refine ⟨_, hL.ld rfl, ?_⟩
  refine (rtake_spec H.pool S.own (hx.old hL) hlen).mono ?_
  rintro _ w2 ⟨s, rfl, hL⟩
  have H := RefIn.back H.own hL
  have hL := H.hL
  have hB : rputB S c s bs = takeB c S.own s bs := if_pos hroom
  refine ⟨⟨hL.ld rfl, hL.ld rfl, trivial⟩, ?_⟩
  refine reframe [0, 5, 6] [ptr sp, .int .i64 (takeE c S.own bs.length), .int .i64 (takeN c S.own bs.length)] rfl fun g => ?_
  refine if_in ?_
  by_cases he : takeE c S.own bs.length = 0
  rotate_left
  · have hS : rputS S c bs.length = S.lost := by unfold rputS; rw [hE, if_neg he]
    refine ⟨true, decide_eq_true he, ?_⟩
    refine row_in ?_
    refine ⟨_, hL.ld rfl, ?_⟩
    refine ⟨_, rfl, ?_⟩
    refine hL.stK [_] (fun w3 hL => ?_)
    refine row_in ?_
    refine ret_in ?_
    exact ⟨(rfl : _ = Value.int .i64 (takeE c S.own bs.length)).trans (by rw [hE]), s, _, A, by rw [hS, hB]; exact ⟨H.own, hL⟩⟩
  have hS : rputS S c bs.length = S.more (takeN c S.own bs.length) := by unfold rputS; rw [hE, if_pos he]
  refine ⟨false, decide_eq_false (fun h => h he), ?_⟩
  refine skip_in ?_
  refine row_in ?_
  refine ⟨_, hL.ld rfl, ?_⟩
  refine ⟨rfl, _, rfl, ?_⟩
  refine hL.newK fun bz w3 hL => ?_
  have hL : SH w0 w3 (Cl bz 3 [.int .i64 (takeN c S.own bs.length)] :: Cl sp 101 (S.hdr q (.slice va S.rows.length vc)) :: PoolS 50 84 q h (takeB c S.own s bs) (A ++ R)) := hL
  refine app _ _ el40 rfl rfl rfl (A := A) (R := Cl bz 3 [.int .i64 (takeN c S.own bs.length)] :: Cl sp 101 (S.hdr q (.slice va S.rows.length vc)) :: PoolS 50 84 q h (takeB c S.own s bs) R) (m := 1) (news := [.int .i64 (takeN c S.own bs.length)])
    (hL.perm (List.perm_append_comm_assoc (Cl bz 3 [.int .i64 (takeN c S.own bs.length)] :: Cl sp 101 (S.hdr q (.slice va S.rows.length vc)) :: PoolS 50 84 q h (takeB c S.own s bs) []) A R)) H.own ⟨rfl, _, _, rfl, fun h => (by cases h), ?_⟩ ?_ (by simp only [maxLen]; omega) (by omega) fun v' w4 A' hv' hL' => ?_
  · intro ad e j u hu
    cases e
    rw [add_plain]
    match j, hu with
    | 0, hu => exact hL.ld hu
  · intro u hu
    simp only [List.mem_singleton] at hu
    subst hu
    rfl
  obtain ⟨va', vc', rfl⟩ := hv'.slice
  have hL4 : SH w0 w4 (Cl sp 101 (S.hdr q (.slice va S.rows.length vc)) :: PoolS 50 84 q h (takeB c S.own s bs) (A' ++ R)) := (hL'.sub ((List.sublist_cons_self _ _).append_left A')).perm (List.perm_append_comm_assoc A' (Cl sp 101 (S.hdr q (.slice va S.rows.length vc)) :: PoolS 50 84 q h (takeB c S.own s bs) []) R)
  refine hL4.stK [_] (fun w5 hL5 => ?_)
  have H2 : RefIn w0 w5 sp q h (S.more (takeN c S.own bs.length)) (takeB c S.own s bs) (.slice va' (S.rows.length + 1) vc') A' R := RefIn.more hv' hL' fun _ => hL5
  refine row_in ?_
  refine ret_in ?_
  exact ⟨(rfl : _ = Value.int .i64 (takeE c S.own bs.length)).trans (by rw [hE]), s, _, A', by rw [hS, hB]; exact H2⟩
set_option maxHeartbeats 8000000 in
theorem rmove_spec {w0 w : World} {R : List Atom} {sp q : Nat} {h : Home} {S : Rr} {c : List Buf} {v : Value} {A : List Atom} (H : RefIn w0 w sp q h S c v A R) (z o : Int) (hsz : S.size ≤ 256) :
    Does Try.prog 61 [ptr sp, .int .i64 z, .int .i64 o] w fun u w' => u = .int .i64 (rmoveE S c z o) ∧ ∃ v' A', RefIn w0 w' sp q h (rmoveS S c z o) (rmoveB S c z o) v' A' R := by
  obtain ⟨va, vc, rfl⟩ := H.own.slice
  refine s61 rfl ?_
  refine row_in ?_
  refine row_in ?_
  have H := H.grows (Grows.drew w)
  have hL := H.hL
  refine seq_in (seq_in (drawn_in ?_))
  refine ⟨_, hL.ld rfl, ?_⟩
  refine ⟨_, hL.ld rfl, ?_⟩
  by_cases hroom : (S.rows.length : Int) < S.size
  rotate_left
  · have hE : rmoveE S c z o = 18 := if_neg hroom
    have hS : rmoveS S c z o = S.lost := by unfold rmoveS; rw [hE, if_neg (by decide)]
    have hB : rmoveB S c z o = c := if_neg hroom
    refine ⟨false, decide_eq_false hroom, ?_⟩
    refine cond_in ?_
    refine skip_in ?_
    refine if_in ?_
    refine ⟨true, rfl, ?_⟩
    refine row_in ?_
    refine ⟨_, hL.ld rfl, ?_⟩
    refine ⟨_, rfl, ?_⟩
    refine hL.stK [_] (fun w2 hL => ?_)
    refine row_in ?_
    refine ret_in ?_
    exact ⟨(rfl : _ = Value.int .i64 18).trans (by rw [hE]), _, A, by rw [hS, hB]; exact ⟨H.own, hL⟩⟩
  have hE : rmoveE S c z o = handE c z o S.own := if_pos hroom
  have hB : rmoveB S c z o = handB c z o S.own := if_pos hroom
  refine ⟨true, decide_eq_true hroom, ?_⟩
  refine cond_in ?_
  refine drawn_in ?_
  have H := H.grows (Grows.drew _)
  have hL := H.hL
  refine ⟨_, hL.ld rfl, ?_⟩
  refine ⟨_, hL.ld rfl, ?_⟩
  refine (rhand_spec H.pool z o S.own).mono ?_
  rintro _ w2 ⟨rfl, hL⟩
  have H := RefIn.back H.own hL
  have hL := H.hL
  refine ⟨⟨hL.ld rfl, hL.ld rfl, trivial⟩, ?_⟩
  refine reframe [0, 1, 7] [ptr sp, .int .i64 z, .int .i64 (handE c z o S.own)] rfl fun g => ?_
  refine if_in ?_
  by_cases he : handE c z o S.own = 0
  rotate_left
  · have hS : rmoveS S c z o = S.lost := by unfold rmoveS; rw [hE, if_neg he]
    refine ⟨true, decide_eq_true he, ?_⟩
    refine row_in ?_
    refine ⟨_, hL.ld rfl, ?_⟩
    refine ⟨_, rfl, ?_⟩
    refine hL.stK [_] (fun w3 hL => ?_)
    refine row_in ?_
    refine ret_in ?_
    exact ⟨(rfl : _ = Value.int .i64 (handE c z o S.own)).trans (by rw [hE]), _, A, by rw [hS, hB]; exact ⟨H.own, hL⟩⟩
  have hS : rmoveS S c z o = S.more z := by unfold rmoveS; rw [hE, if_pos he]
  refine ⟨false, decide_eq_false (fun h => h he), ?_⟩
  refine skip_in ?_
  refine row_in ?_
  refine ⟨_, hL.ld rfl, ?_⟩
  refine ⟨rfl, _, rfl, ?_⟩
  refine hL.newK fun bz w3 hL => ?_
  generalize handB c z o S.own = c' at *
  have hL : SH w0 w3 (Cl bz 3 [.int .i64 z] :: Cl sp 101 (S.hdr q (.slice va S.rows.length vc)) :: PoolS 50 84 q h c' (A ++ R)) := hL
  refine app _ _ el40 rfl rfl rfl (A := A) (R := Cl bz 3 [.int .i64 z] :: Cl sp 101 (S.hdr q (.slice va S.rows.length vc)) :: PoolS 50 84 q h c' R) (m := 1) (news := [.int .i64 z])
    (hL.perm (List.perm_append_comm_assoc (Cl bz 3 [.int .i64 z] :: Cl sp 101 (S.hdr q (.slice va S.rows.length vc)) :: PoolS 50 84 q h c' []) A R)) H.own ⟨rfl, _, _, rfl, fun h => (by cases h), ?_⟩ ?_ (by simp only [maxLen]; omega) (by omega) fun v' w4 A' hv' hL' => ?_
  · intro ad e j u hu
    cases e
    rw [add_plain]
    match j, hu with
    | 0, hu => exact hL.ld hu
  · intro u hu
    simp only [List.mem_singleton] at hu
    subst hu
    rfl
  obtain ⟨va', vc', rfl⟩ := hv'.slice
  have hL4 : SH w0 w4 (Cl sp 101 (S.hdr q (.slice va S.rows.length vc)) :: PoolS 50 84 q h c' (A' ++ R)) := (hL'.sub ((List.sublist_cons_self _ _).append_left A')).perm (List.perm_append_comm_assoc A' (Cl sp 101 (S.hdr q (.slice va S.rows.length vc)) :: PoolS 50 84 q h c' []) R)
  refine hL4.stK [_] (fun w5 hL5 => ?_)
  have H2 : RefIn w0 w5 sp q h (S.more z) c' (.slice va' (S.rows.length + 1) vc') A' R := RefIn.more hv' hL' fun _ => hL5
  refine row_in ?_
  refine ret_in ?_
  exact ⟨(rfl : _ = Value.int .i64 (handE c z o S.own)).trans (by rw [hE]), _, A', by rw [hS, hB]; exact H2⟩
end Go.Proofs.Ytjnjgmkkjglheaa
