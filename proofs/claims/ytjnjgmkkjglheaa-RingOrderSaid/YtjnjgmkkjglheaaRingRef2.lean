/- The document's answer for rings: Take, All, Copy; and the ring's clone. -/
import Derived.Test.YtjnjgmkkjglheaaRingRef
namespace Go.Den
open Go Go.RowKit
theorem reads_tail {w : World} {g n c : Nat} {x : Value} {xs : List Value} (h : Reads w 1 (.slice (some ⟨g, 0, none⟩) (n + 1) c) (n + 1) (x :: xs)) (hc : n + 1 ≤ c) :
    Reads w 1 (.slice (if c = 1 then some ⟨g, 0, none⟩ else (some (⟨g, 0, none⟩ : Addr)).map (·.add (1 * 1))) (n + 1 - 1) (c - 1)) n xs := by
  obtain ⟨hl, a, c', he, ha, hcell⟩ := h
  cases he
  have hlx : xs.length = n := by simpa using hl
  refine ⟨by omega, _, _, rfl, fun h => ?_, fun ad e j u hu => ?_⟩
  · by_cases h1 : c = 1
    · omega
    · rw [if_neg h1] at h; cases h
  · have hj : j < xs.length := (List.getElem?_eq_some_iff.1 hu).1
    rw [if_neg (by omega)] at e
    cases e
    have := hcell _ rfl (j + 1) u (by simpa using hu)
    rw [add_plain] at this
    show w.cell? (((⟨g, 0, none⟩ : Addr).add (1 * 1)).add j) = some u
    rw [add_plain, add_plain]
    rw [show 0 + 1 * 1 + j = 0 + (j + 1) by omega]
    exact this
end Go.Den
namespace Go.Proofs.Ytjnjgmkkjglheaa
open Go Go.Den
attribute [local irreducible] wpC
/-- All numbers of a row are a pool's. -/
def InPool (c : List Buf) (rows : List Int) : Prop := ∀ z ∈ rows, ∃ (i : Nat) (B : Buf), z = i ∧ c[i]? = some B
def rtakeS (S : Rr) : Rr := { S with rows := S.rows.tail }
def rtakeB (S : Rr) (c : List Buf) : List Buf := match S.rows with | [] => c | z :: _ => freeB c z S.own
def rtakeV (S : Rr) (c : List Buf) : List Int := match S.rows with | [] => [] | z :: _ => bytesOf c z
set_option maxHeartbeats 8000000 in
theorem rringtake_spec {w0 w : World} {R : List Atom} {sp q : Nat} {h : Home} {S : Rr} {c : List Buf} {v : Value} {A : List Atom} (H : RefIn w0 w sp q h S c v A R) (hin : InPool c S.rows) (hg : Good c) (hsz : S.rows.length ≤ 256) :
    Does Try.prog 62 [ptr sp] w fun u w' => ∃ x, u = .tuple #[x, .bool (decide (0 < S.rows.length))] ∧ Reads w' 1 x (rtakeV S c).length (vals (rtakeV S c)) ∧ ∃ v' A', RefIn w0 w' sp q h (rtakeS S) (rtakeB S c) v' A' R := by
  obtain ⟨size, own, rows, drop⟩ := S
  have hin : InPool c rows := hin
  have hsz : rows.length ≤ 256 := hsz
  obtain ⟨va, vc, rfl⟩ := H.own.slice
  have hL := H.hL
  refine s62 rfl ?_
  refine row_in ?_
  refine if_in ?_
  refine ⟨_, hL.ld rfl, ?_⟩
  cases rows with
  | nil =>
    refine ⟨true, rfl, ?_⟩
    refine row_in ?_
    refine ret_in ?_
    exact ⟨.slice none 0 0, rfl, reads_nil _ 1 none 0, _, A, H⟩
  | cons z rest =>
  obtain ⟨i, B, rfl, hB⟩ := hin z (.head _)
  have hi : i < c.length := (List.getElem?_eq_some_iff.1 hB).1
  have hbs : bytesOf c i = B.bs := bytesOf_at hg hB
  have hbl := hg.small B (List.mem_of_getElem? hB)
  have hrows := H.reads
  obtain ⟨gb, cs, cap, he, hA, hxs, hcl, hcap, hmax⟩ := H.own.blk (by simp)
  have he : Value.slice va (rest.length + 1) vc = .slice (some ⟨gb, 0, none⟩) (rest.length + 1) cap := he
  simp only [Value.slice.injEq, true_and] at he
  obtain ⟨rfl, rfl⟩ := he
  have hcap : rest.length + 1 ≤ vc := hcap
  refine ⟨false, decide_eq_false (by simp; omega), ?_⟩
  refine skip_in ?_
  refine row_in ?_
  refine ⟨_, hL.ld rfl, ?_⟩
  refine ⟨⟨by simp, by simp⟩, (⟨gb, 0 + 0 * 1, none⟩ : Addr), add_plain _ _ _, ?_⟩
  have hrow0 : w.cell? ⟨gb, 0 + 0 * 1, none⟩ = some (.int .i64 i) := by
    obtain ⟨_, _, _, e, _, hc⟩ := hrows
    cases e
    have := hc _ rfl 0 (.int .i64 i) rfl
    rw [add_plain] at this
    exact this
  refine ⟨_, hrow0, ?_⟩
  have hrow (cap : Nat) : Reads w 1 (.slice (some ⟨gb, 0, none⟩) (rest.length + 1) vc) (rest.length + 1) (.int .i64 i :: ints rest) := hrows
  refine row_in ?_
  refine ⟨rfl, _, rfl, ?_⟩
  refine hL.newG fun b18 w1 hL1 hg1 => ?_
  have H1 := H.grows hg1
  have hL1 := H1.hL
  refine ⟨_, hL1.ld rfl, ?_⟩
  refine ⟨_, H1.pool.poolR.slice, ?_⟩
  refine ⟨⟨by omega, by omega⟩, _, rfl, ?_⟩
  refine ⟨_, H1.pool.poolR.sl hB, ?_⟩
  refine app0 _ _ el23 rfl rfl rfl H1.hL (H1.pool.poolR.bytes B (List.mem_of_getElem? hB)) (vals_one _) (by simp only [maxLen]; omega) (by omega) fun xa xc w2 Ax hx hL2 => ?_
  have hL2 : SH w0 w2 (Cl sp 101 ((Rr.mk size own (↑i :: rest) drop).hdr q (.slice (some ⟨gb, 0, none⟩) (rest.length + 1) vc)) :: PoolS 50 84 q h c (A ++ (Ax ++ R))) := by
    refine hL2.perm ?_
    refine (List.perm_append_comm_assoc Ax (Cl sp 101 ((Rr.mk size own (↑i :: rest) drop).hdr q (.slice (some ⟨gb, 0, none⟩) (rest.length + 1) vc)) :: PoolS 50 84 q h c []) (A ++ R)).trans ?_
    exact List.Perm.append_left (Cl sp 101 ((Rr.mk size own (↑i :: rest) drop).hdr q (.slice (some ⟨gb, 0, none⟩) (rest.length + 1) vc)) :: PoolS 50 84 q h c []) (List.perm_append_comm_assoc Ax A R)
  have H2 : RefIn w0 w2 sp q h ⟨size, own, ↑i :: rest, drop⟩ c (.slice (some ⟨gb, 0, none⟩) (rest.length + 1) vc) A (Ax ++ R) := ⟨H.own, hL2⟩
  refine reframe [0, 4, 5] [ptr sp, .int .i64 i, .slice xa B.bs.length xc] rfl fun g => ?_
  refine draw_in ?_
  have H2 := H2.grows (Grows.drew _)
  have hL2 := H2.hL
  refine ⟨_, hL2.ld rfl, ?_⟩
  refine ⟨_, hL2.ld rfl, ?_⟩
  refine (rfree_spec H2.pool i own).mono ?_
  rintro _ w3 ⟨rfl, hL3⟩
  have H3 := RefIn.back H2.own hL3
  have hL3 := H3.hL
  refine reframe [0, 5] [ptr sp, .slice xa B.bs.length xc] rfl fun g => ?_
  refine row_in ?_
  refine ⟨rfl, _, rfl, ?_⟩
  refine hL3.newG fun b42 w4 _ hg4 => ?_
  have H4 := H3.grows hg4
  have hL4 := H4.hL
  refine ⟨_, hL4.ld rfl, ?_⟩
  refine ⟨1, ⟨rfl, by simp⟩, _, rfl, ?_⟩
  refine app0 _ _ el40 rfl rfl rfl (m := rest.length) (news := ints rest) H4.hL (reads_tail H4.reads hcap) (ints_one _) (by simp only [maxLen]; simp at hsz; omega) (by simp at hsz; omega) fun va' vc' w5 A' hv' hL5 => ?_
  have hL5 : SH w0 w5 (Cl sp 101 ((Rr.mk size own (↑i :: rest) drop).hdr q (.slice (some ⟨gb, 0, none⟩) (rest.length + 1) vc)) :: PoolS 50 84 q h (freeB c i own) (A' ++ (A ++ (Ax ++ R)))) :=
    hL5.perm (List.perm_append_comm_assoc A' (Cl sp 101 ((Rr.mk size own (↑i :: rest) drop).hdr q (.slice (some ⟨gb, 0, none⟩) (rest.length + 1) vc)) :: PoolS 50 84 q h (freeB c i own) []) (A ++ (Ax ++ R)))
  refine hL5.stK [_] (fun w6 hL6 => ?_)
  refine row_in ?_
  refine ret_in ?_
  have hL6 : SH w0 w6 (Cl sp 101 ((Rr.mk size own rest drop).hdr q (.slice va' rest.length vc')) :: PoolS 50 84 q h (freeB c i own) (A' ++ (A ++ (Ax ++ R)))) := hL6
  refine ⟨.slice xa B.bs.length xc, rfl, ?_, .slice va' rest.length vc', A', hv', hL6.sub (.cons_cons _ (.cons_cons _ (.cons_cons _ (.cons_cons _ (List.Sublist.append_left ((List.sublist_append_right Ax R).trans (List.sublist_append_right A _)) A')))))⟩
  show Reads w6 1 (.slice xa B.bs.length xc) (bytesOf c i).length (vals (bytesOf c i))
  rw [hbs]
  exact hx.reads fun a ha => hL6.holds a (by simp [ha])
set_option maxHeartbeats 8000000 in
theorem rall_spec {w0 w : World} {R : List Atom} {sp q : Nat} {h : Home} {S : Rr} {c : List Buf} {v : Value} {A : List Atom} (H : RefIn w0 w sp q h S c v A R) (hin : InPool c S.rows) (hg : Good c) (hsz : S.rows.length ≤ 256) :
    Does Try.prog 63 [ptr sp] w fun u w' => Grows w w' ∧ RowsAre w' u (rb c S.rows) := by
  obtain ⟨va, vc, rfl⟩ := H.own.slice
  refine s63 rfl ?_
  refine row_in ?_
  refine row_in ?_
  refine ⟨rfl, _, rfl, ?_⟩
  refine (SH.nil w).newG fun b5 w1 hL1 _ => ?_
  refine seq_in (row_in ?_)
  refine block_in ?_
  refine loop_rule (3 :: 4 :: List.range' 6 31) rfl [4, 3] (fun (s : Nat × Value × List Atom × List (Value × List Int) × List Atom) => [.int .i64 s.1, s.2.1])
    (fun s w' => s.1 ≤ S.rows.length ∧ Rows1 w w' s.2.1 s.2.2.1 s.2.2.2.2 s.2.2.2.1 ∧ s.2.2.2.1.map (·.2) = (S.rows.take s.1).map (bytesOf c)) (fun s => S.rows.length - s.1) (0, _, [], [], []) rfl
    ⟨Nat.zero_le _, ⟨.none _, by simp, by simp, hL1.empty⟩, rfl⟩ ?_
  rintro g ⟨k, u, A1, rs, X⟩ w2 ⟨hk, hr, hrs⟩
  have hk : k ≤ S.rows.length := hk
  have hr : Rows1 w w2 u A1 X rs := hr
  have hrs : rs.map (·.2) = (S.rows.take k).map (bytesOf c) := hrs
  have hlen : rs.length = k := by have := congrArg List.length hrs; simpa [Nat.min_eq_left hk] using this
  have g2 := hr.hL.grown
  refine if_in ?_
  refine ⟨_, g2.cell (H.hL.ld rfl), ?_⟩
  by_cases hkl : k < S.rows.length
  rotate_left
  · refine ⟨false, decide_eq_false (by omega), ?_⟩
    refine exit_in ?_
    refine row_in ?_
    refine ret_in ?_
    have e : k = S.rows.length := by omega
    subst e
    have ha := hr.new.are
    rw [hrs, List.take_length] at ha
    exact ha
  refine ⟨true, decide_eq_true (by omega), ?_⟩
  refine skip_in ?_
  obtain ⟨z, hz⟩ : ∃ z, S.rows[k]? = some z := ⟨S.rows[k], List.getElem?_eq_getElem (by omega)⟩
  obtain ⟨i, B, rfl, hB⟩ := hin z (List.mem_of_getElem? hz)
  have hi : i < c.length := (List.getElem?_eq_some_iff.1 hB).1
  have hbs : bytesOf c i = B.bs := bytesOf_at hg hB
  have hbl := hg.small B (List.mem_of_getElem? hB)
  have hrows := H.reads
  obtain ⟨gb, cs, cap, he, _⟩ := H.own.blk (by omega)
  simp only [Value.slice.injEq, true_and] at he
  obtain ⟨rfl, rfl⟩ := he
  have hP := H.pool.poolR
  have c30 : w.cell? ⟨gb, 0 + k * 1, none⟩ = some (.int .i64 i) := by
    obtain ⟨_, _, _, e, _, hc⟩ := hrows
    cases e
    have := hc _ rfl k (.int .i64 i) (by simp [ints, hz])
    rw [add_plain] at this
    rw [Nat.mul_one]
    exact this
  have hD := hr.hL.drew
  have g3 := hD.grown
  refine block_then ?_
  refine drawn_in ?_
  refine ⟨_, g3.cell (H.hL.ld rfl), ?_⟩
  refine ⟨_, g3.cell hP.slice, ?_⟩
  refine ⟨_, g3.cell (H.hL.ld rfl), ?_⟩
  refine ⟨⟨by omega, by omega⟩, (⟨gb, 0 + k * 1, none⟩ : Addr), add_plain _ _ _, ?_⟩
  refine ⟨_, g3.cell c30, ?_⟩
  refine ⟨⟨by omega, by omega⟩, _, rfl, ?_⟩
  refine ⟨_, g3.cell (hP.sl hB), ?_⟩
  have pins : ∀ {w'}, Grows w w' → w'.cell? (((⟨h.b, 0, none⟩ : Addr).add (i * 2)).add 1) = some B.sl ∧ w'.cell? ⟨gb, 0 + k * 1, none⟩ = some (.int .i64 i) ∧ w'.cell? ⟨sp, 3, none⟩ = some (.slice (some ⟨gb, 0, none⟩) S.rows.length vc) ∧ w'.cell? ((⟨q, 0, none⟩ : Addr).add 0) = some (.slice (some ⟨h.b, 0, none⟩) c.length h.c) ∧ w'.cell? ⟨sp, 0, none⟩ = some (ptr q) ∧ True :=
    fun {w'} gg => ⟨gg.cell (hP.sl hB), gg.cell c30, gg.cell (H.hL.ld rfl), gg.cell hP.slice, gg.cell (H.hL.ld rfl), trivial⟩
  refine ⟨rfl, _, rfl, ?_⟩
  refine hD.newG fun b16 w3 hL3 hg3 => ?_
  have hD := hD.grows hg3
  clear hL3
  refine ⟨pins hD.grown, ?_⟩
  refine app0 _ _ el23 rfl rfl rfl hD ((hP.bytes B (List.mem_of_getElem? hB)).grows hD.grown) (vals_one _) (by simp only [maxLen]; omega) (by omega) fun xa xc w4 A2 hx hL4 => ?_
  refine ⟨pins hL4.grown, ?_⟩
  refine ⟨rfl, _, rfl, ?_⟩
  refine hL4.newK fun b35 w5 hL5 => ?_
  have hL5 : SH w w5 (Cl b35 23 [.slice xa B.bs.length xc] :: (A2 ++ (A1 ++ X))) := hL5
  refine ⟨pins hL5.grown, ?_⟩
  refine app _ _ el67 rfl rfl rfl (A := A1) (R := Cl b35 23 [.slice xa B.bs.length xc] :: (A2 ++ X)) (m := 1) (news := [.slice xa B.bs.length xc])
    (hL5.perm (List.perm_append_comm_assoc (Cl b35 23 [.slice xa B.bs.length xc] :: A2) A1 X)) hr.own ⟨rfl, _, _, rfl, fun h => (by cases h), ?_⟩ ?_ (by simp only [maxLen]; omega) (by omega) fun v' w6 A' hv' hL6 => ?_
  · intro ad e j u hu
    cases e
    rw [add_plain]
    match j, hu with
    | 0, hu => exact hL5.ld hu
  · intro u hu
    simp only [List.mem_singleton] at hu
    subst hu
    rfl
  have hr' := hr.more hx hv' hL6
  refine ⟨pins hr'.hL.grown, ?_⟩
  refine ops_in ?_
  refine ⟨((k + 1 : Nat) : Int), (IntWalk.i64_in _ (by omega)).trans (by omega), ?_⟩
  refine ⟨(k + 1, v', A', rs ++ [(_, B.bs)], A2 ++ X), rfl, ⟨hkl, hr', ?_⟩, by simp only []; omega⟩
  simp only []
  rw [List.map_append, hrs, List.take_add_one, hz, List.map_append]
  show _ = _ ++ [bytesOf c i]
  rw [hbs]
  rfl
/-! ### Copies -/
set_option maxHeartbeats 8000000 in
theorem rcopy_spec {w0 w : World} {R : List Atom} {sp q : Nat} {h : Home} {S : Rr} {c : List Buf} {v : Value} {A : List Atom} (H : RefIn w0 w sp q h S c v A R) (q' : Nat) (hsz : S.rows.length ≤ 256) :
    Does Try.prog 44 [ptr sp, ptr q'] w fun u w' => ∃ sp' v' A', u = ptr sp' ∧ OwnRow 3 1 v' S.rows.length (ints S.rows) A' ∧ SH w w' (Cl sp' 101 (S.hdr q' v') :: A') := by
  obtain ⟨va, vc, rfl⟩ := H.own.slice
  refine s44 rfl ?_
  refine row_in ?_
  refine draw_in ?_
  have hD := (SH.nil w).drew
  have g := hD.grown
  refine ⟨_, g.cell (H.hL.ld rfl), ?_⟩
  refine ⟨_, g.cell (H.hL.ld rfl), ?_⟩
  refine ⟨_, g.cell (H.hL.ld rfl), ?_⟩
  refine ⟨_, g.cell (H.hL.ld rfl), ?_⟩
  have pins : ∀ {w'}, Grows w w' → w'.cell? ⟨sp, 4, none⟩ = some (.int .i64 S.drop) ∧ w'.cell? ⟨sp, 3, none⟩ = some (.slice va S.rows.length vc) ∧ w'.cell? ⟨sp, 2, none⟩ = some (.int .i64 S.own) ∧ w'.cell? ⟨sp, 1, none⟩ = some (.int .i64 S.size) ∧ True :=
    fun {w'} gg => ⟨gg.cell (H.hL.ld rfl), gg.cell (H.hL.ld rfl), gg.cell (H.hL.ld rfl), gg.cell (H.hL.ld rfl), trivial⟩
  refine ⟨rfl, _, rfl, ?_⟩
  refine hD.newG fun b14 w3 hL3 hg3 => ?_
  have hD := hD.grows hg3
  clear hL3
  refine ⟨pins hD.grown, ?_⟩
  refine app0 _ _ el40 rfl rfl rfl hD ((H.reads).grows hD.grown) (ints_one _) (by simp only [maxLen]; omega) (by omega) fun xa xc w4 A2 hx hL4 => ?_
  have hL4 : SH w w4 A2 := by simpa using hL4
  refine ⟨pins hL4.grown, ?_⟩
  refine ⟨rfl, _, rfl, ?_⟩
  refine hL4.boxK [_, _, _, _, _] fun sp' w5 hL5 => ?_
  refine ⟨pins hL5.grown, ?_⟩
  refine ret_in ?_
  exact ⟨sp', _, A2, rfl, hx, hL5⟩
theorem clone40_spec {x : Value} {m : Nat} {news : List Value} {w : World} (hx : Reads w 1 x m news) (h1 : ∀ u ∈ news, u.oneCell' = true) (hm : m ≤ 1000000) : Does Try.prog 64 [x] w (NewRow 3 1 m news w) := by
  obtain ⟨hl, a, c, rfl, ha, hc⟩ := id hx
  refine s64 rfl ?_
  refine row_in ?_
  refine if_in ?_
  refine ⟨_, rfl, ?_⟩
  cases a with
  | none =>
    refine row_in ?_
    refine ret_in ?_
    have hm0 := ha rfl
    subst hm0
    have hn0 : news = [] := List.eq_nil_of_length_eq_zero (by simpa using hl)
    subst hn0
    exact ⟨[], .none none, SH.nil w⟩
  | some a =>
  refine skip_in ?_
  refine row_in ?_
  refine ⟨rfl, _, rfl, ?_⟩
  refine (SH.nil w).newK fun b w1 hL => ?_
  refine app _ _ el40 rfl rfl rfl (A := []) hL.empty (.none _) (hx.grows hL.grown) h1 (by simp only [maxLen]; omega) (by omega) fun v w2 A hv hL => ?_
  refine ret_in ?_
  have hv : OwnRow 3 1 v m news A := by simpa using hv
  exact ⟨A, hv, by simpa using hL⟩
set_option maxHeartbeats 8000000 in
theorem ringclone_spec {w0 w : World} {R : List Atom} {rp p : Nat} {sb : Home} {G : Rg} (hL : SH w0 w (RingS rp sb p G R)) (ok : G.ok) (p' : Nat) :
    Does Try.prog 43 [ptr rp, ptr p'] w fun u w' => ∃ rp' sb', u = ptr rp' ∧ SH w w' (RingS rp' sb' p' G []) := by
  have h1 := ok.pos
  have h2 := ok.size
  refine s43 rfl ?_
  refine row_in ?_
  refine row_in ?_
  refine ⟨_, hL.lds rfl, ?_⟩
  refine (SH.nil w).newK fun rp' w1 hN => ?_
  refine hN.stK [_, _, _, _, _, _] fun w2 hN => ?_
  have hN : SH w w2 [Cl rp' 95 (G.hdr p sb)] := hN
  have hL := hL.grows hN.grown
  refine row_in ?_
  refine ⟨_, hL.ld rfl, ?_⟩
  have hread : Reads w2 1 (.slice (some ⟨sb.b, 0, none⟩) G.slots.length sb.c) G.slots.length (ints G.slots) := by
    refine ⟨by simp [ints], _, _, rfl, fun h => (by cases h), fun ad e j u hu => ?_⟩
    cases e
    have hQ : SH w0 w2 (Cl sb.b 3 (ints G.slots ++ sb.sp) :: Cl rp 95 (G.hdr p sb) :: R) := hL.perm (List.Perm.swap _ _ _)
    rw [add_plain, Nat.zero_add]
    exact hQ.ld (flat_sp sb.sp hu)
  refine (clone40_spec hread (ints_one _) (by omega)).mono ?_
  rintro v w3 ⟨A, hv, hA⟩
  have hN := hN.join hA hv.unshared
  obtain ⟨gb, cs, cap, rfl, rfl, hxs, hcl, hcap, hmax⟩ := hv.blk h1
  obtain ⟨sl, rfl⟩ : ∃ sl, cs = ints G.slots ++ sl := ⟨cs.drop (G.slots.length * 1), by rw [hxs, List.take_append_drop]⟩
  have hN : SH w w3 (Cl gb 3 (ints G.slots ++ sl) :: Cl rp' 95 (G.hdr p sb) :: []) := hN
  refine hN.stK [_] fun w4 hN => ?_
  refine hN.stK [_] fun w5 hN => ?_
  refine row_in ?_
  refine ret_in ?_
  exact ⟨rp', ⟨gb, cap, sl⟩, rfl, hN⟩
end Go.Proofs.Ytjnjgmkkjglheaa
