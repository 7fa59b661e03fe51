/- The pool's functions that change it. -/
import Derived.Test.YtjnjgmkkjglheaaPoolMake
namespace Go.Den
open Go Go.RowKit
theorem SH.shrTo {w0 w : World} {A R : List Atom} {size : Nat} {l l' : List (Value × List Value)} (h : SH w0 w (Shr size l :: (A ++ R)))
    (hl : ∀ p ∈ l', p ∈ l ∨ ((∃ n, Reads w size p.1 n p.2) ∧ (p.2 ≠ [] → ∀ b, blockOf p.1 = some b → ∃ a ∈ A, a.ex b))) : SH w0 w (Shr size l' :: R) := by
  have hh : SH w0 w ((Shr size l :: A) ++ R) := h
  refine SH.turn (L := Shr size l :: A) (L' := [Shr size l']) (F := R) hh rfl rfl rfl (Nat.le_refl _) (fun _ _ _ => rfl) ?_ (by simp) (fun a ha b hb => ?_) (fun a ha b hb => ?_)
  · intro a ha
    simp only [List.mem_singleton] at ha
    subst ha
    intro p hp
    rcases hl p hp with hp | hp
    · exact h.holds (Shr size l) (.head _) p hp
    · exact hp.1
  · simp only [List.mem_singleton] at ha
    subst ha
    exact hb.elim
  · simp only [List.mem_singleton] at ha
    subst ha
    obtain ⟨p, hp, h0, hb⟩ := hb
    rcases hl p hp with hp | hp
    · exact .inl ⟨Shr size l, .head _, .inr ⟨p, hp, h0, hb⟩⟩
    · obtain ⟨a, ha, he⟩ := hp.2 h0 b hb
      exact .inl ⟨a, .tail _ ha, .inl he⟩
theorem SH.poolR {w0 w : World} {R : List Atom} {T bT : TypeId} {bp : Nat} {bb : Home} {bufs : List Buf} (h : SH w0 w (PoolS T bT bp bb bufs R)) : PoolR T bT w bp bb bufs :=
  h.pool fun A hA => by
    rcases List.mem_cons.1 hA with rfl | hA
    · exact .head _
    rcases List.mem_cons.1 hA with rfl | hA
    · exact .tail _ (.head _)
    rcases List.mem_cons.1 hA with rfl | hA
    · exact .tail _ (.tail _ (.head _))
    · cases hA
end Go.Den
namespace Go.Proofs.Ytjnjgmkkjglheaa
open Go Go.Den
attribute [local irreducible] wpC
/-- What is said of an owner's buffer: 0: it is his. -/
def errOf (bufs : List Buf) (k o : Int) : Int := if owns o then (if k < 0 ∨ (bufs.length : Int) ≤ k then 17 else if ownerOf bufs k = o then 0 else 19) else 11
theorem errOf_zero {bufs : List Buf} {k o : Int} (h : errOf bufs k o = 0) : owns o = true ∧ ∃ (i : Nat) (B : Buf), k = i ∧ bufs[i]? = some B ∧ B.own = o := by
  unfold errOf at h
  cases ho : owns o
  · rw [ho] at h; exact absurd h (by simp)
  rw [ho, if_pos rfl] at h
  by_cases hk : k < 0 ∨ (bufs.length : Int) ≤ k
  · rw [if_pos hk] at h; exact absurd h (by decide)
  rw [if_neg hk] at h
  by_cases he : ownerOf bufs k = o
  · obtain ⟨i, rfl⟩ : ∃ i : Nat, k = i := ⟨k.toNat, by omega⟩
    have hB : bufs[i]? = some bufs[i] := List.getElem?_eq_getElem (by omega)
    exact ⟨rfl, i, _, rfl, hB, by rw [← ownerOf_at hB]; exact he⟩
  · rw [if_neg he] at h; exact absurd h (by decide)
theorem of_spec {w : World} {bp : Nat} {bb : Home} {bufs : List Buf} (hp : PoolR 82 87 w bp bb bufs) (k o : Int) : Does Try.prog 55 [ptr bp, .int .i64 k, .int .i64 o] w fun v w' =>
    w' = w ∧ ∃ p, v = .tuple #[p, .int .i64 (errOf bufs k o)] ∧ (errOf bufs k o = 0 → p = .pointer (some ((⟨bb.b, 0, none⟩ : Addr).add (k.toNat * 2)))) := by
  refine s55 rfl ?_
  refine row_in ?_
  unfold errOf
  refine seq_in (block_in ?_)
  refine row_in ?_
  refine (owns_spec _ _).mono ?_
  rintro _ _ ⟨rfl, rfl⟩
  cases ho : owns o
  · refine ⟨_, rfl, ?_⟩
    refine cond_in ?_
    refine row_in ?_
    refine ret_in ?_
    exact ⟨rfl, _, rfl, fun h => absurd h (by simp)⟩
  refine ⟨_, rfl, ?_⟩
  refine cond_in ?_
  refine row_in ?_
  rw [if_pos rfl]
  by_cases h0 : k < 0
  · refine ⟨true, decide_eq_true h0, ?_⟩
    refine cond_in ?_
    refine row_in ?_
    refine ret_in ?_
    rw [if_pos (.inl h0)]
    exact ⟨rfl, _, rfl, fun h => absurd h (by decide)⟩
  refine ⟨false, decide_eq_false h0, ?_⟩
  refine ⟨_, hp.slice, ?_⟩
  by_cases h1 : (bufs.length : Int) ≤ k
  · refine ⟨true, decide_eq_true h1, ?_⟩
    refine cond_in ?_
    refine row_in ?_
    refine ret_in ?_
    rw [if_pos (.inr h1)]
    exact ⟨rfl, _, rfl, fun h => absurd h (by decide)⟩
  refine ⟨false, decide_eq_false h1, ?_⟩
  refine cond_in ?_
  rw [if_neg (by omega)]
  obtain ⟨i, rfl⟩ : ∃ i : Nat, k = i := ⟨k.toNat, by omega⟩
  obtain ⟨B, hB⟩ : ∃ B, bufs[i]? = some B := ⟨bufs[i], List.getElem?_eq_getElem (by omega)⟩
  refine row_in ?_
  refine ⟨_, hp.slice, ?_⟩
  refine ⟨⟨by omega, by omega⟩, _, rfl, ?_⟩
  refine ⟨_, hp.own hB, ?_⟩
  rw [ownerOf_at hB]
  by_cases he : B.own = o
  · refine ⟨false, decide_eq_false (fun h => h he), ?_⟩
    refine cond_in ?_
    refine skip_in ?_
    refine row_in ?_
    refine ⟨_, hp.slice, ?_⟩
    refine ⟨⟨by omega, by omega⟩, _, rfl, ?_⟩
    refine ret_in ?_
    rw [if_pos he]
    exact ⟨rfl, _, rfl, fun _ => rfl⟩
  · refine ⟨true, decide_eq_true he, ?_⟩
    refine cond_in ?_
    refine row_in ?_
    refine ret_in ?_
    rw [if_neg he]
    exact ⟨rfl, _, rfl, fun h => absurd h (by decide)⟩
def handE (bufs : List Buf) (k a b : Int) : Int := if owns b then errOf bufs k a else 11
def withOwn (b : Int) (B : Buf) : Buf := { B with own := b }
def handB (bufs : List Buf) (k a b : Int) : List Buf := if handE bufs k a b = 0 then bufs.modify k.toNat (withOwn b) else bufs
theorem modify_at {bufs : List Buf} {i : Nat} {B : Buf} (f : Buf → Buf) (hB : bufs[i]? = some B) : bufs.modify i f = bufs.set i (f B) := by
  apply List.ext_getElem?
  intro j
  rw [List.getElem?_modify, List.getElem?_set]
  by_cases h : i = j
  · subst h
    rw [hB]
    have : i < bufs.length := (List.getElem?_eq_some_iff.1 hB).1
    simp [this]
  · simp [h]
theorem shr_own {bufs : List Buf} {i : Nat} {B : Buf} (b : Int) (hB : bufs[i]? = some B) : shr (bufs.set i (withOwn b B)) = shr bufs := by
  unfold shr
  apply List.ext_getElem?
  intro j
  rw [List.getElem?_map, List.getElem?_map, List.getElem?_set]
  by_cases h : i = j
  · subst h
    have : i < bufs.length := (List.getElem?_eq_some_iff.1 hB).1
    rw [hB]
    simp [this, withOwn]
  · simp [h]
theorem hand_spec {w0 w : World} {R : List Atom} {bp : Nat} {bb : Home} {bufs : List Buf} (hL : SH w0 w (PoolS 82 87 bp bb bufs R)) (k a b : Int) :
    Does Try.prog 26 [ptr bp, .int .i64 k, .int .i64 a, .int .i64 b] w fun v w' => v = .int .i64 (handE bufs k a b) ∧ SH w0 w' (PoolS 82 87 bp bb (handB bufs k a b) R) := by
  refine s26 rfl ?_
  refine row_in ?_
  refine if_in ?_
  refine (owns_spec _ _).mono ?_
  rintro _ _ ⟨rfl, rfl⟩
  unfold handB handE
  cases ho : owns b
  · refine ⟨_, rfl, ?_⟩
    refine row_in ?_
    refine ret_in ?_
    exact ⟨rfl, by simpa using hL⟩
  refine ⟨_, rfl, ?_⟩
  refine skip_in ?_
  refine row_in ?_
  refine (of_spec hL.poolR k a).mono ?_
  rintro _ w1 ⟨rfl, p, rfl, hpp⟩
  rw [if_pos rfl]
  refine seq_in (seq_in (ops_in ?_))
  by_cases he : errOf bufs k a = 0
  · rw [if_pos he]
    have hpp := hpp he
    obtain ⟨_, i, B, rfl, hB, hBo⟩ := errOf_zero he
    rw [Int.toNat_natCast, add_plain] at hpp
    subst hpp
    have hi : i < bufs.length := (List.getElem?_eq_some_iff.1 hB).1
    refine ⟨true, decide_eq_true he, ?_⟩
    refine cond_in ?_
    refine ops_in ?_
    have hst := SH.st (w0 := w0) (L := PoolS 82 87 bp bb bufs R) hL (b := bb.b) (o := 0 + i * 2 + 0) [.int .i64 b] (Nat.ble_eq_true_of_le (by rw [List.length_append, flat_length]; simp; omega)) rfl
    obtain ⟨w2, hs, hL2⟩ := hst
    rw [← add_plain] at hs
    refine ⟨rfl, w2, hs, ?_⟩
    refine row_in ?_
    refine ret_in ?_
    refine ⟨rfl, ?_⟩
    rw [Int.toNat_natCast, modify_at _ hB]
    rw [show (0 + i * 2 + 0) = i * 2 by omega] at hL2
    have hf := flat_own' bb.sp b hB
    rw [hf] at hL2
    have hS : SH w0 w2 (Cl bb.b 87 (flat (bufs.set i (withOwn b B)) ++ bb.sp) :: Cl bp 82 [.slice (some ⟨bb.b, 0, none⟩) bufs.length bb.c] :: Shr 1 (shr bufs) :: R) := hL2
    have hS := hS.perm (List.Perm.swap _ _ _)
    rw [← shr_own b hB] at hS
    simpa [PoolS] using hS
  · rw [if_neg he]
    refine ⟨false, decide_eq_false he, ?_⟩
    refine cond_in ?_
    refine skip_in ?_
    refine row_in ?_
    refine ret_in ?_
    exact ⟨rfl, hL⟩
def freeB (bufs : List Buf) (k o : Int) : List Buf := if errOf bufs k o = 0 then bufs.modify k.toNat (fun _ => noBuf) else bufs
theorem shr_set {bufs : List Buf} {i : Nat} {C : Buf} {p : Value × List Value} (hp : p ∈ shr (bufs.set i C)) : p ∈ shr bufs ∨ p = (C.sl, vals C.bs) := by
  obtain ⟨B, hB, rfl⟩ := List.mem_map.1 hp
  rcases List.mem_or_eq_of_mem_set hB with h | h
  · exact .inl (List.mem_map.2 ⟨B, h, rfl⟩)
  · subst h; exact .inr rfl
theorem free_spec {w0 w : World} {R : List Atom} {bp : Nat} {bb : Home} {bufs : List Buf} (hL : SH w0 w (PoolS 82 87 bp bb bufs R)) (k o : Int) :
    Does Try.prog 29 [ptr bp, .int .i64 k, .int .i64 o] w fun v w' => v = .int .i64 (errOf bufs k o) ∧ SH w0 w' (PoolS 82 87 bp bb (freeB bufs k o) R) := by
  refine s29 rfl ?_
  refine row_in ?_
  refine row_in ?_
  refine (of_spec hL.poolR k o).mono ?_
  rintro _ w1 ⟨rfl, p, rfl, hpp⟩
  unfold freeB
  refine seq_in (seq_in (ops_in ?_))
  by_cases he : errOf bufs k o = 0
  · rw [if_pos he]
    have hpp := hpp he
    obtain ⟨_, i, B, rfl, hB, hBo⟩ := errOf_zero he
    rw [Int.toNat_natCast, add_plain] at hpp
    subst hpp
    have hi : i < bufs.length := (List.getElem?_eq_some_iff.1 hB).1
    refine ⟨true, decide_eq_true he, ?_⟩
    refine cond_in ?_
    refine ops_in ?_
    refine ⟨rfl, _, rfl, ?_⟩
    have hst := SH.st (w0 := w0) (L := PoolS 82 87 bp bb bufs R) hL (b := bb.b) (o := 0 + i * 2) [.int .i64 0, .slice none 0 0] (Nat.ble_eq_true_of_le (by rw [List.length_append, flat_length]; simp; omega)) rfl
    obtain ⟨w2, hs, hL2⟩ := hst
    refine ⟨rfl, w2, hs, ?_⟩
    refine row_in ?_
    refine ret_in ?_
    refine ⟨rfl, ?_⟩
    rw [Int.toNat_natCast, modify_at _ hB]
    rw [show (0 + i * 2) = i * 2 by omega] at hL2
    have hf := flat_set' bb.sp noBuf hi
    have hf : put1 (flat bufs ++ bb.sp) (i * 2) [.int .i64 0, .slice none 0 0] = flat (bufs.set i noBuf) ++ bb.sp := hf
    rw [hf] at hL2
    have hS : SH w0 w2 (Cl bb.b 87 (flat (bufs.set i noBuf) ++ bb.sp) :: Cl bp 82 [.slice (some ⟨bb.b, 0, none⟩) bufs.length bb.c] :: Shr 1 (shr bufs) :: R) := hL2
    have hS := hS.perm (L' := Shr 1 (shr bufs) :: ([] ++ (Cl bp 82 [.slice (some ⟨bb.b, 0, none⟩) bufs.length bb.c] :: Cl bb.b 87 (flat (bufs.set i noBuf) ++ bb.sp) :: R)))
      (List.Perm.trans (List.Perm.swap _ _ _) (List.Perm.trans (List.Perm.cons _ (List.Perm.swap _ _ _)) (List.Perm.swap _ _ _)))
    have hS := hS.shrTo (l' := shr (bufs.set i noBuf)) fun p hp => by
      rcases shr_set hp with h | h
      · exact .inl h
      · subst h; exact .inr ⟨⟨0, reads_nil w2 1 none 0⟩, fun h => absurd rfl h⟩
    have hS := hS.perm (List.Perm.trans (List.Perm.swap _ _ _) (List.Perm.cons _ (List.Perm.swap _ _ _)))
    simpa [PoolS] using hS
  · rw [if_neg he]
    refine ⟨false, decide_eq_false he, ?_⟩
    refine cond_in ?_
    refine skip_in ?_
    refine row_in ?_
    refine ret_in ?_
    exact ⟨rfl, hL⟩
def takeE (bufs : List Buf) (o : Int) (m : Nat) : Int := if owns o = false ∨ 1514 < m then 11 else if freeAt bufs < 0 then 18 else 0
def takeN (bufs : List Buf) (o : Int) (m : Nat) : Int := if takeE bufs o m = 0 then freeAt bufs else -1
def takeB (bufs : List Buf) (o : Int) (s : Value) (bs : List Int) : List Buf := if takeE bufs o bs.length = 0 then bufs.set (freeAt bufs).toNat ⟨o, s, bs⟩ else bufs
theorem freeAt_spec (bufs : List Buf) : (freeAt bufs = -1 ∧ ∀ (j : Nat) C, bufs[j]? = some C → isFree C = false) ∨ ∃ (i : Nat) (B : Buf), freeAt bufs = i ∧ bufs[i]? = some B ∧ isFree B = true ∧ ∀ (j : Nat) C, j < i → bufs[j]? = some C → isFree C = false := by
  unfold freeAt
  cases h : bufs.findIdx? isFree with
  | none =>
    left
    refine ⟨rfl, fun j C hC => ?_⟩
    exact List.findIdx?_eq_none_iff.1 h C (List.mem_of_getElem? hC)
  | some i =>
    right
    obtain ⟨hi, hf, hlow⟩ := List.findIdx?_eq_some_iff_getElem.1 h
    refine ⟨i, bufs[i], rfl, List.getElem?_eq_getElem hi, hf, fun j C hj hC => ?_⟩
    have := hlow j hj
    have e : bufs[j] = C := by rw [List.getElem?_eq_getElem (by omega)] at hC; exact Option.some.inj hC
    rw [e] at this
    simpa using this
theorem _root_.Go.Den.OwnRow.block {e : TypeId} {size n : Nat} {v : Value} {xs : List Value} {A : List Atom} (h : OwnRow e size v n xs A) (h0 : xs ≠ []) {b : Nat} (hb : blockOf v = some b) : ∃ a ∈ A, a.ex b := by
  cases h with
  | none b' => exact absurd rfl h0
  | «at» g cs n cap hl hn hm =>
    simp only [blockOf, Option.some.injEq] at hb
    exact ⟨_, List.mem_singleton.2 rfl, hb.symm⟩
/-- A pool with new bytes in one of its buffers. -/
theorem pool_lay {w0 w : World} {R A : List Atom} {T bT : TypeId} {bp i : Nat} {bb : Home} {bufs : List Buf} {s : Value} {o : Int} {bs : List Int} {e : TypeId} (hs : OwnRow e 1 s bs.length (vals bs) A) (hi : i < bufs.length)
    (hL : SH w0 w (Cl bb.b bT (put1 (flat bufs ++ bb.sp) (i * 2) [.int .i64 o, s]) :: (A ++ (Cl bp T [.slice (some ⟨bb.b, 0, none⟩) bufs.length bb.c] :: Shr 1 (shr bufs) :: R)))) : SH w0 w (PoolS T bT bp bb (bufs.set i ⟨o, s, bs⟩) R) := by
  have hf := flat_set' bb.sp ⟨o, s, bs⟩ hi
  have hf : put1 (flat bufs ++ bb.sp) (i * 2) [.int .i64 o, s] = flat (bufs.set i ⟨o, s, bs⟩) ++ bb.sp := hf
  rw [hf] at hL
  have hS := hL.perm (L' := Shr 1 (shr bufs) :: (A ++ (Cl bp T [.slice (some ⟨bb.b, 0, none⟩) bufs.length bb.c] :: Cl bb.b bT (flat (bufs.set i ⟨o, s, bs⟩) ++ bb.sp) :: R))) (by
    refine List.Perm.trans (List.Perm.cons _ (List.Perm.append_left A (List.Perm.swap _ _ _))) ?_
    refine List.Perm.trans (List.Perm.cons _ List.perm_middle) ?_
    refine List.Perm.trans (List.Perm.swap _ _ _) (List.Perm.cons _ ?_)
    refine List.Perm.trans List.perm_middle.symm (List.Perm.append_left A (List.Perm.swap _ _ _)))
  have hh : ∀ a ∈ A, a.holds w := fun a ha => hS.holds a (.tail _ (List.mem_append_left _ ha))
  have hS := hS.shrTo (l' := shr (bufs.set i ⟨o, s, bs⟩)) fun p hp => by
    rcases shr_set hp with h | h
    · exact .inl h
    · subst h
      exact .inr ⟨⟨_, hs.reads hh⟩, fun h0 b hb => hs.block h0 hb⟩
  have hS := hS.perm (List.Perm.trans (List.Perm.swap _ _ _) (List.Perm.cons _ (List.Perm.swap _ _ _)))
  simpa [PoolS] using hS
theorem take_no {bufs : List Buf} {o : Int} {bs : List Int} {e : Int} (h : takeE bufs o bs.length = e) (he : e ≠ 0) (s : Value) : takeN bufs o bs.length = -1 ∧ takeB bufs o s bs = bufs := by
  unfold takeN takeB
  rw [h, if_neg he, if_neg he]
  exact ⟨rfl, rfl⟩
theorem take_spec {w0 w : World} {R : List Atom} {bp : Nat} {bb : Home} {bufs : List Buf} (hL : SH w0 w (PoolS 82 87 bp bb bufs R)) (o : Int) {x : Value} {bs : List Int} (hx : Reads w 1 x bs.length (vals bs)) (hlen : bufs.length ≤ 1000000) :
    Does Try.prog 23 [ptr bp, .int .i64 o, x] w fun v w' => ∃ s, v = .tuple #[.int .i64 (takeN bufs o bs.length), .int .i64 (takeE bufs o bs.length)] ∧ SH w0 w' (PoolS 82 87 bp bb (takeB bufs o s bs) R) := by
  obtain ⟨_, xa, xc, rfl, _⟩ := id hx
  refine s23 rfl ?_
  refine row_in ?_
  refine if_in ?_
  refine (owns_spec _ _).mono ?_
  rintro _ _ ⟨rfl, rfl⟩
  cases ho : owns o
  · refine ⟨_, rfl, ?_⟩
    refine row_in ?_
    refine ret_in ?_
    have hE : takeE bufs o bs.length = 11 := by unfold takeE; rw [if_pos (.inl ho)]
    obtain ⟨hN, hB⟩ := take_no hE (by decide) (.slice none 0 0)
    exact ⟨.slice none 0 0, (rfl : _ = Value.tuple #[.int .i64 (-1), .int .i64 11]).trans (by rw [hN, hE]), by rw [hB]; exact hL⟩
  refine ⟨_, rfl, ?_⟩
  by_cases hbig : (1514 : Int) < bs.length
  · refine ⟨true, decide_eq_true hbig, ?_⟩
    refine row_in ?_
    refine ret_in ?_
    have hE : takeE bufs o bs.length = 11 := by unfold takeE; rw [if_pos (.inr (by omega))]
    obtain ⟨hN, hB⟩ := take_no hE (by decide) (.slice none 0 0)
    exact ⟨.slice none 0 0, by rw [hN, hE]; rfl, by rw [hB]; exact hL⟩
  refine ⟨false, decide_eq_false hbig, ?_⟩
  refine skip_in ?_
  have hnr : ¬ (owns o = false ∨ 1514 < bs.length) := by rw [ho]; rintro (h | h); exact absurd h (by decide); omega
  refine row_in ?_
  refine ⟨_, hL.poolR.slice, ?_⟩
  refine (index_spec hL.poolR hlen).mono ?_
  rintro _ w1 ⟨rfl, hg⟩
  have hL := hL.grows hg
  have hx := hx.grows hg
  refine if_in ?_
  rcases freeAt_spec bufs with ⟨hf, _⟩ | ⟨i, B, hf, hB, hfree, _⟩
  · refine ⟨true, decide_eq_true (by omega), ?_⟩
    refine row_in ?_
    refine ret_in ?_
    have hE : takeE bufs o bs.length = 18 := by unfold takeE; rw [if_neg hnr, if_pos (by omega)]
    obtain ⟨hN, hB⟩ := take_no hE (by decide) (.slice none 0 0)
    exact ⟨.slice none 0 0, by rw [hN, hE]; rfl, by rw [hB]; exact hL⟩
  · have hE : takeE bufs o bs.length = 0 := by unfold takeE; rw [if_neg hnr, if_neg (by omega)]
    have hN : takeN bufs o bs.length = i := by unfold takeN; rw [hE, if_pos rfl, hf]
    have hB2 : ∀ s, takeB bufs o s bs = bufs.set i ⟨o, s, bs⟩ := fun s => by unfold takeB; rw [hE, if_pos rfl, hf, Int.toNat_natCast]
    have hi : i < bufs.length := (List.getElem?_eq_some_iff.1 hB).1
    refine ⟨false, decide_eq_false (by omega), ?_⟩
    refine skip_in ?_
    rw [hf]
    refine draw_in ?_
    have hL := hL.drew
    have hx := hx.grows (Grows.drew _)
    refine ⟨_, hL.poolR.slice, ?_⟩
    refine (clone23_spec hx (vals_one _) (by omega)).mono ?_
    rintro s w2 ⟨A, hs, hA⟩
    obtain ⟨sa, sc, rfl⟩ := hs.slice
    have hL := hL.join hA hs.unshared
    have hP : PoolR 82 87 w2 bp bb bufs := by
      refine (hL.sub (List.sublist_append_right _ _)).poolR
    refine ⟨⟨hP.slice, trivial⟩, ?_⟩
    refine ⟨rfl, _, rfl, ?_⟩
    refine ⟨⟨by omega, by omega⟩, _, rfl, ?_⟩
    have hQ := hL.perm (L' := Cl bb.b 87 (flat bufs ++ bb.sp) :: (A ++ (Cl bp 82 [.slice (some ⟨bb.b, 0, none⟩) bufs.length bb.c] :: Shr 1 (shr bufs) :: R))) (List.Perm.trans (List.Perm.append_left A (List.Perm.swap _ _ _)) List.perm_middle)
    obtain ⟨w3, hst, hQ⟩ := SH.st hQ (b := bb.b) (o := 0 + i * 2) [.int .i64 o, .slice sa bs.length sc] (Nat.ble_eq_true_of_le (by rw [List.length_append, flat_length]; simp; omega)) rfl
    rw [← add_plain] at hst
    refine ⟨rfl, w3, hst, ?_⟩
    refine row_in ?_
    refine ret_in ?_
    rw [show (0 + i * 2) = i * 2 by omega] at hQ
    exact ⟨.slice sa bs.length sc, (rfl : _ = Value.tuple #[.int .i64 i, .int .i64 0]).trans (by rw [hN, hE]), by rw [hB2]; exact pool_lay hs hi hQ⟩
end Go.Proofs.Ytjnjgmkkjglheaa
