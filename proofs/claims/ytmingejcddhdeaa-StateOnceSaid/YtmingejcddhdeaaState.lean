/- The state package's functions, each once: what it computes, and that it leaves memory as it was. -/
import Derived.Test.YtmingejcddhdeaaCode
import Derived.Test.YtmingejcddhdeaaMem
namespace Go.Proofs.Ytmingejcddhdeaa
open Go Go.Den
structure St where
  k : Nat
  a : Nat
  b : Nat
  f : Bool
  c : Bool
deriving DecidableEq
def St.l (s : St) : List Value := [.int .u8 s.k, .int .u8 s.a, .int .u8 s.b, .bool s.f, .bool s.c]
def St.v (s : St) : Value := .agg s.l.toArray
def Tm (a b c d : Int) : Value := .agg #[.int .u64 a, .int .u64 b, .int .u64 c, .int .u64 d]


def most (a b c d : Int) : Int :=
  let m := if b > a then b else a
  let m := if c > m then c else m
  if d > m then d else m

theorem most_spec (a b c d : Int) (w : World) : Does Try.prog 11 [Tm a b c d] w fun v w' => v = .int .u64 (most a b c d) ∧ Grows w w' := by
  refine s11 rfl ?_
  refine (SH.nil w).boxK [_, _, _, _] fun b1 w1 hL => ?_
  refine ⟨_, hL.ld rfl, ?_⟩
  refine ⟨_, hL.ld rfl, ?_⟩
  refine ⟨_, hL.ld rfl, ?_⟩
  refine ⟨_, hL.ld rfl, ?_⟩
  refine ⟨_, rfl, _, rfl, _, rfl, ?_⟩
  exact ⟨rfl, hL.grown⟩
theorem least_spec (w : World) : Does Try.prog 12 [] w fun v w' => v = Tm 120 240 7440 60 ∧ Grows w w' := by
  refine s12 rfl ?_
  refine (SH.nil w).newK fun b1 w1 hL => ?_
  refine ⟨rfl, _, rfl, ?_⟩
  refine hL.stK [_, _, _, _] fun w2 hL => ?_
  refine ⟨_, hL.lds rfl, ?_⟩
  exact ⟨rfl, hL.grown⟩
theorem wrap8 (n : Nat) (h : n < 256) : IntKind.wrap .u8 (n : Int) = n := IntWalk.u8_in _ (by omega)
theorem and8 (x y : Nat) (hx : x < 256) (hy : y < 256) : bitI .and .u8 (x : Int) (y : Int) = ((x &&& y : Nat) : Int) := by
  show IntKind.wrap .u8 ((((BitVec.ofInt 8 (x : Int)) &&& (BitVec.ofInt 8 (y : Int))).toNat : Nat) : Int) = _
  rw [BitVec.ofInt_natCast, BitVec.ofInt_natCast, BitVec.toNat_and, BitVec.toNat_ofNat, BitVec.toNat_ofNat, Nat.mod_eq_of_lt hx, Nat.mod_eq_of_lt hy]
  exact wrap8 _ (Nat.lt_of_le_of_lt Nat.and_le_left hx)
theorem or8 (x y : Nat) (hx : x < 256) (hy : y < 256) : bitI .or .u8 (x : Int) (y : Int) = ((x ||| y : Nat) : Int) := by
  show IntKind.wrap .u8 ((((BitVec.ofInt 8 (x : Int)) ||| (BitVec.ofInt 8 (y : Int))).toNat : Nat) : Int) = _
  rw [BitVec.ofInt_natCast, BitVec.ofInt_natCast, BitVec.toNat_or, BitVec.toNat_ofNat, BitVec.toNat_ofNat, Nat.mod_eq_of_lt hx, Nat.mod_eq_of_lt hy]
  exact wrap8 _ (Nat.or_lt_two_pow (n := 8) hx hy)
def opens (z : Nat) : Bool := decide (z &&& 7 = 2)
theorem opens_spec (z : Nat) (hz : z < 256) (w : World) : Does Try.prog 13 [.int .u8 z] w fun v w' => v = .bool (opens z) ∧ w' = w := by
  refine s13 rfl ?_
  refine ⟨_, and8 z 7 hz (by decide), decide (z &&& 7 = 2), decide_eq_decide.2 (by omega), ?_⟩
  exact ⟨rfl, rfl⟩
def right (a b c d : Int) : Bool := decide (120 ≤ a) && decide (240 ≤ b) && decide (7440 ≤ c) && decide (60 ≤ d) && decide (most a b c d ≤ 4294967296)
theorem right_spec (a b c d : Int) (w : World) : Does Try.prog 8 [Tm a b c d] w fun v w' => v = .bool (right a b c d) ∧ Grows w w' := by
  refine s8 rfl ?_
  refine (SH.nil w).boxK [_, _, _, _] fun b1 w1 hL => ?_
  (refine ⟨_, hL.ld rfl, ?_⟩; refine ⟨decide (120 ≤ a), rfl, ?_⟩)
  unfold right
  cases h0 : decide (120 ≤ a)
  · exact ⟨rfl, hL.grown⟩
  (refine ⟨_, hL.ld rfl, ?_⟩; refine ⟨decide (240 ≤ b), rfl, ?_⟩)
  cases h1 : decide (240 ≤ b)
  · exact ⟨rfl, hL.grown⟩
  (refine ⟨_, hL.ld rfl, ?_⟩; refine ⟨decide (7440 ≤ c), rfl, ?_⟩)
  cases h2 : decide (7440 ≤ c)
  · exact ⟨rfl, hL.grown⟩
  (refine ⟨_, hL.ld rfl, ?_⟩; refine ⟨decide (60 ≤ d), rfl, ?_⟩)
  cases h3 : decide (60 ≤ d)
  · exact ⟨rfl, hL.grown⟩
  refine ⟨_, hL.lds rfl, ?_⟩
  refine (most_spec _ _ _ _ _).mono ?_
  rintro _ w' ⟨rfl, hg⟩
  refine ⟨decide (most a b c d ≤ 4294967296), rfl, ?_⟩
  exact ⟨rfl, hL.grown.trans hg⟩
def begin_ (p fl : Nat) : St × Int :=
  if p = 6 then if opens fl then (⟨6, 2, 0, false, false⟩, 0) else (⟨0, 0, 0, false, false⟩, 19)
  else if p = 17 ∨ p = 1 then (⟨p, 0, 0, false, false⟩, 0) else (⟨0, 0, 0, false, false⟩, 14)
theorem begin_spec (p fl : Nat) (hfl : fl < 256) (w : World) : Does Try.prog 7 [.int .u8 p, .int .u8 fl] w fun v w' => v = .tuple #[(begin_ p fl).1.v, .int .i64 (begin_ p fl).2] ∧ Grows w w' := by
  refine s7 rfl ?_
  refine (SH.nil w).newK fun b1 w1 hL => ?_
  by_cases h6 : p = 6
  · subst h6
    refine ⟨true, rfl, ?_⟩
    refine (opens_spec _ hfl _).mono ?_
    rintro _ _ ⟨rfl, rfl⟩
    cases ho : opens fl
    · refine ⟨_, rfl, ?_⟩
      refine ⟨rfl, _, rfl, ?_⟩
      refine hL.stK [_, _, _, _, _] fun w2 hL => ?_
      refine ⟨_, hL.lds rfl, ?_⟩
      exact ⟨by simp [begin_, ho]; rfl, hL.grown⟩
    · refine ⟨_, rfl, ?_⟩
      refine ⟨rfl, _, rfl, ?_⟩
      refine hL.stK [_, _, _, _, _] fun w2 hL => ?_
      refine ⟨_, hL.lds rfl, ?_⟩
      exact ⟨by simp [begin_, ho]; rfl, hL.grown⟩
  refine ⟨false, decide_eq_false (show ¬ ((p : Int) = _) by omega), ?_⟩
  by_cases h17 : p = 17
  · subst h17
    refine ⟨true, rfl, ?_⟩
    refine ⟨rfl, _, rfl, ?_⟩
    refine hL.stK [_, _, _, _, _] fun w2 hL => ?_
    refine ⟨_, hL.lds rfl, ?_⟩
    exact ⟨rfl, hL.grown⟩
  refine ⟨false, decide_eq_false (show ¬ ((p : Int) = _) by omega), ?_⟩
  by_cases h1 : p = 1
  · subst h1
    refine ⟨true, rfl, ?_⟩
    refine ⟨rfl, _, rfl, ?_⟩
    refine hL.stK [_, _, _, _, _] fun w2 hL => ?_
    refine ⟨_, hL.lds rfl, ?_⟩
    exact ⟨rfl, hL.grown⟩
  refine ⟨false, decide_eq_false (show ¬ ((p : Int) = _) by omega), ?_⟩
  refine ⟨rfl, _, rfl, ?_⟩
  refine hL.stK [_, _, _, _, _] fun w2 hL => ?_
  refine ⟨_, hL.lds rfl, ?_⟩
  exact ⟨by simp [begin_, h6, h17, h1]; rfl, hL.grown⟩
def life (s : St) (a b c d : Int) : Int :=
  if s.k = 17 then a else if s.k = 1 then d else if s.k = 6 then if s.f && !s.c then c else b else 0
theorem life_spec (s : St) (a b c d : Int) (w : World) : Does Try.prog 10 [s.v, Tm a b c d] w fun v w' => v = .int .u64 (life s a b c d) ∧ Grows w w' := by
  obtain ⟨p, x, y, f, e⟩ := s
  refine s10 rfl ?_
  refine (SH.nil w).boxK [_, _, _, _, _] fun b1 w1 hL => ?_
  refine hL.boxK [_, _, _, _] fun b2 w2 hL => ?_
  refine ⟨_, hL.ld rfl, ?_⟩
  by_cases h17 : p = 17
  · subst h17
    refine ⟨true, rfl, ?_⟩
    refine ⟨_, hL.ld rfl, ?_⟩
    exact ⟨rfl, hL.grown⟩
  refine ⟨false, decide_eq_false (show ¬ ((p : Int) = _) by omega), ?_⟩
  by_cases h1 : p = 1
  · subst h1
    refine ⟨true, rfl, ?_⟩
    refine ⟨_, hL.ld rfl, ?_⟩
    exact ⟨rfl, hL.grown⟩
  refine ⟨false, decide_eq_false (show ¬ ((p : Int) = _) by omega), ?_⟩
  by_cases h6 : p = 6
  · subst h6
    refine ⟨true, rfl, ?_⟩
    refine ⟨_, hL.ld rfl, ?_⟩
    cases f
    · refine ⟨_, hL.ld rfl, ?_⟩
      exact ⟨rfl, hL.grown⟩
    (refine ⟨_, hL.ld rfl, ?_⟩; refine ⟨!e, rfl, ?_⟩)
    cases e
    · refine ⟨_, hL.ld rfl, ?_⟩
      exact ⟨rfl, hL.grown⟩
    · refine ⟨_, hL.ld rfl, ?_⟩
      exact ⟨rfl, hL.grown⟩
  refine ⟨false, decide_eq_false (show ¬ ((p : Int) = _) by omega), ?_⟩
  exact ⟨by simp [life, h17, h1, h6]; rfl, hL.grown⟩

theorem ne0 (n : Nat) : decide ((n : Int) ≠ 0) = decide (n ≠ 0) := by simp
def St.ok (s : St) : Prop := s.a < 256 ∧ s.b < 256
def marked (s : St) (a b : Nat) : St := ⟨s.k, a, b, s.f || decide (a &&& b &&& 2 ≠ 0), s.c || decide ((a ||| b) &&& 4 ≠ 0) || decide (a &&& b &&& 1 ≠ 0)⟩
def next (s : St) (d : Bool) (z : Nat) : St :=
  if s.k ≠ 6 then s else if s.c && d && opens z then ⟨s.k, 2, 0, false, false⟩
  else match d with
    | true => marked s ((s.a ||| z) &&& 7) s.b
    | false => marked s s.a ((s.b ||| z) &&& 7)
theorem next_spec (s : St) (d : Bool) (z : Nat) (hz : z < 256) (ho : s.ok) (w : World) : Does Try.prog 9 [s.v, .bool d, .int .u8 z] w fun v w' => v = (next s d z).v ∧ Grows w w' := by
  obtain ⟨p, x, y, f, e⟩ := s
  obtain ⟨hx, hy⟩ := ho
  have hx : x < 256 := hx
  have hy : y < 256 := hy
  refine s9 rfl ?_
  refine (SH.nil w).boxK [_, _, _, _, _] fun b1 w1 hL => ?_
  refine hL.newK fun b2 w2 hL => ?_
  refine cut_rule [8, 9, 10, 11, 12, 13, 14, 15, 16, 17, 18, 19, 20, 21, 22, 23, 24, 25, 26, 27, 28, 29, 30, 31, 32, 33, 34, 35, 36, 37, 38, 39] rfl [] (fun _ => []) (fun (s : Nat × Nat) w' => p = 6 ∧ s.1 < 256 ∧ s.2 < 256 ∧
    (∀ u, marked ⟨p, x, y, f, e⟩ s.1 s.2 = u → next ⟨p, x, y, f, e⟩ d z = u) ∧ SH w w' [Cl b1 28 [.int .u8 p, .int .u8 s.1, .int .u8 s.2, .bool f, .bool e], Cl b2 28 [.int .u8 0, .int .u8 0, .int .u8 0, .bool false, .bool false]]) ?_ ?_
  · refine ⟨_, hL.ld rfl, ?_⟩
    by_cases h6 : p = 6
    rotate_left
    · refine ⟨true, decide_eq_true (show ((p : Int) ≠ _) by omega), ?_⟩
      refine ⟨_, hL.lds rfl, ?_⟩
      refine hL.stK [_, _, _, _, _] fun w2 hL => ?_
      refine ⟨_, hL.lds rfl, ?_⟩
      exact ⟨by simp [next, h6]; rfl, hL.grown⟩
    subst h6
    refine ⟨false, rfl, ?_⟩
    refine ⟨_, hL.ld rfl, ?_⟩
    cases e
    case true =>
      cases d
      case false =>
        refine ⟨_, hL.ld rfl, ?_⟩
        refine ⟨_, or8 y z hy hz, ?_⟩
        refine ⟨_, and8 (y ||| z) 7 (Nat.or_lt_two_pow (n := 8) hy hz) (by decide), ?_⟩
        refine hL.stK [_] fun w3 hL => ?_
        exact ⟨(x, (y ||| z) &&& 7), rfl, rfl, hx, Nat.lt_of_le_of_lt Nat.and_le_right (by decide), fun u hu => by subst hu; rfl, hL⟩
      refine (opens_spec _ hz _).mono ?_
      rintro _ _ ⟨rfl, rfl⟩
      cases ho : opens z
      case true =>
        refine ⟨_, hL.ld rfl, ?_⟩
        refine ⟨rfl, _, rfl, ?_⟩
        refine hL.stK [_, _, _, _, _] fun w2 hL => ?_
        refine ⟨_, hL.lds rfl, ?_⟩
        exact ⟨by simp [next, ho]; rfl, hL.grown⟩
      refine ⟨_, hL.ld rfl, ?_⟩
      refine ⟨_, or8 x z hx hz, ?_⟩
      refine ⟨_, and8 (x ||| z) 7 (Nat.or_lt_two_pow (n := 8) hx hz) (by decide), ?_⟩
      refine hL.stK [_] fun w3 hL => ?_
      exact ⟨((x ||| z) &&& 7, y), rfl, rfl, Nat.lt_of_le_of_lt Nat.and_le_right (by decide), hy, fun u hu => by subst hu; simp [next, ho], hL⟩
    cases d
    case false =>
      refine ⟨_, hL.ld rfl, ?_⟩
      refine ⟨_, or8 y z hy hz, ?_⟩
      refine ⟨_, and8 (y ||| z) 7 (Nat.or_lt_two_pow (n := 8) hy hz) (by decide), ?_⟩
      refine hL.stK [_] fun w3 hL => ?_
      exact ⟨(x, (y ||| z) &&& 7), rfl, rfl, hx, Nat.lt_of_le_of_lt Nat.and_le_right (by decide), fun u hu => by subst hu; rfl, hL⟩
    refine ⟨_, hL.ld rfl, ?_⟩
    refine ⟨_, or8 x z hx hz, ?_⟩
    refine ⟨_, and8 (x ||| z) 7 (Nat.or_lt_two_pow (n := 8) hx hz) (by decide), ?_⟩
    refine hL.stK [_] fun w3 hL => ?_
    exact ⟨((x ||| z) &&& 7, y), rfl, rfl, Nat.lt_of_le_of_lt Nat.and_le_right (by decide), hy, fun u hu => by subst hu; rfl, hL⟩
  rintro g ⟨a, b⟩ w3 ⟨rfl, ha, hb, hm, hL⟩
  have ha : a < 256 := ha
  have hb : b < 256 := hb
  have hm := hm _ rfl
  have hab : a &&& b < 256 := Nat.lt_of_le_of_lt Nat.and_le_left ha
  have hob : a ||| b < 256 := Nat.or_lt_two_pow (n := 8) ha hb
  rw [hm]
  clear hm
  refine ⟨_, hL.ld rfl, ?_⟩
  refine ⟨_, hL.ld rfl, ?_⟩
  refine ⟨_, and8 a b ha hb, ?_⟩
  refine cut_rule [45, 46, 47, 48, 49, 50, 51, 52] rfl [] (fun _ => []) (fun (f1 : Bool) w' => (f || decide (a &&& b &&& 2 ≠ 0)) = f1 ∧ SH w w' [Cl b1 28 [.int .u8 6, .int .u8 a, .int .u8 b, .bool f1, .bool e], Cl b2 28 [.int .u8 0, .int .u8 0, .int .u8 0, .bool false, .bool false]]) ?_ ?_
  · refine ⟨_, hL.ld rfl, ?_⟩
    cases f
    case false =>
      refine ⟨_, and8 (a &&& b) 2 hab (by decide), ?_⟩
      refine ⟨decide (a &&& b &&& 2 ≠ 0), ne0 _, ?_⟩
      refine hL.stK [_] fun w3 hL => ?_
      exact ⟨_, rfl, rfl, hL⟩
    refine hL.stK [_] fun w3 hL => ?_
    exact ⟨_, rfl, rfl, hL⟩
  rintro g2 f1 w4 ⟨hf, hL⟩
  have hf : _ = f1 := hf
  unfold marked
  refine ⟨_, hL.ld rfl, ?_⟩
  simp only [hf]
  cases e
  case true =>
    refine hL.stK [_] fun w3 hL => ?_
    refine ⟨_, hL.lds rfl, ?_⟩
    refine hL.stK [_, _, _, _, _] fun w2 hL => ?_
    refine ⟨_, hL.lds rfl, ?_⟩
    exact ⟨rfl, hL.grown⟩
  refine ⟨_, hL.ld rfl, ?_⟩
  refine ⟨_, hL.ld rfl, ?_⟩
  refine ⟨_, or8 a b ha hb, ?_⟩
  refine ⟨_, and8 (a ||| b) 4 hob (by decide), ?_⟩
  refine ⟨decide ((a ||| b) &&& 4 ≠ 0), ne0 _, ?_⟩
  cases h4 : decide ((a ||| b) &&& 4 ≠ 0)
  case true =>
    refine hL.stK [_] fun w3 hL => ?_
    refine ⟨_, hL.lds rfl, ?_⟩
    refine hL.stK [_, _, _, _, _] fun w2 hL => ?_
    refine ⟨_, hL.lds rfl, ?_⟩
    exact ⟨rfl, hL.grown⟩
  refine ⟨_, and8 (a &&& b) 1 hab (by decide), ?_⟩
  refine ⟨decide (a &&& b &&& 1 ≠ 0), ne0 _, ?_⟩
  refine hL.stK [_] fun w3 hL => ?_
  refine ⟨_, hL.lds rfl, ?_⟩
  refine hL.stK [_, _, _, _, _] fun w2 hL => ?_
  refine ⟨_, hL.lds rfl, ?_⟩
  exact ⟨rfl, hL.grown⟩

def Post' (v : Value) (w : World) : Value → World → Prop := fun u w' => u = v ∧ Grows w w'
theorem alive_spec (w : World) : Does Try.prog 6 [] w fun v w' => v = .bool true ∧ Grows w w' := by
  have B1 : begin_ 6 2 = (⟨6, 2, 0, false, false⟩, 0) := by decide
  have B2 : begin_ 6 16 = (⟨0, 0, 0, false, false⟩, 19) := by decide
  have B3 : begin_ 99 2 = (⟨0, 0, 0, false, false⟩, 14) := by decide
  have B4 : begin_ 17 0 = (⟨17, 0, 0, false, false⟩, 0) := by decide
  have N1 : next ⟨6, 2, 0, false, false⟩ false 18 = ⟨6, 2, 2, true, false⟩ := by decide
  have N2 : next ⟨6, 2, 2, true, false⟩ true 1 = ⟨6, 3, 2, true, false⟩ := by decide
  have N3 : next ⟨6, 3, 2, true, false⟩ false 17 = ⟨6, 3, 3, true, true⟩ := by decide
  have N4 : next ⟨6, 3, 3, true, true⟩ true 2 = ⟨6, 2, 0, false, false⟩ := by decide
  have N5 : next ⟨6, 2, 2, true, false⟩ false 4 = ⟨6, 2, 6, true, true⟩ := by decide
  have okk : ∀ k a b f c, a < 8 → b < 8 → St.ok ⟨k, a, b, f, c⟩ := fun k a b f c ha hb => ⟨Nat.lt_trans ha (by decide), Nat.lt_trans hb (by decide)⟩
  refine s6 rfl ?_
  refine (least_spec _).mono ?_
  rintro _ w1 ⟨rfl, hg⟩
  have hL := (SH.nil w).grows hg
  refine hL.newK fun b1 w2 hL => ?_
  refine hL.stK [_, _, _, _] fun w3 hL => ?_
  refine (begin_spec 6 2 (by decide) _).mono ?_
  rintro v w4 ⟨hv, hg⟩
  rw [B1] at hv
  subst hv
  have hL := hL.grows hg
  refine hL.newK fun b2 w5 hL => ?_
  refine hL.stK [_, _, _, _, _] fun w6 hL => ?_
  refine (begin_spec 6 16 (by decide) _).mono ?_
  rintro v w7 ⟨hv, hg⟩
  rw [B2] at hv
  subst hv
  have hL := hL.grows hg
  refine hL.newK fun b4 w8 hL => ?_
  refine hL.stK [_, _, _, _, _] fun w9 hL => ?_
  refine (begin_spec 99 2 (by decide) _).mono ?_
  rintro v w10 ⟨hv, hg⟩
  rw [B3] at hv
  subst hv
  have hL := hL.grows hg
  refine hL.newK fun b6 w11 hL => ?_
  refine hL.stK [_, _, _, _, _] fun w12 hL => ?_
  refine ⟨_, hL.lds rfl, ?_⟩
  refine (next_spec ⟨6, 2, 0, false, false⟩ false 18 (by decide) (okk _ _ _ _ _ (by decide) (by decide)) _).mono ?_
  rintro v w13 ⟨hv, hg⟩
  rw [N1] at hv
  subst hv
  have hL := hL.grows hg
  refine hL.newK fun b8 w14 hL => ?_
  refine hL.stK [_, _, _, _, _] fun w15 hL => ?_
  refine ⟨_, hL.lds rfl, ?_⟩
  refine (next_spec ⟨6, 2, 2, true, false⟩ true 1 (by decide) (okk _ _ _ _ _ (by decide) (by decide)) _).mono ?_
  rintro v w16 ⟨hv, hg⟩
  rw [N2] at hv
  subst hv
  have hL := hL.grows hg
  refine hL.newK fun b9 w17 hL => ?_
  refine hL.stK [_, _, _, _, _] fun w18 hL => ?_
  refine ⟨_, hL.lds rfl, ?_⟩
  refine (next_spec ⟨6, 3, 2, true, false⟩ false 17 (by decide) (okk _ _ _ _ _ (by decide) (by decide)) _).mono ?_
  rintro v w19 ⟨hv, hg⟩
  rw [N3] at hv
  subst hv
  have hL := hL.grows hg
  refine hL.newK fun b10 w20 hL => ?_
  refine hL.stK [_, _, _, _, _] fun w21 hL => ?_
  refine ⟨_, hL.lds rfl, ?_⟩
  refine (next_spec ⟨6, 3, 3, true, true⟩ true 2 (by decide) (okk _ _ _ _ _ (by decide) (by decide)) _).mono ?_
  rintro v w22 ⟨hv, hg⟩
  rw [N4] at hv
  subst hv
  have hL := hL.grows hg
  refine hL.newK fun b11 w23 hL => ?_
  refine hL.stK [_, _, _, _, _] fun w24 hL => ?_
  refine (begin_spec 17 0 (by decide) _).mono ?_
  rintro v w25 ⟨hv, hg⟩
  rw [B4] at hv
  subst hv
  have hL := hL.grows hg
  refine hL.newK fun b12 w26 hL => ?_
  refine hL.stK [_, _, _, _, _] fun w27 hL => ?_
  refine reframe [1, 2, 3, 5, 7, 8, 9, 10, 11, 12, 13] [.pointer (some ⟨b1, 0, none⟩), .pointer (some ⟨b2, 0, none⟩), .int .i64 0, .int .i64 19, .int .i64 14, .pointer (some ⟨b8, 0, none⟩), .pointer (some ⟨b9, 0, none⟩), .pointer (some ⟨b10, 0, none⟩), .pointer (some ⟨b11, 0, none⟩), .pointer (some ⟨b12, 0, none⟩), .int .i64 0] rfl fun g => ?_
  refine row_in ?_
  refine ⟨_, hL.lds rfl, ?_⟩
  refine (right_spec 120 240 7440 60 _).mono ?_
  rintro v w28 ⟨hv, hg⟩
  rw [show right 120 240 7440 60 = true by decide] at hv
  subst hv
  have hL := hL.grows hg
  refine ⟨true, rfl, ?_⟩
  refine ⟨true, rfl, ?_⟩
  refine ⟨true, rfl, ?_⟩
  refine ⟨true, rfl, ?_⟩
  refine ⟨_, hL.lds rfl, ?_⟩
  refine ⟨_, hL.lds rfl, ?_⟩
  refine (life_spec ⟨6, 2, 0, false, false⟩ 120 240 7440 60 _).mono ?_
  rintro _ w29 ⟨rfl, hg⟩
  have hL := hL.grows hg
  refine ⟨true, rfl, ?_⟩
  refine ⟨_, hL.ld rfl, ?_⟩
  refine ⟨_, hL.lds rfl, ?_⟩
  refine ⟨_, hL.lds rfl, ?_⟩
  refine (life_spec ⟨6, 2, 2, true, false⟩ 120 240 7440 60 _).mono ?_
  rintro _ w30 ⟨rfl, hg⟩
  have hL := hL.grows hg
  refine ⟨true, rfl, ?_⟩
  refine ⟨_, hL.ld rfl, ?_⟩
  refine ⟨true, rfl, ?_⟩
  refine ⟨_, hL.lds rfl, ?_⟩
  refine ⟨_, hL.lds rfl, ?_⟩
  refine (life_spec ⟨6, 3, 2, true, false⟩ 120 240 7440 60 _).mono ?_
  rintro _ w31 ⟨rfl, hg⟩
  have hL := hL.grows hg
  refine ⟨true, rfl, ?_⟩
  refine ⟨_, hL.ld rfl, ?_⟩
  refine ⟨_, hL.lds rfl, ?_⟩
  refine ⟨_, hL.lds rfl, ?_⟩
  refine (life_spec ⟨6, 3, 3, true, true⟩ 120 240 7440 60 _).mono ?_
  rintro _ w32 ⟨rfl, hg⟩
  have hL := hL.grows hg
  refine ⟨true, rfl, ?_⟩
  refine ⟨_, hL.lds rfl, ?_⟩
  refine ⟨_, hL.lds rfl, ?_⟩
  refine ⟨true, rfl, ?_⟩
  refine ⟨_, hL.lds rfl, ?_⟩
  refine ⟨_, hL.lds rfl, ?_⟩
  refine (life_spec ⟨17, 0, 0, false, false⟩ 120 240 7440 60 _).mono ?_
  rintro _ w33 ⟨rfl, hg⟩
  have hL := hL.grows hg
  refine ⟨true, rfl, ?_⟩
  refine ⟨_, hL.lds rfl, ?_⟩
  refine (most_spec 120 240 7440 60 _).mono ?_
  rintro _ w34 ⟨rfl, hg⟩
  have hL := hL.grows hg
  refine ⟨true, rfl, ?_⟩
  refine ⟨_, hL.lds rfl, ?_⟩
  refine (next_spec ⟨6, 2, 2, true, false⟩ false 4 (by decide) (okk _ _ _ _ _ (by decide) (by decide)) _).mono ?_
  rintro v w35 ⟨hv, hg⟩
  rw [N5] at hv
  subst hv
  have hL := hL.grows hg
  refine ⟨.bool true, rfl, ?_⟩
  exact ⟨rfl, hL.grown⟩
end Go.Proofs.Ytmingejcddhdeaa
