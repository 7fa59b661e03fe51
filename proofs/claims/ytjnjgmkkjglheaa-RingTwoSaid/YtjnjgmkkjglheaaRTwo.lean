/- RingTwo, walked: two rings on one pool never have a buffer in common. -/
import Derived.Test.YtjnjgmkkjglheaaRHas
namespace Go.Proofs.Ytjnjgmkkjglheaa
open Go Go.Den
attribute [local irreducible] wpC
/-- Two rings on one pool; m3 buffers lie aside. -/
structure DuoP (n : Nat) (oa ob : Int) (Ga Gb : Rg) (b : List Buf) (m3 : Nat) : Prop where
  oka : Ga.ok
  okb : Gb.ok
  good : Good b
  len : b.length = n
  hasa : Has oa Ga b
  hasb : Has ob Gb b
  c3 : cnt b 3 = m3
  tot : cnt b 0 + cnt b 1 + cnt b 2 + cnt b 3 = n
  oo : (oa = 1 ∧ ob = 2) ∨ (oa = 2 ∧ ob = 1)
theorem DuoP.swap {n : Nat} {oa ob : Int} {Ga Gb : Rg} {b : List Buf} {m3 : Nat} (H : DuoP n oa ob Ga Gb b m3) : DuoP n ob oa Gb Ga b m3 :=
  ⟨H.okb, H.oka, H.good, H.len, H.hasb, H.hasa, H.c3, H.tot, by have := H.oo; omega⟩
theorem tot_set {b : List Buf} {i : Nat} {B C : Buf} (hB : b[i]? = some B) (h1 : B.own = 0 ∨ B.own = 1 ∨ B.own = 2 ∨ B.own = 3) (h2 : C.own = 0 ∨ C.own = 1 ∨ C.own = 2 ∨ C.own = 3) :
    cnt (b.set i C) 0 + cnt (b.set i C) 1 + cnt (b.set i C) 2 + cnt (b.set i C) 3 = cnt b 0 + cnt b 1 + cnt b 2 + cnt b 3 := by
  have e0 := cnt_set hB C 0
  have e1 := cnt_set hB C 1
  have e2 := cnt_set hB C 2
  have e3 := cnt_set hB C 3
  rcases h1 with h1 | h1 | h1 | h1 <;> rcases h2 with h2 | h2 | h2 | h2 <;> rw [h1, h2] at e0 e1 e2 e3 <;> simp at e0 e1 e2 e3 <;> omega
theorem DuoP.put {n : Nat} {oa ob : Int} {Ga Gb : Rg} {b : List Buf} {m3 : Nat} (H : DuoP n oa ob Ga Gb b m3) (s : Value) (bs : List Int) : DuoP n oa ob (putG Ga b bs.length) Gb (putB Ga b s bs) m3 := by
  have hoo := H.oo
  have hgood := H.good.put Ga s bs
  have hok := H.oka.put b bs.length
  have hlen : (putB Ga b s bs).length = n := by rw [putB_length]; exact H.len
  unfold putG at hok ⊢
  by_cases hr : Ga.many < Ga.slots.length
  · have e1 : putE Ga b bs.length = takeE b Ga.own bs.length := if_pos hr
    have e3 : putB Ga b s bs = takeB b Ga.own s bs := if_pos hr
    rw [e1] at hok ⊢
    rw [e3] at hgood hlen ⊢
    by_cases he : takeE b Ga.own bs.length = 0
    · obtain ⟨ho, _, i, B, hf, hB, hBo, _⟩ := take_zero he
      obtain ⟨hN, hTB⟩ := take_yes he hf s
      rw [if_pos he] at hok ⊢
      rw [hN] at hok ⊢
      rw [hTB] at hgood hlen ⊢
      have hao := H.hasa.own
      have c3 := cnt_set hB ⟨Ga.own, s, bs⟩ 3
      rw [if_neg (by omega), if_neg (show ¬ Ga.own = 3 by omega)] at c3
      exact ⟨hok, H.okb, hgood, hlen, H.hasa.lay H.oka hr hB (by omega) hao, H.hasb.other hB (by omega) (show Ga.own ≠ ob by omega), by have := H.c3; omega,
        by rw [tot_set hB (.inl hBo) (show Ga.own = 0 ∨ Ga.own = 1 ∨ Ga.own = 2 ∨ Ga.own = 3 by omega)]; exact H.tot, hoo⟩
    · obtain ⟨hN, hTB⟩ := take_no rfl he s
      rw [if_neg he] at hok ⊢
      rw [hTB] at hgood hlen ⊢
      exact ⟨hok, H.okb, hgood, hlen, H.hasa.lost, H.hasb, H.c3, H.tot, hoo⟩
  · have e1 : putE Ga b bs.length = 18 := if_neg hr
    have e3 : putB Ga b s bs = b := if_neg hr
    rw [e1, if_neg (by decide)] at hok ⊢
    rw [e3] at hgood hlen ⊢
    exact ⟨hok, H.okb, hgood, hlen, H.hasa.lost, H.hasb, H.c3, H.tot, hoo⟩
theorem DuoP.take {n : Nat} {oa ob : Int} {Ga Gb : Rg} {b : List Buf} {m3 : Nat} (H : DuoP n oa ob Ga Gb b m3) : DuoP n oa ob (takeoG Ga) Gb (takeoB Ga b) m3 := by
  have hoo := H.oo
  have hgood := H.good.takeo Ga
  have hok := H.oka.takeo
  have hlen : (takeoB Ga b).length = n := by rw [takeoB_length]; exact H.len
  by_cases h0 : Ga.many = 0
  · have e2 : takeoG Ga = Ga := if_pos h0
    have e3 : takeoB Ga b = b := if_pos h0
    rw [e2, e3]
    exact H
  · have e2 : takeoG Ga = Ga.took := if_neg h0
    have e3 : takeoB Ga b = freeB b (Ga.at 0) Ga.own := if_neg h0
    obtain ⟨i, B, hat, hB, hBo, hfr, hhas⟩ := H.hasa.took (by omega) (owns_iff.2 (by omega))
    rw [e2] at hok ⊢
    rw [e3, hfr] at hgood hlen ⊢
    have c3 := cnt_set hB noBuf 3
    rw [if_neg (by omega), if_neg (show ¬ noBuf.own = 3 by decide)] at c3
    exact ⟨hok, H.okb, hgood, hlen, hhas, H.hasb.other hB (by omega) (show (0 : Int) ≠ ob by omega), by have := H.c3; omega,
      by rw [tot_set hB (show B.own = 0 ∨ B.own = 1 ∨ B.own = 2 ∨ B.own = 3 by omega) (.inl rfl)]; exact H.tot, hoo⟩
/-- A buffer is taken aside; then moved to a ring, or freed. -/
theorem DuoP.ptake {n : Nat} {oa ob : Int} {Ga Gb : Rg} {b : List Buf} (H : DuoP n oa ob Ga Gb b 0) (s : Value) (bs : List Int) (he : takeE b 3 bs.length = 0) :
    ∃ (i : Nat), takeN b 3 bs.length = i ∧ (takeB b 3 s bs)[i]? = some ⟨3, s, bs⟩ ∧ DuoP n oa ob Ga Gb (takeB b 3 s bs) 1 := by
  have hoo := H.oo
  have hgood := H.good.take 3 s bs
  have hlen : (takeB b 3 s bs).length = n := by rw [takeB_length]; exact H.len
  obtain ⟨ho, _, i, B, hf, hB, hBo, _⟩ := take_zero he
  obtain ⟨hN, hTB⟩ := take_yes he hf s
  have hi := (List.getElem?_eq_some_iff.1 hB).1
  rw [hTB] at hgood hlen ⊢
  have c3 := cnt_set hB ⟨3, s, bs⟩ 3
  rw [if_neg (by omega), if_pos rfl] at c3
  exact ⟨i, hN, set_at hi _, H.oka, H.okb, hgood, hlen, H.hasa.other hB (by omega) (show (3 : Int) ≠ oa by omega), H.hasb.other hB (by omega) (show (3 : Int) ≠ ob by omega), by have := H.c3; omega,
    by rw [tot_set hB (.inl hBo) (.inr (.inr (.inr rfl)))]; exact H.tot, hoo⟩
theorem DuoP.move {n : Nat} {oa ob : Int} {Ga Gb : Rg} {b : List Buf} (H : DuoP n oa ob Ga Gb b 1) {i : Nat} {s : Value} {bs : List Int} (hB : b[i]? = some ⟨3, s, bs⟩) :
    (moveE Ga b i 3 = 0 ∧ DuoP n oa ob (moveG Ga b i 3) Gb (moveB Ga b i 3) 0) ∨ (moveE Ga b i 3 ≠ 0 ∧ moveB Ga b i 3 = b ∧ DuoP n oa ob (moveG Ga b i 3) Gb b 1) := by
  have hoo := H.oo
  have hao := H.hasa.own
  by_cases hr : Ga.many < Ga.slots.length
  · left
    obtain ⟨hE, hHB⟩ := handB_set (t := Ga.own) hB (by rfl) (owns_iff.2 (by omega))
    have e1 : moveE Ga b i 3 = 0 := by unfold moveE; rw [if_pos hr]; exact hE
    have e3 : moveB Ga b i 3 = b.set i (withOwn Ga.own ⟨3, s, bs⟩) := by unfold moveB; rw [if_pos hr]; exact hHB
    have e2 : moveG Ga b i 3 = Ga.lay i := by unfold moveG; rw [e1, if_pos rfl]
    have hgood := H.good.move Ga i 3
    have hlen : (moveB Ga b i 3).length = n := by rw [moveB_length]; exact H.len
    rw [e2, e3]
    rw [e3] at hgood hlen
    have c3 := cnt_set hB (withOwn Ga.own ⟨3, s, bs⟩) 3
    rw [if_pos rfl, if_neg (show ¬ (withOwn Ga.own ⟨3, s, bs⟩).own = 3 from fun h => by have : Ga.own = 3 := h; omega)] at c3
    exact ⟨e1, H.oka.lay hr _, H.okb, hgood, hlen, H.hasa.lay H.oka hr hB (show (3 : Int) ≠ oa by omega) hao, H.hasb.other hB (show (3 : Int) ≠ ob by omega) (show Ga.own ≠ ob by omega), by have := H.c3; omega,
      by rw [tot_set hB (.inr (.inr (.inr rfl))) (show Ga.own = 0 ∨ Ga.own = 1 ∨ Ga.own = 2 ∨ Ga.own = 3 by omega)]; exact H.tot, hoo⟩
  · right
    have e1 : moveE Ga b i 3 = 18 := if_neg hr
    have e3 : moveB Ga b i 3 = b := if_neg hr
    have e2 : moveG Ga b i 3 = Ga.lost := by unfold moveG; rw [e1, if_neg (by decide)]
    rw [e2]
    exact ⟨by rw [e1]; decide, e3, H.oka.lost, H.okb, H.good, H.len, H.hasa.lost, H.hasb, H.c3, H.tot, hoo⟩
theorem DuoP.free {n : Nat} {oa ob : Int} {Ga Gb : Rg} {b : List Buf} (H : DuoP n oa ob Ga Gb b 1) {i : Nat} {s : Value} {bs : List Int} (hB : b[i]? = some ⟨3, s, bs⟩) :
    errOf b i 3 = 0 ∧ DuoP n oa ob Ga Gb (freeB b i 3) 0 := by
  have hoo := H.oo
  have hE : errOf b i 3 = 0 := errOf_hit hB (by rfl)
  have hgood := H.good.free i 3
  have hlen : (freeB b i 3).length = n := by rw [freeB_length]; exact H.len
  have e : freeB b i 3 = b.set i noBuf := by unfold freeB; rw [hE, if_pos rfl, Int.toNat_natCast, modify_at _ hB]
  rw [e] at hgood hlen ⊢
  have c3 := cnt_set hB noBuf 3
  rw [if_pos rfl, if_neg (show ¬ noBuf.own = 3 by decide)] at c3
  exact ⟨hE, H.oka, H.okb, hgood, hlen, H.hasa.other hB (show (3 : Int) ≠ oa by omega) (show (0 : Int) ≠ oa by omega), H.hasb.other hB (show (3 : Int) ≠ ob by omega) (show (0 : Int) ≠ ob by omega), by have := H.c3; omega,
    by rw [tot_set hB (.inr (.inr (.inr rfl))) (.inl rfl)]; exact H.tot, hoo⟩
structure Duo (w0 w : World) (R : List Atom) (ra p rb : Nat) (sa sb h : Home) (n : Nat) (oa ob : Int) (Ga Gb : Rg) (b : List Buf) (m3 : Nat) : Prop where
  hL : SH w0 w (RingS ra sa p Ga (PoolS 82 87 p h b (RingS rb sb p Gb R)))
  pure : DuoP n oa ob Ga Gb b m3
section
variable {w0 w : World} {R : List Atom} {ra p rb : Nat} {sa sb h : Home} {n : Nat} {oa ob : Int} {Ga Gb : Rg} {b : List Buf} {m3 : Nat}
theorem Duo.grows {w' : World} (H : Duo w0 w R ra p rb sa sb h n oa ob Ga Gb b m3) (g : Grows w w') : Duo w0 w' R ra p rb sa sb h n oa ob Ga Gb b m3 := ⟨H.hL.grows g, H.pure⟩
theorem Duo.swap (H : Duo w0 w R ra p rb sa sb h n oa ob Ga Gb b m3) : Duo w0 w R rb p ra sb sa h n ob oa Gb Ga b m3 :=
  ⟨H.hL.perm (turn3 (RingS ra sa p Ga []) (PoolS 82 87 p h b []) (RingS rb sb p Gb []) R), H.pure.swap⟩
theorem Duo.pool (H : Duo w0 w R ra p rb sa sb h n oa ob Ga Gb b m3) : PoolR 82 87 w p h b := (ring_pool H.hL).poolR
theorem Duo.aside (H : Duo w0 w R ra p rb sa sb h n oa ob Ga Gb b m3) : SH w0 w R := H.hL.tail.tail.tail.tail.tail.tail.tail
theorem duo_sub {R' : List Atom} (H : Duo w0 w R' ra p rb sa sb h n oa ob Ga Gb b m3) (hs : R.Sublist R') : Duo w0 w R ra p rb sa sb h n oa ob Ga Gb b m3 :=
  ⟨H.hL.sub (.cons_cons _ (.cons_cons _ (.cons_cons _ (.cons_cons _ (.cons_cons _ (.cons_cons _ (.cons_cons _ hs))))))), H.pure⟩
theorem duo_in (X : List Atom) (hL : SH w0 w (X ++ RingS ra sa p Ga (PoolS 82 87 p h b (RingS rb sb p Gb R)))) (hp : DuoP n oa ob Ga Gb b m3) : Duo w0 w (X ++ R) ra p rb sa sb h n oa ob Ga Gb b m3 :=
  ⟨hL.perm ((List.perm_append_comm_assoc X (RingS ra sa p Ga (PoolS 82 87 p h b (RingS rb sb p Gb []))) R)), hp⟩
end
set_option maxHeartbeats 16000000 in
theorem ringtwo_walk {w : World} {a : Option Addr} {len cap : Nat} {C : Nat → Call2} (hC : CallsIn2 w a len C) (many : Int) :
    Does Try.prog 10 [.int .i64 many, .slice a len cap] w fun v w' => v = .bool true ∧ Grows w w' := by
  refine s10 rfl ?_
  refine row_in ?_
  refine if_in ?_
  refine (alive2_spec w).mono ?_
  rintro _ w1 ⟨rfl, hg1⟩
  refine ⟨false, rfl, ?_⟩
  refine skip_in ?_
  refine if_in ?_
  refine (great2_spec (hC.grows hg1) many).mono ?_
  rintro _ w1 ⟨rfl, g, rfl, hgr⟩
  cases g
  rotate_left
  · refine row_in ?_
    refine ret_in ?_
    exact ⟨rfl, hg1⟩
  obtain ⟨hmany, hlen, hbs⟩ := hgr rfl
  refine skip_in ?_
  refine row_in ?_
  refine (new_spec many w1).mono ?_
  rintro _ w2 ⟨hno, hyes⟩
  by_cases hout : many < 1 ∨ 1024 < many
  · obtain ⟨rfl, rfl⟩ := hno hout
    refine if_in ?_
    refine ⟨true, rfl, ?_⟩
    refine row_in ?_
    refine ⟨true, decide_eq_true (by omega), ?_⟩
    refine ret_in ?_
    exact ⟨rfl, hg1⟩
  obtain ⟨p, h, _, rfl, hP⟩ := hyes (by omega)
  have hL : SH w w2 (PoolS 82 87 p h (List.replicate many.toNat noBuf) []) := ((SH.nil w).grows hg1).join hP (newpool_unshared _ _ _ _ _)
  clear hyes hno hP
  obtain ⟨n, hn, rfl⟩ : ∃ n : Nat, n ≤ 100 ∧ many = n := ⟨many.toNat, by omega, by omega⟩
  have hpos : 1 ≤ n := by omega
  rw [Int.toNat_natCast] at hL
  refine if_in ?_
  refine ⟨false, rfl, ?_⟩
  refine skip_in ?_
  refine reframe [0, 1, 5] [.int .i64 n, .slice a len cap, ptr p] rfl fun g => ?_
  refine row_in ?_
  refine (ringnew_spec p 8 1 w2).mono ?_
  rintro _ w3 ⟨_, hyes⟩
  obtain ⟨ra, sa, rfl, hR⟩ := hyes (by decide) (by decide) rfl
  have hL := hL.join hR (ring_unshared _ _ _ _)
  clear hyes hR
  refine row_in ?_
  refine (ringnew_spec p 3 2 w3).mono ?_
  rintro _ w4 ⟨_, hyes⟩
  obtain ⟨rb, sb, rfl, hR⟩ := hyes (by decide) (by decide) rfl
  have hL := hL.join hR (ring_unshared _ _ _ _)
  clear hyes hR
  have H : Duo w w4 [] ra p rb sa sb h n 1 2 ⟨1, List.replicate 8 0, 0, 0, 0⟩ ⟨2, List.replicate 3 0, 0, 0, 0⟩ (List.replicate n noBuf) 0 := by
    refine ⟨hL.perm ?_, ⟨by decide, by decide, by decide, by decide⟩, ⟨by decide, by decide, by decide, by decide⟩, Good.new n, by simp, Has.new 1 n 8 (by decide), Has.new 2 n 3 (by decide), (Has.new 3 n 1 (by decide)).cnt, ?_, .inl ⟨rfl, rfl⟩⟩
    · refine (List.perm_append_comm_assoc (RingS rb sb p ⟨2, List.replicate 3 0, 0, 0, 0⟩ []) (RingS ra sa p ⟨1, List.replicate 8 0, 0, 0, 0⟩ []) _).trans (List.Perm.append_left (RingS ra sa p ⟨1, List.replicate 8 0, 0, 0, 0⟩ []) ?_)
      exact List.perm_append_comm_assoc (RingS rb sb p ⟨2, List.replicate 3 0, 0, 0, 0⟩ []) (PoolS 82 87 p h (List.replicate n noBuf) []) []
    · rw [(Has.new 1 n 1 (by decide)).cnt, (Has.new 2 n 1 (by decide)).cnt, (Has.new 3 n 1 (by decide)).cnt]
      show Go.Proofs.Ytjnjgmkkjglheaa.cnt (List.replicate n noBuf) 0 + 0 + 0 + 0 = n
      unfold Go.Proofs.Ytjnjgmkkjglheaa.cnt
      rw [List.countP_replicate]
      rfl
  clear hL
  refine if_in ?_
  refine ⟨false, rfl, ?_⟩
  refine ⟨false, rfl, ?_⟩
  refine skip_in ?_
  refine reframe [0, 1, 5, 7, 9] [.int .i64 n, .slice a len cap, ptr p, ptr ra, ptr rb] rfl fun g => ?_
  refine seq_in (row_in ?_)
  refine block_in ?_
  refine loop_rule (4 :: List.range' 11 5 ++ List.range' 46 86) rfl [11] (fun (i : Nat) => [.int .i64 i]) (fun i w' => i ≤ len ∧ ∃ Ga Gb b, Duo w w' [] ra p rb sa sb h n 1 2 Ga Gb b 0) (fun i => len - i) 0 rfl ⟨Nat.zero_le _, _, _, _, H⟩ ?_
  clear H
  rintro g2 i w5 ⟨hi, Ga, Gb, b, H⟩
  refine if_in ?_
  by_cases hil : i < len
  rotate_left
  · refine ⟨false, decide_eq_false (by omega), ?_⟩
    refine exit_in ?_
    refine row_in ?_
    refine ret_in ?_
    exact ⟨rfl, H.hL.grown⟩
  refine ⟨true, decide_eq_true (by omega), ?_⟩
  refine skip_in ?_
  have hg5 : Grows w w5 := H.hL.grown
  obtain ⟨x, rfl, hlds⟩ := (hC.grows hg5).lds hil
  have hk := hC.bytes i hil
  have hkb := hbs i hil
  refine block_then ?_
  refine row_in ?_
  refine ⟨⟨by omega, by omega⟩, _, rfl, ?_⟩
  refine ⟨_, hlds, ?_⟩
  generalize C i = k at *
  refine H.hL.newK fun b12 w6 hL => ?_
  refine hL.stK [_, _, _, _] fun w7 hL => ?_
  have H : Duo w w7 [Cl b12 64 k.l] ra p rb sa sb h n 1 2 Ga Gb b 0 := duo_in [Cl b12 64 k.l] hL H.pure
  clear hL hg5 hlds
  refine row_in ?_
  refine reframe [0, 1, 5, 7, 9, 11, 12, 13] [.int .i64 n, .slice (some x) len cap, ptr p, ptr ra, ptr rb, .int .i64 i, ptr b12, ptr ra] rfl fun g => ?_
  refine cut_rule (13 :: List.range' 57 5) rfl [13] (fun (rx : Nat) => [ptr rx]) (fun rx w' => ∃ ry sx sy ox oy Gx Gy b, Duo w w' [Cl b12 64 k.l] rx p ry sx sy h n ox oy Gx Gy b 0 ∧
      (∀ w' R Gx Gy b, Duo w w' R rx p ry sx sy h n ox oy Gx Gy b 0 → ∃ Ga Gb, Duo w w' R ra p rb sa sb h n 1 2 Ga Gb b 0)) ?_ ?_
  · refine row_in ?_
    refine ⟨_, H.aside.ld rfl, ?_⟩
    refine ⟨by decide, _, rfl, ?_⟩
    by_cases hodd : k.buffer.tmod 2 = 0
    · refine ⟨false, decide_eq_false (fun h => h hodd), ?_⟩
      refine cond_in ?_
      refine skip_in ?_
      exact ⟨ra, rfl, _, _, _, _, _, _, _, _, H, fun w' R Gx Gy b H => ⟨Gx, Gy, H⟩⟩
    · refine ⟨true, decide_eq_true hodd, ?_⟩
      refine cond_in ?_
      refine ops_in ?_
      exact ⟨rb, rfl, _, _, _, _, _, _, _, _, H.swap, fun w' R Gx Gy b H => ⟨Gy, Gx, H.swap⟩⟩
  clear H
  rintro g3 rx w8 ⟨ry, sx, sy, ox, oy, Gx, Gy, b2, H, hback⟩
  refine reframe [0, 1, 5, 7, 9, 11, 12, 13] [.int .i64 n, .slice (some x) len cap, ptr p, ptr ra, ptr rb, .int .i64 i, ptr b12, ptr rx] rfl fun g => ?_
  refine cut_rule (4 :: 14 :: 15 :: List.range' 62 38) rfl [] (fun (_ : Unit) => []) (fun _ w' => ∃ Ga Gb b, Duo w w' [] ra p rb sa sb h n 1 2 Ga Gb b 0) ?_ ?_
  · have fin : ∀ {w' : World} {R : List Atom} {Gx Gy : Rg} {b : List Buf}, Duo w w' R rx p ry sx sy h n ox oy Gx Gy b 0 → ∃ Ga Gb b, Duo w w' [] ra p rb sa sb h n 1 2 Ga Gb b 0 := fun {w' R Gx Gy b} H => by
      obtain ⟨Ga, Gb, H⟩ := hback w' R Gx Gy b H
      exact ⟨Ga, Gb, b, duo_sub H (List.nil_sublist _)⟩
    refine row_in ?_
    refine ⟨_, H.aside.ld rfl, ?_⟩
    refine block_in ?_
    refine row_in ?_
    by_cases h0 : k.what = 0
    · refine ⟨true, decide_eq_true h0, ?_⟩
      refine cond_in ?_
      refine ops_in ?_
      refine ⟨_, H.aside.ld rfl, ?_⟩
      refine (own_spec (hk.old H.hL) (vals_one _) (by omega)).mono ?_
      rintro v w9 ⟨A, hv, hA⟩
      have hr := hv.reads hA.holds
      have H := H.grows hA.grown
      obtain ⟨va, vc, rfl⟩ := hv.slice
      refine (put_spec H.hL H.pure.oka hr (by rw [H.pure.len]; omega)).mono ?_
      rintro _ w10 ⟨rfl, s, hL⟩
      exact ⟨(), rfl, fin ⟨hL, H.pure.put s k.bs⟩⟩
    refine ⟨false, decide_eq_false h0, ?_⟩
    refine cond_in ?_
    refine cut_rule (71 :: 72 :: 73 :: []) rfl [71] (fun (t : Bool) => [.bool t]) (fun _ w' => Duo w w' [Cl b12 64 k.l] rx p ry sx sy h n ox oy Gx Gy b2 0) ?_ ?_
    · refine row_in ?_
      refine ⟨decide (k.what = 1), rfl, ?_⟩
      cases decide (k.what = 1)
      · refine cond_in ?_
        refine ops_in ?_
        refine ⟨decide (k.what = 3), rfl, ?_⟩
        exact ⟨_, rfl, H⟩
      · refine cond_in ?_
        refine skip_in ?_
        exact ⟨true, rfl, H⟩
    clear H
    rintro g4 t w9 H
    have H : Duo w w9 [Cl b12 64 k.l] rx p ry sx sy h n ox oy Gx Gy b2 0 := H
    cases t
    · refine cond_in ?_
      refine row_in ?_
      refine ⟨decide (k.what = 2), rfl, ?_⟩
      cases decide (k.what = 2)
      · refine cond_in ?_
        refine skip_in ?_
        exact ⟨(), rfl, fin H⟩
      · refine cond_in ?_
        refine ops_in ?_
        refine (ringtake_spec H.hL H.pure.oka (fun B hB => Nat.le_trans (H.pure.good.small B hB) (by decide))).mono ?_
        rintro _ w10 ⟨y, A, rfl, _, hL⟩
        exact ⟨(), rfl, fin (R := [Cl b12 64 k.l]) ⟨hL.sub (.cons_cons _ (.cons_cons _ (.cons_cons _ (.cons_cons _ (.cons_cons _ (List.sublist_append_right A _)))))), H.pure.take⟩⟩
    refine cond_in ?_
    refine row_in ?_
    refine ⟨_, H.aside.ld rfl, ?_⟩
    refine (own_spec (hk.old H.hL) (vals_one _) (by omega)).mono ?_
    rintro v w10 ⟨A, hv, hA⟩
    have hr := hv.reads hA.holds
    have H := H.grows hA.grown
    obtain ⟨va, vc, rfl⟩ := hv.slice
    refine (take_spec (ring_pool H.hL) 3 hr (by rw [H.pure.len]; omega)).mono ?_
    rintro _ w11 ⟨s, rfl, hL⟩
    have hL := pool_ring hL
    refine reframe [5, 13, 14, 15] [ptr p, ptr rx, .int .i64 (takeN b2 3 k.bs.length), .int .i64 (takeE b2 3 k.bs.length)] rfl fun g => ?_
    refine row_in ?_
    by_cases he : takeE b2 3 k.bs.length = 0
    rotate_left
    · obtain ⟨_, hTB⟩ := take_no rfl he s
      rw [hTB] at hL
      refine ⟨false, decide_eq_false he, ?_⟩
      refine cond_in ?_
      refine skip_in ?_
      exact ⟨(), rfl, fin ⟨hL, H.pure⟩⟩
    obtain ⟨j, hN, hB, hpure⟩ := H.pure.ptake s k.bs he
    rw [hN]
    generalize takeB b2 3 s k.bs = b3 at *
    refine ⟨true, decide_eq_true he, ?_⟩
    refine (move_spec hL hpure.oka).mono ?_
    rintro _ w12 ⟨rfl, hL⟩
    rcases hpure.move hB with ⟨hE, hp⟩ | ⟨hE, hBB, hp⟩
    · refine ⟨false, decide_eq_false (fun h => h hE), ?_⟩
      refine cond_in ?_
      refine skip_in ?_
      exact ⟨(), rfl, fin ⟨hL, hp⟩⟩
    · rw [hBB] at hL
      refine ⟨true, decide_eq_true hE, ?_⟩
      refine (free_spec (ring_pool hL) j 3).mono ?_
      rintro _ w13 ⟨rfl, hL⟩
      obtain ⟨hF, hp⟩ := hp.free hB
      refine ⟨false, decide_eq_false (fun h => h hF), ?_⟩
      refine cond_in ?_
      refine skip_in ?_
      exact ⟨(), rfl, fin ⟨pool_ring hL, hp⟩⟩
  clear H hback
  rintro g3 _ w9 ⟨Ga, Gb, b, H⟩
  refine reframe [0, 1, 5, 7, 9, 11] [.int .i64 n, .slice (some x) len cap, ptr p, ptr ra, ptr rb, .int .i64 i] rfl fun g => ?_
  have hlb := H.pure.len
  have hta := H.pure.hasa.cnt
  have htb := H.pure.hasb.cnt
  have ht3 := H.pure.c3
  have htot := H.pure.tot
  have hh1 := held_cnt b (o := 1) rfl
  have hh2 := held_cnt b (o := 2) rfl
  have hh3 := held_cnt b (o := 3) rfl
  have hlf := left_cnt b
  refine row_in ?_
  refine (held_spec H.pool 1 (by omega)).mono ?_
  rintro v w10 ⟨A, hv, hA⟩
  obtain ⟨va, vc, rfl⟩ := hv.slice
  have H := H.grows hA.grown
  refine (len_spec H.hL).mono ?_
  rintro _ w10 ⟨rfl, rfl⟩
  refine ⟨false, decide_eq_false (fun h => h (by omega)), ?_⟩
  refine (held_spec H.pool 2 (by omega)).mono ?_
  rintro v w11 ⟨A2, hv2, hA2⟩
  obtain ⟨va2, vc2, rfl⟩ := hv2.slice
  have H := H.grows hA2.grown
  refine (len_spec H.swap.hL).mono ?_
  rintro _ w11 ⟨rfl, rfl⟩
  refine ⟨false, decide_eq_false (fun h => h (by omega)), ?_⟩
  refine (held_spec H.pool 3 (by omega)).mono ?_
  rintro v w12 ⟨A3, hv3, hA3⟩
  obtain ⟨va3, vc3, rfl⟩ := hv3.slice
  have H := H.grows hA3.grown
  refine ⟨false, decide_eq_false (fun h => h (by omega)), ?_⟩
  refine (left_spec H.pool (by omega)).mono ?_
  rintro _ w13 ⟨rfl, hg13⟩
  have H := H.grows hg13
  refine (len_spec H.hL).mono ?_
  rintro _ w13 ⟨rfl, rfl⟩
  refine ⟨((leftOf b + Ga.many : Nat) : Int), (IntWalk.i64_in _ (by omega)).trans (by omega), ?_⟩
  refine (len_spec H.swap.hL).mono ?_
  rintro _ w13 ⟨rfl, rfl⟩
  refine ⟨((leftOf b + Ga.many + Gb.many : Nat) : Int), (IntWalk.i64_in _ (by omega)).trans (by omega), ?_⟩
  refine ⟨false, decide_eq_false (fun h => h (by omega)), ?_⟩
  refine cond_in ?_
  refine skip_in ?_
  refine ops_in ?_
  refine ⟨((i + 1 : Nat) : Int), (IntWalk.i64_in _ (by omega)).trans (by omega), ?_⟩
  exact ⟨i + 1, rfl, ⟨hil, _, _, _, H⟩, by omega⟩
end Go.Proofs.Ytjnjgmkkjglheaa
