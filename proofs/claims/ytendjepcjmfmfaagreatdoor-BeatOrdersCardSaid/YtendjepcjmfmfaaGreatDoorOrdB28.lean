/- Part 28 of 47 of the proof of the law: contracts of the functions that it reaches, and plain facts. Conditions: those that each contract names. -/
import Derived.Test.YtendjepcjmfmfaaGreatDoorOrdB22
import Derived.Test.YtendjepcjmfmfaaGreatDoorOrdB25
import Derived.Test.YtendjepcjmfmfaaGreatDoorOrdB19
import Derived.Test.YtendjepcjmfmfaaGreatDoorOrdB06
import Derived.Test.YtendjepcjmfmfaaGreatDoorOrdB27
import Derived.Test.YtendjepcjmfmfaaGreatDoorOrdB07
namespace Go.Proofs.YtendjepcjmfmfaaGreatDoor
section
open Go.RowKit
theorem pow_side {U T F T' F' : Nat} (h3 : Lo 3 1 T U) (h5 : Lo 5 1 F U) (k3 : Up 3 1 T' U) (k5 : Up 5 1 F' U) {a b c a' b' c' : Nat}
  (h : a' * U + b' * T' + c' * F' < a * U + b * T + c * F) : 2 ^ a' * 3 ^ b' * 5 ^ c' < 2 ^ a * 3 ^ b * 5 ^ c := by
 have l3 : 2 ^ T ≤ 3 ^ U := by have := h3.le; omega
 have l5 : 2 ^ F ≤ 5 ^ U := by have := h5.le; omega
 have u3 : 3 ^ U ≤ 2 ^ T' := by have := k3.le; omega
 have u5 : 5 ^ U ≤ 2 ^ F' := by have := k5.le; omega
 have e : ∀ i j k : Nat, (2 ^ i * 3 ^ j * 5 ^ k) ^ U = 2 ^ (i * U) * (3 ^ U) ^ j * (5 ^ U) ^ k := fun i j k => by
  rw [Nat.mul_pow, Nat.mul_pow, ← Nat.pow_mul, ← Nat.pow_mul, ← Nat.pow_mul, ← Nat.pow_mul, ← Nat.pow_mul, Nat.mul_comm j U, Nat.mul_comm k U]
 have f : ∀ i j k S R : Nat, 2 ^ (i * U) * (2 ^ S) ^ j * (2 ^ R) ^ k = 2 ^ (i * U + j * S + k * R) := fun i j k S R => by
  rw [← Nat.pow_mul, ← Nat.pow_mul, ← Nat.pow_add, ← Nat.pow_add, Nat.mul_comm j S, Nat.mul_comm k R]
 have hlow : 2 ^ (a * U + b * T + c * F) ≤ (2 ^ a * 3 ^ b * 5 ^ c) ^ U := by
  rw [e, ← f]
  exact Nat.mul_le_mul (Nat.mul_le_mul_left _ (Nat.pow_le_pow_left l3 _)) (Nat.pow_le_pow_left l5 _)
 have hup : (2 ^ a' * 3 ^ b' * 5 ^ c') ^ U ≤ 2 ^ (a' * U + b' * T' + c' * F') := by
  rw [e, ← f]
  exact Nat.mul_le_mul (Nat.mul_le_mul_left _ (Nat.pow_le_pow_left u3 _)) (Nat.pow_le_pow_left u5 _)
 have hs : 2 ^ (a' * U + b' * T' + c' * F') < 2 ^ (a * U + b * T + c * F) := Nat.pow_lt_pow_right (by decide) h
 rcases Nat.lt_or_ge (2 ^ a' * 3 ^ b' * 5 ^ c') (2 ^ a * 3 ^ b * 5 ^ c) with k | k
 ·exact k
 ·have := Nat.pow_le_pow_left k U
  omega
def rsU (a b c : Nat) : Nat → Int
 | 0 => 1
 | 1 => 1 * 2 ^ a
 | 2 => 1 * 2 ^ a * 3 ^ b
 | _ => 1 * 2 ^ a * 3 ^ b * 5 ^ c
theorem rsU_nat (a b c : Nat) : rsU a b c 3 = ((2 ^ a * 3 ^ b * 5 ^ c : Nat) : Int) := by
 show (1 : Int) * 2 ^ a * 3 ^ b * 5 ^ c = _
 rw [Int.one_mul]
 push_cast
 rfl
theorem pow_sgn {x y z : Int} (hx : -20000 ≤ x ∧ x ≤ 20000) (hy : -20000 ≤ y ∧ y ≤ 20000) (hz : -20000 ≤ z ∧ z ≤ 20000) :
  sgn (rsU x.toNat y.toNat z.toNat 3 - rsU (-x).toNat (-y).toNat (-z).toNat 3) = sgn (lgZ x y z) := by
 rw [rsU_nat, rsU_nat]
 by_cases h0 : x = 0 ∧ y = 0 ∧ z = 0
 ·obtain ⟨rfl, rfl, rfl⟩ := h0
  rw [show lgZ 0 0 0 = 0 by decide]
  rfl
 ·have hf := lg_far (x := x) ⟨by omega, by omega⟩ ⟨by omega, by omega⟩ h0
  rw [lg_eq] at hf ⊢
  unfold lgU lgT lgF at hf ⊢
  rcases hf with hf | hf
  ·have h := pow_side three_lo five_lo three_up five_up (a := (-x).toNat) (b := (-y).toNat) (c := (-z).toNat) (a' := x.toNat) (b' := y.toNat) (c' := z.toNat) (by omega)
   rw [sgn_neg (by omega), sgn_neg (by omega)]
  ·have h := pow_side three_lo five_lo three_up five_up (a := x.toNat) (b := y.toNat) (c := z.toNat) (a' := (-x).toNat) (b' := (-y).toNat) (c' := (-z).toNat) (by omega)
   rw [sgn_pos (by omega), sgn_pos (by omega)]
theorem rsU_digits (a b c k : Nat) (ha : a ≤ 20000) (hb : b ≤ 20000) (hc : c ≤ 20000) : Lib.nDigits (rsU a b c k).natAbs ≤ 60001 := by
 obtain ⟨E, hE⟩ : ∃ E : Nat, E = 60001 := ⟨_, rfl⟩
 rw [← hE]
 have p2 : 2 ^ a ≤ 10 ^ a := Nat.pow_le_pow_left (by decide) _
 have p3 : 3 ^ b ≤ 10 ^ b := Nat.pow_le_pow_left (by decide) _
 have p5 : 5 ^ c ≤ 10 ^ c := Nat.pow_le_pow_left (by decide) _
 have hb2 : ∀ n : Nat, n ≤ 60000 → 10 ^ n < 10 ^ E := fun n hn => Nat.pow_lt_pow_right (by decide) (by omega)
 refine nDigits_le _ E (by omega) ?_
 match k with
 | 0 => exact Nat.lt_of_le_of_lt (Nat.one_le_two_pow (n := 0)) (Nat.lt_of_le_of_lt (by show 2 ^ 0 ≤ 10 ^ 0; decide) (hb2 0 (by omega)))
 | 1 =>
  have e : (rsU a b c 1).natAbs = 2 ^ a := by show ((1 : Int) * 2 ^ a).natAbs = _; rw [Int.one_mul, Int.natAbs_pow]; rfl
  rw [e]; exact Nat.lt_of_le_of_lt p2 (hb2 a (by omega))
 | 2 =>
  have e : (rsU a b c 2).natAbs = 2 ^ a * 3 ^ b := by show ((1 : Int) * 2 ^ a * 3 ^ b).natAbs = _; rw [Int.one_mul, Int.natAbs_mul, Int.natAbs_pow, Int.natAbs_pow]; rfl
  rw [e]
  refine Nat.lt_of_le_of_lt (Nat.mul_le_mul p2 p3) ?_
  rw [← Nat.pow_add]
  exact hb2 _ (by omega)
 | n + 3 =>
  have e : (rsU a b c (n + 3)).natAbs = 2 ^ a * 3 ^ b * 5 ^ c := by show ((1 : Int) * 2 ^ a * 3 ^ b * 5 ^ c).natAbs = _; rw [Int.one_mul, Int.natAbs_mul, Int.natAbs_mul, Int.natAbs_pow, Int.natAbs_pow, Int.natAbs_pow]; rfl
  rw [e]
  refine Nat.lt_of_le_of_lt (Nat.mul_le_mul (Nat.mul_le_mul p2 p3) p5) ?_
  rw [← Nat.pow_add, ← Nat.pow_add]
  exact hb2 _ (by omega)
theorem nd1 {q : Int} (h : q.natAbs < 10 ^ 1) : Lib.nDigits q.natAbs ≤ 1 := nDigits_le _ _ (by decide) h
theorem pow2_digits (q : Int) (n : Nat) (hq : Lib.nDigits q.natAbs ≤ 1) (hn : n ≤ 20000) : Lib.nDigits (q ^ n).natAbs ≤ 20001 := by
 have := pow_digits q n
 have h2 := Nat.mul_le_mul_left n hq
 omega
end
section
open Go.RowKit
def shB (x y z : Int) : Bool := decide ((-900 ≤ x ∧ x ≤ 900) ∧ (-900 ≤ y ∧ y ≤ 900) ∧ (-900 ≤ z ∧ z ≤ 900))
def ShRel (w : World) (x y z D : Int) (i : Value) (W : World) : Prop :=
 ∃ k : Nat, k ≤ 3 ∧ i = .int .i64 (k : Int) ∧ ((0 < k → -900 ≤ x ∧ x ≤ 900) ∧ (1 < k → -900 ≤ y ∧ y ≤ 900) ∧ (2 < k → -900 ≤ z ∧ z ≤ 900)) ∧ Hp w [(w.heap.size, 109, [.int .i64 x, .int .i64 y, .int .i64 z, .int .i64 D])] W
end
end Go.Proofs.YtendjepcjmfmfaaGreatDoor
namespace Go.Proofs.YtendjepcjmfmfaaGreatDoor
section
open Go.RowKit
def ocZ (x y z D : Int) : Int := lgZ x y z / (D * lgU)
theorem oc_lt {x y z D n : Int} (hD : 1 ≤ D) : sgn (lgZ (x - n * D) y z) < 0 ↔ ocZ x y z D < n := by
 have hp : 0 < D * lgU := Int.mul_pos (by omega) (by decide)
 have e : lgZ (x - n * D) y z = lgZ x y z - n * (D * lgU) := by
  rw [lg_eq, lg_eq, Int.sub_mul, Int.mul_assoc]; omega
 unfold ocZ
 rw [Int.ediv_lt_iff_lt_mul hp, e]
 constructor
 ·intro h
  rcases Int.lt_trichotomy (lgZ x y z - n * (D * lgU)) 0 with h1 | h1 | h1
  ·omega
  ·rw [h1] at h; exact absurd h (by decide)
  ·rw [sgn_pos h1] at h; exact absurd h (by decide)
 ·intro h
  rw [sgn_neg (by omega)]; decide
end
section
open Go.RowKit
theorem red_bd {x y z D : Int} (hx : -6000 ≤ x ∧ x ≤ 6000) (hy : -6000 ≤ y ∧ y ≤ 6000) (hz : -6000 ≤ z ∧ z ≤ 6000) (hD : 1 ≤ D ∧ D ≤ 240) :
  (-31000 ≤ loZ x y z / (D * lgU) * D ∧ loZ x y z / (D * lgU) * D ≤ 31000) ∧ loZ x y z / (D * lgU) ≤ ocZ x y z D ∧ ocZ x y z D ≤ loZ x y z / (D * lgU) + 1 := by
 have hp : 0 < D * lgU := Int.mul_pos (by omega) (by decide)
 have h := lg_eq x y z
 have hlo : loZ x y z = lgZ x y z + (if 0 < y then 0 else y) + (if 0 < z then 0 else z) := rfl
 have hl1 : loZ x y z ≤ lgZ x y z := by rw [hlo]; split <;> split <;> omega
 have hl2 : lgZ x y z ≤ loZ x y z + 12000 := by rw [hlo]; split <;> split <;> omega
 have h1 : loZ x y z / (D * lgU) * (D * lgU) ≤ loZ x y z := Int.ediv_mul_le _ (Int.ne_of_gt hp)
 have h2 : loZ x y z < (loZ x y z / (D * lgU) + 1) * (D * lgU) := Int.lt_ediv_add_one_mul_self _ hp
 refine ⟨?_, Int.ediv_le_ediv hp hl1, ?_⟩
 ·rw [Int.add_mul, Int.one_mul] at h2
  rw [← Int.mul_assoc] at h1 h2
  obtain ⟨k, hk⟩ : ∃ k, k = loZ x y z / (D * lgU) * D := ⟨_, rfl⟩
  rw [← hk] at h1 h2 ⊢
  clear hlo hk hp
  unfold lgU lgT lgF at *
  omega
 ·have h3 : lgZ x y z ≤ loZ x y z + 1 * (D * lgU) := by
   have : (12000 : Int) ≤ D * lgU := by unfold lgU; omega
   omega
  have h4 := Int.ediv_le_ediv hp h3
  rw [Int.add_mul_ediv_right _ _ (Int.ne_of_gt hp)] at h4
  exact h4
noncomputable def rdR (p q a1 b1 a2 b2 oc : Int) : Value := if ivE [(p, q), (a1, b1), (a2, b2)] = 0 then .tuple #[szv p q a1 b1 a2 b2, .int .i64 oc, .int .i64 0] else .tuple #[szv 0 0 0 0 0 0, .int .i64 0, .int .i64 4]
set_option maxRecDepth 100000 in
set_option maxHeartbeats 8000000 in
theorem ireduce_any (a0 b0 a1 b1 a2 b2 x y z D : Int) (w : World) (ht : Tab w) (h : ivE [(a0, b0), (a1, b1), (a2, b2)] = 0) (hpr : prt [(a0, b0), (a1, b1), (a2, b2)] = some ([x, y, z], D)) :
  Calls Tryz.prog 149 #[szv a0 b0 a1 b1 a2 b2] w fun e w' => e = .returned (rdR (lowN (a0 * 1 - ocZ x y z D * b0) (b0 * 1)) (lowD (a0 * 1 - ocZ x y z D * b0) (b0 * 1)) a1 b1 a2 b2 (ocZ x y z D)) ∧ Below w.heap.size w w' := by
 obtain ⟨hright, _⟩ := ivE_cases h
 have r0 := hright (a0, b0) (by simp)
 have r1 := hright (a1, b1) (by simp)
 have r2 := hright (a2, b2) (by simp)
 have i64 : ∀ {a b : Int}, Right a b → I64 a ∧ I64 b := fun {a b} k => by
  obtain ⟨h1, h2, h3, h4, _⟩ := k
  exact ⟨⟨by omega, by omega⟩, by omega, by omega⟩
 have hc := fun W => icheck_any a0 b0 a1 b1 a2 b2 W (i64 r0).1 (i64 r0).2 (i64 r1).1 (i64 r1).2 (i64 r2).1 (i64 r2).2
 rw [h] at hc
 have hp := fun W => parts_any a0 b0 a1 b1 a2 b2 W (right_mild hright)
 unfold PaRet at hp
 rw [hpr] at hp
 obtain ⟨hD, hl⟩ := prt_num hpr (right_mild hright)
 have hx := hl x (by simp)
 have hy := hl y (by simp)
 have hz := hl z (by simp)
 have mx : M12 x := ⟨by omega, by omega⟩
 have my : M12 y := ⟨by omega, by omega⟩
 have mz : M12 z := ⟨by omega, by omega⟩
 have mD : M12 D := ⟨by omega, by omega⟩
 obtain ⟨⟨b1', b2'⟩, _, _, _, _⟩ := cen_bd mx my mz hD
 have hlo := lo_bd mx my mz
 obtain ⟨hrb, hq1, hq2⟩ := red_bd hx hy hz hD
 have hbn := fun W hW => bounds_any x y z W hW mx my mz
 have hof := fun W hW => of12 D W hW mD
 have hmu := fun W hW => mul_unit D W hW mD
 have hdm : ∀ W, Tab W → Calls Tryz.prog 169 #[.string (dec (loZ x y z)), .string (dec (D * lgU))] W fun e W' => e = .returned (.tuple #[.string (dec (loZ x y z / (D * lgU))), .string (dec (loZ x y z % (D * lgU))), .int .i64 0]) ∧ Below W.heap.size W W' := fun W hW =>
  divmod_pos _ _ W hW (Nat.le_trans (nDigits_pow (k := 46) (by decide) hlo) (by decide)) (Nat.le_trans (nDigits_pow (k := 40) (by decide) b2') (by decide)) b1'
 obtain ⟨q, hq⟩ : ∃ q, q = loZ x y z / (D * lgU) := ⟨_, rfl⟩
 rw [← hq] at hrb hq1 hq2
 simp only [← hq] at hdm
 have hqb : -31000 ≤ q ∧ q ≤ 31000 := by
  constructor
  ·rcases Int.lt_or_le q (-31000) with h' | h'
   ·have := Int.mul_le_mul_of_nonneg_right (show q ≤ -31001 by omega) (show 0 ≤ D by omega)
    have := Int.mul_le_mul_of_nonneg_left hD.1 (show (0:Int) ≤ 31001 by decide)
    omega
   ·exact h'
  ·rcases Int.lt_or_le 31000 q with h' | h'
   ·have := Int.mul_le_mul_of_nonneg_right (show 31001 ≤ q by omega) (show 0 ≤ D by omega)
    have := Int.mul_le_mul_of_nonneg_left hD.1 (show (0:Int) ≤ 31001 by decide)
    omega
   ·exact h'
 have hsl := fun W => small_yes q W (nDigits_pow (by decide) (by omega))
 have hlt := oc_lt (x := x) (y := y) (z := z) (D := D) (n := q + 1) hD.1
 obtain ⟨oc, hoc⟩ : ∃ oc, oc = ocZ x y z D := ⟨_, rfl⟩
 rw [← hoc] at hq1 hq2 hlt ⊢
 obtain ⟨m, hm⟩ : ∃ m, m = (q + 1) * D := ⟨_, rfl⟩
 have hmb : -32000 ≤ m ∧ m ≤ 32000 := by rw [hm, Int.add_mul]; omega
 obtain ⟨X0, hX0⟩ : ∃ X0, X0 = x - m := ⟨_, rfl⟩
 rw [← hm, ← hX0] at hlt
 have hsg := fun W hW => isign_all X0 y z W hW (by omega) (by omega) (by omega)
 obtain ⟨sg, hsgn⟩ : ∃ s, s = sgn (lgZ X0 y z) := ⟨_, rfl⟩
 rw [← hsgn] at hlt hsg
 have hro : Right oc 1 := ⟨by decide, by decide, by omega, by omega, by simp⟩
 have hfs := fun W => fSub_any a0 b0 oc 1 W r0 hro
 rw [fmake_low _ _ (show 0 < b0 * 1 by have := r0.1; omega)] at hfs
 obtain ⟨P, hP⟩ : ∃ P, P = lowN (a0 * 1 - oc * b0) (b0 * 1) := ⟨_, rfl⟩
 obtain ⟨Q, hQ⟩ : ∃ P, P = lowD (a0 * 1 - oc * b0) (b0 * 1) := ⟨_, rfl⟩
 rw [← hP, ← hQ] at hfs ⊢
 have hcase : (sg < 0 ∧ oc = q) ∨ (0 ≤ sg ∧ oc = q + 1) := by
  by_cases hs : sg < 0
  ·exact .inl ⟨hs, by have := hlt.1 hs; omega⟩
  ·refine .inr ⟨by omega, ?_⟩
   rcases Int.lt_or_le oc (q + 1) with h' | h'
   ·exact absurd (hlt.2 h') hs
   ·omega
 have HW1 := Lib.hid (show wrap64 (q + 1) = q + 1 from IntWalk.wrap64_in _ ⟨by omega, by omega⟩)
 obtain ⟨q1, hq1'⟩ : ∃ k, k = q + 1 := ⟨_, rfl⟩
 rw [← hq1'] at hm hcase
 have HWQ := Lib.hid (show wrap64 (q + 1) = q1 from hq1' ▸ HW1.out)
 have HWM := Lib.hid (show wrap64 (q1 * D) = m from by rw [← hm]; exact IntWalk.wrap64_in _ ⟨by omega, by omega⟩)
 have HWX := Lib.hid (show wrap64 (x - m) = X0 from by rw [← hX0]; exact IntWalk.wrap64_in _ ⟨by omega, by omega⟩)
 obtain ⟨lo, hlo'⟩ : ∃ a, a = dec (loZ x y z) := ⟨_, rfl⟩
 obtain ⟨hi, hhi'⟩ : ∃ a, a = dec (hiZ x y z) := ⟨_, rfl⟩
 obtain ⟨dd, hdd⟩ : ∃ a, a = dec (D * lgU) := ⟨_, rfl⟩
 obtain ⟨tr, htr⟩ : ∃ a, a = dec (loZ x y z % (D * lgU)) := ⟨_, rfl⟩
 obtain ⟨tq, htq⟩ : ∃ a, a = dec q := ⟨_, rfl⟩
 obtain ⟨tD, htD⟩ : ∃ a, a = dec D := ⟨_, rfl⟩
 rw [← hlo', ← hhi'] at hbn
 rw [← htD] at hof
 simp only [← htD, ← hdd] at hmu
 simp only [← hlo', ← hdd, ← htq, ← htr] at hdm
 simp only [← htq] at hsl
 have HC := Lib.hid hc
 have HP := Lib.hid hp
 have HBN := Lib.hid hbn
 have HOF := Lib.hid hof
 have HMU := Lib.hid hmu
 have HDM := Lib.hid hdm
 have HSL := Lib.hid hsl
 have HSG := Lib.hid hsg
 have HFS := Lib.hid hfs
 have HRI := Lib.hid (fun W (hr : Right P Q) => iresult_any P Q a1 b1 a2 b2 W (i64 hr).1 (i64 hr).2 (i64 r1).1 (i64 r1).2 (i64 r2).1 (i64 r2).2)
 have HCA := Lib.hid hcase
 have HT := Lib.hid ht
 have HNR := Lib.hid (show ¬ Right P Q → ivE [(P, Q), (a1, b1), (a2, b2)] ≠ 0 from fun hn he => hn ((ivE_cases he).1 (P, Q) (by simp)))
 have HM0 := Lib.hid (show Hp w [(w.heap.size, 49, [.int .i64 a0, .int .i64 b0, .int .i64 a1, .int .i64 b1, .int .i64 a2, .int .i64 b2]), (w.heap.size + 1, 49, [.int .i64 0, .int .i64 0, .int .i64 0, .int .i64 0, .int .i64 0, .int .i64 0])] ((w.alloc (.cells #[.int .i64 a0, .int .i64 b0, .int .i64 a1, .int .i64 b1, .int .i64 a2, .int .i64 b2] 49)).alloc (.cells #[.int .i64 0, .int .i64 0, .int .i64 0, .int .i64 0, .int .i64 0, .int .i64 0] 49)) from by
  have h := ((Hp.start w).new 49 [.int .i64 a0, .int .i64 b0, .int .i64 a1, .int .i64 b1, .int .i64 a2, .int .i64 b2]).new 49 [.int .i64 0, .int .i64 0, .int .i64 0, .int .i64 0, .int .i64 0, .int .i64 0]
  simp only [World.size_alloc] at h
  exact h)
 clear hc hp hbn hof hmu hdm hsl hsg hfs hlo' hhi' hdd htr htq htD hcase ht h hpr hright r0 r1 r2 i64 hD hl hx hy hz mx my mz mD b1' b2' hlo hrb hq1 hq2 hq hqb hlt hoc hm hmb hX0 hsgn hro hP hQ hq1' HW1
 go_enter Tryz.func149, Tryz.ntmps149
 go_wp2_with fail
 refine (HC.out _).mono ?_
 rintro e w1 ⟨rfl, hb⟩
 have HM1 := Lib.hid (HM0.out.step hb)
 obtain ⟨c0, c1, c2, c3, c4, c5⟩ := six_of (HM1.out.at_ 0 rfl)
 clear hb HM0
 go_wp2_with fail
 refine (HP.out _).mono ?_
 rintro e w2 ⟨rfl, hb⟩
 have HM2 := Lib.hid ((HM1.out.step hb).new 57 [.int .i64 x, .int .i64 y, .int .i64 z])
 clear hb HM1 c0 c1 c2 c3 c4 c5
 go_wp2_with fail
 refine (HBN.out _ (HT.out.below HM2.out.below)).mono ?_
 rintro e w3 ⟨rfl, hb⟩
 have HM3 := Lib.hid (HM2.out.step hb)
 clear hb HM2
 go_wp2_with fail
 refine (HOF.out _ (HT.out.below HM3.out.below)).mono ?_
 rintro e w4 ⟨rfl, hb⟩
 have HM4 := Lib.hid (HM3.out.step hb)
 clear hb HM3
 go_wp2_with fail
 refine (HMU.out _ (HT.out.below HM4.out.below)).mono ?_
 rintro e w5 ⟨rfl, hb⟩
 have HM5 := Lib.hid (HM4.out.step hb)
 clear hb HM4
 go_wp2_with fail
 refine (HDM.out _ (HT.out.below HM5.out.below)).mono ?_
 rintro e w6 ⟨rfl, hb⟩
 have HM6 := Lib.hid (HM5.out.step hb)
 clear hb HM5
 go_wp2_with fail
 refine (HSL.out _).mono ?_
 rintro e w7 ⟨rfl, hb⟩
 have HM7 := Lib.hid (HM6.out.step hb)
 obtain ⟨v0, v1, v2⟩ := three_of (HM7.out.at_ 2 rfl)
 have hg7 : w2.heap.size < w7.heap.size := (HM7.out.at_ 2 rfl).lt
 have wq := HWQ.out
 have wm := HWM.out
 have wx := HWX.out
 clear hb HM6
 go_upto_region 10 with fail
 have HM8 := Lib.hid (HM7.out.new 57 [.int .i64 X0, .int .i64 y, .int .i64 z])
 clear v0 v1 v2 hg7 wm wx HM7
 go_wp2_with fail
 refine (HSG.out _ (HT.out.below HM8.out.below)).mono ?_
 rintro e w9 ⟨rfl, hb⟩
 have HM9 := Lib.hid (HM8.out.step hb)
 clear hb HM8
 rcases HCA.out with ⟨hs, hoc⟩ | ⟨hs, hoc⟩
 ·subst hoc
  clear HCA
  obtain ⟨c0, c1, c2, c3, c4, c5⟩ := six_of (HM9.out.at_ 0 rfl)
  obtain ⟨d0, d1, d2, d3, d4, d5⟩ := six_of (HM9.out.at_ 1 rfl)
  obtain ⟨f0, f1, f2, f3, f4, f5⟩ := six_free (HM9.out.at_ 1 rfl)
  go_upto_region 14 with fail
  obtain ⟨WA, hWA⟩ : ∃ WA, WA = ((((((w9.setCell ⟨w.heap.size + 1, 0, none⟩ (.int .i64 a0)).setCell ⟨w.heap.size + 1, 1, none⟩ (.int .i64 b0)).setCell ⟨w.heap.size + 1, 2, none⟩ (.int .i64 a1)).setCell ⟨w.heap.size + 1, 3, none⟩ (.int .i64 b1)).setCell ⟨w.heap.size + 1, 4, none⟩ (.int .i64 a2)).setCell ⟨w.heap.size + 1, 5, none⟩ (.int .i64 b2)) := ⟨_, rfl⟩
  have hma := HM9.out.put6 1 rfl (.int .i64 a0) (.int .i64 b0) (.int .i64 a1) (.int .i64 b1) (.int .i64 a2) (.int .i64 b2)
  rw [← hWA] at hma ⊢
  have HMA := Lib.hid hma
  clear hWA hma c0 c1 c2 c3 c4 c5 d0 d1 d2 d3 d4 d5 f0 f1 f2 f3 f4 f5 HM9
  obtain ⟨c0, c1, c2, c3, c4, c5⟩ := six_of (HMA.out.at_ 0 rfl)
  by_cases hR : Right P Q
  ·have hfs := HFS.out
   rw [if_pos hR] at hfs
   unfold fRet at hfs
   have HF := Lib.hid hfs
   have HRR := Lib.hid (HRI.out · hR)
   clear hfs hR HNR
   go_wp2_with fail
   refine (HF.out _).mono ?_
   rintro e w10 ⟨rfl, hb⟩
   have HM10 := Lib.hid (HMA.out.step hb)
   clear hb c0 c1 c2 c3 c4 c5
   obtain ⟨d0, d1, d2, d3, d4, d5⟩ := six_of (HM10.out.at_ 1 rfl)
   obtain ⟨f0, f1, f2, f3, f4, f5⟩ := six_free (HM10.out.at_ 1 rfl)
   go_upto_region 17 with fail
   obtain ⟨WB, hWB⟩ : ∃ WB, WB = ((w10.setCell ⟨w.heap.size + 1, 0, none⟩ (.int .i64 P)).setCell ⟨w.heap.size + 1, 1, none⟩ (.int .i64 Q)) := ⟨_, rfl⟩
   have hmb := (HM10.out.put 1 rfl 0 (.int .i64 P)).put 1 (by rfl) 1 (.int .i64 Q)
   rw [← hWB] at hmb ⊢
   have HMB := Lib.hid hmb
   clear hWB hmb d0 d1 d2 d3 d4 d5 f0 f1 f2 f3 f4 f5
   by_cases hE : ivE [(P, Q), (a1, b1), (a2, b2)] = 0
   ·have hr := HRR.out
    unfold ivR at hr
    rw [if_pos hE] at hr
    have HR2 := Lib.hid hr
    have HRD := Lib.hid (show ∀ k, rdR P Q a1 b1 a2 b2 k = .tuple #[szv P Q a1 b1 a2 b2, .int .i64 k, .int .i64 0] from fun k => by unfold rdR; rw [if_pos hE])
    clear hr hE HRR
    obtain ⟨d0, d1, d2, d3, d4, d5⟩ := six_of (HMB.out.at_ 1 rfl)
    go_wp2_with fail
    refine (HR2.out _).mono ?_
    rintro e w11 ⟨rfl, hb⟩
    have HM11 := Lib.hid (HMB.out.step hb)
    clear hb d0 d1 d2 d3 d4 d5
    obtain ⟨d0, d1, d2, d3, d4, d5⟩ := six_of (HM11.out.at_ 1 rfl)
    obtain ⟨f0, f1, f2, f3, f4, f5⟩ := six_free (HM11.out.at_ 1 rfl)
    go_upto_region 20 with fail
    obtain ⟨WC, hWN⟩ : ∃ WN, WN = ((((((w11.setCell ⟨w.heap.size + 1, 0, none⟩ (.int .i64 P)).setCell ⟨w.heap.size + 1, 1, none⟩ (.int .i64 Q)).setCell ⟨w.heap.size + 1, 2, none⟩ (.int .i64 a1)).setCell ⟨w.heap.size + 1, 3, none⟩ (.int .i64 b1)).setCell ⟨w.heap.size + 1, 4, none⟩ (.int .i64 a2)).setCell ⟨w.heap.size + 1, 5, none⟩ (.int .i64 b2)) := ⟨_, rfl⟩
    have hmn := HM11.out.put6 1 rfl (.int .i64 P) (.int .i64 Q) (.int .i64 a1) (.int .i64 b1) (.int .i64 a2) (.int .i64 b2)
    rw [← hWN] at hmn ⊢
    have HM12 := Lib.hid hmn
    clear hWN hmn d0 d1 d2 d3 d4 d5 f0 f1 f2 f3 f4 f5
    obtain ⟨d0, d1, d2, d3, d4, d5⟩ := six_of (HM12.out.at_ 1 rfl)
    obtain ⟨f0, f1, f2, f3, f4, f5⟩ := six_free (HM12.out.at_ 1 rfl)
    go_wp2
    obtain ⟨WZ, hWZ⟩ : ∃ WZ, WZ = ((((((WC.setCell ⟨w.heap.size + 1, 0, none⟩ (.int .i64 P)).setCell ⟨w.heap.size + 1, 1, none⟩ (.int .i64 Q)).setCell ⟨w.heap.size + 1, 2, none⟩ (.int .i64 a1)).setCell ⟨w.heap.size + 1, 3, none⟩ (.int .i64 b1)).setCell ⟨w.heap.size + 1, 4, none⟩ (.int .i64 a2)).setCell ⟨w.heap.size + 1, 5, none⟩ (.int .i64 b2)) := ⟨_, rfl⟩
    have hz := HM12.out.put6 1 rfl (.int .i64 P) (.int .i64 Q) (.int .i64 a1) (.int .i64 b1) (.int .i64 a2) (.int .i64 b2)
    rw [← hWZ] at hz ⊢
    obtain ⟨g0, g1, g2, g3, g4, g5⟩ := six_of (hz.at_ 1 rfl)
    exact bodyPost_ret (v := .tuple #[szv P Q a1 b1 a2 b2, .int .i64 oc, .int .i64 0]) (by simp [g0, g1, g2, g3, g4, g5, results, Tryz.results149, go_sem]) rfl ⟨by rw [HRD.out], hz.below⟩
   ·have hr := HRR.out
    unfold ivR at hr
    rw [if_neg hE] at hr
    have HR2 := Lib.hid hr
    have HRD := Lib.hid (show ∀ k, rdR P Q a1 b1 a2 b2 k = .tuple #[szv 0 0 0 0 0 0, .int .i64 0, .int .i64 4] from fun k => by unfold rdR; rw [if_neg hE])
    clear hr hE HRR
    obtain ⟨d0, d1, d2, d3, d4, d5⟩ := six_of (HMB.out.at_ 1 rfl)
    go_wp2_with fail
    refine (HR2.out _).mono ?_
    rintro e w11 ⟨rfl, hb⟩
    have HM11 := Lib.hid (HMB.out.step hb)
    clear hb d0 d1 d2 d3 d4 d5
    obtain ⟨d0, d1, d2, d3, d4, d5⟩ := six_of (HM11.out.at_ 1 rfl)
    obtain ⟨f0, f1, f2, f3, f4, f5⟩ := six_free (HM11.out.at_ 1 rfl)
    go_upto_region 19 with fail
    obtain ⟨WC, hWN⟩ : ∃ WN, WN = ((((((w11.setCell ⟨w.heap.size + 1, 0, none⟩ (.int .i64 0)).setCell ⟨w.heap.size + 1, 1, none⟩ (.int .i64 0)).setCell ⟨w.heap.size + 1, 2, none⟩ (.int .i64 0)).setCell ⟨w.heap.size + 1, 3, none⟩ (.int .i64 0)).setCell ⟨w.heap.size + 1, 4, none⟩ (.int .i64 0)).setCell ⟨w.heap.size + 1, 5, none⟩ (.int .i64 0)) := ⟨_, rfl⟩
    have hmn := HM11.out.put6 1 rfl (.int .i64 0) (.int .i64 0) (.int .i64 0) (.int .i64 0) (.int .i64 0) (.int .i64 0)
    rw [← hWN] at hmn ⊢
    have HM12 := Lib.hid hmn
    clear hWN hmn d0 d1 d2 d3 d4 d5 f0 f1 f2 f3 f4 f5
    obtain ⟨d0, d1, d2, d3, d4, d5⟩ := six_of (HM12.out.at_ 1 rfl)
    obtain ⟨f0, f1, f2, f3, f4, f5⟩ := six_free (HM12.out.at_ 1 rfl)
    go_wp2
    obtain ⟨WZ, hWZ⟩ : ∃ WZ, WZ = ((((((WC.setCell ⟨w.heap.size + 1, 0, none⟩ (.int .i64 0)).setCell ⟨w.heap.size + 1, 1, none⟩ (.int .i64 0)).setCell ⟨w.heap.size + 1, 2, none⟩ (.int .i64 0)).setCell ⟨w.heap.size + 1, 3, none⟩ (.int .i64 0)).setCell ⟨w.heap.size + 1, 4, none⟩ (.int .i64 0)).setCell ⟨w.heap.size + 1, 5, none⟩ (.int .i64 0)) := ⟨_, rfl⟩
    have hz := HM12.out.put6 1 rfl (.int .i64 0) (.int .i64 0) (.int .i64 0) (.int .i64 0) (.int .i64 0) (.int .i64 0)
    rw [← hWZ] at hz ⊢
    obtain ⟨g0, g1, g2, g3, g4, g5⟩ := six_of (hz.at_ 1 rfl)
    exact bodyPost_ret (v := .tuple #[szv 0 0 0 0 0 0, .int .i64 0, .int .i64 4]) (by simp [g0, g1, g2, g3, g4, g5, results, Tryz.results149, go_sem]) rfl ⟨by rw [HRD.out], hz.below⟩
  ·have hfs := HFS.out
   rw [if_neg hR] at hfs
   unfold fRet at hfs
   have HF := Lib.hid hfs
   have HRD := Lib.hid (show ∀ k, rdR P Q a1 b1 a2 b2 k = .tuple #[szv 0 0 0 0 0 0, .int .i64 0, .int .i64 4] from fun k => by unfold rdR; rw [if_neg (HNR.out hR)])
   clear hfs hR HNR
   go_wp2_with fail
   refine (HF.out _).mono ?_
   rintro e w10 ⟨rfl, hb⟩
   have HM10 := Lib.hid (HMA.out.step hb)
   clear hb c0 c1 c2 c3 c4 c5
   obtain ⟨d0, d1, d2, d3, d4, d5⟩ := six_of (HM10.out.at_ 1 rfl)
   obtain ⟨f0, f1, f2, f3, f4, f5⟩ := six_free (HM10.out.at_ 1 rfl)
   go_upto_region 16 with fail
   obtain ⟨WB, hWB⟩ : ∃ WB, WB = ((w10.setCell ⟨w.heap.size + 1, 0, none⟩ (.int .i64 0)).setCell ⟨w.heap.size + 1, 1, none⟩ (.int .i64 0)) := ⟨_, rfl⟩
   have hmb := (HM10.out.put 1 rfl 0 (.int .i64 0)).put 1 (by rfl) 1 (.int .i64 0)
   rw [← hWB] at hmb ⊢
   have HMB := Lib.hid hmb
   clear hWB hmb d0 d1 d2 d3 d4 d5 f0 f1 f2 f3 f4 f5
   obtain ⟨d0, d1, d2, d3, d4, d5⟩ := six_of (HMB.out.at_ 1 rfl)
   obtain ⟨f0, f1, f2, f3, f4, f5⟩ := six_free (HMB.out.at_ 1 rfl)
   go_wp2
   obtain ⟨WZ, hWZ⟩ : ∃ WZ, WZ = ((((((WB.setCell ⟨w.heap.size + 1, 0, none⟩ (.int .i64 0)).setCell ⟨w.heap.size + 1, 1, none⟩ (.int .i64 0)).setCell ⟨w.heap.size + 1, 2, none⟩ (.int .i64 0)).setCell ⟨w.heap.size + 1, 3, none⟩ (.int .i64 0)).setCell ⟨w.heap.size + 1, 4, none⟩ (.int .i64 0)).setCell ⟨w.heap.size + 1, 5, none⟩ (.int .i64 0)) := ⟨_, rfl⟩
   have hz := HMB.out.put6 1 rfl (.int .i64 0) (.int .i64 0) (.int .i64 0) (.int .i64 0) (.int .i64 0) (.int .i64 0)
   rw [← hWZ] at hz ⊢
   obtain ⟨g0, g1, g2, g3, g4, g5⟩ := six_of (hz.at_ 1 rfl)
   exact bodyPost_ret (v := .tuple #[szv 0 0 0 0 0 0, .int .i64 0, .int .i64 4]) (by simp [g0, g1, g2, g3, g4, g5, results, Tryz.results149, go_sem]) rfl ⟨by rw [HRD.out], hz.below⟩
 ·subst hoc
  clear HCA
  obtain ⟨c0, c1, c2, c3, c4, c5⟩ := six_of (HM9.out.at_ 0 rfl)
  obtain ⟨d0, d1, d2, d3, d4, d5⟩ := six_of (HM9.out.at_ 1 rfl)
  obtain ⟨f0, f1, f2, f3, f4, f5⟩ := six_free (HM9.out.at_ 1 rfl)
  go_upto_region 14 with fail
  obtain ⟨WA, hWA⟩ : ∃ WA, WA = ((((((w9.setCell ⟨w.heap.size + 1, 0, none⟩ (.int .i64 a0)).setCell ⟨w.heap.size + 1, 1, none⟩ (.int .i64 b0)).setCell ⟨w.heap.size + 1, 2, none⟩ (.int .i64 a1)).setCell ⟨w.heap.size + 1, 3, none⟩ (.int .i64 b1)).setCell ⟨w.heap.size + 1, 4, none⟩ (.int .i64 a2)).setCell ⟨w.heap.size + 1, 5, none⟩ (.int .i64 b2)) := ⟨_, rfl⟩
  have hma := HM9.out.put6 1 rfl (.int .i64 a0) (.int .i64 b0) (.int .i64 a1) (.int .i64 b1) (.int .i64 a2) (.int .i64 b2)
  rw [← hWA] at hma ⊢
  have HMA := Lib.hid hma
  clear hWA hma c0 c1 c2 c3 c4 c5 d0 d1 d2 d3 d4 d5 f0 f1 f2 f3 f4 f5 HM9
  obtain ⟨c0, c1, c2, c3, c4, c5⟩ := six_of (HMA.out.at_ 0 rfl)
  by_cases hR : Right P Q
  ·have hfs := HFS.out
   rw [if_pos hR] at hfs
   unfold fRet at hfs
   have HF := Lib.hid hfs
   have HRR := Lib.hid (HRI.out · hR)
   clear hfs hR HNR
   go_wp2_with fail
   refine (HF.out _).mono ?_
   rintro e w10 ⟨rfl, hb⟩
   have HM10 := Lib.hid (HMA.out.step hb)
   clear hb c0 c1 c2 c3 c4 c5
   obtain ⟨d0, d1, d2, d3, d4, d5⟩ := six_of (HM10.out.at_ 1 rfl)
   obtain ⟨f0, f1, f2, f3, f4, f5⟩ := six_free (HM10.out.at_ 1 rfl)
   go_upto_region 17 with fail
   obtain ⟨WB, hWB⟩ : ∃ WB, WB = ((w10.setCell ⟨w.heap.size + 1, 0, none⟩ (.int .i64 P)).setCell ⟨w.heap.size + 1, 1, none⟩ (.int .i64 Q)) := ⟨_, rfl⟩
   have hmb := (HM10.out.put 1 rfl 0 (.int .i64 P)).put 1 (by rfl) 1 (.int .i64 Q)
   rw [← hWB] at hmb ⊢
   have HMB := Lib.hid hmb
   clear hWB hmb d0 d1 d2 d3 d4 d5 f0 f1 f2 f3 f4 f5
   by_cases hE : ivE [(P, Q), (a1, b1), (a2, b2)] = 0
   ·have hr := HRR.out
    unfold ivR at hr
    rw [if_pos hE] at hr
    have HR2 := Lib.hid hr
    have HRD := Lib.hid (show ∀ k, rdR P Q a1 b1 a2 b2 k = .tuple #[szv P Q a1 b1 a2 b2, .int .i64 k, .int .i64 0] from fun k => by unfold rdR; rw [if_pos hE])
    clear hr hE HRR
    obtain ⟨d0, d1, d2, d3, d4, d5⟩ := six_of (HMB.out.at_ 1 rfl)
    go_wp2_with fail
    refine (HR2.out _).mono ?_
    rintro e w11 ⟨rfl, hb⟩
    have HM11 := Lib.hid (HMB.out.step hb)
    clear hb d0 d1 d2 d3 d4 d5
    obtain ⟨d0, d1, d2, d3, d4, d5⟩ := six_of (HM11.out.at_ 1 rfl)
    obtain ⟨f0, f1, f2, f3, f4, f5⟩ := six_free (HM11.out.at_ 1 rfl)
    go_upto_region 20 with fail
    obtain ⟨WC, hWN⟩ : ∃ WN, WN = ((((((w11.setCell ⟨w.heap.size + 1, 0, none⟩ (.int .i64 P)).setCell ⟨w.heap.size + 1, 1, none⟩ (.int .i64 Q)).setCell ⟨w.heap.size + 1, 2, none⟩ (.int .i64 a1)).setCell ⟨w.heap.size + 1, 3, none⟩ (.int .i64 b1)).setCell ⟨w.heap.size + 1, 4, none⟩ (.int .i64 a2)).setCell ⟨w.heap.size + 1, 5, none⟩ (.int .i64 b2)) := ⟨_, rfl⟩
    have hmn := HM11.out.put6 1 rfl (.int .i64 P) (.int .i64 Q) (.int .i64 a1) (.int .i64 b1) (.int .i64 a2) (.int .i64 b2)
    rw [← hWN] at hmn ⊢
    have HM12 := Lib.hid hmn
    clear hWN hmn d0 d1 d2 d3 d4 d5 f0 f1 f2 f3 f4 f5
    obtain ⟨d0, d1, d2, d3, d4, d5⟩ := six_of (HM12.out.at_ 1 rfl)
    obtain ⟨f0, f1, f2, f3, f4, f5⟩ := six_free (HM12.out.at_ 1 rfl)
    go_wp2
    obtain ⟨WZ, hWZ⟩ : ∃ WZ, WZ = ((((((WC.setCell ⟨w.heap.size + 1, 0, none⟩ (.int .i64 P)).setCell ⟨w.heap.size + 1, 1, none⟩ (.int .i64 Q)).setCell ⟨w.heap.size + 1, 2, none⟩ (.int .i64 a1)).setCell ⟨w.heap.size + 1, 3, none⟩ (.int .i64 b1)).setCell ⟨w.heap.size + 1, 4, none⟩ (.int .i64 a2)).setCell ⟨w.heap.size + 1, 5, none⟩ (.int .i64 b2)) := ⟨_, rfl⟩
    have hz := HM12.out.put6 1 rfl (.int .i64 P) (.int .i64 Q) (.int .i64 a1) (.int .i64 b1) (.int .i64 a2) (.int .i64 b2)
    rw [← hWZ] at hz ⊢
    obtain ⟨g0, g1, g2, g3, g4, g5⟩ := six_of (hz.at_ 1 rfl)
    exact bodyPost_ret (v := .tuple #[szv P Q a1 b1 a2 b2, .int .i64 oc, .int .i64 0]) (by simp [g0, g1, g2, g3, g4, g5, results, Tryz.results149, go_sem]) rfl ⟨by rw [HRD.out], hz.below⟩
   ·have hr := HRR.out
    unfold ivR at hr
    rw [if_neg hE] at hr
    have HR2 := Lib.hid hr
    have HRD := Lib.hid (show ∀ k, rdR P Q a1 b1 a2 b2 k = .tuple #[szv 0 0 0 0 0 0, .int .i64 0, .int .i64 4] from fun k => by unfold rdR; rw [if_neg hE])
    clear hr hE HRR
    obtain ⟨d0, d1, d2, d3, d4, d5⟩ := six_of (HMB.out.at_ 1 rfl)
    go_wp2_with fail
    refine (HR2.out _).mono ?_
    rintro e w11 ⟨rfl, hb⟩
    have HM11 := Lib.hid (HMB.out.step hb)
    clear hb d0 d1 d2 d3 d4 d5
    obtain ⟨d0, d1, d2, d3, d4, d5⟩ := six_of (HM11.out.at_ 1 rfl)
    obtain ⟨f0, f1, f2, f3, f4, f5⟩ := six_free (HM11.out.at_ 1 rfl)
    go_upto_region 19 with fail
    obtain ⟨WC, hWN⟩ : ∃ WN, WN = ((((((w11.setCell ⟨w.heap.size + 1, 0, none⟩ (.int .i64 0)).setCell ⟨w.heap.size + 1, 1, none⟩ (.int .i64 0)).setCell ⟨w.heap.size + 1, 2, none⟩ (.int .i64 0)).setCell ⟨w.heap.size + 1, 3, none⟩ (.int .i64 0)).setCell ⟨w.heap.size + 1, 4, none⟩ (.int .i64 0)).setCell ⟨w.heap.size + 1, 5, none⟩ (.int .i64 0)) := ⟨_, rfl⟩
    have hmn := HM11.out.put6 1 rfl (.int .i64 0) (.int .i64 0) (.int .i64 0) (.int .i64 0) (.int .i64 0) (.int .i64 0)
    rw [← hWN] at hmn ⊢
    have HM12 := Lib.hid hmn
    clear hWN hmn d0 d1 d2 d3 d4 d5 f0 f1 f2 f3 f4 f5
    obtain ⟨d0, d1, d2, d3, d4, d5⟩ := six_of (HM12.out.at_ 1 rfl)
    obtain ⟨f0, f1, f2, f3, f4, f5⟩ := six_free (HM12.out.at_ 1 rfl)
    go_wp2
    obtain ⟨WZ, hWZ⟩ : ∃ WZ, WZ = ((((((WC.setCell ⟨w.heap.size + 1, 0, none⟩ (.int .i64 0)).setCell ⟨w.heap.size + 1, 1, none⟩ (.int .i64 0)).setCell ⟨w.heap.size + 1, 2, none⟩ (.int .i64 0)).setCell ⟨w.heap.size + 1, 3, none⟩ (.int .i64 0)).setCell ⟨w.heap.size + 1, 4, none⟩ (.int .i64 0)).setCell ⟨w.heap.size + 1, 5, none⟩ (.int .i64 0)) := ⟨_, rfl⟩
    have hz := HM12.out.put6 1 rfl (.int .i64 0) (.int .i64 0) (.int .i64 0) (.int .i64 0) (.int .i64 0) (.int .i64 0)
    rw [← hWZ] at hz ⊢
    obtain ⟨g0, g1, g2, g3, g4, g5⟩ := six_of (hz.at_ 1 rfl)
    exact bodyPost_ret (v := .tuple #[szv 0 0 0 0 0 0, .int .i64 0, .int .i64 4]) (by simp [g0, g1, g2, g3, g4, g5, results, Tryz.results149, go_sem]) rfl ⟨by rw [HRD.out], hz.below⟩
  ·have hfs := HFS.out
   rw [if_neg hR] at hfs
   unfold fRet at hfs
   have HF := Lib.hid hfs
   have HRD := Lib.hid (show ∀ k, rdR P Q a1 b1 a2 b2 k = .tuple #[szv 0 0 0 0 0 0, .int .i64 0, .int .i64 4] from fun k => by unfold rdR; rw [if_neg (HNR.out hR)])
   clear hfs hR HNR
   go_wp2_with fail
   refine (HF.out _).mono ?_
   rintro e w10 ⟨rfl, hb⟩
   have HM10 := Lib.hid (HMA.out.step hb)
   clear hb c0 c1 c2 c3 c4 c5
   obtain ⟨d0, d1, d2, d3, d4, d5⟩ := six_of (HM10.out.at_ 1 rfl)
   obtain ⟨f0, f1, f2, f3, f4, f5⟩ := six_free (HM10.out.at_ 1 rfl)
   go_upto_region 16 with fail
   obtain ⟨WB, hWB⟩ : ∃ WB, WB = ((w10.setCell ⟨w.heap.size + 1, 0, none⟩ (.int .i64 0)).setCell ⟨w.heap.size + 1, 1, none⟩ (.int .i64 0)) := ⟨_, rfl⟩
   have hmb := (HM10.out.put 1 rfl 0 (.int .i64 0)).put 1 (by rfl) 1 (.int .i64 0)
   rw [← hWB] at hmb ⊢
   have HMB := Lib.hid hmb
   clear hWB hmb d0 d1 d2 d3 d4 d5 f0 f1 f2 f3 f4 f5
   obtain ⟨d0, d1, d2, d3, d4, d5⟩ := six_of (HMB.out.at_ 1 rfl)
   obtain ⟨f0, f1, f2, f3, f4, f5⟩ := six_free (HMB.out.at_ 1 rfl)
   go_wp2
   obtain ⟨WZ, hWZ⟩ : ∃ WZ, WZ = ((((((WB.setCell ⟨w.heap.size + 1, 0, none⟩ (.int .i64 0)).setCell ⟨w.heap.size + 1, 1, none⟩ (.int .i64 0)).setCell ⟨w.heap.size + 1, 2, none⟩ (.int .i64 0)).setCell ⟨w.heap.size + 1, 3, none⟩ (.int .i64 0)).setCell ⟨w.heap.size + 1, 4, none⟩ (.int .i64 0)).setCell ⟨w.heap.size + 1, 5, none⟩ (.int .i64 0)) := ⟨_, rfl⟩
   have hz := HMB.out.put6 1 rfl (.int .i64 0) (.int .i64 0) (.int .i64 0) (.int .i64 0) (.int .i64 0) (.int .i64 0)
   rw [← hWZ] at hz ⊢
   obtain ⟨g0, g1, g2, g3, g4, g5⟩ := six_of (hz.at_ 1 rfl)
   exact bodyPost_ret (v := .tuple #[szv 0 0 0 0 0 0, .int .i64 0, .int .i64 4]) (by simp [g0, g1, g2, g3, g4, g5, results, Tryz.results149, go_sem]) rfl ⟨by rw [HRD.out], hz.below⟩
end
section
open Go.RowKit
theorem ediv_same {p q r s : Int} (hq : 0 < q) (hs : 0 < s) (h : p * s = r * q) : p / q = r / s :=
 Int.le_antisymm (ediv_cross hq hs (Int.le_of_eq h)) (ediv_cross hs hq (Int.le_of_eq h.symm))
end
section
open Go.RowKit
theorem rd_low {n M : Int} (hM : 0 < M) : lowN n M * M = n * lowD n M := by
 obtain ⟨g, hg, e1, e2, _, _⟩ := low_mul n M hM
 have e3 : lowN n M * M = lowN n M * (g * lowD n M) := by rw [e2]
 have e4 : n * lowD n M = (g * lowN n M) * lowD n M := by rw [e1]
 rw [e3, e4]
 simp only [Int.mul_left_comm, Int.mul_assoc]
end
end Go.Proofs.YtendjepcjmfmfaaGreatDoor
namespace Go.Proofs.YtendjepcjmfmfaaGreatDoor
open Go.RowKit
theorem t_right_one {x : Int} (h : -1000000 ≤ x ∧ x ≤ 1000000) : Right x 1 := ⟨by decide, by decide, h.1, h.2, by simp⟩
theorem t_prt_ones {x y z : Int} (hx : -6000 ≤ x ∧ x ≤ 6000) (hy : -6000 ≤ y ∧ y ≤ 6000) (hz : -6000 ≤ z ∧ z ≤ 6000) : prt [(x, 1), (y, 1), (z, 1)] = some ([x, y, z], 1) := by
 have hd : prD [(x, 1), (y, 1), (z, 1)] 1 = some 1 := by simp [prD, lcmA]
 unfold prt
 rw [hd]
 have e : ∀ k : Int, k * ((1 : Int) / 1) = k := fun k => by simp
 simp only [prN, e]
 rw [if_neg (by omega), if_neg (by omega), if_neg (by omega)]
 rfl
theorem t_ivR_ones {x y z : Int} (hx : -6000 ≤ x ∧ x ≤ 6000) (hy : -6000 ≤ y ∧ y ≤ 6000) (hz : -6000 ≤ z ∧ z ≤ 6000) : ivR x 1 y 1 z 1 = .tuple #[szv x 1 y 1 z 1, .int .i64 0] :=
 by
 unfold ivR
 rw [if_pos]
 exact ivE_ok (fun q hq => by
  simp only [List.mem_cons, List.not_mem_nil, or_false] at hq
  rcases hq with rfl | rfl | rfl <;> exact t_right_one (by dsimp only; omega)) (by rw [t_prt_ones hx hy hz]; exact fun h => by cases h)
theorem t_low_one (x : Int) : lowN x 1 = x ∧ lowD x 1 = 1 := by
 unfold lowN lowD
 simp
abbrev szD (x y z d : Int) : Value := szv (lowN x d) (lowD x d) (lowN y d) (lowD y d) (lowN z d) (lowD z d)
def Bx (x y z : Int) : Prop := (-6000 ≤ x ∧ x ≤ 6000) ∧ (-6000 ≤ y ∧ y ≤ 6000) ∧ (-6000 ≤ z ∧ z ≤ 6000)
theorem szD_ok {x y z d : Int} (hd : 1 ≤ d ∧ d ≤ 240) (h : Bx x y z) : ivE [(lowN x d, lowD x d), (lowN y d, lowD y d), (lowN z d, lowD z d)] = 0 := by
 obtain ⟨hr, X, Y, Z, D, hp, _⟩ := plan_prt hd h.1 h.2.1 h.2.2
 exact ivE_ok hr (by rw [hp]; simp)
theorem ivR_szD {x y z d : Int} (hd : 1 ≤ d ∧ d ≤ 240) (h : Bx x y z) : ivR (lowN x d) (lowD x d) (lowN y d) (lowD y d) (lowN z d) (lowD z d) = .tuple #[szD x y z d, .int .i64 0] := by
 unfold ivR; rw [if_pos (szD_ok hd h)]
theorem lowD_pos {n d : Int} (hd : 0 < d) : 0 < lowD n d := by
 obtain ⟨_, _, _, _, h, _⟩ := low_mul n d hd
 exact h
theorem low_sub {x u d : Int} (hd : 0 < d) : lowN (lowN x d * lowD u d - lowN u d * lowD x d) (lowD x d * lowD u d) = lowN (x - u) d ∧ lowD (lowN x d * lowD u d - lowN u d * lowD x d) (lowD x d * lowD u d) = lowD (x - u) d := by
 refine low_cross (Int.mul_pos (lowD_pos hd) (lowD_pos hd)) hd ?_
 have h1 := rd_low (n := x) hd
 have h2 := rd_low (n := u) hd
 rw [Int.sub_mul, Int.sub_mul, Int.mul_right_comm (lowN x d), h1, Int.mul_right_comm (lowN u d), h2]
 rw [Int.mul_assoc x, Int.mul_assoc u, Int.mul_comm (lowD u d) (lowD x d)]
theorem low_add {x u d : Int} (hd : 0 < d) : lowN (lowN x d * lowD u d + lowN u d * lowD x d) (lowD x d * lowD u d) = lowN (x + u) d ∧ lowD (lowN x d * lowD u d + lowN u d * lowD x d) (lowD x d * lowD u d) = lowD (x + u) d := by
 refine low_cross (Int.mul_pos (lowD_pos hd) (lowD_pos hd)) hd ?_
 have h1 := rd_low (n := x) hd
 have h2 := rd_low (n := u) hd
 rw [Int.add_mul, Int.add_mul, Int.mul_right_comm (lowN x d), h1, Int.mul_right_comm (lowN u d), h2]
 rw [Int.mul_assoc x, Int.mul_assoc u, Int.mul_comm (lowD u d) (lowD x d)]
theorem low_scale {a p d : Int} (hd : 0 < d) : lowN (a * lowN p d) (1 * lowD p d) = lowN (a * p) d ∧ lowD (a * lowN p d) (1 * lowD p d) = lowD (a * p) d := by
 refine low_cross (by rw [Int.one_mul]; exact lowD_pos hd) hd ?_
 have h1 := rd_low (n := p) hd
 rw [Int.mul_assoc, h1, Int.one_mul, Int.mul_assoc]
section
variable (x y z u v t d : Int) (w : World) (hd : 1 ≤ d ∧ d ≤ 240)
include hd
theorem tsub_any (h1 : Bx x y z) (h2 : Bx u v t) (h3 : Bx (x - u) (y - v) (z - t)) :
  Calls Tryz.prog 102 #[szD x y z d, szD u v t d] w fun e w' => e = .returned (.tuple #[szD (x - u) (y - v) (z - t) d, .int .i64 0]) ∧ Below w.heap.size w w' := by
 refine (iSub_any _ _ _ _ _ _ _ _ _ _ _ _ w (szD_ok hd h1) (szD_ok hd h2)).mono ?_
 rintro e w' ⟨he, hb⟩
 refine ⟨he.trans ?_, hb⟩
 have hp : 0 < d := by omega
 rw [(low_sub hp).1, (low_sub hp).2, (low_sub hp).1, (low_sub hp).2, (low_sub hp).1, (low_sub hp).2, ivR_szD hd h3]
theorem tadd_any (h1 : Bx x y z) (h2 : Bx u v t) (h3 : Bx (x + u) (y + v) (z + t)) :
  Calls Tryz.prog 123 #[szD x y z d, szD u v t d] w fun e w' => e = .returned (.tuple #[szD (x + u) (y + v) (z + t) d, .int .i64 0]) ∧ Below w.heap.size w w' := by
 refine (iAdd_any _ _ _ _ _ _ _ _ _ _ _ _ w (szD_ok hd h1) (szD_ok hd h2)).mono ?_
 rintro e w' ⟨he, hb⟩
 refine ⟨he.trans ?_, hb⟩
 have hp : 0 < d := by omega
 rw [(low_add hp).1, (low_add hp).2, (low_add hp).1, (low_add hp).2, (low_add hp).1, (low_add hp).2, ivR_szD hd h3]
theorem tscale_any (a b c p : Int) (h1 : Bx a b c) (h3 : Bx (a * p) (b * p) (c * p)) (hr : Right (lowN p d) (lowD p d)) :
  Calls Tryz.prog 178 #[szv a 1 b 1 c 1, .agg #[.int .i64 (lowN p d), .int .i64 (lowD p d)]] w fun e w' => e = .returned (.tuple #[szD (a * p) (b * p) (c * p) d, .int .i64 0]) ∧ Below w.heap.size w w' := by
 have h0 : ivE [(a, 1), (b, 1), (c, 1)] = 0 := by
  have := szD_ok (d := 1) ⟨by decide, by decide⟩ h1
  rwa [(t_low_one a).1, (t_low_one a).2, (t_low_one b).1, (t_low_one b).2, (t_low_one c).1, (t_low_one c).2] at this
 refine (iScale_any _ _ _ _ _ _ _ _ w h0 hr).mono ?_
 rintro e w' ⟨he, hb⟩
 refine ⟨he.trans ?_, hb⟩
 have hp : 0 < d := by omega
 rw [(low_scale hp).1, (low_scale hp).2, (low_scale hp).1, (low_scale hp).2, (low_scale hp).1, (low_scale hp).2, ivR_szD hd h3]
theorem oc_same {X Y Z D : Int} (hD : 1 ≤ D) (h0 : X * d = x * D) (h1 : Y * d = y * D) (h2 : Z * d = z * D) : ocZ X Y Z D = ocZ x y z d := by
 unfold ocZ
 refine ediv_same (Int.mul_pos (by omega) (by decide)) (Int.mul_pos (by omega) (by decide)) ?_
 have e : d * lgZ X Y Z = D * lgZ x y z := by
  rw [← lg_mul, ← lg_mul, Int.mul_comm d, Int.mul_comm d, Int.mul_comm d, h0, h1, h2, Int.mul_comm D, Int.mul_comm D, Int.mul_comm D]
 rw [← Int.mul_assoc, Int.mul_comm _ d, e, ← Int.mul_assoc, Int.mul_comm (lgZ x y z)]
theorem tred_any (ht : Tab w) (h1 : Bx x y z) (h3 : Bx (x - d * ocZ x y z d) y z) :
  Calls Tryz.prog 149 #[szD x y z d] w fun e w' => e = .returned (.tuple #[szD (x - d * ocZ x y z d) y z d, .int .i64 (ocZ x y z d), .int .i64 0]) ∧ Below w.heap.size w w' := by
 obtain ⟨hr, X, Y, Z, D, hp, hD, e0, e1, e2⟩ := plan_prt hd h1.1 h1.2.1 h1.2.2
 have hoc := oc_same x y z d hd hD.1 e0 e1 e2
 refine (ireduce_any _ _ _ _ _ _ X Y Z D w ht (szD_ok hd h1) hp).mono ?_
 rintro e w' ⟨he, hb⟩
 refine ⟨he.trans ?_, hb⟩
 rw [hoc]
 obtain ⟨k, hk⟩ : ∃ k, k = ocZ x y z d := ⟨_, rfl⟩
 rw [← hk] at h3 ⊢
 have hp : 0 < d := by omega
 have hl := low_cross (n := lowN x d * 1 - k * lowD x d) (d := lowD x d * 1) (m := x - d * k) (e := d) (by rw [Int.mul_one]; exact lowD_pos hp) hp (by
  rw [Int.mul_one, Int.mul_one, Int.sub_mul, Int.sub_mul, rd_low hp, Int.mul_assoc k, Int.mul_comm d k, Int.mul_assoc k, Int.mul_comm (lowD x d) d])
 rw [hl.1, hl.2]
 unfold rdR
 rw [if_pos (szD_ok hd h3)]
theorem tcmp_any (ht : Tab w) (h1 : Bx x y z) (h2 : Bx u v t) :
  Calls Tryz.prog 46 #[szD x y z d, szD u v t d] w fun e w' => e = .returned (.tuple #[.int .i64 (sgn (lgZ (x - u) (y - v) (z - t))), .int .i64 0]) ∧ Below w.heap.size w w' := by
 obtain ⟨hr, X, Y, Z, D, hp, hD, e0, e1, e2⟩ := plan_prt hd h1.1 h1.2.1 h1.2.2
 obtain ⟨hr', U, V, T, E, hp', hE, e0', e1', e2'⟩ := plan_prt hd h2.1 h2.2.1 h2.2.2
 refine (icompare_all _ _ _ _ _ _ _ _ _ _ _ _ X Y Z D U V T E w ht hr hr' hp hp').mono ?_
 rintro e w' ⟨he, hb⟩
 refine ⟨he.trans ?_, hb⟩
 have k1 : d * lgZ X Y Z = D * lgZ x y z := by
  rw [← lg_mul, ← lg_mul, Int.mul_comm d, Int.mul_comm d, Int.mul_comm d, e0, e1, e2, Int.mul_comm D, Int.mul_comm D, Int.mul_comm D]
 have k2 : d * lgZ U V T = E * lgZ u v t := by
  rw [← lg_mul, ← lg_mul, Int.mul_comm d, Int.mul_comm d, Int.mul_comm d, e0', e1', e2', Int.mul_comm E, Int.mul_comm E, Int.mul_comm E]
 have k3 := lg_sub x y z u v t 1 1
 simp only [Int.mul_one, Int.one_mul] at k3
 have k4 : d * (E * lgZ X Y Z - D * lgZ U V T) = (E * D) * lgZ (x - u) (y - v) (z - t) := by
  rw [k3, Int.mul_sub, Int.mul_sub, Int.mul_left_comm d E, k1, Int.mul_left_comm d D, k2, Int.mul_assoc, Int.mul_assoc, Int.mul_left_comm D E]
 rw [← sgn_mul_pos (show (0 : Int) < d by omega) , k4, sgn_mul_pos (Int.mul_pos (by omega) (by omega))]
end
theorem tof_any (n d : Int) (w : World) (hd : 1 ≤ d ∧ d ≤ 240) (hn : -6000 ≤ n ∧ n ≤ 6000) :
  Calls Tryz.prog 45 #[.int .i64 n, .int .i64 0, .int .i64 0] w fun e w' => e = .returned (.tuple #[szD (d * n) 0 0 d, .int .i64 0]) ∧ Below w.heap.size w w' := by
 refine (iof_any n 0 0 w ⟨by omega, by omega⟩ ⟨by decide, by decide⟩ ⟨by decide, by decide⟩).mono ?_
 rintro e w' ⟨he, hb⟩
 refine ⟨he.trans ?_, hb⟩
 rw [t_ivR_ones hn ⟨by decide, by decide⟩ ⟨by decide, by decide⟩]
 have hp : 0 < d := by omega
 have e1 := low_cross (n := d * n) (d := d) (m := n) (e := 1) hp (by decide) (by rw [Int.mul_one, Int.mul_comm])
 have e0 := low_cross (n := 0) (d := d) (m := 0) (e := 1) hp (by decide) (by rw [Int.zero_mul, Int.zero_mul])
 unfold szD
 rw [e1.1, e1.2, e0.1, e0.2, (t_low_one n).1, (t_low_one n).2, (t_low_one 0).1, (t_low_one 0).2]
theorem tnamed_at {k : ByteArray} {n q a0 a1 a2 b0 b1 b2 : Nat} (x y z : Int) (w : World) (h : nmGet k nmTab = some (n, q)) (f1 : Fac n a0 a1 a2 1) (f2 : Fac q b0 b1 b2 1) (hx : x = (a0 : Int) - b0) (hy : y = (a1 : Int) - b1) (hz : z = (a2 : Int) - b2) (hb : Bx x y z) :
  Calls Tryz.prog 33 #[.string k] w fun e w' => e = .returned (.tuple #[szv x 1 y 1 z 1, .int .i64 0]) ∧ Below w.heap.size w w' := by
 refine (named_any _ w).mono ?_
 intro e w' h0
 unfold RetNamed at h0
 rw [h] at h0
 obtain ⟨⟨rn, rd, a0', b0', a1', b1', a2', b2', ⟨g1, g2⟩, m2, m3, m5, he⟩, hbl⟩ := h0
 obtain ⟨rfl, rfl, rfl, rfl⟩ := fac_uniq g1 f1 m2.1 m3.1 m5.1 (by decide) (by decide) (by decide)
 obtain ⟨rfl, rfl, rfl, rfl⟩ := fac_uniq g2 f2 m2.2 m3.2 m5.2 (by decide) (by decide) (by decide)
 rw [if_pos rfl, ← hx, ← hy, ← hz, t_ivR_ones hb.1 hb.2.1 hb.2.2] at he
 exact ⟨he, hbl⟩
theorem szv_szD {x y z d : Int} (hd : 0 < d) : szv x 1 y 1 z 1 = szD (d * x) (d * y) (d * z) d := by
 have e := fun n => low_cross (n := d * n) (d := d) (m := n) (e := 1) hd (by decide) (by rw [Int.mul_one, Int.mul_comm])
 unfold szD
 rw [(e x).1, (e x).2, (e y).1, (e y).2, (e z).1, (e z).2, (t_low_one x).1, (t_low_one x).2, (t_low_one y).1, (t_low_one y).2, (t_low_one z).1, (t_low_one z).2]
end Go.Proofs.YtendjepcjmfmfaaGreatDoor
namespace Go.Proofs.YtendjepcjmfmfaaGreatDoor
open Go.RowKit
theorem Hp.put6s {w W : World} {L : List (Nat × TypeId × List Value)} (h : Hp w L W) (i : Nat) {g : Nat} {t : TypeId} {a b c d x y : Value} (e : L[i]? = some (g, t, [a, b, c, d, x, y])) (a' b' c' d' x' y' : Value) : Below w.heap.size w ((((((W.setCell ⟨g, 0, none⟩ a').setCell ⟨g, 1, none⟩ b').setCell ⟨g, 2, none⟩ c').setCell ⟨g, 3, none⟩ d').setCell ⟨g, 4, none⟩ x').setCell ⟨g, 5, none⟩ y') := (h.put6 i e a' b' c' d' x' y').below
set_option maxRecDepth 100000 in
set_option maxHeartbeats 2000000 in
theorem tnamed_any (k : ByteArray) (a0 b0 a1 b1 a2 b2 x : Int) (w : World)
  (hn : ∀ W, Calls Tryz.prog 33 #[.string k] W fun e W' => e = .returned (.tuple #[szv a0 b0 a1 b1 a2 b2, .int .i64 x]) ∧ Below W.heap.size W W') :
  Calls Tryz.prog 167 #[.string k] w fun e w' => e = .returned (szv a0 b0 a1 b1 a2 b2) ∧ Below w.heap.size w w' := by
 have HN := Lib.hid hn
 have hm0 := (Hp.start w).new 49 [.int .i64 0, .int .i64 0, .int .i64 0, .int .i64 0, .int .i64 0, .int .i64 0]
 simp only [List.nil_append] at hm0
 have HM0 := Lib.hid hm0
 clear hm0 hn
 go_enter Tryz.func167, Tryz.ntmps167
 go_wp2_with fail
 refine (HN.out _).mono ?_
 rintro e w1 ⟨rfl, hb1⟩
 have hm1 := (HM0.out.step hb1).new 49 [.int .i64 a0, .int .i64 b0, .int .i64 a1, .int .i64 b1, .int .i64 a2, .int .i64 b2]
 simp only [List.nil_append, List.cons_append] at hm1
 obtain ⟨z0, z1, z2, z3, z4, z5⟩ := six_of (hm1.at_ 0 rfl)
 obtain ⟨f0, f1, f2, f3, f4, f5⟩ := six_free (hm1.at_ 0 rfl)
 have HB := Lib.hid (hm1.put6s 0 rfl (.int .i64 a0) (.int .i64 b0) (.int .i64 a1) (.int .i64 b1) (.int .i64 a2) (.int .i64 b2))
 clear hb1 hm1
 go_wp2
 exact bodyPost_ret (v := szv a0 b0 a1 b1 a2 b2) (by simp [results, Tryz.results167, go_sem, z0, z1, z2, z3, z4, z5, f0, f1, f2, f3, f4, f5]) rfl ⟨rfl, HB.out⟩
set_option maxRecDepth 100000 in
set_option maxHeartbeats 2000000 in
theorem toctaves_any (n d : Int) (w : World) (hd : 1 ≤ d ∧ d ≤ 240) (hn : -6000 ≤ n ∧ n ≤ 6000) :
  Calls Tryz.prog 124 #[.int .i64 n] w fun e w' => e = .returned (szD (d * n) 0 0 d) ∧ Below w.heap.size w w' := by
 have HN := Lib.hid (fun W => tof_any n d W hd hn)
 have hm0 := (Hp.start w).new 49 [.int .i64 0, .int .i64 0, .int .i64 0, .int .i64 0, .int .i64 0, .int .i64 0]
 simp only [List.nil_append] at hm0
 have HM0 := Lib.hid hm0
 unfold szD at HN ⊢
 generalize lowN (d * n) d = a0 at *
 generalize lowD (d * n) d = b0 at *
 generalize lowN 0 d = a1 at *
 generalize lowD 0 d = b1 at *
 clear hm0
 go_enter Tryz.func124, Tryz.ntmps124
 go_wp2_with fail
 refine (HN.out _).mono ?_
 rintro e w1 ⟨rfl, hb1⟩
 have hm1 := (HM0.out.step hb1).new 49 [.int .i64 a0, .int .i64 b0, .int .i64 a1, .int .i64 b1, .int .i64 a1, .int .i64 b1]
 simp only [List.nil_append, List.cons_append] at hm1
 obtain ⟨z0, z1, z2, z3, z4, z5⟩ := six_of (hm1.at_ 0 rfl)
 obtain ⟨f0, f1, f2, f3, f4, f5⟩ := six_free (hm1.at_ 0 rfl)
 have HB := Lib.hid (hm1.put6s 0 rfl (.int .i64 a0) (.int .i64 b0) (.int .i64 a1) (.int .i64 b1) (.int .i64 a1) (.int .i64 b1))
 clear hb1 hm1
 go_wp2
 exact bodyPost_ret (v := szv a0 b0 a1 b1 a1 b1) (by simp [results, Tryz.results124, go_sem, z0, z1, z2, z3, z4, z5, f0, f1, f2, f3, f4, f5]) rfl ⟨rfl, HB.out⟩
def limV (a0 b0 a1 b1 a2 b2 x : Int) : Value := if x = 0 then .tuple #[szv a0 b0 a1 b1 a2 b2, .int .i64 0] else .tuple #[szv 0 0 0 0 0 0, .int .i64 4]
set_option maxRecDepth 100000 in
set_option maxHeartbeats 2000000 in
theorem tlimited_any (a0 b0 a1 b1 a2 b2 x : Int) (w : World) :
  Calls Tryz.prog 101 #[szv a0 b0 a1 b1 a2 b2, .int .i64 x] w fun e w' => e = .returned (limV a0 b0 a1 b1 a2 b2 x) ∧ Below w.heap.size w w' := by
 by_cases hx : x = 0
 ·subst hx
  have HE := Lib.hid (show limV a0 b0 a1 b1 a2 b2 0 = .tuple #[szv a0 b0 a1 b1 a2 b2, .int .i64 0] from if_pos rfl)
  go_enter Tryz.func101, Tryz.ntmps101
  go_wp2
  exact bodyPost_ret (v := .tuple #[szv a0 b0 a1 b1 a2 b2, .int .i64 0]) (by simp [results, Tryz.results101, go_sem]) rfl ⟨by rw [HE.out], bw_new (bw_new (Below.refl _ _) _) _⟩
 ·have HE := Lib.hid (show limV a0 b0 a1 b1 a2 b2 x = .tuple #[szv 0 0 0 0 0 0, .int .i64 4] from if_neg hx)
  have hz : (x != 0) = true := by simpa using hx
  clear hx
  go_enter Tryz.func101, Tryz.ntmps101
  go_wp2
  exact bodyPost_ret (v := .tuple #[szv 0 0 0 0 0 0, .int .i64 4]) (by simp [results, Tryz.results101, go_sem]) rfl ⟨by rw [HE.out], bw_new (bw_new (Below.refl _ _) _) _⟩
end Go.Proofs.YtendjepcjmfmfaaGreatDoor
