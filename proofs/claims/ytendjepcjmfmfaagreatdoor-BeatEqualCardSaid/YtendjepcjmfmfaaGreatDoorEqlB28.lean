/- Part 28 of 39 of the proof of the law: contracts of the functions that it reaches, and plain facts. Conditions: those that each contract names. -/
import Derived.Test.YtendjepcjmfmfaaGreatDoorEqlB22
import Derived.Test.YtendjepcjmfmfaaGreatDoorEqlB25
import Derived.Test.YtendjepcjmfmfaaGreatDoorEqlB19
import Derived.Test.YtendjepcjmfmfaaGreatDoorEqlB06
import Derived.Test.YtendjepcjmfmfaaGreatDoorEqlB27
import Derived.Test.YtendjepcjmfmfaaGreatDoorEqlB07
import Derived.Test.YtendjepcjmfmfaaGreatDoorEqlB13
import Derived.Deep.QuietTactic
import Derived.BigQuiet
namespace Go.Proofs.YtendjepcjmfmfaaGreatDoor
section
open Go.RowKit
theorem pow_side {U T F T' F' : Nat} (h3 : Lo 3 1 T U) (h5 : Lo 5 1 F U) (k3 : Up 3 1 T' U) (k5 : Up 5 1 F' U) {a b c a' b' c' : Nat}
  (h : a' * U + b' * T' + c' * F' < a * U + b * T + c * F) : 2 ^ a' * 3 ^ b' * 5 ^ c' < 2 ^ a * 3 ^ b * 5 ^ c := by
 have l3 : 2 ^ T ≤ 3 ^ U := by have := h3.le; omega
 have l5 : 2 ^ F ≤ 5 ^ U := by have := h5.le; omega
 have u3 : 3 ^ U ≤ 2 ^ T' := by have := k3.le; omega
 have u5 : 5 ^ U ≤ 2 ^ F' := by have := k5.le; omega
 have e : ∀ i j k : Nat, (2 ^ i * 3 ^ j * 5 ^ k) ^ U = 2 ^ (i * U) * (3 ^ U) ^ j * (5 ^ U) ^ k := fun i j k => by
  rw [Nat.mul_pow, Nat.mul_pow, ← Nat.pow_mul, ← Nat.pow_mul, ← Nat.pow_mul, ← Nat.pow_mul, ← Nat.pow_mul, Nat.mul_comm j U, Nat.mul_comm k U]
 have f : ∀ i j k S R : Nat, 2 ^ (i * U) * (2 ^ S) ^ j * (2 ^ R) ^ k = 2 ^ (i * U + j * S + k * R) := fun i j k S R => by
  rw [← Nat.pow_mul, ← Nat.pow_mul, ← Nat.pow_add, ← Nat.pow_add, Nat.mul_comm j S, Nat.mul_comm k R]
 have hlow : 2 ^ (a * U + b * T + c * F) ≤ (2 ^ a * 3 ^ b * 5 ^ c) ^ U := by
  rw [e, ← f]
  exact Nat.mul_le_mul (Nat.mul_le_mul_left _ (Nat.pow_le_pow_left l3 _)) (Nat.pow_le_pow_left l5 _)
 have hup : (2 ^ a' * 3 ^ b' * 5 ^ c') ^ U ≤ 2 ^ (a' * U + b' * T' + c' * F') := by
  rw [e, ← f]
  exact Nat.mul_le_mul (Nat.mul_le_mul_left _ (Nat.pow_le_pow_left u3 _)) (Nat.pow_le_pow_left u5 _)
 have hs : 2 ^ (a' * U + b' * T' + c' * F') < 2 ^ (a * U + b * T + c * F) := Nat.pow_lt_pow_right (by decide) h
 rcases Nat.lt_or_ge (2 ^ a' * 3 ^ b' * 5 ^ c') (2 ^ a * 3 ^ b * 5 ^ c) with k | k
 ·exact k
 ·have := Nat.pow_le_pow_left k U
  omega
def rsU (a b c : Nat) : Nat → Int
 | 0 => 1
 | 1 => 1 * 2 ^ a
 | 2 => 1 * 2 ^ a * 3 ^ b
 | _ => 1 * 2 ^ a * 3 ^ b * 5 ^ c
theorem rsU_nat (a b c : Nat) : rsU a b c 3 = ((2 ^ a * 3 ^ b * 5 ^ c : Nat) : Int) := by
 show (1 : Int) * 2 ^ a * 3 ^ b * 5 ^ c = _
 rw [Int.one_mul]
 push_cast
 rfl
theorem pow_sgn {x y z : Int} (hx : -20000 ≤ x ∧ x ≤ 20000) (hy : -20000 ≤ y ∧ y ≤ 20000) (hz : -20000 ≤ z ∧ z ≤ 20000) :
  sgn (rsU x.toNat y.toNat z.toNat 3 - rsU (-x).toNat (-y).toNat (-z).toNat 3) = sgn (lgZ x y z) := by
 rw [rsU_nat, rsU_nat]
 by_cases h0 : x = 0 ∧ y = 0 ∧ z = 0
 ·obtain ⟨rfl, rfl, rfl⟩ := h0
  rw [show lgZ 0 0 0 = 0 by decide]
  rfl
 ·have hf := lg_far (x := x) ⟨by omega, by omega⟩ ⟨by omega, by omega⟩ h0
  rw [lg_eq] at hf ⊢
  unfold lgU lgT lgF at hf ⊢
  rcases hf with hf | hf
  ·have h := pow_side three_lo five_lo three_up five_up (a := (-x).toNat) (b := (-y).toNat) (c := (-z).toNat) (a' := x.toNat) (b' := y.toNat) (c' := z.toNat) (by omega)
   rw [sgn_neg (by omega), sgn_neg (by omega)]
  ·have h := pow_side three_lo five_lo three_up five_up (a := x.toNat) (b := y.toNat) (c := z.toNat) (a' := (-x).toNat) (b' := (-y).toNat) (c' := (-z).toNat) (by omega)
   rw [sgn_pos (by omega), sgn_pos (by omega)]
theorem rsU_digits (a b c k : Nat) (ha : a ≤ 20000) (hb : b ≤ 20000) (hc : c ≤ 20000) : Lib.nDigits (rsU a b c k).natAbs ≤ 60001 := by
 obtain ⟨E, hE⟩ : ∃ E : Nat, E = 60001 := ⟨_, rfl⟩
 rw [← hE]
 have p2 : 2 ^ a ≤ 10 ^ a := Nat.pow_le_pow_left (by decide) _
 have p3 : 3 ^ b ≤ 10 ^ b := Nat.pow_le_pow_left (by decide) _
 have p5 : 5 ^ c ≤ 10 ^ c := Nat.pow_le_pow_left (by decide) _
 have hb2 : ∀ n : Nat, n ≤ 60000 → 10 ^ n < 10 ^ E := fun n hn => Nat.pow_lt_pow_right (by decide) (by omega)
 refine nDigits_le _ E (by omega) ?_
 match k with
 | 0 => exact Nat.lt_of_le_of_lt (Nat.one_le_two_pow (n := 0)) (Nat.lt_of_le_of_lt (by show 2 ^ 0 ≤ 10 ^ 0; decide) (hb2 0 (by omega)))
 | 1 =>
  have e : (rsU a b c 1).natAbs = 2 ^ a := by show ((1 : Int) * 2 ^ a).natAbs = _; rw [Int.one_mul, Int.natAbs_pow]; rfl
  rw [e]; exact Nat.lt_of_le_of_lt p2 (hb2 a (by omega))
 | 2 =>
  have e : (rsU a b c 2).natAbs = 2 ^ a * 3 ^ b := by show ((1 : Int) * 2 ^ a * 3 ^ b).natAbs = _; rw [Int.one_mul, Int.natAbs_mul, Int.natAbs_pow, Int.natAbs_pow]; rfl
  rw [e]
  refine Nat.lt_of_le_of_lt (Nat.mul_le_mul p2 p3) ?_
  rw [← Nat.pow_add]
  exact hb2 _ (by omega)
 | n + 3 =>
  have e : (rsU a b c (n + 3)).natAbs = 2 ^ a * 3 ^ b * 5 ^ c := by show ((1 : Int) * 2 ^ a * 3 ^ b * 5 ^ c).natAbs = _; rw [Int.one_mul, Int.natAbs_mul, Int.natAbs_mul, Int.natAbs_pow, Int.natAbs_pow, Int.natAbs_pow]; rfl
  rw [e]
  refine Nat.lt_of_le_of_lt (Nat.mul_le_mul (Nat.mul_le_mul p2 p3) p5) ?_
  rw [← Nat.pow_add, ← Nat.pow_add]
  exact hb2 _ (by omega)
theorem nd1 {q : Int} (h : q.natAbs < 10 ^ 1) : Lib.nDigits q.natAbs ≤ 1 := nDigits_le _ _ (by decide) h
theorem pow2_digits (q : Int) (n : Nat) (hq : Lib.nDigits q.natAbs ≤ 1) (hn : n ≤ 20000) : Lib.nDigits (q ^ n).natAbs ≤ 20001 := by
 have := pow_digits q n
 have h2 := Nat.mul_le_mul_left n hq
 omega
end
section
open Go.RowKit
def shB (x y z : Int) : Bool := decide ((-900 ≤ x ∧ x ≤ 900) ∧ (-900 ≤ y ∧ y ≤ 900) ∧ (-900 ≤ z ∧ z ≤ 900))
def ShRel (w : World) (x y z D : Int) (i : Value) (W : World) : Prop :=
 ∃ k : Nat, k ≤ 3 ∧ i = .int .i64 (k : Int) ∧ ((0 < k → -900 ≤ x ∧ x ≤ 900) ∧ (1 < k → -900 ≤ y ∧ y ≤ 900) ∧ (2 < k → -900 ≤ z ∧ z ≤ 900)) ∧ Hp w [(w.heap.size, 109, [.int .i64 x, .int .i64 y, .int .i64 z, .int .i64 D])] W
end
end Go.Proofs.YtendjepcjmfmfaaGreatDoor
namespace Go.Proofs.YtendjepcjmfmfaaGreatDoor
section
open Go.RowKit
def ocZ (x y z D : Int) : Int := lgZ x y z / (D * lgU)
theorem oc_lt {x y z D n : Int} (hD : 1 ≤ D) : sgn (lgZ (x - n * D) y z) < 0 ↔ ocZ x y z D < n := by
 have hp : 0 < D * lgU := Int.mul_pos (by omega) (by decide)
 have e : lgZ (x - n * D) y z = lgZ x y z - n * (D * lgU) := by
  rw [lg_eq, lg_eq, Int.sub_mul, Int.mul_assoc]; omega
 unfold ocZ
 rw [Int.ediv_lt_iff_lt_mul hp, e]
 constructor
 ·intro h
  rcases Int.lt_trichotomy (lgZ x y z - n * (D * lgU)) 0 with h1 | h1 | h1
  ·omega
  ·rw [h1] at h; exact absurd h (by decide)
  ·rw [sgn_pos h1] at h; exact absurd h (by decide)
 ·intro h
  rw [sgn_neg (by omega)]; decide
end
section
open Go.RowKit
theorem red_bd {x y z D : Int} (hx : -6000 ≤ x ∧ x ≤ 6000) (hy : -6000 ≤ y ∧ y ≤ 6000) (hz : -6000 ≤ z ∧ z ≤ 6000) (hD : 1 ≤ D ∧ D ≤ 240) :
  (-31000 ≤ loZ x y z / (D * lgU) * D ∧ loZ x y z / (D * lgU) * D ≤ 31000) ∧ loZ x y z / (D * lgU) ≤ ocZ x y z D ∧ ocZ x y z D ≤ loZ x y z / (D * lgU) + 1 := by
 have hp : 0 < D * lgU := Int.mul_pos (by omega) (by decide)
 have h := lg_eq x y z
 have hlo : loZ x y z = lgZ x y z + (if 0 < y then 0 else y) + (if 0 < z then 0 else z) := rfl
 have hl1 : loZ x y z ≤ lgZ x y z := by rw [hlo]; split <;> split <;> omega
 have hl2 : lgZ x y z ≤ loZ x y z + 12000 := by rw [hlo]; split <;> split <;> omega
 have h1 : loZ x y z / (D * lgU) * (D * lgU) ≤ loZ x y z := Int.ediv_mul_le _ (Int.ne_of_gt hp)
 have h2 : loZ x y z < (loZ x y z / (D * lgU) + 1) * (D * lgU) := Int.lt_ediv_add_one_mul_self _ hp
 refine ⟨?_, Int.ediv_le_ediv hp hl1, ?_⟩
 ·rw [Int.add_mul, Int.one_mul] at h2
  rw [← Int.mul_assoc] at h1 h2
  obtain ⟨k, hk⟩ : ∃ k, k = loZ x y z / (D * lgU) * D := ⟨_, rfl⟩
  rw [← hk] at h1 h2 ⊢
  clear hlo hk hp
  unfold lgU lgT lgF at *
  omega
 ·have h3 : lgZ x y z ≤ loZ x y z + 1 * (D * lgU) := by
   have : (12000 : Int) ≤ D * lgU := by unfold lgU; omega
   omega
  have h4 := Int.ediv_le_ediv hp h3
  rw [Int.add_mul_ediv_right _ _ (Int.ne_of_gt hp)] at h4
  exact h4
noncomputable def rdR (p q a1 b1 a2 b2 oc : Int) : Value := if ivE [(p, q), (a1, b1), (a2, b2)] = 0 then .tuple #[szv p q a1 b1 a2 b2, .int .i64 oc, .int .i64 0] else .tuple #[szv 0 0 0 0 0 0, .int .i64 0, .int .i64 4]
set_option maxRecDepth 100000 in
set_option maxHeartbeats 8000000 in
theorem ireduce_any (a0 b0 a1 b1 a2 b2 x y z D : Int) (w : World) (ht : Tab w) (h : ivE [(a0, b0), (a1, b1), (a2, b2)] = 0) (hpr : prt [(a0, b0), (a1, b1), (a2, b2)] = some ([x, y, z], D)) :
  Calls Tryz.prog 149 #[szv a0 b0 a1 b1 a2 b2] w fun e w' => e = .returned (rdR (lowN (a0 * 1 - ocZ x y z D * b0) (b0 * 1)) (lowD (a0 * 1 - ocZ x y z D * b0) (b0 * 1)) a1 b1 a2 b2 (ocZ x y z D)) ∧ Below w.heap.size w w' := by
 obtain ⟨hright, _⟩ := ivE_cases h
 have r0 := hright (a0, b0) (by simp)
 have r1 := hright (a1, b1) (by simp)
 have r2 := hright (a2, b2) (by simp)
 have i64 : ∀ {a b : Int}, Right a b → I64 a ∧ I64 b := fun {a b} k => by
  obtain ⟨h1, h2, h3, h4, _⟩ := k
  exact ⟨⟨by omega, by omega⟩, by omega, by omega⟩
 have hc := fun W => icheck_any a0 b0 a1 b1 a2 b2 W (i64 r0).1 (i64 r0).2 (i64 r1).1 (i64 r1).2 (i64 r2).1 (i64 r2).2
 rw [h] at hc
 have hp := fun W => parts_any a0 b0 a1 b1 a2 b2 W (right_mild hright)
 unfold PaRet at hp
 rw [hpr] at hp
 obtain ⟨hD, hl⟩ := prt_num hpr (right_mild hright)
 have hx := hl x (by simp)
 have hy := hl y (by simp)
 have hz := hl z (by simp)
 have mx : M12 x := ⟨by omega, by omega⟩
 have my : M12 y := ⟨by omega, by omega⟩
 have mz : M12 z := ⟨by omega, by omega⟩
 have mD : M12 D := ⟨by omega, by omega⟩
 obtain ⟨⟨b1', b2'⟩, _, _, _, _⟩ := cen_bd mx my mz hD
 have hlo := lo_bd mx my mz
 obtain ⟨hrb, hq1, hq2⟩ := red_bd hx hy hz hD
 have hbn := fun W hW => bounds_any x y z W hW mx my mz
 have hof := fun W hW => of12 D W hW mD
 have hmu := fun W hW => mul_unit D W hW mD
 have hdm : ∀ W, Tab W → Calls Tryz.prog 169 #[.string (dec (loZ x y z)), .string (dec (D * lgU))] W fun e W' => e = .returned (.tuple #[.string (dec (loZ x y z / (D * lgU))), .string (dec (loZ x y z % (D * lgU))), .int .i64 0]) ∧ Below W.heap.size W W' := fun W hW =>
  divmod_pos _ _ W hW (Nat.le_trans (nDigits_pow (k := 46) (by decide) hlo) (by decide)) (Nat.le_trans (nDigits_pow (k := 40) (by decide) b2') (by decide)) b1'
 obtain ⟨q, hq⟩ : ∃ q, q = loZ x y z / (D * lgU) := ⟨_, rfl⟩
 rw [← hq] at hrb hq1 hq2
 simp only [← hq] at hdm
 have hqb : -31000 ≤ q ∧ q ≤ 31000 := by
  constructor
  ·rcases Int.lt_or_le q (-31000) with h' | h'
   ·have := Int.mul_le_mul_of_nonneg_right (show q ≤ -31001 by omega) (show 0 ≤ D by omega)
    have := Int.mul_le_mul_of_nonneg_left hD.1 (show (0:Int) ≤ 31001 by decide)
    omega
   ·exact h'
  ·rcases Int.lt_or_le 31000 q with h' | h'
   ·have := Int.mul_le_mul_of_nonneg_right (show 31001 ≤ q by omega) (show 0 ≤ D by omega)
    have := Int.mul_le_mul_of_nonneg_left hD.1 (show (0:Int) ≤ 31001 by decide)
    omega
   ·exact h'
 have hsl := fun W => small_yes q W (nDigits_pow (by decide) (by omega))
 have hlt := oc_lt (x := x) (y := y) (z := z) (D := D) (n := q + 1) hD.1
 obtain ⟨oc, hoc⟩ : ∃ oc, oc = ocZ x y z D := ⟨_, rfl⟩
 rw [← hoc] at hq1 hq2 hlt ⊢
 obtain ⟨m, hm⟩ : ∃ m, m = (q + 1) * D := ⟨_, rfl⟩
 have hmb : -32000 ≤ m ∧ m ≤ 32000 := by rw [hm, Int.add_mul]; omega
 obtain ⟨X0, hX0⟩ : ∃ X0, X0 = x - m := ⟨_, rfl⟩
 rw [← hm, ← hX0] at hlt
 have hsg := fun W hW => isign_all X0 y z W hW (by omega) (by omega) (by omega)
 obtain ⟨sg, hsgn⟩ : ∃ s, s = sgn (lgZ X0 y z) := ⟨_, rfl⟩
 rw [← hsgn] at hlt hsg
 have hro : Right oc 1 := ⟨by decide, by decide, by omega, by omega, by simp⟩
 have hfs := fun W => fSub_any a0 b0 oc 1 W r0 hro
 rw [fmake_low _ _ (show 0 < b0 * 1 by have := r0.1; omega)] at hfs
 obtain ⟨P, hP⟩ : ∃ P, P = lowN (a0 * 1 - oc * b0) (b0 * 1) := ⟨_, rfl⟩
 obtain ⟨Q, hQ⟩ : ∃ P, P = lowD (a0 * 1 - oc * b0) (b0 * 1) := ⟨_, rfl⟩
 rw [← hP, ← hQ] at hfs ⊢
 have hcase : (sg < 0 ∧ oc = q) ∨ (0 ≤ sg ∧ oc = q + 1) := by
  by_cases hs : sg < 0
  ·exact .inl ⟨hs, by have := hlt.1 hs; omega⟩
  ·refine .inr ⟨by omega, ?_⟩
   rcases Int.lt_or_le oc (q + 1) with h' | h'
   ·exact absurd (hlt.2 h') hs
   ·omega
 have HW1 := Lib.hid (show wrap64 (q + 1) = q + 1 from IntWalk.wrap64_in _ ⟨by omega, by omega⟩)
 obtain ⟨q1, hq1'⟩ : ∃ k, k = q + 1 := ⟨_, rfl⟩
 rw [← hq1'] at hm hcase
 have HWQ := Lib.hid (show wrap64 (q + 1) = q1 from hq1' ▸ HW1.out)
 have HWM := Lib.hid (show wrap64 (q1 * D) = m from by rw [← hm]; exact IntWalk.wrap64_in _ ⟨by omega, by omega⟩)
 have HWX := Lib.hid (show wrap64 (x - m) = X0 from by rw [← hX0]; exact IntWalk.wrap64_in _ ⟨by omega, by omega⟩)
 obtain ⟨lo, hlo'⟩ : ∃ a, a = dec (loZ x y z) := ⟨_, rfl⟩
 obtain ⟨hi, hhi'⟩ : ∃ a, a = dec (hiZ x y z) := ⟨_, rfl⟩
 obtain ⟨dd, hdd⟩ : ∃ a, a = dec (D * lgU) := ⟨_, rfl⟩
 obtain ⟨tr, htr⟩ : ∃ a, a = dec (loZ x y z % (D * lgU)) := ⟨_, rfl⟩
 obtain ⟨tq, htq⟩ : ∃ a, a = dec q := ⟨_, rfl⟩
 obtain ⟨tD, htD⟩ : ∃ a, a = dec D := ⟨_, rfl⟩
 rw [← hlo', ← hhi'] at hbn
 rw [← htD] at hof
 simp only [← htD, ← hdd] at hmu
 simp only [← hlo', ← hdd, ← htq, ← htr] at hdm
 simp only [← htq] at hsl
 have HC := Lib.hid hc
 have HP := Lib.hid hp
 have HBN := Lib.hid hbn
 have HOF := Lib.hid hof
 have HMU := Lib.hid hmu
 have HDM := Lib.hid hdm
 have HSL := Lib.hid hsl
 have HSG := Lib.hid hsg
 have HFS := Lib.hid hfs
 have HRI := Lib.hid (fun W (hr : Right P Q) => iresult_any P Q a1 b1 a2 b2 W (i64 hr).1 (i64 hr).2 (i64 r1).1 (i64 r1).2 (i64 r2).1 (i64 r2).2)
 have HCA := Lib.hid hcase
 have HT := Lib.hid ht
 have HNR := Lib.hid (show ¬ Right P Q → ivE [(P, Q), (a1, b1), (a2, b2)] ≠ 0 from fun hn he => hn ((ivE_cases he).1 (P, Q) (by simp)))
 have HM0 := Lib.hid (show Hp w [(w.heap.size, 49, [.int .i64 a0, .int .i64 b0, .int .i64 a1, .int .i64 b1, .int .i64 a2, .int .i64 b2]), (w.heap.size + 1, 49, [.int .i64 0, .int .i64 0, .int .i64 0, .int .i64 0, .int .i64 0, .int .i64 0])] ((w.alloc (.cells #[.int .i64 a0, .int .i64 b0, .int .i64 a1, .int .i64 b1, .int .i64 a2, .int .i64 b2] 49)).alloc (.cells #[.int .i64 0, .int .i64 0, .int .i64 0, .int .i64 0, .int .i64 0, .int .i64 0] 49)) from by
  have h := ((Hp.start w).new 49 [.int .i64 a0, .int .i64 b0, .int .i64 a1, .int .i64 b1, .int .i64 a2, .int .i64 b2]).new 49 [.int .i64 0, .int .i64 0, .int .i64 0, .int .i64 0, .int .i64 0, .int .i64 0]
  simp only [World.size_alloc] at h
  exact h)
 clear hc hp hbn hof hmu hdm hsl hsg hfs hlo' hhi' hdd htr htq htD hcase ht h hpr hright r0 r1 r2 i64 hD hl hx hy hz mx my mz mD b1' b2' hlo hrb hq1 hq2 hq hqb hlt hoc hm hmb hX0 hsgn hro hP hQ hq1' HW1
 go_enter Tryz.func149, Tryz.ntmps149
 go_wp2_with fail
 refine (HC.out _).mono ?_
 rintro e w1 ⟨rfl, hb⟩
 have HM1 := Lib.hid (HM0.out.step hb)
 obtain ⟨c0, c1, c2, c3, c4, c5⟩ := six_of (HM1.out.at_ 0 rfl)
 clear hb HM0
 go_wp2_with fail
 refine (HP.out _).mono ?_
 rintro e w2 ⟨rfl, hb⟩
 have HM2 := Lib.hid ((HM1.out.step hb).new 57 [.int .i64 x, .int .i64 y, .int .i64 z])
 clear hb HM1 c0 c1 c2 c3 c4 c5
 go_wp2_with fail
 refine (HBN.out _ (HT.out.below HM2.out.below)).mono ?_
 rintro e w3 ⟨rfl, hb⟩
 have HM3 := Lib.hid (HM2.out.step hb)
 clear hb HM2
 go_wp2_with fail
 refine (HOF.out _ (HT.out.below HM3.out.below)).mono ?_
 rintro e w4 ⟨rfl, hb⟩
 have HM4 := Lib.hid (HM3.out.step hb)
 clear hb HM3
 go_wp2_with fail
 refine (HMU.out _ (HT.out.below HM4.out.below)).mono ?_
 rintro e w5 ⟨rfl, hb⟩
 have HM5 := Lib.hid (HM4.out.step hb)
 clear hb HM4
 go_wp2_with fail
 refine (HDM.out _ (HT.out.below HM5.out.below)).mono ?_
 rintro e w6 ⟨rfl, hb⟩
 have HM6 := Lib.hid (HM5.out.step hb)
 clear hb HM5
 go_wp2_with fail
 refine (HSL.out _).mono ?_
 rintro e w7 ⟨rfl, hb⟩
 have HM7 := Lib.hid (HM6.out.step hb)
 obtain ⟨v0, v1, v2⟩ := three_of (HM7.out.at_ 2 rfl)
 have hg7 : w2.heap.size < w7.heap.size := (HM7.out.at_ 2 rfl).lt
 have wq := HWQ.out
 have wm := HWM.out
 have wx := HWX.out
 clear hb HM6
 go_upto_region 10 with fail
 have HM8 := Lib.hid (HM7.out.new 57 [.int .i64 X0, .int .i64 y, .int .i64 z])
 clear v0 v1 v2 hg7 wm wx HM7
 go_wp2_with fail
 refine (HSG.out _ (HT.out.below HM8.out.below)).mono ?_
 rintro e w9 ⟨rfl, hb⟩
 have HM9 := Lib.hid (HM8.out.step hb)
 clear hb HM8
 rcases HCA.out with ⟨hs, hoc⟩ | ⟨hs, hoc⟩
 ·subst hoc
  clear HCA
  obtain ⟨c0, c1, c2, c3, c4, c5⟩ := six_of (HM9.out.at_ 0 rfl)
  obtain ⟨d0, d1, d2, d3, d4, d5⟩ := six_of (HM9.out.at_ 1 rfl)
  obtain ⟨f0, f1, f2, f3, f4, f5⟩ := six_free (HM9.out.at_ 1 rfl)
  go_upto_region 14 with fail
  obtain ⟨WA, hWA⟩ : ∃ WA, WA = ((((((w9.setCell ⟨w.heap.size + 1, 0, none⟩ (.int .i64 a0)).setCell ⟨w.heap.size + 1, 1, none⟩ (.int .i64 b0)).setCell ⟨w.heap.size + 1, 2, none⟩ (.int .i64 a1)).setCell ⟨w.heap.size + 1, 3, none⟩ (.int .i64 b1)).setCell ⟨w.heap.size + 1, 4, none⟩ (.int .i64 a2)).setCell ⟨w.heap.size + 1, 5, none⟩ (.int .i64 b2)) := ⟨_, rfl⟩
  have hma := HM9.out.put6 1 rfl (.int .i64 a0) (.int .i64 b0) (.int .i64 a1) (.int .i64 b1) (.int .i64 a2) (.int .i64 b2)
  rw [← hWA] at hma ⊢
  have HMA := Lib.hid hma
  clear hWA hma c0 c1 c2 c3 c4 c5 d0 d1 d2 d3 d4 d5 f0 f1 f2 f3 f4 f5 HM9
  obtain ⟨c0, c1, c2, c3, c4, c5⟩ := six_of (HMA.out.at_ 0 rfl)
  by_cases hR : Right P Q
  ·have hfs := HFS.out
   rw [if_pos hR] at hfs
   unfold fRet at hfs
   have HF := Lib.hid hfs
   have HRR := Lib.hid (HRI.out · hR)
   clear hfs hR HNR
   go_wp2_with fail
   refine (HF.out _).mono ?_
   rintro e w10 ⟨rfl, hb⟩
   have HM10 := Lib.hid (HMA.out.step hb)
   clear hb c0 c1 c2 c3 c4 c5
   obtain ⟨d0, d1, d2, d3, d4, d5⟩ := six_of (HM10.out.at_ 1 rfl)
   obtain ⟨f0, f1, f2, f3, f4, f5⟩ := six_free (HM10.out.at_ 1 rfl)
   go_upto_region 17 with fail
   obtain ⟨WB, hWB⟩ : ∃ WB, WB = ((w10.setCell ⟨w.heap.size + 1, 0, none⟩ (.int .i64 P)).setCell ⟨w.heap.size + 1, 1, none⟩ (.int .i64 Q)) := ⟨_, rfl⟩
   have hmb := (HM10.out.put 1 rfl 0 (.int .i64 P)).put 1 (by rfl) 1 (.int .i64 Q)
   rw [← hWB] at hmb ⊢
   have HMB := Lib.hid hmb
   clear hWB hmb d0 d1 d2 d3 d4 d5 f0 f1 f2 f3 f4 f5
   by_cases hE : ivE [(P, Q), (a1, b1), (a2, b2)] = 0
   ·have hr := HRR.out
    unfold ivR at hr
    rw [if_pos hE] at hr
    have HR2 := Lib.hid hr
    have HRD := Lib.hid (show ∀ k, rdR P Q a1 b1 a2 b2 k = .tuple #[szv P Q a1 b1 a2 b2, .int .i64 k, .int .i64 0] from fun k => by unfold rdR; rw [if_pos hE])
    clear hr hE HRR
    obtain ⟨d0, d1, d2, d3, d4, d5⟩ := six_of (HMB.out.at_ 1 rfl)
    go_wp2_with fail
    refine (HR2.out _).mono ?_
    rintro e w11 ⟨rfl, hb⟩
    have HM11 := Lib.hid (HMB.out.step hb)
    clear hb d0 d1 d2 d3 d4 d5
    obtain ⟨d0, d1, d2, d3, d4, d5⟩ := six_of (HM11.out.at_ 1 rfl)
    obtain ⟨f0, f1, f2, f3, f4, f5⟩ := six_free (HM11.out.at_ 1 rfl)
    go_upto_region 20 with fail
    obtain ⟨WC, hWN⟩ : ∃ WN, WN = ((((((w11.setCell ⟨w.heap.size + 1, 0, none⟩ (.int .i64 P)).setCell ⟨w.heap.size + 1, 1, none⟩ (.int .i64 Q)).setCell ⟨w.heap.size + 1, 2, none⟩ (.int .i64 a1)).setCell ⟨w.heap.size + 1, 3, none⟩ (.int .i64 b1)).setCell ⟨w.heap.size + 1, 4, none⟩ (.int .i64 a2)).setCell ⟨w.heap.size + 1, 5, none⟩ (.int .i64 b2)) := ⟨_, rfl⟩
    have hmn := HM11.out.put6 1 rfl (.int .i64 P) (.int .i64 Q) (.int .i64 a1) (.int .i64 b1) (.int .i64 a2) (.int .i64 b2)
    rw [← hWN] at hmn ⊢
    have HM12 := Lib.hid hmn
    clear hWN hmn d0 d1 d2 d3 d4 d5 f0 f1 f2 f3 f4 f5
    obtain ⟨d0, d1, d2, d3, d4, d5⟩ := six_of (HM12.out.at_ 1 rfl)
    obtain ⟨f0, f1, f2, f3, f4, f5⟩ := six_free (HM12.out.at_ 1 rfl)
    go_wp2
    obtain ⟨WZ, hWZ⟩ : ∃ WZ, WZ = ((((((WC.setCell ⟨w.heap.size + 1, 0, none⟩ (.int .i64 P)).setCell ⟨w.heap.size + 1, 1, none⟩ (.int .i64 Q)).setCell ⟨w.heap.size + 1, 2, none⟩ (.int .i64 a1)).setCell ⟨w.heap.size + 1, 3, none⟩ (.int .i64 b1)).setCell ⟨w.heap.size + 1, 4, none⟩ (.int .i64 a2)).setCell ⟨w.heap.size + 1, 5, none⟩ (.int .i64 b2)) := ⟨_, rfl⟩
    have hz := HM12.out.put6 1 rfl (.int .i64 P) (.int .i64 Q) (.int .i64 a1) (.int .i64 b1) (.int .i64 a2) (.int .i64 b2)
    rw [← hWZ] at hz ⊢
    obtain ⟨g0, g1, g2, g3, g4, g5⟩ := six_of (hz.at_ 1 rfl)
    exact bodyPost_ret (v := .tuple #[szv P Q a1 b1 a2 b2, .int .i64 oc, .int .i64 0]) (by simp [g0, g1, g2, g3, g4, g5, results, Tryz.results149, go_sem]) rfl ⟨by rw [HRD.out], hz.below⟩
   ·have hr := HRR.out
    unfold ivR at hr
    rw [if_neg hE] at hr
    have HR2 := Lib.hid hr
    have HRD := Lib.hid (show ∀ k, rdR P Q a1 b1 a2 b2 k = .tuple #[szv 0 0 0 0 0 0, .int .i64 0, .int .i64 4] from fun k => by unfold rdR; rw [if_neg hE])
    clear hr hE HRR
    obtain ⟨d0, d1, d2, d3, d4, d5⟩ := six_of (HMB.out.at_ 1 rfl)
    go_wp2_with fail
    refine (HR2.out _).mono ?_
    rintro e w11 ⟨rfl, hb⟩
    have HM11 := Lib.hid (HMB.out.step hb)
    clear hb d0 d1 d2 d3 d4 d5
    obtain ⟨d0, d1, d2, d3, d4, d5⟩ := six_of (HM11.out.at_ 1 rfl)
    obtain ⟨f0, f1, f2, f3, f4, f5⟩ := six_free (HM11.out.at_ 1 rfl)
    go_upto_region 19 with fail
    obtain ⟨WC, hWN⟩ : ∃ WN, WN = ((((((w11.setCell ⟨w.heap.size + 1, 0, none⟩ (.int .i64 0)).setCell ⟨w.heap.size + 1, 1, none⟩ (.int .i64 0)).setCell ⟨w.heap.size + 1, 2, none⟩ (.int .i64 0)).setCell ⟨w.heap.size + 1, 3, none⟩ (.int .i64 0)).setCell ⟨w.heap.size + 1, 4, none⟩ (.int .i64 0)).setCell ⟨w.heap.size + 1, 5, none⟩ (.int .i64 0)) := ⟨_, rfl⟩
    have hmn := HM11.out.put6 1 rfl (.int .i64 0) (.int .i64 0) (.int .i64 0) (.int .i64 0) (.int .i64 0) (.int .i64 0)
    rw [← hWN] at hmn ⊢
    have HM12 := Lib.hid hmn
    clear hWN hmn d0 d1 d2 d3 d4 d5 f0 f1 f2 f3 f4 f5
    obtain ⟨d0, d1, d2, d3, d4, d5⟩ := six_of (HM12.out.at_ 1 rfl)
    obtain ⟨f0, f1, f2, f3, f4, f5⟩ := six_free (HM12.out.at_ 1 rfl)
    go_wp2
    obtain ⟨WZ, hWZ⟩ : ∃ WZ, WZ = ((((((WC.setCell ⟨w.heap.size + 1, 0, none⟩ (.int .i64 0)).setCell ⟨w.heap.size + 1, 1, none⟩ (.int .i64 0)).setCell ⟨w.heap.size + 1, 2, none⟩ (.int .i64 0)).setCell ⟨w.heap.size + 1, 3, none⟩ (.int .i64 0)).setCell ⟨w.heap.size + 1, 4, none⟩ (.int .i64 0)).setCell ⟨w.heap.size + 1, 5, none⟩ (.int .i64 0)) := ⟨_, rfl⟩
    have hz := HM12.out.put6 1 rfl (.int .i64 0) (.int .i64 0) (.int .i64 0) (.int .i64 0) (.int .i64 0) (.int .i64 0)
    rw [← hWZ] at hz ⊢
    obtain ⟨g0, g1, g2, g3, g4, g5⟩ := six_of (hz.at_ 1 rfl)
    exact bodyPost_ret (v := .tuple #[szv 0 0 0 0 0 0, .int .i64 0, .int .i64 4]) (by simp [g0, g1, g2, g3, g4, g5, results, Tryz.results149, go_sem]) rfl ⟨by rw [HRD.out], hz.below⟩
  ·have hfs := HFS.out
   rw [if_neg hR] at hfs
   unfold fRet at hfs
   have HF := Lib.hid hfs
   have HRD := Lib.hid (show ∀ k, rdR P Q a1 b1 a2 b2 k = .tuple #[szv 0 0 0 0 0 0, .int .i64 0, .int .i64 4] from fun k => by unfold rdR; rw [if_neg (HNR.out hR)])
   clear hfs hR HNR
   go_wp2_with fail
   refine (HF.out _).mono ?_
   rintro e w10 ⟨rfl, hb⟩
   have HM10 := Lib.hid (HMA.out.step hb)
   clear hb c0 c1 c2 c3 c4 c5
   obtain ⟨d0, d1, d2, d3, d4, d5⟩ := six_of (HM10.out.at_ 1 rfl)
   obtain ⟨f0, f1, f2, f3, f4, f5⟩ := six_free (HM10.out.at_ 1 rfl)
   go_upto_region 16 with fail
   obtain ⟨WB, hWB⟩ : ∃ WB, WB = ((w10.setCell ⟨w.heap.size + 1, 0, none⟩ (.int .i64 0)).setCell ⟨w.heap.size + 1, 1, none⟩ (.int .i64 0)) := ⟨_, rfl⟩
   have hmb := (HM10.out.put 1 rfl 0 (.int .i64 0)).put 1 (by rfl) 1 (.int .i64 0)
   rw [← hWB] at hmb ⊢
   have HMB := Lib.hid hmb
   clear hWB hmb d0 d1 d2 d3 d4 d5 f0 f1 f2 f3 f4 f5
   obtain ⟨d0, d1, d2, d3, d4, d5⟩ := six_of (HMB.out.at_ 1 rfl)
   obtain ⟨f0, f1, f2, f3, f4, f5⟩ := six_free (HMB.out.at_ 1 rfl)
   go_wp2
   obtain ⟨WZ, hWZ⟩ : ∃ WZ, WZ = ((((((WB.setCell ⟨w.heap.size + 1, 0, none⟩ (.int .i64 0)).setCell ⟨w.heap.size + 1, 1, none⟩ (.int .i64 0)).setCell ⟨w.heap.size + 1, 2, none⟩ (.int .i64 0)).setCell ⟨w.heap.size + 1, 3, none⟩ (.int .i64 0)).setCell ⟨w.heap.size + 1, 4, none⟩ (.int .i64 0)).setCell ⟨w.heap.size + 1, 5, none⟩ (.int .i64 0)) := ⟨_, rfl⟩
   have hz := HMB.out.put6 1 rfl (.int .i64 0) (.int .i64 0) (.int .i64 0) (.int .i64 0) (.int .i64 0) (.int .i64 0)
   rw [← hWZ] at hz ⊢
   obtain ⟨g0, g1, g2, g3, g4, g5⟩ := six_of (hz.at_ 1 rfl)
   exact bodyPost_ret (v := .tuple #[szv 0 0 0 0 0 0, .int .i64 0, .int .i64 4]) (by simp [g0, g1, g2, g3, g4, g5, results, Tryz.results149, go_sem]) rfl ⟨by rw [HRD.out], hz.below⟩
 ·subst hoc
  clear HCA
  obtain ⟨c0, c1, c2, c3, c4, c5⟩ := six_of (HM9.out.at_ 0 rfl)
  obtain ⟨d0, d1, d2, d3, d4, d5⟩ := six_of (HM9.out.at_ 1 rfl)
  obtain ⟨f0, f1, f2, f3, f4, f5⟩ := six_free (HM9.out.at_ 1 rfl)
  go_upto_region 14 with fail
  obtain ⟨WA, hWA⟩ : ∃ WA, WA = ((((((w9.setCell ⟨w.heap.size + 1, 0, none⟩ (.int .i64 a0)).setCell ⟨w.heap.size + 1, 1, none⟩ (.int .i64 b0)).setCell ⟨w.heap.size + 1, 2, none⟩ (.int .i64 a1)).setCell ⟨w.heap.size + 1, 3, none⟩ (.int .i64 b1)).setCell ⟨w.heap.size + 1, 4, none⟩ (.int .i64 a2)).setCell ⟨w.heap.size + 1, 5, none⟩ (.int .i64 b2)) := ⟨_, rfl⟩
  have hma := HM9.out.put6 1 rfl (.int .i64 a0) (.int .i64 b0) (.int .i64 a1) (.int .i64 b1) (.int .i64 a2) (.int .i64 b2)
  rw [← hWA] at hma ⊢
  have HMA := Lib.hid hma
  clear hWA hma c0 c1 c2 c3 c4 c5 d0 d1 d2 d3 d4 d5 f0 f1 f2 f3 f4 f5 HM9
  obtain ⟨c0, c1, c2, c3, c4, c5⟩ := six_of (HMA.out.at_ 0 rfl)
  by_cases hR : Right P Q
  ·have hfs := HFS.out
   rw [if_pos hR] at hfs
   unfold fRet at hfs
   have HF := Lib.hid hfs
   have HRR := Lib.hid (HRI.out · hR)
   clear hfs hR HNR
   go_wp2_with fail
   refine (HF.out _).mono ?_
   rintro e w10 ⟨rfl, hb⟩
   have HM10 := Lib.hid (HMA.out.step hb)
   clear hb c0 c1 c2 c3 c4 c5
   obtain ⟨d0, d1, d2, d3, d4, d5⟩ := six_of (HM10.out.at_ 1 rfl)
   obtain ⟨f0, f1, f2, f3, f4, f5⟩ := six_free (HM10.out.at_ 1 rfl)
   go_upto_region 17 with fail
   obtain ⟨WB, hWB⟩ : ∃ WB, WB = ((w10.setCell ⟨w.heap.size + 1, 0, none⟩ (.int .i64 P)).setCell ⟨w.heap.size + 1, 1, none⟩ (.int .i64 Q)) := ⟨_, rfl⟩
   have hmb := (HM10.out.put 1 rfl 0 (.int .i64 P)).put 1 (by rfl) 1 (.int .i64 Q)
   rw [← hWB] at hmb ⊢
   have HMB := Lib.hid hmb
   clear hWB hmb d0 d1 d2 d3 d4 d5 f0 f1 f2 f3 f4 f5
   by_cases hE : ivE [(P, Q), (a1, b1), (a2, b2)] = 0
   ·have hr := HRR.out
    unfold ivR at hr
    rw [if_pos hE] at hr
    have HR2 := Lib.hid hr
    have HRD := Lib.hid (show ∀ k, rdR P Q a1 b1 a2 b2 k = .tuple #[szv P Q a1 b1 a2 b2, .int .i64 k, .int .i64 0] from fun k => by unfold rdR; rw [if_pos hE])
    clear hr hE HRR
    obtain ⟨d0, d1, d2, d3, d4, d5⟩ := six_of (HMB.out.at_ 1 rfl)
    go_wp2_with fail
    refine (HR2.out _).mono ?_
    rintro e w11 ⟨rfl, hb⟩
    have HM11 := Lib.hid (HMB.out.step hb)
    clear hb d0 d1 d2 d3 d4 d5
    obtain ⟨d0, d1, d2, d3, d4, d5⟩ := six_of (HM11.out.at_ 1 rfl)
    obtain ⟨f0, f1, f2, f3, f4, f5⟩ := six_free (HM11.out.at_ 1 rfl)
    go_upto_region 20 with fail
    obtain ⟨WC, hWN⟩ : ∃ WN, WN = ((((((w11.setCell ⟨w.heap.size + 1, 0, none⟩ (.int .i64 P)).setCell ⟨w.heap.size + 1, 1, none⟩ (.int .i64 Q)).setCell ⟨w.heap.size + 1, 2, none⟩ (.int .i64 a1)).setCell ⟨w.heap.size + 1, 3, none⟩ (.int .i64 b1)).setCell ⟨w.heap.size + 1, 4, none⟩ (.int .i64 a2)).setCell ⟨w.heap.size + 1, 5, none⟩ (.int .i64 b2)) := ⟨_, rfl⟩
    have hmn := HM11.out.put6 1 rfl (.int .i64 P) (.int .i64 Q) (.int .i64 a1) (.int .i64 b1) (.int .i64 a2) (.int .i64 b2)
    rw [← hWN] at hmn ⊢
    have HM12 := Lib.hid hmn
    clear hWN hmn d0 d1 d2 d3 d4 d5 f0 f1 f2 f3 f4 f5
    obtain ⟨d0, d1, d2, d3, d4, d5⟩ := six_of (HM12.out.at_ 1 rfl)
    obtain ⟨f0, f1, f2, f3, f4, f5⟩ := six_free (HM12.out.at_ 1 rfl)
    go_wp2
    obtain ⟨WZ, hWZ⟩ : ∃ WZ, WZ = ((((((WC.setCell ⟨w.heap.size + 1, 0, none⟩ (.int .i64 P)).setCell ⟨w.heap.size + 1, 1, none⟩ (.int .i64 Q)).setCell ⟨w.heap.size + 1, 2, none⟩ (.int .i64 a1)).setCell ⟨w.heap.size + 1, 3, none⟩ (.int .i64 b1)).setCell ⟨w.heap.size + 1, 4, none⟩ (.int .i64 a2)).setCell ⟨w.heap.size + 1, 5, none⟩ (.int .i64 b2)) := ⟨_, rfl⟩
    have hz := HM12.out.put6 1 rfl (.int .i64 P) (.int .i64 Q) (.int .i64 a1) (.int .i64 b1) (.int .i64 a2) (.int .i64 b2)
    rw [← hWZ] at hz ⊢
    obtain ⟨g0, g1, g2, g3, g4, g5⟩ := six_of (hz.at_ 1 rfl)
    exact bodyPost_ret (v := .tuple #[szv P Q a1 b1 a2 b2, .int .i64 oc, .int .i64 0]) (by simp [g0, g1, g2, g3, g4, g5, results, Tryz.results149, go_sem]) rfl ⟨by rw [HRD.out], hz.below⟩
   ·have hr := HRR.out
    unfold ivR at hr
    rw [if_neg hE] at hr
    have HR2 := Lib.hid hr
    have HRD := Lib.hid (show ∀ k, rdR P Q a1 b1 a2 b2 k = .tuple #[szv 0 0 0 0 0 0, .int .i64 0, .int .i64 4] from fun k => by unfold rdR; rw [if_neg hE])
    clear hr hE HRR
    obtain ⟨d0, d1, d2, d3, d4, d5⟩ := six_of (HMB.out.at_ 1 rfl)
    go_wp2_with fail
    refine (HR2.out _).mono ?_
    rintro e w11 ⟨rfl, hb⟩
    have HM11 := Lib.hid (HMB.out.step hb)
    clear hb d0 d1 d2 d3 d4 d5
    obtain ⟨d0, d1, d2, d3, d4, d5⟩ := six_of (HM11.out.at_ 1 rfl)
    obtain ⟨f0, f1, f2, f3, f4, f5⟩ := six_free (HM11.out.at_ 1 rfl)
    go_upto_region 19 with fail
    obtain ⟨WC, hWN⟩ : ∃ WN, WN = ((((((w11.setCell ⟨w.heap.size + 1, 0, none⟩ (.int .i64 0)).setCell ⟨w.heap.size + 1, 1, none⟩ (.int .i64 0)).setCell ⟨w.heap.size + 1, 2, none⟩ (.int .i64 0)).setCell ⟨w.heap.size + 1, 3, none⟩ (.int .i64 0)).setCell ⟨w.heap.size + 1, 4, none⟩ (.int .i64 0)).setCell ⟨w.heap.size + 1, 5, none⟩ (.int .i64 0)) := ⟨_, rfl⟩
    have hmn := HM11.out.put6 1 rfl (.int .i64 0) (.int .i64 0) (.int .i64 0) (.int .i64 0) (.int .i64 0) (.int .i64 0)
    rw [← hWN] at hmn ⊢
    have HM12 := Lib.hid hmn
    clear hWN hmn d0 d1 d2 d3 d4 d5 f0 f1 f2 f3 f4 f5
    obtain ⟨d0, d1, d2, d3, d4, d5⟩ := six_of (HM12.out.at_ 1 rfl)
    obtain ⟨f0, f1, f2, f3, f4, f5⟩ := six_free (HM12.out.at_ 1 rfl)
    go_wp2
    obtain ⟨WZ, hWZ⟩ : ∃ WZ, WZ = ((((((WC.setCell ⟨w.heap.size + 1, 0, none⟩ (.int .i64 0)).setCell ⟨w.heap.size + 1, 1, none⟩ (.int .i64 0)).setCell ⟨w.heap.size + 1, 2, none⟩ (.int .i64 0)).setCell ⟨w.heap.size + 1, 3, none⟩ (.int .i64 0)).setCell ⟨w.heap.size + 1, 4, none⟩ (.int .i64 0)).setCell ⟨w.heap.size + 1, 5, none⟩ (.int .i64 0)) := ⟨_, rfl⟩
    have hz := HM12.out.put6 1 rfl (.int .i64 0) (.int .i64 0) (.int .i64 0) (.int .i64 0) (.int .i64 0) (.int .i64 0)
    rw [← hWZ] at hz ⊢
    obtain ⟨g0, g1, g2, g3, g4, g5⟩ := six_of (hz.at_ 1 rfl)
    exact bodyPost_ret (v := .tuple #[szv 0 0 0 0 0 0, .int .i64 0, .int .i64 4]) (by simp [g0, g1, g2, g3, g4, g5, results, Tryz.results149, go_sem]) rfl ⟨by rw [HRD.out], hz.below⟩
  ·have hfs := HFS.out
   rw [if_neg hR] at hfs
   unfold fRet at hfs
   have HF := Lib.hid hfs
   have HRD := Lib.hid (show ∀ k, rdR P Q a1 b1 a2 b2 k = .tuple #[szv 0 0 0 0 0 0, .int .i64 0, .int .i64 4] from fun k => by unfold rdR; rw [if_neg (HNR.out hR)])
   clear hfs hR HNR
   go_wp2_with fail
   refine (HF.out _).mono ?_
   rintro e w10 ⟨rfl, hb⟩
   have HM10 := Lib.hid (HMA.out.step hb)
   clear hb c0 c1 c2 c3 c4 c5
   obtain ⟨d0, d1, d2, d3, d4, d5⟩ := six_of (HM10.out.at_ 1 rfl)
   obtain ⟨f0, f1, f2, f3, f4, f5⟩ := six_free (HM10.out.at_ 1 rfl)
   go_upto_region 16 with fail
   obtain ⟨WB, hWB⟩ : ∃ WB, WB = ((w10.setCell ⟨w.heap.size + 1, 0, none⟩ (.int .i64 0)).setCell ⟨w.heap.size + 1, 1, none⟩ (.int .i64 0)) := ⟨_, rfl⟩
   have hmb := (HM10.out.put 1 rfl 0 (.int .i64 0)).put 1 (by rfl) 1 (.int .i64 0)
   rw [← hWB] at hmb ⊢
   have HMB := Lib.hid hmb
   clear hWB hmb d0 d1 d2 d3 d4 d5 f0 f1 f2 f3 f4 f5
   obtain ⟨d0, d1, d2, d3, d4, d5⟩ := six_of (HMB.out.at_ 1 rfl)
   obtain ⟨f0, f1, f2, f3, f4, f5⟩ := six_free (HMB.out.at_ 1 rfl)
   go_wp2
   obtain ⟨WZ, hWZ⟩ : ∃ WZ, WZ = ((((((WB.setCell ⟨w.heap.size + 1, 0, none⟩ (.int .i64 0)).setCell ⟨w.heap.size + 1, 1, none⟩ (.int .i64 0)).setCell ⟨w.heap.size + 1, 2, none⟩ (.int .i64 0)).setCell ⟨w.heap.size + 1, 3, none⟩ (.int .i64 0)).setCell ⟨w.heap.size + 1, 4, none⟩ (.int .i64 0)).setCell ⟨w.heap.size + 1, 5, none⟩ (.int .i64 0)) := ⟨_, rfl⟩
   have hz := HMB.out.put6 1 rfl (.int .i64 0) (.int .i64 0) (.int .i64 0) (.int .i64 0) (.int .i64 0) (.int .i64 0)
   rw [← hWZ] at hz ⊢
   obtain ⟨g0, g1, g2, g3, g4, g5⟩ := six_of (hz.at_ 1 rfl)
   exact bodyPost_ret (v := .tuple #[szv 0 0 0 0 0 0, .int .i64 0, .int .i64 4]) (by simp [g0, g1, g2, g3, g4, g5, results, Tryz.results149, go_sem]) rfl ⟨by rw [HRD.out], hz.below⟩
end
section
open Go.RowKit
theorem ediv_same {p q r s : Int} (hq : 0 < q) (hs : 0 < s) (h : p * s = r * q) : p / q = r / s :=
 Int.le_antisymm (ediv_cross hq hs (Int.le_of_eq h)) (ediv_cross hs hq (Int.le_of_eq h.symm))
end
section
open Go.RowKit
theorem rd_low {n M : Int} (hM : 0 < M) : lowN n M * M = n * lowD n M := by
 obtain ⟨g, hg, e1, e2, _, _⟩ := low_mul n M hM
 have e3 : lowN n M * M = lowN n M * (g * lowD n M) := by rw [e2]
 have e4 : n * lowD n M = (g * lowN n M) * lowD n M := by rw [e1]
 rw [e3, e4]
 simp only [Int.mul_left_comm, Int.mul_assoc]
end
end Go.Proofs.YtendjepcjmfmfaaGreatDoor
namespace Go.Proofs.YtendjepcjmfmfaaGreatDoor
open Go.RowKit
set_option maxRecDepth 100000 in
set_option maxHeartbeats 1000000 in
theorem bgcd_any (a b : Int) (w : World) (ha : 0 ≤ a) (ha' : a ≤ 4611686018427387904) (hb : 0 ≤ b) (hb' : b ≤ 4611686018427387904) :
  Calls Tryz.prog 87 #[.int .i64 a, .int .i64 b] w fun e w' => e = .returned (.int .i64 (Nat.gcd a.natAbs b.natAbs : Int)) ∧ ∃ k, w' = w.drewN k := by
 go_enter Tryz.func87, Tryz.ntmps87
 go_wp2
 go_loopw [0, 1] (fun u v wr => ∃ (x y : Int) (k : Nat), 0 ≤ x ∧ x ≤ 4611686018427387904 ∧ 0 ≤ y ∧ y ≤ 4611686018427387904 ∧ u = .int .i64 x ∧ v = .int .i64 y ∧ Nat.gcd x.natAbs y.natAbs = Nat.gcd a.natAbs b.natAbs ∧ wr = w.drewN k) (fun _ v _ => (intOf v).natAbs)
 case atStart => exact ⟨a, b, 0, ha, ha', hb, hb', rfl, rfl, rfl, rfl⟩
 case round =>
  obtain ⟨x, y, k, hx0, hx1, hy0, hy1, rfl, rfl, hg, rfl⟩ := hrel
  have HG := Lib.hid hg
  clear hg
  by_cases h0 : y = 0
  ·subst h0
   have hG := HG.out
   rw [Int.natAbs_zero, Nat.gcd_zero_right] at hG
   have HM := Lib.hid (show x = (Nat.gcd a.natAbs b.natAbs : Int) by rw [← hG]; omega)
   clear hG
   go_wp2
   go_ret
   exact ⟨ret_int (by rw [← HM.out]), k, rfl⟩
  ·have hyp : 0 < y := by omega
   have hyz : (y == 0) = false := by simpa using h0
   have hyz2 : (y != 0) = true := by simpa using h0
   obtain ⟨r, hr⟩ : ∃ r, r = x % y := ⟨_, rfl⟩
   have hrn : r.natAbs = x.natAbs % y.natAbs := by rw [hr, ← Int.tmod_eq_emod_of_nonneg hx0, Int.natAbs_tmod]
   have hrl : r.natAbs < y.natAbs := by rw [hrn]; exact Nat.mod_lt _ (by omega)
   have hr0 : 0 ≤ r := by rw [hr]; exact Int.emod_nonneg x h0
   have HN := Lib.hid hrn
   have HL := Lib.hid hrl
   have HR := Lib.hid hr
   have HR0 := Lib.hid hr0
   clear hr hrn hrl hr0
   go_wp2
   go_quiet (fail)
   go_wp2
   rw [← HR.out]
   go_roundw
   case rel => exact ⟨y, r, k + nq, hy0, hy1, HR0.out, by have := HL.out; omega, rfl, rfl, by rw [← HG.out, HN.out, Nat.gcd_comm y.natAbs, ← Nat.gcd_rec, Nat.gcd_comm], by rw [World.drewN_drewN]⟩
   case measure => simp only [intOf]; exact HL.out
theorem bgcd_at (a b : Int) (w : World) (ha : 0 ≤ a) (ha' : a ≤ 4611686018427387904) (hb : 0 ≤ b) (hb' : b ≤ 4611686018427387904) :
  Calls Tryz.prog 87 #[.int .i64 a, .int .i64 b] w fun e w' => e = .returned (.int .i64 (Nat.gcd a.natAbs b.natAbs : Int)) ∧ Below w.heap.size w w' := by
 refine (bgcd_any a b w ha ha' hb hb').mono ?_
 rintro e w' ⟨he, k, rfl⟩
 exact ⟨he, below_drewN _ _ _⟩
theorem lcm_prod {x d : Int} (hx : 1 ≤ x) (hd : 1 ≤ d) : x * (d / (Nat.gcd x.natAbs d.natAbs : Int)) = lcmA x d := by
 have hg : 0 < (Nat.gcd x.natAbs d.natAbs : Int) := by
  have := Nat.gcd_pos_of_pos_left d.natAbs (show 0 < x.natAbs by omega)
  omega
 have h1 : (Nat.gcd x.natAbs d.natAbs : Int) ∣ x := Int.natAbs_dvd_natAbs.1 (by rw [Int.natAbs_natCast]; exact Nat.gcd_dvd_left _ _)
 have h2 : (Nat.gcd x.natAbs d.natAbs : Int) ∣ d := Int.natAbs_dvd_natAbs.1 (by rw [Int.natAbs_natCast]; exact Nat.gcd_dvd_right _ _)
 unfold lcmA
 obtain ⟨g, hg0⟩ : ∃ g : Int, g = (Nat.gcd x.natAbs d.natAbs : Int) := ⟨_, rfl⟩
 rw [← hg0] at hg h1 h2 ⊢
 obtain ⟨p, rfl⟩ := h1
 obtain ⟨q, rfl⟩ := h2
 rw [Int.mul_ediv_cancel_left _ (by omega), Int.mul_ediv_cancel_left _ (by omega)]
 simp only [Int.mul_left_comm, Int.mul_comm]
theorem prt_inv {a0 b0 a1 b1 a2 b2 x y z D : Int} (hS : ∀ q ∈ [(a0, b0), (a1, b1), (a2, b2)], Right q.1 q.2) (h : prt [(a0, b0), (a1, b1), (a2, b2)] = some ([x, y, z], D)) :
  ∃ E1 E2 : Int, lcmA 1 b0 = E1 ∧ lcmA E1 b1 = E2 ∧ lcmA E2 b2 = D ∧ ((1 ≤ E1 ∧ E1 ≤ 240) ∧ (1 ≤ E2 ∧ E2 ≤ 240) ∧ (1 ≤ D ∧ D ≤ 240)) ∧ (x = a0 * (D / b0) ∧ y = a1 * (D / b1) ∧ z = a2 * (D / b2)) ∧ ((-6000 ≤ x ∧ x ≤ 6000) ∧ (-6000 ≤ y ∧ y ≤ 6000) ∧ (-6000 ≤ z ∧ z ≤ 6000)) := by
 have hM : Mild [(a0, b0), (a1, b1), (a2, b2)] := fun q hq => by
  obtain ⟨h1, h2, h3, h4, _⟩ := hS q hq
  exact ⟨⟨by omega, h2⟩, h3, h4⟩
 obtain ⟨hD, hn⟩ := prt_num h hM
 have h0 := hM (a0, b0) (by simp)
 have h1 := hM (a1, b1) (by simp)
 have h2 := hM (a2, b2) (by simp)
 dsimp only at h0 h1 h2
 have hx := hn x (by simp)
 have hy := hn y (by simp)
 have hz := hn z (by simp)
 unfold prt at h
 split at h
 ·cases h
 ·rename_i D' hp
  have hp0 := hp
  rw [prD_cons (by decide) h0.1.1] at hp
  split at hp
  ·cases hp
  ·have k1 : 1 ≤ lcmA 1 b0 := by have := lcmA_ge (x := 1) (by decide) h0.1.1; omega
   rw [prD_cons k1 h1.1.1] at hp
   split at hp
   ·cases hp
   ·have k2 : 1 ≤ lcmA (lcmA 1 b0) b1 := by have := lcmA_ge k1 h1.1.1; omega
    rw [prD_cons k2 h2.1.1] at hp
    split at hp
    ·cases hp
    ·cases hp
     cases hq : prN [(a0, b0), (a1, b1), (a2, b2)] (lcmA (lcmA (lcmA 1 b0) b1) b2) with
     | none => rw [hq] at h; cases h
     | some l =>
      rw [hq] at h
      have hl := prN_eq hq
      injection h with h
      injection h with e1 e2
      subst e2
      subst hl
      simp only [List.map_cons, List.map_nil, List.cons.injEq, and_true] at e1
      exact ⟨_, _, rfl, rfl, rfl, ⟨⟨k1, by omega⟩, ⟨k2, by omega⟩, hD⟩, ⟨e1.1.symm, e1.2.1.symm, e1.2.2.symm⟩, hx, hy, hz⟩
def rsT (T : Int) (a b c : Nat) : Nat → Int
 | 0 => T
 | 1 => T * 2 ^ a
 | 2 => T * 2 ^ a * 3 ^ b
 | _ => T * 2 ^ a * 3 ^ b * 5 ^ c
theorem rsT_z0 {T : Int} {a : Nat} (b c : Nat) (h : a = 0) : rsT T a b c (0 + 1) = rsT T a b c 0 := by subst h; show T * 2 ^ 0 = T; rw [Int.pow_zero, Int.mul_one]
theorem rsT_z1 {T : Int} (a : Nat) {b : Nat} (c : Nat) (h : b = 0) : rsT T a b c (1 + 1) = rsT T a b c 1 := by subst h; show T * 2 ^ a * 3 ^ 0 = T * 2 ^ a; rw [Int.pow_zero, Int.mul_one]
theorem rsT_z2 {T : Int} (a b : Nat) {c : Nat} (h : c = 0) : rsT T a b c (2 + 1) = rsT T a b c 2 := by subst h; show T * 2 ^ a * 3 ^ b * 5 ^ 0 = T * 2 ^ a * 3 ^ b; rw [Int.pow_zero, Int.mul_one]
theorem rsT_eq (T : Int) (a b c k : Nat) : rsT T a b c k = T * rsU a b c k := by
 match k with
 | 0 => show T = T * 1; rw [Int.mul_one]
 | 1 => show T * 2 ^ a = T * (1 * 2 ^ a); rw [Int.one_mul]
 | 2 => show T * 2 ^ a * 3 ^ b = T * (1 * 2 ^ a * 3 ^ b); simp only [Int.one_mul, Int.mul_assoc]
 | n + 3 => show T * 2 ^ a * 3 ^ b * 5 ^ c = T * (1 * 2 ^ a * 3 ^ b * 5 ^ c); simp only [Int.one_mul, Int.mul_assoc]
theorem mul_digits (p q : Int) : Lib.nDigits (p * q).natAbs ≤ Lib.nDigits p.natAbs + Lib.nDigits q.natAbs := by
 refine nDigits_le _ _ (by have := Lib.nDigits_pos p.natAbs; omega) ?_
 rw [Int.natAbs_mul, Nat.pow_add]
 exact Nat.mul_lt_mul'' (Lib.lt_pow_nDigits _) (Lib.lt_pow_nDigits _)
theorem rsT_digits (T : Int) (a b c k : Nat) (ha : a ≤ 20000) (hb : b ≤ 20000) (hc : c ≤ 20000) : Lib.nDigits (rsT T a b c k).natAbs ≤ Lib.nDigits T.natAbs + 60001 := by
 rw [rsT_eq]
 have h1 := mul_digits T (rsU a b c k)
 have h2 := rsU_digits a b c k ha hb hc
 omega
end Go.Proofs.YtendjepcjmfmfaaGreatDoor
