/- bombarderef01: Mul and Power at the texts of integers. Conditions: at most 90000 digits (Mul), an exponent of at most 6000 with few digits in all (Power); the library's table of powers of ten reads as its text lays it. -/
import Derived.Test.YtkamepalomkpbaaGreatDoorRefAdd
import Derived.Test.YtkamepalomkpbaaGreatDoorRefTimes
namespace Go.Proofs.YtkamepalomkpbaaGreatDoor
open Go.RowKit

set_option maxRecDepth 100000 in
theorem refmul_short (a b : Int) (w : World) (ht : Tab w) (ha : Lib.nDigits a.natAbs ≤ 8) (hb : Lib.nDigits b.natAbs ≤ 8) :
    Calls Tryz.prog 62 #[.string (dec a), .string (dec b)] w fun e w' => e = .returned (.string (dec (a * b))) ∧ Below w.heap.size w w' := by
  have hca := fun W => refcut_any a W
  have hcb := fun W => refcut_any b W
  have hsa := fun W => small_any a W (by omega)
  have hsb := fun W => small_any b W (by omega)
  have ra := abs_lt8 ha
  have rb := abs_lt8 hb
  have hab : -10000000000000000 ≤ a * b ∧ a * b ≤ 10000000000000000 := by
    have h : (a * b).natAbs ≤ 100000000 * 100000000 := by rw [Int.natAbs_mul]; exact Nat.mul_le_mul (by omega) (by omega)
    omega
  have hof := fun W h => refof_any (a * b) (by omega) (by omega) W h
  have hs := absS_size a
  have hu := absS_size b
  obtain ⟨s, hs0⟩ : ∃ s, s = absS a := ⟨_, rfl⟩
  obtain ⟨x, hx⟩ : ∃ x, x = decide (a < 0) := ⟨_, rfl⟩
  obtain ⟨t, ht0⟩ : ∃ t, t = absS b := ⟨_, rfl⟩
  obtain ⟨y, hy⟩ : ∃ y, y = decide (b < 0) := ⟨_, rfl⟩
  rw [← hs0, ← hx] at hca
  rw [← ht0, ← hy] at hcb
  rw [← hs0] at hs
  rw [← ht0] at hu
  rw [← hs] at ha
  rw [← hu] at hb
  have HCA := Lib.hid hca
  have HCB := Lib.hid hcb
  have HSA := Lib.hid hsa
  have HSB := Lib.hid hsb
  have HOF := Lib.hid hof
  obtain ⟨hab1, hab2⟩ := hab
  clear hca hcb hsa hsb hof hs hu hs0 hx ht0 hy
  go_enter Tryz.func62, Tryz.ntmps62
  go_wp2_with fail
  refine (HCA.out _).mono ?_
  rintro e w1 ⟨rfl, hb1⟩
  go_wp2_with fail
  refine (HCB.out _).mono ?_
  rintro e w2 ⟨rfl, hb2⟩
  replace hb1 := hb1.trans (hb2.mono hb1.size)
  clear hb2
  go_wp2_with fail
  refine (HSA.out _).mono ?_
  rintro e w3 ⟨rfl, hb2⟩
  replace hb1 := hb1.trans (hb2.mono hb1.size)
  clear hb2
  go_wp2_with fail
  refine (HSB.out _).mono ?_
  rintro e w4 ⟨rfl, hb2⟩
  replace hb1 := hb1.trans (hb2.mono hb1.size)
  clear hb2
  go_wp2_with fail
  refine (HOF.out _ (ht.below hb1)).mono ?_
  rintro e w5 ⟨rfl, hb2⟩
  have HB := Lib.hid (hb1.trans (hb2.mono hb1.size))
  clear hb2 hb1
  go_wp2
  go_ret
  exact ⟨rfl, HB.out⟩

theorem refmul_sign (a b : Int) : (if (decide (a < 0) != decide (b < 0)) = true then -((a.natAbs * b.natAbs : Nat) : Int) else ((a.natAbs * b.natAbs : Nat) : Int)) = a * b := by
  rw [Int.natCast_mul]
  by_cases ha : a < 0
  · have e1 : (a.natAbs : Int) = -a := by omega
    by_cases hb : b < 0
    · have e2 : (b.natAbs : Int) = -b := by omega
      rw [decide_eq_true ha, decide_eq_true hb, e1, e2, if_neg (by decide), Int.neg_mul_neg]
    · have e2 : (b.natAbs : Int) = b := by omega
      rw [decide_eq_true ha, decide_eq_false hb, e1, e2, if_pos (by decide), Int.neg_mul, Int.neg_neg]
  · have e1 : (a.natAbs : Int) = a := by omega
    by_cases hb : b < 0
    · have e2 : (b.natAbs : Int) = -b := by omega
      rw [decide_eq_false ha, decide_eq_true hb, e1, e2, if_pos (by decide), Int.mul_neg, Int.neg_neg]
    · have e2 : (b.natAbs : Int) = b := by omega
      rw [decide_eq_false ha, decide_eq_false hb, e1, e2, if_neg (by decide)]

set_option maxRecDepth 100000 in
set_option maxHeartbeats 4000000 in
theorem refmul_long (a b : Int) (w : World) (ht : Tab w) (ha : Lib.nDigits a.natAbs ≤ 90000) (hb : Lib.nDigits b.natAbs ≤ 90000) (hl : ¬ (Lib.nDigits a.natAbs ≤ 8 ∧ Lib.nDigits b.natAbs ≤ 8)) :
    Calls Tryz.prog 62 #[.string (dec a), .string (dec b)] w fun e w' => e = .returned (.string (dec (a * b))) ∧ Below w.heap.size w w' := by
  have hca := fun W => refcut_any a W
  have hcb := fun W => refcut_any b W
  have hga := fun W => group_abs a W (by omega)
  have hgb := fun W => group_abs b W (by omega)
  have hs := absS_size a
  have hu := absS_size b
  have hfin := refmul_sign a b
  have hla := Nat.le_trans (grps_len_digits a.natAbs) ha
  have hlb := Nat.le_trans (grps_len_digits b.natAbs) hb
  obtain ⟨s, hs0⟩ : ∃ s, s = absS a := ⟨_, rfl⟩
  obtain ⟨x, hx⟩ : ∃ x, x = decide (a < 0) := ⟨_, rfl⟩
  obtain ⟨t, ht0⟩ : ∃ t, t = absS b := ⟨_, rfl⟩
  obtain ⟨y, hy⟩ : ∃ y, y = decide (b < 0) := ⟨_, rfl⟩
  obtain ⟨p, hp⟩ : ∃ p, p = a.natAbs := ⟨_, rfl⟩
  obtain ⟨q, hq⟩ : ∃ q, q = b.natAbs := ⟨_, rfl⟩
  rw [← hs0, ← hx] at hca
  rw [← ht0, ← hy] at hcb
  rw [← hs0, ← hp] at hga
  rw [← ht0, ← hq] at hgb
  rw [← hs0] at hs
  rw [← ht0] at hu
  rw [← hs] at ha hl
  rw [← hu] at hb hl
  rw [← hx, ← hy, ← hp, ← hq] at hfin
  rw [← hp] at hla
  rw [← hq] at hlb
  have HCA := Lib.hid hca
  have HCB := Lib.hid hcb
  have HGA := Lib.hid hga
  have HGB := Lib.hid hgb
  have HLA := Lib.hid hla
  have HLB := Lib.hid hlb
  have HFIN := Lib.hid hfin
  clear hca hcb hga hgb hs hu hs0 hx ht0 hy hp hq hfin hla hlb
  have hcase : 9 ≤ s.size ∨ (s.size < 9 ∧ 9 ≤ t.size) := by omega
  clear hl
  rcases hcase with hl | ⟨hl, hl2⟩
  all_goals
    go_enter Tryz.func62, Tryz.ntmps62
    go_wp2_with fail
    refine (HCA.out _).mono ?_
    rintro e w1 ⟨rfl, hb1⟩
    go_wp2_with fail
    refine (HCB.out _).mono ?_
    rintro e w2 ⟨rfl, hb2⟩
    replace hb1 := hb1.trans (hb2.mono hb1.size)
    clear hb2
    go_wp2_with fail
    refine (HGA.out _).mono ?_
    rintro e w3 ⟨A1, c1, rfl, hr1, _, hb2⟩
    replace hb1 := hb1.trans (hb2.mono hb1.size)
    clear hb2
    go_wp2_with fail
    refine (HGB.out _).mono ?_
    rintro e w4 ⟨A2, c2, rfl, hr2, _, hb2⟩
    replace hr1 := (hr1.below hb2).more hb2.size
    replace hb1 := hb1.trans (hb2.mono hb1.size)
    clear hb2
    have hti := reftimes_any (grps p) (grps q) A1 A2 c1 c2 w4 hr1 hr2 (grps_small p) (grps_small q) (Nat.le_trans HLA.out (by omega)) (Nat.le_trans HLB.out (by omega))
    rw [gv_grps, gv_grps] at hti
    have HTI := Lib.hid hti
    have HB := Lib.hid hb1
    clear hb1 hr1 hr2 hti
    go_wp2_with fail
    refine (HTI.out).mono ?_
    rintro e w5 ⟨A3, c3, rfl, hr3, _, hb2⟩
    have hB := HB.out.trans (hb2.mono HB.out.size)
    have hwh := whole_any (x != y) (p * q) A3 c3 w5 (ht.below hB) hr3 (Nat.le_trans (grps_len_mul p q) (by have := HLA.out; have := HLB.out; omega))
    rw [HFIN.out] at hwh
    have HW := Lib.hid hwh
    have HB2 := Lib.hid hB
    clear hb2 hr3 hwh hB
    go_wp2_with fail
    refine (HW.out).mono ?_
    rintro e w6 ⟨rfl, hb3⟩
    have HB3 := Lib.hid (HB2.out.trans (hb3.mono HB2.out.size))
    clear hb3
    go_wp2
    go_ret
    exact ⟨rfl, HB3.out⟩

theorem refmul_any (a b : Int) (w : World) (ht : Tab w) (ha : Lib.nDigits a.natAbs ≤ 90000) (hb : Lib.nDigits b.natAbs ≤ 90000) :
    Calls Tryz.prog 62 #[.string (dec a), .string (dec b)] w fun e w' => e = .returned (.string (dec (a * b))) ∧ Below w.heap.size w w' := by
  by_cases h : Lib.nDigits a.natAbs ≤ 8 ∧ Lib.nDigits b.natAbs ≤ 8
  · exact refmul_short a b w ht h.1 h.2
  · exact refmul_long a b w ht ha hb h

/-- The digits of a power. -/
theorem pow_digits (a : Int) (k : Nat) : Lib.nDigits (a ^ k).natAbs ≤ k * Lib.nDigits a.natAbs + 1 := by
  refine nDigits_le _ _ (by omega) ?_
  rw [Int.natAbs_pow]
  have h1 : a.natAbs ^ k ≤ (10 ^ Lib.nDigits a.natAbs) ^ k := Nat.pow_le_pow_left (Nat.le_of_lt (Lib.lt_pow_nDigits _)) k
  rw [← Nat.pow_mul, Nat.mul_comm] at h1
  refine Nat.lt_of_le_of_lt h1 (Nat.pow_lt_pow_right (by decide) (by omega))
theorem pow_bit1 (a : Int) (n j : Nat) (h : n / 2 ^ j % 2 = 1) : a ^ (n % 2 ^ j) * a ^ (2 ^ j) = a ^ (n % 2 ^ (j + 1)) := by
  rw [← Int.pow_add, Nat.mod_pow_succ, h, Nat.mul_one]
theorem pow_bit0 (a : Int) (n j : Nat) (h : n / 2 ^ j % 2 = 0) : a ^ (n % 2 ^ j) = a ^ (n % 2 ^ (j + 1)) := by
  rw [Nat.mod_pow_succ, h, Nat.mul_zero, Nat.add_zero]
theorem pow_sq (a : Int) (j : Nat) : a ^ (2 ^ j) * a ^ (2 ^ j) = a ^ (2 ^ (j + 1)) := by
  rw [← Int.pow_add, Nat.pow_succ]; congr 1; omega
theorem dec_one : dec 1 = ⟨#[49]⟩ := by
  unfold dec
  rw [show Lib.itoa 1 = [49] by rw [show (1 : Int) = ((1 : Nat) : Int) from rfl, Lib.itoa_nonneg, Lib.decDigits_one (by decide)]; rfl]

set_option maxRecDepth 100000 in
set_option maxHeartbeats 2000000 in
theorem refpower_any (a : Int) (n : Nat) (w : World) (ht : Tab w) (hn : n ≤ 1000000) (hd : n * Lib.nDigits a.natAbs ≤ 80000) :
    Calls Tryz.prog 74 #[.string (dec a), .int .i64 n] w fun e w' => e = .returned (.string (dec (a ^ n))) ∧ Below w.heap.size w w' := by
  have h1 := dec_one
  have H1 := Lib.hid h1
  have HD := Lib.hid hd
  clear h1 hd
  go_enter Tryz.func74, Tryz.ntmps74
  go_wp2
  go_loopw [0, 1, 5] (fun av nv ov wr => ∃ (j m : Nat), Lib.Kept (m = n / 2 ^ j) ∧ m ≤ 1000000 ∧ av = .string (dec (a ^ (2 ^ j))) ∧ nv = .int .i64 (m : Int) ∧ ov = .string (dec (a ^ (n % 2 ^ j))) ∧ Below w.heap.size w wr)
    (fun _ nv _ _ => (intOf nv).toNat)
  case atStart => exact ⟨0, n, (show n = n / 2 ^ 0 by simp), hn, by rw [Nat.pow_zero, Int.pow_one], rfl, by rw [Nat.pow_zero, Nat.mod_one, Int.pow_zero, H1.out], Below.refl _ _⟩
  case round =>
    obtain ⟨j, m, hm, hm6, rfl, rfl, rfl, hb⟩ := hrel
    have HM := Lib.hid hm
    have HB := Lib.hid hb
    clear hm hb
    by_cases h0 : m = 0
    · subst h0
      have he : n % 2 ^ j = n := by
        have h := HM.out
        have := Nat.mod_add_div n (2 ^ j)
        rw [← h, Nat.mul_zero, Nat.add_zero] at this
        exact this
      have HE := Lib.hid he
      clear he
      go_wp2
      go_ret
      exact ⟨by rw [HE.out]; rfl, HB.out⟩
    · have hj : 2 ^ j ≤ n := by
        have h := HM.out
        rcases Nat.lt_or_ge n (2 ^ j) with hlt | hge
        · rw [Nat.div_eq_of_lt hlt] at h; exact absurd h h0
        · exact hge
      have hm0 : 0 < m := by omega
      have hsz : Lib.nDigits (a ^ (2 ^ j)).natAbs ≤ 90000 := by
        refine Nat.le_trans (pow_digits _ _) ?_
        have := Nat.mul_le_mul_right (Lib.nDigits a.natAbs) hj
        have := HD.out
        omega
      have hso : Lib.nDigits (a ^ (n % 2 ^ j)).natAbs ≤ 90000 := by
        refine Nat.le_trans (pow_digits _ _) ?_
        have := Nat.mul_le_mul_right (Lib.nDigits a.natAbs) (Nat.mod_le n (2 ^ j))
        have := HD.out
        omega
      have hm2 : m / 2 = n / 2 ^ (j + 1) := by rw [HM.out, Nat.div_div_eq_div_mul, Nat.pow_succ]
      have hsq := fun W h => refmul_any (a ^ (2 ^ j)) (a ^ (2 ^ j)) W h hsz hsz
      rw [pow_sq] at hsq
      have hmo := fun W h => refmul_any (a ^ (n % 2 ^ j)) (a ^ (2 ^ j)) W h hso hsz
      have HSQ := Lib.hid hsq
      have HM2 := Lib.hid hm2
      by_cases hp : m % 2 = 1
      · have he := pow_bit1 a n j (by rw [← HM.out]; exact hp)
        rw [he] at hmo
        have HMO := Lib.hid hmo
        have ht1 : ((m : Int) % 2 == 1) = true := by rw [beq_iff_eq]; omega
        clear hsz hso hm2 hsq hmo hp he hj h0
        go_wp2_with fail
        refine (HMO.out _ (ht.below HB.out)).mono ?_
        rintro e w1 ⟨rfl, hb1⟩
        have HB1 := Lib.hid (HB.out.trans (hb1.mono HB.out.size))
        clear hb1
        go_wp2_with fail
        refine (HSQ.out _ (ht.below HB1.out)).mono ?_
        rintro e w2 ⟨rfl, hb1⟩
        have HB2 := Lib.hid (HB1.out.trans (hb1.mono HB1.out.size))
        clear hb1
        go_wp2
        go_roundw
        case rel => exact ⟨j + 1, m / 2, HM2.out, by omega, rfl, by first | rfl | go_num, rfl, HB2.out⟩
        case measure => simp [intOf]; omega
      · have he := pow_bit0 a n j (by rw [← HM.out]; omega)
        have ht1 : ((m : Int) % 2 == 1) = false := by rw [beq_eq_false_iff_ne]; omega
        have HE := Lib.hid he
        clear hsz hso hm2 hsq hmo hp he hj h0
        go_wp2_with fail
        refine (HSQ.out _ (ht.below HB.out)).mono ?_
        rintro e w2 ⟨rfl, hb1⟩
        have HB2 := Lib.hid (HB.out.trans (hb1.mono HB.out.size))
        clear hb1
        go_wp2
        go_roundw
        case rel => exact ⟨j + 1, m / 2, HM2.out, by omega, rfl, by first | rfl | go_num, by rw [HE.out], HB2.out⟩
        case measure => simp [intOf]; omega

end Go.Proofs.YtkamepalomkpbaaGreatDoor
