/- Package bombarderef05: Octaves. Conditions: exponents of at most 900 over one denominator of at most 240; the library's table of powers of ten reads as its text lays it. Package interval: Reduce of a right size. Conditions: the library's table of powers of ten reads as its text lays it. Printed by genreduce.py. Law IntervalReduces: the plain part. The rest of a size is its own rest. Conditions: those that each lemma names. Law IntervalReduces: the walk. Conditions: parts are ints; the library's table of powers of ten reads as its text lays it. Printed by genreduceslaw.py. -/
import Derived.Test.YtplonkeipdbchaaGreatDoorRefSgn
import Derived.Test.YtplonkeipdbchaaGreatDoorRefOAdd
import Derived.Test.YtplonkeipdbchaaGreatDoorRefRead
import Derived.Test.YtplonkeipdbchaaGreatDoorIvErrs
import Derived.Test.YtplonkeipdbchaaGreatDoorIvMono
import Derived.Test.YtplonkeipdbchaaGreatDoorFracOp
import Derived.Test.YtplonkeipdbchaaGreatDoorLaw05
import Derived.Test.YtplonkeipdbchaaGreatDoorKnown05
namespace Go.Proofs.YtplonkeipdbchaaGreatDoor
section
open Go.RowKit

/-- The greatest number of octaves that is not greater. -/
def ocZ (x y z D : Int) : Int := lgZ x y z / (D * lgU)
theorem oc_lt {x y z D n : Int} (hD : 1 ≤ D) : sgn (lgZ (x - n * D) y z) < 0 ↔ ocZ x y z D < n := by
  have hp : 0 < D * lgU := Int.mul_pos (by omega) (by decide)
  have e : lgZ (x - n * D) y z = lgZ x y z - n * (D * lgU) := by
    rw [lg_eq, lg_eq, Int.sub_mul, Int.mul_assoc]; omega
  unfold ocZ
  rw [Int.ediv_lt_iff_lt_mul hp, e]
  constructor
  · intro h
    rcases Int.lt_trichotomy (lgZ x y z - n * (D * lgU)) 0 with h1 | h1 | h1
    · omega
    · rw [h1] at h; exact absurd h (by decide)
    · rw [sgn_pos h1] at h; exact absurd h (by decide)
  · intro h
    rw [sgn_neg (by omega)]; decide
theorem oc_bd {x y z D : Int} (hx : -900 ≤ x ∧ x ≤ 900) (hy : -900 ≤ y ∧ y ≤ 900) (hz : -900 ≤ z ∧ z ≤ 900) (hD : 1 ≤ D ∧ D ≤ 240) : -5000 ≤ ocZ x y z D * D ∧ ocZ x y z D * D ≤ 5000 := by
  have hp : 0 < D * lgU := Int.mul_pos (by omega) (by decide)
  have h := lg_eq x y z
  have h1 : ocZ x y z D * (D * lgU) ≤ lgZ x y z := Int.ediv_mul_le _ (Int.ne_of_gt hp)
  have h2 : lgZ x y z < (ocZ x y z D + 1) * (D * lgU) := Int.lt_ediv_add_one_mul_self _ hp
  rw [Int.add_mul, Int.one_mul] at h2
  rw [← Int.mul_assoc] at h1 h2
  obtain ⟨k, hk⟩ : ∃ k, k = ocZ x y z D * D := ⟨_, rfl⟩
  rw [← hk] at h1 h2 ⊢
  unfold lgU lgT lgF at *
  omega
theorem guess_bd {s D : Int} (hs : s.natAbs ≤ 4500000000) (hD : 1 ≤ D ∧ D ≤ 240) : -5000 ≤ (s.tdiv D).tdiv 1000000 * D ∧ (s.tdiv D).tdiv 1000000 * D ≤ 5000 := by
  have h1 : ((s.tdiv D).tdiv 1000000).natAbs = s.natAbs / D.natAbs / 1000000 := by rw [Int.natAbs_tdiv, Int.natAbs_tdiv]; rfl
  have h2 : (((s.tdiv D).tdiv 1000000) * D).natAbs ≤ 4500 := by
    rw [Int.natAbs_mul, h1, Nat.div_div_eq_div_mul, Nat.mul_comm D.natAbs, ← Nat.div_div_eq_div_mul]
    have h3 : s.natAbs / 1000000 ≤ 4500 := Nat.div_le_of_le_mul (by omega)
    exact Nat.le_trans (Nat.div_mul_le_self _ _) h3
  omega
set_option maxRecDepth 100000 in
set_option maxHeartbeats 8000000 in
theorem refoct_any (x y z D : Int) (w : World) (ht : Tab w) (hx : -900 ≤ x ∧ x ≤ 900) (hy : -900 ≤ y ∧ y ≤ 900) (hz : -900 ≤ z ∧ z ≤ 900) (hD : 1 ≤ D ∧ D ≤ 240) :
    Calls Tryz.prog 18 #[ovv x y z D] w fun e w' => e = .returned (.int .i64 (ocZ x y z D)) ∧ Below w.heap.size w w' := by
  have hob := oc_bd hx hy hz hD
  have hnb : ∀ n : Int, -6000 ≤ n * D ∧ n * D ≤ 6000 → -6000 ≤ n ∧ n ≤ 6000 := fun n h => by
    constructor
    · rcases Int.lt_or_le n (-6000) with h' | h'
      · have := Int.mul_le_mul_of_nonneg_right (show n ≤ -6001 by omega) (show 0 ≤ D by omega)
        have := Int.mul_le_mul_of_nonneg_left hD.1 (show (0:Int) ≤ 6001 by decide)
        omega
      · exact h'
    · rcases Int.lt_or_le 6000 n with h' | h'
      · have := Int.mul_le_mul_of_nonneg_right (show 6001 ≤ n by omega) (show 0 ≤ D by omega)
        have := Int.mul_le_mul_of_nonneg_left hD.1 (show (0:Int) ≤ 6001 by decide)
        omega
      · exact h'
  have HAD := Lib.hid (fun n W (h : -6000 ≤ n * D ∧ n * D ≤ 6000) => radd_any x y z D n 0 0 1 (-1) W (by omega) (by omega) (by omega) (by omega) (by have := hnb n h; omega) (by decide) (by decide) (by decide) (.inr rfl))
  have HSG := Lib.hid (fun n W (hW : Tab W) (h : -6000 ≤ n * D ∧ n * D ≤ 6000) => refSign_any (x * 1 + -1 * n * D) (y * 1 + -1 * 0 * D) (z * 1 + -1 * 0 * D) (D * 1) W hW (by rw [Int.neg_mul, Int.one_mul, Int.neg_mul]; omega) (by omega) (by omega))
  have hse : ∀ n : Int, sgn (lgZ (x * 1 + -1 * n * D) (y * 1 + -1 * 0 * D) (z * 1 + -1 * 0 * D)) = sgn (lgZ (x - n * D) y z) := fun n => by
    rw [show x * 1 + -1 * n * D = x - n * D by rw [Int.neg_mul, Int.one_mul, Int.neg_mul]; omega, show y * 1 + -1 * 0 * D = y by omega, show z * 1 + -1 * 0 * D = z by omega]
  simp only [hse] at HSG
  obtain ⟨oc, hoc⟩ : ∃ o, o = ocZ x y z D := ⟨_, rfl⟩
  rw [← hoc] at hob ⊢
  have HOC := Lib.hid hoc
  have HD := Lib.hid hD
  have HOB := Lib.hid hob
  have HT := Lib.hid ht
  have HM0 := Lib.hid (show Hp w [(w.heap.size, 28, [.int .i64 x, .int .i64 y, .int .i64 z, .int .i64 D])] (w.alloc (.cells #[.int .i64 x, .int .i64 y, .int .i64 z, .int .i64 D] 28)) from (Hp.start w).new 28 [.int .i64 x, .int .i64 y, .int .i64 z, .int .i64 D])
  obtain ⟨p0, hp0⟩ : ∃ p, p = x * 1000000 := ⟨_, rfl⟩
  obtain ⟨p1, hp1⟩ : ∃ p, p = y * 1584963 := ⟨_, rfl⟩
  obtain ⟨p2, hp2⟩ : ∃ p, p = z * 2321928 := ⟨_, rfl⟩
  obtain ⟨s1, hs1⟩ : ∃ p, p = p0 + p1 := ⟨_, rfl⟩
  obtain ⟨s2, hs2⟩ : ∃ p, p = s1 + p2 := ⟨_, rfl⟩
  have hsb : s2.natAbs ≤ 4500000000 := by omega
  have hgb := guess_bd hsb hD
  obtain ⟨d1, hd1⟩ : ∃ p, p = s2.tdiv D := ⟨_, rfl⟩
  have hdb : d1.natAbs ≤ 4500000000 := by rw [hd1, Int.natAbs_tdiv]; exact Nat.le_trans (Nat.div_le_self _ _) hsb
  obtain ⟨n0, hn0⟩ : ∃ p, p = d1.tdiv 1000000 := ⟨_, rfl⟩
  have hnb0 : n0.natAbs ≤ 4500000000 := by rw [hn0, Int.natAbs_tdiv]; exact Nat.le_trans (Nat.div_le_self _ _) hdb
  rw [← hd1, ← hn0] at hgb
  have w0 : wrap64 (x * 1000000) = p0 := by rw [hp0]; exact IntWalk.wrap64_in _ ⟨by omega, by omega⟩
  have w1 : wrap64 (y * 1584963) = p1 := by rw [hp1]; exact IntWalk.wrap64_in _ ⟨by omega, by omega⟩
  have w2 : wrap64 (z * 2321928) = p2 := by rw [hp2]; exact IntWalk.wrap64_in _ ⟨by omega, by omega⟩
  have W0 := Lib.hid w0
  have W1 := Lib.hid w1
  have W2 := Lib.hid w2
  clear w0 w1 w2
  have W3 := Lib.hid (show wrap64 (p0 + p1) = s1 by rw [hs1]; exact IntWalk.wrap64_in _ ⟨by omega, by omega⟩)
  have W4 := Lib.hid (show wrap64 (s1 + p2) = s2 by rw [hs2]; exact IntWalk.wrap64_in _ ⟨by omega, by omega⟩)
  have W5 := Lib.hid (show wrap64 (s2.tdiv D) = d1 by rw [← hd1]; exact IntWalk.wrap64_in _ ⟨by omega, by omega⟩)
  have W6 := Lib.hid (show wrap64 (d1.tdiv 1000000) = n0 by rw [← hn0]; exact IntWalk.wrap64_in _ ⟨by omega, by omega⟩)
  have hdz : (D == 0) = false := by rw [beq_eq_false_iff_ne]; omega
  have hdn : ¬ (D = 0) := by omega
  have HGB := Lib.hid hgb
  have HNB := Lib.hid hnb
  clear hoc hob hnb hse ht hx hy hz hD hp0 hp1 hp2 hs1 hs2 hsb hgb hd1 hdb hn0 hnb0
  go_enter Tryz.func18, Tryz.ntmps18
  have w0 := W0.out
  have w1 := W1.out
  have w2 := W2.out
  have w3 := W3.out
  have w4 := W4.out
  have w5 := W5.out
  have w6 := W6.out
  go_wp2_with fail
  clear w0 w1 w2 w3 w4 w5
  go_loopw [3] (fun v wx => ∃ n : Int, v = .int .i64 n ∧ (-5000 ≤ n * D ∧ n * D ≤ 5000) ∧ Hp w [(w.heap.size, 28, [.int .i64 x, .int .i64 y, .int .i64 z, .int .i64 D])] wx) (fun v _ => (intOf v - oc).toNat)
  case atStart => exact ⟨n0, by first | rfl | rw [w6], HGB.out, HM0.out⟩
  case round =>
    clear HM0 w6 hdz hdn
    obtain ⟨n, rfl, hnD, hm⟩ := hrel
    have HM := Lib.hid hm
    have hn6 := HNB.out n ⟨by omega, by omega⟩
    clear hm
    obtain ⟨q0, q1, q2, q3⟩ := four_of (HM.out.at_ 0 rfl)
    have had := fun W => HAD.out (n) W ⟨by omega, by omega⟩
    have hsg := fun W hW => HSG.out (n) W hW ⟨by omega, by omega⟩
    obtain ⟨e0, he0⟩ : ∃ e, e = x * 1 + -1 * (n) * D := ⟨_, rfl⟩
    obtain ⟨e1, he1⟩ : ∃ e, e = y * 1 + -1 * 0 * D := ⟨_, rfl⟩
    obtain ⟨e2, he2⟩ : ∃ e, e = z * 1 + -1 * 0 * D := ⟨_, rfl⟩
    obtain ⟨e3, he3⟩ : ∃ e, e = D * 1 := ⟨_, rfl⟩
    rw [← he0, ← he1, ← he2, ← he3] at had hsg
    obtain ⟨sg, hsgn⟩ : ∃ s, s = sgn (lgZ (x - (n) * D) y z) := ⟨_, rfl⟩
    rw [← hsgn] at hsg
    have hlt := oc_lt (x := x) (y := y) (z := z) (D := D) (n := n) HD.out.1
    rw [← hsgn, ← HOC.out] at hlt
    have HA := Lib.hid had
    have HS := Lib.hid hsg
    have HL := Lib.hid hlt
    clear had hsg hlt he0 he1 he2 he3 hsgn
    have HND := Lib.hid hnD
    clear hnD
    go_wp2_with fail
    refine (HA.out _).mono ?_
    rintro e w3 ⟨rfl, hb⟩
    have HM3 := Lib.hid (HM.out.step hb)
    clear hb q0 q1 q2 q3
    go_wp2_with fail
    refine (HS.out _ (HT.out.below HM3.out.below)).mono ?_
    rintro e w4 ⟨rfl, hb⟩
    have HM4 := Lib.hid (HM3.out.step hb)
    clear hb
    by_cases hsl : sg < 0
    · have hoc := HL.out.1 hsl
      have hw : wrap64 (n - 1) = n - 1 := IntWalk.wrap64_in _ ⟨by omega, by omega⟩
      have HW := Lib.hid hw
      have HBN := Lib.hid (show -5000 ≤ (n - 1) * D ∧ (n - 1) * D ≤ 5000 from by
        have h1 := Int.mul_le_mul_of_nonneg_right (show oc ≤ n - 1 by omega) (show 0 ≤ D by have := HD.out.1; omega)
        have h2 := HOB.out
        have h3 := HND.out
        have h4 := HD.out.1
        rw [Int.sub_mul] at h1 ⊢
        omega)
      have HO := Lib.hid hoc
      clear hw hoc
      go_wp2_with fail
      go_roundw
      case rel => exact ⟨n - 1, by first | rfl | rw [HW.out], HBN.out, HM4.out⟩
      case measure =>
        have ho := HO.out
        simp only [intOf]
        try rw [HW.out]
        clear HW
        omega
    · have hno : n ≤ oc := by
        rcases Int.lt_or_le oc n with h | h
        · exact absurd (HL.out.2 h) hsl
        · exact h
      have HNO := Lib.hid hno
      clear hno
      go_wp2_with fail
      go_loopw [3] (fun v wx => ∃ n : Int, v = .int .i64 n ∧ ((-5000 ≤ n * D ∧ n * D ≤ 5000) ∧ n ≤ oc) ∧ Hp w [(w.heap.size, 28, [.int .i64 x, .int .i64 y, .int .i64 z, .int .i64 D])] wx) (fun v _ => (oc - intOf v).toNat)
      case atStart => exact ⟨n, rfl, ⟨HND.out, HNO.out⟩, HM4.out⟩
      case round =>
        clear HM HM3 HM4 HA HS HL HND HNO
        obtain ⟨n2, rfl, ⟨hnD, hno⟩, hm⟩ := hrel
        have HM := Lib.hid hm
        have hn6' := HNB.out n2 ⟨by omega, by omega⟩
        clear hm
        obtain ⟨q0, q1, q2, q3⟩ := four_of (HM.out.at_ 0 rfl)
        have hBB : -6000 ≤ (n2 + 1) * D ∧ (n2 + 1) * D ≤ 6000 := by have := HD.out; rw [Int.add_mul]; omega
        have hw : wrap64 (n2 + 1) = n2 + 1 := IntWalk.wrap64_in _ ⟨by omega, by omega⟩
        obtain ⟨n3, hn3⟩ : ∃ k, k = n2 + 1 := ⟨_, rfl⟩
        rw [← hn3] at hBB hw
        have had := fun W => HAD.out (n3) W hBB
        have hsg := fun W hW => HSG.out (n3) W hW hBB
        obtain ⟨e0, he0⟩ : ∃ e, e = x * 1 + -1 * (n3) * D := ⟨_, rfl⟩
        obtain ⟨e1, he1⟩ : ∃ e, e = y * 1 + -1 * 0 * D := ⟨_, rfl⟩
        obtain ⟨e2, he2⟩ : ∃ e, e = z * 1 + -1 * 0 * D := ⟨_, rfl⟩
        obtain ⟨e3, he3⟩ : ∃ e, e = D * 1 := ⟨_, rfl⟩
        rw [← he0, ← he1, ← he2, ← he3] at had hsg
        obtain ⟨sg, hsgn⟩ : ∃ s, s = sgn (lgZ (x - (n3) * D) y z) := ⟨_, rfl⟩
        rw [← hsgn] at hsg
        have hlt := oc_lt (x := x) (y := y) (z := z) (D := D) (n := n3) HD.out.1
        rw [← hsgn, ← HOC.out] at hlt
        have HA := Lib.hid had
        have HS := Lib.hid hsg
        have HL := Lib.hid hlt
        clear had hsg hlt he0 he1 he2 he3 hsgn
        have HND := Lib.hid hnD
        have HNO := Lib.hid hno
        have HN3 := Lib.hid hn3
        have HBB := Lib.hid hBB
        rw [hn3] at hw
        have hw' : wrap64 (n2 + 1) = n3 := by rw [hw, hn3]
        have HW := Lib.hid hw'
        clear hnD hno hw hBB hn3 hn6 hn6' hsl
        go_wp2_with fail
        refine (HA.out _).mono ?_
        rintro e w5 ⟨rfl, hb⟩
        have HM5 := Lib.hid (HM.out.step hb)
        clear hb q0 q1 q2 q3
        go_wp2_with fail
        refine (HS.out _ (HT.out.below HM5.out.below)).mono ?_
        rintro e w6 ⟨rfl, hb⟩
        have HM6 := Lib.hid (HM5.out.step hb)
        clear hb
        by_cases hsl : 0 ≤ sg
        · have hle : n3 ≤ oc := by
            rcases Int.lt_or_le oc n3 with h | h
            · have := HL.out.2 h; omega
            · exact h
          have HLE := Lib.hid hle
          have HBN := Lib.hid (show -5000 ≤ n3 * D ∧ n3 * D ≤ 5000 from by
            have h1 := Int.mul_le_mul_of_nonneg_right hle (show 0 ≤ D by have := HD.out.1; omega)
            have h2 := HOB.out
            have h3 := HND.out
            have h4 := HD.out.1
            have h5 := HN3.out
            rw [h5, Int.add_mul] at h1 ⊢
            omega)
          clear hle
          go_wp2_with fail
          go_roundw
          case rel => exact ⟨n3, by first | rfl | rw [HW.out], ⟨HBN.out, HLE.out⟩, HM6.out⟩
          case measure =>
            have h5 := HN3.out
            have h6 := HLE.out
            simp only [intOf]
            try rw [HW.out]
            clear HW hw'
            omega
        · have hge : n2 = oc := by
            have h1 := HL.out.1 (by omega)
            have h2 := HNO.out
            have h3 := HN3.out
            clear HW hw'
            omega
          subst hge
          go_wp2_with fail
          go_ret
          exact ⟨rfl, HM6.out.below⟩
end

section
open Go.RowKit

theorem red_bd {x y z D : Int} (hx : -6000 ≤ x ∧ x ≤ 6000) (hy : -6000 ≤ y ∧ y ≤ 6000) (hz : -6000 ≤ z ∧ z ≤ 6000) (hD : 1 ≤ D ∧ D ≤ 240) :
    (-31000 ≤ loZ x y z / (D * lgU) * D ∧ loZ x y z / (D * lgU) * D ≤ 31000) ∧ loZ x y z / (D * lgU) ≤ ocZ x y z D ∧ ocZ x y z D ≤ loZ x y z / (D * lgU) + 1 := by
  have hp : 0 < D * lgU := Int.mul_pos (by omega) (by decide)
  have h := lg_eq x y z
  have hlo : loZ x y z = lgZ x y z + (if 0 < y then 0 else y) + (if 0 < z then 0 else z) := rfl
  have hl1 : loZ x y z ≤ lgZ x y z := by rw [hlo]; split <;> split <;> omega
  have hl2 : lgZ x y z ≤ loZ x y z + 12000 := by rw [hlo]; split <;> split <;> omega
  have h1 : loZ x y z / (D * lgU) * (D * lgU) ≤ loZ x y z := Int.ediv_mul_le _ (Int.ne_of_gt hp)
  have h2 : loZ x y z < (loZ x y z / (D * lgU) + 1) * (D * lgU) := Int.lt_ediv_add_one_mul_self _ hp
  refine ⟨?_, Int.ediv_le_ediv hp hl1, ?_⟩
  · rw [Int.add_mul, Int.one_mul] at h2
    rw [← Int.mul_assoc] at h1 h2
    obtain ⟨k, hk⟩ : ∃ k, k = loZ x y z / (D * lgU) * D := ⟨_, rfl⟩
    rw [← hk] at h1 h2 ⊢
    clear hlo hk hp
    unfold lgU lgT lgF at *
    omega
  · have h3 : lgZ x y z ≤ loZ x y z + 1 * (D * lgU) := by
      have : (12000 : Int) ≤ D * lgU := by unfold lgU; omega
      omega
    have h4 := Int.ediv_le_ediv hp h3
    rw [Int.add_mul_ediv_right _ _ (Int.ne_of_gt hp)] at h4
    exact h4
/-- What Reduce of a right size returns. -/
noncomputable def rdR (p q a1 b1 a2 b2 oc : Int) : Value := if ivE [(p, q), (a1, b1), (a2, b2)] = 0 then .tuple #[szv p q a1 b1 a2 b2, .int .i64 oc, .int .i64 0] else .tuple #[szv 0 0 0 0 0 0, .int .i64 0, .int .i64 4]
set_option maxRecDepth 100000 in
set_option maxHeartbeats 8000000 in
theorem ireduce_any (a0 b0 a1 b1 a2 b2 x y z D : Int) (w : World) (ht : Tab w) (h : ivE [(a0, b0), (a1, b1), (a2, b2)] = 0) (hpr : prt [(a0, b0), (a1, b1), (a2, b2)] = some ([x, y, z], D)) :
    Calls Tryz.prog 17 #[szv a0 b0 a1 b1 a2 b2] w fun e w' => e = .returned (rdR (lowN (a0 * 1 - ocZ x y z D * b0) (b0 * 1)) (lowD (a0 * 1 - ocZ x y z D * b0) (b0 * 1)) a1 b1 a2 b2 (ocZ x y z D)) ∧ Below w.heap.size w w' := by
  obtain ⟨hright, _⟩ := ivE_cases h
  have r0 := hright (a0, b0) (by simp)
  have r1 := hright (a1, b1) (by simp)
  have r2 := hright (a2, b2) (by simp)
  have i64 : ∀ {a b : Int}, Right a b → I64 a ∧ I64 b := fun {a b} k => by
    obtain ⟨h1, h2, h3, h4, _⟩ := k
    exact ⟨⟨by omega, by omega⟩, by omega, by omega⟩
  have hc := fun W => icheck_any a0 b0 a1 b1 a2 b2 W (i64 r0).1 (i64 r0).2 (i64 r1).1 (i64 r1).2 (i64 r2).1 (i64 r2).2
  rw [h] at hc
  have hp := fun W => parts_any a0 b0 a1 b1 a2 b2 W (right_mild hright)
  unfold PaRet at hp
  rw [hpr] at hp
  obtain ⟨hD, hl⟩ := prt_num hpr (right_mild hright)
  have hx := hl x (by simp)
  have hy := hl y (by simp)
  have hz := hl z (by simp)
  have mx : M12 x := ⟨by omega, by omega⟩
  have my : M12 y := ⟨by omega, by omega⟩
  have mz : M12 z := ⟨by omega, by omega⟩
  have mD : M12 D := ⟨by omega, by omega⟩
  obtain ⟨⟨b1', b2'⟩, _, _, _, _⟩ := cen_bd mx my mz hD
  have hlo := lo_bd mx my mz
  obtain ⟨hrb, hq1, hq2⟩ := red_bd hx hy hz hD
  have hbn := fun W hW => bounds_any x y z W hW mx my mz
  have hof := fun W hW => of12 D W hW mD
  have hmu := fun W hW => mul_unit D W hW mD
  have hdm : ∀ W, Tab W → Calls Tryz.prog 30 #[.string (dec (loZ x y z)), .string (dec (D * lgU))] W fun e W' => e = .returned (.tuple #[.string (dec (loZ x y z / (D * lgU))), .string (dec (loZ x y z % (D * lgU))), .int .i64 0]) ∧ Below W.heap.size W W' := fun W hW =>
    divmod_pos _ _ W hW (Nat.le_trans (nDigits_pow (k := 46) (by decide) hlo) (by decide)) (Nat.le_trans (nDigits_pow (k := 40) (by decide) b2') (by decide)) b1'
  obtain ⟨q, hq⟩ : ∃ q, q = loZ x y z / (D * lgU) := ⟨_, rfl⟩
  rw [← hq] at hrb hq1 hq2
  simp only [← hq] at hdm
  have hqb : -31000 ≤ q ∧ q ≤ 31000 := by
    constructor
    · rcases Int.lt_or_le q (-31000) with h' | h'
      · have := Int.mul_le_mul_of_nonneg_right (show q ≤ -31001 by omega) (show 0 ≤ D by omega)
        have := Int.mul_le_mul_of_nonneg_left hD.1 (show (0:Int) ≤ 31001 by decide)
        omega
      · exact h'
    · rcases Int.lt_or_le 31000 q with h' | h'
      · have := Int.mul_le_mul_of_nonneg_right (show 31001 ≤ q by omega) (show 0 ≤ D by omega)
        have := Int.mul_le_mul_of_nonneg_left hD.1 (show (0:Int) ≤ 31001 by decide)
        omega
      · exact h'
  have hsl := fun W => small_yes q W (nDigits_pow (by decide) (by omega))
  have hlt := oc_lt (x := x) (y := y) (z := z) (D := D) (n := q + 1) hD.1
  obtain ⟨oc, hoc⟩ : ∃ oc, oc = ocZ x y z D := ⟨_, rfl⟩
  rw [← hoc] at hq1 hq2 hlt ⊢
  obtain ⟨m, hm⟩ : ∃ m, m = (q + 1) * D := ⟨_, rfl⟩
  have hmb : -32000 ≤ m ∧ m ≤ 32000 := by rw [hm, Int.add_mul]; omega
  obtain ⟨X0, hX0⟩ : ∃ X0, X0 = x - m := ⟨_, rfl⟩
  rw [← hm, ← hX0] at hlt
  have hsg := fun W hW => isign_all X0 y z W hW (by omega) (by omega) (by omega)
  obtain ⟨sg, hsgn⟩ : ∃ s, s = sgn (lgZ X0 y z) := ⟨_, rfl⟩
  rw [← hsgn] at hlt hsg
  have hro : Right oc 1 := ⟨by decide, by decide, by omega, by omega, by simp⟩
  have hfs := fun W => fSub_any a0 b0 oc 1 W r0 hro
  rw [fmake_low _ _ (show 0 < b0 * 1 by have := r0.1; omega)] at hfs
  obtain ⟨P, hP⟩ : ∃ P, P = lowN (a0 * 1 - oc * b0) (b0 * 1) := ⟨_, rfl⟩
  obtain ⟨Q, hQ⟩ : ∃ P, P = lowD (a0 * 1 - oc * b0) (b0 * 1) := ⟨_, rfl⟩
  rw [← hP, ← hQ] at hfs ⊢
  have hcase : (sg < 0 ∧ oc = q) ∨ (0 ≤ sg ∧ oc = q + 1) := by
    by_cases hs : sg < 0
    · exact .inl ⟨hs, by have := hlt.1 hs; omega⟩
    · refine .inr ⟨by omega, ?_⟩
      rcases Int.lt_or_le oc (q + 1) with h' | h'
      · exact absurd (hlt.2 h') hs
      · omega
  have HW1 := Lib.hid (show wrap64 (q + 1) = q + 1 from IntWalk.wrap64_in _ ⟨by omega, by omega⟩)
  obtain ⟨q1, hq1'⟩ : ∃ k, k = q + 1 := ⟨_, rfl⟩
  rw [← hq1'] at hm hcase
  have HWQ := Lib.hid (show wrap64 (q + 1) = q1 from hq1' ▸ HW1.out)
  have HWM := Lib.hid (show wrap64 (q1 * D) = m from by rw [← hm]; exact IntWalk.wrap64_in _ ⟨by omega, by omega⟩)
  have HWX := Lib.hid (show wrap64 (x - m) = X0 from by rw [← hX0]; exact IntWalk.wrap64_in _ ⟨by omega, by omega⟩)
  obtain ⟨lo, hlo'⟩ : ∃ a, a = dec (loZ x y z) := ⟨_, rfl⟩
  obtain ⟨hi, hhi'⟩ : ∃ a, a = dec (hiZ x y z) := ⟨_, rfl⟩
  obtain ⟨dd, hdd⟩ : ∃ a, a = dec (D * lgU) := ⟨_, rfl⟩
  obtain ⟨tr, htr⟩ : ∃ a, a = dec (loZ x y z % (D * lgU)) := ⟨_, rfl⟩
  obtain ⟨tq, htq⟩ : ∃ a, a = dec q := ⟨_, rfl⟩
  obtain ⟨tD, htD⟩ : ∃ a, a = dec D := ⟨_, rfl⟩
  rw [← hlo', ← hhi'] at hbn
  rw [← htD] at hof
  simp only [← htD, ← hdd] at hmu
  simp only [← hlo', ← hdd, ← htq, ← htr] at hdm
  simp only [← htq] at hsl
  have HC := Lib.hid hc
  have HP := Lib.hid hp
  have HBN := Lib.hid hbn
  have HOF := Lib.hid hof
  have HMU := Lib.hid hmu
  have HDM := Lib.hid hdm
  have HSL := Lib.hid hsl
  have HSG := Lib.hid hsg
  have HFS := Lib.hid hfs
  have HRI := Lib.hid (fun W (hr : Right P Q) => iresult_any P Q a1 b1 a2 b2 W (i64 hr).1 (i64 hr).2 (i64 r1).1 (i64 r1).2 (i64 r2).1 (i64 r2).2)
  have HCA := Lib.hid hcase
  have HT := Lib.hid ht
  have HNR := Lib.hid (show ¬ Right P Q → ivE [(P, Q), (a1, b1), (a2, b2)] ≠ 0 from fun hn he => hn ((ivE_cases he).1 (P, Q) (by simp)))
  have HM0 := Lib.hid (show Hp w [(w.heap.size, 25, [.int .i64 a0, .int .i64 b0, .int .i64 a1, .int .i64 b1, .int .i64 a2, .int .i64 b2]), (w.heap.size + 1, 25, [.int .i64 0, .int .i64 0, .int .i64 0, .int .i64 0, .int .i64 0, .int .i64 0])] ((w.alloc (.cells #[.int .i64 a0, .int .i64 b0, .int .i64 a1, .int .i64 b1, .int .i64 a2, .int .i64 b2] 25)).alloc (.cells #[.int .i64 0, .int .i64 0, .int .i64 0, .int .i64 0, .int .i64 0, .int .i64 0] 25)) from by
    have h := ((Hp.start w).new 25 [.int .i64 a0, .int .i64 b0, .int .i64 a1, .int .i64 b1, .int .i64 a2, .int .i64 b2]).new 25 [.int .i64 0, .int .i64 0, .int .i64 0, .int .i64 0, .int .i64 0, .int .i64 0]
    simp only [World.size_alloc] at h
    exact h)
  clear hc hp hbn hof hmu hdm hsl hsg hfs hlo' hhi' hdd htr htq htD hcase ht h hpr hright r0 r1 r2 i64 hD hl hx hy hz mx my mz mD b1' b2' hlo hrb hq1 hq2 hq hqb hlt hoc hm hmb hX0 hsgn hro hP hQ hq1' HW1
  go_enter Tryz.func17, Tryz.ntmps17
  go_wp2_with fail
  refine (HC.out _).mono ?_
  rintro e w1 ⟨rfl, hb⟩
  have HM1 := Lib.hid (HM0.out.step hb)
  obtain ⟨c0, c1, c2, c3, c4, c5⟩ := six_of (HM1.out.at_ 0 rfl)
  clear hb HM0
  go_wp2_with fail
  refine (HP.out _).mono ?_
  rintro e w2 ⟨rfl, hb⟩
  have HM2 := Lib.hid ((HM1.out.step hb).new 26 [.int .i64 x, .int .i64 y, .int .i64 z])
  clear hb HM1 c0 c1 c2 c3 c4 c5
  go_wp2_with fail
  refine (HBN.out _ (HT.out.below HM2.out.below)).mono ?_
  rintro e w3 ⟨rfl, hb⟩
  have HM3 := Lib.hid (HM2.out.step hb)
  clear hb HM2
  go_wp2_with fail
  refine (HOF.out _ (HT.out.below HM3.out.below)).mono ?_
  rintro e w4 ⟨rfl, hb⟩
  have HM4 := Lib.hid (HM3.out.step hb)
  clear hb HM3
  go_wp2_with fail
  refine (HMU.out _ (HT.out.below HM4.out.below)).mono ?_
  rintro e w5 ⟨rfl, hb⟩
  have HM5 := Lib.hid (HM4.out.step hb)
  clear hb HM4
  go_wp2_with fail
  refine (HDM.out _ (HT.out.below HM5.out.below)).mono ?_
  rintro e w6 ⟨rfl, hb⟩
  have HM6 := Lib.hid (HM5.out.step hb)
  clear hb HM5
  go_wp2_with fail
  refine (HSL.out _).mono ?_
  rintro e w7 ⟨rfl, hb⟩
  have HM7 := Lib.hid (HM6.out.step hb)
  obtain ⟨v0, v1, v2⟩ := three_of (HM7.out.at_ 2 rfl)
  have hg7 : w2.heap.size < w7.heap.size := (HM7.out.at_ 2 rfl).lt
  have wq := HWQ.out
  have wm := HWM.out
  have wx := HWX.out
  clear hb HM6
  go_upto_region 10 with fail
  have HM8 := Lib.hid (HM7.out.new 26 [.int .i64 X0, .int .i64 y, .int .i64 z])
  clear v0 v1 v2 hg7 wm wx HM7
  go_wp2_with fail
  refine (HSG.out _ (HT.out.below HM8.out.below)).mono ?_
  rintro e w9 ⟨rfl, hb⟩
  have HM9 := Lib.hid (HM8.out.step hb)
  clear hb HM8
  rcases HCA.out with ⟨hs, hoc⟩ | ⟨hs, hoc⟩
  · subst hoc
    clear HCA
    obtain ⟨c0, c1, c2, c3, c4, c5⟩ := six_of (HM9.out.at_ 0 rfl)
    obtain ⟨d0, d1, d2, d3, d4, d5⟩ := six_of (HM9.out.at_ 1 rfl)
    obtain ⟨f0, f1, f2, f3, f4, f5⟩ := six_free (HM9.out.at_ 1 rfl)
    go_upto_region 14 with fail
    obtain ⟨WA, hWA⟩ : ∃ WA, WA = ((((((w9.setCell ⟨w.heap.size + 1, 0, none⟩ (.int .i64 a0)).setCell ⟨w.heap.size + 1, 1, none⟩ (.int .i64 b0)).setCell ⟨w.heap.size + 1, 2, none⟩ (.int .i64 a1)).setCell ⟨w.heap.size + 1, 3, none⟩ (.int .i64 b1)).setCell ⟨w.heap.size + 1, 4, none⟩ (.int .i64 a2)).setCell ⟨w.heap.size + 1, 5, none⟩ (.int .i64 b2)) := ⟨_, rfl⟩
    have hma := HM9.out.put6 1 rfl (.int .i64 a0) (.int .i64 b0) (.int .i64 a1) (.int .i64 b1) (.int .i64 a2) (.int .i64 b2)
    rw [← hWA] at hma ⊢
    have HMA := Lib.hid hma
    clear hWA hma c0 c1 c2 c3 c4 c5 d0 d1 d2 d3 d4 d5 f0 f1 f2 f3 f4 f5 HM9
    obtain ⟨c0, c1, c2, c3, c4, c5⟩ := six_of (HMA.out.at_ 0 rfl)
    by_cases hR : Right P Q
    · have hfs := HFS.out
      rw [if_pos hR] at hfs
      unfold fRet at hfs
      have HF := Lib.hid hfs
      have HRR := Lib.hid (HRI.out · hR)
      clear hfs hR HNR
      go_wp2_with fail
      refine (HF.out _).mono ?_
      rintro e w10 ⟨rfl, hb⟩
      have HM10 := Lib.hid (HMA.out.step hb)
      clear hb c0 c1 c2 c3 c4 c5
      obtain ⟨d0, d1, d2, d3, d4, d5⟩ := six_of (HM10.out.at_ 1 rfl)
      obtain ⟨f0, f1, f2, f3, f4, f5⟩ := six_free (HM10.out.at_ 1 rfl)
      go_upto_region 17 with fail
      obtain ⟨WB, hWB⟩ : ∃ WB, WB = ((w10.setCell ⟨w.heap.size + 1, 0, none⟩ (.int .i64 P)).setCell ⟨w.heap.size + 1, 1, none⟩ (.int .i64 Q)) := ⟨_, rfl⟩
      have hmb := (HM10.out.put 1 rfl 0 (.int .i64 P)).put 1 (by rfl) 1 (.int .i64 Q)
      rw [← hWB] at hmb ⊢
      have HMB := Lib.hid hmb
      clear hWB hmb d0 d1 d2 d3 d4 d5 f0 f1 f2 f3 f4 f5
      by_cases hE : ivE [(P, Q), (a1, b1), (a2, b2)] = 0
      · have hr := HRR.out
        unfold ivR at hr
        rw [if_pos hE] at hr
        have HR2 := Lib.hid hr
        have HRD := Lib.hid (show ∀ k, rdR P Q a1 b1 a2 b2 k = .tuple #[szv P Q a1 b1 a2 b2, .int .i64 k, .int .i64 0] from fun k => by unfold rdR; rw [if_pos hE])
        clear hr hE HRR
        obtain ⟨d0, d1, d2, d3, d4, d5⟩ := six_of (HMB.out.at_ 1 rfl)
        go_wp2_with fail
        refine (HR2.out _).mono ?_
        rintro e w11 ⟨rfl, hb⟩
        have HM11 := Lib.hid (HMB.out.step hb)
        clear hb d0 d1 d2 d3 d4 d5
        obtain ⟨d0, d1, d2, d3, d4, d5⟩ := six_of (HM11.out.at_ 1 rfl)
        obtain ⟨f0, f1, f2, f3, f4, f5⟩ := six_free (HM11.out.at_ 1 rfl)
        go_upto_region 20 with fail
        obtain ⟨WC, hWN⟩ : ∃ WN, WN = ((((((w11.setCell ⟨w.heap.size + 1, 0, none⟩ (.int .i64 P)).setCell ⟨w.heap.size + 1, 1, none⟩ (.int .i64 Q)).setCell ⟨w.heap.size + 1, 2, none⟩ (.int .i64 a1)).setCell ⟨w.heap.size + 1, 3, none⟩ (.int .i64 b1)).setCell ⟨w.heap.size + 1, 4, none⟩ (.int .i64 a2)).setCell ⟨w.heap.size + 1, 5, none⟩ (.int .i64 b2)) := ⟨_, rfl⟩
        have hmn := HM11.out.put6 1 rfl (.int .i64 P) (.int .i64 Q) (.int .i64 a1) (.int .i64 b1) (.int .i64 a2) (.int .i64 b2)
        rw [← hWN] at hmn ⊢
        have HM12 := Lib.hid hmn
        clear hWN hmn d0 d1 d2 d3 d4 d5 f0 f1 f2 f3 f4 f5
        obtain ⟨d0, d1, d2, d3, d4, d5⟩ := six_of (HM12.out.at_ 1 rfl)
        obtain ⟨f0, f1, f2, f3, f4, f5⟩ := six_free (HM12.out.at_ 1 rfl)
        go_wp2
        obtain ⟨WZ, hWZ⟩ : ∃ WZ, WZ = ((((((WC.setCell ⟨w.heap.size + 1, 0, none⟩ (.int .i64 P)).setCell ⟨w.heap.size + 1, 1, none⟩ (.int .i64 Q)).setCell ⟨w.heap.size + 1, 2, none⟩ (.int .i64 a1)).setCell ⟨w.heap.size + 1, 3, none⟩ (.int .i64 b1)).setCell ⟨w.heap.size + 1, 4, none⟩ (.int .i64 a2)).setCell ⟨w.heap.size + 1, 5, none⟩ (.int .i64 b2)) := ⟨_, rfl⟩
        have hz := HM12.out.put6 1 rfl (.int .i64 P) (.int .i64 Q) (.int .i64 a1) (.int .i64 b1) (.int .i64 a2) (.int .i64 b2)
        rw [← hWZ] at hz ⊢
        obtain ⟨g0, g1, g2, g3, g4, g5⟩ := six_of (hz.at_ 1 rfl)
        exact bodyPost_ret (v := .tuple #[szv P Q a1 b1 a2 b2, .int .i64 oc, .int .i64 0]) (by simp [g0, g1, g2, g3, g4, g5, results, Tryz.results17, go_sem]) rfl ⟨by rw [HRD.out], hz.below⟩
      · have hr := HRR.out
        unfold ivR at hr
        rw [if_neg hE] at hr
        have HR2 := Lib.hid hr
        have HRD := Lib.hid (show ∀ k, rdR P Q a1 b1 a2 b2 k = .tuple #[szv 0 0 0 0 0 0, .int .i64 0, .int .i64 4] from fun k => by unfold rdR; rw [if_neg hE])
        clear hr hE HRR
        obtain ⟨d0, d1, d2, d3, d4, d5⟩ := six_of (HMB.out.at_ 1 rfl)
        go_wp2_with fail
        refine (HR2.out _).mono ?_
        rintro e w11 ⟨rfl, hb⟩
        have HM11 := Lib.hid (HMB.out.step hb)
        clear hb d0 d1 d2 d3 d4 d5
        obtain ⟨d0, d1, d2, d3, d4, d5⟩ := six_of (HM11.out.at_ 1 rfl)
        obtain ⟨f0, f1, f2, f3, f4, f5⟩ := six_free (HM11.out.at_ 1 rfl)
        go_upto_region 19 with fail
        obtain ⟨WC, hWN⟩ : ∃ WN, WN = ((((((w11.setCell ⟨w.heap.size + 1, 0, none⟩ (.int .i64 0)).setCell ⟨w.heap.size + 1, 1, none⟩ (.int .i64 0)).setCell ⟨w.heap.size + 1, 2, none⟩ (.int .i64 0)).setCell ⟨w.heap.size + 1, 3, none⟩ (.int .i64 0)).setCell ⟨w.heap.size + 1, 4, none⟩ (.int .i64 0)).setCell ⟨w.heap.size + 1, 5, none⟩ (.int .i64 0)) := ⟨_, rfl⟩
        have hmn := HM11.out.put6 1 rfl (.int .i64 0) (.int .i64 0) (.int .i64 0) (.int .i64 0) (.int .i64 0) (.int .i64 0)
        rw [← hWN] at hmn ⊢
        have HM12 := Lib.hid hmn
        clear hWN hmn d0 d1 d2 d3 d4 d5 f0 f1 f2 f3 f4 f5
        obtain ⟨d0, d1, d2, d3, d4, d5⟩ := six_of (HM12.out.at_ 1 rfl)
        obtain ⟨f0, f1, f2, f3, f4, f5⟩ := six_free (HM12.out.at_ 1 rfl)
        go_wp2
        obtain ⟨WZ, hWZ⟩ : ∃ WZ, WZ = ((((((WC.setCell ⟨w.heap.size + 1, 0, none⟩ (.int .i64 0)).setCell ⟨w.heap.size + 1, 1, none⟩ (.int .i64 0)).setCell ⟨w.heap.size + 1, 2, none⟩ (.int .i64 0)).setCell ⟨w.heap.size + 1, 3, none⟩ (.int .i64 0)).setCell ⟨w.heap.size + 1, 4, none⟩ (.int .i64 0)).setCell ⟨w.heap.size + 1, 5, none⟩ (.int .i64 0)) := ⟨_, rfl⟩
        have hz := HM12.out.put6 1 rfl (.int .i64 0) (.int .i64 0) (.int .i64 0) (.int .i64 0) (.int .i64 0) (.int .i64 0)
        rw [← hWZ] at hz ⊢
        obtain ⟨g0, g1, g2, g3, g4, g5⟩ := six_of (hz.at_ 1 rfl)
        exact bodyPost_ret (v := .tuple #[szv 0 0 0 0 0 0, .int .i64 0, .int .i64 4]) (by simp [g0, g1, g2, g3, g4, g5, results, Tryz.results17, go_sem]) rfl ⟨by rw [HRD.out], hz.below⟩
    · have hfs := HFS.out
      rw [if_neg hR] at hfs
      unfold fRet at hfs
      have HF := Lib.hid hfs
      have HRD := Lib.hid (show ∀ k, rdR P Q a1 b1 a2 b2 k = .tuple #[szv 0 0 0 0 0 0, .int .i64 0, .int .i64 4] from fun k => by unfold rdR; rw [if_neg (HNR.out hR)])
      clear hfs hR HNR
      go_wp2_with fail
      refine (HF.out _).mono ?_
      rintro e w10 ⟨rfl, hb⟩
      have HM10 := Lib.hid (HMA.out.step hb)
      clear hb c0 c1 c2 c3 c4 c5
      obtain ⟨d0, d1, d2, d3, d4, d5⟩ := six_of (HM10.out.at_ 1 rfl)
      obtain ⟨f0, f1, f2, f3, f4, f5⟩ := six_free (HM10.out.at_ 1 rfl)
      go_upto_region 16 with fail
      obtain ⟨WB, hWB⟩ : ∃ WB, WB = ((w10.setCell ⟨w.heap.size + 1, 0, none⟩ (.int .i64 0)).setCell ⟨w.heap.size + 1, 1, none⟩ (.int .i64 0)) := ⟨_, rfl⟩
      have hmb := (HM10.out.put 1 rfl 0 (.int .i64 0)).put 1 (by rfl) 1 (.int .i64 0)
      rw [← hWB] at hmb ⊢
      have HMB := Lib.hid hmb
      clear hWB hmb d0 d1 d2 d3 d4 d5 f0 f1 f2 f3 f4 f5
      obtain ⟨d0, d1, d2, d3, d4, d5⟩ := six_of (HMB.out.at_ 1 rfl)
      obtain ⟨f0, f1, f2, f3, f4, f5⟩ := six_free (HMB.out.at_ 1 rfl)
      go_wp2
      obtain ⟨WZ, hWZ⟩ : ∃ WZ, WZ = ((((((WB.setCell ⟨w.heap.size + 1, 0, none⟩ (.int .i64 0)).setCell ⟨w.heap.size + 1, 1, none⟩ (.int .i64 0)).setCell ⟨w.heap.size + 1, 2, none⟩ (.int .i64 0)).setCell ⟨w.heap.size + 1, 3, none⟩ (.int .i64 0)).setCell ⟨w.heap.size + 1, 4, none⟩ (.int .i64 0)).setCell ⟨w.heap.size + 1, 5, none⟩ (.int .i64 0)) := ⟨_, rfl⟩
      have hz := HMB.out.put6 1 rfl (.int .i64 0) (.int .i64 0) (.int .i64 0) (.int .i64 0) (.int .i64 0) (.int .i64 0)
      rw [← hWZ] at hz ⊢
      obtain ⟨g0, g1, g2, g3, g4, g5⟩ := six_of (hz.at_ 1 rfl)
      exact bodyPost_ret (v := .tuple #[szv 0 0 0 0 0 0, .int .i64 0, .int .i64 4]) (by simp [g0, g1, g2, g3, g4, g5, results, Tryz.results17, go_sem]) rfl ⟨by rw [HRD.out], hz.below⟩
  · subst hoc
    clear HCA
    obtain ⟨c0, c1, c2, c3, c4, c5⟩ := six_of (HM9.out.at_ 0 rfl)
    obtain ⟨d0, d1, d2, d3, d4, d5⟩ := six_of (HM9.out.at_ 1 rfl)
    obtain ⟨f0, f1, f2, f3, f4, f5⟩ := six_free (HM9.out.at_ 1 rfl)
    go_upto_region 14 with fail
    obtain ⟨WA, hWA⟩ : ∃ WA, WA = ((((((w9.setCell ⟨w.heap.size + 1, 0, none⟩ (.int .i64 a0)).setCell ⟨w.heap.size + 1, 1, none⟩ (.int .i64 b0)).setCell ⟨w.heap.size + 1, 2, none⟩ (.int .i64 a1)).setCell ⟨w.heap.size + 1, 3, none⟩ (.int .i64 b1)).setCell ⟨w.heap.size + 1, 4, none⟩ (.int .i64 a2)).setCell ⟨w.heap.size + 1, 5, none⟩ (.int .i64 b2)) := ⟨_, rfl⟩
    have hma := HM9.out.put6 1 rfl (.int .i64 a0) (.int .i64 b0) (.int .i64 a1) (.int .i64 b1) (.int .i64 a2) (.int .i64 b2)
    rw [← hWA] at hma ⊢
    have HMA := Lib.hid hma
    clear hWA hma c0 c1 c2 c3 c4 c5 d0 d1 d2 d3 d4 d5 f0 f1 f2 f3 f4 f5 HM9
    obtain ⟨c0, c1, c2, c3, c4, c5⟩ := six_of (HMA.out.at_ 0 rfl)
    by_cases hR : Right P Q
    · have hfs := HFS.out
      rw [if_pos hR] at hfs
      unfold fRet at hfs
      have HF := Lib.hid hfs
      have HRR := Lib.hid (HRI.out · hR)
      clear hfs hR HNR
      go_wp2_with fail
      refine (HF.out _).mono ?_
      rintro e w10 ⟨rfl, hb⟩
      have HM10 := Lib.hid (HMA.out.step hb)
      clear hb c0 c1 c2 c3 c4 c5
      obtain ⟨d0, d1, d2, d3, d4, d5⟩ := six_of (HM10.out.at_ 1 rfl)
      obtain ⟨f0, f1, f2, f3, f4, f5⟩ := six_free (HM10.out.at_ 1 rfl)
      go_upto_region 17 with fail
      obtain ⟨WB, hWB⟩ : ∃ WB, WB = ((w10.setCell ⟨w.heap.size + 1, 0, none⟩ (.int .i64 P)).setCell ⟨w.heap.size + 1, 1, none⟩ (.int .i64 Q)) := ⟨_, rfl⟩
      have hmb := (HM10.out.put 1 rfl 0 (.int .i64 P)).put 1 (by rfl) 1 (.int .i64 Q)
      rw [← hWB] at hmb ⊢
      have HMB := Lib.hid hmb
      clear hWB hmb d0 d1 d2 d3 d4 d5 f0 f1 f2 f3 f4 f5
      by_cases hE : ivE [(P, Q), (a1, b1), (a2, b2)] = 0
      · have hr := HRR.out
        unfold ivR at hr
        rw [if_pos hE] at hr
        have HR2 := Lib.hid hr
        have HRD := Lib.hid (show ∀ k, rdR P Q a1 b1 a2 b2 k = .tuple #[szv P Q a1 b1 a2 b2, .int .i64 k, .int .i64 0] from fun k => by unfold rdR; rw [if_pos hE])
        clear hr hE HRR
        obtain ⟨d0, d1, d2, d3, d4, d5⟩ := six_of (HMB.out.at_ 1 rfl)
        go_wp2_with fail
        refine (HR2.out _).mono ?_
        rintro e w11 ⟨rfl, hb⟩
        have HM11 := Lib.hid (HMB.out.step hb)
        clear hb d0 d1 d2 d3 d4 d5
        obtain ⟨d0, d1, d2, d3, d4, d5⟩ := six_of (HM11.out.at_ 1 rfl)
        obtain ⟨f0, f1, f2, f3, f4, f5⟩ := six_free (HM11.out.at_ 1 rfl)
        go_upto_region 20 with fail
        obtain ⟨WC, hWN⟩ : ∃ WN, WN = ((((((w11.setCell ⟨w.heap.size + 1, 0, none⟩ (.int .i64 P)).setCell ⟨w.heap.size + 1, 1, none⟩ (.int .i64 Q)).setCell ⟨w.heap.size + 1, 2, none⟩ (.int .i64 a1)).setCell ⟨w.heap.size + 1, 3, none⟩ (.int .i64 b1)).setCell ⟨w.heap.size + 1, 4, none⟩ (.int .i64 a2)).setCell ⟨w.heap.size + 1, 5, none⟩ (.int .i64 b2)) := ⟨_, rfl⟩
        have hmn := HM11.out.put6 1 rfl (.int .i64 P) (.int .i64 Q) (.int .i64 a1) (.int .i64 b1) (.int .i64 a2) (.int .i64 b2)
        rw [← hWN] at hmn ⊢
        have HM12 := Lib.hid hmn
        clear hWN hmn d0 d1 d2 d3 d4 d5 f0 f1 f2 f3 f4 f5
        obtain ⟨d0, d1, d2, d3, d4, d5⟩ := six_of (HM12.out.at_ 1 rfl)
        obtain ⟨f0, f1, f2, f3, f4, f5⟩ := six_free (HM12.out.at_ 1 rfl)
        go_wp2
        obtain ⟨WZ, hWZ⟩ : ∃ WZ, WZ = ((((((WC.setCell ⟨w.heap.size + 1, 0, none⟩ (.int .i64 P)).setCell ⟨w.heap.size + 1, 1, none⟩ (.int .i64 Q)).setCell ⟨w.heap.size + 1, 2, none⟩ (.int .i64 a1)).setCell ⟨w.heap.size + 1, 3, none⟩ (.int .i64 b1)).setCell ⟨w.heap.size + 1, 4, none⟩ (.int .i64 a2)).setCell ⟨w.heap.size + 1, 5, none⟩ (.int .i64 b2)) := ⟨_, rfl⟩
        have hz := HM12.out.put6 1 rfl (.int .i64 P) (.int .i64 Q) (.int .i64 a1) (.int .i64 b1) (.int .i64 a2) (.int .i64 b2)
        rw [← hWZ] at hz ⊢
        obtain ⟨g0, g1, g2, g3, g4, g5⟩ := six_of (hz.at_ 1 rfl)
        exact bodyPost_ret (v := .tuple #[szv P Q a1 b1 a2 b2, .int .i64 oc, .int .i64 0]) (by simp [g0, g1, g2, g3, g4, g5, results, Tryz.results17, go_sem]) rfl ⟨by rw [HRD.out], hz.below⟩
      · have hr := HRR.out
        unfold ivR at hr
        rw [if_neg hE] at hr
        have HR2 := Lib.hid hr
        have HRD := Lib.hid (show ∀ k, rdR P Q a1 b1 a2 b2 k = .tuple #[szv 0 0 0 0 0 0, .int .i64 0, .int .i64 4] from fun k => by unfold rdR; rw [if_neg hE])
        clear hr hE HRR
        obtain ⟨d0, d1, d2, d3, d4, d5⟩ := six_of (HMB.out.at_ 1 rfl)
        go_wp2_with fail
        refine (HR2.out _).mono ?_
        rintro e w11 ⟨rfl, hb⟩
        have HM11 := Lib.hid (HMB.out.step hb)
        clear hb d0 d1 d2 d3 d4 d5
        obtain ⟨d0, d1, d2, d3, d4, d5⟩ := six_of (HM11.out.at_ 1 rfl)
        obtain ⟨f0, f1, f2, f3, f4, f5⟩ := six_free (HM11.out.at_ 1 rfl)
        go_upto_region 19 with fail
        obtain ⟨WC, hWN⟩ : ∃ WN, WN = ((((((w11.setCell ⟨w.heap.size + 1, 0, none⟩ (.int .i64 0)).setCell ⟨w.heap.size + 1, 1, none⟩ (.int .i64 0)).setCell ⟨w.heap.size + 1, 2, none⟩ (.int .i64 0)).setCell ⟨w.heap.size + 1, 3, none⟩ (.int .i64 0)).setCell ⟨w.heap.size + 1, 4, none⟩ (.int .i64 0)).setCell ⟨w.heap.size + 1, 5, none⟩ (.int .i64 0)) := ⟨_, rfl⟩
        have hmn := HM11.out.put6 1 rfl (.int .i64 0) (.int .i64 0) (.int .i64 0) (.int .i64 0) (.int .i64 0) (.int .i64 0)
        rw [← hWN] at hmn ⊢
        have HM12 := Lib.hid hmn
        clear hWN hmn d0 d1 d2 d3 d4 d5 f0 f1 f2 f3 f4 f5
        obtain ⟨d0, d1, d2, d3, d4, d5⟩ := six_of (HM12.out.at_ 1 rfl)
        obtain ⟨f0, f1, f2, f3, f4, f5⟩ := six_free (HM12.out.at_ 1 rfl)
        go_wp2
        obtain ⟨WZ, hWZ⟩ : ∃ WZ, WZ = ((((((WC.setCell ⟨w.heap.size + 1, 0, none⟩ (.int .i64 0)).setCell ⟨w.heap.size + 1, 1, none⟩ (.int .i64 0)).setCell ⟨w.heap.size + 1, 2, none⟩ (.int .i64 0)).setCell ⟨w.heap.size + 1, 3, none⟩ (.int .i64 0)).setCell ⟨w.heap.size + 1, 4, none⟩ (.int .i64 0)).setCell ⟨w.heap.size + 1, 5, none⟩ (.int .i64 0)) := ⟨_, rfl⟩
        have hz := HM12.out.put6 1 rfl (.int .i64 0) (.int .i64 0) (.int .i64 0) (.int .i64 0) (.int .i64 0) (.int .i64 0)
        rw [← hWZ] at hz ⊢
        obtain ⟨g0, g1, g2, g3, g4, g5⟩ := six_of (hz.at_ 1 rfl)
        exact bodyPost_ret (v := .tuple #[szv 0 0 0 0 0 0, .int .i64 0, .int .i64 4]) (by simp [g0, g1, g2, g3, g4, g5, results, Tryz.results17, go_sem]) rfl ⟨by rw [HRD.out], hz.below⟩
    · have hfs := HFS.out
      rw [if_neg hR] at hfs
      unfold fRet at hfs
      have HF := Lib.hid hfs
      have HRD := Lib.hid (show ∀ k, rdR P Q a1 b1 a2 b2 k = .tuple #[szv 0 0 0 0 0 0, .int .i64 0, .int .i64 4] from fun k => by unfold rdR; rw [if_neg (HNR.out hR)])
      clear hfs hR HNR
      go_wp2_with fail
      refine (HF.out _).mono ?_
      rintro e w10 ⟨rfl, hb⟩
      have HM10 := Lib.hid (HMA.out.step hb)
      clear hb c0 c1 c2 c3 c4 c5
      obtain ⟨d0, d1, d2, d3, d4, d5⟩ := six_of (HM10.out.at_ 1 rfl)
      obtain ⟨f0, f1, f2, f3, f4, f5⟩ := six_free (HM10.out.at_ 1 rfl)
      go_upto_region 16 with fail
      obtain ⟨WB, hWB⟩ : ∃ WB, WB = ((w10.setCell ⟨w.heap.size + 1, 0, none⟩ (.int .i64 0)).setCell ⟨w.heap.size + 1, 1, none⟩ (.int .i64 0)) := ⟨_, rfl⟩
      have hmb := (HM10.out.put 1 rfl 0 (.int .i64 0)).put 1 (by rfl) 1 (.int .i64 0)
      rw [← hWB] at hmb ⊢
      have HMB := Lib.hid hmb
      clear hWB hmb d0 d1 d2 d3 d4 d5 f0 f1 f2 f3 f4 f5
      obtain ⟨d0, d1, d2, d3, d4, d5⟩ := six_of (HMB.out.at_ 1 rfl)
      obtain ⟨f0, f1, f2, f3, f4, f5⟩ := six_free (HMB.out.at_ 1 rfl)
      go_wp2
      obtain ⟨WZ, hWZ⟩ : ∃ WZ, WZ = ((((((WB.setCell ⟨w.heap.size + 1, 0, none⟩ (.int .i64 0)).setCell ⟨w.heap.size + 1, 1, none⟩ (.int .i64 0)).setCell ⟨w.heap.size + 1, 2, none⟩ (.int .i64 0)).setCell ⟨w.heap.size + 1, 3, none⟩ (.int .i64 0)).setCell ⟨w.heap.size + 1, 4, none⟩ (.int .i64 0)).setCell ⟨w.heap.size + 1, 5, none⟩ (.int .i64 0)) := ⟨_, rfl⟩
      have hz := HMB.out.put6 1 rfl (.int .i64 0) (.int .i64 0) (.int .i64 0) (.int .i64 0) (.int .i64 0) (.int .i64 0)
      rw [← hWZ] at hz ⊢
      obtain ⟨g0, g1, g2, g3, g4, g5⟩ := six_of (hz.at_ 1 rfl)
      exact bodyPost_ret (v := .tuple #[szv 0 0 0 0 0 0, .int .i64 0, .int .i64 4]) (by simp [g0, g1, g2, g3, g4, g5, results, Tryz.results17, go_sem]) rfl ⟨by rw [HRD.out], hz.below⟩
end

section
open Go.RowKit

theorem rd_cross {x D a b oc : Int} (h : x * b = a * D) : (x * 1 + -1 * oc * D) * (b * 1) = (a * 1 - oc * b) * (D * 1) := by
  rw [Int.mul_one, Int.mul_one, Int.mul_one, Int.mul_one, Int.neg_mul, Int.one_mul, Int.neg_mul, ← Int.sub_eq_add_neg, Int.sub_mul, Int.sub_mul, h]
  congr 1
  simp only [Int.mul_assoc, Int.mul_comm, Int.mul_left_comm]
theorem rd_same {x D a b : Int} (h : x * b = a * D) : (x * 1 + -1 * 0 * D) * b = a * (D * 1) := by
  rw [Int.mul_one, Int.mul_one, Int.mul_zero, Int.zero_mul, Int.add_zero, h]
/-- Twice the same quotient. -/
theorem ediv_same {p q r s : Int} (hq : 0 < q) (hs : 0 < s) (h : p * s = r * q) : p / q = r / s :=
  Int.le_antisymm (ediv_cross hq hs (Int.le_of_eq h)) (ediv_cross hs hq (Int.le_of_eq h.symm))
theorem oc_rest {x y z D x' y' z' D' : Int} (hD : 1 ≤ D) (hD' : 1 ≤ D') (h0 : x' * D = (x - ocZ x y z D * D) * D') (h1 : y' * D = y * D') (h2 : z' * D = z * D') : ocZ x' y' z' D' = 0 := by
  have hp : 0 < D * lgU := Int.mul_pos (by omega) (by decide)
  have hp' : 0 < D' * lgU := Int.mul_pos (by omega) (by decide)
  have e1 : D * lgZ x' y' z' = D' * lgZ (x - ocZ x y z D * D) y z := by
    rw [← lg_mul, ← lg_mul, Int.mul_comm D x', Int.mul_comm D y', Int.mul_comm D z', h0, h1, h2, Int.mul_comm D', Int.mul_comm D' y, Int.mul_comm D' z]
  have e2 : lgZ (x - ocZ x y z D * D) y z = lgZ x y z - ocZ x y z D * (D * lgU) := by
    rw [lg_eq, lg_eq, Int.sub_mul, Int.mul_assoc]; omega
  have e3 : ocZ x' y' z' D' = lgZ (x - ocZ x y z D * D) y z / (D * lgU) := by
    show lgZ x' y' z' / (D' * lgU) = _
    refine ediv_same hp' hp ?_
    rw [← Int.mul_assoc, Int.mul_comm (lgZ x' y' z') D, e1, ← Int.mul_assoc]
    simp only [Int.mul_assoc, Int.mul_comm, Int.mul_left_comm]
  rw [e3, e2, Int.sub_eq_add_neg, ← Int.neg_mul, Int.add_mul_ediv_right _ _ (Int.ne_of_gt hp)]
  show ocZ x y z D + -ocZ x y z D = 0
  omega
end

section
open Go.RowKit

theorem rd_cancel {x' Q P D' D e : Int} (hQ : 0 < Q) (h1 : x' * Q = P * D') (h2 : P * D = e * Q) : x' * D = e * D' := by
  refine Int.eq_of_mul_eq_mul_left (Int.ne_of_gt hQ) ?_
  have k1 : Q * (x' * D) = (x' * Q) * D := by simp only [Int.mul_assoc, Int.mul_comm, Int.mul_left_comm]
  have k2 : (P * D') * D = (P * D) * D' := by simp only [Int.mul_assoc, Int.mul_comm, Int.mul_left_comm]
  rw [k1, h1, k2, h2]
  simp only [Int.mul_assoc, Int.mul_comm, Int.mul_left_comm]
theorem rd_low {n M : Int} (hM : 0 < M) : lowN n M * M = n * lowD n M := by
  obtain ⟨g, hg, e1, e2, _, _⟩ := low_mul n M hM
  have e3 : lowN n M * M = lowN n M * (g * lowD n M) := by rw [e2]
  have e4 : n * lowD n M = (g * lowN n M) * lowD n M := by rw [e1]
  rw [e3, e4]
  simp only [Int.mul_left_comm, Int.mul_assoc]
set_option maxRecDepth 100000 in
set_option maxHeartbeats 8000000 in
theorem lreduces_err (a0 b0 a1 b1 a2 b2 : Int) (w : World) (ht : Tab w) (h : ivE [(a0, b0), (a1, b1), (a2, b2)] ≠ 0) :
    Calls Tryz.prog 5 #[szv a0 b0 a1 b1 a2 b2] w fun e w' => e = .returned (.bool true) ∧ Below w.heap.size w w' := by
  have HM0 := Lib.hid (show Hp w [(w.heap.size, 25, [.int .i64 a0, .int .i64 b0, .int .i64 a1, .int .i64 b1, .int .i64 a2, .int .i64 b2])] (w.alloc (.cells #[.int .i64 a0, .int .i64 b0, .int .i64 a1, .int .i64 b1, .int .i64 a2, .int .i64 b2] 25)) from (Hp.start w).new 25 [.int .i64 a0, .int .i64 b0, .int .i64 a1, .int .i64 b1, .int .i64 a2, .int .i64 b2])
  have HT := Lib.hid ht
  have hra := fun W => lread_any a0 b0 a1 b1 a2 b2 W
  obtain ⟨xa, xb, xc, xd, hxv, _, _⟩ := rdV_form a0 b0 a1 b1 a2 b2
  rw [hxv] at hra
  obtain ⟨r1, hr1⟩ : ∃ r, r = ivE [(a0, b0), (a1, b1), (a2, b2)] := ⟨_, rfl⟩
  rw [← hr1] at hra h
  have hz2 : (r1 != 0) = true := by simpa using h
  have HRA := Lib.hid hra
  clear ht hra hxv hr1 h
  go_enter Tryz.func5, Tryz.ntmps5
  go_wp2_with fail
  refine (HRA.out _).mono ?_
  rintro e w1 ⟨rfl, hb⟩
  have HM1 := Lib.hid (show Hp w [(w.heap.size, 25, [.int .i64 a0, .int .i64 b0, .int .i64 a1, .int .i64 b1, .int .i64 a2, .int .i64 b2]), (w1.heap.size, 28, [.int .i64 xa, .int .i64 xb, .int .i64 xc, .int .i64 xd])] _ from (HM0.out.step hb).new 28 [.int .i64 xa, .int .i64 xb, .int .i64 xc, .int .i64 xd])
  clear hb HM0
  go_wp2_with fail
  refine (lknown_any _ (HT.out.below HM1.out.below)).mono ?_
  rintro e w2 ⟨rfl, hb⟩
  have HM2 := Lib.hid (show Hp w [(w.heap.size, 25, [.int .i64 a0, .int .i64 b0, .int .i64 a1, .int .i64 b1, .int .i64 a2, .int .i64 b2]), (w1.heap.size, 28, [.int .i64 xa, .int .i64 xb, .int .i64 xc, .int .i64 xd])] _ from (HM1.out.step hb))
  clear hb HM1
  go_wp2_with fail
  refine (lknown_any _ (HT.out.below HM2.out.below)).mono ?_
  rintro e w3 ⟨rfl, hb⟩
  have HM3 := Lib.hid (show Hp w [(w.heap.size, 25, [.int .i64 a0, .int .i64 b0, .int .i64 a1, .int .i64 b1, .int .i64 a2, .int .i64 b2]), (w1.heap.size, 28, [.int .i64 xa, .int .i64 xb, .int .i64 xc, .int .i64 xd])] _ from (HM2.out.step hb))
  clear hb HM2
  go_wp2
  go_ret
  exact ⟨rfl, HM3.out.below⟩
set_option maxRecDepth 100000 in
set_option maxHeartbeats 8000000 in
theorem lreduces_ok (a0 b0 a1 b1 a2 b2 : Int) (w : World) (ht : Tab w) (h1 : ivE [(a0, b0), (a1, b1), (a2, b2)] = 0) :
    Calls Tryz.prog 5 #[szv a0 b0 a1 b1 a2 b2] w fun e w' => e = .returned (.bool true) ∧ Below w.heap.size w w' := by
  have HM0 := Lib.hid (show Hp w [(w.heap.size, 25, [.int .i64 a0, .int .i64 b0, .int .i64 a1, .int .i64 b1, .int .i64 a2, .int .i64 b2])] (w.alloc (.cells #[.int .i64 a0, .int .i64 b0, .int .i64 a1, .int .i64 b1, .int .i64 a2, .int .i64 b2] 25)) from (Hp.start w).new 25 [.int .i64 a0, .int .i64 b0, .int .i64 a1, .int .i64 b1, .int .i64 a2, .int .i64 b2])
  have HT := Lib.hid ht
  have hra := fun W => lread_any a0 b0 a1 b1 a2 b2 W
  obtain ⟨x, y, z, D, hxv, hxp, _⟩ := rdV_form a0 b0 a1 b1 a2 b2
  rw [hxv, h1] at hra
  replace hxp := hxp h1
  have HRA := Lib.hid hra
  have HSH := Lib.hid (fun W => lshort_any x y z D W)
  by_cases hsh : shB x y z = true
  · have hb := hsh
    unfold shB at hb
    obtain ⟨hx, hy, hz⟩ := of_decide_eq_true hb
    clear hb
    rw [hsh] at HSH
    obtain ⟨hright, _⟩ := ivE_cases h1
    have r0 := hright (a0, b0) (by simp)
    have r1 := hright (a1, b1) (by simp)
    have r2 := hright (a2, b2) (by simp)
    obtain ⟨hD, _⟩ := prt_num hxp (right_mild hright)
    obtain ⟨q0, q1, q2⟩ := prt_rat hright hxp
    have hob := oc_bd hx hy hz hD
    have HR1 := Lib.hid (fun W hW => ireduce_any a0 b0 a1 b1 a2 b2 x y z D W hW h1 hxp)
    have HOC := Lib.hid (fun W hW => refoct_any x y z D W hW hx hy hz hD)
    have hrest := fun (x' y' z' D' : Int) (k : 1 ≤ D') => oc_rest (x := x) (y := y) (z := z) (D := D) (x' := x') (y' := y') (z' := z') (D' := D') hD.1 k
    obtain ⟨oc, hoc⟩ : ∃ oc, oc = ocZ x y z D := ⟨_, rfl⟩
    rw [← hoc] at HR1 HOC hob
    simp only [← hoc] at hrest
    have hocb : -6000 ≤ oc ∧ oc ≤ 6000 := by
      constructor
      · rcases Int.lt_or_le oc (-6000) with h' | h'
        · have := Int.mul_le_mul_of_nonneg_right (show oc ≤ -6001 by omega) (show 0 ≤ D by omega)
          have := Int.mul_le_mul_of_nonneg_left hD.1 (show (0:Int) ≤ 6001 by decide)
          omega
        · exact h'
      · rcases Int.lt_or_le 6000 oc with h' | h'
        · have := Int.mul_le_mul_of_nonneg_right (show 6001 ≤ oc by omega) (show 0 ≤ D by omega)
          have := Int.mul_le_mul_of_nonneg_left hD.1 (show (0:Int) ≤ 6001 by decide)
          omega
        · exact h'
    have had := fun W => radd_any x y z D oc 0 0 1 (-1) W (by omega) (by omega) (by omega) (by omega) (by omega) (by decide) (by decide) (by decide) (.inr rfl)
    have e0b : x * 1 + -1 * oc * D = x - oc * D := by rw [Int.neg_mul, Int.one_mul, Int.neg_mul]; omega
    have hrt := fun W => lright_any (x * 1 + -1 * oc * D) (y * 1 + -1 * 0 * D) (z * 1 + -1 * 0 * D) (D * 1) W ⟨by omega, by omega⟩ ⟨by omega, by omega⟩ ⟨by omega, by omega⟩ (by omega) (by omega)
    have hb0 : 0 < b0 * 1 := by have := r0.1; omega
    have k0 := low_cross (n := x * 1 + -1 * oc * D) (d := D * 1) (m := a0 * 1 - oc * b0) (e := b0 * 1) (by omega) hb0 (rd_cross q0)
    have k1 := low_cross (n := y * 1 + -1 * 0 * D) (d := D * 1) (m := a1) (e := b1) (by omega) r1.1 (rd_same q1)
    have k2 := low_cross (n := z * 1 + -1 * 0 * D) (d := D * 1) (m := a2) (e := b2) (by omega) r2.1 (rd_same q2)
    rw [(low_right r1).1, (low_right r1).2] at k1
    rw [(low_right r2).1, (low_right r2).2] at k2
    have hPQ : lowN (a0 * 1 - oc * b0) (b0 * 1) * D = (x - oc * D) * lowD (a0 * 1 - oc * b0) (b0 * 1) := by
      rw [← k0.1, ← k0.2, ← e0b]
      have := rd_low (n := x * 1 + -1 * oc * D) (M := D * 1) (by omega)
      rw [Int.mul_one D] at this ⊢
      exact this
    rw [k0.1, k0.2, k1.1, k1.2, k2.1, k2.2] at hrt
    obtain ⟨P, hP⟩ : ∃ P, P = lowN (a0 * 1 - oc * b0) (b0 * 1) := ⟨_, rfl⟩
    obtain ⟨Q, hQ⟩ : ∃ P, P = lowD (a0 * 1 - oc * b0) (b0 * 1) := ⟨_, rfl⟩
    rw [← hP, ← hQ] at hPQ hrt HR1
    obtain ⟨e0, he0⟩ : ∃ e, e = x * 1 + -1 * oc * D := ⟨_, rfl⟩
    obtain ⟨e1, he1⟩ : ∃ e, e = y * 1 + -1 * 0 * D := ⟨_, rfl⟩
    obtain ⟨e2, he2⟩ : ∃ e, e = z * 1 + -1 * 0 * D := ⟨_, rfl⟩
    obtain ⟨e3, he3⟩ : ∃ e, e = D * 1 := ⟨_, rfl⟩
    rw [← he0, ← he1, ← he2, ← he3] at had hrt
    have HAD := Lib.hid had
    by_cases hE : ivE [(P, Q), (a1, b1), (a2, b2)] = 0
    · have hr2 := HR1.out
      unfold rdR at hr2
      rw [if_pos hE] at hr2
      unfold ivR at hrt
      rw [if_pos hE] at hrt
      obtain ⟨x', y', z', D', _, hxp', _⟩ := rdV_form P Q a1 b1 a2 b2
      replace hxp' := hxp' hE
      obtain ⟨hright', _⟩ := ivE_cases hE
      have rP := hright' (P, Q) (by simp)
      obtain ⟨hD', _⟩ := prt_num hxp' (right_mild hright')
      obtain ⟨s0, s1, s2⟩ := prt_rat hright' hxp'
      have hz0 := hrest x' y' z' D' hD'.1 (rd_cancel rP.1 s0 hPQ) (rd_cancel r1.1 s1 q1.symm) (rd_cancel r2.1 s2 q2.symm)
      have hr3 := fun W hW => ireduce_any P Q a1 b1 a2 b2 x' y' z' D' W hW hE hxp'
      rw [hz0, show P * 1 - 0 * Q = P by omega, Int.mul_one Q, (low_right rP).1, (low_right rP).2] at hr3
      unfold rdR at hr3
      rw [if_pos hE] at hr3
      have HR2 := Lib.hid hr2
      have HR3 := Lib.hid hr3
      have HRT := Lib.hid hrt
      have heq1 := fun W => eql_size W P Q a1 b1 a2 b2 P Q a1 b1 a2 b2
      simp only [szB_self] at heq1
      have HEQ := Lib.hid heq1
      clear ht h1 hra hxv hxp hx hy hz hright r0 r1 r2 hD q0 q1 q2 hob hrest hoc hocb had e0b hrt hb0 k0 k1 k2 hPQ hP hQ he0 he1 he2 he3 hE hr2 hxp' hright' rP hD' s0 s1 s2 hz0 hr3 heq1 HR1 hsh
      go_enter Tryz.func5, Tryz.ntmps5
      go_wp2_with fail
      refine (HRA.out _).mono ?_
      rintro e w1 ⟨rfl, hb⟩
      have HM1 := Lib.hid (show Hp w [(w.heap.size, 25, [.int .i64 a0, .int .i64 b0, .int .i64 a1, .int .i64 b1, .int .i64 a2, .int .i64 b2]), (w1.heap.size, 28, [.int .i64 x, .int .i64 y, .int .i64 z, .int .i64 D])] _ from (HM0.out.step hb).new 28 [.int .i64 x, .int .i64 y, .int .i64 z, .int .i64 D])
      clear hb HM0
      go_wp2_with fail
      refine (lknown_any _ (HT.out.below HM1.out.below)).mono ?_
      rintro e w2 ⟨rfl, hb⟩
      have HM2 := Lib.hid (show Hp w [(w.heap.size, 25, [.int .i64 a0, .int .i64 b0, .int .i64 a1, .int .i64 b1, .int .i64 a2, .int .i64 b2]), (w1.heap.size, 28, [.int .i64 x, .int .i64 y, .int .i64 z, .int .i64 D])] _ from (HM1.out.step hb))
      obtain ⟨k0_0, k0_1, k0_2, k0_3⟩ := four_of (HM2.out.at_ 1 rfl)
      clear hb HM1
      go_wp2_with fail
      refine (HSH.out _).mono ?_
      rintro e w3 ⟨rfl, hb⟩
      have HM3 := Lib.hid (show Hp w [(w.heap.size, 25, [.int .i64 a0, .int .i64 b0, .int .i64 a1, .int .i64 b1, .int .i64 a2, .int .i64 b2]), (w1.heap.size, 28, [.int .i64 x, .int .i64 y, .int .i64 z, .int .i64 D])] _ from (HM2.out.step hb))
      obtain ⟨k1_0, k1_1, k1_2, k1_3, k1_4, k1_5⟩ := six_of (HM3.out.at_ 0 rfl)
      clear hb HM2 k0_0 k0_1 k0_2 k0_3
      go_wp2_with fail
      refine (HR2.out _ (HT.out.below HM3.out.below)).mono ?_
      rintro e w4 ⟨rfl, hb⟩
      obtain ⟨k2_0, k2_1, k2_2, k2_3⟩ := four_of ((HM3.out.step hb).at_ 1 rfl)
      have lt3 := ((HM3.out.step hb).at_ 1 rfl).lt
      have HM4 := Lib.hid (show Hp w [(w.heap.size, 25, [.int .i64 a0, .int .i64 b0, .int .i64 a1, .int .i64 b1, .int .i64 a2, .int .i64 b2]), (w1.heap.size, 28, [.int .i64 x, .int .i64 y, .int .i64 z, .int .i64 D]), (w4.heap.size, 25, [.int .i64 P, .int .i64 Q, .int .i64 a1, .int .i64 b1, .int .i64 a2, .int .i64 b2])] _ from (HM3.out.step hb).new 25 [.int .i64 P, .int .i64 Q, .int .i64 a1, .int .i64 b1, .int .i64 a2, .int .i64 b2])
      clear hb HM3 k1_0 k1_1 k1_2 k1_3 k1_4 k1_5
      go_wp2_with fail
      refine (HOC.out _ (HT.out.below HM4.out.below)).mono ?_
      rintro e w5 ⟨rfl, hb⟩
      have HM5 := Lib.hid (show Hp w [(w.heap.size, 25, [.int .i64 a0, .int .i64 b0, .int .i64 a1, .int .i64 b1, .int .i64 a2, .int .i64 b2]), (w1.heap.size, 28, [.int .i64 x, .int .i64 y, .int .i64 z, .int .i64 D]), (w4.heap.size, 25, [.int .i64 P, .int .i64 Q, .int .i64 a1, .int .i64 b1, .int .i64 a2, .int .i64 b2])] _ from (HM4.out.step hb))
      obtain ⟨k3_0, k3_1, k3_2, k3_3⟩ := four_of (HM5.out.at_ 1 rfl)
      clear hb HM4 k2_0 k2_1 k2_2 k2_3 lt3
      go_wp2_with fail
      refine (HAD.out _).mono ?_
      rintro e w6 ⟨rfl, hb⟩
      have HM6 := Lib.hid (show Hp w [(w.heap.size, 25, [.int .i64 a0, .int .i64 b0, .int .i64 a1, .int .i64 b1, .int .i64 a2, .int .i64 b2]), (w1.heap.size, 28, [.int .i64 x, .int .i64 y, .int .i64 z, .int .i64 D]), (w4.heap.size, 25, [.int .i64 P, .int .i64 Q, .int .i64 a1, .int .i64 b1, .int .i64 a2, .int .i64 b2])] _ from (HM5.out.step hb))
      clear hb HM5 k3_0 k3_1 k3_2 k3_3
      go_wp2_with fail
      refine (HRT.out _).mono ?_
      rintro e w7 ⟨rfl, hb⟩
      obtain ⟨k4_0, k4_1, k4_2, k4_3, k4_4, k4_5⟩ := six_of ((HM6.out.step hb).at_ 2 rfl)
      have lt5 := ((HM6.out.step hb).at_ 2 rfl).lt
      have HM7 := Lib.hid (show Hp w [(w.heap.size, 25, [.int .i64 a0, .int .i64 b0, .int .i64 a1, .int .i64 b1, .int .i64 a2, .int .i64 b2]), (w1.heap.size, 28, [.int .i64 x, .int .i64 y, .int .i64 z, .int .i64 D]), (w4.heap.size, 25, [.int .i64 P, .int .i64 Q, .int .i64 a1, .int .i64 b1, .int .i64 a2, .int .i64 b2]), (w7.heap.size, 25, [.int .i64 P, .int .i64 Q, .int .i64 a1, .int .i64 b1, .int .i64 a2, .int .i64 b2])] _ from (HM6.out.step hb).new 25 [.int .i64 P, .int .i64 Q, .int .i64 a1, .int .i64 b1, .int .i64 a2, .int .i64 b2])
      clear hb HM6
      go_wp2_with fail
      refine (HR3.out _ (HT.out.below HM7.out.below)).mono ?_
      rintro e w8 ⟨rfl, hb⟩
      obtain ⟨k5_0, k5_1, k5_2, k5_3, k5_4, k5_5⟩ := six_of ((HM7.out.step hb).at_ 2 rfl)
      have lt6 := ((HM7.out.step hb).at_ 2 rfl).lt
      obtain ⟨k6_0, k6_1, k6_2, k6_3, k6_4, k6_5⟩ := six_of ((HM7.out.step hb).at_ 3 rfl)
      have lt7 := ((HM7.out.step hb).at_ 3 rfl).lt
      have HM8 := Lib.hid (show Hp w [(w.heap.size, 25, [.int .i64 a0, .int .i64 b0, .int .i64 a1, .int .i64 b1, .int .i64 a2, .int .i64 b2]), (w1.heap.size, 28, [.int .i64 x, .int .i64 y, .int .i64 z, .int .i64 D]), (w4.heap.size, 25, [.int .i64 P, .int .i64 Q, .int .i64 a1, .int .i64 b1, .int .i64 a2, .int .i64 b2]), (w7.heap.size, 25, [.int .i64 P, .int .i64 Q, .int .i64 a1, .int .i64 b1, .int .i64 a2, .int .i64 b2]), (w8.heap.size, 25, [.int .i64 P, .int .i64 Q, .int .i64 a1, .int .i64 b1, .int .i64 a2, .int .i64 b2])] _ from (HM7.out.step hb).new 25 [.int .i64 P, .int .i64 Q, .int .i64 a1, .int .i64 b1, .int .i64 a2, .int .i64 b2])
      clear hb HM7 k4_0 k4_1 k4_2 k4_3 k4_4 k4_5 lt5
      have heq1 := HEQ.out
      go_wp2
      go_ret
      exact ⟨rfl, HM8.out.below⟩
    · have hr2 := HR1.out
      unfold rdR at hr2
      rw [if_neg hE] at hr2
      unfold ivR at hrt
      rw [if_neg hE] at hrt
      have HR2 := Lib.hid hr2
      have HRT := Lib.hid hrt
      have heq1 := fun W => eql_size W 0 0 0 0 0 0 0 0 0 0 0 0
      simp only [szB_self] at heq1
      have HEQ := Lib.hid heq1
      clear ht h1 hra hxv hxp hx hy hz hright r0 r1 r2 hD q0 q1 q2 hob hrest hoc hocb had e0b hrt hb0 k0 k1 k2 hPQ hP hQ he0 he1 he2 he3 hE hr2 heq1 HR1 hsh
      go_enter Tryz.func5, Tryz.ntmps5
      go_wp2_with fail
      refine (HRA.out _).mono ?_
      rintro e w1 ⟨rfl, hb⟩
      have HM1 := Lib.hid (show Hp w [(w.heap.size, 25, [.int .i64 a0, .int .i64 b0, .int .i64 a1, .int .i64 b1, .int .i64 a2, .int .i64 b2]), (w1.heap.size, 28, [.int .i64 x, .int .i64 y, .int .i64 z, .int .i64 D])] _ from (HM0.out.step hb).new 28 [.int .i64 x, .int .i64 y, .int .i64 z, .int .i64 D])
      clear hb HM0
      go_wp2_with fail
      refine (lknown_any _ (HT.out.below HM1.out.below)).mono ?_
      rintro e w2 ⟨rfl, hb⟩
      have HM2 := Lib.hid (show Hp w [(w.heap.size, 25, [.int .i64 a0, .int .i64 b0, .int .i64 a1, .int .i64 b1, .int .i64 a2, .int .i64 b2]), (w1.heap.size, 28, [.int .i64 x, .int .i64 y, .int .i64 z, .int .i64 D])] _ from (HM1.out.step hb))
      obtain ⟨k0_0, k0_1, k0_2, k0_3⟩ := four_of (HM2.out.at_ 1 rfl)
      clear hb HM1
      go_wp2_with fail
      refine (HSH.out _).mono ?_
      rintro e w3 ⟨rfl, hb⟩
      have HM3 := Lib.hid (show Hp w [(w.heap.size, 25, [.int .i64 a0, .int .i64 b0, .int .i64 a1, .int .i64 b1, .int .i64 a2, .int .i64 b2]), (w1.heap.size, 28, [.int .i64 x, .int .i64 y, .int .i64 z, .int .i64 D])] _ from (HM2.out.step hb))
      obtain ⟨k1_0, k1_1, k1_2, k1_3, k1_4, k1_5⟩ := six_of (HM3.out.at_ 0 rfl)
      clear hb HM2 k0_0 k0_1 k0_2 k0_3
      go_wp2_with fail
      refine (HR2.out _ (HT.out.below HM3.out.below)).mono ?_
      rintro e w4 ⟨rfl, hb⟩
      obtain ⟨k2_0, k2_1, k2_2, k2_3⟩ := four_of ((HM3.out.step hb).at_ 1 rfl)
      have lt3 := ((HM3.out.step hb).at_ 1 rfl).lt
      have HM4 := Lib.hid (show Hp w [(w.heap.size, 25, [.int .i64 a0, .int .i64 b0, .int .i64 a1, .int .i64 b1, .int .i64 a2, .int .i64 b2]), (w1.heap.size, 28, [.int .i64 x, .int .i64 y, .int .i64 z, .int .i64 D]), (w4.heap.size, 25, [.int .i64 0, .int .i64 0, .int .i64 0, .int .i64 0, .int .i64 0, .int .i64 0])] _ from (HM3.out.step hb).new 25 [.int .i64 0, .int .i64 0, .int .i64 0, .int .i64 0, .int .i64 0, .int .i64 0])
      clear hb HM3 k1_0 k1_1 k1_2 k1_3 k1_4 k1_5
      go_wp2_with fail
      refine (HOC.out _ (HT.out.below HM4.out.below)).mono ?_
      rintro e w5 ⟨rfl, hb⟩
      have HM5 := Lib.hid (show Hp w [(w.heap.size, 25, [.int .i64 a0, .int .i64 b0, .int .i64 a1, .int .i64 b1, .int .i64 a2, .int .i64 b2]), (w1.heap.size, 28, [.int .i64 x, .int .i64 y, .int .i64 z, .int .i64 D]), (w4.heap.size, 25, [.int .i64 0, .int .i64 0, .int .i64 0, .int .i64 0, .int .i64 0, .int .i64 0])] _ from (HM4.out.step hb))
      obtain ⟨k3_0, k3_1, k3_2, k3_3⟩ := four_of (HM5.out.at_ 1 rfl)
      clear hb HM4 k2_0 k2_1 k2_2 k2_3 lt3
      go_wp2_with fail
      refine (HAD.out _).mono ?_
      rintro e w6 ⟨rfl, hb⟩
      have HM6 := Lib.hid (show Hp w [(w.heap.size, 25, [.int .i64 a0, .int .i64 b0, .int .i64 a1, .int .i64 b1, .int .i64 a2, .int .i64 b2]), (w1.heap.size, 28, [.int .i64 x, .int .i64 y, .int .i64 z, .int .i64 D]), (w4.heap.size, 25, [.int .i64 0, .int .i64 0, .int .i64 0, .int .i64 0, .int .i64 0, .int .i64 0])] _ from (HM5.out.step hb))
      clear hb HM5 k3_0 k3_1 k3_2 k3_3
      go_wp2_with fail
      refine (HRT.out _).mono ?_
      rintro e w7 ⟨rfl, hb⟩
      obtain ⟨k4_0, k4_1, k4_2, k4_3, k4_4, k4_5⟩ := six_of ((HM6.out.step hb).at_ 2 rfl)
      have lt5 := ((HM6.out.step hb).at_ 2 rfl).lt
      have HM7 := Lib.hid (show Hp w [(w.heap.size, 25, [.int .i64 a0, .int .i64 b0, .int .i64 a1, .int .i64 b1, .int .i64 a2, .int .i64 b2]), (w1.heap.size, 28, [.int .i64 x, .int .i64 y, .int .i64 z, .int .i64 D]), (w4.heap.size, 25, [.int .i64 0, .int .i64 0, .int .i64 0, .int .i64 0, .int .i64 0, .int .i64 0]), (w7.heap.size, 25, [.int .i64 0, .int .i64 0, .int .i64 0, .int .i64 0, .int .i64 0, .int .i64 0])] _ from (HM6.out.step hb).new 25 [.int .i64 0, .int .i64 0, .int .i64 0, .int .i64 0, .int .i64 0, .int .i64 0])
      clear hb HM6
      have heq1 := HEQ.out
      go_wp2
      go_ret
      exact ⟨rfl, HM7.out.below⟩
  · have hsf : shB x y z = false := by simpa using hsh
    rw [hsf] at HSH
    clear ht h1 hra hxv hxp hsh hsf
    go_enter Tryz.func5, Tryz.ntmps5
    go_wp2_with fail
    refine (HRA.out _).mono ?_
    rintro e w1 ⟨rfl, hb⟩
    have HM1 := Lib.hid (show Hp w [(w.heap.size, 25, [.int .i64 a0, .int .i64 b0, .int .i64 a1, .int .i64 b1, .int .i64 a2, .int .i64 b2]), (w1.heap.size, 28, [.int .i64 x, .int .i64 y, .int .i64 z, .int .i64 D])] _ from (HM0.out.step hb).new 28 [.int .i64 x, .int .i64 y, .int .i64 z, .int .i64 D])
    clear hb HM0
    go_wp2_with fail
    refine (lknown_any _ (HT.out.below HM1.out.below)).mono ?_
    rintro e w2 ⟨rfl, hb⟩
    have HM2 := Lib.hid (show Hp w [(w.heap.size, 25, [.int .i64 a0, .int .i64 b0, .int .i64 a1, .int .i64 b1, .int .i64 a2, .int .i64 b2]), (w1.heap.size, 28, [.int .i64 x, .int .i64 y, .int .i64 z, .int .i64 D])] _ from (HM1.out.step hb))
    obtain ⟨k0_0, k0_1, k0_2, k0_3⟩ := four_of (HM2.out.at_ 1 rfl)
    clear hb HM1
    go_wp2_with fail
    refine (HSH.out _).mono ?_
    rintro e w3 ⟨rfl, hb⟩
    have HM3 := Lib.hid (show Hp w [(w.heap.size, 25, [.int .i64 a0, .int .i64 b0, .int .i64 a1, .int .i64 b1, .int .i64 a2, .int .i64 b2]), (w1.heap.size, 28, [.int .i64 x, .int .i64 y, .int .i64 z, .int .i64 D])] _ from (HM2.out.step hb))
    clear hb HM2 k0_0 k0_1 k0_2 k0_3
    go_wp2_with fail
    refine (lknown_any _ (HT.out.below HM3.out.below)).mono ?_
    rintro e w4 ⟨rfl, hb⟩
    have HM4 := Lib.hid (show Hp w [(w.heap.size, 25, [.int .i64 a0, .int .i64 b0, .int .i64 a1, .int .i64 b1, .int .i64 a2, .int .i64 b2]), (w1.heap.size, 28, [.int .i64 x, .int .i64 y, .int .i64 z, .int .i64 D])] _ from (HM3.out.step hb))
    clear hb HM3
    go_wp2
    go_ret
    exact ⟨rfl, HM4.out.below⟩
theorem lreduces_any (a0 b0 a1 b1 a2 b2 : Int) (w : World) (ht : Tab w) :
    Calls Tryz.prog 5 #[szv a0 b0 a1 b1 a2 b2] w fun e w' => e = .returned (.bool true) ∧ Below w.heap.size w w' := by
  by_cases h : ivE [(a0, b0), (a1, b1), (a2, b2)] = 0
  · exact lreduces_ok a0 b0 a1 b1 a2 b2 w ht h
  · exact lreduces_err a0 b0 a1 b1 a2 b2 w ht h
end
end Go.Proofs.YtplonkeipdbchaaGreatDoor
