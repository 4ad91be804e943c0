/- Package bombarderef05: Ratio. Conditions: both numbers are from 1 to 2 to the 62. Printed by genrefratio.py. -/
import Derived.Test.YtplonkeipdbchaaDoorRefRead
import Derived.Test.YtplonkeipdbchaaDoorIvRatio
namespace Go.Proofs.YtplonkeipdbchaaDoor
open Go.RowKit

/-- What an inner loop of Ratio carries. -/
def RrIn (w : World) (f : Int → List (Nat × TypeId × List Value)) (s : Nat → Int) (P : Nat → Nat → Prop) (u : Value) (W : World) : Prop := ∃ c r : Nat, u = .int .i64 (r : Int) ∧ P c r ∧ Hp w (f (s c)) W
/-- What the outer loop carries. -/
def RrRel (w : World) (n d : Nat) (u v i : Value) (W : World) : Prop :=
  ∃ k rn rd a0 b0 a1 b1 a2 b2 : Nat, k ≤ 3 ∧ i = .int .i64 (k : Int) ∧ u = .int .i64 (rn : Int) ∧ v = .int .i64 (rd : Int) ∧ (Fac n a0 a1 a2 rn ∧ Fac d b0 b1 b2 rd) ∧ ((k = 0 → a0 = 0 ∧ b0 = 0) ∧ (k ≤ 1 → a1 = 0 ∧ b1 = 0) ∧ (k ≤ 2 → a2 = 0 ∧ b2 = 0)) ∧
    ((0 < k → rn % 2 ≠ 0 ∧ rd % 2 ≠ 0) ∧ (1 < k → rn % 3 ≠ 0 ∧ rd % 3 ≠ 0) ∧ (2 < k → rn % 5 ≠ 0 ∧ rd % 5 ≠ 0)) ∧ Hp w [(w.heap.size, 34, [.int .i64 0, .int .i64 0, .int .i64 0, .int .i64 0]), (w.heap.size + 1, 34, [.int .i64 ((a0 : Int) - b0), .int .i64 ((a1 : Int) - b1), .int .i64 ((a2 : Int) - b2), .int .i64 1]), (w.heap.size + 1 + 1, 22, [.int .i64 2, .int .i64 3, .int .i64 5])] W
/-- What Ratio returns. -/
def RrRet (n d : Nat) (w : World) (e : Ending) (w' : World) : Prop :=
  (∃ rn rd a0 b0 a1 b1 a2 b2 : Nat, (Fac n a0 a1 a2 rn ∧ Fac d b0 b1 b2 rd) ∧ (rn % 2 ≠ 0 ∧ rd % 2 ≠ 0) ∧ (rn % 3 ≠ 0 ∧ rd % 3 ≠ 0) ∧ (rn % 5 ≠ 0 ∧ rd % 5 ≠ 0) ∧
    e = .returned (.tuple #[ovv ((a0 : Int) - b0) ((a1 : Int) - b1) ((a2 : Int) - b2) 1, .bool (decide (rn = 1 ∧ rd = 1))])) ∧ Below w.heap.size w w'
theorem fac_div0 {n a b c r q : Nat} (h : Fac n a b c r) (hr : r = 2 * q) : Fac n (a + 1) b c q := ⟨by rw [h.eq, hr, Nat.pow_succ]; simp [Nat.mul_assoc, Nat.mul_left_comm]⟩
theorem fac_div1 {n a b c r q : Nat} (h : Fac n a b c r) (hr : r = 3 * q) : Fac n a (b + 1) c q := ⟨by rw [h.eq, hr, Nat.pow_succ]; simp [Nat.mul_assoc, Nat.mul_left_comm]⟩
theorem fac_div2 {n a b c r q : Nat} (h : Fac n a b c r) (hr : r = 5 * q) : Fac n a b (c + 1) q := ⟨by rw [h.eq, hr, Nat.pow_succ]; simp [Nat.mul_assoc, Nat.mul_left_comm]⟩
theorem keep_mod {p q r m : Nat} (hr : r = p * q) (h : r % m ≠ 0) : q % m ≠ 0 := fun e => h (by rw [hr]; exact Nat.mod_eq_zero_of_dvd (Nat.dvd_trans (Nat.dvd_of_mod_eq_zero e) (Nat.dvd_mul_left _ _)))

set_option maxRecDepth 100000 in
set_option maxHeartbeats 16000000 in
theorem refratio_any (n d : Nat) (w : World) (hn : 1 ≤ n) (hn2 : n ≤ 4611686018427387904) (hd : 1 ≤ d) (hd2 : d ≤ 4611686018427387904) :
    Calls Tryd.prog 16 #[.int .i64 (n : Int), .int .i64 (d : Int)] w (RrRet (n / Nat.gcd n d) (d / Nat.gcd n d) w) := by
  obtain ⟨g, hg⟩ : ∃ g, g = Nat.gcd n d := ⟨_, rfl⟩
  have hgp : 0 < g := by rw [hg]; exact Nat.gcd_pos_of_pos_left _ (by omega)
  have hgn : g ≤ n := by rw [hg]; exact Nat.gcd_le_left _ (by omega)
  have hgd : g ≤ d := by rw [hg]; exact Nat.gcd_le_right _ (by omega)
  have hgc := fun W => divisor_any (n : Int) (d : Int) W (by omega) (by omega) (by omega) (by omega)
  rw [Int.natAbs_natCast, Int.natAbs_natCast, ← hg] at hgc
  rw [← hg]
  obtain ⟨n', hn'⟩ : ∃ m, m = n / g := ⟨_, rfl⟩
  obtain ⟨d', hd'⟩ : ∃ m, m = d / g := ⟨_, rfl⟩
  have hni : (n : Int) / (g : Int) = (n' : Int) := by rw [hn']; exact (Int.natCast_ediv n g).symm
  have hdi : (d : Int) / (g : Int) = (d' : Int) := by rw [hd']; exact (Int.natCast_ediv d g).symm
  have n1 : 1 ≤ n' := by rw [hn']; exact Nat.div_pos hgn hgp
  have d1 : 1 ≤ d' := by rw [hd']; exact Nat.div_pos hgd hgp
  have n2 : n' ≤ 4611686018427387904 := by rw [hn']; exact Nat.le_trans (Nat.div_le_self _ _) hn2
  have d2 : d' ≤ 4611686018427387904 := by rw [hd']; exact Nat.le_trans (Nat.div_le_self _ _) hd2
  have hw1 : IntKind.i64.wrap ((n : Int).tdiv g) = (n' : Int) := by rw [Int.tdiv_eq_ediv_of_nonneg (by omega), hni]; exact IntWalk.i64_in _ (by omega)
  have hw2 : IntKind.i64.wrap ((d : Int).tdiv g) = (d' : Int) := by rw [Int.tdiv_eq_ediv_of_nonneg (by omega), hdi]; exact IntWalk.i64_in _ (by omega)
  have hgz : ((g : Int) == 0) = false := by rw [beq_eq_false_iff_ne]; omega
  have HW := Lib.hid (And.intro (And.intro hw1 hw2) (And.intro hni hdi))
  have HGC := Lib.hid hgc
  rw [← hn', ← hd']
  clear hgc hw1 hw2 hni hdi hn' hd' hg
  go_enter Tryd.func16, Tryd.ntmps16
  go_wp2_with fail
  refine (HGC.out _).mono ?_
  rintro e w1 ⟨rfl, kk, rfl⟩
  obtain ⟨⟨hw1, hw2⟩, hw3, hw4⟩ := HW.out
  go_upto_region 3 with fail
  go_quiet (fail)
  clear hw1 hw2 hw3 hw4 HW HGC hgz hgp hgn hgd
  have hM0 : Hp w [(w.heap.size, 34, [.int .i64 0, .int .i64 0, .int .i64 0, .int .i64 0]), (w.heap.size + 1, 34, [.int .i64 (0), .int .i64 (0), .int .i64 (0), .int .i64 1]), (w.heap.size + 1 + 1, 22, [.int .i64 2, .int .i64 3, .int .i64 5])] (((((w.alloc (.cells #[.int .i64 0, .int .i64 0, .int .i64 0, .int .i64 0] 34)).drewN kk).alloc (.cells #[.int .i64 0, .int .i64 0, .int .i64 0, .int .i64 1] 34)).drewN nq).alloc (.cells #[.int .i64 2, .int .i64 3, .int .i64 5] 22)) := by
    have h := (((((Hp.start w).new 34 [.int .i64 0, .int .i64 0, .int .i64 0, .int .i64 0]).drewN kk).new 34 [.int .i64 0, .int .i64 0, .int .i64 0, .int .i64 1]).drewN nq).new 22 [.int .i64 2, .int .i64 3, .int .i64 5]
    simp only [World.size_alloc, World.heap_drewN] at h
    exact h
  have HM0 := Lib.hid hM0
  clear hM0
  go_wp2_with fail
  go_loopw [0, 1, 9] (fun u v i wr => RrRel w n' d' u v i wr) (fun _ _ i _ => 3 - (intOf i).toNat)
  case atStart => exact ⟨0, n', d', 0, 0, 0, 0, 0, 0, by omega, rfl, rfl, rfl, ⟨⟨by simp⟩, ⟨by simp⟩⟩, ⟨fun _ => ⟨rfl, rfl⟩, fun _ => ⟨rfl, rfl⟩, fun _ => ⟨rfl, rfl⟩⟩, ⟨fun h => absurd h (by decide), fun h => absurd h (by decide), fun h => absurd h (by decide)⟩, (by simpa only [Int.sub_self] using HM0.out)⟩
  case round =>
    clear HM0
    obtain ⟨k, rn, rd, a0, b0, a1, b1, a2, b2, hk, rfl, rfl, rfl, ⟨hfn, hfd⟩, hz, hmod, hm⟩ := hrel
    have HFN := Lib.hid hfn
    have HFD := Lib.hid hfd
    have HZ := Lib.hid hz
    have HMOD := Lib.hid hmod
    have HM := Lib.hid hm
    clear hfn hfd hz hmod hm
    by_cases hlt : k < 3
    · rcases (show k = 0 ∨ k = 1 ∨ k = 2 by omega) with rfl | rfl | rfl
      · obtain ⟨rfl, rfl⟩ : a0 = 0 ∧ b0 = 0 := HZ.out.1 rfl
        go_wp2_with fail
        go_loopw [0] (fun u wx => RrIn w (fun x => [(w.heap.size, 34, [.int .i64 0, .int .i64 0, .int .i64 0, .int .i64 0]), (w.heap.size + 1, 34, [.int .i64 (x), .int .i64 ((a1 : Int) - b1), .int .i64 ((a2 : Int) - b2), .int .i64 1]), (w.heap.size + 1 + 1, 22, [.int .i64 2, .int .i64 3, .int .i64 5])]) (fun c => (c : Int)) (fun c r => Fac n' c a1 a2 r) u wx) (fun u _ => (intOf u).toNat)
        case atStart => exact ⟨0, rn, rfl, HFN.out, HM.out⟩
        case round =>
          clear HM
          obtain ⟨c, r, rfl, hP, hm⟩ := hrel
          have HM := Lib.hid hm
          have HP := Lib.hid hP
          obtain ⟨r1, r2⟩ := fac_le HP.out n1
          obtain ⟨c0, c1, c2⟩ := fac_bd HP.out n1 n2
          have v0 := (HM.out.at_ 2 rfl).cell 0
          clear hm hP
          by_cases h0 : r % 2 = 0
          · have hmz : (((r : Int) % 2) == 0) = true := by rw [beq_iff_eq]; omega
            obtain ⟨q, hq⟩ : ∃ q : Nat, q = r / 2 := ⟨_, rfl⟩
            have hrq : r = 2 * q := by omega
            have hqr : q < r := by omega
            have hqi : (r : Int) / 2 = (q : Int) := by omega
            have hqw : IntKind.i64.wrap ((r : Int).tdiv 2) = (q : Int) := by rw [Int.tdiv_eq_ediv_of_nonneg (by omega), hqi]; exact IntWalk.i64_in _ (by omega)
            have hcw : IntKind.i64.wrap ((c : Int) + 1) = ((c + 1 : Nat) : Int) := by rw [IntWalk.i64_in _ (by omega)]; omega
            have HN := Lib.hid (show (fun c r => Fac n' c a1 a2 r) (c + 1) q from fac_div0 HP.out hrq)
            have HQ := Lib.hid (And.intro hqi (And.intro hqw hcw))
            have HQR := Lib.hid hqr
            clear hq hrq h0 hqi hqw hcw hqr c0 c1 c2
            go_upto_region 9 with fail
            obtain ⟨hqi, hqw, hcw⟩ := HQ.out
            have u0 := (HM.out.at_ 1 rfl).cell 0
            have f0 := (HM.out.at_ 1 rfl).frozen 0
            clear hmz
            go_region
            all_goals
              clear hqi hqw hcw u0 f0 v0
              go_wp2
              go_roundw
              case rel => exact ⟨c + 1, q, rfl, HN.out, (HM.out.put 1 rfl 0 (.int .i64 ((c + 1 : Nat) : Int))).drew⟩
              case measure => have := HQR.out; simp [intOf]; omega
          · have hmz : (((r : Int) % 2) == 0) = false := by
              rw [beq_eq_false_iff_ne]; omega
            have HNZ := Lib.hid h0
            clear h0 c0 c1 c2
            go_wp2_with fail
            clear v0 hmz
            go_loopw [1] (fun u wx => RrIn w (fun x => [(w.heap.size, 34, [.int .i64 0, .int .i64 0, .int .i64 0, .int .i64 0]), (w.heap.size + 1, 34, [.int .i64 (x), .int .i64 ((a1 : Int) - b1), .int .i64 ((a2 : Int) - b2), .int .i64 1]), (w.heap.size + 1 + 1, 22, [.int .i64 2, .int .i64 3, .int .i64 5])]) (fun c' => (c : Int) - (c' : Int)) (fun c' r => Fac d' c' b1 b2 r) u wx) (fun u _ => (intOf u).toNat)
            case atStart => exact ⟨0, rd, rfl, HFD.out, (by simpa only [Int.natCast_zero, Int.sub_zero] using HM.out)⟩
            case round =>
              clear HM
              obtain ⟨y, z, rfl, hP2, hm⟩ := hrel
              have HM := Lib.hid hm
              have HP2 := Lib.hid hP2
              obtain ⟨z1, z2⟩ := fac_le HP2.out d1
              obtain ⟨y0, y1, y2⟩ := fac_bd HP2.out d1 d2
              obtain ⟨c0, c1, c2⟩ := fac_bd HP.out n1 n2
              have v0 := (HM.out.at_ 2 rfl).cell 0
              clear hm hP2
              by_cases h0 : z % 2 = 0
              · have hmz : (((z : Int) % 2) == 0) = true := by rw [beq_iff_eq]; omega
                obtain ⟨q, hq⟩ : ∃ q : Nat, q = z / 2 := ⟨_, rfl⟩
                have hrq : z = 2 * q := by omega
                have hqr : q < z := by omega
                have hqi : (z : Int) / 2 = (q : Int) := by omega
                have hqw : IntKind.i64.wrap ((z : Int).tdiv 2) = (q : Int) := by rw [Int.tdiv_eq_ediv_of_nonneg (by omega), hqi]; exact IntWalk.i64_in _ (by omega)
                have hcw : IntKind.i64.wrap ((c : Int) - (y : Int) - 1) = (c : Int) - ((y + 1 : Nat) : Int) := by rw [IntWalk.i64_in _ (by omega)]; omega
                have HN := Lib.hid (show (fun c' r => Fac d' c' b1 b2 r) (y + 1) q from fac_div0 HP2.out hrq)
                have HQ := Lib.hid (And.intro hqi (And.intro hqw hcw))
                have HQR := Lib.hid hqr
                clear hq hrq h0 hqi hqw hcw hqr c0 c1 c2 y0 y1 y2
                go_upto_region 11 with fail
                obtain ⟨hqi, hqw, hcw⟩ := HQ.out
                have u0 := (HM.out.at_ 1 rfl).cell 0
                have f0 := (HM.out.at_ 1 rfl).frozen 0
                clear hmz
                go_region
                all_goals
                  clear hqi hqw hcw u0 f0 v0
                  go_wp2
                  go_roundw
                  case rel => exact ⟨y + 1, q, rfl, HN.out, (HM.out.put 1 rfl 0 (.int .i64 ((c : Int) - ((y + 1 : Nat) : Int)))).drew⟩
                  case measure => have := HQR.out; simp [intOf]; omega
              · have hmz : (((z : Int) % 2) == 0) = false := by
                  rw [beq_eq_false_iff_ne]; omega
                have HNZ2 := Lib.hid h0
                clear h0 c0 c1 c2 y0 y1 y2
                have hrl : RrRel w n' d' (.int .i64 (r : Int)) (.int .i64 (z : Int)) (.int .i64 ((0 + 1 : Nat) : Int)) wr := ⟨0 + 1, r, z, c, y, a1, b1, a2, b2, by omega, rfl, rfl, rfl, ⟨HP.out, HP2.out⟩, ⟨fun h => absurd h (by decide), fun _ => HZ.out.2.1 (by decide), fun _ => HZ.out.2.2 (by decide)⟩, ⟨fun _ => ⟨HNZ.out, HNZ2.out⟩, fun h => absurd h (by decide), fun h => absurd h (by decide)⟩, HM.out⟩
                have HRL := Lib.hid hrl
                clear hrl
                go_wp2
                go_roundw
                case rel =>
                  first | exact HRL.out | ((repeat apply Exists.intro); exact ⟨HRL.out, rfl⟩)
                case measure => simp [intOf]
      · obtain ⟨rfl, rfl⟩ : a1 = 0 ∧ b1 = 0 := HZ.out.2.1 (by decide)
        go_wp2_with fail
        go_loopw [0] (fun u wx => RrIn w (fun x => [(w.heap.size, 34, [.int .i64 0, .int .i64 0, .int .i64 0, .int .i64 0]), (w.heap.size + 1, 34, [.int .i64 ((a0 : Int) - b0), .int .i64 (x), .int .i64 ((a2 : Int) - b2), .int .i64 1]), (w.heap.size + 1 + 1, 22, [.int .i64 2, .int .i64 3, .int .i64 5])]) (fun c => (c : Int)) (fun c r => Fac n' a0 c a2 r ∧ r % 2 ≠ 0) u wx) (fun u _ => (intOf u).toNat)
        case atStart => exact ⟨0, rn, rfl, ⟨HFN.out, (HMOD.out.1 (by decide)).1⟩, HM.out⟩
        case round =>
          clear HM
          obtain ⟨c, r, rfl, hP, hm⟩ := hrel
          have HM := Lib.hid hm
          have HP := Lib.hid hP
          obtain ⟨r1, r2⟩ := fac_le HP.out.1 n1
          obtain ⟨c0, c1, c2⟩ := fac_bd HP.out.1 n1 n2
          have v0 := (HM.out.at_ 2 rfl).cell 1
          clear hm hP
          by_cases h0 : r % 3 = 0
          · have hmz : (((r : Int) % 3) == 0) = true := by rw [beq_iff_eq]; omega
            obtain ⟨q, hq⟩ : ∃ q : Nat, q = r / 3 := ⟨_, rfl⟩
            have hrq : r = 3 * q := by omega
            have hqr : q < r := by omega
            have hqi : (r : Int) / 3 = (q : Int) := by omega
            have hqw : IntKind.i64.wrap ((r : Int).tdiv 3) = (q : Int) := by rw [Int.tdiv_eq_ediv_of_nonneg (by omega), hqi]; exact IntWalk.i64_in _ (by omega)
            have hcw : IntKind.i64.wrap ((c : Int) + 1) = ((c + 1 : Nat) : Int) := by rw [IntWalk.i64_in _ (by omega)]; omega
            have HN := Lib.hid (show (fun c r => Fac n' a0 c a2 r ∧ r % 2 ≠ 0) (c + 1) q from ⟨fac_div1 HP.out.1 hrq, keep_mod hrq HP.out.2⟩)
            have HQ := Lib.hid (And.intro hqi (And.intro hqw hcw))
            have HQR := Lib.hid hqr
            clear hq hrq h0 hqi hqw hcw hqr c0 c1 c2
            go_upto_region 9 with fail
            obtain ⟨hqi, hqw, hcw⟩ := HQ.out
            have u0 := (HM.out.at_ 1 rfl).cell 1
            have f0 := (HM.out.at_ 1 rfl).frozen 1
            clear hmz
            go_region
            all_goals
              clear hqi hqw hcw u0 f0 v0
              go_wp2
              go_roundw
              case rel => exact ⟨c + 1, q, rfl, HN.out, (HM.out.put 1 rfl 1 (.int .i64 ((c + 1 : Nat) : Int))).drew⟩
              case measure => have := HQR.out; simp [intOf]; omega
          · have hmz : (((r : Int) % 3) == 0) = false := by
              rw [beq_eq_false_iff_ne]; omega
            have HNZ := Lib.hid h0
            clear h0 c0 c1 c2
            go_wp2_with fail
            clear v0 hmz
            go_loopw [1] (fun u wx => RrIn w (fun x => [(w.heap.size, 34, [.int .i64 0, .int .i64 0, .int .i64 0, .int .i64 0]), (w.heap.size + 1, 34, [.int .i64 ((a0 : Int) - b0), .int .i64 (x), .int .i64 ((a2 : Int) - b2), .int .i64 1]), (w.heap.size + 1 + 1, 22, [.int .i64 2, .int .i64 3, .int .i64 5])]) (fun c' => (c : Int) - (c' : Int)) (fun c' r => Fac d' b0 c' b2 r ∧ r % 2 ≠ 0) u wx) (fun u _ => (intOf u).toNat)
            case atStart => exact ⟨0, rd, rfl, ⟨HFD.out, (HMOD.out.1 (by decide)).2⟩, (by simpa only [Int.natCast_zero, Int.sub_zero] using HM.out)⟩
            case round =>
              clear HM
              obtain ⟨y, z, rfl, hP2, hm⟩ := hrel
              have HM := Lib.hid hm
              have HP2 := Lib.hid hP2
              obtain ⟨z1, z2⟩ := fac_le HP2.out.1 d1
              obtain ⟨y0, y1, y2⟩ := fac_bd HP2.out.1 d1 d2
              obtain ⟨c0, c1, c2⟩ := fac_bd HP.out.1 n1 n2
              have v0 := (HM.out.at_ 2 rfl).cell 1
              clear hm hP2
              by_cases h0 : z % 3 = 0
              · have hmz : (((z : Int) % 3) == 0) = true := by rw [beq_iff_eq]; omega
                obtain ⟨q, hq⟩ : ∃ q : Nat, q = z / 3 := ⟨_, rfl⟩
                have hrq : z = 3 * q := by omega
                have hqr : q < z := by omega
                have hqi : (z : Int) / 3 = (q : Int) := by omega
                have hqw : IntKind.i64.wrap ((z : Int).tdiv 3) = (q : Int) := by rw [Int.tdiv_eq_ediv_of_nonneg (by omega), hqi]; exact IntWalk.i64_in _ (by omega)
                have hcw : IntKind.i64.wrap ((c : Int) - (y : Int) - 1) = (c : Int) - ((y + 1 : Nat) : Int) := by rw [IntWalk.i64_in _ (by omega)]; omega
                have HN := Lib.hid (show (fun c' r => Fac d' b0 c' b2 r ∧ r % 2 ≠ 0) (y + 1) q from ⟨fac_div1 HP2.out.1 hrq, keep_mod hrq HP2.out.2⟩)
                have HQ := Lib.hid (And.intro hqi (And.intro hqw hcw))
                have HQR := Lib.hid hqr
                clear hq hrq h0 hqi hqw hcw hqr c0 c1 c2 y0 y1 y2
                go_upto_region 11 with fail
                obtain ⟨hqi, hqw, hcw⟩ := HQ.out
                have u0 := (HM.out.at_ 1 rfl).cell 1
                have f0 := (HM.out.at_ 1 rfl).frozen 1
                clear hmz
                go_region
                all_goals
                  clear hqi hqw hcw u0 f0 v0
                  go_wp2
                  go_roundw
                  case rel => exact ⟨y + 1, q, rfl, HN.out, (HM.out.put 1 rfl 1 (.int .i64 ((c : Int) - ((y + 1 : Nat) : Int)))).drew⟩
                  case measure => have := HQR.out; simp [intOf]; omega
              · have hmz : (((z : Int) % 3) == 0) = false := by
                  rw [beq_eq_false_iff_ne]; omega
                have HNZ2 := Lib.hid h0
                clear h0 c0 c1 c2 y0 y1 y2
                have hrl : RrRel w n' d' (.int .i64 (r : Int)) (.int .i64 (z : Int)) (.int .i64 ((1 + 1 : Nat) : Int)) wr := ⟨1 + 1, r, z, a0, b0, c, y, a2, b2, by omega, rfl, rfl, rfl, ⟨HP.out.1, HP2.out.1⟩, ⟨fun h => absurd h (by decide), fun h => absurd h (by decide), fun _ => HZ.out.2.2 (by decide)⟩, ⟨fun _ => ⟨HP.out.2, HP2.out.2⟩, fun _ => ⟨HNZ.out, HNZ2.out⟩, fun h => absurd h (by decide)⟩, HM.out⟩
                have HRL := Lib.hid hrl
                clear hrl
                go_wp2
                go_roundw
                case rel =>
                  first | exact HRL.out | ((repeat apply Exists.intro); exact ⟨HRL.out, rfl⟩)
                case measure => simp [intOf]
      · obtain ⟨rfl, rfl⟩ : a2 = 0 ∧ b2 = 0 := HZ.out.2.2 (by decide)
        go_wp2_with fail
        go_loopw [0] (fun u wx => RrIn w (fun x => [(w.heap.size, 34, [.int .i64 0, .int .i64 0, .int .i64 0, .int .i64 0]), (w.heap.size + 1, 34, [.int .i64 ((a0 : Int) - b0), .int .i64 ((a1 : Int) - b1), .int .i64 (x), .int .i64 1]), (w.heap.size + 1 + 1, 22, [.int .i64 2, .int .i64 3, .int .i64 5])]) (fun c => (c : Int)) (fun c r => Fac n' a0 a1 c r ∧ r % 2 ≠ 0 ∧ r % 3 ≠ 0) u wx) (fun u _ => (intOf u).toNat)
        case atStart => exact ⟨0, rn, rfl, ⟨HFN.out, (HMOD.out.1 (by decide)).1, (HMOD.out.2.1 (by decide)).1⟩, HM.out⟩
        case round =>
          clear HM
          obtain ⟨c, r, rfl, hP, hm⟩ := hrel
          have HM := Lib.hid hm
          have HP := Lib.hid hP
          obtain ⟨r1, r2⟩ := fac_le HP.out.1 n1
          obtain ⟨c0, c1, c2⟩ := fac_bd HP.out.1 n1 n2
          have v0 := (HM.out.at_ 2 rfl).cell 2
          clear hm hP
          by_cases h0 : r % 5 = 0
          · have hmz : (((r : Int) % 5) == 0) = true := by rw [beq_iff_eq]; omega
            obtain ⟨q, hq⟩ : ∃ q : Nat, q = r / 5 := ⟨_, rfl⟩
            have hrq : r = 5 * q := by omega
            have hqr : q < r := by omega
            have hqi : (r : Int) / 5 = (q : Int) := by omega
            have hqw : IntKind.i64.wrap ((r : Int).tdiv 5) = (q : Int) := by rw [Int.tdiv_eq_ediv_of_nonneg (by omega), hqi]; exact IntWalk.i64_in _ (by omega)
            have hcw : IntKind.i64.wrap ((c : Int) + 1) = ((c + 1 : Nat) : Int) := by rw [IntWalk.i64_in _ (by omega)]; omega
            have HN := Lib.hid (show (fun c r => Fac n' a0 a1 c r ∧ r % 2 ≠ 0 ∧ r % 3 ≠ 0) (c + 1) q from ⟨fac_div2 HP.out.1 hrq, keep_mod hrq HP.out.2.1, keep_mod hrq HP.out.2.2⟩)
            have HQ := Lib.hid (And.intro hqi (And.intro hqw hcw))
            have HQR := Lib.hid hqr
            clear hq hrq h0 hqi hqw hcw hqr c0 c1 c2
            go_upto_region 9 with fail
            obtain ⟨hqi, hqw, hcw⟩ := HQ.out
            have u0 := (HM.out.at_ 1 rfl).cell 2
            have f0 := (HM.out.at_ 1 rfl).frozen 2
            clear hmz
            go_region
            all_goals
              clear hqi hqw hcw u0 f0 v0
              go_wp2
              go_roundw
              case rel => exact ⟨c + 1, q, rfl, HN.out, (HM.out.put 1 rfl 2 (.int .i64 ((c + 1 : Nat) : Int))).drew⟩
              case measure => have := HQR.out; simp [intOf]; omega
          · have hmz : (((r : Int) % 5) == 0) = false := by
              rw [beq_eq_false_iff_ne]; omega
            have HNZ := Lib.hid h0
            clear h0 c0 c1 c2
            go_wp2_with fail
            clear v0 hmz
            go_loopw [1] (fun u wx => RrIn w (fun x => [(w.heap.size, 34, [.int .i64 0, .int .i64 0, .int .i64 0, .int .i64 0]), (w.heap.size + 1, 34, [.int .i64 ((a0 : Int) - b0), .int .i64 ((a1 : Int) - b1), .int .i64 (x), .int .i64 1]), (w.heap.size + 1 + 1, 22, [.int .i64 2, .int .i64 3, .int .i64 5])]) (fun c' => (c : Int) - (c' : Int)) (fun c' r => Fac d' b0 b1 c' r ∧ r % 2 ≠ 0 ∧ r % 3 ≠ 0) u wx) (fun u _ => (intOf u).toNat)
            case atStart => exact ⟨0, rd, rfl, ⟨HFD.out, (HMOD.out.1 (by decide)).2, (HMOD.out.2.1 (by decide)).2⟩, (by simpa only [Int.natCast_zero, Int.sub_zero] using HM.out)⟩
            case round =>
              clear HM
              obtain ⟨y, z, rfl, hP2, hm⟩ := hrel
              have HM := Lib.hid hm
              have HP2 := Lib.hid hP2
              obtain ⟨z1, z2⟩ := fac_le HP2.out.1 d1
              obtain ⟨y0, y1, y2⟩ := fac_bd HP2.out.1 d1 d2
              obtain ⟨c0, c1, c2⟩ := fac_bd HP.out.1 n1 n2
              have v0 := (HM.out.at_ 2 rfl).cell 2
              clear hm hP2
              by_cases h0 : z % 5 = 0
              · have hmz : (((z : Int) % 5) == 0) = true := by rw [beq_iff_eq]; omega
                obtain ⟨q, hq⟩ : ∃ q : Nat, q = z / 5 := ⟨_, rfl⟩
                have hrq : z = 5 * q := by omega
                have hqr : q < z := by omega
                have hqi : (z : Int) / 5 = (q : Int) := by omega
                have hqw : IntKind.i64.wrap ((z : Int).tdiv 5) = (q : Int) := by rw [Int.tdiv_eq_ediv_of_nonneg (by omega), hqi]; exact IntWalk.i64_in _ (by omega)
                have hcw : IntKind.i64.wrap ((c : Int) - (y : Int) - 1) = (c : Int) - ((y + 1 : Nat) : Int) := by rw [IntWalk.i64_in _ (by omega)]; omega
                have HN := Lib.hid (show (fun c' r => Fac d' b0 b1 c' r ∧ r % 2 ≠ 0 ∧ r % 3 ≠ 0) (y + 1) q from ⟨fac_div2 HP2.out.1 hrq, keep_mod hrq HP2.out.2.1, keep_mod hrq HP2.out.2.2⟩)
                have HQ := Lib.hid (And.intro hqi (And.intro hqw hcw))
                have HQR := Lib.hid hqr
                clear hq hrq h0 hqi hqw hcw hqr c0 c1 c2 y0 y1 y2
                go_upto_region 11 with fail
                obtain ⟨hqi, hqw, hcw⟩ := HQ.out
                have u0 := (HM.out.at_ 1 rfl).cell 2
                have f0 := (HM.out.at_ 1 rfl).frozen 2
                clear hmz
                go_region
                all_goals
                  clear hqi hqw hcw u0 f0 v0
                  go_wp2
                  go_roundw
                  case rel => exact ⟨y + 1, q, rfl, HN.out, (HM.out.put 1 rfl 2 (.int .i64 ((c : Int) - ((y + 1 : Nat) : Int)))).drew⟩
                  case measure => have := HQR.out; simp [intOf]; omega
              · have hmz : (((z : Int) % 5) == 0) = false := by
                  rw [beq_eq_false_iff_ne]; omega
                have HNZ2 := Lib.hid h0
                clear h0 c0 c1 c2 y0 y1 y2
                have hrl : RrRel w n' d' (.int .i64 (r : Int)) (.int .i64 (z : Int)) (.int .i64 ((2 + 1 : Nat) : Int)) wr := ⟨2 + 1, r, z, a0, b0, a1, b1, c, y, by omega, rfl, rfl, rfl, ⟨HP.out.1, HP2.out.1⟩, ⟨fun h => absurd h (by decide), fun h => absurd h (by decide), fun h => absurd h (by decide)⟩, ⟨fun _ => ⟨HP.out.2.1, HP2.out.2.1⟩, fun _ => ⟨HP.out.2.2, HP2.out.2.2⟩, fun _ => ⟨HNZ.out, HNZ2.out⟩⟩, HM.out⟩
                have HRL := Lib.hid hrl
                clear hrl
                go_wp2
                go_roundw
                case rel =>
                  first | exact HRL.out | ((repeat apply Exists.intro); exact ⟨HRL.out, rfl⟩)
                case measure => simp [intOf]
    · obtain rfl : k = 3 := by omega
      have HFIN := Lib.hid (show ∀ W, Below w.heap.size w W → ∀ e, e = .returned (.tuple #[ovv ((a0 : Int) - b0) ((a1 : Int) - b1) ((a2 : Int) - b2) 1, .bool (decide (rn = 1 ∧ rd = 1))]) → RrRet n' d' w e W from fun W hW e he => ⟨⟨rn, rd, a0, b0, a1, b1, a2, b2, ⟨HFN.out, HFD.out⟩, HMOD.out.1 (by decide), HMOD.out.2.1 (by decide), HMOD.out.2.2 (by decide), he⟩, hW⟩)
      obtain ⟨x0, hx0⟩ : ∃ x, x = (a0 : Int) - b0 := ⟨_, rfl⟩
      obtain ⟨x1, hx1⟩ : ∃ x, x = (a1 : Int) - b1 := ⟨_, rfl⟩
      obtain ⟨x2, hx2⟩ : ∃ x, x = (a2 : Int) - b2 := ⟨_, rfl⟩
      rw [← hx0, ← hx1, ← hx2] at HM HFIN
      clear hx0 hx1 hx2 HFN HFD HZ HMOD hlt hk
      obtain ⟨u0, u1, u2, u3⟩ := four_of (HM.out.at_ 1 rfl)
      obtain ⟨e0, e1, e2, e3⟩ := four_of (HM.out.at_ 0 rfl)
      obtain ⟨f0, f1, f2, f3⟩ := four_free (HM.out.at_ 0 rfl)
      by_cases h1 : rn = 1
      · by_cases h2 : rd = 1
        · have t1 : ((rn : Int) == 1) = true := by rw [beq_iff_eq]; omega
          have t2 : ((rd : Int) == 1) = true := by rw [beq_iff_eq]; omega
          have HD := Lib.hid (decide_eq_true (⟨h1, h2⟩ : rn = 1 ∧ rd = 1))
          clear h1 h2
          go_wp2
          obtain ⟨WZ, hWZ⟩ : ∃ WZ, WZ = ((((wr.setCell ⟨w.heap.size, 0, none⟩ (.int .i64 x0)).setCell ⟨w.heap.size, 1, none⟩ (.int .i64 x1)).setCell ⟨w.heap.size, 2, none⟩ (.int .i64 x2)).setCell ⟨w.heap.size, 3, none⟩ (.int .i64 1)) := ⟨_, rfl⟩
          have hz := HM.out.put4 0 rfl (.int .i64 x0) (.int .i64 x1) (.int .i64 x2) (.int .i64 1)
          rw [← hWZ] at hz ⊢
          obtain ⟨g0, g1, g2, g3⟩ := four_of (hz.at_ 0 rfl)
          exact bodyPost_ret (v := .tuple #[ovv x0 x1 x2 1, .bool true]) (by simp [g0, g1, g2, g3, results, Tryd.results16, go_sem]) rfl (HFIN.out _ hz.below _ (by rw [HD.out]))
        · have t1 : ((rn : Int) == 1) = true := by rw [beq_iff_eq]; omega
          have t2 : ((rd : Int) == 1) = false := by rw [beq_eq_false_iff_ne]; omega
          have HD := Lib.hid (decide_eq_false (fun h => h2 h.2 : ¬ (rn = 1 ∧ rd = 1)))
          clear h1 h2
          go_wp2
          obtain ⟨WZ, hWZ⟩ : ∃ WZ, WZ = ((((wr.setCell ⟨w.heap.size, 0, none⟩ (.int .i64 x0)).setCell ⟨w.heap.size, 1, none⟩ (.int .i64 x1)).setCell ⟨w.heap.size, 2, none⟩ (.int .i64 x2)).setCell ⟨w.heap.size, 3, none⟩ (.int .i64 1)) := ⟨_, rfl⟩
          have hz := HM.out.put4 0 rfl (.int .i64 x0) (.int .i64 x1) (.int .i64 x2) (.int .i64 1)
          rw [← hWZ] at hz ⊢
          obtain ⟨g0, g1, g2, g3⟩ := four_of (hz.at_ 0 rfl)
          exact bodyPost_ret (v := .tuple #[ovv x0 x1 x2 1, .bool false]) (by simp [g0, g1, g2, g3, results, Tryd.results16, go_sem]) rfl (HFIN.out _ hz.below _ (by rw [HD.out]))
      · have t1 : ((rn : Int) == 1) = false := by rw [beq_eq_false_iff_ne]; omega
        have HD := Lib.hid (decide_eq_false (fun h => h1 h.1 : ¬ (rn = 1 ∧ rd = 1)))
        clear h1
        go_wp2
        obtain ⟨WZ, hWZ⟩ : ∃ WZ, WZ = ((((wr.setCell ⟨w.heap.size, 0, none⟩ (.int .i64 x0)).setCell ⟨w.heap.size, 1, none⟩ (.int .i64 x1)).setCell ⟨w.heap.size, 2, none⟩ (.int .i64 x2)).setCell ⟨w.heap.size, 3, none⟩ (.int .i64 1)) := ⟨_, rfl⟩
        have hz := HM.out.put4 0 rfl (.int .i64 x0) (.int .i64 x1) (.int .i64 x2) (.int .i64 1)
        rw [← hWZ] at hz ⊢
        obtain ⟨g0, g1, g2, g3⟩ := four_of (hz.at_ 0 rfl)
        exact bodyPost_ret (v := .tuple #[ovv x0 x1 x2 1, .bool false]) (by simp [g0, g1, g2, g3, results, Tryd.results16, go_sem]) rfl (HFIN.out _ hz.below _ (by rw [HD.out]))
end Go.Proofs.YtplonkeipdbchaaDoor
