/- Package pitch: shift of right feet on other right feet. Conditions: both are right feet; the library's table of powers of ten reads as its text lays it. -/
import Derived.Test.YtkamepalomkpbaaGreatDoorPitch
import Derived.Test.YtkamepalomkpbaaGreatDoorPower
import Derived.Lib.TrimByte
namespace Go.Proofs.YtkamepalomkpbaaGreatDoor
open Go.RowKit

theorem dec_two : dec 2 = ⟨#[50]⟩ := by
  unfold dec
  rw [show Lib.itoa 2 = [50] by rw [show (2 : Int) = ((2 : Nat) : Int) from rfl, Lib.itoa_nonneg, Lib.decDigits_one (by decide)]; rfl]
theorem dec_four : dec 4 = ⟨#[52]⟩ := by
  unfold dec
  rw [show Lib.itoa 4 = [52] by rw [show (4 : Int) = ((4 : Nat) : Int) from rfl, Lib.itoa_nonneg, Lib.decDigits_one (by decide)]; rfl]
theorem digits_pow24 {x : Nat} (h : x ≤ 10000000) : Lib.nDigits (x ^ 24) ≤ 169 := by
  refine nDigits_le _ _ (by decide) ?_
  have h1 : x ^ 24 ≤ (10 ^ 7) ^ 24 := Nat.pow_le_pow_left h 24
  rw [← Nat.pow_mul] at h1
  refine Nat.lt_of_le_of_lt h1 (Nat.pow_lt_pow_right (by decide) (by decide))
theorem digits_limit {x j : Nat} (h : x ≤ 10000000) (hj : j ≤ 14) : Lib.nDigits (2 * (x ^ 24 * 4 ^ j)) ≤ 180 := by
  refine nDigits_le _ _ (by decide) ?_
  have h1 : x ^ 24 ≤ (10 ^ 7) ^ 24 := Nat.pow_le_pow_left h 24
  rw [← Nat.pow_mul] at h1
  have h2 : (4 : Nat) ^ j ≤ 4 ^ 14 := Nat.pow_le_pow_right (by decide) hj
  have h3 : x ^ 24 * 4 ^ j ≤ 10 ^ (7 * 24) * 10 ^ 9 := Nat.mul_le_mul h1 (Nat.le_trans h2 (by decide))
  rw [← Nat.pow_add] at h3
  have h4 : 2 * 10 ^ (7 * 24 + 9) < 10 ^ 180 := by
    rw [show (180 : Nat) = (7 * 24 + 9) + 3 from rfl, Nat.pow_add 10 _ 3]
    have : 0 < 10 ^ (7 * 24 + 9) := Nat.pow_pos (by decide)
    omega
  omega

theorem pow24_any (x : Nat) (w : World) (ht : Tab w) (hx : x ≤ 10000000) :
    Calls Tryz.prog 56 #[.string (dec (x : Int)), .int .i64 24] w fun e w' => e = .returned (.tuple #[.string (dec ((x ^ 24 : Nat) : Int)), .int .i64 0]) ∧ Below w.heap.size w w' := by
  have h8 : Lib.nDigits (x : Int).natAbs ≤ 8 := nDigits_le _ _ (by decide) (by show x < 10 ^ 8; omega)
  have := power_any (x : Int) 24 w ht (by omega) (by omega) (by omega)
  rw [Int.natCast_pow]
  exact this
theorem mul2_any (x : Nat) (w : World) (ht : Tab w) (hx : Lib.nDigits x ≤ 500000) :
    Calls Tryz.prog 58 #[.string (dec (x : Int)), .string ⟨#[50]⟩] w fun e w' => e = .returned (.string (dec ((2 * x : Nat) : Int))) ∧ Below w.heap.size w w' := by
  have := mul_any (x : Int) 2 w ht (by simpa using hx) (Nat.le_trans (nDigits_le _ 1 (by decide) (by decide)) (by decide))
  rw [dec_two] at this
  rw [show ((2 * x : Nat) : Int) = (x : Int) * 2 by omega]
  exact this
theorem mul4_any (x : Nat) (w : World) (ht : Tab w) (hx : Lib.nDigits x ≤ 500000) :
    Calls Tryz.prog 58 #[.string (dec (x : Int)), .string ⟨#[52]⟩] w fun e w' => e = .returned (.string (dec ((4 * x : Nat) : Int))) ∧ Below w.heap.size w w' := by
  have := mul_any (x : Int) 4 w ht (by simpa using hx) (Nat.le_trans (nDigits_le _ 1 (by decide) (by decide)) (by decide))
  rw [dec_four] at this
  rw [show ((4 * x : Nat) : Int) = (x : Int) * 4 by omega]
  exact this

/-- A call returns a shift of the quotient, and nothing that was there has turned. -/
def RetShift (N D : Nat) (w : World) (e : Ending) (w' : World) : Prop := ∃ s : Int, IsShift N D s ∧ -300 ≤ s ∧ s ≤ 600 ∧ e = .returned (.int .i64 s) ∧ Below w.heap.size w w'

set_option maxRecDepth 100000 in
set_option maxHeartbeats 2000000 in
theorem shift_any (fn fd gn gd : Nat) (w : World) (ht : Tab w) (hf : PR fn fd) (hg : PR gn gd) :
    Calls Tryz.prog 53 #[.agg #[.int .i64 fn, .int .i64 fd], .agg #[.int .i64 gn, .int .i64 gd]] w (RetShift (gn * fd) (gd * fn) w) := by
  obtain ⟨⟨f0, _, _, _, _⟩, f1, f2, f3⟩ := hf
  obtain ⟨⟨g0, _, _, _, _⟩, g1, g2, g3⟩ := hg
  obtain ⟨N, hN⟩ : ∃ N, N = gn * fd := ⟨_, rfl⟩
  obtain ⟨D, hD⟩ : ∃ D, D = gd * fn := ⟨_, rfl⟩
  rw [← hN, ← hD]
  have hN0 : 0 < N := by rw [hN]; exact Nat.mul_pos (by omega) (by omega)
  have hD0 : 0 < D := by rw [hD]; exact Nat.mul_pos (by omega) (by omega)
  have hN1 : N ≤ 2097152 := by rw [hN]; exact Nat.le_trans (Nat.mul_le_mul (show gn ≤ 16384 by omega) (show fd ≤ 128 by omega)) (by decide)
  have hD1 : D ≤ 2097152 := by rw [hD]; exact Nat.le_trans (Nat.mul_le_mul (show gd ≤ 128 by omega) (show fn ≤ 16384 by omega)) (by decide)
  have hNi : (gn : Int) * (fd : Int) = (N : Int) := by rw [hN]; simp
  have hDi : (gd : Int) * (fn : Int) = (D : Int) := by rw [hD]; simp
  have hwN : IntKind.i64.wrap ((gn : Int) * (fd : Int)) = (N : Int) := by rw [hNi, IntWalk.i64_in _ (by omega)]
  have hwD : IntKind.i64.wrap ((gd : Int) * (fn : Int)) = (D : Int) := by rw [hDi, IntWalk.i64_in _ (by omega)]
  have HWN := Lib.hid hwN
  have HWD := Lib.hid hwD
  clear hN hD hNi hDi hwN hwD f0 f1 f2 f3 g0 g1 g2 g3
  go_enter Tryz.func53, Tryz.ntmps53
  go_wp2
  have hwN := HWN.out
  have hwD := HWD.out
  go_quiet (fail)
  clear hwN hwD HWN HWD
  go_wp2
  obtain ⟨w1, hw1⟩ : ∃ w1, w1 = ((w.alloc (Obj.cells #[Value.int IntKind.i64 ↑fn, Value.int IntKind.i64 ↑fd] 47)).alloc (Obj.cells #[Value.int IntKind.i64 ↑gn, Value.int IntKind.i64 ↑gd] 47)).drewN nq := ⟨_, rfl⟩
  rw [← hw1]
  have hb1 : Below w.heap.size w w1 := by rw [hw1]; exact bw_drewN (bw_new (bw_new (Below.refl _ _) _) _) _
  have ht1 := ht.below hb1
  have HB1 := Lib.hid hb1
  clear hw1 hb1 ht
  go_loop [5, 7] (fun u v => ∃ (x k : Nat) (n : Int), u = .int .i64 x ∧ v = .int .i64 n ∧ 0 < x ∧ x ≤ 4194304 ∧ n = -12 * (k : Int) ∧ k ≤ 22 ∧ Lib.Kept (2 ^ k ≤ x) ∧ ShiftInv N D x D n) (fun u _ => D - (intOf u).toNat)
  case atStart => exact ⟨N, 0, 0, rfl, rfl, hN0, by omega, by omega, by omega, (show (2 : Nat) ^ 0 ≤ N by rw [Nat.pow_zero]; omega), ShiftInv.start N D⟩
  case round =>
    obtain ⟨x, k, n, rfl, rfl, hx0, hx1, hn, hk, hpw, hinv⟩ := hrel
    have HPW := Lib.hid hpw
    have HI := Lib.hid hinv
    have hn0 : -264 ≤ n := by omega
    have hn1 : n ≤ 0 := by omega
    have HNK := Lib.hid hn
    clear hpw hinv hn
    by_cases hlt : x < D
    · have hk1 : k + 1 ≤ 22 := by
        have h1 : 2 ^ k ≤ x := HPW.out
        rcases Nat.lt_or_ge k 22 with h | h
        · exact h
        · have h2 : (2 : Nat) ^ 22 ≤ 2 ^ k := Nat.pow_le_pow_right (by decide) h
          have h3 : (2 : Nat) ^ 22 = 4194304 := by decide
          omega
      have hp2 : Lib.Kept (2 ^ (k + 1) ≤ 2 * x) := by
        have h1 : 2 ^ k ≤ x := HPW.out
        show 2 ^ (k + 1) ≤ 2 * x
        rw [Nat.pow_succ]; omega
      go_wp2
      go_round
      case rel => exact ⟨2 * x, k + 1, n - 12, by congr 1; omega, rfl, by omega, by omega, by have := HNK.out; omega, hk1, hp2, HI.out.up⟩
      case measure => simp [intOf]; omega
    · have hDx : D ≤ x := by omega
      go_wp2_with fail
      obtain ⟨xn, hxn⟩ : ∃ xn, xn = x := ⟨_, rfl⟩
      go_loop [6, 7] (fun u v => ∃ (y k : Nat) (m : Int), u = .int .i64 y ∧ v = .int .i64 m ∧ 0 < y ∧ y ≤ x ∧ m = n + 12 * (k : Int) ∧ k ≤ 22 ∧ Lib.Kept (2 ^ k ≤ y) ∧ ShiftInv N D x y m) (fun u _ => x - (intOf u).toNat)
      case atStart => exact ⟨D, 0, n, rfl, rfl, hD0, hDx, by omega, by omega, (show (2 : Nat) ^ 0 ≤ D by rw [Nat.pow_zero]; omega), HI.out⟩
      case round =>
        obtain ⟨y, k2, m, rfl, rfl, hy0, hy1, hm, hk2, hpw2, hinv2⟩ := hrel
        have HPW2 := Lib.hid hpw2
        have HI2 := Lib.hid hinv2
        have hm0 : -264 ≤ m := by omega
        have hm1 : m ≤ 264 := by omega
        have HNK2 := Lib.hid hm
        clear hpw2 hinv2 hm
        by_cases hge : 2 * y ≤ x
        · have hk3 : k2 + 1 ≤ 22 := by
            have h1 : 2 ^ k2 ≤ y := HPW2.out
            rcases Nat.lt_or_ge k2 22 with h | h
            · exact h
            · have h2 : (2 : Nat) ^ 22 ≤ 2 ^ k2 := Nat.pow_le_pow_right (by decide) h
              have h3 : (2 : Nat) ^ 22 = 4194304 := by decide
              omega
          have hp3 : Lib.Kept (2 ^ (k2 + 1) ≤ 2 * y) := by
            have h1 : 2 ^ k2 ≤ y := HPW2.out
            show 2 ^ (k2 + 1) ≤ 2 * y
            rw [Nat.pow_succ]; omega
          go_wp2
          go_round
          case rel => exact ⟨2 * y, k2 + 1, m + 12, by congr 1; omega, rfl, by omega, by omega, by have := HNK2.out; omega, hk3, hp3, HI2.out.down⟩
          case measure => simp [intOf]; omega
        · have hlt2 : x < 2 * y := by omega
          have hyB : y ≤ 10000000 := by omega
          have hxB : x ≤ 10000000 := by omega
          have hend : ∀ j : Nat, y ≤ x → (j = 0 ∨ 2 * (y ^ 24 * 4 ^ (j - 1)) < x ^ 24) → x ^ 24 ≤ 2 * (y ^ 24 * 4 ^ j) → IsShift N D ((j : Int) + m) := fun j h1 h2 h3 => HI2.out _ (count_end hy0 h1 h2 h3)
          have hcb := count_bound hlt2
          have HEND := Lib.hid hend
          have HCB := Lib.hid hcb
          obtain ⟨xs, hxs⟩ : ∃ xs, xs = dec ((x ^ 24 : Nat) : Int) := ⟨_, rfl⟩
          obtain ⟨ys, hys⟩ : ∃ ys, ys = dec ((y ^ 24 : Nat) : Int) := ⟨_, rfl⟩
          obtain ⟨l0, hl0⟩ : ∃ l0, l0 = dec ((2 * y ^ 24 : Nat) : Int) := ⟨_, rfl⟩
          have hpx := fun W h => pow24_any x W h hxB
          have hpy := fun W h => pow24_any y W h hyB
          have hm2 := fun W h => mul2_any (y ^ 24) W h (Nat.le_trans (digits_pow24 hyB) (by decide))
          rw [← hxs] at hpx
          rw [← hys] at hpy hm2
          rw [← hl0] at hm2
          have HPX := Lib.hid hpx
          have HPY := Lib.hid hpy
          have HM2 := Lib.hid hm2
          have HXS := Lib.hid hxs
          have HL0 := Lib.hid hl0
          clear hpx hpy hm2 hxs hys hl0
          clear hend hcb hge hlt HPW HPW2 HI HI2 HNK HNK2
          go_wp2_with fail
          refine (of_any (x : Int) (by omega) (by omega) _ ht1).mono ?_
          rintro e w2 ⟨rfl, hb2⟩
          have ht2 := ht1.below hb2
          go_wp2_with fail
          refine (HPX.out _ ht2).mono ?_
          rintro e w3 ⟨rfl, hb3⟩
          have ht3 := ht2.below hb3
          go_wp2_with fail
          refine (of_any (y : Int) (by omega) (by omega) _ ht3).mono ?_
          rintro e w4 ⟨rfl, hb4⟩
          have ht4 := ht3.below hb4
          go_wp2_with fail
          refine (HPY.out _ ht4).mono ?_
          rintro e w5 ⟨rfl, hb5⟩
          have ht5 := ht4.below hb5
          go_wp2_with fail
          refine (HM2.out _ ht5).mono ?_
          rintro e w6 ⟨rfl, hb6⟩
          have ht6 := ht5.below hb6
          have hb := ((((HB1.out.trans (hb2.mono HB1.out.size)).trans (hb3.mono (Nat.le_trans HB1.out.size hb2.size))).trans (hb4.mono (Nat.le_trans HB1.out.size (Nat.le_trans hb2.size hb3.size)))).trans (hb5.mono (Nat.le_trans HB1.out.size (Nat.le_trans hb2.size (Nat.le_trans hb3.size hb4.size))))).trans (hb6.mono (Nat.le_trans HB1.out.size (Nat.le_trans hb2.size (Nat.le_trans hb3.size (Nat.le_trans hb4.size hb5.size)))))
          have HB6 := Lib.hid hb
          have HT6 := Lib.hid ht6
          clear hb2 hb3 hb4 hb5 hb6 hb ht2 ht3 ht4 ht5 ht6 ht1
          go_wp2_with fail
          go_loopw [7, 12] (fun u v wr => ∃ (j : Nat) (ls : ByteArray), u = .int .i64 (m + (j : Int)) ∧ v = .string ls ∧ Lib.Kept (ls = dec ((2 * (y ^ 24 * 4 ^ j) : Nat) : Int)) ∧ j ≤ 12 ∧ Lib.Kept (j = 0 ∨ 2 * (y ^ 24 * 4 ^ (j - 1)) < x ^ 24) ∧ Tab wr ∧ Below w.heap.size w wr)
            (fun u _ _ => (m + 12 - intOf u).toNat)
          case atStart => exact ⟨0, _, by simp, rfl, (by show l0 = dec _; rw [Nat.pow_zero, Nat.mul_one]; exact HL0.out), by omega, Or.inl rfl, HT6.out, HB6.out⟩
          case round =>
            obtain ⟨j, ls, rfl, rfl, hls, hj, hor, htw, hbw⟩ := hrel
            have HLS : Hid (ls = dec ((2 * (y ^ 24 * 4 ^ j) : Nat) : Int)) := hls
            have HOR : Hid (j = 0 ∨ 2 * (y ^ 24 * 4 ^ (j - 1)) < x ^ 24) := hor
            have HBW := Lib.hid hbw
            have hcmp : ∀ W, Calls Tryz.prog 59 #[.string xs, .string ls] W fun e w' => e = .returned (.int .i64 (sgn (((x ^ 24 : Nat) : Int) - ((2 * (y ^ 24 * 4 ^ j) : Nat) : Int)))) ∧ W = w' := fun W => by
              rw [HXS.out, HLS.out]
              exact compare_any _ _ W (by rw [Int.natAbs_natCast]; exact Nat.le_trans (digits_pow24 hxB) (by decide)) (by rw [Int.natAbs_natCast]; exact Nat.le_trans (digits_limit hyB (by omega)) (by decide))
            obtain ⟨l2, hl2⟩ : ∃ l2, l2 = dec ((2 * (y ^ 24 * 4 ^ (j + 1)) : Nat) : Int) := ⟨_, rfl⟩
            have HL2 := Lib.hid hl2
            have hmul : ∀ W, Tab W → Calls Tryz.prog 58 #[.string ls, .string ⟨#[52]⟩] W fun e w' => e = .returned (.string l2) ∧ Below W.heap.size W w' := fun W hW => by
              have := mul4_any (2 * (y ^ 24 * 4 ^ j)) W hW (Nat.le_trans (digits_limit hyB (by omega)) (by decide))
              rw [HLS.out, hl2]
              rw [show 2 * (y ^ 24 * 4 ^ (j + 1)) = 4 * (2 * (y ^ 24 * 4 ^ j)) by rw [show (4 : Nat) ^ (j + 1) = 4 ^ j * 4 from Nat.pow_succ ..]; ac_rfl]
              exact this
            have HCMP := Lib.hid hcmp
            have HMUL := Lib.hid hmul
            clear hls hor hbw hcmp hmul hl2
            by_cases hgt : 2 * (y ^ 24 * 4 ^ j) < x ^ 24
            · have hs : sgn (((x ^ 24 : Nat) : Int) - ((2 * (y ^ 24 * 4 ^ j) : Nat) : Int)) = 1 := sgn_pos (by omega)
              have hj12 : j < 12 := by
                rcases Nat.lt_or_ge j 12 with h | h
                · exact h
                · have e : j = 12 := by omega
                  subst e
                  have := HCB.out
                  omega
              have hc2 : ∀ W, Calls Tryz.prog 59 #[.string xs, .string ls] W fun e w' => e = .returned (.int .i64 1) ∧ W = w' := fun W => by
                have := HCMP.out W
                rwa [hs] at this
              have HC2 := Lib.hid hc2
              have HGT : Hid (2 * (y ^ 24 * 4 ^ j) < x ^ 24) := hgt
              clear hs hc2 hgt HCMP
              go_wp2_with fail
              refine (HC2.out _).mono ?_
              rintro e w7 ⟨rfl, rfl⟩
              go_wp2_with fail
              refine (HMUL.out _ htw).mono ?_
              rintro e w8 ⟨rfl, hb8⟩
              have ht8 := htw.below hb8
              have HB8 := Lib.hid (HBW.out.trans (hb8.mono HBW.out.size))
              clear hb8
              go_wp2
              go_roundw
              case rel => exact ⟨j + 1, _, by congr 1; omega, rfl, HL2.out, by omega, Or.inr (by rw [Nat.add_sub_cancel]; exact HGT.out), ht8, HB8.out⟩
              case measure => simp [intOf]; omega
            · have hs : sgn (((x ^ 24 : Nat) : Int) - ((2 * (y ^ 24 * 4 ^ j) : Nat) : Int)) ≤ 0 := by
                rcases sgn_cases (((x ^ 24 : Nat) : Int) - ((2 * (y ^ 24 * 4 ^ j) : Nat) : Int)) with ⟨_, h⟩ | ⟨_, h⟩ | ⟨h, _⟩
                · omega
                · omega
                · omega
              obtain ⟨z, hz⟩ : ∃ z, z = sgn (((x ^ 24 : Nat) : Int) - ((2 * (y ^ 24 * 4 ^ j) : Nat) : Int)) := ⟨_, rfl⟩
              have hc2 : ∀ W, Calls Tryz.prog 59 #[.string xs, .string ls] W fun e w' => e = .returned (.int .i64 z) ∧ W = w' := fun W => by
                have := HCMP.out W
                rwa [← hz] at this
              rw [← hz] at hs
              have HC2 := Lib.hid hc2
              have HSH := Lib.hid (HEND.out j hy1 HOR.out (by omega))
              clear hc2 hgt HCMP hz
              go_wp2_with fail
              refine (HC2.out _).mono ?_
              rintro e w7 ⟨rfl, rfl⟩
              go_wp2
              go_ret
              exact ⟨m + j, by rw [Int.add_comm]; exact HSH.out, by omega, by omega, rfl, HBW.out⟩

end Go.Proofs.YtkamepalomkpbaaGreatDoor
