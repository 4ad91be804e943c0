/- Package bombardelaw13: power and shift of right feet. Conditions: both are right feet; the library's table of powers of ten reads as its text lays it. -/
import Derived.Test.YtkamepalomkpbaaGreatDoorRefMul
import Derived.Test.YtkamepalomkpbaaGreatDoorShift
namespace Go.Proofs.YtkamepalomkpbaaGreatDoor
open Go.RowKit

theorem lpower_any (x k : Nat) (w : World) (ht : Tab w) (hx : x ≤ 10000000) (hk : k ≤ 100) :
    Calls Tryz.prog 60 #[.int .i64 x, .int .i64 k] w fun e w' => e = .returned (.string (dec ((x ^ k : Nat) : Int))) ∧ Below w.heap.size w w' := by
  have h8 : Lib.nDigits (x : Int).natAbs ≤ 8 := nDigits_le _ _ (by decide) (by show x < 10 ^ 8; omega)
  have hof := fun W h => refof_any (x : Int) (by omega) (by omega) W h
  have hpw := fun W h => refpower_any (x : Int) k W h (by omega) (Nat.le_trans (Nat.mul_le_mul hk h8) (by decide))
  rw [← Int.natCast_pow] at hpw
  have HOF := Lib.hid hof
  have HPW := Lib.hid hpw
  clear hof hpw h8
  go_enter Tryz.func60, Tryz.ntmps60
  go_wp2_with fail
  refine (HOF.out _ ht).mono ?_
  rintro e w1 ⟨rfl, hb1⟩
  go_wp2_with fail
  refine (HPW.out _ (ht.below hb1)).mono ?_
  rintro e w2 ⟨rfl, hb2⟩
  have HB := Lib.hid (hb1.trans (hb2.mono hb1.size))
  clear hb1 hb2
  go_wp2
  go_ret
  exact ⟨rfl, HB.out⟩

theorem limit_eq (y j : Nat) : y ^ 24 * 2 ^ (2 * j + 1) = 2 * (y ^ 24 * 4 ^ j) := by
  have e : (2 : Nat) ^ (2 * j + 1) = 4 ^ j * 2 := by rw [Nat.pow_succ, Nat.pow_mul]
  rw [e]; ac_rfl

set_option maxRecDepth 100000 in
set_option maxHeartbeats 4000000 in
theorem lshift_any (fn fd gn gd : Nat) (w : World) (ht : Tab w) (hf : PR fn fd) (hg : PR gn gd) :
    Calls Tryz.prog 54 #[.agg #[.int .i64 fn, .int .i64 fd], .agg #[.int .i64 gn, .int .i64 gd]] w (RetShift (gn * fd) (gd * fn) w) := by
  obtain ⟨⟨f0, _, _, _, _⟩, f1, f2, f3⟩ := hf
  obtain ⟨⟨g0, _, _, _, _⟩, g1, g2, g3⟩ := hg
  obtain ⟨N, hN⟩ : ∃ N, N = gn * fd := ⟨_, rfl⟩
  obtain ⟨D, hD⟩ : ∃ D, D = gd * fn := ⟨_, rfl⟩
  rw [← hN, ← hD]
  have hN0 : 0 < N := by rw [hN]; exact Nat.mul_pos (by omega) (by omega)
  have hD0 : 0 < D := by rw [hD]; exact Nat.mul_pos (by omega) (by omega)
  have hN1 : N ≤ 2097152 := by rw [hN]; exact Nat.le_trans (Nat.mul_le_mul (show gn ≤ 16384 by omega) (show fd ≤ 128 by omega)) (by decide)
  have hD1 : D ≤ 2097152 := by rw [hD]; exact Nat.le_trans (Nat.mul_le_mul (show gd ≤ 128 by omega) (show fn ≤ 16384 by omega)) (by decide)
  have hNi : (gn : Int) * (fd : Int) = (N : Int) := by rw [hN]; simp
  have hDi : (gd : Int) * (fn : Int) = (D : Int) := by rw [hD]; simp
  have hwN : IntKind.i64.wrap ((gn : Int) * (fd : Int)) = (N : Int) := by rw [hNi, IntWalk.i64_in _ (by omega)]
  have hwD : IntKind.i64.wrap ((gd : Int) * (fn : Int)) = (D : Int) := by rw [hDi, IntWalk.i64_in _ (by omega)]
  have HWN := Lib.hid hwN
  have HWD := Lib.hid hwD
  clear hN hD hNi hDi hwN hwD f0 f1 f2 f3 g0 g1 g2 g3
  go_enter Tryz.func54, Tryz.ntmps54
  go_wp2
  have hwN := HWN.out
  have hwD := HWD.out
  go_quiet (fail)
  clear hwN hwD HWN HWD
  go_wp2
  obtain ⟨w1, hw1⟩ : ∃ w1, w1 = ((w.alloc (Obj.cells #[Value.int IntKind.i64 ↑fn, Value.int IntKind.i64 ↑fd] 47)).alloc (Obj.cells #[Value.int IntKind.i64 ↑gn, Value.int IntKind.i64 ↑gd] 47)).drewN nq := ⟨_, rfl⟩
  rw [← hw1]
  have hb1 : Below w.heap.size w w1 := by rw [hw1]; exact bw_drewN (bw_new (bw_new (Below.refl _ _) _) _) _
  have ht1 := ht.below hb1
  have HB1 := Lib.hid hb1
  clear hw1 hb1 ht
  go_loop [6, 7] (fun u v => ∃ (y k : Nat), u = .int .i64 y ∧ v = .int .i64 (k : Int) ∧ 0 < y ∧ y ≤ 2097152 ∧ k ≤ 22 ∧ Lib.Kept (2 ^ k ≤ y) ∧ ShiftInv N D N y (12 * (k : Int))) (fun u _ => N - (intOf u).toNat)
  case atStart => exact ⟨D, 0, rfl, rfl, hD0, hD1, by omega, (show (2 : Nat) ^ 0 ≤ D by rw [Nat.pow_zero]; omega), ShiftInv.start N D⟩
  case round =>
    obtain ⟨y, k, rfl, rfl, hy0, hy1, hk, hpw, hinv⟩ := hrel
    have HPW := Lib.hid hpw
    have HI := Lib.hid hinv
    clear hpw hinv
    by_cases hge : 2 * y ≤ N
    · have hk1 : k + 1 ≤ 22 := by
        have h1 : 2 ^ k ≤ y := HPW.out
        rcases Nat.lt_or_ge k 22 with h | h
        · exact h
        · have h2 : (2 : Nat) ^ 22 ≤ 2 ^ k := Nat.pow_le_pow_right (by decide) h
          have h3 : (2 : Nat) ^ 22 = 4194304 := by decide
          omega
      have hp2 : Lib.Kept (2 ^ (k + 1) ≤ 2 * y) := by
        have h1 : 2 ^ k ≤ y := HPW.out
        show 2 ^ (k + 1) ≤ 2 * y
        rw [Nat.pow_succ]; omega
      have hdn := HI.out.down
      rw [show 12 * (k : Int) + 12 = 12 * ((k + 1 : Nat) : Int) by omega] at hdn
      have HDN := Lib.hid hdn
      clear hdn
      go_wp2
      go_round
      case rel => exact ⟨2 * y, k + 1, by first | rfl | (congr 1; omega) | (congr 1; done), by first | go_num | rfl, by omega, by omega, hk1, hp2, HDN.out⟩
      case measure => simp [intOf]; omega
    · have hlt2 : N < 2 * y := by omega
      clear hge
      go_wp2_with fail
      go_loop [5, 7] (fun u v => ∃ (x j : Nat), u = .int .i64 x ∧ v = .int .i64 ((k : Int) - (j : Int)) ∧ 0 < x ∧ x ≤ 4194304 ∧ x < 2 * y ∧ j ≤ 22 ∧ Lib.Kept (2 ^ j ≤ x) ∧ ShiftInv N D x y (12 * ((k : Int) - (j : Int)))) (fun u _ => y - (intOf u).toNat)
      case atStart => exact ⟨N, 0, rfl, by first | rfl | (congr 1; omega), hN0, by omega, hlt2, by omega, (show (2 : Nat) ^ 0 ≤ N by rw [Nat.pow_zero]; omega), by rw [show 12 * ((k : Int) - ((0 : Nat) : Int)) = 12 * (k : Int) by omega]; exact HI.out⟩
      case round =>
        obtain ⟨x, j, rfl, rfl, hx0, hx1, hxy, hj, hpw2, hinv2⟩ := hrel
        have HPW2 := Lib.hid hpw2
        have HI2 := Lib.hid hinv2
        clear hpw2 hinv2
        by_cases hlt : x < y
        · have hj1 : j + 1 ≤ 22 := by
            have h1 : 2 ^ j ≤ x := HPW2.out
            rcases Nat.lt_or_ge j 22 with h | h
            · exact h
            · have h2 : (2 : Nat) ^ 22 ≤ 2 ^ j := Nat.pow_le_pow_right (by decide) h
              have h3 : (2 : Nat) ^ 22 = 4194304 := by decide
              omega
          have hp3 : Lib.Kept (2 ^ (j + 1) ≤ 2 * x) := by
            have h1 : 2 ^ j ≤ x := HPW2.out
            show 2 ^ (j + 1) ≤ 2 * x
            rw [Nat.pow_succ]; omega
          have hup := HI2.out.up
          rw [show 12 * ((k : Int) - (j : Int)) - 12 = 12 * ((k : Int) - ((j + 1 : Nat) : Int)) by omega] at hup
          have HUP := Lib.hid hup
          clear hup
          go_wp2
          go_round
          case rel => exact ⟨2 * x, j + 1, by first | rfl | (congr 1; omega) | (congr 1; done), by first | rfl | (congr 1; omega) | (congr 1; done), by omega, by omega, by omega, hj1, hp3, HUP.out⟩
          case measure => simp [intOf]; omega
        · have hy2 : y ≤ x := by omega
          have hyB : y ≤ 10000000 := by omega
          have hxB : x ≤ 10000000 := by omega
          have hend : ∀ i : Nat, (i = 0 ∨ 2 * (y ^ 24 * 4 ^ (i - 1)) ≤ x ^ 24) → x ^ 24 ≤ 2 * (y ^ 24 * 4 ^ i) → IsShift N D (12 * ((k : Int) - (j : Int)) + (i : Int)) := fun i h2 h3 => by
            rw [Int.add_comm]
            refine HI2.out _ (count_end hy0 hy2 ?_ h3)
            rcases h2 with h | h
            · exact Or.inl h
            · have := no_tie x y (i - 1) hx0
              exact Or.inr (by omega)
          have hcb := count_bound hxy
          have HEND := Lib.hid hend
          have HCB := Lib.hid hcb
          obtain ⟨xs, hxs⟩ : ∃ xs, xs = dec ((x ^ 24 : Nat) : Int) := ⟨_, rfl⟩
          obtain ⟨ys, hys⟩ : ∃ ys, ys = dec ((y ^ 24 : Nat) : Int) := ⟨_, rfl⟩
          have hpx := fun W h => lpower_any x 24 W h hxB (by omega)
          have hpy := fun W h => lpower_any y 24 W h hyB (by omega)
          rw [← hxs] at hpx
          rw [← hys] at hpy
          have HPX := Lib.hid hpx
          have HPY := Lib.hid hpy
          have HXS := Lib.hid hxs
          have HYS := Lib.hid hys
          clear hpx hpy hxs hys hend hcb hlt HPW HPW2 HI HI2
          go_wp2_with fail
          refine (HPX.out _ ht1).mono ?_
          rintro e w3 ⟨rfl, hb3⟩
          have hB3 := HB1.out.trans (hb3.mono HB1.out.size)
          have ht3 := ht1.below hb3
          clear hb3
          go_wp2_with fail
          refine (HPY.out _ ht3).mono ?_
          rintro e w4 ⟨rfl, hb4⟩
          have HB4 := Lib.hid (hB3.trans (hb4.mono hB3.size))
          have HT4 := Lib.hid (ht3.below hb4)
          clear hb4 ht3 ht1 hB3
          go_wp2_with fail
          go_loopw [10, 11] (fun u v wr => ∃ (lo hi : Nat), u = .int .i64 (lo : Int) ∧ v = .int .i64 (hi : Int) ∧ lo ≤ hi ∧ hi ≤ 12 ∧ Lib.Kept (lo = 0 ∨ 2 * (y ^ 24 * 4 ^ (lo - 1)) ≤ x ^ 24) ∧ Lib.Kept (x ^ 24 ≤ 2 * (y ^ 24 * 4 ^ hi)) ∧ Tab wr ∧ Below w.heap.size w wr)
            (fun u v _ => (intOf v - intOf u).toNat)
          case atStart => exact ⟨0, 12, rfl, rfl, by omega, by omega, Or.inl rfl, HCB.out, HT4.out, HB4.out⟩
          case round =>
            obtain ⟨lo, hi, rfl, rfl, hle, hhi, hlo, hup, htw, hbw⟩ := hrel
            have HLO : Hid (lo = 0 ∨ 2 * (y ^ 24 * 4 ^ (lo - 1)) ≤ x ^ 24) := hlo
            have HUP : Hid (x ^ 24 ≤ 2 * (y ^ 24 * 4 ^ hi)) := hup
            have HBW := Lib.hid hbw
            have HTW := Lib.hid htw
            clear hlo hup hbw htw
            by_cases hlt3 : lo < hi
            · obtain ⟨m, hm⟩ : ∃ m, m = (lo + hi) / 2 := ⟨_, rfl⟩
              have hm1 : lo ≤ m := by omega
              have hm2 : m < hi := by omega
              have hmi : ((lo : Int) + (hi : Int)) / 2 = (m : Int) := by omega
              have hpw : ∀ W, Tab W → Calls Tryz.prog 60 #[.int .i64 2, .int .i64 (2 * (m : Int) + 1)] W fun e w' => e = .returned (.string (dec ((2 ^ (2 * m + 1) : Nat) : Int))) ∧ Below W.heap.size W w' := fun W hW => by
                have := lpower_any 2 (2 * m + 1) W hW (by omega) (by omega)
                rw [show ((2 * m + 1 : Nat) : Int) = 2 * (m : Int) + 1 by omega] at this
                exact this
              have hmul : ∀ W, Tab W → Calls Tryz.prog 62 #[.string ys, .string (dec ((2 ^ (2 * m + 1) : Nat) : Int))] W fun e w' => e = .returned (.string (dec ((2 * (y ^ 24 * 4 ^ m) : Nat) : Int))) ∧ Below W.heap.size W w' := fun W hW => by
                have h2 : Lib.nDigits (2 ^ (2 * m + 1)) ≤ 10 := nDigits_le _ _ (by decide) (Nat.lt_of_le_of_lt (Nat.pow_le_pow_right (by decide) (show 2 * m + 1 ≤ 25 by omega)) (by decide))
                have := refmul_any ((y ^ 24 : Nat) : Int) ((2 ^ (2 * m + 1) : Nat) : Int) W hW (by rw [Int.natAbs_natCast]; exact Nat.le_trans (digits_pow24 hyB) (by decide)) (by rw [Int.natAbs_natCast]; exact Nat.le_trans h2 (by decide))
                rw [← Int.natCast_mul, limit_eq, ← HYS.out] at this
                exact this
              have hcmp : ∀ W, Tab W → Calls Tryz.prog 61 #[.string xs, .string (dec ((2 * (y ^ 24 * 4 ^ m) : Nat) : Int))] W fun e w' => e = .returned (.int .i64 (sgn (((x ^ 24 : Nat) : Int) - ((2 * (y ^ 24 * 4 ^ m) : Nat) : Int)))) ∧ Below W.heap.size W w' := fun W hW => by
                rw [HXS.out]
                exact refcompare_any _ _ W hW (by rw [Int.natAbs_natCast]; exact Nat.le_trans (digits_pow24 hxB) (by decide)) (by rw [Int.natAbs_natCast]; exact Nat.le_trans (digits_limit hyB (by omega)) (by decide))
              obtain ⟨ps, hps⟩ : ∃ ps, ps = dec ((2 ^ (2 * m + 1) : Nat) : Int) := ⟨_, rfl⟩
              obtain ⟨ls, hls⟩ : ∃ ls, ls = dec ((2 * (y ^ 24 * 4 ^ m) : Nat) : Int) := ⟨_, rfl⟩
              rw [← hps] at hpw hmul
              rw [← hls] at hmul hcmp
              have HPW := Lib.hid hpw
              have HMUL := Lib.hid hmul
              have HM := Lib.hid hm
              have HMI := Lib.hid hmi
              clear hpw hmul hps hls hm hmi
              by_cases hgt : x ^ 24 < 2 * (y ^ 24 * 4 ^ m)
              · rw [sgn_neg (show ((x ^ 24 : Nat) : Int) - ((2 * (y ^ 24 * 4 ^ m) : Nat) : Int) < 0 by omega)] at hcmp
                have HCMP := Lib.hid hcmp
                have HGT : Hid (x ^ 24 < 2 * (y ^ 24 * 4 ^ m)) := hgt
                clear hcmp hgt
                go_wp2_with fail
                rw [HMI.out]
                go_wp2_with fail
                refine (HPW.out _ HTW.out).mono ?_
                rintro e w5 ⟨rfl, hb5⟩
                have HT5 := Lib.hid (HTW.out.below hb5)
                have HB5 := Lib.hid (HBW.out.trans (hb5.mono HBW.out.size))
                clear hb5
                go_wp2_with fail
                refine (HMUL.out _ HT5.out).mono ?_
                rintro e w6 ⟨rfl, hb5⟩
                have HT6 := Lib.hid (HT5.out.below hb5)
                have HB6 := Lib.hid (HB5.out.trans (hb5.mono HB5.out.size))
                clear hb5
                go_wp2_with fail
                refine (HCMP.out _ HT6.out).mono ?_
                rintro e w7 ⟨rfl, hb5⟩
                have HT7 := Lib.hid (HT6.out.below hb5)
                have HB7 := Lib.hid (HB6.out.trans (hb5.mono HB6.out.size))
                clear hb5
                go_wp2
                go_roundw
                case rel => exact ⟨lo, m, rfl, rfl, by omega, by omega, HLO.out, Nat.le_of_lt HGT.out, HT7.out, HB7.out⟩
                case measure => simp [intOf]; omega
              · have hs : 0 ≤ sgn (((x ^ 24 : Nat) : Int) - ((2 * (y ^ 24 * 4 ^ m) : Nat) : Int)) := by
                  rcases sgn_cases (((x ^ 24 : Nat) : Int) - ((2 * (y ^ 24 * 4 ^ m) : Nat) : Int)) with ⟨h, _⟩ | ⟨_, h⟩ | ⟨_, h⟩
                  · omega
                  · omega
                  · omega
                obtain ⟨z, hz⟩ : ∃ z, z = sgn (((x ^ 24 : Nat) : Int) - ((2 * (y ^ 24 * 4 ^ m) : Nat) : Int)) := ⟨_, rfl⟩
                rw [← hz] at hcmp hs
                have HCMP := Lib.hid hcmp
                have HGT : Hid (2 * (y ^ 24 * 4 ^ m) ≤ x ^ 24) := (Nat.le_of_not_lt hgt)
                clear hcmp hgt hz
                go_wp2_with fail
                rw [HMI.out]
                go_wp2_with fail
                refine (HPW.out _ HTW.out).mono ?_
                rintro e w5 ⟨rfl, hb5⟩
                have HT5 := Lib.hid (HTW.out.below hb5)
                have HB5 := Lib.hid (HBW.out.trans (hb5.mono HBW.out.size))
                clear hb5
                go_wp2_with fail
                refine (HMUL.out _ HT5.out).mono ?_
                rintro e w6 ⟨rfl, hb5⟩
                have HT6 := Lib.hid (HT5.out.below hb5)
                have HB6 := Lib.hid (HB5.out.trans (hb5.mono HB5.out.size))
                clear hb5
                go_wp2_with fail
                refine (HCMP.out _ HT6.out).mono ?_
                rintro e w7 ⟨rfl, hb5⟩
                have HT7 := Lib.hid (HT6.out.below hb5)
                have HB7 := Lib.hid (HB6.out.trans (hb5.mono HB6.out.size))
                clear hb5
                go_wp2
                go_roundw
                case rel => exact ⟨m + 1, hi, by go_num, rfl, by omega, by omega, Or.inr (by rw [Nat.add_sub_cancel]; exact HGT.out), HUP.out, HT7.out, HB7.out⟩
                case measure => simp [intOf]; omega
            · obtain rfl : lo = hi := by omega
              have HSH := Lib.hid (HEND.out lo HLO.out HUP.out)
              go_wp2
              go_ret
              exact ⟨12 * ((k : Int) - (j : Int)) + lo, HSH.out, by omega, by omega, rfl, HBW.out⟩

end Go.Proofs.YtkamepalomkpbaaGreatDoor
