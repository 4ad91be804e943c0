/- Part 14 of 22 of the proof of the law: contracts of the functions that it reaches, and plain facts. Conditions: those that each contract names. -/
import Derived.Test.YtkamepalomkpbaaDoorWChkB08
import Derived.Test.YtkamepalomkpbaaDoorWChkB13
import Derived.Lib.TrimByte
import Derived.RegionTactic
import Derived.BigRegion
namespace Go.Proofs.YtkamepalomkpbaaDoor
open Go.RowKit
theorem dec_two : dec 2 = ⟨#[50]⟩ := by
  unfold dec
  rw [show Lib.itoa 2 = [50] by rw [show (2 : Int) = ((2 : Nat) : Int) from rfl, Lib.itoa_nonneg, Lib.decDigits_one (by decide)]; rfl]
theorem dec_four : dec 4 = ⟨#[52]⟩ := by
  unfold dec
  rw [show Lib.itoa 4 = [52] by rw [show (4 : Int) = ((4 : Nat) : Int) from rfl, Lib.itoa_nonneg, Lib.decDigits_one (by decide)]; rfl]
theorem digits_pow24 {x : Nat} (h : x ≤ 10000000) : Lib.nDigits (x ^ 24) ≤ 169 := by
  refine nDigits_le _ _ (by decide) ?_
  have h1 : x ^ 24 ≤ (10 ^ 7) ^ 24 := Nat.pow_le_pow_left h 24
  rw [← Nat.pow_mul] at h1
  refine Nat.lt_of_le_of_lt h1 (Nat.pow_lt_pow_right (by decide) (by decide))
theorem digits_limit {x j : Nat} (h : x ≤ 10000000) (hj : j ≤ 14) : Lib.nDigits (2 * (x ^ 24 * 4 ^ j)) ≤ 180 := by
  refine nDigits_le _ _ (by decide) ?_
  have h1 : x ^ 24 ≤ (10 ^ 7) ^ 24 := Nat.pow_le_pow_left h 24
  rw [← Nat.pow_mul] at h1
  have h2 : (4 : Nat) ^ j ≤ 4 ^ 14 := Nat.pow_le_pow_right (by decide) hj
  have h3 : x ^ 24 * 4 ^ j ≤ 10 ^ (7 * 24) * 10 ^ 9 := Nat.mul_le_mul h1 (Nat.le_trans h2 (by decide))
  rw [← Nat.pow_add] at h3
  have h4 : 2 * 10 ^ (7 * 24 + 9) < 10 ^ 180 := by
    rw [show (180 : Nat) = (7 * 24 + 9) + 3 from rfl, Nat.pow_add 10 _ 3]
    have : 0 < 10 ^ (7 * 24 + 9) := Nat.pow_pos (by decide)
    omega
  omega
theorem pow24_any (x : Nat) (w : World) (ht : Tab w) (hx : x ≤ 10000000) :
    Calls Tryd.prog 49 #[.string (dec (x : Int)), .int .i64 24] w fun e w' => e = .returned (.tuple #[.string (dec ((x ^ 24 : Nat) : Int)), .int .i64 0]) ∧ Below w.heap.size w w' := by
  have h8 : Lib.nDigits (x : Int).natAbs ≤ 8 := nDigits_le _ _ (by decide) (by show x < 10 ^ 8; omega)
  have := power_any (x : Int) 24 w ht (by omega) (by omega) (by omega)
  rw [Int.natCast_pow]
  exact this
theorem mul2_any (x : Nat) (w : World) (ht : Tab w) (hx : Lib.nDigits x ≤ 500000) :
    Calls Tryd.prog 51 #[.string (dec (x : Int)), .string ⟨#[50]⟩] w fun e w' => e = .returned (.string (dec ((2 * x : Nat) : Int))) ∧ Below w.heap.size w w' := by
  have := mul_any (x : Int) 2 w ht (by simpa using hx) (Nat.le_trans (nDigits_le _ 1 (by decide) (by decide)) (by decide))
  rw [dec_two] at this
  rw [show ((2 * x : Nat) : Int) = (x : Int) * 2 by omega]
  exact this
theorem mul4_any (x : Nat) (w : World) (ht : Tab w) (hx : Lib.nDigits x ≤ 500000) :
    Calls Tryd.prog 51 #[.string (dec (x : Int)), .string ⟨#[52]⟩] w fun e w' => e = .returned (.string (dec ((4 * x : Nat) : Int))) ∧ Below w.heap.size w w' := by
  have := mul_any (x : Int) 4 w ht (by simpa using hx) (Nat.le_trans (nDigits_le _ 1 (by decide) (by decide)) (by decide))
  rw [dec_four] at this
  rw [show ((4 * x : Nat) : Int) = (x : Int) * 4 by omega]
  exact this
def RetShift (N D : Nat) (w : World) (e : Ending) (w' : World) : Prop := ∃ s : Int, IsShift N D s ∧ -300 ≤ s ∧ s ≤ 600 ∧ e = .returned (.int .i64 s) ∧ Below w.heap.size w w'
set_option maxRecDepth 100000 in
set_option maxHeartbeats 2000000 in
theorem shift_any (fn fd gn gd : Nat) (w : World) (ht : Tab w) (hf : PR fn fd) (hg : PR gn gd) :
    Calls Tryd.prog 47 #[.agg #[.int .i64 fn, .int .i64 fd], .agg #[.int .i64 gn, .int .i64 gd]] w (RetShift (gn * fd) (gd * fn) w) := by
  obtain ⟨⟨f0, _, _, _, _⟩, f1, f2, f3⟩ := hf
  obtain ⟨⟨g0, _, _, _, _⟩, g1, g2, g3⟩ := hg
  obtain ⟨N, hN⟩ : ∃ N, N = gn * fd := ⟨_, rfl⟩
  obtain ⟨D, hD⟩ : ∃ D, D = gd * fn := ⟨_, rfl⟩
  rw [← hN, ← hD]
  have hN0 : 0 < N := by rw [hN]; exact Nat.mul_pos (by omega) (by omega)
  have hD0 : 0 < D := by rw [hD]; exact Nat.mul_pos (by omega) (by omega)
  have hN1 : N ≤ 2097152 := by rw [hN]; exact Nat.le_trans (Nat.mul_le_mul (show gn ≤ 16384 by omega) (show fd ≤ 128 by omega)) (by decide)
  have hD1 : D ≤ 2097152 := by rw [hD]; exact Nat.le_trans (Nat.mul_le_mul (show gd ≤ 128 by omega) (show fn ≤ 16384 by omega)) (by decide)
  have hNi : (gn : Int) * (fd : Int) = (N : Int) := by rw [hN]; simp
  have hDi : (gd : Int) * (fn : Int) = (D : Int) := by rw [hD]; simp
  have hwN : IntKind.i64.wrap ((gn : Int) * (fd : Int)) = (N : Int) := by rw [hNi, IntWalk.i64_in _ (by omega)]
  have hwD : IntKind.i64.wrap ((gd : Int) * (fn : Int)) = (D : Int) := by rw [hDi, IntWalk.i64_in _ (by omega)]
  have HWN := Lib.hid hwN
  have HWD := Lib.hid hwD
  clear hN hD hNi hDi hwN hwD f0 f1 f2 f3 g0 g1 g2 g3
  go_enter Tryd.func47, Tryd.ntmps47
  go_wp2
  have hwN := HWN.out
  have hwD := HWD.out
  go_quiet (fail)
  clear hwN hwD HWN HWD
  go_wp2
  obtain ⟨w1, hw1⟩ : ∃ w1, w1 = ((w.alloc (Obj.cells #[Value.int IntKind.i64 ↑fn, Value.int IntKind.i64 ↑fd] 44)).alloc (Obj.cells #[Value.int IntKind.i64 ↑gn, Value.int IntKind.i64 ↑gd] 44)).drewN nq := ⟨_, rfl⟩
  rw [← hw1]
  have hb1 : Below w.heap.size w w1 := by rw [hw1]; exact bw_drewN (bw_new (bw_new (Below.refl _ _) _) _) _
  have ht1 := ht.below hb1
  have HB1 := Lib.hid hb1
  clear hw1 hb1 ht
  go_loop [5, 7] (fun u v => ∃ (x k : Nat) (n : Int), u = .int .i64 x ∧ v = .int .i64 n ∧ 0 < x ∧ x ≤ 4194304 ∧ n = -12 * (k : Int) ∧ k ≤ 22 ∧ Lib.Kept (2 ^ k ≤ x) ∧ ShiftInv N D x D n) (fun u _ => D - (intOf u).toNat)
  case atStart => exact ⟨N, 0, 0, rfl, rfl, hN0, by omega, by omega, by omega, (show (2 : Nat) ^ 0 ≤ N by rw [Nat.pow_zero]; omega), ShiftInv.start N D⟩
  case round =>
    obtain ⟨x, k, n, rfl, rfl, hx0, hx1, hn, hk, hpw, hinv⟩ := hrel
    have HPW := Lib.hid hpw
    have HI := Lib.hid hinv
    have hn0 : -264 ≤ n := by omega
    have hn1 : n ≤ 0 := by omega
    have HNK := Lib.hid hn
    clear hpw hinv hn
    by_cases hlt : x < D
    · have hk1 : k + 1 ≤ 22 := by
        have h1 : 2 ^ k ≤ x := HPW.out
        rcases Nat.lt_or_ge k 22 with h | h
        · exact h
        · have h2 : (2 : Nat) ^ 22 ≤ 2 ^ k := Nat.pow_le_pow_right (by decide) h
          have h3 : (2 : Nat) ^ 22 = 4194304 := by decide
          omega
      have hp2 : Lib.Kept (2 ^ (k + 1) ≤ 2 * x) := by
        have h1 : 2 ^ k ≤ x := HPW.out
        show 2 ^ (k + 1) ≤ 2 * x
        rw [Nat.pow_succ]; omega
      go_wp2
      go_round
      case rel => exact ⟨2 * x, k + 1, n - 12, by congr 1; omega, rfl, by omega, by omega, by have := HNK.out; omega, hk1, hp2, HI.out.up⟩
      case measure => simp [intOf]; omega
    · have hDx : D ≤ x := by omega
      go_wp2_with fail
      obtain ⟨xn, hxn⟩ : ∃ xn, xn = x := ⟨_, rfl⟩
      go_loop [6, 7] (fun u v => ∃ (y k : Nat) (m : Int), u = .int .i64 y ∧ v = .int .i64 m ∧ 0 < y ∧ y ≤ x ∧ m = n + 12 * (k : Int) ∧ k ≤ 22 ∧ Lib.Kept (2 ^ k ≤ y) ∧ ShiftInv N D x y m) (fun u _ => x - (intOf u).toNat)
      case atStart => exact ⟨D, 0, n, rfl, rfl, hD0, hDx, by omega, by omega, (show (2 : Nat) ^ 0 ≤ D by rw [Nat.pow_zero]; omega), HI.out⟩
      case round =>
        obtain ⟨y, k2, m, rfl, rfl, hy0, hy1, hm, hk2, hpw2, hinv2⟩ := hrel
        have HPW2 := Lib.hid hpw2
        have HI2 := Lib.hid hinv2
        have hm0 : -264 ≤ m := by omega
        have hm1 : m ≤ 264 := by omega
        have HNK2 := Lib.hid hm
        clear hpw2 hinv2 hm
        by_cases hge : 2 * y ≤ x
        · have hk3 : k2 + 1 ≤ 22 := by
            have h1 : 2 ^ k2 ≤ y := HPW2.out
            rcases Nat.lt_or_ge k2 22 with h | h
            · exact h
            · have h2 : (2 : Nat) ^ 22 ≤ 2 ^ k2 := Nat.pow_le_pow_right (by decide) h
              have h3 : (2 : Nat) ^ 22 = 4194304 := by decide
              omega
          have hp3 : Lib.Kept (2 ^ (k2 + 1) ≤ 2 * y) := by
            have h1 : 2 ^ k2 ≤ y := HPW2.out
            show 2 ^ (k2 + 1) ≤ 2 * y
            rw [Nat.pow_succ]; omega
          go_wp2
          go_round
          case rel => exact ⟨2 * y, k2 + 1, m + 12, by congr 1; omega, rfl, by omega, by omega, by have := HNK2.out; omega, hk3, hp3, HI2.out.down⟩
          case measure => simp [intOf]; omega
        · have hlt2 : x < 2 * y := by omega
          have hyB : y ≤ 10000000 := by omega
          have hxB : x ≤ 10000000 := by omega
          have hend : ∀ j : Nat, y ≤ x → (j = 0 ∨ 2 * (y ^ 24 * 4 ^ (j - 1)) < x ^ 24) → x ^ 24 ≤ 2 * (y ^ 24 * 4 ^ j) → IsShift N D ((j : Int) + m) := fun j h1 h2 h3 => HI2.out _ (count_end hy0 h1 h2 h3)
          have hcb := count_bound hlt2
          have HEND := Lib.hid hend
          have HCB := Lib.hid hcb
          obtain ⟨xs, hxs⟩ : ∃ xs, xs = dec ((x ^ 24 : Nat) : Int) := ⟨_, rfl⟩
          obtain ⟨ys, hys⟩ : ∃ ys, ys = dec ((y ^ 24 : Nat) : Int) := ⟨_, rfl⟩
          obtain ⟨l0, hl0⟩ : ∃ l0, l0 = dec ((2 * y ^ 24 : Nat) : Int) := ⟨_, rfl⟩
          have hpx := fun W h => pow24_any x W h hxB
          have hpy := fun W h => pow24_any y W h hyB
          have hm2 := fun W h => mul2_any (y ^ 24) W h (Nat.le_trans (digits_pow24 hyB) (by decide))
          rw [← hxs] at hpx
          rw [← hys] at hpy hm2
          rw [← hl0] at hm2
          have HPX := Lib.hid hpx
          have HPY := Lib.hid hpy
          have HM2 := Lib.hid hm2
          have HXS := Lib.hid hxs
          have HL0 := Lib.hid hl0
          clear hpx hpy hm2 hxs hys hl0
          clear hend hcb hge hlt HPW HPW2 HI HI2 HNK HNK2
          go_wp2_with fail
          refine (of_any (x : Int) (by omega) (by omega) _ ht1).mono ?_
          rintro e w2 ⟨rfl, hb2⟩
          have ht2 := ht1.below hb2
          go_wp2_with fail
          refine (HPX.out _ ht2).mono ?_
          rintro e w3 ⟨rfl, hb3⟩
          have ht3 := ht2.below hb3
          go_wp2_with fail
          refine (of_any (y : Int) (by omega) (by omega) _ ht3).mono ?_
          rintro e w4 ⟨rfl, hb4⟩
          have ht4 := ht3.below hb4
          go_wp2_with fail
          refine (HPY.out _ ht4).mono ?_
          rintro e w5 ⟨rfl, hb5⟩
          have ht5 := ht4.below hb5
          go_wp2_with fail
          refine (HM2.out _ ht5).mono ?_
          rintro e w6 ⟨rfl, hb6⟩
          have ht6 := ht5.below hb6
          have hb := ((((HB1.out.trans (hb2.mono HB1.out.size)).trans (hb3.mono (Nat.le_trans HB1.out.size hb2.size))).trans (hb4.mono (Nat.le_trans HB1.out.size (Nat.le_trans hb2.size hb3.size)))).trans (hb5.mono (Nat.le_trans HB1.out.size (Nat.le_trans hb2.size (Nat.le_trans hb3.size hb4.size))))).trans (hb6.mono (Nat.le_trans HB1.out.size (Nat.le_trans hb2.size (Nat.le_trans hb3.size (Nat.le_trans hb4.size hb5.size)))))
          have HB6 := Lib.hid hb
          have HT6 := Lib.hid ht6
          clear hb2 hb3 hb4 hb5 hb6 hb ht2 ht3 ht4 ht5 ht6 ht1
          go_wp2_with fail
          go_loopw [7, 12] (fun u v wr => ∃ (j : Nat) (ls : ByteArray), u = .int .i64 (m + (j : Int)) ∧ v = .string ls ∧ Lib.Kept (ls = dec ((2 * (y ^ 24 * 4 ^ j) : Nat) : Int)) ∧ j ≤ 12 ∧ Lib.Kept (j = 0 ∨ 2 * (y ^ 24 * 4 ^ (j - 1)) < x ^ 24) ∧ Tab wr ∧ Below w.heap.size w wr)
            (fun u _ _ => (m + 12 - intOf u).toNat)
          case atStart => exact ⟨0, _, by simp, rfl, (by show l0 = dec _; rw [Nat.pow_zero, Nat.mul_one]; exact HL0.out), by omega, Or.inl rfl, HT6.out, HB6.out⟩
          case round =>
            obtain ⟨j, ls, rfl, rfl, hls, hj, hor, htw, hbw⟩ := hrel
            have HLS : Hid (ls = dec ((2 * (y ^ 24 * 4 ^ j) : Nat) : Int)) := hls
            have HOR : Hid (j = 0 ∨ 2 * (y ^ 24 * 4 ^ (j - 1)) < x ^ 24) := hor
            have HBW := Lib.hid hbw
            have hcmp : ∀ W, Calls Tryd.prog 52 #[.string xs, .string ls] W fun e w' => e = .returned (.int .i64 (sgn (((x ^ 24 : Nat) : Int) - ((2 * (y ^ 24 * 4 ^ j) : Nat) : Int)))) ∧ W = w' := fun W => by
              rw [HXS.out, HLS.out]
              exact compare_any _ _ W (by rw [Int.natAbs_natCast]; exact Nat.le_trans (digits_pow24 hxB) (by decide)) (by rw [Int.natAbs_natCast]; exact Nat.le_trans (digits_limit hyB (by omega)) (by decide))
            obtain ⟨l2, hl2⟩ : ∃ l2, l2 = dec ((2 * (y ^ 24 * 4 ^ (j + 1)) : Nat) : Int) := ⟨_, rfl⟩
            have HL2 := Lib.hid hl2
            have hmul : ∀ W, Tab W → Calls Tryd.prog 51 #[.string ls, .string ⟨#[52]⟩] W fun e w' => e = .returned (.string l2) ∧ Below W.heap.size W w' := fun W hW => by
              have := mul4_any (2 * (y ^ 24 * 4 ^ j)) W hW (Nat.le_trans (digits_limit hyB (by omega)) (by decide))
              rw [HLS.out, hl2]
              rw [show 2 * (y ^ 24 * 4 ^ (j + 1)) = 4 * (2 * (y ^ 24 * 4 ^ j)) by rw [show (4 : Nat) ^ (j + 1) = 4 ^ j * 4 from Nat.pow_succ ..]; ac_rfl]
              exact this
            have HCMP := Lib.hid hcmp
            have HMUL := Lib.hid hmul
            clear hls hor hbw hcmp hmul hl2
            by_cases hgt : 2 * (y ^ 24 * 4 ^ j) < x ^ 24
            · have hs : sgn (((x ^ 24 : Nat) : Int) - ((2 * (y ^ 24 * 4 ^ j) : Nat) : Int)) = 1 := sgn_pos (by omega)
              have hj12 : j < 12 := by
                rcases Nat.lt_or_ge j 12 with h | h
                · exact h
                · have e : j = 12 := by omega
                  subst e
                  have := HCB.out
                  omega
              have hc2 : ∀ W, Calls Tryd.prog 52 #[.string xs, .string ls] W fun e w' => e = .returned (.int .i64 1) ∧ W = w' := fun W => by
                have := HCMP.out W
                rwa [hs] at this
              have HC2 := Lib.hid hc2
              have HGT : Hid (2 * (y ^ 24 * 4 ^ j) < x ^ 24) := hgt
              clear hs hc2 hgt HCMP
              go_wp2_with fail
              refine (HC2.out _).mono ?_
              rintro e w7 ⟨rfl, rfl⟩
              go_wp2_with fail
              refine (HMUL.out _ htw).mono ?_
              rintro e w8 ⟨rfl, hb8⟩
              have ht8 := htw.below hb8
              have HB8 := Lib.hid (HBW.out.trans (hb8.mono HBW.out.size))
              clear hb8
              go_wp2
              go_roundw
              case rel => exact ⟨j + 1, _, by congr 1; omega, rfl, HL2.out, by omega, Or.inr (by rw [Nat.add_sub_cancel]; exact HGT.out), ht8, HB8.out⟩
              case measure => simp [intOf]; omega
            · have hs : sgn (((x ^ 24 : Nat) : Int) - ((2 * (y ^ 24 * 4 ^ j) : Nat) : Int)) ≤ 0 := by
                rcases sgn_cases (((x ^ 24 : Nat) : Int) - ((2 * (y ^ 24 * 4 ^ j) : Nat) : Int)) with ⟨_, h⟩ | ⟨_, h⟩ | ⟨h, _⟩
                · omega
                · omega
                · omega
              obtain ⟨z, hz⟩ : ∃ z, z = sgn (((x ^ 24 : Nat) : Int) - ((2 * (y ^ 24 * 4 ^ j) : Nat) : Int)) := ⟨_, rfl⟩
              have hc2 : ∀ W, Calls Tryd.prog 52 #[.string xs, .string ls] W fun e w' => e = .returned (.int .i64 z) ∧ W = w' := fun W => by
                have := HCMP.out W
                rwa [← hz] at this
              rw [← hz] at hs
              have HC2 := Lib.hid hc2
              have HSH := Lib.hid (HEND.out j hy1 HOR.out (by omega))
              clear hc2 hgt HCMP hz
              go_wp2_with fail
              refine (HC2.out _).mono ?_
              rintro e w7 ⟨rfl, rfl⟩
              go_wp2
              go_ret
              exact ⟨m + j, by rw [Int.add_comm]; exact HSH.out, by omega, by omega, rfl, HBW.out⟩
end Go.Proofs.YtkamepalomkpbaaDoor
namespace Go.Proofs.YtkamepalomkpbaaDoor
open Go.RowKit
def pErr2 (a b c d : Int) : Int := if pErr a b = 0 then pErr c d else pErr a b
set_option maxRecDepth 100000 in
theorem pboth_any (a b c d : Int) (w : World) (ha : I64 a) (hb : I64 b) (hc : I64 c) (hd : I64 d) :
    Calls Tryd.prog 46 #[.agg #[.int .i64 a, .int .i64 b], .agg #[.int .i64 c, .int .i64 d]] w fun e w' => e = .returned (.int .i64 (pErr2 a b c d)) ∧ Below w.heap.size w w' := by
  have h1 := fun W => pcheck_any a b W ha hb
  have h2 := fun W => pcheck_any c d W hc hd
  obtain ⟨x, hx⟩ : ∃ x, x = pErr a b := ⟨_, rfl⟩
  obtain ⟨y, hy⟩ : ∃ y, y = pErr c d := ⟨_, rfl⟩
  have hr : pErr2 a b c d = if x = 0 then y else x := by rw [hx, hy]; rfl
  rw [← hx] at h1
  rw [← hy] at h2
  have H1 := Lib.hid h1
  have H2 := Lib.hid h2
  have HR := Lib.hid hr
  clear h1 h2 hr hx hy ha hb hc hd
  by_cases h0 : x = 0
  · have hz : (x == 0) = true := by simpa using h0
    have hz2 : (x != 0) = false := by simpa using h0
    have HR2 := Lib.hid (show pErr2 a b c d = y by rw [HR.out, if_pos h0])
    clear h0
    go_enter Tryd.func46, Tryd.ntmps46
    go_wp2_with fail
    refine (H1.out _).mono ?_
    rintro e w1 ⟨rfl, hb⟩
    obtain ⟨hc1, hf1⟩ := bcell hb
    go_wp2_with fail
    refine (H2.out _).mono ?_
    rintro e w2 ⟨rfl, hb2⟩
    go_wp2
    go_ret
    exact ⟨ret_int HR2.out.symm, ((bw_new (bw_new (Below.refl _ w) _) _).trans (hb.mono (by simp; omega))).trans (hb2.mono (by have := hb.size; simp at this; omega))⟩
  · have hz : (x == 0) = false := by simpa using h0
    have hz2 : (x != 0) = true := by simpa using h0
    have HR2 := Lib.hid (show pErr2 a b c d = x by rw [HR.out, if_neg h0])
    clear h0
    go_enter Tryd.func46, Tryd.ntmps46
    go_wp2_with fail
    refine (H1.out _).mono ?_
    rintro e w1 ⟨rfl, hb⟩
    go_wp2
    go_ret
    exact ⟨ret_int HR2.out.symm, (bw_new (bw_new (Below.refl _ w) _) _).trans (hb.mono (by simp; omega))⟩
def RetShift2 (N D : Nat) (w : World) (e : Ending) (w' : World) : Prop := ∃ s : Int, IsShift N D s ∧ -300 ≤ s ∧ s ≤ 600 ∧ e = .returned (.tuple #[.int .i64 s, .int .i64 0]) ∧ Below w.heap.size w w'
theorem PR.i64 {n d : Int} (h : PR n d) : I64 n ∧ I64 d := by
  obtain ⟨⟨a, b, c, d, _⟩, _, _, _⟩ := h
  exact ⟨⟨by omega, by omega⟩, ⟨by omega, by omega⟩⟩
set_option maxRecDepth 100000 in
theorem pshift_ok (fn fd gn gd : Nat) (w : World) (ht : Tab w) (hf : PR fn fd) (hg : PR gn gd) :
    Calls Tryd.prog 41 #[.agg #[.int .i64 fn, .int .i64 fd], .agg #[.int .i64 gn, .int .i64 gd]] w (RetShift2 (gn * fd) (gd * fn) w) := by
  have h1 := fun W => pboth_any fn fd gn gd W hf.i64.1 hf.i64.2 hg.i64.1 hg.i64.2
  have h0 : pErr2 fn fd gn gd = 0 := by unfold pErr2; rw [pErr_ok hf, pErr_ok hg]; rfl
  rw [h0] at h1
  have h2 := fun W h => shift_any fn fd gn gd W h hf hg
  have H1 := Lib.hid h1
  have H2 := Lib.hid h2
  clear h1 h2 h0 hf hg
  go_enter Tryd.func41, Tryd.ntmps41
  go_wp2_with fail
  refine (H1.out _).mono ?_
  rintro e w1 ⟨rfl, hb⟩
  obtain ⟨hc1, hf1⟩ := bcell hb
  have hb1 := (bw_new (bw_new (Below.refl _ w) (.cells #[.int .i64 fn, .int .i64 fd] 44)) (.cells #[.int .i64 gn, .int .i64 gd] 44)).trans (hb.mono (by simp; omega))
  have ht1 := ht.below hb1
  have HB1 := Lib.hid hb1
  clear hb1 hb ht
  go_wp2_with fail
  refine (H2.out _ ht1).mono ?_
  rintro e w2 ⟨s, hs, h3, h4, rfl, hb2⟩
  have HS := Lib.hid hs
  have HB2 := Lib.hid hb2
  clear hs hb2
  go_wp2
  go_ret2
  exact ⟨s, HS.out, h3, h4, rfl, HB1.out.trans (HB2.out.mono HB1.out.size)⟩
end Go.Proofs.YtkamepalomkpbaaDoor
namespace Go.Proofs.YtkamepalomkpbaaDoor
open Go.RowKit
theorem pr81 : PR (8 : Nat) (1 : Nat) := ⟨by decide, by decide, by decide, by decide⟩
set_option maxRecDepth 100000 in
set_option maxHeartbeats 1000000 in
theorem wshift_any (nm : ByteArray) (dv : Int) (tn : ByteArray) (fn fd lo hi : Int) (w : World) (ht : Tab w) (hp : PR fn fd) :
    Calls Tryd.prog 33 #[.agg #[.string nm, .int .i64 dv, .string tn, .int .i64 fn, .int .i64 fd, .int .i64 lo, .int .i64 hi]] w fun e w' =>
      e = .returned (.int .i64 (shF fn fd)) ∧ Below w.heap.size w w' := by
  obtain ⟨a, rfl⟩ := Int.eq_ofNat_of_zero_le (a := fn) (by have := hp.2.1; omega)
  obtain ⟨b, rfl⟩ := Int.eq_ofNat_of_zero_le (a := fd) (by have := hp.1.1; omega)
  have s1 : ∀ W, Tab W → Calls Tryd.prog 41 #[.agg #[.int .i64 (a : Int), .int .i64 (b : Int)], .agg #[.int .i64 8, .int .i64 1]] W fun e W' => e = .returned (.tuple #[.int .i64 (shF (a : Int) (b : Int)), .int .i64 0]) ∧ Below W.heap.size W W' := fun W hW =>
    (pshift_ok a b 8 1 W hW hp pr81).mono fun e W' ⟨s, hs, h1, h2, he, hb⟩ => ⟨by rw [he, shF_eq (s := s) (by simpa using hs) h1 h2], hb⟩
  obtain ⟨s, hs⟩ : ∃ s, s = shF (a : Int) (b : Int) := ⟨_, rfl⟩
  rw [← hs] at s1 ⊢
  have S1 := Lib.hid s1
  have HT := Lib.hid (ht.alloc (.cells #[.string nm, .int .i64 dv, .string tn, .int .i64 (a : Int), .int .i64 (b : Int), .int .i64 lo, .int .i64 hi] 48))
  clear s1 hs hp ht
  go_enter Tryd.func33, Tryd.ntmps33
  go_wp2_with fail
  refine (S1.out _ HT.out).mono ?_
  rintro e w1 ⟨rfl, hb⟩
  go_wp2
  go_ret
  exact ⟨rfl, (bw_new (Below.refl _ w) _).trans (hb.mono (by simp))⟩
def WR (x : Wsh) : Prop := PR x.fn x.fd ∧ 0 ≤ x.lo ∧ x.lo ≤ x.hi ∧ x.hi ≤ 127 ∧ nameB x.nm = true ∧ nameB x.tn = true ∧ 0 ≤ x.dv ∧ x.dv < 8
theorem wE_right {x : Wsh} (h : wE x = 0) (hn : nameB x.nm = true) : WR x := by
  unfold wE at h
  split at h
  · omega
  · split at h
    · omega
    · split at h
      · omega
      · rename_i h1 h2 h3
        unfold cmE at h
        split at h
        · omega
        · split at h
          · omega
          · exact ⟨PR_of (by omega), by omega, by omega, by omega, hn, by simpa using h2, by omega, by omega⟩
theorem wsE_right {ws : List Wsh} {seen : List ByteArray} (h : wsE seen ws = 0) : ∀ x ∈ ws, WR x := by
  induction ws generalizing seen with
  | nil => intro x hx; cases hx
  | cons y r ih =>
    rw [wsE_cons] at h
    split at h
    · omega
    · split at h
      · omega
      · split at h
        · omega
        · rename_i h1 _ h3
          intro x hx
          rcases List.mem_cons.1 hx with rfl | hx
          · exact wE_right (by omega) (by simpa using h1)
          · exact ih h x hx
theorem pbE_right {ws : List Wsh} {rules : List Int} (h : pbE ws rules = 0) : ∀ x ∈ ws, WR x := by
  unfold pbE at h
  split at h
  · omega
  · split at h
    · omega
    · exact wsE_right (seen := []) (by omega)
theorem los_bd {ws : List Wsh} (hr : ∀ x ∈ ws, WR x) {g : List Int} (hg : ∀ i ∈ g, 0 ≤ i ∧ i < (ws.length : Int)) : ∀ y ∈ los ws g, -300 ≤ y ∧ y ≤ 727 := by
  intro y hy
  unfold los at hy
  obtain ⟨i, hi, rfl⟩ := List.mem_map.1 hy
  obtain ⟨k, rfl⟩ := Int.eq_ofNat_of_zero_le (hg i hi).1
  have hk : k < ws.length := by have := (hg _ hi).2; omega
  rw [wat_eq hk]
  have h1 := hr _ (List.getElem_mem hk)
  have h2 := shF_bd ws[k].fn ws[k].fd
  unfold loH shW
  obtain ⟨_, h3, h4, h5, _⟩ := h1
  omega
theorem his_bd {ws : List Wsh} (hr : ∀ x ∈ ws, WR x) {g : List Int} (hg : ∀ i ∈ g, 0 ≤ i ∧ i < (ws.length : Int)) : ∀ y ∈ his ws g, -300 ≤ y ∧ y ≤ 727 := by
  intro y hy
  unfold his at hy
  obtain ⟨i, hi, rfl⟩ := List.mem_map.1 hy
  obtain ⟨k, rfl⟩ := Int.eq_ofNat_of_zero_le (hg i hi).1
  have hk : k < ws.length := by have := (hg _ hi).2; omega
  rw [wat_eq hk]
  have h1 := hr _ (List.getElem_mem hk)
  have h2 := shF_bd ws[k].fn ws[k].fd
  unfold hiH shW
  obtain ⟨_, h3, h4, h5, _⟩ := h1
  omega
theorem cost_bd {ws : List Wsh} (hr : ∀ x ∈ ws, WR x) {g : List Int} (hg : ∀ i ∈ g, 0 ≤ i ∧ i < (ws.length : Int)) : -2000 ≤ costZ ws g ∧ costZ ws g ≤ 2000 := by
  have h1 := mnL_bd (a := -300) (b := 727) (by decide) (los_bd hr hg)
  have h2 := mxL_bd (a := -300) (b := 727) (by decide) (his_bd hr hg)
  unfold costZ
  omega
theorem los_snoc (ws : List Wsh) (g : List Int) (i : Int) : los ws (g ++ [i]) = los ws g ++ [loH (wat ws i)] := by simp [los]
theorem his_snoc (ws : List Wsh) (g : List Int) (i : Int) : his ws (g ++ [i]) = his ws g ++ [hiH (wat ws i)] := by simp [his]
theorem los_ne {ws : List Wsh} {g : List Int} {k : Nat} (h : k < g.length) (h0 : k ≠ 0) : los ws (g.take k) ≠ [] := fun e => by
  have h1 := congrArg List.length e
  unfold los at h1
  rw [List.length_map, List.length_take, List.length_nil] at h1
  omega
theorem his_ne {ws : List Wsh} {g : List Int} {k : Nat} (h : k < g.length) (h0 : k ≠ 0) : his ws (g.take k) ≠ [] := fun e => by
  have h1 := congrArg List.length e
  unfold his at h1
  rw [List.length_map, List.length_take, List.length_nil] at h1
  omega
def CostRel (w : World) (Bd : Nat) (A : Option Addr) (n cap : Nat) (B : Option Addr) (m c2 : Nat) (ws : List Wsh) (rules : List Int) (G : Option Addr) (g : List Int) (wr : World) : Prop :=
  Blk wr w.heap.size 29 [.slice A n cap, .slice B m c2] ∧ Pb wr Bd A n cap B m c2 ws rules ∧ Rd i64v wr Bd G g ∧ Below w.heap.size w wr ∧ w.heap.size + 1 ≤ wr.heap.size ∧ Tab wr
theorem CostRel.below {w : World} {Bd : Nat} {A : Option Addr} {n cap : Nat} {B : Option Addr} {m c2 : Nat} {ws : List Wsh} {rules : List Int} {G : Option Addr} {g : List Int} {wr w' : World}
    (h : CostRel w Bd A n cap B m c2 ws rules G g wr) (hB : Bd ≤ w.heap.size) (hb : Below wr.heap.size wr w') : CostRel w Bd A n cap B m c2 ws rules G g w' := by
  obtain ⟨h1, h2, h3, h4, h5, h6⟩ := h
  exact ⟨h1.keep hb, h2.keep (by omega) hb, h3.below (hb.mono (by omega)), h4.trans (hb.mono h4.size), by have := hb.size; omega, h6.below hb⟩
set_option maxRecDepth 100000 in
set_option maxHeartbeats 4000000 in
theorem cost_any (A : Option Addr) (n cap : Nat) (B : Option Addr) (m c2 : Nat) (ws : List Wsh) (rules : List Int) (G : Option Addr) (gn gc : Nat) (g : List Int) (Bd : Nat) (w : World) (hp : Pb w Bd A n cap B m c2 ws rules) (hB : Bd ≤ w.heap.size)
    (hr : ∀ x ∈ ws, WR x) (hg : ∀ i ∈ g, 0 ≤ i ∧ i < (n : Int)) (hgl : g.length = gn) (hgr : Rd i64v w Bd G g) (hgc : gn ≤ gc) (hgm : gc ≤ maxLen) (ht : Tab w) :
    Calls Tryd.prog 24 #[.agg #[.slice A n cap, .slice B m c2], .slice G gn gc] w fun e w' => e = .returned (.int .i64 (costZ ws g)) ∧ Below w.heap.size w w' := by
  have hl := hp.wl
  have hcm := hp.wm
  have hnc := hp.wc
  unfold maxLen at hcm hgm
  have hb0 := bw_new (Below.refl _ w) (.cells #[.slice A n cap, .slice B m c2] 29)
  have hrel : CostRel w Bd A n cap B m c2 ws rules G g (w.alloc (.cells #[.slice A n cap, .slice B m c2] 29)) :=
    ⟨Blk.new (cs := [.slice A n cap, .slice B m c2]), hp.keep hB hb0, hgr.below (hb0.mono hB), hb0, by simp, ht.alloc _⟩
  have HREL := Lib.hid hrel
  have HL := Lib.hid hl
  have HGL := Lib.hid hgl
  have HR := Lib.hid hr
  have HG := Lib.hid hg
  clear hp hl hgl hr hg hgr hb0 hrel ht
  go_enter Tryd.func24, Tryd.ntmps24
  go_wp2_with fail
  go_loopw [5, 6, 13] (fun a b v wr => ∃ k : Nat, k ≤ gn ∧ v = .int .i64 k ∧ a = .int .i64 (mnL (los ws (g.take k))) ∧ b = .int .i64 (mxL (his ws (g.take k))) ∧ CostRel w Bd A n cap B m c2 ws rules G g wr) (fun _ _ v _ => gn - (intOf v).toNat)
  case atStart => exact ⟨0, by omega, rfl, rfl, rfl, HREL.out⟩
  case round =>
    obtain ⟨k, hk, rfl, rfl, rfl, hrel⟩ := hrel
    have HRL := Lib.hid hrel
    have hs : w.heap.size + 1 ≤ wr.heap.size := hrel.2.2.2.2.1
    clear hrel
    have hbd : ∀ i ∈ g.take k, 0 ≤ i ∧ i < (ws.length : Int) := fun i hi => by rw [HL.out]; exact HG.out i (List.mem_of_mem_take hi)
    have hmn := mnL_bd (a := -300) (b := 727) (by decide) (los_bd HR.out hbd)
    have hmx := mxL_bd (a := -300) (b := 727) (by decide) (his_bd HR.out hbd)
    obtain ⟨u, hu⟩ : ∃ u, u = mnL (los ws (g.take k)) := ⟨_, rfl⟩
    obtain ⟨v, hv⟩ : ∃ v, v = mxL (his ws (g.take k)) := ⟨_, rfl⟩
    rw [← hu] at hmn ⊢
    rw [← hv] at hmx ⊢
    obtain ⟨hu0, hu1⟩ := hmn
    obtain ⟨hv0, hv1⟩ := hmx
    have HU := Lib.hid hu
    have HV := Lib.hid hv
    clear hu hv hbd
    obtain ⟨p0, p1⟩ := HRL.out.1.two
    by_cases hlt : k < gn
    · have hltg : k < g.length := by rw [HGL.out]; exact hlt
      obtain ⟨gb, go, rfl, hgb, hgcell⟩ := rd_at HRL.out.2.2.1 (by omega)
      have hck := hgcell k hltg
      have hin := HG.out g[k] (List.getElem_mem hltg)
      obtain ⟨i, hi⟩ : ∃ i : Nat, (i : Int) = g[k] := ⟨g[k].toNat, by omega⟩
      rw [← hi] at hck hin
      have HI := Lib.hid hi
      have hin' : i < n := by omega
      have hltw : i < ws.length := by rw [HL.out]; exact hin'
      obtain ⟨b, off, rfl, hbd, hcell⟩ := HRL.out.2.1.wr.at_ (by omega)
      have hat := hcell i hltw
      have hwr := HR.out ws[i] (List.getElem_mem hltw)
      obtain ⟨x, hx⟩ : ∃ x, x = ws[i] := ⟨_, rfl⟩
      rw [← hx] at hat hwr
      have HX := Lib.hid (show wat ws g[k] = x by rw [← hi, wat_eq hltw, hx])
      clear hx hcell hgcell hi
      obtain ⟨nm, dv, tn, fn, fd, lo, hi⟩ := x
      obtain ⟨a0, a1, a2, a3, a4, a5, a6⟩ := hat
      obtain ⟨hpr, hlo, hlh, hhi, _⟩ := hwr
      dsimp only at a0 a1 a2 a3 a4 a5 a6 hpr hlo hlh hhi
      have hShift := Lib.hid (fun W h => wshift_any nm dv tn fn fd lo hi W h hpr)
      obtain ⟨s, hs'⟩ : ∃ s, s = shF fn fd := ⟨_, rfl⟩
      have hsb := shF_bd fn fd
      rw [← hs'] at hsb hShift
      obtain ⟨hsb0, hsb1⟩ := hsb
      have HLO := Lib.hid (show loH (wat ws g[k]) = lo + s by rw [HX.out, hs']; rfl)
      have HHI := Lib.hid (show hiH (wat ws g[k]) = hi + s by rw [HX.out, hs']; rfl)
      have hbw : b < wr.heap.size := by omega
      have hgbw : gb < wr.heap.size := by omega
      clear hs' hpr hin
      go_wp2_with fail
      refine (hShift.out _ (HRL.out.2.2.2.2.2.alloc _)).mono ?_
      rintro e w2 ⟨rfl, hb2⟩
      have HX2 := Lib.hid ((Blk.new (w := wr) (t := 48) (cs := [.string nm, .int .i64 dv, .string tn, .int .i64 fn, .int .i64 fd, .int .i64 lo, .int .i64 hi])).keep hb2)
      have HR2 := Lib.hid ((HRL.out.below hB (bw_new (Below.refl _ _) (.cells #[.string nm, .int .i64 dv, .string tn, .int .i64 fn, .int .i64 fd, .int .i64 lo, .int .i64 hi] 48))).below hB hb2)
      obtain ⟨x0, x1, x2, x3, x4, x5, x6⟩ := HX2.out.wish
      clear hb2 a0 a1 a2 a3 a4 a5 a6 hck p0 p1 x0 x1 x2 x3 x4
      have hw1 : IntKind.i64.wrap (lo + s) = lo + s := IntWalk.i64_in _ (by omega)
      have hw2 : IntKind.i64.wrap (hi + s) = hi + s := IntWalk.i64_in _ (by omega)
      by_cases hk0 : k = 0
      · have hkb : ((k : Int) == 0) = true := by rw [beq_iff_eq]; omega
        have HMN := Lib.hid (show lo + s = mnL (los ws (g.take (k + 1))) by rw [take_snoc g k hltg, los_snoc, HLO.out, show g.take k = [] by rw [hk0]; rfl]; rfl)
        have HMX := Lib.hid (show hi + s = mxL (his ws (g.take (k + 1))) by rw [take_snoc g k hltg, his_snoc, HHI.out, show g.take k = [] by rw [hk0]; rfl]; rfl)
        clear hk0
        go_wp2_with fail
        go_quiet (fail)
        go_wp2_with fail
        go_quiet (fail)
        go_wp2
        go_roundw
        case rel => exact ⟨k + 1, by omega, by go_num, by rw [HMN.out], by rw [HMX.out], HR2.out.below hB (below_drewN _ _ _)⟩
        case measure => simp [intOf]; omega
      · have hkb : ((k : Int) == 0) = false := by rw [beq_eq_false_iff_ne]; omega
        have HMN := Lib.hid (show min u (lo + s) = mnL (los ws (g.take (k + 1))) by rw [take_snoc g k hltg, los_snoc, mnL_snoc _ _ (los_ne hltg hk0), ← HU.out, HLO.out])
        have HMX := Lib.hid (show max v (hi + s) = mxL (his ws (g.take (k + 1))) by rw [take_snoc g k hltg, his_snoc, mxL_snoc _ _ (his_ne hltg hk0), ← HV.out, HHI.out])
        clear hk0
        go_wp2_with fail
        go_quiet (fail)
        go_wp2
        go_roundw
        case rel => exact ⟨k + 1, by omega, by go_num, by rw [HMN.out], by rw [HMX.out], HR2.out.below hB (below_drewN _ _ _)⟩
        case measure => simp [intOf]; omega
    · have hkg : k = gn := by omega
      have HC := Lib.hid (show v - u + 1 = costZ ws g by rw [HU.out, HV.out, List.take_of_length_le (by rw [HGL.out]; omega)]; rfl)
      go_wp2
      go_ret
      exact ⟨ret_int HC.out, HRL.out.2.2.2.1⟩
end Go.Proofs.YtkamepalomkpbaaDoor
namespace Go.Proofs.YtkamepalomkpbaaDoor
open Go.RowKit
def RetIdx (L : List Int) (v : Int) (w : World) (e : Ending) (w' : World) : Prop := w = w' ∧ ∃ z : Int, e = .returned (.int .i64 z) ∧ ((0 ≤ z ∧ v ∈ L) ∨ (z = -1 ∧ v ∉ L))
theorem mem_take_succ {L : List Int} {k : Nat} (h : k < L.length) {v : Int} (h0 : v ∉ L.take k) (h1 : v ≠ L[k]) : v ∉ L.take (k + 1) := by
  rw [take_snoc L k h, List.mem_append]
  rintro (h2 | h2)
  · exact h0 h2
  · exact h1 (by simpa using h2)
set_option maxHeartbeats 1000000 in
theorem index_any (L : List Int) (v : Int) (A : Option Addr) (n cap Bd : Nat) (w : World) (hl : L.length = n) (hr : Rd i64v w Bd A L) (hc : n ≤ cap) (hm : cap ≤ maxLen) :
    Calls Tryd.prog 48 #[.slice A n cap, .int .i64 v] w (RetIdx L v w) := by
  subst hl
  unfold maxLen at hm
  go_enter Tryd.func48, Tryd.ntmps48
  go_wp2
  go_loop [8] (fun i => ∃ k : Nat, k ≤ L.length ∧ i = .int .i64 k ∧ Lib.Kept (v ∉ L.take k)) (fun i => L.length - (intOf i).toNat)
  case atStart => exact ⟨0, by omega, rfl, (show v ∉ L.take 0 by simp)⟩
  case round =>
    obtain ⟨k, hk, rfl, hno⟩ := hrel
    have HNO := Lib.hid hno
    clear hno
    by_cases hlt : k < L.length
    · obtain ⟨b, off, rfl, hb, hcell⟩ := rd_at hr (by omega)
      have hck := hcell k hlt
      obtain ⟨x, hx⟩ : ∃ x, x = L[k] := ⟨_, rfl⟩
      rw [← hx] at hck
      have HX := Lib.hid hx
      clear hx hcell hr
      by_cases hv : v = x
      · subst hv
        go_wp2
        go_ret
        exact ⟨rfl, k, rfl, .inl ⟨by omega, by rw [HX.out]; exact List.getElem_mem hlt⟩⟩
      · have hvb : (v == x) = false := by rw [beq_eq_false_iff_ne]; exact hv
        have HV := Lib.hid hv
        clear hv
        go_wp2
        go_round
        case rel => exact ⟨k + 1, by omega, by go_num, mem_take_succ hlt HNO.out (by rw [← HX.out]; exact HV.out)⟩
        case measure => simp [intOf]; omega
    · have HN := Lib.hid (show v ∉ L by
        have h1 : v ∉ L.take k := HNO.out
        rwa [List.take_of_length_le (by omega)] at h1)
      go_wp2
      go_ret
      exact ⟨rfl, -1, rfl, .inr ⟨rfl, HN.out⟩⟩
theorem contains_any (L : List Int) (v : Int) (A : Option Addr) (n cap Bd : Nat) (w : World) (hl : L.length = n) (hr : Rd i64v w Bd A L) (hc : n ≤ cap) (hm : cap ≤ maxLen) :
    Calls Tryd.prog 42 #[.slice A n cap, .int .i64 v] w fun e w' => e = .returned (.bool (decide (v ∈ L))) ∧ w = w' := by
  have hi := Lib.hid (fun W h => index_any L v A n cap Bd W hl h hc hm)
  go_enter Tryd.func42, Tryd.ntmps42
  go_wp2_with fail
  refine (hi.out _ hr).mono ?_
  rintro e w' ⟨rfl, z, rfl, ⟨h0, h1⟩ | ⟨h0, h1⟩⟩
  · have H1 := Lib.hid h1
    clear h1
    go_wp2
    go_ret
    exact ⟨ret_bool (decide_eq_true H1.out).symm, rfl⟩
  · subst h0
    have H1 := Lib.hid h1
    clear h1
    go_wp2
    go_ret
    exact ⟨ret_bool (decide_eq_false H1.out).symm, rfl⟩
set_option maxRecDepth 100000 in
set_option maxHeartbeats 1000000 in
theorem both_any (A : Option Addr) (n cap : Nat) (B : Option Addr) (m c2 : Nat) (ws : List Wsh) (rules : List Int) (G : Option Addr) (gn gc : Nat) (g : List Int) (Bd : Nat) (w : World) (hp : Pb w Bd A n cap B m c2 ws rules) (hB : Bd ≤ w.heap.size)
    (hgl : g.length = gn) (hgr : Rd i64v w Bd G g) (hgc : gn ≤ gc) (hgm : gc ≤ maxLen) :
    Calls Tryd.prog 23 #[.agg #[.slice A n cap, .slice B m c2], .slice G gn gc] w fun e w' => e = .returned (.int .i64 (bothE ws rules g)) ∧ Below w.heap.size w w' := by
  have hE : bothE ws rules g = if pbE ws rules ≠ 0 then pbE ws rules else gpE n g := by unfold bothE; rw [hp.wl]
  have hb0 := bw_new (Below.refl _ w) (.cells #[.slice A n cap, .slice B m c2] 29)
  have hbx : Blk (w.alloc (.cells #[.slice A n cap, .slice B m c2] 29)) w.heap.size 29 [.slice A n cap, .slice B m c2] := Blk.new
  have H1 := Lib.hid (wcheck_any A n cap B m c2 ws rules Bd _ (hp.keep hB hb0) (by simp; omega))
  have HG := Lib.hid (hgr.below (hb0.mono hB))
  have HB := Lib.hid hbx
  have HB0 := Lib.hid hb0
  obtain ⟨z, hz⟩ : ∃ z, z = pbE ws rules := ⟨_, rfl⟩
  rw [← hz] at H1 hE
  have HE := Lib.hid hE
  clear hE hz hp hgr hb0 hbx
  by_cases hz0 : z = 0
  · have hz1 : (z == 0) = true := by simpa using hz0
    have hz2 : (z != 0) = false := by simpa using hz0
    have HE2 := Lib.hid (show bothE ws rules g = gpE n g by rw [HE.out, if_neg (by omega)])
    clear hz0
    go_enter Tryd.func23, Tryd.ntmps23
    go_wp2_with fail
    refine H1.out.mono ?_
    rintro e w1 ⟨rfl, hk⟩
    obtain ⟨p0, p1⟩ := (HB.out.keep hk).two
    have HG1 := Lib.hid (HG.out.below (hk.mono (by simp; omega)))
    have HB1 := Lib.hid (HB0.out.trans (hk.mono (by simp)))
    clear hk
    go_wp2_with fail
    refine (right_any A n cap B m c2 g G gn gc Bd _ hgl HG1.out hgc hgm (Nat.le_trans hB HB1.out.size)).mono ?_
    rintro e w2 ⟨rfl, hk⟩
    go_wp2
    go_ret
    exact ⟨ret_int HE2.out.symm, HB1.out.trans (hk.mono HB1.out.size)⟩
  · have hz1 : (z == 0) = false := by simpa using hz0
    have hz2 : (z != 0) = true := by simpa using hz0
    have HE2 := Lib.hid (show bothE ws rules g = z by rw [HE.out, if_pos hz0])
    clear hz0
    go_enter Tryd.func23, Tryd.ntmps23
    go_wp2_with fail
    refine H1.out.mono ?_
    rintro e w1 ⟨rfl, hk⟩
    have HB1 := Lib.hid (HB0.out.trans (hk.mono (by simp)))
    clear hk
    go_wp2
    go_ret
    exact ⟨ret_int HE2.out.symm, HB1.out⟩
theorem bothE_zero {ws : List Wsh} {rules g : List Int} (h : bothE ws rules g = 0) : pbE ws rules = 0 ∧ gpE ws.length g = 0 := by
  unfold bothE at h
  split at h
  · omega
  · exact ⟨by omega, h⟩
theorem gpE_zero {n : Nat} {g : List Int} (h : gpE n g = 0) : g ≠ [] ∧ ∀ i ∈ g, 0 ≤ i ∧ i < (n : Int) := by
  unfold gpE at h
  split at h
  · omega
  · rename_i h0
    exact ⟨fun e => h0 (by rw [e]; rfl), sqE_mem (by decide) h⟩
set_option maxRecDepth 100000 in
set_option maxHeartbeats 1000000 in
theorem wcost_any (A : Option Addr) (n cap : Nat) (B : Option Addr) (m c2 : Nat) (ws : List Wsh) (rules : List Int) (G : Option Addr) (gn gc : Nat) (g : List Int) (Bd : Nat) (w : World) (hp : Pb w Bd A n cap B m c2 ws rules) (hB : Bd ≤ w.heap.size)
    (hgl : g.length = gn) (hgr : Rd i64v w Bd G g) (hgc : gn ≤ gc) (hgm : gc ≤ maxLen) (ht : Tab w) :
    Calls Tryd.prog 10 #[.agg #[.slice A n cap, .slice B m c2], .slice G gn gc] w fun e w' => e = .returned (.tuple #[.int .i64 (if bothE ws rules g = 0 then costZ ws g else 0), .int .i64 (bothE ws rules g)]) ∧ Below w.heap.size w w' := by
  have hb0 := bw_new (Below.refl _ w) (.cells #[.slice A n cap, .slice B m c2] 29)
  have hbx : Blk (w.alloc (.cells #[.slice A n cap, .slice B m c2] 29)) w.heap.size 29 [.slice A n cap, .slice B m c2] := Blk.new
  have HP := Lib.hid (hp.keep hB hb0)
  have HG := Lib.hid (hgr.below (hb0.mono hB))
  have H1 := Lib.hid (both_any A n cap B m c2 ws rules G gn gc g Bd _ HP.out (by simp; omega) hgl HG.out hgc hgm)
  have HT := Lib.hid (ht.below hb0)
  have HB := Lib.hid hbx
  have HB0 := Lib.hid hb0
  have HWL := Lib.hid hp.wl
  have HZ := Lib.hid (@bothE_zero ws rules g)
  obtain ⟨z, hz⟩ : ∃ z, z = bothE ws rules g := ⟨_, rfl⟩
  rw [← hz] at H1 HZ ⊢
  clear hz hp hgr hb0 hbx ht
  by_cases hz0 : z = 0
  · have hz1 : (z == 0) = true := by simpa using hz0
    have hz2 : (z != 0) = false := by simpa using hz0
    subst hz0
    have hzz := HZ.out rfl
    have H2 := Lib.hid (fun W hp hB hgr ht => cost_any A n cap B m c2 ws rules G gn gc g Bd W hp hB (pbE_right hzz.1) (by have := (gpE_zero hzz.2).2; rwa [HWL.out] at this) hgl hgr hgc hgm ht)
    rw [if_pos rfl]
    obtain ⟨c, hc⟩ : ∃ c, c = costZ ws g := ⟨_, rfl⟩
    rw [← hc] at H2 ⊢
    clear hzz hc
    go_enter Tryd.func10, Tryd.ntmps10
    go_wp2_with fail
    refine H1.out.mono ?_
    rintro e w1 ⟨rfl, hk⟩
    obtain ⟨p0, p1⟩ := (HB.out.keep hk).two
    have HG1 := Lib.hid (HG.out.below (hk.mono (by simp; omega)))
    have HP1 := Lib.hid (HP.out.keep (by simp; omega) hk)
    have HT1 := Lib.hid (HT.out.below hk)
    have HB1 := Lib.hid (HB0.out.trans (hk.mono (by simp)))
    clear hk
    go_wp2_with fail
    refine (H2.out _ HP1.out (Nat.le_trans hB HB1.out.size) HG1.out HT1.out).mono ?_
    rintro e w2 ⟨rfl, hk⟩
    go_wp2
    go_ret2
    exact ⟨rfl, HB1.out.trans (hk.mono HB1.out.size)⟩
  · have hz1 : (z == 0) = false := by simpa using hz0
    have hz2 : (z != 0) = true := by simpa using hz0
    rw [if_neg hz0]
    clear hz0
    go_enter Tryd.func10, Tryd.ntmps10
    go_wp2_with fail
    refine H1.out.mono ?_
    rintro e w1 ⟨rfl, hk⟩
    have HB1 := Lib.hid (HB0.out.trans (hk.mono (by simp)))
    clear hk
    go_wp2
    go_ret2
    exact ⟨rfl, HB1.out⟩
end Go.Proofs.YtkamepalomkpbaaDoor
