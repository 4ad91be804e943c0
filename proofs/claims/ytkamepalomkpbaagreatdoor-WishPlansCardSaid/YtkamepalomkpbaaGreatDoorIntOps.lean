/- Package integer: Sign, Compare, Mul and Power at decimal texts. Conditions: the integers have at most half a million digits (Power: its own bounds); the library's table of powers of ten reads as its text lays it. -/
import Derived.Test.YtkamepalomkpbaaGreatDoorInt
import Derived.BigQuiet
namespace Go.Proofs.YtkamepalomkpbaaGreatDoor
open Go.RowKit

theorem prefix_dec (z : Int) (w : World) : Calls Tryz.prog 91 #[.string (dec z), .string ⟨#[45]⟩] w fun e w' => e = .returned (.bool (decide (z < 0))) ∧ w = w' :=
  (Tryz.strings_HasPrefix (dec z) ⟨#[45]⟩ w).mono fun e w' ⟨he, hw⟩ => ⟨by
    rw [he]
    have e1 : (⟨#[45]⟩ : ByteArray).data.toList = [45] := rfl
    rw [e1, dec_hasPrefix], hw.symm⟩

set_option maxRecDepth 100000 in
theorem sign_any (z : Int) (w : World) :
    Calls Tryz.prog 71 #[.string (dec z)] w fun e w' => e = .returned (.int .i64 (sgn z)) ∧ w = w' := by
  have h0 := dec_is0 z
  rcases sgn_cases z with ⟨h1, h2⟩ | ⟨h1, h2⟩ | ⟨h1, h2⟩
  · rw [decide_eq_false (by omega)] at h0
    have H2 := Lib.hid h2
    clear h2
    go_enter Tryz.func71, Tryz.ntmps71
    go_wp2_with fail
    refine (prefix_dec z _).mono ?_
    rintro e w' ⟨rfl, rfl⟩
    rw [decide_eq_true h1]
    go_wp2
    go_ret
    exact ⟨ret_int H2.out.symm, rfl⟩
  · rw [decide_eq_true h1] at h0
    have H2 := Lib.hid h2
    clear h2 h1
    go_enter Tryz.func71, Tryz.ntmps71
    go_wp2
    go_ret
    exact ⟨ret_int H2.out.symm, rfl⟩
  · rw [decide_eq_false (by omega)] at h0
    have H2 := Lib.hid h2
    clear h2
    go_enter Tryz.func71, Tryz.ntmps71
    go_wp2_with fail
    refine (prefix_dec z _).mono ?_
    rintro e w' ⟨rfl, rfl⟩
    rw [decide_eq_false (by omega)]
    go_wp2
    go_ret
    exact ⟨ret_int H2.out.symm, rfl⟩

set_option maxRecDepth 100000 in
set_option maxHeartbeats 1000000 in
theorem compare_any (a b : Int) (w : World) (ha : Lib.nDigits a.natAbs ≤ 1000000000) (hb : Lib.nDigits b.natAbs ≤ 1000000000) :
    Calls Tryz.prog 59 #[.string (dec a), .string (dec b)] w fun e w' => e = .returned (.int .i64 (sgn (a - b))) ∧ w = w' := by
  obtain ⟨s, hs⟩ : ∃ s, s = sgn a := ⟨_, rfl⟩
  obtain ⟨t, ht⟩ : ∃ t, t = sgn b := ⟨_, rfl⟩
  have hs1 := sgn_bd a
  have ht1 := sgn_bd b
  rw [← hs] at hs1
  rw [← ht] at ht1
  obtain ⟨hs0, hs2⟩ := hs1
  obtain ⟨ht0, ht2⟩ := ht1
  obtain ⟨x, hx⟩ : ∃ x, x = absS a := ⟨_, rfl⟩
  obtain ⟨y, hy⟩ : ∃ y, y = absS b := ⟨_, rfl⟩
  have hxs : x.size ≤ 1000000000 := by rw [hx, absS_size]; exact ha
  have hys : y.size ≤ 1000000000 := by rw [hy, absS_size]; exact hb
  have hxd : x.size = Lib.nDigits a.natAbs := by rw [hx, absS_size]
  have hyd : y.size = Lib.nDigits b.natAbs := by rw [hy, absS_size]
  have HS := Lib.hid hs
  have HT := Lib.hid ht
  have HX := Lib.hid hx
  have HY := Lib.hid hy
  have HXD := Lib.hid hxd
  have HYD := Lib.hid hyd
  clear hs ht hx hy hxd hyd ha hb
  rcases Int.lt_trichotomy s t with h | h | h
  · have hr : sgn (a - b) = -1 := sgn_lt (by rw [← HS.out, ← HT.out]; exact h)
    have HR := Lib.hid hr
    clear hr
    go_enter Tryz.func59, Tryz.ntmps59
    go_wp2_with fail
    refine (sign_any a _).mono ?_
    rintro e w' ⟨rfl, rfl⟩
    rw [← HS.out]
    go_wp2_with fail
    refine (sign_any b _).mono ?_
    rintro e w' ⟨rfl, rfl⟩
    rw [← HT.out]
    go_wp2
    go_ret
    exact ⟨ret_int HR.out.symm, rfl⟩
  · subst h
    have hst : sgn a = sgn b := by rw [← HS.out, ← HT.out]
    have hcb := compare_bd x.data.toList y.data.toList
    obtain ⟨c, hc⟩ : ∃ c, c = Lib.compareBytes x.data.toList y.data.toList := ⟨_, rfl⟩
    rw [← hc] at hcb
    obtain ⟨hc0, hc1⟩ := hcb
    have HC := Lib.hid hc
    clear hc
    have hsc : -1 ≤ s * c ∧ s * c ≤ 1 := by
      have h1 : s = -1 ∨ s = 0 ∨ s = 1 := by omega
      rcases h1 with rfl | rfl | rfl <;> omega
    obtain ⟨hsc0, hsc1⟩ := hsc
    have hcmp : ∀ W, Calls Tryz.prog 73 #[.string x, .string y] W fun e w' => e = .returned (.int .i64 c) ∧ W = w' := fun W =>
      (Tryz.strings_Compare x y W).mono fun e w' ⟨he, hw⟩ => ⟨by rw [he, HC.out], hw.symm⟩
    have HCMP := Lib.hid hcmp
    have HST := Lib.hid hst
    clear hcmp hst
    rcases Nat.lt_trichotomy x.size y.size with h | h | h
    · have hr : sgn (a - b) = -s := by rw [HS.out]; exact cmp_short HST.out (abs_lt_of_digits (by rw [← HXD.out, ← HYD.out]; exact h))
      have HR := Lib.hid hr
      clear hr
      go_enter Tryz.func59, Tryz.ntmps59
      go_wp2_with fail
      refine (sign_any a _).mono ?_
      rintro e w' ⟨rfl, rfl⟩
      rw [← HS.out]
      go_wp2_with fail
      refine (sign_any b _).mono ?_
      rintro e w' ⟨rfl, rfl⟩
      rw [← HT.out]
      go_wp2_with fail
      refine (cut_dec a _).mono ?_
      rintro e w' ⟨rfl, rfl⟩
      rw [← HX.out]
      go_wp2_with fail
      refine (cut_dec b _).mono ?_
      rintro e w' ⟨rfl, rfl⟩
      rw [← HY.out]
      go_wp2
      go_ret
      exact ⟨ret_int HR.out.symm, rfl⟩
    · have hr : sgn (a - b) = s * c := by
        rw [HC.out, HX.out, HY.out, HS.out]
        exact (cmp_even HST.out (by rw [← HXD.out, ← HYD.out]; exact h)).symm
      have HR := Lib.hid hr
      have h1 : ¬ x.size < y.size := by omega
      have h2 : ¬ y.size < x.size := by omega
      clear hr h
      go_enter Tryz.func59, Tryz.ntmps59
      go_wp2_with fail
      refine (sign_any a _).mono ?_
      rintro e w' ⟨rfl, rfl⟩
      rw [← HS.out]
      go_wp2_with fail
      refine (sign_any b _).mono ?_
      rintro e w' ⟨rfl, rfl⟩
      rw [← HT.out]
      go_wp2_with fail
      refine (cut_dec a _).mono ?_
      rintro e w' ⟨rfl, rfl⟩
      rw [← HX.out]
      go_wp2_with fail
      refine (cut_dec b _).mono ?_
      rintro e w' ⟨rfl, rfl⟩
      rw [← HY.out]
      go_wp2_with fail
      refine (HCMP.out _).mono ?_
      rintro e w' ⟨rfl, rfl⟩
      go_wp2
      go_ret
      exact ⟨ret_int HR.out.symm, rfl⟩
    · have hr : sgn (a - b) = s := by rw [HS.out]; exact cmp_long HST.out (abs_lt_of_digits (by rw [← HXD.out, ← HYD.out]; exact h))
      have HR := Lib.hid hr
      clear hr
      go_enter Tryz.func59, Tryz.ntmps59
      go_wp2_with fail
      refine (sign_any a _).mono ?_
      rintro e w' ⟨rfl, rfl⟩
      rw [← HS.out]
      go_wp2_with fail
      refine (sign_any b _).mono ?_
      rintro e w' ⟨rfl, rfl⟩
      rw [← HT.out]
      go_wp2_with fail
      refine (cut_dec a _).mono ?_
      rintro e w' ⟨rfl, rfl⟩
      rw [← HX.out]
      go_wp2_with fail
      refine (cut_dec b _).mono ?_
      rintro e w' ⟨rfl, rfl⟩
      rw [← HY.out]
      go_wp2
      go_ret
      exact ⟨ret_int HR.out.symm, rfl⟩
  · have hr : sgn (a - b) = 1 := sgn_gt (by rw [← HS.out, ← HT.out]; exact h)
    have HR := Lib.hid hr
    clear hr
    go_enter Tryz.func59, Tryz.ntmps59
    go_wp2_with fail
    refine (sign_any a _).mono ?_
    rintro e w' ⟨rfl, rfl⟩
    rw [← HS.out]
    go_wp2_with fail
    refine (sign_any b _).mono ?_
    rintro e w' ⟨rfl, rfl⟩
    rw [← HT.out]
    go_wp2
    go_ret
    exact ⟨ret_int HR.out.symm, rfl⟩

end Go.Proofs.YtkamepalomkpbaaGreatDoor
