/- Part 20 of 47 of the proof of the law: contracts of the functions that it reaches, and plain facts. Conditions: those that each contract names. -/
import Derived.Test.YtendjepcjmfmfaaGreatDoorOrdB13
import Derived.Test.YtendjepcjmfmfaaGreatDoorOrdB17
import Derived.Test.YtendjepcjmfmfaaGreatDoorOrdB18
import Derived.Deep.RegionHeld3
import Derived.Test.YtendjepcjmfmfaaGreatDoorOrdB19
namespace Go.Proofs.YtendjepcjmfmfaaGreatDoor
open Go.RowKit
theorem abs_lt18 {a : Int} (h : Lib.nDigits a.natAbs ≤ 18) : -999999999999999999 ≤ a ∧ a ≤ 999999999999999999 := by
 have h1 := Lib.lt_pow_nDigits a.natAbs
 have h2 : (10 : Nat) ^ Lib.nDigits a.natAbs ≤ 10 ^ 18 := Nat.pow_le_pow_right (by decide) h
 omega
theorem add_same {a b : Int} (h : decide (a < 0) = decide (b < 0)) : (if decide (a < 0) = true then -((a.natAbs + b.natAbs : Nat) : Int) else ((a.natAbs + b.natAbs : Nat) : Int)) = a + b := by
 by_cases ha : a < 0 <;> by_cases hb : b < 0 <;> simp [ha, hb] at h ⊢ <;> omega
theorem add_first {a b : Int} (h : decide (a < 0) ≠ decide (b < 0)) (hle : b.natAbs ≤ a.natAbs) : (if decide (a < 0) = true then -((a.natAbs - b.natAbs : Nat) : Int) else ((a.natAbs - b.natAbs : Nat) : Int)) = a + b := by
 by_cases ha : a < 0 <;> by_cases hb : b < 0 <;> simp [ha, hb] at h ⊢ <;> omega
theorem add_second {a b : Int} (h : decide (a < 0) ≠ decide (b < 0)) (hlt : a.natAbs < b.natAbs) : (if decide (b < 0) = true then -((b.natAbs - a.natAbs : Nat) : Int) else ((b.natAbs - a.natAbs : Nat) : Int)) = a + b := by
 by_cases ha : a < 0 <;> by_cases hb : b < 0 <;> simp [ha, hb] at h ⊢ <;> omega
theorem limbs_len_add (p q : Nat) : (limbs (p + q)).length ≤ (limbs p).length + (limbs q).length + 1 := by
 apply limbs_len_le
 have h1 := limbs_len_lt p
 have h2 := limbs_len_lt q
 have h3 : (1000000000 : Nat) ^ (limbs p).length ≤ 1000000000 ^ ((limbs p).length + (limbs q).length) := Nat.pow_le_pow_right (by decide) (by omega)
 have h4 : (1000000000 : Nat) ^ (limbs q).length ≤ 1000000000 ^ ((limbs p).length + (limbs q).length) := Nat.pow_le_pow_right (by decide) (by omega)
 rw [Nat.pow_succ]
 omega
set_option maxRecDepth 100000 in
set_option maxHeartbeats 4000000 in
theorem add_any (a b : Int) (w : World) (ht : Tab w) (ha : Lib.nDigits a.natAbs ≤ 400000) (hb : Lib.nDigits b.natAbs ≤ 400000) :
  Calls Tryz.prog 137 #[.string (dec a), .string (dec b)] w fun e w' => e = .returned (.string (dec (a + b))) ∧ Below w.heap.size w w' := by
 have hla := Nat.le_trans (limbs_len_digits a.natAbs) ha
 have hlb := Nat.le_trans (limbs_len_digits b.natAbs) hb
 have hS := limbs_len_add a.natAbs b.natAbs
 have hM1 : (limbs (a.natAbs - b.natAbs)).length ≤ (limbs a.natAbs).length := limbs_len_mono (Nat.sub_le _ _)
 have hM2 : (limbs (b.natAbs - a.natAbs)).length ≤ (limbs b.natAbs).length := limbs_len_mono (Nat.sub_le _ _)
 have hf1 := @add_same a b
 have hf2 := @add_first a b
 have hf3 := @add_second a b
 obtain ⟨p, hp⟩ : ∃ p, p = decide (a < 0) := ⟨_, rfl⟩
 obtain ⟨q, hq⟩ : ∃ q, q = decide (b < 0) := ⟨_, rfl⟩
 rw [← hp, ← hq] at hf1 hf2 hf3
 obtain ⟨m, hm⟩ : ∃ m, m = (limbs a.natAbs).length := ⟨_, rfl⟩
 obtain ⟨n, hn⟩ : ∃ n, n = (limbs b.natAbs).length := ⟨_, rfl⟩
 have hsa : ∀ W, Calls Tryz.prog 88 #[.string (dec a)] W fun e W' => ∃ A cap, e = .returned (.tuple #[.slice A m cap, .bool p]) ∧ Rd u64v W' W'.heap.size A (limbs a.natAbs) ∧ Below W.heap.size W W' := fun W =>
  (split_any a W (by omega)).mono fun e W' ⟨A, cap, he, hr, _, hb⟩ => ⟨A, cap, by rw [he, hm, hp], hr, hb⟩
 have hsb : ∀ W, Calls Tryz.prog 88 #[.string (dec b)] W fun e W' => ∃ A cap, e = .returned (.tuple #[.slice A n cap, .bool q]) ∧ Rd u64v W' W'.heap.size A (limbs b.natAbs) ∧ Below W.heap.size W W' := fun W =>
  (split_any b W (by omega)).mono fun e W' ⟨A, cap, he, hr, _, hb⟩ => ⟨A, cap, by rw [he, hn, hq], hr, hb⟩
 have hpl : ∀ (A1 A2 : Option Addr) (c1 c2 : Nat) W, Rd u64v W W.heap.size A1 (limbs a.natAbs) → Rd u64v W W.heap.size A2 (limbs b.natAbs) → Calls Tryz.prog 156 #[.slice A1 m c1, .slice A2 n c2] W (RetMag (a.natAbs + b.natAbs) W) := fun A1 A2 c1 c2 W h1 h2 => by
  have := mplus_any (limbs a.natAbs) (limbs b.natAbs) A1 A2 c1 c2 W h1 h2 (limbs_small _) (limbs_small _) (by omega) (by omega)
  rwa [lv_limbs, lv_limbs, ← hm, ← hn] at this
 have hcp : ∀ (A1 A2 : Option Addr) (c1 c2 : Nat) W, Rd u64v W W.heap.size A1 (limbs a.natAbs) → Rd u64v W W.heap.size A2 (limbs b.natAbs) → Calls Tryz.prog 157 #[.slice A1 m c1, .slice A2 n c2] W fun e w' => e = .returned (.int .i64 (sgnI ((a.natAbs : Int) - b.natAbs))) ∧ Below W.heap.size W w' := fun A1 A2 c1 c2 W h1 h2 => by
  have := mcmp_any a.natAbs b.natAbs A1 A2 c1 c2 W h1 h2 (by omega) (by omega)
  rwa [← hm, ← hn] at this
 have hl1 : b.natAbs ≤ a.natAbs → ∀ (A1 A2 : Option Addr) (c1 c2 : Nat) W, Rd u64v W W.heap.size A1 (limbs a.natAbs) → Rd u64v W W.heap.size A2 (limbs b.natAbs) → Calls Tryz.prog 158 #[.slice A1 m c1, .slice A2 n c2] W (RetMag (a.natAbs - b.natAbs) W) := fun hle A1 A2 c1 c2 W h1 h2 => by
  have := mless_any (limbs a.natAbs) (limbs b.natAbs) A1 A2 c1 c2 W h1 h2 (limbs_small _) (limbs_small _) (by omega) (by rw [lv_limbs, lv_limbs]; exact hle) (limbs_len_mono hle)
  rwa [lv_limbs, lv_limbs, ← hm, ← hn] at this
 have hl2 : a.natAbs ≤ b.natAbs → ∀ (A1 A2 : Option Addr) (c1 c2 : Nat) W, Rd u64v W W.heap.size A1 (limbs b.natAbs) → Rd u64v W W.heap.size A2 (limbs a.natAbs) → Calls Tryz.prog 158 #[.slice A1 n c1, .slice A2 m c2] W (RetMag (b.natAbs - a.natAbs) W) := fun hle A1 A2 c1 c2 W h1 h2 => by
  have := mless_any (limbs b.natAbs) (limbs a.natAbs) A1 A2 c1 c2 W h1 h2 (limbs_small _) (limbs_small _) (by omega) (by rw [lv_limbs, lv_limbs]; exact hle) (limbs_len_mono hle)
  rwa [lv_limbs, lv_limbs, ← hm, ← hn] at this
 obtain ⟨s, hs⟩ : ∃ s, s = sgnI ((a.natAbs : Int) - b.natAbs) := ⟨_, rfl⟩
 have hs2 : (b.natAbs ≤ a.natAbs → 0 ≤ s) ∧ (a.natAbs < b.natAbs → s < 0) := by
  rw [hs]; unfold sgnI
  constructor
  ·intro h; split
   ·omega
   ·split
    ·omega
    ·omega
  ·intro h; split
   ·omega
   ·split
    ·omega
    ·omega
 rw [← hs] at hcp
 have HSA := Lib.hid hsa
 have HSB := Lib.hid hsb
 have HPL := Lib.hid hpl
 have HCP := Lib.hid hcp
 have HL1 := Lib.hid hl1
 have HL2 := Lib.hid hl2
 have HF1 := Lib.hid hf1
 have HF2 := Lib.hid hf2
 have HF3 := Lib.hid hf3
 have HS2 := Lib.hid hs2
 have HLS := Lib.hid (show (limbs (a.natAbs + b.natAbs)).length ≤ 1000000 by omega)
 have HLM1 := Lib.hid (show (limbs (a.natAbs - b.natAbs)).length ≤ 1000000 by omega)
 have HLM2 := Lib.hid (show (limbs (b.natAbs - a.natAbs)).length ≤ 1000000 by omega)
 clear hsa hsb hpl hcp hl1 hl2 hf1 hf2 hf3 hs hs2 hm hn hp hq hS hM1 hM2 hla hlb
 by_cases h18a : Lib.nDigits a.natAbs ≤ 18
 ·by_cases h18b : Lib.nDigits b.natAbs ≤ 18
  ·obtain ⟨ba0, ba1⟩ := abs_lt18 h18a
   obtain ⟨bb0, bb1⟩ := abs_lt18 h18b
   go_enter Tryz.func137, Tryz.ntmps137
   go_wp2_with fail
   refine (quick_yes a 18 _ (by omega) (by omega)).mono ?_
   rintro e w1 ⟨rfl, hb1⟩
   have ht1 := ht.below hb1
   go_wp2_with fail
   refine (quick_yes b 18 _ (by omega) (by omega)).mono ?_
   rintro e w2 ⟨rfl, hb2⟩
   have ht2 := ht1.below hb2
   go_wp2_with fail
   refine (of_any (a + b) (by omega) (by omega) _ ht2).mono ?_
   rintro e w3 ⟨rfl, hb3⟩
   have hb := (hb1.trans (hb2.mono hb1.size)).trans (hb3.mono (Nat.le_trans hb1.size hb2.size))
   clear hb1 hb2 hb3
   go_wp2
   go_ret
   exact ⟨rfl, hb⟩
  ·by_cases hpq : p = q
   ·have hpb : (p == q) = true := by simpa using hpq
    have HFIN := Lib.hid (HF1.out hpq)
    clear hpq
    go_enter Tryz.func137, Tryz.ntmps137
    go_wp2_with fail
    refine (quick_yes a 18 _ (by omega) (by omega)).mono ?_
    rintro e w1 ⟨rfl, hb0⟩
    go_wp2_with fail
    refine (quick_no b 18 _ (by omega) (by omega)).mono ?_
    rintro e w2 ⟨rfl, rfl⟩
    go_wp2_with fail
    refine (HSA.out _).mono ?_
    rintro e w4 ⟨A1, c1, rfl, hr1, hbs⟩
    have hbb := hb0.trans (hbs.mono hb0.size)
    clear hbs hb0
    go_wp2_with fail
    refine (HSB.out _).mono ?_
    rintro e w5 ⟨A2, c2, rfl, hr2, hbs⟩
    have hr1 := (hr1.below hbs).more hbs.size
    have hb5 := hbb.trans (hbs.mono hbb.size)
    clear hbs hbb
    go_wp2_with fail
    have hb6 := hb5
    refine (HPL.out _ _ _ _ _ hr1 hr2).mono ?_
    clear hb5 hr1 hr2
    rintro e w7 ⟨A, cap, rfl, hr, hc, hbs⟩
    have hb7 := hb6.trans (hbs.mono hb6.size)
    clear hbs hb6 hc
    go_wp2_with fail
    have ht7 := ht.below hb7
    refine (signed_any _ p A cap _ ht7 hr HLS.out).mono ?_
    rintro e w8 ⟨rfl, hbs⟩
    have hb8 := hb7.trans (hbs.mono hb7.size)
    clear hbs hb7 hr
    rw [HFIN.out]
    go_wp2
    go_ret
    exact ⟨rfl, hb8⟩
   ·have hpb : (p == q) = false := by simpa using hpq
    by_cases hle : b.natAbs ≤ a.natAbs
    ·have hs0 : 0 ≤ s := HS2.out.1 hle
     have HFIN := Lib.hid (HF2.out hpq hle)
     have HLE := Lib.hid (HL1.out hle)
     clear hpq hle
     go_enter Tryz.func137, Tryz.ntmps137
     go_wp2_with fail
     refine (quick_yes a 18 _ (by omega) (by omega)).mono ?_
     rintro e w1 ⟨rfl, hb0⟩
     go_wp2_with fail
     refine (quick_no b 18 _ (by omega) (by omega)).mono ?_
     rintro e w2 ⟨rfl, rfl⟩
     go_wp2_with fail
     refine (HSA.out _).mono ?_
     rintro e w4 ⟨A1, c1, rfl, hr1, hbs⟩
     have hbb := hb0.trans (hbs.mono hb0.size)
     clear hbs hb0
     go_wp2_with fail
     refine (HSB.out _).mono ?_
     rintro e w5 ⟨A2, c2, rfl, hr2, hbs⟩
     have hr1 := (hr1.below hbs).more hbs.size
     have hb5 := hbb.trans (hbs.mono hbb.size)
     clear hbs hbb
     go_wp2_with fail
     refine (HCP.out _ _ _ _ _ hr1 hr2).mono ?_
     rintro e w6 ⟨rfl, hbs⟩
     have hr1 := (hr1.below hbs).more hbs.size
     have hr2 := (hr2.below hbs).more hbs.size
     have hb6 := hb5.trans (hbs.mono hb5.size)
     clear hbs hb5
     go_wp2_with fail
     refine (HLE.out _ _ _ _ _ hr1 hr2).mono ?_
     clear hr1 hr2
     rintro e w7 ⟨A, cap, rfl, hr, hc, hbs⟩
     have hb7 := hb6.trans (hbs.mono hb6.size)
     clear hbs hb6 hc
     go_wp2_with fail
     have ht7 := ht.below hb7
     refine (signed_any _ p A cap _ ht7 hr HLM1.out).mono ?_
     rintro e w8 ⟨rfl, hbs⟩
     have hb8 := hb7.trans (hbs.mono hb7.size)
     clear hbs hb7 hr
     rw [HFIN.out]
     go_wp2
     go_ret
     exact ⟨rfl, hb8⟩
    ·have hs0 : s < 0 := HS2.out.2 (by omega)
     have HFIN := Lib.hid (HF3.out hpq (by omega))
     have HLE := Lib.hid (HL2.out (by omega))
     clear hpq hle
     go_enter Tryz.func137, Tryz.ntmps137
     go_wp2_with fail
     refine (quick_yes a 18 _ (by omega) (by omega)).mono ?_
     rintro e w1 ⟨rfl, hb0⟩
     go_wp2_with fail
     refine (quick_no b 18 _ (by omega) (by omega)).mono ?_
     rintro e w2 ⟨rfl, rfl⟩
     go_wp2_with fail
     refine (HSA.out _).mono ?_
     rintro e w4 ⟨A1, c1, rfl, hr1, hbs⟩
     have hbb := hb0.trans (hbs.mono hb0.size)
     clear hbs hb0
     go_wp2_with fail
     refine (HSB.out _).mono ?_
     rintro e w5 ⟨A2, c2, rfl, hr2, hbs⟩
     have hr1 := (hr1.below hbs).more hbs.size
     have hb5 := hbb.trans (hbs.mono hbb.size)
     clear hbs hbb
     go_wp2_with fail
     refine (HCP.out _ _ _ _ _ hr1 hr2).mono ?_
     rintro e w6 ⟨rfl, hbs⟩
     have hr1 := (hr1.below hbs).more hbs.size
     have hr2 := (hr2.below hbs).more hbs.size
     have hb6 := hb5.trans (hbs.mono hb5.size)
     clear hbs hb5
     go_wp2_with fail
     refine (HLE.out _ _ _ _ _ hr2 hr1).mono ?_
     clear hr1 hr2
     rintro e w7 ⟨A, cap, rfl, hr, hc, hbs⟩
     have hb7 := hb6.trans (hbs.mono hb6.size)
     clear hbs hb6 hc
     go_wp2_with fail
     have ht7 := ht.below hb7
     refine (signed_any _ q A cap _ ht7 hr HLM2.out).mono ?_
     rintro e w8 ⟨rfl, hbs⟩
     have hb8 := hb7.trans (hbs.mono hb7.size)
     clear hbs hb7 hr
     rw [HFIN.out]
     go_wp2
     go_ret
     exact ⟨rfl, hb8⟩
 ·by_cases hpq : p = q
  ·have hpb : (p == q) = true := by simpa using hpq
   have HFIN := Lib.hid (HF1.out hpq)
   clear hpq
   go_enter Tryz.func137, Tryz.ntmps137
   go_wp2_with fail
   refine (quick_no a 18 _ (by omega) (by omega)).mono ?_
   rintro e w2 ⟨rfl, rfl⟩
   have hb0 := Below.refl w.heap.size w
   go_wp2_with fail
   refine (HSA.out _).mono ?_
   rintro e w4 ⟨A1, c1, rfl, hr1, hbs⟩
   have hbb := hb0.trans (hbs.mono hb0.size)
   clear hbs hb0
   go_wp2_with fail
   refine (HSB.out _).mono ?_
   rintro e w5 ⟨A2, c2, rfl, hr2, hbs⟩
   have hr1 := (hr1.below hbs).more hbs.size
   have hb5 := hbb.trans (hbs.mono hbb.size)
   clear hbs hbb
   go_wp2_with fail
   have hb6 := hb5
   refine (HPL.out _ _ _ _ _ hr1 hr2).mono ?_
   clear hb5 hr1 hr2
   rintro e w7 ⟨A, cap, rfl, hr, hc, hbs⟩
   have hb7 := hb6.trans (hbs.mono hb6.size)
   clear hbs hb6 hc
   go_wp2_with fail
   have ht7 := ht.below hb7
   refine (signed_any _ p A cap _ ht7 hr HLS.out).mono ?_
   rintro e w8 ⟨rfl, hbs⟩
   have hb8 := hb7.trans (hbs.mono hb7.size)
   clear hbs hb7 hr
   rw [HFIN.out]
   go_wp2
   go_ret
   exact ⟨rfl, hb8⟩
  ·have hpb : (p == q) = false := by simpa using hpq
   by_cases hle : b.natAbs ≤ a.natAbs
   ·have hs0 : 0 ≤ s := HS2.out.1 hle
    have HFIN := Lib.hid (HF2.out hpq hle)
    have HLE := Lib.hid (HL1.out hle)
    clear hpq hle
    go_enter Tryz.func137, Tryz.ntmps137
    go_wp2_with fail
    refine (quick_no a 18 _ (by omega) (by omega)).mono ?_
    rintro e w2 ⟨rfl, rfl⟩
    have hb0 := Below.refl w.heap.size w
    go_wp2_with fail
    refine (HSA.out _).mono ?_
    rintro e w4 ⟨A1, c1, rfl, hr1, hbs⟩
    have hbb := hb0.trans (hbs.mono hb0.size)
    clear hbs hb0
    go_wp2_with fail
    refine (HSB.out _).mono ?_
    rintro e w5 ⟨A2, c2, rfl, hr2, hbs⟩
    have hr1 := (hr1.below hbs).more hbs.size
    have hb5 := hbb.trans (hbs.mono hbb.size)
    clear hbs hbb
    go_wp2_with fail
    refine (HCP.out _ _ _ _ _ hr1 hr2).mono ?_
    rintro e w6 ⟨rfl, hbs⟩
    have hr1 := (hr1.below hbs).more hbs.size
    have hr2 := (hr2.below hbs).more hbs.size
    have hb6 := hb5.trans (hbs.mono hb5.size)
    clear hbs hb5
    go_wp2_with fail
    refine (HLE.out _ _ _ _ _ hr1 hr2).mono ?_
    clear hr1 hr2
    rintro e w7 ⟨A, cap, rfl, hr, hc, hbs⟩
    have hb7 := hb6.trans (hbs.mono hb6.size)
    clear hbs hb6 hc
    go_wp2_with fail
    have ht7 := ht.below hb7
    refine (signed_any _ p A cap _ ht7 hr HLM1.out).mono ?_
    rintro e w8 ⟨rfl, hbs⟩
    have hb8 := hb7.trans (hbs.mono hb7.size)
    clear hbs hb7 hr
    rw [HFIN.out]
    go_wp2
    go_ret
    exact ⟨rfl, hb8⟩
   ·have hs0 : s < 0 := HS2.out.2 (by omega)
    have HFIN := Lib.hid (HF3.out hpq (by omega))
    have HLE := Lib.hid (HL2.out (by omega))
    clear hpq hle
    go_enter Tryz.func137, Tryz.ntmps137
    go_wp2_with fail
    refine (quick_no a 18 _ (by omega) (by omega)).mono ?_
    rintro e w2 ⟨rfl, rfl⟩
    have hb0 := Below.refl w.heap.size w
    go_wp2_with fail
    refine (HSA.out _).mono ?_
    rintro e w4 ⟨A1, c1, rfl, hr1, hbs⟩
    have hbb := hb0.trans (hbs.mono hb0.size)
    clear hbs hb0
    go_wp2_with fail
    refine (HSB.out _).mono ?_
    rintro e w5 ⟨A2, c2, rfl, hr2, hbs⟩
    have hr1 := (hr1.below hbs).more hbs.size
    have hb5 := hbb.trans (hbs.mono hbb.size)
    clear hbs hbb
    go_wp2_with fail
    refine (HCP.out _ _ _ _ _ hr1 hr2).mono ?_
    rintro e w6 ⟨rfl, hbs⟩
    have hr1 := (hr1.below hbs).more hbs.size
    have hr2 := (hr2.below hbs).more hbs.size
    have hb6 := hb5.trans (hbs.mono hb5.size)
    clear hbs hb5
    go_wp2_with fail
    refine (HLE.out _ _ _ _ _ hr2 hr1).mono ?_
    clear hr1 hr2
    rintro e w7 ⟨A, cap, rfl, hr, hc, hbs⟩
    have hb7 := hb6.trans (hbs.mono hb6.size)
    clear hbs hb6 hc
    go_wp2_with fail
    have ht7 := ht.below hb7
    refine (signed_any _ q A cap _ ht7 hr HLM2.out).mono ?_
    rintro e w8 ⟨rfl, hbs⟩
    have hb8 := hb7.trans (hbs.mono hb7.size)
    clear hbs hb7 hr
    rw [HFIN.out]
    go_wp2
    go_ret
    exact ⟨rfl, hb8⟩
theorem small_yes (z : Int) (w : World) (h : Lib.nDigits z.natAbs ≤ 18) :
  Calls Tryz.prog 170 #[.string (dec z)] w fun e w' => e = .returned (.tuple #[.int .i64 z, .bool true]) ∧ Below w.heap.size w w' := by
 go_enter Tryz.func170, Tryz.ntmps170
 go_wp2_with fail
 refine (quick_yes z 18 _ (by omega) (by omega)).mono ?_
 rintro e w1 ⟨rfl, hb1⟩
 go_wp2
 go_ret2
 exact ⟨rfl, hb1⟩
abbrev decv : Int → Value := fun x => .string (dec x)
theorem nDigits_pow {z : Int} {k : Nat} (hk : 1 ≤ k) (h : z.natAbs < 10 ^ k) : Lib.nDigits z.natAbs ≤ k := nDigits_le _ _ hk h
theorem sum_take {L : List Int} (h : ∀ x ∈ L, x.natAbs < 10 ^ 100) : L.sum.natAbs ≤ L.length * 10 ^ 100 := by
 induction L with
 | nil => simp
 | cons x r ih =>
  have h1 := h x List.mem_cons_self
  have h2 := ih (fun y hy => h y (List.mem_cons_of_mem _ hy))
  rw [List.sum_cons, List.length_cons, Nat.add_mul, Nat.one_mul]
  generalize (10 : Nat) ^ 100 = T at h1 h2 ⊢
  omega
set_option maxRecDepth 100000 in
set_option maxHeartbeats 1000000 in
theorem sum_any (L : List Int) (A : Option Addr) (n c Bd : Nat) (w : World) (ht : Tab w) (hl : L.length = n) (hn : n ≤ 10) (hr : Rd decv w Bd A L) (hB : Bd ≤ w.heap.size) (hc : n ≤ c) (_hm : c ≤ maxLen) (hx : ∀ x ∈ L, x.natAbs < 10 ^ 100) :
  Calls Tryz.prog 136 #[.slice A n c] w fun e w' => e = .returned (.string (dec L.sum)) ∧ Below w.heap.size w w' := by
 subst hl
 have HR := Lib.hid hr
 have HT := Lib.hid ht
 have HX := Lib.hid hx
 clear hr ht hx
 go_enter Tryz.func136, Tryz.ntmps136
 go_wp2_with fail
 go_loopw [3, 8] (fun s v wr => ∃ k : Nat, k ≤ L.length ∧ v = .int .i64 k ∧ s = .string (dec (L.take k).sum) ∧ Below w.heap.size w wr) (fun _ v _ => L.length - (intOf v).toNat)
 case atStart => exact ⟨0, by omega, rfl, by rw [show (L.take 0).sum = 0 from rfl, dec_zero], Below.refl _ _⟩
 case round =>
  obtain ⟨k, hk, rfl, rfl, hb⟩ := hrel
  have HB := Lib.hid hb
  clear hb
  by_cases hlt : k < L.length
  ·obtain ⟨b, off, rfl, hbb, hcell⟩ := (HR.out.below (HB.out.mono hB)).at_ (by omega)
   have hck := hcell k hlt
   have hst : (L.take k).sum + L[k] = (L.take (k + 1)).sum := by rw [List.take_succ_eq_append_getElem hlt, List.sum_append]; simp
   have h1 : (L.take k).sum.natAbs ≤ 10 * 10 ^ 100 := Nat.le_trans (sum_take (fun x hx => HX.out x (List.mem_of_mem_take hx))) (Nat.mul_le_mul_right _ (by rw [List.length_take]; omega))
   have hd1 : Lib.nDigits (L.take k).sum.natAbs ≤ 400000 := by
    refine Nat.le_trans (nDigits_pow (k := 102) (by decide) ?_) (by decide)
    rw [Nat.pow_succ, Nat.pow_succ]
    have hT : 0 < (10 : Nat) ^ 100 := Nat.pow_pos (by decide)
    generalize (10 : Nat) ^ 100 = T at h1 hT ⊢
    omega
   have hd2 : Lib.nDigits (L[k]).natAbs ≤ 400000 := Nat.le_trans (nDigits_pow (k := 100) (by decide) (HX.out _ (List.getElem_mem hlt))) (by decide)
   have hadd := add_any (L.take k).sum L[k] wr (HT.out.below HB.out) hd1 hd2
   rw [hst] at hadd
   obtain ⟨x, hxx⟩ : ∃ x, x = dec L[k] := ⟨_, rfl⟩
   obtain ⟨y, hyy⟩ : ∃ y, y = dec (L.take k).sum := ⟨_, rfl⟩
   have hck' : wr.cell? ⟨b, off + k, none⟩ = some (.string x) := by rw [hck, hxx]
   rw [← hxx, ← hyy] at hadd
   rw [← hyy]
   have HADD := Lib.hid hadd
   clear hck hst h1 hd1 hd2 hadd hcell hxx hyy
   go_wp2_with fail
   refine HADD.out.mono ?_
   rintro e w2 ⟨rfl, hk2⟩
   have HB2 := Lib.hid (HB.out.trans (hk2.mono HB.out.size))
   clear hk2 hck'
   go_wp2
   go_roundw
   case rel => exact ⟨k + 1, by omega, by go_num, rfl, HB2.out⟩
   case measure => simp [intOf]; omega
  ·have hs : (L.take k).sum = L.sum := by rw [List.take_of_length_le (by omega)]
   rw [hs]
   clear hs
   go_wp2
   go_ret
   exact ⟨rfl, HB.out⟩
theorem divide_any (p q : Nat) (A1 A2 : Option Addr) (c1 c2 : Nat) (w : World) (hr1 : Rd u64v w w.heap.size A1 (limbs p)) (hr2 : Rd u64v w w.heap.size A2 (limbs q)) (hc1 : (limbs p).length ≤ c1)
  (hp : (limbs p).length ≤ 100000) (hq : (limbs q).length ≤ 100000) (hq0 : q ≠ 0) :
  Calls Tryz.prog 179 #[.slice A1 (limbs p).length c1, .slice A2 (limbs q).length c2] w (RetTwo (p / q) (p % q) w) := by
 rcases Nat.lt_or_ge p q with h | h
 ·exact divide_less p q A1 A2 c1 c2 w hr1 hr2 hc1 hp hq h
 ·have h1 := limbs_len_pos hq0
  by_cases h2 : (limbs q).length = 1
  ·exact divide_one p q A1 A2 c1 c2 w hr1 hr2 hp h2 h
  ·obtain ⟨k, hk⟩ : ∃ k, (limbs q).length = k + 2 := ⟨(limbs q).length - 2, by omega⟩
   exact divide_long p q A1 A2 c1 c2 w hr1 hr2 hp k hk h
theorem div_neg {a b : Int} (ha : a < 0) (hb : 0 < b) (hr : a.natAbs % b.natAbs ≠ 0) : -((a.natAbs / b.natAbs + 1 : Nat) : Int) = a / b ∧ ((b.natAbs - a.natAbs % b.natAbs : Nat) : Int) = a % b := by
 obtain ⟨n, rfl⟩ : ∃ n : Nat, a = -(n : Int) := ⟨a.natAbs, by omega⟩
 obtain ⟨m, rfl⟩ : ∃ m : Nat, b = (m : Int) := ⟨b.natAbs, by omega⟩
 simp only [Int.natAbs_neg, Int.natAbs_natCast] at hr ⊢
 have hm : 0 < m := by omega
 have h1 := Nat.div_add_mod n m
 have h2 := Nat.mod_lt n hm
 have e : (-(n : Int)) = ((m - n % m : Nat) : Int) + (m : Int) * (-((n / m + 1 : Nat) : Int)) := by
  have h3 : (n : Int) = (m : Int) * ((n / m : Nat) : Int) + ((n % m : Nat) : Int) := by exact_mod_cast h1.symm
  have h4 : ((m - n % m : Nat) : Int) = (m : Int) - ((n % m : Nat) : Int) := by omega
  rw [h4, Int.natCast_add, Int.mul_neg, Int.mul_add]
  simp only [Int.natCast_one, Int.mul_one]
  omega
 have hlt : ((m - n % m : Nat) : Int) < (m : Int) := by omega
 have h0 : (0 : Int) ≤ ((m - n % m : Nat) : Int) := by omega
 rw [e, Int.add_mul_ediv_left _ _ (by omega), Int.add_mul_emod_self_left, Int.ediv_eq_zero_of_lt h0 hlt, Int.emod_eq_of_lt h0 hlt]
 simp
theorem div_zero {a b : Int} (ha : a < 0) (hb : 0 < b) (hr : a.natAbs % b.natAbs = 0) : -((a.natAbs / b.natAbs : Nat) : Int) = a / b ∧ (0 : Int) = a % b := by
 obtain ⟨n, rfl⟩ : ∃ n : Nat, a = -(n : Int) := ⟨a.natAbs, by omega⟩
 obtain ⟨m, rfl⟩ : ∃ m : Nat, b = (m : Int) := ⟨b.natAbs, by omega⟩
 simp only [Int.natAbs_neg, Int.natAbs_natCast] at hr ⊢
 have hd : (m : Int) ∣ (n : Int) := Int.natCast_dvd_natCast.2 (Nat.dvd_of_mod_eq_zero hr)
 constructor
 ·rw [Int.neg_ediv_of_dvd hd, Int.natCast_ediv]
 ·exact (Int.emod_eq_zero_of_dvd (Int.dvd_neg.2 hd)).symm
theorem div_nat {a b : Int} (ha : 0 ≤ a) (hb : 0 < b) : ((a.natAbs / b.natAbs : Nat) : Int) = a / b ∧ ((a.natAbs % b.natAbs : Nat) : Int) = a % b := by
 obtain ⟨n, rfl⟩ := Int.eq_ofNat_of_zero_le ha
 obtain ⟨m, rfl⟩ := Int.eq_ofNat_of_zero_le (Int.le_of_lt hb)
 simp
set_option maxRecDepth 100000 in
set_option maxHeartbeats 4000000 in
theorem divmod_pos (a b : Int) (w : World) (ht : Tab w) (ha : Lib.nDigits a.natAbs ≤ 90000) (hb : Lib.nDigits b.natAbs ≤ 90000) (hb0 : 0 < b) :
  Calls Tryz.prog 169 #[.string (dec a), .string (dec b)] w fun e w' => e = .returned (.tuple #[.string (dec (a / b)), .string (dec (a % b)), .int .i64 0]) ∧ Below w.heap.size w w' := by
 have hla := Nat.le_trans (limbs_len_digits a.natAbs) ha
 have hlb := Nat.le_trans (limbs_len_digits b.natAbs) hb
 have hq0 : b.natAbs ≠ 0 := by omega
 have hlq : (limbs (a.natAbs / b.natAbs)).length ≤ (limbs a.natAbs).length := limbs_len_mono (Nat.div_le_self _ _)
 have hlr : (limbs (a.natAbs % b.natAbs)).length ≤ (limbs b.natAbs).length := limbs_len_mono (Nat.le_of_lt (Nat.mod_lt _ (by omega)))
 have h0 := dec_is0 b
 rw [decide_eq_false (by omega)] at h0
 have hrem : 0 < (limbs (a.natAbs % b.natAbs)).length ↔ a.natAbs % b.natAbs ≠ 0 := by
  constructor
  ·intro h e; rw [e, limbs_zero] at h; simp at h
  ·exact limbs_len_pos
 obtain ⟨Q, hQ⟩ : ∃ Q, Q = a.natAbs / b.natAbs := ⟨_, rfl⟩
 obtain ⟨R, hR⟩ : ∃ R, R = a.natAbs % b.natAbs := ⟨_, rfl⟩
 have hRb : R ≤ b.natAbs := by rw [hR]; exact Nat.le_of_lt (Nat.mod_lt _ (by omega))
 have hn1 := @div_neg a b
 have hn2 := @div_zero a b
 have hn3 := @div_nat a b
 rw [← hQ, ← hR] at hn1 hn3
 rw [← hQ, ← hR] at hn2
 rw [← hR] at hrem hlr
 rw [← hQ] at hlq
 obtain ⟨m, hm⟩ : ∃ m, m = (limbs a.natAbs).length := ⟨_, rfl⟩
 obtain ⟨n, hn⟩ : ∃ n, n = (limbs b.natAbs).length := ⟨_, rfl⟩
 obtain ⟨p, hp⟩ : ∃ p, p = decide (a < 0) := ⟨_, rfl⟩
 have hsa : ∀ W, Calls Tryz.prog 88 #[.string (dec a)] W fun e W' => ∃ A cap, e = .returned (.tuple #[.slice A m cap, .bool p]) ∧ Rd u64v W' W'.heap.size A (limbs a.natAbs) ∧ m ≤ cap ∧ Below W.heap.size W W' := fun W =>
  (split_any a W (by omega)).mono fun e W' ⟨A, cap, he, hr, hc, hb⟩ => ⟨A, cap, by rw [he, hm, hp], hr, by rw [hm]; exact hc, hb⟩
 have hsb : ∀ W, Calls Tryz.prog 88 #[.string (dec b)] W fun e W' => ∃ A cap, e = .returned (.tuple #[.slice A n cap, .bool false]) ∧ Rd u64v W' W'.heap.size A (limbs b.natAbs) ∧ Below W.heap.size W W' := fun W =>
  (split_any b W (by omega)).mono fun e W' ⟨A, cap, he, hr, _, hb⟩ => ⟨A, cap, by rw [he, hn, decide_eq_false (by omega)], hr, hb⟩
 have hdv : ∀ (A1 A2 : Option Addr) (c1 c2 : Nat) W, m ≤ c1 → Rd u64v W W.heap.size A1 (limbs a.natAbs) → Rd u64v W W.heap.size A2 (limbs b.natAbs) → Calls Tryz.prog 179 #[.slice A1 m c1, .slice A2 n c2] W (RetTwo Q R W) := fun A1 A2 c1 c2 W hc h1 h2 => by
  have := divide_any a.natAbs b.natAbs A1 A2 c1 c2 W h1 h2 (by rw [← hm]; exact hc) (by omega) (by omega) hq0
  rwa [← hm, ← hn, ← hQ, ← hR] at this
 have hls : ∀ (A1 A2 : Option Addr) (c1 c2 : Nat) W, Rd u64v W W.heap.size A1 (limbs b.natAbs) → Rd u64v W W.heap.size A2 (limbs R) → Calls Tryz.prog 158 #[.slice A1 n c1, .slice A2 (limbs R).length c2] W (RetMag (b.natAbs - R) W) := fun A1 A2 c1 c2 W h1 h2 => by
  have := mless_any (limbs b.natAbs) (limbs R) A1 A2 c1 c2 W h1 h2 (limbs_small _) (limbs_small _) (by omega) (by rw [lv_limbs, lv_limbs]; exact hRb) (limbs_len_mono hRb)
  rwa [lv_limbs, lv_limbs, ← hn] at this
 have hpl : ∀ (A1 A2 : Option Addr) (c1 : Nat) W, Rd u64v W W.heap.size A1 (limbs Q) → Rd u64v W W.heap.size A2 [1] → Calls Tryz.prog 156 #[.slice A1 (limbs Q).length c1, .slice A2 1 1] W (RetMag (Q + 1) W) := fun A1 A2 c1 W h1 h2 => by
  have := mplus_any (limbs Q) [1] A1 A2 c1 1 W h1 h2 (limbs_small _) (Small.one (by decide)) (by omega) (by decide)
  rwa [lv_limbs, lv_one] at this
 have HSA := Lib.hid hsa
 have HSB := Lib.hid hsb
 have HDV := Lib.hid hdv
 have HLS := Lib.hid hls
 have HPL := Lib.hid hpl
 have HLQ := Lib.hid (show (limbs Q).length ≤ 1000000 by omega)
 have HLR := Lib.hid (show (limbs R).length ≤ 1000000 by omega)
 have HLQ1 := Lib.hid (show (limbs (Q + 1)).length ≤ 1000000 from Nat.le_trans (limbs_len_add Q 1) (by have : (limbs 1).length ≤ 1 := limbs_len_le _ _ (by decide); omega))
 have HLR1 := Lib.hid (show (limbs (b.natAbs - R)).length ≤ 1000000 from Nat.le_trans (limbs_len_mono (Nat.sub_le _ _)) (by omega))
 have HREM := Lib.hid hrem
 obtain ⟨lr, hlrr⟩ : ∃ l, l = (limbs R).length := ⟨_, rfl⟩
 obtain ⟨lq, hlqq⟩ : ∃ l, l = (limbs Q).length := ⟨_, rfl⟩
 have HLRR := Lib.hid hlrr
 have HLQQ := Lib.hid hlqq
 have HP := Lib.hid hp
 have HN1 := Lib.hid hn1
 have HN2 := Lib.hid hn2
 have HN3 := Lib.hid hn3
 clear hsa hsb hdv hls hpl hlq hlr hlrr hlqq hrem hm hn hp hQ hR hn1 hn2 hn3 hq0 hRb hla hlb
 by_cases hneg : a < 0
 ·obtain rfl : p = true := by rw [HP.out]; exact decide_eq_true hneg
  by_cases hr0 : R = 0
  ·have hlr0 : lr = 0 := by rw [HLRR.out, hr0, limbs_zero]; rfl
   subst hlr0
   have HFIN := Lib.hid (show -(Q : Int) = a / b ∧ (R : Int) = a % b by
    obtain ⟨e1, e2⟩ := HN2.out hneg hb0 hr0
    exact ⟨e1, by rw [← e2, hr0]; rfl⟩)
   go_enter Tryz.func169, Tryz.ntmps169
   go_wp2_with fail
   refine (HSA.out _).mono ?_
   rintro e w4 ⟨A1, c1, rfl, hr1, hcc, hb4⟩
   go_wp2_with fail
   refine (HSB.out _).mono ?_
   rintro e w5 ⟨A2, c2, rfl, hr2, hbs⟩
   have hr1 := (hr1.below hbs).more hbs.size
   have hb5 := hb4.trans (hbs.mono hb4.size)
   clear hbs hb4
   go_wp2_with fail
   refine (HDV.out _ _ _ _ _ hcc hr1 hr2).mono ?_
   rintro e w6 ⟨A3, c3, A4, c4, rfl, hr3, hc3, hr4, hc4, hbs⟩
   rw [← HLRR.out, ← HLQQ.out]
   have hr2 := (hr2.below hbs).more hbs.size
   have hb6 := hb5.trans (hbs.mono hb5.size)
   clear hbs hb5 hr1 hc3 hc4 hcc
   have hb10 := hb6
   have hsx := signed_any Q true A3 c3 w6 (ht.below hb6) hr3 HLQ.out
   rw [← HLQQ.out, if_pos rfl, HFIN.out.1] at hsx
   have HSX := Lib.hid hsx
   clear hsx hr2 hb6
   go_wp2_with fail
   refine HSX.out.mono ?_
   rintro e w10 ⟨rfl, hbs⟩
   have hr4 := (hr4.below hbs).more hbs.size
   have hb10 := hb10.trans (hbs.mono hb10.size)
   clear hbs
   have hsy := signed_any R false A4 c4 w10 (ht.below hb10) hr4 HLR.out
   rw [← HLRR.out, if_neg Bool.false_ne_true, HFIN.out.2] at hsy
   have HSY := Lib.hid hsy
   clear hsy hr4
   go_wp2_with fail
   refine HSY.out.mono ?_
   rintro e w11 ⟨rfl, hbs⟩
   have hb11 := hb10.trans (hbs.mono hb10.size)
   clear hbs hb10
   go_wp2
   go_ret3
   exact ⟨rfl, hb11⟩
  ·have hlr0 : 0 < lr := by rw [HLRR.out]; exact limbs_len_pos hr0
   have HFIN := Lib.hid (show -((Q + 1 : Nat) : Int) = a / b ∧ ((b.natAbs - R : Nat) : Int) = a % b by
    obtain ⟨e1, e2⟩ := HN1.out hneg hb0 hr0
    exact ⟨e1, e2⟩)
   go_enter Tryz.func169, Tryz.ntmps169
   go_wp2_with fail
   refine (HSA.out _).mono ?_
   rintro e w4 ⟨A1, c1, rfl, hr1, hcc, hb4⟩
   go_wp2_with fail
   refine (HSB.out _).mono ?_
   rintro e w5 ⟨A2, c2, rfl, hr2, hbs⟩
   have hr1 := (hr1.below hbs).more hbs.size
   have hb5 := hb4.trans (hbs.mono hb4.size)
   clear hbs hb4
   go_wp2_with fail
   refine (HDV.out _ _ _ _ _ hcc hr1 hr2).mono ?_
   rintro e w6 ⟨A3, c3, A4, c4, rfl, hr3, hc3, hr4, hc4, hbs⟩
   rw [← HLRR.out, ← HLQQ.out]
   have hr2 := (hr2.below hbs).more hbs.size
   have hb6 := hb5.trans (hbs.mono hb5.size)
   clear hbs hb5 hr1 hc3 hc4 hcc
   go_wp2_with fail
   have hr3 := ((hr3.below (bw_new (Below.refl _ _) (.cells #[.int .u64 1] 145))).more (by simp : w6.heap.size ≤ (w6.alloc (.cells #[.int .u64 1] 145)).heap.size))
   have hr2 := ((hr2.below (bw_new (Below.refl _ _) (.cells #[.int .u64 1] 145))).more (by simp : w6.heap.size ≤ (w6.alloc (.cells #[.int .u64 1] 145)).heap.size))
   have hr4 := ((hr4.below (bw_new (Below.refl _ _) (.cells #[.int .u64 1] 145))).more (by simp : w6.heap.size ≤ (w6.alloc (.cells #[.int .u64 1] 145)).heap.size))
   have h1 : Rd u64v (w6.alloc (.cells #[.int .u64 1] 145)) (w6.alloc (.cells #[.int .u64 1] 145)).heap.size (some ⟨w6.heap.size, 0, none⟩) [1] := Blk.rd (t := 145) (heap_alloc_new w6 _)
   have hb7 := bw_new hb6 (.cells #[.int .u64 1] 145)
   obtain ⟨W7, hW7⟩ : ∃ W7, W7 = w6.alloc (.cells #[.int .u64 1] 145) := ⟨_, rfl⟩
   rw [← hW7] at hr2 hr3 hr4 h1 hb7 ⊢
   clear hW7 hb6
   have hpl := HPL.out _ _ c3 W7 hr3 h1
   rw [← HLQQ.out] at hpl
   have HPL2 := Lib.hid hpl
   clear hpl hr3 h1
   refine HPL2.out.mono ?_
   rintro e w8 ⟨A5, c5, rfl, hr5, hc5, hbs⟩
   have hr2 := (hr2.below hbs).more hbs.size
   have hr4 := (hr4.below hbs).more hbs.size
   have hb8 := hb7.trans (hbs.mono hb7.size)
   have hls := HLS.out _ _ c2 c4 _ hr2 hr4
   rw [← HLRR.out] at hls
   have HLS2 := Lib.hid hls
   clear hbs hb7 hls hr2 hr4 hc5
   go_wp2_with fail
   refine HLS2.out.mono ?_
   rintro e w9 ⟨A6, c6, rfl, hr6, hc6, hbs⟩
   have hr5 := (hr5.below hbs).more hbs.size
   have hb9 := hb8.trans (hbs.mono hb8.size)
   clear hbs hb8 hc6
   go_wp2_with fail
   have ht9 := ht.below hb9
   have hsx := signed_any (Q + 1) true A5 c5 w9 ht9 hr5 HLQ1.out
   rw [if_pos rfl, HFIN.out.1] at hsx
   refine hsx.mono ?_
   rintro e w10 ⟨rfl, hbs⟩
   have hr6 := (hr6.below hbs).more hbs.size
   have hb10 := hb9.trans (hbs.mono hb9.size)
   clear hbs hb9 hr5 ht9 hsx
   go_wp2_with fail
   have ht10 := ht.below hb10
   have hsy := signed_any (b.natAbs - R) false A6 c6 w10 ht10 hr6 HLR1.out
   rw [if_neg Bool.false_ne_true, HFIN.out.2] at hsy
   refine hsy.mono ?_
   rintro e w11 ⟨rfl, hbs⟩
   have hb11 := hb10.trans (hbs.mono hb10.size)
   clear hbs hb10
   go_wp2
   go_ret3
   exact ⟨rfl, hb11⟩
 ·obtain rfl : p = false := by rw [HP.out]; exact decide_eq_false hneg
  have HFIN := Lib.hid (show (Q : Int) = a / b ∧ (R : Int) = a % b by
   obtain ⟨e1, e2⟩ := HN3.out (by omega) hb0
   exact ⟨e1, e2⟩)
  go_enter Tryz.func169, Tryz.ntmps169
  go_wp2_with fail
  refine (HSA.out _).mono ?_
  rintro e w4 ⟨A1, c1, rfl, hr1, hcc, hb4⟩
  go_wp2_with fail
  refine (HSB.out _).mono ?_
  rintro e w5 ⟨A2, c2, rfl, hr2, hbs⟩
  have hr1 := (hr1.below hbs).more hbs.size
  have hb5 := hb4.trans (hbs.mono hb4.size)
  clear hbs hb4
  go_wp2_with fail
  refine (HDV.out _ _ _ _ _ hcc hr1 hr2).mono ?_
  rintro e w6 ⟨A3, c3, A4, c4, rfl, hr3, hc3, hr4, hc4, hbs⟩
  rw [← HLRR.out, ← HLQQ.out]
  have hr2 := (hr2.below hbs).more hbs.size
  have hb6 := hb5.trans (hbs.mono hb5.size)
  clear hbs hb5 hr1 hc3 hc4 hcc
  have hb10 := hb6
  have hsx := signed_any Q false A3 c3 w6 (ht.below hb6) hr3 HLQ.out
  rw [← HLQQ.out, if_neg Bool.false_ne_true, HFIN.out.1] at hsx
  have HSX := Lib.hid hsx
  clear hsx hr2 hb6
  go_wp2_with fail
  refine HSX.out.mono ?_
  rintro e w10 ⟨rfl, hbs⟩
  have hr4 := (hr4.below hbs).more hbs.size
  have hb10 := hb10.trans (hbs.mono hb10.size)
  clear hbs
  have hsy := signed_any R false A4 c4 w10 (ht.below hb10) hr4 HLR.out
  rw [← HLRR.out, if_neg Bool.false_ne_true, HFIN.out.2] at hsy
  have HSY := Lib.hid hsy
  clear hsy hr4
  go_wp2_with fail
  refine HSY.out.mono ?_
  rintro e w11 ⟨rfl, hbs⟩
  have hb11 := hb10.trans (hbs.mono hb10.size)
  clear hbs hb10
  go_wp2
  go_ret3
  exact ⟨rfl, hb11⟩
def lgU : Int := 1000000000000000000000000000000
def lgT : Int := 1584962500721156181453738943947
def lgF : Int := 2321928094887362347870319429489
abbrev sUnit : ByteArray := ⟨#[49, 48, 48, 48, 48, 48, 48, 48, 48, 48, 48, 48, 48, 48, 48, 48, 48, 48, 48, 48, 48, 48, 48, 48, 48, 48, 48, 48, 48, 48, 48]⟩
abbrev sThree : ByteArray := ⟨#[49, 53, 56, 52, 57, 54, 50, 53, 48, 48, 55, 50, 49, 49, 53, 54, 49, 56, 49, 52, 53, 51, 55, 51, 56, 57, 52, 51, 57, 52, 55]⟩
abbrev sFive : ByteArray := ⟨#[50, 51, 50, 49, 57, 50, 56, 48, 57, 52, 56, 56, 55, 51, 54, 50, 51, 52, 55, 56, 55, 48, 51, 49, 57, 52, 50, 57, 52, 56, 57]⟩
theorem dec_unit : dec lgU = sUnit := by kernel_rfl
theorem dec_three : dec lgT = sThree := by kernel_rfl
theorem dec_five : dec lgF = sFive := by kernel_rfl
theorem lg_bd : (0 < lgU ∧ lgU < 10000000000000000000000000000000) ∧ (0 < lgT ∧ lgT < 10000000000000000000000000000000) ∧ (0 < lgF ∧ lgF < 10000000000000000000000000000000) := by decide
def lgZ (x y z : Int) : Int := [x * lgU, y * lgT, z * lgF].sum
def loZ (x y z : Int) : Int := lgZ x y z + (if 0 < y then 0 else y) + (if 0 < z then 0 else z)
def hiZ (x y z : Int) : Int := lgZ x y z + (if 0 < y then y else 0) + (if 0 < z then z else 0)
def M12 (x : Int) : Prop := -1000000000000 ≤ x ∧ x ≤ 1000000000000
theorem mul_lg {x c : Int} (hx : M12 x) (hc : 0 < c ∧ c < 10000000000000000000000000000000) : (x * c).natAbs < 10 ^ 44 := by
 rw [Int.natAbs_mul]
 have h1 : x.natAbs ≤ 1000000000000 := by have := hx.1; have := hx.2; omega
 have h2 : c.natAbs < 10000000000000000000000000000000 := by omega
 calc x.natAbs * c.natAbs ≤ 1000000000000 * c.natAbs := Nat.mul_le_mul_right _ h1
  _ < 1000000000000 * 10000000000000000000000000000000 := Nat.mul_lt_mul_of_pos_left h2 (by decide)
  _ ≤ 10 ^ 44 := by decide
theorem lgZ_bd {x y z : Int} (hx : M12 x) (hy : M12 y) (hz : M12 z) : (lgZ x y z).natAbs < 10 ^ 45 := by
 obtain ⟨hu, ht, hf⟩ := lg_bd
 have h1 := mul_lg hx hu
 have h2 := mul_lg hy ht
 have h3 := mul_lg hz hf
 unfold lgZ
 simp only [List.sum_cons, List.sum_nil]
 omega
theorem lo_bd {x y z : Int} (hx : M12 x) (hy : M12 y) (hz : M12 z) : (loZ x y z).natAbs < 10 ^ 46 := by
 have h := lgZ_bd hx hy hz
 have := hy.1; have := hy.2; have := hz.1; have := hz.2
 unfold loZ
 split <;> split <;> omega
theorem hi_bd {x y z : Int} (hx : M12 x) (hy : M12 y) (hz : M12 z) : (hiZ x y z).natAbs < 10 ^ 46 := by
 have h := lgZ_bd hx hy hz
 have := hy.1; have := hy.2; have := hz.1; have := hz.2
 unfold hiZ
 split <;> split <;> omega
theorem m12_digits {x : Int} (hx : M12 x) : Lib.nDigits x.natAbs ≤ 13 := nDigits_pow (by decide) (by have := hx.1; have := hx.2; omega)
theorem of12 (x : Int) (w : World) (ht : Tab w) (hx : M12 x) : Calls Tryz.prog 51 #[.int .i64 x] w fun e w' => e = .returned (.string (dec x)) ∧ Below w.heap.size w w' := of_any x (by have := hx.1; omega) (by have := hx.2; omega) w ht
theorem mul_unit (x : Int) (w : World) (ht : Tab w) (hx : M12 x) : Calls Tryz.prog 52 #[.string (dec x), .string sUnit] w fun e w' => e = .returned (.string (dec (x * lgU))) ∧ Below w.heap.size w w' := by
 rw [← dec_unit]
 exact mul_any x lgU w ht (Nat.le_trans (m12_digits hx) (by decide)) (Nat.le_trans (nDigits_pow (k := 32) (by decide) (by decide)) (by decide))
theorem mul_three (x : Int) (w : World) (ht : Tab w) (hx : M12 x) : Calls Tryz.prog 52 #[.string (dec x), .string sThree] w fun e w' => e = .returned (.string (dec (x * lgT))) ∧ Below w.heap.size w w' := by
 rw [← dec_three]
 exact mul_any x lgT w ht (Nat.le_trans (m12_digits hx) (by decide)) (Nat.le_trans (nDigits_pow (k := 32) (by decide) (by decide)) (by decide))
theorem mul_five (x : Int) (w : World) (ht : Tab w) (hx : M12 x) : Calls Tryz.prog 52 #[.string (dec x), .string sFive] w fun e w' => e = .returned (.string (dec (x * lgF))) ∧ Below w.heap.size w w' := by
 rw [← dec_five]
 exact mul_any x lgF w ht (Nat.le_trans (m12_digits hx) (by decide)) (Nat.le_trans (nDigits_pow (k := 32) (by decide) (by decide)) (by decide))
theorem sum_lg (x y z : Int) (g : Nat) (w : World) (ht : Tab w) (hx : M12 x) (hy : M12 y) (hz : M12 z) (hr : Rd decv w w.heap.size (some ⟨g, 0, none⟩) [x * lgU, y * lgT, z * lgF]) :
  Calls Tryz.prog 136 #[.slice (some ⟨g, 0, none⟩) 3 3] w fun e w' => e = .returned (.string (dec (lgZ x y z))) ∧ Below w.heap.size w w' := by
 obtain ⟨hu, ht', hf⟩ := lg_bd
 refine sum_any _ _ 3 3 w.heap.size w ht rfl (by decide) hr (Nat.le_refl _) (by decide) (by decide) (fun v hv => ?_)
 have h44 : (10 : Nat) ^ 44 < 10 ^ 100 := by decide
 simp only [List.mem_cons, List.not_mem_nil, or_false] at hv
 rcases hv with rfl | rfl | rfl
 ·exact Nat.lt_trans (mul_lg hx hu) h44
 ·exact Nat.lt_trans (mul_lg hy ht') h44
 ·exact Nat.lt_trans (mul_lg hz hf) h44
theorem add12 (a x : Int) (w : World) (ht : Tab w) (ha : a.natAbs < 10 ^ 60) (hx : M12 x) : Calls Tryz.prog 137 #[.string (dec a), .string (dec x)] w fun e w' => e = .returned (.string (dec (a + x))) ∧ Below w.heap.size w w' :=
 add_any a x w ht (Nat.le_trans (nDigits_pow (k := 60) (by decide) ha) (by decide)) (Nat.le_trans (m12_digits hx) (by decide))
def BoMem (w : World) (x y z : Int) (W : World) : Prop := Blk W w.heap.size 57 [.int .i64 x, .int .i64 y, .int .i64 z] ∧ Tab W ∧ Below w.heap.size w W
theorem BoMem.below {w W W' : World} {x y z : Int} (h : BoMem w x y z W) (hb : Below W.heap.size W W') : BoMem w x y z W' := ⟨h.1.below hb h.1.lt, h.2.1.below hb, h.2.2.trans (hb.mono h.2.2.size)⟩
def BoHeld (w : World) (x y z : Int) (W : World) : Prop := W.cell? ⟨w.heap.size, 0, none⟩ = some (.int .i64 x) ∧ W.cell? ⟨w.heap.size, 1, none⟩ = some (.int .i64 y) ∧ W.cell? ⟨w.heap.size, 2, none⟩ = some (.int .i64 z) ∧ BoMem w x y z W
theorem BoMem.held {w W : World} {x y z : Int} (h : BoMem w x y z W) : BoHeld w x y z W := ⟨h.1.cell 0, h.1.cell 1, h.1.cell 2, h⟩
theorem BoHeld.below {w W W' : World} {x y z : Int} (h : BoHeld w x y z W) (hb : Below W.heap.size W W') : BoHeld w x y z W' := (h.2.2.2.below hb).held
theorem BoHeld.drew {w W : World} {x y z : Int} (h : BoHeld w x y z W) : BoHeld w x y z W.drew := h.below (bw_drew (Below.refl _ _))
theorem BoHeld.new {w W : World} {x y z : Int} (h : BoHeld w x y z W) (o : Obj) : BoHeld w x y z (W.alloc o) := h.below (bw_new (Below.refl _ _) o)
theorem BoHeld.tab {w W : World} {x y z : Int} (h : BoHeld w x y z W) : Tab W := h.2.2.2.2.1
theorem rd_three (W : World) (a b c : Int) (t : TypeId) : Rd decv (W.alloc (.cells #[.string (dec a), .string (dec b), .string (dec c)] t)) (W.alloc (.cells #[.string (dec a), .string (dec b), .string (dec c)] t)).heap.size (some ⟨W.heap.size, 0, none⟩) [a, b, c] :=
 Blk.rd (t := t) (heap_alloc_new W _)
def loK (x y z : Int) : Nat → Int
 | 0 => lgZ x y z
 | 1 => lgZ x y z + (if 0 < y then 0 else y)
 | _ => loZ x y z
def hiK (x y z : Int) : Nat → Int
 | 0 => lgZ x y z
 | 1 => lgZ x y z + (if 0 < y then y else 0)
 | _ => hiZ x y z
theorem loK_bd {x y z : Int} (hx : M12 x) (hy : M12 y) (hz : M12 z) (k : Nat) : (loK x y z k).natAbs < 10 ^ 60 ∧ (hiK x y z k).natAbs < 10 ^ 60 := by
 have h := lgZ_bd hx hy hz
 have h1 := lo_bd hx hy hz
 have h2 := hi_bd hx hy hz
 have := hy.1; have := hy.2
 match k with
 | 0 => exact ⟨by show (lgZ x y z).natAbs < _; omega, by show (lgZ x y z).natAbs < _; omega⟩
 | 1 => exact ⟨by show (lgZ x y z + _).natAbs < _; split <;> omega, by show (lgZ x y z + _).natAbs < _; split <;> omega⟩
 | _ + 2 => exact ⟨by show (loZ x y z).natAbs < _; omega, by show (hiZ x y z).natAbs < _; omega⟩
def BoRel (w : World) (x y z : Int) (a b v : Value) (W : World) : Prop :=
 ∃ k : Nat, k ≤ 2 ∧ v = .int .i64 (k : Int) ∧ a = .string (dec (loK x y z k)) ∧ b = .string (dec (hiK x y z k)) ∧ BoMem w x y z W
set_option maxRecDepth 100000 in
set_option maxHeartbeats 8000000 in
theorem bounds_any (x y z : Int) (w : World) (ht : Tab w) (hx : M12 x) (hy : M12 y) (hz : M12 z) :
  Calls Tryz.prog 107 #[.agg #[.int .i64 x, .int .i64 y, .int .i64 z]] w fun e w' => e = .returned (.tuple #[.string (dec (loZ x y z)), .string (dec (hiZ x y z))]) ∧ Below w.heap.size w w' := by
 have hM0 : BoHeld w x y z (w.alloc (.cells #[.int .i64 x, .int .i64 y, .int .i64 z] 57)) :=
  BoMem.held ⟨heap_alloc_new w _, ht.below (bw_new (Below.refl _ _) _), bw_new (Below.refl _ _) _⟩
 have hlg := lgZ_bd hx hy hz
 have HX := Lib.hid hx
 have HY := Lib.hid hy
 have HZ := Lib.hid hz
 have HLG := Lib.hid hlg
 clear hx hy hz hlg ht
 go_enter Tryz.func107, Tryz.ntmps107
 go_wp2_with fail
 obtain ⟨W, hW⟩ : ∃ W, W = w.alloc (.cells #[.int .i64 x, .int .i64 y, .int .i64 z] 57) := ⟨_, rfl⟩
 rw [← hW] at hM0 ⊢
 clear hW
 go_region_held3 (fun w' => w'.cell? ⟨w.heap.size, 0, none⟩ = some (.int .i64 x) ∧ w'.cell? ⟨w.heap.size, 1, none⟩ = some (.int .i64 y) ∧ w'.cell? ⟨w.heap.size, 2, none⟩ = some (.int .i64 z) ∧ BoMem w x y z w') (first | assumption | exact BoHeld.drew hM0 | exact BoHeld.below (by assumption) hbel | exact BoHeld.new (by assumption) _)
  (first
   | (go_at_call 51; refine (of12 _ _ (BoHeld.tab (by assumption)) (by first | exact HX.out | exact HY.out | exact HZ.out)).mono ?_; rintro e w' ⟨rfl, hbel⟩)
   | (go_at_call_of 52 (dec x); refine (mul_unit x _ (BoHeld.tab (by assumption)) HX.out).mono ?_; rintro e w' ⟨rfl, hbel⟩)
   | (go_at_call_of 52 (dec y); refine (mul_three y _ (BoHeld.tab (by assumption)) HY.out).mono ?_; rintro e w' ⟨rfl, hbel⟩)
   | (go_at_call_of 52 (dec z); refine (mul_five z _ (BoHeld.tab (by assumption)) HZ.out).mono ?_; rintro e w' ⟨rfl, hbel⟩)
   | (go_at_call 136; refine (sum_lg x y z _ _ (BoHeld.tab (by assumption)) HX.out HY.out HZ.out (rd_three _ _ _ _ _)).mono ?_; rintro e w' ⟨rfl, hbel⟩))
 have hB : BoHeld w x y z w' := by assumption
 have HB := Lib.hid hB.2.2.2
 rename_i hHeld
 clear hHeld hB hbel hM0
 obtain ⟨W1, hW1⟩ : ∃ W1, W1 = w' := ⟨_, rfl⟩
 rw [← hW1] at HB ⊢
 clear hW1
 go_wp2_with fail
 go_loopw [2, 3, 23] (fun a b v wr => BoRel w x y z a b v wr) (fun _ _ v _ => 2 - (intOf v).toNat)
 case atStart => exact ⟨0, by omega, rfl, rfl, rfl, HB.out⟩
 case round =>
  obtain ⟨k, hk, rfl, rfl, rfl, hmem⟩ := hrel
  have HM := Lib.hid hmem
  have hsz : w.heap.size < wr.heap.size := hmem.1.lt
  clear hmem HB
  have hbd := loK_bd HX.out HY.out HZ.out k
  by_cases hlt : k < 2
  ·rcases (show k = 0 ∨ k = 1 by omega) with rfl | rfl
   ·have c0 := HM.out.1.cell 1
    obtain ⟨la, hla⟩ : ∃ a, a = loK x y z 0 := ⟨_, rfl⟩
    obtain ⟨ha, hha⟩ : ∃ a, a = hiK x y z 0 := ⟨_, rfl⟩
    rw [← hla, ← hha] at hbd
    rw [← hla, ← hha]
    by_cases hp : 0 < y
    ·have hadd := fun W h => add12 ha y W h hbd.2 HY.out
     have e1 := Lib.hid (show loK x y z (0 + 1) = la by rw [hla]; show _ + (if 0 < y then 0 else y) = _; rw [if_pos hp, Int.add_zero]; rfl)
     have e2 := Lib.hid (show hiK x y z (0 + 1) = ha + y by rw [hha]; show _ + (if 0 < y then y else 0) = _; rw [if_pos hp]; rfl)
     have HADD := Lib.hid hadd
     have HOF := Lib.hid (fun W h => of12 y W h HY.out)
     clear hadd hla hha hbd
     go_wp2_with fail
     refine (HOF.out _ HM.out.2.1).mono ?_
     rintro e w2 ⟨rfl, hb⟩
     have HM2 := Lib.hid (HM.out.below hb)
     clear hb
     go_wp2_with fail
     refine (HADD.out _ HM2.out.2.1).mono ?_
     rintro e w3 ⟨rfl, hb⟩
     have HM3 := Lib.hid (HM2.out.below hb)
     clear hb c0
     go_wp2
     go_roundw
     case rel =>
      have hrl : BoRel w x y z (.string (dec la)) (.string (dec (ha + y))) (.int .i64 ((0 + 1 : Nat) : Int)) w3 := ⟨0 + 1, by omega, rfl, by rw [e1.out], by rw [e2.out], HM3.out⟩
      exact hrl
     case measure => simp [intOf]
    ·have hadd := fun W h => add12 la y W h hbd.1 HY.out
     have e1 := Lib.hid (show loK x y z (0 + 1) = la + y by rw [hla]; show _ + (if 0 < y then 0 else y) = _; rw [if_neg hp]; rfl)
     have e2 := Lib.hid (show hiK x y z (0 + 1) = ha by rw [hha]; show _ + (if 0 < y then y else 0) = _; rw [if_neg hp, Int.add_zero]; rfl)
     have HADD := Lib.hid hadd
     have HOF := Lib.hid (fun W h => of12 y W h HY.out)
     clear hadd hla hha hbd
     go_wp2_with fail
     refine (HOF.out _ HM.out.2.1).mono ?_
     rintro e w2 ⟨rfl, hb⟩
     have HM2 := Lib.hid (HM.out.below hb)
     clear hb
     go_wp2_with fail
     refine (HADD.out _ HM2.out.2.1).mono ?_
     rintro e w3 ⟨rfl, hb⟩
     have HM3 := Lib.hid (HM2.out.below hb)
     clear hb c0
     go_wp2
     go_roundw
     case rel =>
      have hrl : BoRel w x y z (.string (dec (la + y))) (.string (dec ha)) (.int .i64 ((0 + 1 : Nat) : Int)) w3 := ⟨0 + 1, by omega, rfl, by rw [e1.out], by rw [e2.out], HM3.out⟩
      exact hrl
     case measure => simp [intOf]
   ·have c0 := HM.out.1.cell 2
    obtain ⟨la, hla⟩ : ∃ a, a = loK x y z 1 := ⟨_, rfl⟩
    obtain ⟨ha, hha⟩ : ∃ a, a = hiK x y z 1 := ⟨_, rfl⟩
    rw [← hla, ← hha] at hbd
    rw [← hla, ← hha]
    by_cases hp : 0 < z
    ·have hadd := fun W h => add12 ha z W h hbd.2 HZ.out
     have e1 := Lib.hid (show loK x y z (1 + 1) = la by rw [hla]; show _ + (if 0 < z then 0 else z) = _; rw [if_pos hp, Int.add_zero]; rfl)
     have e2 := Lib.hid (show hiK x y z (1 + 1) = ha + z by rw [hha]; show _ + (if 0 < z then z else 0) = _; rw [if_pos hp]; rfl)
     have HADD := Lib.hid hadd
     have HOF := Lib.hid (fun W h => of12 z W h HZ.out)
     clear hadd hla hha hbd
     go_wp2_with fail
     refine (HOF.out _ HM.out.2.1).mono ?_
     rintro e w2 ⟨rfl, hb⟩
     have HM2 := Lib.hid (HM.out.below hb)
     clear hb
     go_wp2_with fail
     refine (HADD.out _ HM2.out.2.1).mono ?_
     rintro e w3 ⟨rfl, hb⟩
     have HM3 := Lib.hid (HM2.out.below hb)
     clear hb c0
     go_wp2
     go_roundw
     case rel =>
      have hrl : BoRel w x y z (.string (dec la)) (.string (dec (ha + z))) (.int .i64 ((1 + 1 : Nat) : Int)) w3 := ⟨1 + 1, by omega, rfl, by rw [e1.out], by rw [e2.out], HM3.out⟩
      exact hrl
     case measure => simp [intOf]
    ·have hadd := fun W h => add12 la z W h hbd.1 HZ.out
     have e1 := Lib.hid (show loK x y z (1 + 1) = la + z by rw [hla]; show _ + (if 0 < z then 0 else z) = _; rw [if_neg hp]; rfl)
     have e2 := Lib.hid (show hiK x y z (1 + 1) = ha by rw [hha]; show _ + (if 0 < z then z else 0) = _; rw [if_neg hp, Int.add_zero]; rfl)
     have HADD := Lib.hid hadd
     have HOF := Lib.hid (fun W h => of12 z W h HZ.out)
     clear hadd hla hha hbd
     go_wp2_with fail
     refine (HOF.out _ HM.out.2.1).mono ?_
     rintro e w2 ⟨rfl, hb⟩
     have HM2 := Lib.hid (HM.out.below hb)
     clear hb
     go_wp2_with fail
     refine (HADD.out _ HM2.out.2.1).mono ?_
     rintro e w3 ⟨rfl, hb⟩
     have HM3 := Lib.hid (HM2.out.below hb)
     clear hb c0
     go_wp2
     go_roundw
     case rel =>
      have hrl : BoRel w x y z (.string (dec (la + z))) (.string (dec ha)) (.int .i64 ((1 + 1 : Nat) : Int)) w3 := ⟨1 + 1, by omega, rfl, by rw [e1.out], by rw [e2.out], HM3.out⟩
      exact hrl
     case measure => simp [intOf]
  ·obtain rfl : k = 2 := by omega
   go_wp2
   go_ret2
   exact ⟨rfl, HM.out.2.2⟩
abbrev s240000 : ByteArray := ⟨#[50, 52, 48, 48, 48, 48]⟩
def cenZ (x y z D : Int) : Int := (loZ x y z * 240000 + D * lgU) / (D * lgU * 2)
theorem cen_bd {x y z D : Int} (hx : M12 x) (hy : M12 y) (hz : M12 z) (hD : 1 ≤ D ∧ D ≤ 240) :
  (0 < D * lgU ∧ (D * lgU).natAbs < 10 ^ 40) ∧ (loZ x y z * 240000).natAbs < 10 ^ 60 ∧ (loZ x y z * 240000 + D * lgU).natAbs < 10 ^ 61 ∧ (0 < D * lgU * 2 ∧ (D * lgU * 2).natAbs < 10 ^ 41) := by
 have h1 := lo_bd hx hy hz
 have h2 : D * lgU = D * 1000000000000000000000000000000 := rfl
 rw [h2]
 omega
theorem prt_num {S : List (Int × Int)} {l : List Int} {D : Int} (h : prt S = some (l, D)) (hS : Mild S) : (1 ≤ D ∧ D ≤ 240) ∧ ∀ x ∈ l, -6000 ≤ x ∧ x ≤ 6000 := by
 unfold prt at h
 split at h
 ·cases h
 ·rename_i D' hD
  cases hn : prN S D' with
  | none => rw [hn] at h; cases h
  | some t =>
   rw [hn] at h
   cases h
   constructor
   ·clear hn
    have key : ∀ (L : List (Int × Int)) (x : Int), Mild L → (1 ≤ x ∧ x ≤ 240) → prD L x = some D → 1 ≤ D ∧ D ≤ 240 := by
     intro L
     induction L with
     | nil => intro x _ hx he; cases he; exact hx
     | cons p r ih =>
      intro x hm hx he
      obtain ⟨n, d⟩ := p
      unfold prD at he
      split at he
      ·cases he
      ·split at he
       ·cases he
       ·rename_i h1 h2
        have hd := (hm (n, d) List.mem_cons_self).1
        have hb := lcmA_bd hx (d := d) ⟨hd.1, by omega⟩
        exact ih _ (fun q hq => hm q (List.mem_cons_of_mem _ hq)) ⟨hb.2.2.1, by omega⟩ he
    exact key S 1 hS ⟨by decide, by decide⟩ hD
   ·clear hD hS
    induction S generalizing l with
    | nil => cases hn; intro x hx; cases hx
    | cons p r ih =>
     obtain ⟨n, d⟩ := p
     unfold prN at hn
     split at hn
     ·cases hn
     ·rename_i hb
      cases hr : prN r D with
      | none => rw [hr] at hn; cases hn
      | some t =>
       rw [hr] at hn
       cases hn
       intro x hx
       rcases List.mem_cons.1 hx with rfl | hx
       ·omega
       ·exact ih hr x hx
def CeMem (w : World) (n0 d0 n1 d1 n2 d2 : Int) (W : World) : Prop :=
 Blk W w.heap.size 49 [.int .i64 n0, .int .i64 d0, .int .i64 n1, .int .i64 d1, .int .i64 n2, .int .i64 d2] ∧ Tab W ∧ Below w.heap.size w W
theorem ivE_cases {S : List (Int × Int)} (h : ivE S = 0) : (∀ q ∈ S, Right q.1 q.2) ∧ prt S ≠ none := by
 unfold ivE at h
 split at h
 ·rename_i h1
  split at h
  ·omega
  ·rename_i h2; exact ⟨h1, h2⟩
 ·omega
end Go.Proofs.YtendjepcjmfmfaaGreatDoor
