/- Part 25 of 46 of the proof of the law: contracts of the functions that it reaches, and plain facts. Conditions: those that each contract names. -/
import Derived.Test.YtlmheeommpbimaaGreatDoorIntB24
import Derived.Test.YtlmheeommpbimaaGreatDoorIntB13
import Derived.Test.YtlmheeommpbimaaGreatDoorIntB03
import Derived.Test.YtlmheeommpbimaaGreatDoorIntB23
import Derived.BigQuiet
import Derived.Deep.QuietTactic
namespace Go.Proofs.YtlmheeommpbimaaGreatDoor
section
section
open Go.RowKit
set_option maxRecDepth 100000 in
theorem whole_zero (minus : Bool) (A : Option Addr) (c : Nat) (w : World) :
  Calls Tryz.prog 108 #[.bool minus, .slice A 0 c] w fun e w' => e = .returned (.string (dec 0)) ∧ Below w.heap.size w w' := by
 rw [dec_zero]
 go_enter Tryz.func108, Tryz.ntmps108
 go_wp2
 go_ret
 exact ⟨rfl, Below.refl _ _⟩
theorem whole_any (minus : Bool) (n : Nat) (A : Option Addr) (c : Nat) (w : World) (ht : Tab w) (hr : Rd n64v w w.heap.size A (grps n)) (hl : (grps n).length ≤ 200000) :
  Calls Tryz.prog 108 #[.bool minus, .slice A (grps n).length c] w fun e w' => e = .returned (.string (dec (if minus then -(n : Int) else n))) ∧ Below w.heap.size w w' := by
 by_cases hn : n = 0
 ·subst hn
  rw [grps_zero]
  have h := whole_zero minus A c w
  have e : (if minus then -((0 : Nat) : Int) else ((0 : Nat) : Int)) = 0 := by cases minus <;> rfl
  rw [e]
  exact h
 ·exact whole_pos minus n hn A c w ht hr hl
theorem group_abs (z : Int) (w : World) (h : Lib.nDigits z.natAbs ≤ 1000000) :
  Calls Tryz.prog 110 #[.string (absS z)] w (RetGrp z.natAbs w) := by
 have := group_any (absS z) w (by rw [absS_list]; exact digs_dec _) (by rw [absS_size]; exact Lib.nDigits_pos _) (by rw [absS_size]; exact h)
 rwa [absS_list, dval_dec] at this
theorem refof_any (n : Int) (h0 : -9223372036854775808 ≤ n) (h1 : n ≤ 9223372036854775807) (w : World) (ht : Tab w) :
  Calls Tryz.prog 107 #[.int .i64 n] w fun e w' => e = .returned (.string (dec n)) ∧ Below w.heap.size w w' := by
 go_enter Tryz.func107, Tryz.ntmps107
 go_wp2_with (go_at_call 122; refine (itoa_any n h0 h1 _ ht).mono ?_; rintro e w' ⟨rfl, hb⟩)
 go_ret
 exact ⟨rfl, hb⟩
theorem dec_size_le (z : Int) : (dec z).size ≤ Lib.nDigits z.natAbs + 1 := by
 have h : (dec z).data.toList.length ≤ Lib.nDigits z.natAbs + 1 := by
  rw [dec_list]
  by_cases h : z < 0
  ·obtain ⟨u, rfl⟩ : ∃ u : Nat, z = -(u : Int) := ⟨z.natAbs, by omega⟩
   rw [Lib.itoa_neg u (by omega), List.length_cons, Lib.decDigits_length, show (-(u : Int)).natAbs = u by omega]
   exact Nat.le_refl _
  ·obtain ⟨n, rfl⟩ := Int.eq_ofNat_of_zero_le (show 0 ≤ z by omega)
   rw [Lib.itoa_nonneg, Lib.decDigits_length]
   exact Nat.le_succ _
 rwa [Array.length_toList] at h
set_option maxRecDepth 100000 in
theorem small_any (z : Int) (w : World) (h : Lib.nDigits z.natAbs ≤ 17) :
  Calls Tryz.prog 106 #[.string (dec z)] w fun e w' => e = .returned (.tuple #[.int .i64 z, .bool true]) ∧ Below w.heap.size w w' := by
 have hc := fun W => refcut_any z W
 have ha := fun W => atoi_dec z W (Nat.le_trans (dec_size_le z) (by omega))
 have hs := absS_size z
 obtain ⟨s, hs0⟩ : ∃ s, s = absS z := ⟨_, rfl⟩
 obtain ⟨x, hx⟩ : ∃ x, x = decide (z < 0) := ⟨_, rfl⟩
 rw [← hs0, ← hx] at hc
 rw [← hs0] at hs
 rw [← hs] at h
 have HC := Lib.hid hc
 have HA := Lib.hid ha
 clear hc ha hs hs0 hx
 go_enter Tryz.func106, Tryz.ntmps106
 go_wp2_with fail
 refine (HC.out _).mono ?_
 rintro e w1 ⟨rfl, hb1⟩
 go_wp2_with fail
 refine (HA.out _).mono ?_
 rintro e w2 ⟨rfl, hb2⟩
 have HB := Lib.hid (hb1.trans (hb2.mono hb1.size))
 clear hb1 hb2
 go_wp2
 go_ret2
 exact ⟨rfl, HB.out⟩
set_option maxRecDepth 100000 in
theorem refneg_any (z : Int) (w : World) (hz : Lib.nDigits z.natAbs ≤ 1000000) :
  Calls Tryz.prog 132 #[.string (dec z)] w fun e w' => e = .returned (.string (dec (-z))) ∧ Below w.heap.size w w' := by
 have hc := fun W => refcut_any z W
 have h0 := dec_is0 z
 by_cases h : z < 0
 ·rw [decide_eq_true h] at hc
  rw [decide_eq_false (by omega)] at h0
  have he : absS z = dec (-z) := by
   obtain ⟨u, rfl⟩ : ∃ u : Nat, z = -(u : Int) := ⟨z.natAbs, by omega⟩
   rw [Int.neg_neg, dec_nat]
   apply ByteArray.ext; apply Array.toList_inj.1
   rw [absS_list, absS_list]; congr 1; omega
  rw [he] at hc
  obtain ⟨s, hs0⟩ : ∃ s, s = dec z := ⟨_, rfl⟩
  rw [← hs0] at hc h0 ⊢
  obtain ⟨t, ht0⟩ : ∃ t, t = dec (-z) := ⟨_, rfl⟩
  rw [← ht0] at hc ⊢
  have HC := Lib.hid hc
  clear hc hs0 he ht0
  go_enter Tryz.func132, Tryz.ntmps132
  go_wp2_with fail
  refine (HC.out _).mono ?_
  rintro e w1 ⟨rfl, hb1⟩
  go_wp2
  go_ret
  exact ⟨rfl, hb1⟩
 ·rw [decide_eq_false h] at hc
  by_cases hz0 : z = 0
  ·subst hz0
   rw [show dec (-0) = dec 0 by rfl]
   rw [← dec_nonneg 0 (by omega)] at hc
   rw [dec_zero] at hc ⊢
   have HC := Lib.hid hc
   clear hc h0
   go_enter Tryz.func132, Tryz.ntmps132
   go_wp2_with fail
   refine (HC.out _).mono ?_
   rintro e w1 ⟨rfl, hb1⟩
   go_wp2
   go_ret
   exact ⟨rfl, hb1⟩
  ·rw [decide_eq_false hz0] at h0
   have he : (⟨#[45]⟩ : ByteArray) ++ dec z = dec (-z) := by
    obtain ⟨n, rfl⟩ := Int.eq_ofNat_of_zero_le (show 0 ≤ z by omega)
    exact neg_text n (by omega)
   rw [← he]
   have hsz := Nat.le_trans (dec_size_le z) (Nat.add_le_add_right hz 1)
   obtain ⟨s, hs0⟩ : ∃ s, s = dec z := ⟨_, rfl⟩
   rw [← hs0] at hc h0 hsz ⊢
   obtain ⟨t, ht0⟩ : ∃ t, t = absS z := ⟨_, rfl⟩
   rw [← ht0] at hc
   have HC := Lib.hid hc
   clear hc hs0 he ht0
   go_enter Tryz.func132, Tryz.ntmps132
   go_wp2_with fail
   refine (HC.out _).mono ?_
   rintro e w1 ⟨rfl, hb1⟩
   go_wp2
   go_ret
   exact ⟨rfl, hb1⟩
set_option maxRecDepth 100000 in
theorem refsign_any (z : Int) (w : World) :
  Calls Tryz.prog 111 #[.string (dec z)] w fun e w' => e = .returned (.int .i64 (sgn z)) ∧ Below w.heap.size w w' := by
 have hc := fun W => refcut_any z W
 have h0 := dec_is0 z
 obtain ⟨t, ht0⟩ : ∃ t, t = absS z := ⟨_, rfl⟩
 rw [← ht0] at hc
 by_cases h : z < 0
 ·rw [decide_eq_true h] at hc
  rw [decide_eq_false (by omega)] at h0
  rw [sgn_neg h]
  obtain ⟨s, hs0⟩ : ∃ s, s = dec z := ⟨_, rfl⟩
  rw [← hs0] at hc h0 ⊢
  have HC := Lib.hid hc
  clear hc hs0 ht0
  go_enter Tryz.func111, Tryz.ntmps111
  go_wp2_with fail
  refine (HC.out _).mono ?_
  rintro e w1 ⟨rfl, hb1⟩
  go_wp2_with fail
  refine (toInt_yes _).mono ?_
  rintro e w2 ⟨rfl, rfl⟩
  go_wp2
  go_ret
  exact ⟨rfl, hb1⟩
 ·rw [decide_eq_false h] at hc
  by_cases hz : z = 0
  ·rw [decide_eq_true hz] at h0
   have hs : sgn z = 0 := by rw [hz]; rfl
   rw [hs]
   obtain ⟨s, hs0⟩ : ∃ s, s = dec z := ⟨_, rfl⟩
   rw [← hs0] at hc h0 ⊢
   have HC := Lib.hid hc
   clear hc hs0 ht0 hz hs
   go_enter Tryz.func111, Tryz.ntmps111
   go_wp2_with fail
   refine (HC.out _).mono ?_
   rintro e w1 ⟨rfl, hb1⟩
   go_wp2
   go_ret
   exact ⟨rfl, hb1⟩
  ·rw [decide_eq_false hz] at h0
   rw [sgn_pos (by omega)]
   obtain ⟨s, hs0⟩ : ∃ s, s = dec z := ⟨_, rfl⟩
   rw [← hs0] at hc h0 ⊢
   have HC := Lib.hid hc
   clear hc hs0 ht0 hz
   go_enter Tryz.func111, Tryz.ntmps111
   go_wp2_with fail
   refine (HC.out _).mono ?_
   rintro e w1 ⟨rfl, hb1⟩
   go_wp2_with fail
   refine (toInt_no _).mono ?_
   rintro e w2 ⟨rfl, rfl⟩
   go_wp2
   go_ret
   exact ⟨rfl, hb1⟩
end
section
open Go.RowKit
theorem grps_len_digits (n : Nat) : (grps n).length ≤ Lib.nDigits n := by
 refine grps_len_le _ _ ?_
 have h1 := Lib.lt_pow_nDigits n
 have h2 : (10 : Nat) ^ Lib.nDigits n ≤ 10000 ^ Lib.nDigits n := Nat.pow_le_pow_left (by decide) _
 omega
theorem abs_lt17 {z : Int} (h : Lib.nDigits z.natAbs ≤ 17) : -100000000000000000 < z ∧ z < 100000000000000000 := by
 have h1 := Lib.lt_pow_nDigits z.natAbs
 have h2 : (10 : Nat) ^ Lib.nDigits z.natAbs ≤ 10 ^ 17 := Nat.pow_le_pow_right (by decide) h
 omega
theorem abs_lt8 {z : Int} (h : Lib.nDigits z.natAbs ≤ 8) : -100000000 < z ∧ z < 100000000 := by
 have h1 := Lib.lt_pow_nDigits z.natAbs
 have h2 : (10 : Nat) ^ Lib.nDigits z.natAbs ≤ 10 ^ 8 := Nat.pow_le_pow_right (by decide) h
 omega
set_option maxRecDepth 100000 in
theorem refadd_short (a b : Int) (w : World) (ht : Tab w) (ha : Lib.nDigits a.natAbs ≤ 17) (hb : Lib.nDigits b.natAbs ≤ 17) :
  Calls Tryz.prog 131 #[.string (dec a), .string (dec b)] w fun e w' => e = .returned (.string (dec (a + b))) ∧ Below w.heap.size w w' := by
 have hca := fun W => refcut_any a W
 have hcb := fun W => refcut_any b W
 have hsa := fun W => small_any a W ha
 have hsb := fun W => small_any b W hb
 have ra := abs_lt17 ha
 have rb := abs_lt17 hb
 have hof := fun W h => refof_any (a + b) (by omega) (by omega) W h
 have hs := absS_size a
 have hu := absS_size b
 obtain ⟨s, hs0⟩ : ∃ s, s = absS a := ⟨_, rfl⟩
 obtain ⟨x, hx⟩ : ∃ x, x = decide (a < 0) := ⟨_, rfl⟩
 obtain ⟨t, ht0⟩ : ∃ t, t = absS b := ⟨_, rfl⟩
 obtain ⟨y, hy⟩ : ∃ y, y = decide (b < 0) := ⟨_, rfl⟩
 rw [← hs0, ← hx] at hca
 rw [← ht0, ← hy] at hcb
 rw [← hs0] at hs
 rw [← ht0] at hu
 rw [← hs] at ha
 rw [← hu] at hb
 have HCA := Lib.hid hca
 have HCB := Lib.hid hcb
 have HSA := Lib.hid hsa
 have HSB := Lib.hid hsb
 have HOF := Lib.hid hof
 clear hca hcb hsa hsb hof hs hu hs0 hx ht0 hy
 go_enter Tryz.func131, Tryz.ntmps131
 go_wp2_with fail
 refine (HCA.out _).mono ?_
 rintro e w1 ⟨rfl, hb1⟩
 go_wp2_with fail
 refine (HCB.out _).mono ?_
 rintro e w2 ⟨rfl, hb2⟩
 replace hb1 := hb1.trans (hb2.mono hb1.size)
 clear hb2
 go_wp2_with fail
 refine (HSA.out _).mono ?_
 rintro e w3 ⟨rfl, hb2⟩
 replace hb1 := hb1.trans (hb2.mono hb1.size)
 clear hb2
 go_wp2_with fail
 refine (HSB.out _).mono ?_
 rintro e w4 ⟨rfl, hb2⟩
 replace hb1 := hb1.trans (hb2.mono hb1.size)
 clear hb2
 go_wp2_with fail
 refine (HOF.out _ (ht.below hb1)).mono ?_
 rintro e w5 ⟨rfl, hb2⟩
 have HB := Lib.hid (hb1.trans (hb2.mono hb1.size))
 clear hb2 hb1
 go_wp2
 go_ret
 exact ⟨rfl, HB.out⟩
theorem ref_add_same {a b : Int} (h : decide (a < 0) = decide (b < 0)) : (if decide (a < 0) = true then -((a.natAbs + b.natAbs : Nat) : Int) else ((a.natAbs + b.natAbs : Nat) : Int)) = a + b := by
 by_cases ha : a < 0
 ·rw [decide_eq_true ha] at h ⊢
  have hb : b < 0 := of_decide_eq_true h.symm
  rw [if_pos rfl]; omega
 ·rw [decide_eq_false ha] at h ⊢
  have hb : ¬ b < 0 := of_decide_eq_false h.symm
  rw [if_neg (by decide)]; omega
theorem add_less {a b : Int} (h : decide (a < 0) ≠ decide (b < 0)) (hl : a.natAbs < b.natAbs) : (if decide (b < 0) = true then -((b.natAbs - a.natAbs : Nat) : Int) else ((b.natAbs - a.natAbs : Nat) : Int)) = a + b := by
 by_cases hb : b < 0
 ·rw [decide_eq_true hb] at h ⊢
  have ha : ¬ a < 0 := fun k => h (decide_eq_true k)
  rw [if_pos rfl]; omega
 ·rw [decide_eq_false hb] at h ⊢
  have ha : a < 0 := by
   by_cases k : a < 0
   ·exact k
   ·exact absurd (decide_eq_false k) h
  rw [if_neg (by decide)]; omega
theorem add_more {a b : Int} (h : decide (a < 0) ≠ decide (b < 0)) (hl : ¬ a.natAbs < b.natAbs) : (if decide (a < 0) = true then -((a.natAbs - b.natAbs : Nat) : Int) else ((a.natAbs - b.natAbs : Nat) : Int)) = a + b := by
 rw [Int.add_comm]
 by_cases e : a.natAbs = b.natAbs
 ·by_cases ha : a < 0
  ·rw [decide_eq_true ha] at h ⊢
   have hb : ¬ b < 0 := fun k => h (decide_eq_true k).symm
   rw [if_pos rfl]; omega
  ·rw [decide_eq_false ha] at h ⊢
   rw [if_neg (by decide)]
   by_cases hb : b < 0
   ·omega
   ·exact absurd (decide_eq_false hb).symm h
 ·exact add_less (a := b) (b := a) (fun k => h k.symm) (by omega)
theorem grps_len_add (p q : Nat) : (grps (p + q)).length ≤ max (grps p).length (grps q).length + 1 := by
 refine grps_len_le _ _ ?_
 have h1 := grps_len_lt p
 have h2 := grps_len_lt q
 have h3 : (10000 : Nat) ^ (grps p).length ≤ 10000 ^ max (grps p).length (grps q).length := Nat.pow_le_pow_right (by decide) (Nat.le_max_left _ _)
 have h4 : (10000 : Nat) ^ (grps q).length ≤ 10000 ^ max (grps p).length (grps q).length := Nat.pow_le_pow_right (by decide) (Nat.le_max_right _ _)
 rw [Nat.pow_succ]
 omega
set_option maxRecDepth 100000 in
set_option maxHeartbeats 4000000 in
theorem refadd_long (a b : Int) (w : World) (ht : Tab w) (ha : Lib.nDigits a.natAbs ≤ 400000) (hb : Lib.nDigits b.natAbs ≤ 400000) (hl : ¬ (Lib.nDigits a.natAbs ≤ 17 ∧ Lib.nDigits b.natAbs ≤ 17))
  (hla : (grps a.natAbs).length ≤ 150000) (hlb : (grps b.natAbs).length ≤ 150000) :
  Calls Tryz.prog 131 #[.string (dec a), .string (dec b)] w fun e w' => e = .returned (.string (dec (a + b))) ∧ Below w.heap.size w w' := by
 have hca := fun W => refcut_any a W
 have hcb := fun W => refcut_any b W
 have hga := fun W => group_abs a W (by omega)
 have hgb := fun W => group_abs b W (by omega)
 have hs := absS_size a
 have hu := absS_size b
 have hsame := @ref_add_same a b
 have hless := @add_less a b
 have hmore := @add_more a b
 obtain ⟨s, hs0⟩ : ∃ s, s = absS a := ⟨_, rfl⟩
 obtain ⟨x, hx⟩ : ∃ x, x = decide (a < 0) := ⟨_, rfl⟩
 obtain ⟨t, ht0⟩ : ∃ t, t = absS b := ⟨_, rfl⟩
 obtain ⟨y, hy⟩ : ∃ y, y = decide (b < 0) := ⟨_, rfl⟩
 obtain ⟨p, hp⟩ : ∃ p, p = a.natAbs := ⟨_, rfl⟩
 obtain ⟨q, hq⟩ : ∃ q, q = b.natAbs := ⟨_, rfl⟩
 rw [← hs0, ← hx] at hca
 rw [← ht0, ← hy] at hcb
 rw [← hs0, ← hp] at hga
 rw [← ht0, ← hq] at hgb
 rw [← hs0] at hs
 rw [← ht0] at hu
 rw [← hs] at ha hl
 rw [← hu] at hb hl
 rw [← hx, ← hy, ← hp, ← hq] at hsame hless hmore
 rw [← hp] at hla
 rw [← hq] at hlb
 have HSAME := Lib.hid hsame
 have HLESS := Lib.hid hless
 have HMORE := Lib.hid hmore
 have HCA := Lib.hid hca
 have HCB := Lib.hid hcb
 have HGA := Lib.hid hga
 have HGB := Lib.hid hgb
 have HLA := Lib.hid hla
 have HLB := Lib.hid hlb
 clear hca hcb hga hgb hs hu hs0 hx ht0 hy hp hq hsame hless hmore hla hlb
 have hcase : 18 ≤ s.size ∨ (s.size < 18 ∧ 18 ≤ t.size) := by omega
 clear hl
 rcases hcase with hl | ⟨hl, hl2⟩
 all_goals
  go_enter Tryz.func131, Tryz.ntmps131
  go_wp2_with fail
  refine (HCA.out _).mono ?_
  rintro e w1 ⟨rfl, hb1⟩
  go_wp2_with fail
  refine (HCB.out _).mono ?_
  rintro e w2 ⟨rfl, hb2⟩
  replace hb1 := hb1.trans (hb2.mono hb1.size)
  clear hb2
  go_wp2_with fail
  refine (HGA.out _).mono ?_
  rintro e w3 ⟨A1, c1, rfl, hr1, _, hb2⟩
  replace hb1 := hb1.trans (hb2.mono hb1.size)
  clear hb2
  go_wp2_with fail
  refine (HGB.out _).mono ?_
  rintro e w4 ⟨A2, c2, rfl, hr2, _, hb2⟩
  replace hr1 := (hr1.below hb2).more hb2.size
  replace hb1 := hb1.trans (hb2.mono hb1.size)
  clear hb2
  have HB := Lib.hid hb1
  have HT := Lib.hid (ht.below hb1)
  have HR1 := Lib.hid hr1
  have HR2 := Lib.hid hr2
  clear hb1 hr1 hr2
  by_cases hxy : x = y
  ·have hfin := HSAME.out hxy
   have hxb : (x == y) = true := by rw [hxy]; exact beq_self_eq_true y
   have hgr : (grps (p + q)).length ≤ 200000 := Nat.le_trans (grps_len_add p q) (by have := HLA.out; have := HLB.out; omega)
   have hba := both_add (grps p) (grps q) A1 A2 c1 c2 w4 HR1.out HR2.out (grps_small p) (grps_small q) (Nat.le_trans HLA.out (by omega)) (Nat.le_trans HLB.out (by omega))
   rw [gv_grps, gv_grps] at hba
   have HBA := Lib.hid hba
   have HFIN := Lib.hid hfin
   have HGR := Lib.hid hgr
   clear hxy hba hfin hgr
   go_wp2_with fail
   refine (HBA.out).mono ?_
   rintro e w5 ⟨A3, c3, rfl, hr3, _, hb2⟩
   have hwh := whole_any x (p + q) A3 c3 w5 (HT.out.below hb2) hr3 HGR.out
   rw [HFIN.out] at hwh
   have HW := Lib.hid hwh
   have HB2 := Lib.hid (HB.out.trans (hb2.mono HB.out.size))
   clear hb2 hr3 hwh
   go_wp2_with fail
   refine (HW.out).mono ?_
   rintro e w6 ⟨rfl, hb3⟩
   have HB3 := Lib.hid (HB2.out.trans (hb3.mono HB2.out.size))
   clear hb3
   go_wp2
   go_ret
   exact ⟨rfl, HB3.out⟩
  ·have hxb : (x == y) = false := by rw [beq_eq_false_iff_ne]; exact hxy
   by_cases hpq : p < q
   ·have hfin := HLESS.out hxy hpq
    have hor := order_any p q A1 A2 c1 c2 w4 HR1.out HR2.out (Nat.le_trans HLA.out (by omega)) (Nat.le_trans HLB.out (by omega))
    rw [sgnI_neg (show (p : Int) - q < 0 by omega)] at hor
    have HOR := Lib.hid hor
    have HFIN := Lib.hid hfin
    have HPQ := Lib.hid hpq
    clear hxy hor hfin hpq
    go_wp2_with fail
    refine (HOR.out).mono ?_
    rintro e w5 ⟨rfl, hb2⟩
    have hba := both_sub (grps q) (grps p) A2 A1 c2 c1 w5 ((HR2.out.below hb2).more hb2.size) ((HR1.out.below hb2).more hb2.size) (grps_small q) (grps_small p) (Nat.le_trans HLB.out (by omega)) (Nat.le_trans HLA.out (by omega)) (by rw [gv_grps, gv_grps]; exact Nat.le_of_lt HPQ.out)
    rw [gv_grps, gv_grps] at hba
    have HBA := Lib.hid hba
    have HB2 := Lib.hid (HB.out.trans (hb2.mono HB.out.size))
    clear hb2 hba
    go_wp2_with fail
    refine (HBA.out).mono ?_
    rintro e w6 ⟨A3, c3, rfl, hr3, _, hb2⟩
    have hB := HB2.out.trans (hb2.mono HB2.out.size)
    have hwh := whole_any y (q - p) A3 c3 w6 (ht.below hB) hr3 (Nat.le_trans (grps_len_mono (Nat.sub_le q p)) (Nat.le_trans HLB.out (by omega)))
    rw [HFIN.out] at hwh
    have HW := Lib.hid hwh
    have HB3 := Lib.hid hB
    clear hb2 hr3 hwh hB
    go_wp2_with fail
    refine (HW.out).mono ?_
    rintro e w7 ⟨rfl, hb3⟩
    have HB4 := Lib.hid (HB3.out.trans (hb3.mono HB3.out.size))
    clear hb3
    go_wp2
    go_ret
    exact ⟨rfl, HB4.out⟩
   ·have hfin := HMORE.out hxy hpq
    have hor := order_any p q A1 A2 c1 c2 w4 HR1.out HR2.out (Nat.le_trans HLA.out (by omega)) (Nat.le_trans HLB.out (by omega))
    obtain ⟨o, ho⟩ : ∃ o, o = sgnI ((p : Int) - q) := ⟨_, rfl⟩
    have ho0 : 0 ≤ o := by rw [ho]; unfold sgnI; split <;> (try split) <;> omega
    rw [← ho] at hor
    have HOR := Lib.hid hor
    have HFIN := Lib.hid hfin
    have HPQ := Lib.hid hpq
    clear hxy hor hfin hpq ho
    go_wp2_with fail
    refine (HOR.out).mono ?_
    rintro e w5 ⟨rfl, hb2⟩
    have hba := both_sub (grps p) (grps q) A1 A2 c1 c2 w5 ((HR1.out.below hb2).more hb2.size) ((HR2.out.below hb2).more hb2.size) (grps_small p) (grps_small q) (Nat.le_trans HLA.out (by omega)) (Nat.le_trans HLB.out (by omega)) (by rw [gv_grps, gv_grps]; exact Nat.le_of_not_lt HPQ.out)
    rw [gv_grps, gv_grps] at hba
    have HBA := Lib.hid hba
    have HB2 := Lib.hid (HB.out.trans (hb2.mono HB.out.size))
    clear hb2 hba
    go_wp2_with fail
    refine (HBA.out).mono ?_
    rintro e w6 ⟨A3, c3, rfl, hr3, _, hb2⟩
    have hB := HB2.out.trans (hb2.mono HB2.out.size)
    have hwh := whole_any x (p - q) A3 c3 w6 (ht.below hB) hr3 (Nat.le_trans (grps_len_mono (Nat.sub_le p q)) (Nat.le_trans HLA.out (by omega)))
    rw [HFIN.out] at hwh
    have HW := Lib.hid hwh
    have HB3 := Lib.hid hB
    clear hb2 hr3 hwh hB
    go_wp2_with fail
    refine (HW.out).mono ?_
    rintro e w7 ⟨rfl, hb3⟩
    have HB4 := Lib.hid (HB3.out.trans (hb3.mono HB3.out.size))
    clear hb3
    go_wp2
    go_ret
    exact ⟨rfl, HB4.out⟩
theorem refadd_any (a b : Int) (w : World) (ht : Tab w) (ha : Lib.nDigits a.natAbs ≤ 150000) (hb : Lib.nDigits b.natAbs ≤ 150000) :
  Calls Tryz.prog 131 #[.string (dec a), .string (dec b)] w fun e w' => e = .returned (.string (dec (a + b))) ∧ Below w.heap.size w w' := by
 by_cases h : Lib.nDigits a.natAbs ≤ 17 ∧ Lib.nDigits b.natAbs ≤ 17
 ·exact refadd_short a b w ht h.1 h.2
 ·exact refadd_long a b w ht (Nat.le_trans ha (by omega)) (Nat.le_trans hb (by omega)) h (Nat.le_trans (grps_len_digits _) ha) (Nat.le_trans (grps_len_digits _) hb)
set_option maxRecDepth 100000 in
theorem refsub_any (a b : Int) (w : World) (ht : Tab w) (ha : Lib.nDigits a.natAbs ≤ 150000) (hb : Lib.nDigits b.natAbs ≤ 150000) :
  Calls Tryz.prog 112 #[.string (dec a), .string (dec b)] w fun e w' => e = .returned (.string (dec (a - b))) ∧ Below w.heap.size w w' := by
 have hn := fun W => refneg_any b W (Nat.le_trans hb (by omega))
 have had := fun W h => refadd_any a (-b) W h ha (by rw [Int.natAbs_neg]; exact hb)
 rw [← Int.sub_eq_add_neg] at had
 have HN := Lib.hid hn
 have HAD := Lib.hid had
 clear hn had ha hb
 go_enter Tryz.func112, Tryz.ntmps112
 go_wp2_with fail
 refine (HN.out _).mono ?_
 rintro e w1 ⟨rfl, hb1⟩
 go_wp2_with fail
 refine (HAD.out _ (ht.below hb1)).mono ?_
 rintro e w2 ⟨rfl, hb2⟩
 have HB := Lib.hid (hb1.trans (hb2.mono hb1.size))
 clear hb1 hb2
 go_wp2
 go_ret
 exact ⟨rfl, HB.out⟩
set_option maxRecDepth 100000 in
theorem refcompare_any (a b : Int) (w : World) (ht : Tab w) (ha : Lib.nDigits a.natAbs ≤ 150000) (hb : Lib.nDigits b.natAbs ≤ 150000) :
  Calls Tryz.prog 94 #[.string (dec a), .string (dec b)] w fun e w' => e = .returned (.int .i64 (sgn (a - b))) ∧ Below w.heap.size w w' := by
 have hs := fun W h => refsub_any a b W h ha hb
 have hg := fun W => refsign_any (a - b) W
 have HS := Lib.hid hs
 have HG := Lib.hid hg
 clear hs hg ha hb
 go_enter Tryz.func94, Tryz.ntmps94
 go_wp2_with fail
 refine (HS.out _ ht).mono ?_
 rintro e w1 ⟨rfl, hb1⟩
 go_wp2_with fail
 refine (HG.out _).mono ?_
 rintro e w2 ⟨rfl, hb2⟩
 have HB := Lib.hid (hb1.trans (hb2.mono hb1.size))
 clear hb1 hb2
 go_wp2
 go_ret
 exact ⟨rfl, HB.out⟩
end
end
section
open Go.RowKit
set_option maxRecDepth 100000 in
set_option maxHeartbeats 4000000 in
theorem reftimes_any (G H : List Nat) (A1 A2 : Option Addr) (c1 c2 : Nat) (w : World) (hr1 : Rd n64v w w.heap.size A1 G) (hr2 : Rd n64v w w.heap.size A2 H) (hG : Small4 G) (hH : Small4 H)
  (hg : G.length ≤ 200000) (hh : H.length ≤ 200000) :
  Calls Tryz.prog 109 #[.slice A1 G.length c1, .slice A2 H.length c2] w (RetGrp (gv G * gv H) w) := by
 obtain ⟨i0, hi, hz0, hz1, hz2⟩ := info_parts infoIntG
 have HHI := Lib.hid hi
 have HZ0 := Lib.hid hz0
 have HZ1 := Lib.hid hz1
 have HZ2 := Lib.hid hz2
 have HG := Lib.hid hG
 have HH := Lib.hid hH
 clear hi hz0 hz1 hz2 hG hH
 go_enter Tryz.func109, Tryz.ntmps109
 go_wp2
 go_loopw [5, 6] (fun m iv wr => ∃ (i : Nat) (A : Option Addr) (cp : Nat), i ≤ G.length ∧ m = .slice A (grps (gv (G.take i) * gv H)).length cp ∧ iv = .int .i64 (i : Int) ∧ (grps (gv (G.take i) * gv H)).length ≤ cp ∧
   Rd n64v wr wr.heap.size A (grps (gv (G.take i) * gv H)) ∧ Below w.heap.size w wr)
  (fun _ iv _ => G.length - (intOf iv).toNat)
 case atStart => exact ⟨0, none, 0, by omega, by simp [gv, grps_zero], rfl, by simp [gv, grps_zero], by simp only [List.take_zero, gv, Nat.zero_mul, grps_zero]; exact Rd.nil, Below.refl _ _⟩
 case round =>
  obtain ⟨i, A, cp, hi, rfl, rfl, hcp, hr, hb⟩ := hrel
  obtain ⟨p, hp⟩ : ∃ p, p = gv (G.take i) * gv H := ⟨_, rfl⟩
  have hpl : (grps p).length ≤ 400000 := by rw [hp]; exact Nat.le_trans (grps_mul_len HG.out HH.out i) (by omega)
  rw [← hp] at hr hcp ⊢
  have HP := Lib.hid hp
  have HR := Lib.hid hr
  have HB := Lib.hid hb
  have HPL := Lib.hid hpl
  clear hp hr hb hpl
  by_cases hlt : i < G.length
  ·obtain ⟨b1, o1, rfl, hb1, q1⟩ := hr1.at_ (by omega)
   obtain ⟨x, hx⟩ : ∃ x, x = G[i] := ⟨_, rfl⟩
   have hq : w.cell? ⟨b1, o1 + i, none⟩ = some (.int .i64 (x : Int)) := by rw [q1 i hlt, hx]
   have hx4 : x < 10000 := by rw [hx]; exact HG.out.get i hlt
   have HX := Lib.hid hx
   have HQ := Lib.hid hq
   clear hx q1 hq
   go_wp2_with (at_make; refine wpList_make_full _ rfl _ _ 69 rfl wr.heap.size 3 i0 (.int .i64 0) 1 Tryz.underlying69 HHI.out HZ0.out HZ1.out .i64 .i64 _ _ i rfl rfl (by omega) (by omega) (by rw [HZ2.out]; omega) (by unfold maxLen; omega) (Nat.le_refl _) ?_)
   intro w1 hown hgrow
   have hb1w : Below w.heap.size w w1 := HB.out.grown hgrow HB.out.size (by simp)
   rw [toList_madeCells_one] at hown
   have ho1 : w1.ownsRow wr.heap.size 3 1 (.slice (some ⟨wr.heap.size, 0, none⟩) i i) i ((List.replicate i 0 ++ []).map n64v) := by
    simpa [n64v] using hown
   have hbr : Below wr.heap.size wr w1 := (Below.refl _ _).grown hgrow (Nat.le_refl _) (by simp)
   have HO1 := Lib.hid ho1
   have HB1 := Lib.hid hb1w
   have HBR := Lib.hid hbr
   clear hown hgrow ho1 hb1w hbr
   go_wp2
   obtain ⟨wo, rfl⟩ : ∃ wo : World, wo = wr := ⟨_, rfl⟩
   go_loopw [7, 8, 9] (fun rv cv kv wq => ∃ (k c : Nat) (O L : List Nat) (A' : Option Addr) (cp' : Nat), rv = .slice A' (i + k) cp' ∧ cv = .int .i64 (c : Int) ∧ kv = .int .i64 (k : Int) ∧ c < 10000 ∧ k ≤ H.length + 1 ∧ Lib.Kept (InRow H x k O c) ∧ Lib.Kept (L = List.replicate i 0 ++ O) ∧
     wq.ownsRow wo.heap.size 3 1 (.slice A' (i + k) cp') (i + k) (L.map n64v) ∧ Below w.heap.size w wq ∧ Below wo.heap.size wo wq)
    (fun _ _ kv _ => H.length + 2 - (intOf kv).toNat)
   case atStart => exact ⟨0, 0, [], List.replicate i 0 ++ [], some ⟨wo.heap.size, 0, none⟩, i, rfl, rfl, rfl, by omega, by omega, InRow.start H x, rfl, HO1.out, HB1.out, HBR.out⟩
   case round =>
    clear HO1 HB1 HBR
    obtain ⟨k, c, O, L, A', cp', rfl, rfl, rfl, hc4, hk, hin, hL, hown, hbw, hbr⟩ := hrel
    have HI := Lib.hid hin
    have HO := Lib.hid hown
    have HBW := Lib.hid hbw
    have HBR := Lib.hid hbr
    have d1 : wr.cell? ⟨b1, o1 + i, none⟩ = some (.int .i64 (x : Int)) := (hbw.cell (p := ⟨b1, o1 + i, none⟩) hb1).trans HQ.out
    have HLL := Lib.hid hL
    clear hin hown hbw hbr hL
    by_cases hkl : k < H.length
    ·obtain ⟨b2, o2, rfl, hb2, q2⟩ := hr2.at_ (by omega)
     obtain ⟨y, hy⟩ : ∃ y, y = H[k] := ⟨_, rfl⟩
     have d2 : wr.cell? ⟨b2, o2 + k, none⟩ = some (.int .i64 (y : Int)) := by rw [HBW.out.cell (p := ⟨b2, o2 + k, none⟩) hb2, q2 k hkl, hy]
     have hy4 : y < 10000 := by rw [hy]; exact HH.out.get k hkl
     have hst := HI.out.step (y := y) (t := c + x * y) hx4 HH.out (by rw [hy, List.getElem?_eq_getElem hkl]; rfl) rfl
     have htb := mul_lt4 hc4 hx4 hy4
     obtain ⟨m, hm⟩ : ∃ m, m = x * y := ⟨_, rfl⟩
     rw [← hm] at hst htb
     have hwm : IntKind.i64.wrap ((x : Int) * (y : Int)) = (m : Int) := by rw [show (x : Int) * (y : Int) = (m : Int) by rw [hm]; simp, IntWalk.i64_in _ (by omega)]
     have hws : IntKind.i64.wrap ((c : Int) + (m : Int)) = ((c + m : Nat) : Int) := by rw [IntWalk.i64_in _ (by omega)]; omega
     have HST := Lib.hid hst
     have HWM := Lib.hid hwm
     have HWS := Lib.hid hws
     clear hy q2 hst hm hwm hws
     go_wp2
     have hwm := HWM.out
     have hws := HWS.out
     go_quiet (fail)
     clear hwm hws
     go_wp2_with (at_builtin; refine wpList_append_own _ rfl _ _ 69 rfl wo.heap.size 3 i0 (.int .i64 0) 1 8 Tryz.underlying69 HHI.out HZ0.out HZ1.out HZ2.out rfl (by decide) _ _ _ rfl ((own_belowG HO.out (below_drewN _ _ _)).alloc _) ⟨wr.heap.size, 0, none⟩ 1 1 [.int .i64 (((c : Int) + m) % 10000)] rfl rfl (cell_one_new _ _ _) (by simp [Value.oneCell']) (by unfold maxLen; omega) (by omega) (by have := HBR.out.size; simp; omega) ?_)
     intro v' w3 hown' hgrow _
     obtain ⟨g', cap', rfl, hcap⟩ := own_form hown' (by omega)
     have hb3 : Below w.heap.size w w3 := ((bw_drewN HBW.out _).alloc HBW.out.size _).grown hgrow (by have := HBW.out.size; simp; omega) (fun g hg => Nat.le_trans HB.out.size (HO.out.lt g hg).1)
     have hb4 : Below wo.heap.size wo w3 := ((bw_drewN HBR.out _).alloc HBR.out.size _).grown hgrow (by have := HBR.out.size; simp; omega) (fun g hg => (HO.out.lt g hg).1)
     have ho3 : w3.ownsRow wo.heap.size 3 1 (.slice (some ⟨g', 0, none⟩) (i + (k + 1)) cap') (i + (k + 1)) ((L ++ [(c + m) % 10000]).map n64v) := by
      have e1 : [(c + m) % 10000].map n64v = [.int .i64 (((c : Int) + m) % 10000)] := by simp
      rw [List.map_append, e1]; exact hown'
     have HO3 := Lib.hid ho3
     have HB3 := Lib.hid hb3
     have HB4 := Lib.hid hb4
     clear hown' hgrow hb3 ho3 hb4
     go_wp2
     go_roundw
     case rel => exact ⟨k + 1, (c + m) / 10000, O ++ [(c + m) % 10000], L ++ [(c + m) % 10000], _, _, rfl, by first | go_num | (congr 1; omega), by go_num, by omega, by omega, HST.out, (show _ = _ by rw [show L = _ from HLL.out, List.append_assoc]), HO3.out, HB3.out, HB4.out⟩
     case measure => simp [intOf]; omega
    ·by_cases hc0 : c = 0
     ·subst hc0
      have hLl : L.length = i + k := by rw [show L = _ from HLL.out, List.length_append, List.length_replicate, HI.out.1]
      have hLs : Small4 L := by rw [show L = _ from HLL.out]; exact HI.out.2.1.row i
      have hLv : gv (G.take i) * gv H + gv L = gv (G.take (i + 1)) * gv H := by rw [show L = _ from HLL.out]; exact times_row HI.out (by omega) hlt HX.out
      have hrd : Rd n64v wr wr.heap.size A' L := Rd.of_own HO.out hLl.symm
      have hba := both_add (grps p) L A A' cp cp' wr ((HR.out.below HBR.out).more HBR.out.size) hrd (grps_small p) hLs (Nat.le_trans HPL.out (by omega)) (by rw [hLl]; omega)
      rw [hLl, gv_grps, HP.out, hLv, ← HP.out] at hba
      have HBA := Lib.hid hba
      clear hLl hLs hLv hrd hba
      go_wp2_with fail
      refine (HBA.out).mono ?_
      rintro e w5 ⟨A3, c3, rfl, hr3, hcp3, hb2⟩
      have HR3 := Lib.hid hr3
      have HCP := Lib.hid hcp3
      have HB5 := Lib.hid (HBW.out.trans (hb2.mono HBW.out.size))
      clear hb2 hr3 hcp3
      go_wp2
      go_roundw
      case rel => exact ⟨i + 1, A3, c3, by omega, rfl, by go_num, HCP.out, HR3.out, HB5.out⟩
      case measure => simp [intOf]; omega
     ·have hkl2 : k = H.length := by
       have := HI.out.2.2.2.2
       by_cases h : H.length < k
       ·exact absurd (this h) hc0
       ·omega
      have hst := HI.out.step (y := 0) (t := c) hx4 HH.out (by rw [List.getElem?_eq_none (by omega)]; rfl) (by omega)
      have HST := Lib.hid hst
      have hkl3 : k ≤ H.length := by omega
      clear hst hkl2
      go_wp2_with (at_builtin; refine wpList_append_own _ rfl _ _ 69 rfl wo.heap.size 3 i0 (.int .i64 0) 1 8 Tryz.underlying69 HHI.out HZ0.out HZ1.out HZ2.out rfl (by decide) _ _ _ rfl (HO.out.alloc _) ⟨wr.heap.size, 0, none⟩ 1 1 [.int .i64 ((c : Int) % 10000)] rfl rfl (cell_one_new _ _ _) (by simp [Value.oneCell']) (by unfold maxLen; omega) (by omega) (by have := HBR.out.size; simp; omega) ?_)
      intro v' w3 hown' hgrow _
      obtain ⟨g', cap', rfl, hcap⟩ := own_form hown' (by omega)
      have hb3 : Below w.heap.size w w3 := (HBW.out.alloc HBW.out.size _).grown hgrow (by have := HBW.out.size; simp; omega) (fun g hg => Nat.le_trans HB.out.size (HO.out.lt g hg).1)
      have hb4 : Below wo.heap.size wo w3 := (HBR.out.alloc HBR.out.size _).grown hgrow (by have := HBR.out.size; simp; omega) (fun g hg => (HO.out.lt g hg).1)
      have ho3 : w3.ownsRow wo.heap.size 3 1 (.slice (some ⟨g', 0, none⟩) (i + (k + 1)) cap') (i + (k + 1)) ((L ++ [c % 10000]).map n64v) := by
       have e1 : [c % 10000].map n64v = [.int .i64 ((c : Int) % 10000)] := by simp
       rw [List.map_append, e1]; exact hown'
      have HO3 := Lib.hid ho3
      have HB3 := Lib.hid hb3
      have HB4 := Lib.hid hb4
      clear hown' hgrow hb3 ho3 hb4
      go_wp2
      go_roundw
      case rel =>
       exact ⟨k + 1, c / 10000, O ++ [c % 10000], L ++ [c % 10000], _, _, rfl, by first | go_num | (congr 1; omega), by go_num, by omega, by omega, HST.out, (show _ = _ by rw [show L = _ from HLL.out, List.append_assoc]), HO3.out, HB3.out, HB4.out⟩
      case measure => simp [intOf]; omega
  ·obtain rfl : i = G.length := by omega
   have hpv : p = gv G * gv H := by rw [HP.out, List.take_length]
   have hsh := short_len (grps p) (grps p).length rfl A cp wr.heap.size wr HR.out (grps_small p) hcp (Nat.le_trans HPL.out (by omega))
   rw [gv_grps] at hsh
   have HSH := Lib.hid hsh
   have HPV := Lib.hid hpv
   have HCP := Lib.hid hcp
   clear hsh hpv hcp
   go_wp2_with fail
   refine (HSH.out).mono ?_
   rintro e w5 ⟨rfl, rfl⟩
   go_wp2
   go_ret
   refine ⟨A, cp, ?_, ?_, ?_, HB.out⟩
   ·rw [← HPV.out]; rfl
   ·rw [← HPV.out]; exact HR.out
   ·rw [← HPV.out]; exact HCP.out
end
section
open Go.RowKit
set_option maxRecDepth 100000 in
theorem refmul_short (a b : Int) (w : World) (ht : Tab w) (ha : Lib.nDigits a.natAbs ≤ 8) (hb : Lib.nDigits b.natAbs ≤ 8) :
  Calls Tryz.prog 92 #[.string (dec a), .string (dec b)] w fun e w' => e = .returned (.string (dec (a * b))) ∧ Below w.heap.size w w' := by
 have hca := fun W => refcut_any a W
 have hcb := fun W => refcut_any b W
 have hsa := fun W => small_any a W (by omega)
 have hsb := fun W => small_any b W (by omega)
 have ra := abs_lt8 ha
 have rb := abs_lt8 hb
 have hab : -10000000000000000 ≤ a * b ∧ a * b ≤ 10000000000000000 := by
  have h : (a * b).natAbs ≤ 100000000 * 100000000 := by rw [Int.natAbs_mul]; exact Nat.mul_le_mul (by omega) (by omega)
  omega
 have hof := fun W h => refof_any (a * b) (by omega) (by omega) W h
 have hs := absS_size a
 have hu := absS_size b
 obtain ⟨s, hs0⟩ : ∃ s, s = absS a := ⟨_, rfl⟩
 obtain ⟨x, hx⟩ : ∃ x, x = decide (a < 0) := ⟨_, rfl⟩
 obtain ⟨t, ht0⟩ : ∃ t, t = absS b := ⟨_, rfl⟩
 obtain ⟨y, hy⟩ : ∃ y, y = decide (b < 0) := ⟨_, rfl⟩
 rw [← hs0, ← hx] at hca
 rw [← ht0, ← hy] at hcb
 rw [← hs0] at hs
 rw [← ht0] at hu
 rw [← hs] at ha
 rw [← hu] at hb
 have HCA := Lib.hid hca
 have HCB := Lib.hid hcb
 have HSA := Lib.hid hsa
 have HSB := Lib.hid hsb
 have HOF := Lib.hid hof
 obtain ⟨hab1, hab2⟩ := hab
 clear hca hcb hsa hsb hof hs hu hs0 hx ht0 hy
 go_enter Tryz.func92, Tryz.ntmps92
 go_wp2_with fail
 refine (HCA.out _).mono ?_
 rintro e w1 ⟨rfl, hb1⟩
 go_wp2_with fail
 refine (HCB.out _).mono ?_
 rintro e w2 ⟨rfl, hb2⟩
 replace hb1 := hb1.trans (hb2.mono hb1.size)
 clear hb2
 go_wp2_with fail
 refine (HSA.out _).mono ?_
 rintro e w3 ⟨rfl, hb2⟩
 replace hb1 := hb1.trans (hb2.mono hb1.size)
 clear hb2
 go_wp2_with fail
 refine (HSB.out _).mono ?_
 rintro e w4 ⟨rfl, hb2⟩
 replace hb1 := hb1.trans (hb2.mono hb1.size)
 clear hb2
 go_wp2_with fail
 refine (HOF.out _ (ht.below hb1)).mono ?_
 rintro e w5 ⟨rfl, hb2⟩
 have HB := Lib.hid (hb1.trans (hb2.mono hb1.size))
 clear hb2 hb1
 go_wp2
 go_ret
 exact ⟨rfl, HB.out⟩
theorem refmul_sign (a b : Int) : (if (decide (a < 0) != decide (b < 0)) = true then -((a.natAbs * b.natAbs : Nat) : Int) else ((a.natAbs * b.natAbs : Nat) : Int)) = a * b := by
 rw [Int.natCast_mul]
 by_cases ha : a < 0
 ·have e1 : (a.natAbs : Int) = -a := by omega
  by_cases hb : b < 0
  ·have e2 : (b.natAbs : Int) = -b := by omega
   rw [decide_eq_true ha, decide_eq_true hb, e1, e2, if_neg (by decide), Int.neg_mul_neg]
  ·have e2 : (b.natAbs : Int) = b := by omega
   rw [decide_eq_true ha, decide_eq_false hb, e1, e2, if_pos (by decide), Int.neg_mul, Int.neg_neg]
 ·have e1 : (a.natAbs : Int) = a := by omega
  by_cases hb : b < 0
  ·have e2 : (b.natAbs : Int) = -b := by omega
   rw [decide_eq_false ha, decide_eq_true hb, e1, e2, if_pos (by decide), Int.mul_neg, Int.neg_neg]
  ·have e2 : (b.natAbs : Int) = b := by omega
   rw [decide_eq_false ha, decide_eq_false hb, e1, e2, if_neg (by decide)]
set_option maxRecDepth 100000 in
set_option maxHeartbeats 4000000 in
theorem refmul_long (a b : Int) (w : World) (ht : Tab w) (ha : Lib.nDigits a.natAbs ≤ 90000) (hb : Lib.nDigits b.natAbs ≤ 90000) (hl : ¬ (Lib.nDigits a.natAbs ≤ 8 ∧ Lib.nDigits b.natAbs ≤ 8)) :
  Calls Tryz.prog 92 #[.string (dec a), .string (dec b)] w fun e w' => e = .returned (.string (dec (a * b))) ∧ Below w.heap.size w w' := by
 have hca := fun W => refcut_any a W
 have hcb := fun W => refcut_any b W
 have hga := fun W => group_abs a W (by omega)
 have hgb := fun W => group_abs b W (by omega)
 have hs := absS_size a
 have hu := absS_size b
 have hfin := refmul_sign a b
 have hla := Nat.le_trans (grps_len_digits a.natAbs) ha
 have hlb := Nat.le_trans (grps_len_digits b.natAbs) hb
 obtain ⟨s, hs0⟩ : ∃ s, s = absS a := ⟨_, rfl⟩
 obtain ⟨x, hx⟩ : ∃ x, x = decide (a < 0) := ⟨_, rfl⟩
 obtain ⟨t, ht0⟩ : ∃ t, t = absS b := ⟨_, rfl⟩
 obtain ⟨y, hy⟩ : ∃ y, y = decide (b < 0) := ⟨_, rfl⟩
 obtain ⟨p, hp⟩ : ∃ p, p = a.natAbs := ⟨_, rfl⟩
 obtain ⟨q, hq⟩ : ∃ q, q = b.natAbs := ⟨_, rfl⟩
 rw [← hs0, ← hx] at hca
 rw [← ht0, ← hy] at hcb
 rw [← hs0, ← hp] at hga
 rw [← ht0, ← hq] at hgb
 rw [← hs0] at hs
 rw [← ht0] at hu
 rw [← hs] at ha hl
 rw [← hu] at hb hl
 rw [← hx, ← hy, ← hp, ← hq] at hfin
 rw [← hp] at hla
 rw [← hq] at hlb
 have HCA := Lib.hid hca
 have HCB := Lib.hid hcb
 have HGA := Lib.hid hga
 have HGB := Lib.hid hgb
 have HLA := Lib.hid hla
 have HLB := Lib.hid hlb
 have HFIN := Lib.hid hfin
 clear hca hcb hga hgb hs hu hs0 hx ht0 hy hp hq hfin hla hlb
 have hcase : 9 ≤ s.size ∨ (s.size < 9 ∧ 9 ≤ t.size) := by omega
 clear hl
 rcases hcase with hl | ⟨hl, hl2⟩
 all_goals
  go_enter Tryz.func92, Tryz.ntmps92
  go_wp2_with fail
  refine (HCA.out _).mono ?_
  rintro e w1 ⟨rfl, hb1⟩
  go_wp2_with fail
  refine (HCB.out _).mono ?_
  rintro e w2 ⟨rfl, hb2⟩
  replace hb1 := hb1.trans (hb2.mono hb1.size)
  clear hb2
  go_wp2_with fail
  refine (HGA.out _).mono ?_
  rintro e w3 ⟨A1, c1, rfl, hr1, _, hb2⟩
  replace hb1 := hb1.trans (hb2.mono hb1.size)
  clear hb2
  go_wp2_with fail
  refine (HGB.out _).mono ?_
  rintro e w4 ⟨A2, c2, rfl, hr2, _, hb2⟩
  replace hr1 := (hr1.below hb2).more hb2.size
  replace hb1 := hb1.trans (hb2.mono hb1.size)
  clear hb2
  have hti := reftimes_any (grps p) (grps q) A1 A2 c1 c2 w4 hr1 hr2 (grps_small p) (grps_small q) (Nat.le_trans HLA.out (by omega)) (Nat.le_trans HLB.out (by omega))
  rw [gv_grps, gv_grps] at hti
  have HTI := Lib.hid hti
  have HB := Lib.hid hb1
  clear hb1 hr1 hr2 hti
  go_wp2_with fail
  refine (HTI.out).mono ?_
  rintro e w5 ⟨A3, c3, rfl, hr3, _, hb2⟩
  have hB := HB.out.trans (hb2.mono HB.out.size)
  have hwh := whole_any (x != y) (p * q) A3 c3 w5 (ht.below hB) hr3 (Nat.le_trans (grps_len_mul p q) (by have := HLA.out; have := HLB.out; omega))
  rw [HFIN.out] at hwh
  have HW := Lib.hid hwh
  have HB2 := Lib.hid hB
  clear hb2 hr3 hwh hB
  go_wp2_with fail
  refine (HW.out).mono ?_
  rintro e w6 ⟨rfl, hb3⟩
  have HB3 := Lib.hid (HB2.out.trans (hb3.mono HB2.out.size))
  clear hb3
  go_wp2
  go_ret
  exact ⟨rfl, HB3.out⟩
theorem refmul_any (a b : Int) (w : World) (ht : Tab w) (ha : Lib.nDigits a.natAbs ≤ 90000) (hb : Lib.nDigits b.natAbs ≤ 90000) :
  Calls Tryz.prog 92 #[.string (dec a), .string (dec b)] w fun e w' => e = .returned (.string (dec (a * b))) ∧ Below w.heap.size w w' := by
 by_cases h : Lib.nDigits a.natAbs ≤ 8 ∧ Lib.nDigits b.natAbs ≤ 8
 ·exact refmul_short a b w ht h.1 h.2
 ·exact refmul_long a b w ht ha hb h
theorem pow_digits (a : Int) (k : Nat) : Lib.nDigits (a ^ k).natAbs ≤ k * Lib.nDigits a.natAbs + 1 := by
 refine nDigits_le _ _ (by omega) ?_
 rw [Int.natAbs_pow]
 have h1 : a.natAbs ^ k ≤ (10 ^ Lib.nDigits a.natAbs) ^ k := Nat.pow_le_pow_left (Nat.le_of_lt (Lib.lt_pow_nDigits _)) k
 rw [← Nat.pow_mul, Nat.mul_comm] at h1
 refine Nat.lt_of_le_of_lt h1 (Nat.pow_lt_pow_right (by decide) (by omega))
theorem pow_bit1 (a : Int) (n j : Nat) (h : n / 2 ^ j % 2 = 1) : a ^ (n % 2 ^ j) * a ^ (2 ^ j) = a ^ (n % 2 ^ (j + 1)) := by
 rw [← Int.pow_add, Nat.mod_pow_succ, h, Nat.mul_one]
theorem pow_bit0 (a : Int) (n j : Nat) (h : n / 2 ^ j % 2 = 0) : a ^ (n % 2 ^ j) = a ^ (n % 2 ^ (j + 1)) := by
 rw [Nat.mod_pow_succ, h, Nat.mul_zero, Nat.add_zero]
theorem pow_sq (a : Int) (j : Nat) : a ^ (2 ^ j) * a ^ (2 ^ j) = a ^ (2 ^ (j + 1)) := by
 rw [← Int.pow_add, Nat.pow_succ]; congr 1; omega
theorem dec_one : dec 1 = ⟨#[49]⟩ := by
 unfold dec
 rw [show Lib.itoa 1 = [49] by rw [show (1 : Int) = ((1 : Nat) : Int) from rfl, Lib.itoa_nonneg, Lib.decDigits_one (by decide)]; rfl]
set_option maxRecDepth 100000 in
set_option maxHeartbeats 2000000 in
theorem refpower_any (a : Int) (n : Nat) (w : World) (ht : Tab w) (hn : n ≤ 1000000) (hd : n * Lib.nDigits a.natAbs ≤ 80000) :
  Calls Tryz.prog 93 #[.string (dec a), .int .i64 n] w fun e w' => e = .returned (.string (dec (a ^ n))) ∧ Below w.heap.size w w' := by
 have h1 := dec_one
 have H1 := Lib.hid h1
 have HD := Lib.hid hd
 clear h1 hd
 go_enter Tryz.func93, Tryz.ntmps93
 go_wp2
 go_loopw [0, 1, 5] (fun av nv ov wr => ∃ (j m : Nat), Lib.Kept (m = n / 2 ^ j) ∧ m ≤ 1000000 ∧ av = .string (dec (a ^ (2 ^ j))) ∧ nv = .int .i64 (m : Int) ∧ ov = .string (dec (a ^ (n % 2 ^ j))) ∧ Below w.heap.size w wr)
  (fun _ nv _ _ => (intOf nv).toNat)
 case atStart => exact ⟨0, n, (show n = n / 2 ^ 0 by simp), hn, by rw [Nat.pow_zero, Int.pow_one], rfl, by rw [Nat.pow_zero, Nat.mod_one, Int.pow_zero, H1.out], Below.refl _ _⟩
 case round =>
  obtain ⟨j, m, hm, hm6, rfl, rfl, rfl, hb⟩ := hrel
  have HM := Lib.hid hm
  have HB := Lib.hid hb
  clear hm hb
  by_cases h0 : m = 0
  ·subst h0
   have he : n % 2 ^ j = n := by
    have h := HM.out
    have := Nat.mod_add_div n (2 ^ j)
    rw [← h, Nat.mul_zero, Nat.add_zero] at this
    exact this
   have HE := Lib.hid he
   clear he
   go_wp2
   go_ret
   exact ⟨by rw [HE.out]; rfl, HB.out⟩
  ·have hj : 2 ^ j ≤ n := by
    have h := HM.out
    rcases Nat.lt_or_ge n (2 ^ j) with hlt | hge
    ·rw [Nat.div_eq_of_lt hlt] at h; exact absurd h h0
    ·exact hge
   have hm0 : 0 < m := by omega
   have hsz : Lib.nDigits (a ^ (2 ^ j)).natAbs ≤ 90000 := by
    refine Nat.le_trans (pow_digits _ _) ?_
    have := Nat.mul_le_mul_right (Lib.nDigits a.natAbs) hj
    have := HD.out
    omega
   have hso : Lib.nDigits (a ^ (n % 2 ^ j)).natAbs ≤ 90000 := by
    refine Nat.le_trans (pow_digits _ _) ?_
    have := Nat.mul_le_mul_right (Lib.nDigits a.natAbs) (Nat.mod_le n (2 ^ j))
    have := HD.out
    omega
   have hm2 : m / 2 = n / 2 ^ (j + 1) := by rw [HM.out, Nat.div_div_eq_div_mul, Nat.pow_succ]
   have hsq := fun W h => refmul_any (a ^ (2 ^ j)) (a ^ (2 ^ j)) W h hsz hsz
   rw [pow_sq] at hsq
   have hmo := fun W h => refmul_any (a ^ (n % 2 ^ j)) (a ^ (2 ^ j)) W h hso hsz
   have HSQ := Lib.hid hsq
   have HM2 := Lib.hid hm2
   by_cases hp : m % 2 = 1
   ·have he := pow_bit1 a n j (by rw [← HM.out]; exact hp)
    rw [he] at hmo
    have HMO := Lib.hid hmo
    have ht1 : ((m : Int) % 2 == 1) = true := by rw [beq_iff_eq]; omega
    clear hsz hso hm2 hsq hmo hp he hj h0
    go_wp2_with fail
    refine (HMO.out _ (ht.below HB.out)).mono ?_
    rintro e w1 ⟨rfl, hb1⟩
    have HB1 := Lib.hid (HB.out.trans (hb1.mono HB.out.size))
    clear hb1
    go_wp2_with fail
    refine (HSQ.out _ (ht.below HB1.out)).mono ?_
    rintro e w2 ⟨rfl, hb1⟩
    have HB2 := Lib.hid (HB1.out.trans (hb1.mono HB1.out.size))
    clear hb1
    go_wp2
    go_roundw
    case rel => exact ⟨j + 1, m / 2, HM2.out, by omega, rfl, by first | rfl | go_num, rfl, HB2.out⟩
    case measure => simp [intOf]; omega
   ·have he := pow_bit0 a n j (by rw [← HM.out]; omega)
    have ht1 : ((m : Int) % 2 == 1) = false := by rw [beq_eq_false_iff_ne]; omega
    have HE := Lib.hid he
    clear hsz hso hm2 hsq hmo hp he hj h0
    go_wp2_with fail
    refine (HSQ.out _ (ht.below HB.out)).mono ?_
    rintro e w2 ⟨rfl, hb1⟩
    have HB2 := Lib.hid (HB.out.trans (hb1.mono HB.out.size))
    clear hb1
    go_wp2
    go_roundw
    case rel => exact ⟨j + 1, m / 2, HM2.out, by omega, rfl, by first | rfl | go_num, by rw [HE.out], HB2.out⟩
    case measure => simp [intOf]; omega
end
end Go.Proofs.YtlmheeommpbimaaGreatDoor
