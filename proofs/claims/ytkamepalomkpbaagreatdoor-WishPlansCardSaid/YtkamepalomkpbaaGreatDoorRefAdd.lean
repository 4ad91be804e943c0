/- bombarderef01: whole at any number, group at the digits of an integer, Of, Small, Neg, Sign. Conditions: at most a million digits; the library's table of powers of ten reads as its text lays it. bombarderef01: Add, Sub and Compare at the texts of integers. Conditions: at most 400000 digits; the library's table of powers of ten reads as its text lays it. -/
import Derived.Test.YtkamepalomkpbaaGreatDoorWhole
import Derived.Test.YtkamepalomkpbaaGreatDoorInt
namespace Go.Proofs.YtkamepalomkpbaaGreatDoor
section
open Go.RowKit

set_option maxRecDepth 100000 in
theorem whole_zero (minus : Bool) (A : Option Addr) (c : Nat) (w : World) :
    Calls Tryz.prog 80 #[.bool minus, .slice A 0 c] w fun e w' => e = .returned (.string (dec 0)) ∧ Below w.heap.size w w' := by
  rw [dec_zero]
  go_enter Tryz.func80, Tryz.ntmps80
  go_wp2
  go_ret
  exact ⟨rfl, Below.refl _ _⟩

theorem whole_any (minus : Bool) (n : Nat) (A : Option Addr) (c : Nat) (w : World) (ht : Tab w) (hr : Rd n64v w w.heap.size A (grps n)) (hl : (grps n).length ≤ 200000) :
    Calls Tryz.prog 80 #[.bool minus, .slice A (grps n).length c] w fun e w' => e = .returned (.string (dec (if minus then -(n : Int) else n))) ∧ Below w.heap.size w w' := by
  by_cases hn : n = 0
  · subst hn
    rw [grps_zero]
    have h := whole_zero minus A c w
    have e : (if minus then -((0 : Nat) : Int) else ((0 : Nat) : Int)) = 0 := by cases minus <;> rfl
    rw [e]
    exact h
  · exact whole_pos minus n hn A c w ht hr hl

theorem group_abs (z : Int) (w : World) (h : Lib.nDigits z.natAbs ≤ 1000000) :
    Calls Tryz.prog 82 #[.string (absS z)] w (RetGrp z.natAbs w) := by
  have := group_any (absS z) w (by rw [absS_list]; exact digs_dec _) (by rw [absS_size]; exact Lib.nDigits_pos _) (by rw [absS_size]; exact h)
  rwa [absS_list, dval_dec] at this

theorem refof_any (n : Int) (h0 : -9223372036854775808 ≤ n) (h1 : n ≤ 9223372036854775807) (w : World) (ht : Tab w) :
    Calls Tryz.prog 75 #[.int .i64 n] w fun e w' => e = .returned (.string (dec n)) ∧ Below w.heap.size w w' := by
  go_enter Tryz.func75, Tryz.ntmps75
  go_wp2_with (go_at_call 69; refine (itoa_any n h0 h1 _ ht).mono ?_; rintro e w' ⟨rfl, hb⟩)
  go_ret
  exact ⟨rfl, hb⟩

theorem dec_size_le (z : Int) : (dec z).size ≤ Lib.nDigits z.natAbs + 1 := by
  have h : (dec z).data.toList.length ≤ Lib.nDigits z.natAbs + 1 := by
    rw [dec_list]
    by_cases h : z < 0
    · obtain ⟨u, rfl⟩ : ∃ u : Nat, z = -(u : Int) := ⟨z.natAbs, by omega⟩
      rw [Lib.itoa_neg u (by omega), List.length_cons, Lib.decDigits_length, show (-(u : Int)).natAbs = u by omega]
      exact Nat.le_refl _
    · obtain ⟨n, rfl⟩ := Int.eq_ofNat_of_zero_le (show 0 ≤ z by omega)
      rw [Lib.itoa_nonneg, Lib.decDigits_length]
      exact Nat.le_succ _
  rwa [Array.length_toList] at h

set_option maxRecDepth 100000 in
theorem small_any (z : Int) (w : World) (h : Lib.nDigits z.natAbs ≤ 17) :
    Calls Tryz.prog 79 #[.string (dec z)] w fun e w' => e = .returned (.tuple #[.int .i64 z, .bool true]) ∧ Below w.heap.size w w' := by
  have hc := fun W => refcut_any z W
  have ha := fun W => atoi_dec z W (Nat.le_trans (dec_size_le z) (by omega))
  have hs := absS_size z
  obtain ⟨s, hs0⟩ : ∃ s, s = absS z := ⟨_, rfl⟩
  obtain ⟨x, hx⟩ : ∃ x, x = decide (z < 0) := ⟨_, rfl⟩
  rw [← hs0, ← hx] at hc
  rw [← hs0] at hs
  rw [← hs] at h
  have HC := Lib.hid hc
  have HA := Lib.hid ha
  clear hc ha hs hs0 hx
  go_enter Tryz.func79, Tryz.ntmps79
  go_wp2_with fail
  refine (HC.out _).mono ?_
  rintro e w1 ⟨rfl, hb1⟩
  go_wp2_with fail
  refine (HA.out _).mono ?_
  rintro e w2 ⟨rfl, hb2⟩
  have HB := Lib.hid (hb1.trans (hb2.mono hb1.size))
  clear hb1 hb2
  go_wp2
  go_ret2
  exact ⟨rfl, HB.out⟩

set_option maxRecDepth 100000 in
theorem refneg_any (z : Int) (w : World) (hz : Lib.nDigits z.natAbs ≤ 1000000) :
    Calls Tryz.prog 96 #[.string (dec z)] w fun e w' => e = .returned (.string (dec (-z))) ∧ Below w.heap.size w w' := by
  have hc := fun W => refcut_any z W
  have h0 := dec_is0 z
  by_cases h : z < 0
  · rw [decide_eq_true h] at hc
    rw [decide_eq_false (by omega)] at h0
    have he : absS z = dec (-z) := by
      obtain ⟨u, rfl⟩ : ∃ u : Nat, z = -(u : Int) := ⟨z.natAbs, by omega⟩
      rw [Int.neg_neg, dec_nat]
      apply ByteArray.ext; apply Array.toList_inj.1
      rw [absS_list, absS_list]; congr 1; omega
    rw [he] at hc
    obtain ⟨s, hs0⟩ : ∃ s, s = dec z := ⟨_, rfl⟩
    rw [← hs0] at hc h0 ⊢
    obtain ⟨t, ht0⟩ : ∃ t, t = dec (-z) := ⟨_, rfl⟩
    rw [← ht0] at hc ⊢
    have HC := Lib.hid hc
    clear hc hs0 he ht0
    go_enter Tryz.func96, Tryz.ntmps96
    go_wp2_with fail
    refine (HC.out _).mono ?_
    rintro e w1 ⟨rfl, hb1⟩
    go_wp2
    go_ret
    exact ⟨rfl, hb1⟩
  · rw [decide_eq_false h] at hc
    by_cases hz0 : z = 0
    · subst hz0
      rw [show dec (-0) = dec 0 by rfl]
      rw [← dec_nonneg 0 (by omega)] at hc
      rw [dec_zero] at hc ⊢
      have HC := Lib.hid hc
      clear hc h0
      go_enter Tryz.func96, Tryz.ntmps96
      go_wp2_with fail
      refine (HC.out _).mono ?_
      rintro e w1 ⟨rfl, hb1⟩
      go_wp2
      go_ret
      exact ⟨rfl, hb1⟩
    · rw [decide_eq_false hz0] at h0
      have he : (⟨#[45]⟩ : ByteArray) ++ dec z = dec (-z) := by
        obtain ⟨n, rfl⟩ := Int.eq_ofNat_of_zero_le (show 0 ≤ z by omega)
        exact neg_text n (by omega)
      rw [← he]
      have hsz := Nat.le_trans (dec_size_le z) (Nat.add_le_add_right hz 1)
      obtain ⟨s, hs0⟩ : ∃ s, s = dec z := ⟨_, rfl⟩
      rw [← hs0] at hc h0 hsz ⊢
      obtain ⟨t, ht0⟩ : ∃ t, t = absS z := ⟨_, rfl⟩
      rw [← ht0] at hc
      have HC := Lib.hid hc
      clear hc hs0 he ht0
      go_enter Tryz.func96, Tryz.ntmps96
      go_wp2_with fail
      refine (HC.out _).mono ?_
      rintro e w1 ⟨rfl, hb1⟩
      go_wp2
      go_ret
      exact ⟨rfl, hb1⟩

set_option maxRecDepth 100000 in
theorem refsign_any (z : Int) (w : World) :
    Calls Tryz.prog 76 #[.string (dec z)] w fun e w' => e = .returned (.int .i64 (sgn z)) ∧ Below w.heap.size w w' := by
  have hc := fun W => refcut_any z W
  have h0 := dec_is0 z
  obtain ⟨t, ht0⟩ : ∃ t, t = absS z := ⟨_, rfl⟩
  rw [← ht0] at hc
  by_cases h : z < 0
  · rw [decide_eq_true h] at hc
    rw [decide_eq_false (by omega)] at h0
    rw [sgn_neg h]
    obtain ⟨s, hs0⟩ : ∃ s, s = dec z := ⟨_, rfl⟩
    rw [← hs0] at hc h0 ⊢
    have HC := Lib.hid hc
    clear hc hs0 ht0
    go_enter Tryz.func76, Tryz.ntmps76
    go_wp2_with fail
    refine (HC.out _).mono ?_
    rintro e w1 ⟨rfl, hb1⟩
    go_wp2_with fail
    refine (toInt_yes _).mono ?_
    rintro e w2 ⟨rfl, rfl⟩
    go_wp2
    go_ret
    exact ⟨rfl, hb1⟩
  · rw [decide_eq_false h] at hc
    by_cases hz : z = 0
    · rw [decide_eq_true hz] at h0
      have hs : sgn z = 0 := by rw [hz]; rfl
      rw [hs]
      obtain ⟨s, hs0⟩ : ∃ s, s = dec z := ⟨_, rfl⟩
      rw [← hs0] at hc h0 ⊢
      have HC := Lib.hid hc
      clear hc hs0 ht0 hz hs
      go_enter Tryz.func76, Tryz.ntmps76
      go_wp2_with fail
      refine (HC.out _).mono ?_
      rintro e w1 ⟨rfl, hb1⟩
      go_wp2
      go_ret
      exact ⟨rfl, hb1⟩
    · rw [decide_eq_false hz] at h0
      rw [sgn_pos (by omega)]
      obtain ⟨s, hs0⟩ : ∃ s, s = dec z := ⟨_, rfl⟩
      rw [← hs0] at hc h0 ⊢
      have HC := Lib.hid hc
      clear hc hs0 ht0 hz
      go_enter Tryz.func76, Tryz.ntmps76
      go_wp2_with fail
      refine (HC.out _).mono ?_
      rintro e w1 ⟨rfl, hb1⟩
      go_wp2_with fail
      refine (toInt_no _).mono ?_
      rintro e w2 ⟨rfl, rfl⟩
      go_wp2
      go_ret
      exact ⟨rfl, hb1⟩
end

section
open Go.RowKit

theorem grps_len_digits (n : Nat) : (grps n).length ≤ Lib.nDigits n := by
  refine grps_len_le _ _ ?_
  have h1 := Lib.lt_pow_nDigits n
  have h2 : (10 : Nat) ^ Lib.nDigits n ≤ 10000 ^ Lib.nDigits n := Nat.pow_le_pow_left (by decide) _
  omega

theorem abs_lt17 {z : Int} (h : Lib.nDigits z.natAbs ≤ 17) : -100000000000000000 < z ∧ z < 100000000000000000 := by
  have h1 := Lib.lt_pow_nDigits z.natAbs
  have h2 : (10 : Nat) ^ Lib.nDigits z.natAbs ≤ 10 ^ 17 := Nat.pow_le_pow_right (by decide) h
  omega
theorem abs_lt8 {z : Int} (h : Lib.nDigits z.natAbs ≤ 8) : -100000000 < z ∧ z < 100000000 := by
  have h1 := Lib.lt_pow_nDigits z.natAbs
  have h2 : (10 : Nat) ^ Lib.nDigits z.natAbs ≤ 10 ^ 8 := Nat.pow_le_pow_right (by decide) h
  omega

set_option maxRecDepth 100000 in
theorem refadd_short (a b : Int) (w : World) (ht : Tab w) (ha : Lib.nDigits a.natAbs ≤ 17) (hb : Lib.nDigits b.natAbs ≤ 17) :
    Calls Tryz.prog 95 #[.string (dec a), .string (dec b)] w fun e w' => e = .returned (.string (dec (a + b))) ∧ Below w.heap.size w w' := by
  have hca := fun W => refcut_any a W
  have hcb := fun W => refcut_any b W
  have hsa := fun W => small_any a W ha
  have hsb := fun W => small_any b W hb
  have ra := abs_lt17 ha
  have rb := abs_lt17 hb
  have hof := fun W h => refof_any (a + b) (by omega) (by omega) W h
  have hs := absS_size a
  have hu := absS_size b
  obtain ⟨s, hs0⟩ : ∃ s, s = absS a := ⟨_, rfl⟩
  obtain ⟨x, hx⟩ : ∃ x, x = decide (a < 0) := ⟨_, rfl⟩
  obtain ⟨t, ht0⟩ : ∃ t, t = absS b := ⟨_, rfl⟩
  obtain ⟨y, hy⟩ : ∃ y, y = decide (b < 0) := ⟨_, rfl⟩
  rw [← hs0, ← hx] at hca
  rw [← ht0, ← hy] at hcb
  rw [← hs0] at hs
  rw [← ht0] at hu
  rw [← hs] at ha
  rw [← hu] at hb
  have HCA := Lib.hid hca
  have HCB := Lib.hid hcb
  have HSA := Lib.hid hsa
  have HSB := Lib.hid hsb
  have HOF := Lib.hid hof
  clear hca hcb hsa hsb hof hs hu hs0 hx ht0 hy
  go_enter Tryz.func95, Tryz.ntmps95
  go_wp2_with fail
  refine (HCA.out _).mono ?_
  rintro e w1 ⟨rfl, hb1⟩
  go_wp2_with fail
  refine (HCB.out _).mono ?_
  rintro e w2 ⟨rfl, hb2⟩
  replace hb1 := hb1.trans (hb2.mono hb1.size)
  clear hb2
  go_wp2_with fail
  refine (HSA.out _).mono ?_
  rintro e w3 ⟨rfl, hb2⟩
  replace hb1 := hb1.trans (hb2.mono hb1.size)
  clear hb2
  go_wp2_with fail
  refine (HSB.out _).mono ?_
  rintro e w4 ⟨rfl, hb2⟩
  replace hb1 := hb1.trans (hb2.mono hb1.size)
  clear hb2
  go_wp2_with fail
  refine (HOF.out _ (ht.below hb1)).mono ?_
  rintro e w5 ⟨rfl, hb2⟩
  have HB := Lib.hid (hb1.trans (hb2.mono hb1.size))
  clear hb2 hb1
  go_wp2
  go_ret
  exact ⟨rfl, HB.out⟩

theorem add_same {a b : Int} (h : decide (a < 0) = decide (b < 0)) : (if decide (a < 0) = true then -((a.natAbs + b.natAbs : Nat) : Int) else ((a.natAbs + b.natAbs : Nat) : Int)) = a + b := by
  by_cases ha : a < 0
  · rw [decide_eq_true ha] at h ⊢
    have hb : b < 0 := of_decide_eq_true h.symm
    rw [if_pos rfl]; omega
  · rw [decide_eq_false ha] at h ⊢
    have hb : ¬ b < 0 := of_decide_eq_false h.symm
    rw [if_neg (by decide)]; omega
theorem add_less {a b : Int} (h : decide (a < 0) ≠ decide (b < 0)) (hl : a.natAbs < b.natAbs) : (if decide (b < 0) = true then -((b.natAbs - a.natAbs : Nat) : Int) else ((b.natAbs - a.natAbs : Nat) : Int)) = a + b := by
  by_cases hb : b < 0
  · rw [decide_eq_true hb] at h ⊢
    have ha : ¬ a < 0 := fun k => h (decide_eq_true k)
    rw [if_pos rfl]; omega
  · rw [decide_eq_false hb] at h ⊢
    have ha : a < 0 := by
      by_cases k : a < 0
      · exact k
      · exact absurd (decide_eq_false k) h
    rw [if_neg (by decide)]; omega
theorem add_more {a b : Int} (h : decide (a < 0) ≠ decide (b < 0)) (hl : ¬ a.natAbs < b.natAbs) : (if decide (a < 0) = true then -((a.natAbs - b.natAbs : Nat) : Int) else ((a.natAbs - b.natAbs : Nat) : Int)) = a + b := by
  rw [Int.add_comm]
  by_cases e : a.natAbs = b.natAbs
  · by_cases ha : a < 0
    · rw [decide_eq_true ha] at h ⊢
      have hb : ¬ b < 0 := fun k => h (decide_eq_true k).symm
      rw [if_pos rfl]; omega
    · rw [decide_eq_false ha] at h ⊢
      rw [if_neg (by decide)]
      by_cases hb : b < 0
      · omega
      · exact absurd (decide_eq_false hb).symm h
  · exact add_less (a := b) (b := a) (fun k => h k.symm) (by omega)

theorem grps_len_add (p q : Nat) : (grps (p + q)).length ≤ max (grps p).length (grps q).length + 1 := by
  refine grps_len_le _ _ ?_
  have h1 := grps_len_lt p
  have h2 := grps_len_lt q
  have h3 : (10000 : Nat) ^ (grps p).length ≤ 10000 ^ max (grps p).length (grps q).length := Nat.pow_le_pow_right (by decide) (Nat.le_max_left _ _)
  have h4 : (10000 : Nat) ^ (grps q).length ≤ 10000 ^ max (grps p).length (grps q).length := Nat.pow_le_pow_right (by decide) (Nat.le_max_right _ _)
  rw [Nat.pow_succ]
  omega

set_option maxRecDepth 100000 in
set_option maxHeartbeats 4000000 in
theorem refadd_long (a b : Int) (w : World) (ht : Tab w) (ha : Lib.nDigits a.natAbs ≤ 400000) (hb : Lib.nDigits b.natAbs ≤ 400000) (hl : ¬ (Lib.nDigits a.natAbs ≤ 17 ∧ Lib.nDigits b.natAbs ≤ 17))
    (hla : (grps a.natAbs).length ≤ 150000) (hlb : (grps b.natAbs).length ≤ 150000) :
    Calls Tryz.prog 95 #[.string (dec a), .string (dec b)] w fun e w' => e = .returned (.string (dec (a + b))) ∧ Below w.heap.size w w' := by
  have hca := fun W => refcut_any a W
  have hcb := fun W => refcut_any b W
  have hga := fun W => group_abs a W (by omega)
  have hgb := fun W => group_abs b W (by omega)
  have hs := absS_size a
  have hu := absS_size b
  have hsame := @add_same a b
  have hless := @add_less a b
  have hmore := @add_more a b
  obtain ⟨s, hs0⟩ : ∃ s, s = absS a := ⟨_, rfl⟩
  obtain ⟨x, hx⟩ : ∃ x, x = decide (a < 0) := ⟨_, rfl⟩
  obtain ⟨t, ht0⟩ : ∃ t, t = absS b := ⟨_, rfl⟩
  obtain ⟨y, hy⟩ : ∃ y, y = decide (b < 0) := ⟨_, rfl⟩
  obtain ⟨p, hp⟩ : ∃ p, p = a.natAbs := ⟨_, rfl⟩
  obtain ⟨q, hq⟩ : ∃ q, q = b.natAbs := ⟨_, rfl⟩
  rw [← hs0, ← hx] at hca
  rw [← ht0, ← hy] at hcb
  rw [← hs0, ← hp] at hga
  rw [← ht0, ← hq] at hgb
  rw [← hs0] at hs
  rw [← ht0] at hu
  rw [← hs] at ha hl
  rw [← hu] at hb hl
  rw [← hx, ← hy, ← hp, ← hq] at hsame hless hmore
  rw [← hp] at hla
  rw [← hq] at hlb
  have HSAME := Lib.hid hsame
  have HLESS := Lib.hid hless
  have HMORE := Lib.hid hmore
  have HCA := Lib.hid hca
  have HCB := Lib.hid hcb
  have HGA := Lib.hid hga
  have HGB := Lib.hid hgb
  have HLA := Lib.hid hla
  have HLB := Lib.hid hlb
  clear hca hcb hga hgb hs hu hs0 hx ht0 hy hp hq hsame hless hmore hla hlb
  have hcase : 18 ≤ s.size ∨ (s.size < 18 ∧ 18 ≤ t.size) := by omega
  clear hl
  rcases hcase with hl | ⟨hl, hl2⟩
  all_goals
    go_enter Tryz.func95, Tryz.ntmps95
    go_wp2_with fail
    refine (HCA.out _).mono ?_
    rintro e w1 ⟨rfl, hb1⟩
    go_wp2_with fail
    refine (HCB.out _).mono ?_
    rintro e w2 ⟨rfl, hb2⟩
    replace hb1 := hb1.trans (hb2.mono hb1.size)
    clear hb2
    go_wp2_with fail
    refine (HGA.out _).mono ?_
    rintro e w3 ⟨A1, c1, rfl, hr1, _, hb2⟩
    replace hb1 := hb1.trans (hb2.mono hb1.size)
    clear hb2
    go_wp2_with fail
    refine (HGB.out _).mono ?_
    rintro e w4 ⟨A2, c2, rfl, hr2, _, hb2⟩
    replace hr1 := (hr1.below hb2).more hb2.size
    replace hb1 := hb1.trans (hb2.mono hb1.size)
    clear hb2
    have HB := Lib.hid hb1
    have HT := Lib.hid (ht.below hb1)
    have HR1 := Lib.hid hr1
    have HR2 := Lib.hid hr2
    clear hb1 hr1 hr2
    by_cases hxy : x = y
    · have hfin := HSAME.out hxy
      have hxb : (x == y) = true := by rw [hxy]; exact beq_self_eq_true y
      have hgr : (grps (p + q)).length ≤ 200000 := Nat.le_trans (grps_len_add p q) (by have := HLA.out; have := HLB.out; omega)
      have hba := both_add (grps p) (grps q) A1 A2 c1 c2 w4 HR1.out HR2.out (grps_small p) (grps_small q) (Nat.le_trans HLA.out (by omega)) (Nat.le_trans HLB.out (by omega))
      rw [gv_grps, gv_grps] at hba
      have HBA := Lib.hid hba
      have HFIN := Lib.hid hfin
      have HGR := Lib.hid hgr
      clear hxy hba hfin hgr
      go_wp2_with fail
      refine (HBA.out).mono ?_
      rintro e w5 ⟨A3, c3, rfl, hr3, _, hb2⟩
      have hwh := whole_any x (p + q) A3 c3 w5 (HT.out.below hb2) hr3 HGR.out
      rw [HFIN.out] at hwh
      have HW := Lib.hid hwh
      have HB2 := Lib.hid (HB.out.trans (hb2.mono HB.out.size))
      clear hb2 hr3 hwh
      go_wp2_with fail
      refine (HW.out).mono ?_
      rintro e w6 ⟨rfl, hb3⟩
      have HB3 := Lib.hid (HB2.out.trans (hb3.mono HB2.out.size))
      clear hb3
      go_wp2
      go_ret
      exact ⟨rfl, HB3.out⟩
    · have hxb : (x == y) = false := by rw [beq_eq_false_iff_ne]; exact hxy
      by_cases hpq : p < q
      · have hfin := HLESS.out hxy hpq
        have hor := order_any p q A1 A2 c1 c2 w4 HR1.out HR2.out (Nat.le_trans HLA.out (by omega)) (Nat.le_trans HLB.out (by omega))
        rw [sgnI_neg (show (p : Int) - q < 0 by omega)] at hor
        have HOR := Lib.hid hor
        have HFIN := Lib.hid hfin
        have HPQ := Lib.hid hpq
        clear hxy hor hfin hpq
        go_wp2_with fail
        refine (HOR.out).mono ?_
        rintro e w5 ⟨rfl, hb2⟩
        have hba := both_sub (grps q) (grps p) A2 A1 c2 c1 w5 ((HR2.out.below hb2).more hb2.size) ((HR1.out.below hb2).more hb2.size) (grps_small q) (grps_small p) (Nat.le_trans HLB.out (by omega)) (Nat.le_trans HLA.out (by omega)) (by rw [gv_grps, gv_grps]; exact Nat.le_of_lt HPQ.out)
        rw [gv_grps, gv_grps] at hba
        have HBA := Lib.hid hba
        have HB2 := Lib.hid (HB.out.trans (hb2.mono HB.out.size))
        clear hb2 hba
        go_wp2_with fail
        refine (HBA.out).mono ?_
        rintro e w6 ⟨A3, c3, rfl, hr3, _, hb2⟩
        have hB := HB2.out.trans (hb2.mono HB2.out.size)
        have hwh := whole_any y (q - p) A3 c3 w6 (ht.below hB) hr3 (Nat.le_trans (grps_len_mono (Nat.sub_le q p)) (Nat.le_trans HLB.out (by omega)))
        rw [HFIN.out] at hwh
        have HW := Lib.hid hwh
        have HB3 := Lib.hid hB
        clear hb2 hr3 hwh hB
        go_wp2_with fail
        refine (HW.out).mono ?_
        rintro e w7 ⟨rfl, hb3⟩
        have HB4 := Lib.hid (HB3.out.trans (hb3.mono HB3.out.size))
        clear hb3
        go_wp2
        go_ret
        exact ⟨rfl, HB4.out⟩
      · have hfin := HMORE.out hxy hpq
        have hor := order_any p q A1 A2 c1 c2 w4 HR1.out HR2.out (Nat.le_trans HLA.out (by omega)) (Nat.le_trans HLB.out (by omega))
        obtain ⟨o, ho⟩ : ∃ o, o = sgnI ((p : Int) - q) := ⟨_, rfl⟩
        have ho0 : 0 ≤ o := by rw [ho]; unfold sgnI; split <;> (try split) <;> omega
        rw [← ho] at hor
        have HOR := Lib.hid hor
        have HFIN := Lib.hid hfin
        have HPQ := Lib.hid hpq
        clear hxy hor hfin hpq ho
        go_wp2_with fail
        refine (HOR.out).mono ?_
        rintro e w5 ⟨rfl, hb2⟩
        have hba := both_sub (grps p) (grps q) A1 A2 c1 c2 w5 ((HR1.out.below hb2).more hb2.size) ((HR2.out.below hb2).more hb2.size) (grps_small p) (grps_small q) (Nat.le_trans HLA.out (by omega)) (Nat.le_trans HLB.out (by omega)) (by rw [gv_grps, gv_grps]; exact Nat.le_of_not_lt HPQ.out)
        rw [gv_grps, gv_grps] at hba
        have HBA := Lib.hid hba
        have HB2 := Lib.hid (HB.out.trans (hb2.mono HB.out.size))
        clear hb2 hba
        go_wp2_with fail
        refine (HBA.out).mono ?_
        rintro e w6 ⟨A3, c3, rfl, hr3, _, hb2⟩
        have hB := HB2.out.trans (hb2.mono HB2.out.size)
        have hwh := whole_any x (p - q) A3 c3 w6 (ht.below hB) hr3 (Nat.le_trans (grps_len_mono (Nat.sub_le p q)) (Nat.le_trans HLA.out (by omega)))
        rw [HFIN.out] at hwh
        have HW := Lib.hid hwh
        have HB3 := Lib.hid hB
        clear hb2 hr3 hwh hB
        go_wp2_with fail
        refine (HW.out).mono ?_
        rintro e w7 ⟨rfl, hb3⟩
        have HB4 := Lib.hid (HB3.out.trans (hb3.mono HB3.out.size))
        clear hb3
        go_wp2
        go_ret
        exact ⟨rfl, HB4.out⟩

theorem refadd_any (a b : Int) (w : World) (ht : Tab w) (ha : Lib.nDigits a.natAbs ≤ 150000) (hb : Lib.nDigits b.natAbs ≤ 150000) :
    Calls Tryz.prog 95 #[.string (dec a), .string (dec b)] w fun e w' => e = .returned (.string (dec (a + b))) ∧ Below w.heap.size w w' := by
  by_cases h : Lib.nDigits a.natAbs ≤ 17 ∧ Lib.nDigits b.natAbs ≤ 17
  · exact refadd_short a b w ht h.1 h.2
  · exact refadd_long a b w ht (Nat.le_trans ha (by omega)) (Nat.le_trans hb (by omega)) h (Nat.le_trans (grps_len_digits _) ha) (Nat.le_trans (grps_len_digits _) hb)

set_option maxRecDepth 100000 in
theorem refsub_any (a b : Int) (w : World) (ht : Tab w) (ha : Lib.nDigits a.natAbs ≤ 150000) (hb : Lib.nDigits b.natAbs ≤ 150000) :
    Calls Tryz.prog 77 #[.string (dec a), .string (dec b)] w fun e w' => e = .returned (.string (dec (a - b))) ∧ Below w.heap.size w w' := by
  have hn := fun W => refneg_any b W (Nat.le_trans hb (by omega))
  have had := fun W h => refadd_any a (-b) W h ha (by rw [Int.natAbs_neg]; exact hb)
  rw [← Int.sub_eq_add_neg] at had
  have HN := Lib.hid hn
  have HAD := Lib.hid had
  clear hn had ha hb
  go_enter Tryz.func77, Tryz.ntmps77
  go_wp2_with fail
  refine (HN.out _).mono ?_
  rintro e w1 ⟨rfl, hb1⟩
  go_wp2_with fail
  refine (HAD.out _ (ht.below hb1)).mono ?_
  rintro e w2 ⟨rfl, hb2⟩
  have HB := Lib.hid (hb1.trans (hb2.mono hb1.size))
  clear hb1 hb2
  go_wp2
  go_ret
  exact ⟨rfl, HB.out⟩

set_option maxRecDepth 100000 in
theorem refcompare_any (a b : Int) (w : World) (ht : Tab w) (ha : Lib.nDigits a.natAbs ≤ 150000) (hb : Lib.nDigits b.natAbs ≤ 150000) :
    Calls Tryz.prog 61 #[.string (dec a), .string (dec b)] w fun e w' => e = .returned (.int .i64 (sgn (a - b))) ∧ Below w.heap.size w w' := by
  have hs := fun W h => refsub_any a b W h ha hb
  have hg := fun W => refsign_any (a - b) W
  have HS := Lib.hid hs
  have HG := Lib.hid hg
  clear hs hg ha hb
  go_enter Tryz.func61, Tryz.ntmps61
  go_wp2_with fail
  refine (HS.out _ ht).mono ?_
  rintro e w1 ⟨rfl, hb1⟩
  go_wp2_with fail
  refine (HG.out _).mono ?_
  rintro e w2 ⟨rfl, hb2⟩
  have HB := Lib.hid (hb1.trans (hb2.mono hb1.size))
  clear hb1 hb2
  go_wp2
  go_ret
  exact ⟨rfl, HB.out⟩
end
end Go.Proofs.YtkamepalomkpbaaGreatDoor
