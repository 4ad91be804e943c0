/- bombarderef01: whole at any number, group at the digits of an integer, Of, Small, Neg, Sign. Conditions: at most a million digits; the library's table of powers of ten reads as its text lays it. -/
import Derived.Test.YtiokjnfhopdleaaGreatDoorWhole
import Derived.Test.YtiokjnfhopdleaaGreatDoorInt
namespace Go.Proofs.YtiokjnfhopdleaaGreatDoor
open Go.RowKit

set_option maxRecDepth 100000 in
theorem whole_zero (minus : Bool) (A : Option Addr) (c : Nat) (w : World) :
    Calls Tryz.prog 44 #[.bool minus, .slice A 0 c] w fun e w' => e = .returned (.string (dec 0)) ∧ Below w.heap.size w w' := by
  rw [dec_zero]
  go_enter Tryz.func44, Tryz.ntmps44
  go_wp2
  go_ret
  exact ⟨rfl, Below.refl _ _⟩

theorem whole_any (minus : Bool) (n : Nat) (A : Option Addr) (c : Nat) (w : World) (ht : Tab w) (hr : Rd i64v w w.heap.size A (grps n)) (hl : (grps n).length ≤ 200000) :
    Calls Tryz.prog 44 #[.bool minus, .slice A (grps n).length c] w fun e w' => e = .returned (.string (dec (if minus then -(n : Int) else n))) ∧ Below w.heap.size w w' := by
  by_cases hn : n = 0
  · subst hn
    rw [grps_zero]
    have h := whole_zero minus A c w
    have e : (if minus then -((0 : Nat) : Int) else ((0 : Nat) : Int)) = 0 := by cases minus <;> rfl
    rw [e]
    exact h
  · exact whole_pos minus n hn A c w ht hr hl

theorem group_abs (z : Int) (w : World) (h : Lib.nDigits z.natAbs ≤ 1000000) :
    Calls Tryz.prog 46 #[.string (absS z)] w (RetGrp z.natAbs w) := by
  have := group_any (absS z) w (by rw [absS_list]; exact digs_dec _) (by rw [absS_size]; exact Lib.nDigits_pos _) (by rw [absS_size]; exact h)
  rwa [absS_list, dval_dec] at this

theorem refof_any (n : Int) (h0 : -9223372036854775808 ≤ n) (h1 : n ≤ 9223372036854775807) (w : World) (ht : Tab w) :
    Calls Tryz.prog 39 #[.int .i64 n] w fun e w' => e = .returned (.string (dec n)) ∧ Below w.heap.size w w' := by
  go_enter Tryz.func39, Tryz.ntmps39
  go_wp2_with (go_at_call 54; refine (itoa_any n h0 h1 _ ht).mono ?_; rintro e w' ⟨rfl, hb⟩)
  go_ret
  exact ⟨rfl, hb⟩

theorem dec_size_le (z : Int) : (dec z).size ≤ Lib.nDigits z.natAbs + 1 := by
  have h : (dec z).data.toList.length ≤ Lib.nDigits z.natAbs + 1 := by
    rw [dec_list]
    by_cases h : z < 0
    · obtain ⟨u, rfl⟩ : ∃ u : Nat, z = -(u : Int) := ⟨z.natAbs, by omega⟩
      rw [Lib.itoa_neg u (by omega), List.length_cons, Lib.decDigits_length, show (-(u : Int)).natAbs = u by omega]
      exact Nat.le_refl _
    · obtain ⟨n, rfl⟩ := Int.eq_ofNat_of_zero_le (show 0 ≤ z by omega)
      rw [Lib.itoa_nonneg, Lib.decDigits_length]
      exact Nat.le_succ _
  rwa [Array.length_toList] at h

set_option maxRecDepth 100000 in
theorem small_any (z : Int) (w : World) (h : Lib.nDigits z.natAbs ≤ 17) :
    Calls Tryz.prog 43 #[.string (dec z)] w fun e w' => e = .returned (.tuple #[.int .i64 z, .bool true]) ∧ Below w.heap.size w w' := by
  have hc := fun W => refcut_any z W
  have ha := fun W => atoi_dec z W (Nat.le_trans (dec_size_le z) (by omega))
  have hs := absS_size z
  obtain ⟨s, hs0⟩ : ∃ s, s = absS z := ⟨_, rfl⟩
  obtain ⟨x, hx⟩ : ∃ x, x = decide (z < 0) := ⟨_, rfl⟩
  rw [← hs0, ← hx] at hc
  rw [← hs0] at hs
  rw [← hs] at h
  have HC := Lib.hid hc
  have HA := Lib.hid ha
  clear hc ha hs hs0 hx
  go_enter Tryz.func43, Tryz.ntmps43
  go_wp2_with fail
  refine (HC.out _).mono ?_
  rintro e w1 ⟨rfl, hb1⟩
  go_wp2_with fail
  refine (HA.out _).mono ?_
  rintro e w2 ⟨rfl, hb2⟩
  have HB := Lib.hid (hb1.trans (hb2.mono hb1.size))
  clear hb1 hb2
  go_wp2
  go_ret2
  exact ⟨rfl, HB.out⟩

set_option maxRecDepth 100000 in
theorem refneg_any (z : Int) (w : World) (hz : Lib.nDigits z.natAbs ≤ 1000000) :
    Calls Tryz.prog 61 #[.string (dec z)] w fun e w' => e = .returned (.string (dec (-z))) ∧ Below w.heap.size w w' := by
  have hc := fun W => refcut_any z W
  have h0 := dec_is0 z
  by_cases h : z < 0
  · rw [decide_eq_true h] at hc
    rw [decide_eq_false (by omega)] at h0
    have he : absS z = dec (-z) := by
      obtain ⟨u, rfl⟩ : ∃ u : Nat, z = -(u : Int) := ⟨z.natAbs, by omega⟩
      rw [Int.neg_neg, dec_nat]
      apply ByteArray.ext; apply Array.toList_inj.1
      rw [absS_list, absS_list]; congr 1; omega
    rw [he] at hc
    obtain ⟨s, hs0⟩ : ∃ s, s = dec z := ⟨_, rfl⟩
    rw [← hs0] at hc h0 ⊢
    obtain ⟨t, ht0⟩ : ∃ t, t = dec (-z) := ⟨_, rfl⟩
    rw [← ht0] at hc ⊢
    have HC := Lib.hid hc
    clear hc hs0 he ht0
    go_enter Tryz.func61, Tryz.ntmps61
    go_wp2_with fail
    refine (HC.out _).mono ?_
    rintro e w1 ⟨rfl, hb1⟩
    go_wp2
    go_ret
    exact ⟨rfl, hb1⟩
  · rw [decide_eq_false h] at hc
    by_cases hz0 : z = 0
    · subst hz0
      rw [show dec (-0) = dec 0 by rfl]
      rw [← dec_nonneg 0 (by omega)] at hc
      rw [dec_zero] at hc ⊢
      have HC := Lib.hid hc
      clear hc h0
      go_enter Tryz.func61, Tryz.ntmps61
      go_wp2_with fail
      refine (HC.out _).mono ?_
      rintro e w1 ⟨rfl, hb1⟩
      go_wp2
      go_ret
      exact ⟨rfl, hb1⟩
    · rw [decide_eq_false hz0] at h0
      have he : (⟨#[45]⟩ : ByteArray) ++ dec z = dec (-z) := by
        obtain ⟨n, rfl⟩ := Int.eq_ofNat_of_zero_le (show 0 ≤ z by omega)
        exact neg_text n (by omega)
      rw [← he]
      have hsz := Nat.le_trans (dec_size_le z) (Nat.add_le_add_right hz 1)
      obtain ⟨s, hs0⟩ : ∃ s, s = dec z := ⟨_, rfl⟩
      rw [← hs0] at hc h0 hsz ⊢
      obtain ⟨t, ht0⟩ : ∃ t, t = absS z := ⟨_, rfl⟩
      rw [← ht0] at hc
      have HC := Lib.hid hc
      clear hc hs0 he ht0
      go_enter Tryz.func61, Tryz.ntmps61
      go_wp2_with fail
      refine (HC.out _).mono ?_
      rintro e w1 ⟨rfl, hb1⟩
      go_wp2
      go_ret
      exact ⟨rfl, hb1⟩

set_option maxRecDepth 100000 in
theorem refsign_any (z : Int) (w : World) :
    Calls Tryz.prog 40 #[.string (dec z)] w fun e w' => e = .returned (.int .i64 (sgn z)) ∧ Below w.heap.size w w' := by
  have hc := fun W => refcut_any z W
  have h0 := dec_is0 z
  obtain ⟨t, ht0⟩ : ∃ t, t = absS z := ⟨_, rfl⟩
  rw [← ht0] at hc
  by_cases h : z < 0
  · rw [decide_eq_true h] at hc
    rw [decide_eq_false (by omega)] at h0
    rw [sgn_neg h]
    obtain ⟨s, hs0⟩ : ∃ s, s = dec z := ⟨_, rfl⟩
    rw [← hs0] at hc h0 ⊢
    have HC := Lib.hid hc
    clear hc hs0 ht0
    go_enter Tryz.func40, Tryz.ntmps40
    go_wp2_with fail
    refine (HC.out _).mono ?_
    rintro e w1 ⟨rfl, hb1⟩
    go_wp2_with fail
    refine (toInt_yes _).mono ?_
    rintro e w2 ⟨rfl, rfl⟩
    go_wp2
    go_ret
    exact ⟨rfl, hb1⟩
  · rw [decide_eq_false h] at hc
    by_cases hz : z = 0
    · rw [decide_eq_true hz] at h0
      have hs : sgn z = 0 := by rw [hz]; rfl
      rw [hs]
      obtain ⟨s, hs0⟩ : ∃ s, s = dec z := ⟨_, rfl⟩
      rw [← hs0] at hc h0 ⊢
      have HC := Lib.hid hc
      clear hc hs0 ht0 hz hs
      go_enter Tryz.func40, Tryz.ntmps40
      go_wp2_with fail
      refine (HC.out _).mono ?_
      rintro e w1 ⟨rfl, hb1⟩
      go_wp2
      go_ret
      exact ⟨rfl, hb1⟩
    · rw [decide_eq_false hz] at h0
      rw [sgn_pos (by omega)]
      obtain ⟨s, hs0⟩ : ∃ s, s = dec z := ⟨_, rfl⟩
      rw [← hs0] at hc h0 ⊢
      have HC := Lib.hid hc
      clear hc hs0 ht0 hz
      go_enter Tryz.func40, Tryz.ntmps40
      go_wp2_with fail
      refine (HC.out _).mono ?_
      rintro e w1 ⟨rfl, hb1⟩
      go_wp2_with fail
      refine (toInt_no _).mono ?_
      rintro e w2 ⟨rfl, rfl⟩
      go_wp2
      go_ret
      exact ⟨rfl, hb1⟩

end Go.Proofs.YtiokjnfhopdleaaGreatDoor
