/- bombarderef01.Cut and Of at the text of an integer. Conditions: none. -/
import Derived.Test.YtiokjnfhopdleaaGreatDoorOrder2
namespace Go.Proofs.YtiokjnfhopdleaaGreatDoor
open Go.RowKit

theorem absS_extract (z : Int) (h : z < 0) : (dec z).extract 1 (dec z).size = absS z := by
  apply ByteArray.ext
  apply Array.toList_inj.1
  obtain ⟨u, rfl⟩ : ∃ u : Nat, z = -(u : Int) := ⟨z.natAbs, by omega⟩
  have hl : (dec (-(u : Int))).data.toList = 45 :: Lib.decDigits u := by rw [dec_list, Lib.itoa_neg u (by omega)]
  have hs : (dec (-(u : Int))).size = (Lib.decDigits u).length + 1 := by
    have : (dec (-(u : Int))).data.toList.length = (Lib.decDigits u).length + 1 := by rw [hl]; rfl
    rw [Array.length_toList] at this
    exact this
  rw [Lib.extract_data, hl, hs, absS_list, List.drop_one, List.tail_cons, show (-(u : Int)).natAbs = u by omega, List.take_of_length_le (by omega)]

theorem dec_size_pos (z : Int) (h : z < 0) : 1 ≤ (dec z).size := by
  obtain ⟨u, rfl⟩ : ∃ u : Nat, z = -(u : Int) := ⟨z.natAbs, by omega⟩
  have hl : (dec (-(u : Int))).data.toList.length = (Lib.decDigits u).length + 1 := by rw [dec_list, Lib.itoa_neg u (by omega)]; rfl
  rw [Array.length_toList] at hl
  show 1 ≤ (dec (-(u : Int))).data.size
  omega
theorem dec_nonneg (z : Int) (h : ¬ z < 0) : dec z = absS z := by
  obtain ⟨n, rfl⟩ := Int.eq_ofNat_of_zero_le (show 0 ≤ z by omega)
  exact dec_nat n

set_option maxRecDepth 100000 in
theorem refcut_any (z : Int) (w : World) :
    Calls Tryz.prog 42 #[.string (dec z)] w fun e w' => e = .returned (.tuple #[.bool (decide (z < 0)), .string (absS z)]) ∧ Below w.heap.size w w' := by
  have hp := fun W => Tryz.strings_HasPrefix (dec z) ⟨#[45]⟩ W
  have hq := dec_hasPrefix z
  rw [show (⟨#[45]⟩ : ByteArray).data.toList = [45] from rfl, hq] at hp
  by_cases h : z < 0
  · have he := absS_extract z h
    have hs := dec_size_pos z h
    rw [decide_eq_true h] at hp ⊢
    obtain ⟨s, hs0⟩ : ∃ s, s = dec z := ⟨_, rfl⟩
    obtain ⟨t, ht0⟩ : ∃ t, t = absS z := ⟨_, rfl⟩
    rw [← hs0] at hp he hs ⊢
    rw [← ht0] at he ⊢
    have HP := Lib.hid hp
    have hs1 : (1 : Int) ≤ (s.size : Int) := by omega
    clear hp hq hs0 ht0 h hs
    go_enter Tryz.func42, Tryz.ntmps42
    go_wp2_with fail
    refine (HP.out _).mono ?_
    rintro e w1 ⟨rfl, rfl⟩
    go_wp2_with fail
    go_quiet (fail)
    go_wp2
    go_ret2
    exact ⟨by rw [← he]; rfl, below_drewN _ _ _⟩
  · have he := dec_nonneg z h
    rw [decide_eq_false h] at hp ⊢
    rw [he] at hp ⊢
    have HP := Lib.hid hp
    obtain ⟨t, ht0⟩ : ∃ t, t = absS z := ⟨_, rfl⟩
    rw [← ht0] at HP ⊢
    clear hp hq he ht0 h
    go_enter Tryz.func42, Tryz.ntmps42
    go_wp2_with fail
    refine (HP.out _).mono ?_
    rintro e w1 ⟨rfl, rfl⟩
    go_wp2
    go_ret2
    exact ⟨rfl, Below.refl _ _⟩

end Go.Proofs.YtiokjnfhopdleaaGreatDoor
