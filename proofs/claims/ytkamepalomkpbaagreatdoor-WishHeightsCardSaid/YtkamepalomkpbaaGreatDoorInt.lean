/- Package integer: Of, quick, split, signed, Sign, Compare, Mul and Power at decimal texts. Conditions: the integers have at most a million digits (Power: its own bounds); the library's table of powers of ten reads as its text lays it. -/
import Derived.Test.YtkamepalomkpbaaGreatDoorText
import Derived.Test.YtkamepalomkpbaaGreatDoorLong
import Derived.Test.YtkamepalomkpbaaGreatDoorDec
namespace Go.Proofs.YtkamepalomkpbaaGreatDoor
open Go.RowKit

theorem cut_dec (z : Int) (w : World) : Calls Tryz.prog 72 #[.string (dec z), .string ⟨#[45]⟩] w fun e w' => e = .returned (.tuple #[.string (absS z), .bool (decide (z < 0))]) ∧ w = w' :=
  (Tryz.strings_CutPrefix (dec z) ⟨#[45]⟩ w).mono fun e w' ⟨he, hw⟩ => ⟨by
    rw [he]
    have e1 : (⟨#[45]⟩ : ByteArray).data.toList = [45] := rfl
    rw [e1, dec_trimPrefix, dec_hasPrefix], hw.symm⟩

theorem of_any (n : Int) (h0 : -9223372036854775808 ≤ n) (h1 : n ≤ 9223372036854775807) (w : World) (ht : Tab w) :
    Calls Tryz.prog 57 #[.int .i64 n] w fun e w' => e = .returned (.string (dec n)) ∧ Below w.heap.size w w' := by
  go_enter Tryz.func57, Tryz.ntmps57
  go_wp2_with (go_at_call 69; refine (itoa_any n h0 h1 _ ht).mono ?_; rintro e w' ⟨rfl, hb⟩)
  go_ret
  exact ⟨rfl, hb⟩

/-- A call returns the magnitude of z and whether z is negative. -/
def RetSplit (z : Int) (w : World) (e : Ending) (w' : World) : Prop :=
  ∃ A cap, e = .returned (.tuple #[.slice A (limbs z.natAbs).length cap, .bool (decide (z < 0))]) ∧ Rd u64v w' w'.heap.size A (limbs z.natAbs) ∧ (limbs z.natAbs).length ≤ cap ∧ Below w.heap.size w w'

set_option maxRecDepth 100000 in
theorem split_any (z : Int) (w : World) (hz : Lib.nDigits z.natAbs ≤ 1000000) :
    Calls Tryz.prog 65 #[.string (dec z)] w (RetSplit z w) := by
  have hdv : dval (absS z).data.toList = z.natAbs := by rw [absS_list, dval_dec]
  have hdg : Digs (absS z).data.toList := by rw [absS_list]; exact digs_dec _
  have hsz : (absS z).size ≤ 1000000 := by rw [absS_size]; exact hz
  have hlong := fun w => long_any (absS z) w hdg hsz
  rw [hdv] at hlong
  have HL := Lib.hid hlong
  clear hdv hdg hsz hlong
  go_enter Tryz.func65, Tryz.ntmps65
  go_wp2_with fail
  refine (cut_dec z _).mono ?_
  rintro e w' ⟨rfl, rfl⟩
  go_wp2_with fail
  refine (HL.out _).mono ?_
  rintro e w' ⟨A, cap, rfl, hr, hc, hb⟩
  have HR := Lib.hid hr
  have HC := Lib.hid hc
  have HB := Lib.hid hb
  clear hr hc hb
  go_wp2
  go_ret2
  exact ⟨A, cap, rfl, HR.out, HC.out, HB.out⟩

theorem neg_text (p : Nat) (hp : p ≠ 0) : (⟨#[45]⟩ : ByteArray) ++ dec (p : Int) = dec (-(p : Int)) := by
  apply ByteArray.ext
  rw [ByteArray.data_append]
  unfold dec; rw [Lib.itoa_neg p (by omega), Lib.itoa_nonneg]
  simp
theorem dec_size (p : Nat) (hp : p ≠ 0) : (dec (p : Int)).size ≤ 9 * (limbs p).length := by
  rw [dec_nat, absS_size]
  have h0 := limbs_len_pos hp
  refine nDigits_le _ _ (by omega) ?_
  rw [pow9]
  exact limbs_len_lt p
set_option maxRecDepth 100000 in
theorem signed_any (p : Nat) (m : Bool) (A : Option Addr) (cap : Nat) (w : World) (ht : Tab w) (hr : Rd u64v w w.heap.size A (limbs p)) (hl : (limbs p).length ≤ 1000000) :
    Calls Tryz.prog 68 #[.slice A (limbs p).length cap, .bool m] w fun e w' => e = .returned (.string (dec (if m then -(p : Int) else p))) ∧ Below w.heap.size w w' := by
  have HT := fun W => text_any p A cap W
  obtain ⟨n, hn⟩ : ∃ n, n = (limbs p).length := ⟨_, rfl⟩
  have hds := fun h => dec_size p h
  rw [← hn] at HT hl hds
  rw [← hn]
  have hnp : n = 0 ↔ p = 0 := by rw [hn, List.length_eq_zero_iff, limbs_eq_nil]
  have htx := HT w ht hr hl
  have HTX := Lib.hid htx
  have HNP := Lib.hid hnp
  have hn1 : n ≤ 1000000 := by omega
  have HDS := Lib.hid hds
  clear HT htx hnp hn hl hds
  cases m with
  | false =>
    go_enter Tryz.func68, Tryz.ntmps68
    go_wp2_with fail
    refine HTX.out.mono ?_
    rintro e w' ⟨rfl, hb⟩
    go_wp2
    go_ret
    exact ⟨rfl, hb⟩
  | true =>
    by_cases hn0 : n = 0
    · subst hn0
      have hp : p = 0 := HNP.out.1 rfl
      subst hp
      go_enter Tryz.func68, Tryz.ntmps68
      go_wp2_with fail
      refine HTX.out.mono ?_
      rintro e w' ⟨rfl, hb⟩
      go_wp2
      go_ret
      exact ⟨rfl, hb⟩
    · have hn2 : 0 < n := by omega
      have hp : p ≠ 0 := fun h => hn0 (HNP.out.2 h)
      have hds : (dec (p : Int)).size ≤ 9000000 := by have := HDS.out hp; omega
      go_enter Tryz.func68, Tryz.ntmps68
      go_wp2_with fail
      refine HTX.out.mono ?_
      rintro e w' ⟨rfl, hb⟩
      go_wp2
      go_ret
      rw [← neg_text p hp]
      exact ⟨rfl, hb⟩

end Go.Proofs.YtkamepalomkpbaaGreatDoor
