/- Package pitch: odd, shift, Check and both. Conditions: right feet (shift); the parts are ints. -/
import Derived.BigQuiet
import Derived.Test.YtkamepalomkpbaaGreatDoorNum
import Derived.Test.YtkamepalomkpbaaGreatDoorFrac2
namespace Go.Proofs.YtkamepalomkpbaaGreatDoor
open Go.RowKit

/-- A number without its factors 2. -/
def oddOf (n : Nat) : Nat := if h : n = 0 then 0 else if n % 2 = 0 then oddOf (n / 2) else n
termination_by n
decreasing_by omega
theorem oddOf_even {n : Nat} (h0 : n ≠ 0) (h : n % 2 = 0) : oddOf n = oddOf (n / 2) := by rw [oddOf, dif_neg h0, if_pos h]
theorem oddOf_odd {n : Nat} (h : n % 2 = 1) : oddOf n = n := by rw [oddOf, dif_neg (by omega), if_neg (by omega)]

/-- The error of feet. -/
def pErr (n d : Int) : Int := if ¬ Right n d then 2 else if n ≤ 0 ∨ 128 * d < n then 3 else if 128 < d then 4 else 0
/-- Right feet. -/
def PR (n d : Int) : Prop := Right n d ∧ 0 < n ∧ n ≤ 128 * d ∧ d ≤ 128
theorem pErr_ok {n d : Int} (h : PR n d) : pErr n d = 0 := by
  unfold pErr; rw [if_neg (fun k => k h.1), if_neg (by have := h.2; omega), if_neg (by have := h.2; omega)]
theorem PR_of {n d : Int} (h : pErr n d = 0) : PR n d := by
  unfold pErr at h
  split at h
  · omega
  · split at h
    · omega
    · split at h
      · omega
      · rename_i h1 h2 h3
        exact ⟨by simpa using h1, by omega, by omega, by omega⟩

set_option maxRecDepth 100000 in
set_option maxHeartbeats 1000000 in
theorem pcheck_any (n d : Int) (w : World) (hn : I64 n) (hd : I64 d) :
    Calls Tryz.prog 50 #[.agg #[.int .i64 n, .int .i64 d]] w fun e w' => e = .returned (.int .i64 (pErr n d)) ∧ Below w.heap.size w w' := by
  have hc := fun W => fcheck_any n d W hn.1 hn.2 hd.1 hd.2
  by_cases hr : Right n d
  · have hd0 := hr.1
    have hd1 := hr.2.1
    have hn0 := hr.2.2.1
    have hn1 := hr.2.2.2.1
    rw [fErr_ok hr] at hc
    have HC := Lib.hid hc
    by_cases h1 : n ≤ 0
    · have HE := Lib.hid (show pErr n d = 3 by unfold pErr; rw [if_neg (fun k => k hr), if_pos (Or.inl h1)])
      clear hc hr hn hd
      go_enter Tryz.func50, Tryz.ntmps50
      go_wp2_with fail
      refine (HC.out _).mono ?_
      rintro e w1 ⟨rfl, hb⟩
      obtain ⟨hc1, hf1⟩ := bcell hb
      go_wp2
      go_ret
      exact ⟨ret_int HE.out.symm, (bw_new (Below.refl _ w) _).trans (hb.mono (by simp))⟩
    · by_cases h2 : 128 * d < n
      · have HE := Lib.hid (show pErr n d = 3 by unfold pErr; rw [if_neg (fun k => k hr), if_pos (Or.inr h2)])
        clear hc hr hn hd
        go_enter Tryz.func50, Tryz.ntmps50
        go_wp2_with fail
        refine (HC.out _).mono ?_
        rintro e w1 ⟨rfl, hb⟩
        obtain ⟨hc1, hf1⟩ := bcell hb
        go_wp2
        go_ret
        exact ⟨ret_int HE.out.symm, (bw_new (Below.refl _ w) _).trans (hb.mono (by simp))⟩
      · by_cases h3 : 128 < d
        · have HE := Lib.hid (show pErr n d = 4 by unfold pErr; rw [if_neg (fun k => k hr), if_neg (by omega), if_pos h3])
          clear hc hr hn hd
          go_enter Tryz.func50, Tryz.ntmps50
          go_wp2_with fail
          refine (HC.out _).mono ?_
          rintro e w1 ⟨rfl, hb⟩
          obtain ⟨hc1, hf1⟩ := bcell hb
          go_wp2
          go_ret
          exact ⟨ret_int HE.out.symm, (bw_new (Below.refl _ w) _).trans (hb.mono (by simp))⟩
        · have HE := Lib.hid (show pErr n d = 0 by unfold pErr; rw [if_neg (fun k => k hr), if_neg (by omega), if_neg h3])
          clear hc hr hn hd
          go_enter Tryz.func50, Tryz.ntmps50
          go_wp2_with fail
          refine (HC.out _).mono ?_
          rintro e w1 ⟨rfl, hb⟩
          obtain ⟨hc1, hf1⟩ := bcell hb
          go_wp2
          go_ret
          exact ⟨ret_int HE.out.symm, (bw_new (Below.refl _ w) _).trans (hb.mono (by simp))⟩
  · rw [fErr_no hr] at hc
    have HC := Lib.hid hc
    have HE := Lib.hid (show pErr n d = 2 by unfold pErr; rw [if_pos hr])
    clear hc hr hn hd
    go_enter Tryz.func50, Tryz.ntmps50
    go_wp2_with fail
    refine (HC.out _).mono ?_
    rintro e w1 ⟨rfl, hb⟩
    go_wp2
    go_ret
    exact ⟨ret_int HE.out.symm, (bw_new (Below.refl _ w) _).trans (hb.mono (by simp))⟩

end Go.Proofs.YtkamepalomkpbaaGreatDoor
