/- The statement PitchClasses: the walk. For any two ints as a fraction the call returns true. Conditions: the library's table of powers of ten reads as its text lays it. -/
import Derived.Test.YtiokjnfhopdleaaDoorClassesNum
namespace Go.Proofs.YtiokjnfhopdleaaDoor
open Go.RowKit

set_option maxRecDepth 100000 in
set_option maxHeartbeats 1000000 in
theorem classes_err (n d : Int) (w : World) (ht : Tab w) (he : pErr n d ≠ 0) :
    Calls Tryd.prog 3 #[.agg #[.int .i64 n, .int .i64 d]] w fun e w' => e = .returned (.bool true) ∧ Below w.heap.size w w' := by
  have hc := fun W => lcheck_any n d W
  obtain ⟨x, hx⟩ : ∃ x, x = pErr n d := ⟨_, rfl⟩
  rw [← hx] at hc he
  have hz : (x == 0) = false := by simpa using he
  have hz2 : (x != 0) = true := by simpa using he
  have HC := Lib.hid hc
  clear hc hx he
  go_enter Tryd.func3, Tryd.ntmps3
  go_wp2_with fail
  refine (known_any _ (ht.alloc _)).mono ?_
  rintro e w1 ⟨rfl, hb1⟩
  obtain ⟨hc1, hf1⟩ := bcell hb1
  have hb := (bw_new (Below.refl _ w) (.cells #[.int .i64 n, .int .i64 d] 23)).trans (hb1.mono (by simp))
  clear hb1
  go_wp2_with fail
  refine (HC.out _).mono ?_
  rintro e w2 ⟨rfl, hb2⟩
  have hb := hb.trans (hb2.mono hb.size)
  clear hb2
  go_wp2_with fail
  refine (known_any _ (ht.below hb)).mono ?_
  rintro e w3 ⟨rfl, hb3⟩
  have hb := hb.trans (hb3.mono hb.size)
  clear hb3
  go_wp2
  go_ret
  exact ⟨rfl, hb⟩

set_option maxRecDepth 100000 in
set_option maxHeartbeats 2000000 in
theorem classes_ok (n d : Nat) (w : World) (ht : Tab w) (h : PR n d) :
    Calls Tryd.prog 3 #[.agg #[.int .i64 n, .int .i64 d]] w fun e w' => e = .returned (.bool true) ∧ Below w.heap.size w w' := by
  have hc := fun W => lcheck_any n d W
  rw [pErr_ok h] at hc
  have hcl := fun W => class_ok n d W h
  have hmu := fun W => isMut_ok n d W h
  have hn0 : 0 < n := by have := h.2.1; omega
  have hn1 : n ≤ 16384 := by have := h.2.2.1; have := h.2.2.2; omega
  have hd0 : 0 < d := by have := h.1.1; omega
  have hd1 : d ≤ 128 := by have := h.2.2.2; omega
  obtain ⟨A, B, eA, eB, hA0, hB0, hA1, hB1, oA, oB⟩ := harmonic n d h
  have hf := fun W => lf_any (8 * (d : Int)) n W (by omega) (by omega) (by omega) (by omega)
  rw [eA, eB] at hf
  have hoA := fun W => lodd_any A W hA0 (by omega)
  have hoB := fun W => lodd_any B W hB0 (by omega)
  rw [oA] at hoA
  rw [oB] at hoB
  obtain ⟨m, hm⟩ : ∃ m, m = isMut n d := ⟨_, rfl⟩
  have hmm : m = decide (cls n d ≠ sUnison) := hm
  rw [← hm] at hmu
  have hcs := classes_cases n d hn0
  obtain ⟨c, hcc⟩ : ∃ c, c = cls n d := ⟨_, rfl⟩
  obtain ⟨j, hj⟩ : ∃ j, j = oddOf n := ⟨_, rfl⟩
  obtain ⟨k, hk⟩ : ∃ k, k = oddOf d := ⟨_, rfl⟩
  rw [← hcc] at hcl hmm hcs
  rw [← hj] at hoB hcs
  rw [← hk] at hoA hcs
  have HC := Lib.hid hc
  have HCL := Lib.hid hcl
  have HMU := Lib.hid hmu
  have HF := Lib.hid hf
  have HOA := Lib.hid hoA
  have HOB := Lib.hid hoB
  have HM := Lib.hid hmm
  clear hc hcl hmu hf hoA hoB h hmm hm hcc hj hk oA oB eA eB
  go_enter Tryd.func3, Tryd.ntmps3
  go_wp2_with fail
  refine (known_any _ (ht.alloc _)).mono ?_
  rintro e w1 ⟨rfl, hb1⟩
  have hb := (bw_new (Below.refl _ w) (.cells #[.int .i64 n, .int .i64 d] 23)).trans (hb1.mono (by simp))
  have hk0 : ∀ o, (w.alloc (.cells #[.int .i64 n, .int .i64 d] 23)).cell? ⟨w.heap.size, o, none⟩ = #[Value.int .i64 n, .int .i64 d][o]? := fun o => World.cell?_alloc_new ..
  have c10 : w1.cell? ⟨w.heap.size, 0, none⟩ = some (.int .i64 n) := by rw [hb1.cell (by show w.heap.size < _; simp), hk0]; rfl
  have c11 : w1.cell? ⟨w.heap.size, 1, none⟩ = some (.int .i64 d) := by rw [hb1.cell (by show w.heap.size < _; simp), hk0]; rfl
  have hs1 : w.heap.size < w1.heap.size := by have := hb1.size; simp at this; omega
  clear hb1 hk0
  go_wp2_with fail
  refine (HC.out _).mono ?_
  rintro e w2 ⟨rfl, hb2⟩
  have c20 : w2.cell? ⟨w.heap.size, 0, none⟩ = some (.int .i64 n) := (hb2.cell (by show w.heap.size < _; omega)).trans c10
  have c21 : w2.cell? ⟨w.heap.size, 1, none⟩ = some (.int .i64 d) := (hb2.cell (by show w.heap.size < _; omega)).trans c11
  have hs2 : w.heap.size < w2.heap.size := by have := hb2.size; omega
  have hb := hb.trans (hb2.mono hb.size)
  clear hb2 c10 c11
  go_wp2_with fail
  refine (HCL.out _).mono ?_
  rintro e w3 ⟨rfl, hb3⟩
  have c30 : w3.cell? ⟨w.heap.size, 0, none⟩ = some (.int .i64 n) := (hb3.cell (by show w.heap.size < _; omega)).trans c20
  have c31 : w3.cell? ⟨w.heap.size, 1, none⟩ = some (.int .i64 d) := (hb3.cell (by show w.heap.size < _; omega)).trans c21
  have hs3 : w.heap.size < w3.heap.size := by have := hb3.size; omega
  have hb := hb.trans (hb3.mono hb.size)
  clear hb3 c20 c21
  go_wp2_with fail
  refine (HMU.out _).mono ?_
  rintro e w4 ⟨rfl, hb4⟩
  have c40 : w4.cell? ⟨w.heap.size, 0, none⟩ = some (.int .i64 n) := (hb4.cell (by show w.heap.size < _; omega)).trans c30
  have c41 : w4.cell? ⟨w.heap.size, 1, none⟩ = some (.int .i64 d) := (hb4.cell (by show w.heap.size < _; omega)).trans c31
  have hb := hb.trans (hb4.mono hb.size)
  clear hb4 c30 c31
  go_wp2_with fail
  refine (HF.out _).mono ?_
  rintro e w5 ⟨rfl, hb5⟩
  have hb := hb.trans (hb5.mono hb.size)
  clear hb5 c40 c41
  go_wp2_with fail
  refine (HOB.out _).mono ?_
  rintro e w6 ⟨rfl, rfl⟩
  rcases hcs with ⟨h1, h2⟩ | ⟨rfl, rfl, h2⟩ | ⟨rfl, rfl, h2⟩ | ⟨rfl, rfl, h2⟩ | ⟨rfl, rfl, h2⟩ | ⟨rfl, k1, k3, k5, k7, h2⟩
  · have ht1 : ((j : Int) == 1) = false := by rw [beq_eq_false_iff_ne]; omega
    obtain rfl : m = true := by rw [HM.out, h2]; decide
    have hs := bytes_ne c [111, 116, 104, 101, 114]
    rw [decide_eq_true (show c = ⟨_⟩ from h2)] at hs
    clear h1 h2
    go_wp2
    go_ret
    exact ⟨rfl, bw_new hb _⟩
  · obtain rfl : m = false := by rw [HM.out, h2]; decide
    have hs := bytes_ne c [117, 110, 105, 115, 111, 110]
    rw [decide_eq_true (show c = ⟨_⟩ from h2)] at hs
    clear h2
    go_wp2_with fail
    refine (HOA.out _).mono ?_
    rintro e w6 ⟨rfl, rfl⟩
    go_wp2
    go_ret
    exact ⟨rfl, bw_new hb _⟩
  · obtain rfl : m = true := by rw [HM.out, h2]; decide
    have hs := bytes_ne c [113, 117, 105, 110, 116]
    rw [decide_eq_true (show c = ⟨_⟩ from h2)] at hs
    clear h2
    go_wp2_with fail
    refine (HOA.out _).mono ?_
    rintro e w6 ⟨rfl, rfl⟩
    go_wp2
    go_ret
    exact ⟨rfl, bw_new hb _⟩
  · obtain rfl : m = true := by rw [HM.out, h2]; decide
    have hs := bytes_ne c [116, 105, 101, 114, 99, 101]
    rw [decide_eq_true (show c = ⟨_⟩ from h2)] at hs
    clear h2
    go_wp2_with fail
    refine (HOA.out _).mono ?_
    rintro e w6 ⟨rfl, rfl⟩
    go_wp2
    go_ret
    exact ⟨rfl, bw_new hb _⟩
  · obtain rfl : m = true := by rw [HM.out, h2]; decide
    have hs := bytes_ne c [115, 101, 112, 116, 105, 101, 109, 101]
    rw [decide_eq_true (show c = ⟨_⟩ from h2)] at hs
    clear h2
    go_wp2_with fail
    refine (HOA.out _).mono ?_
    rintro e w6 ⟨rfl, rfl⟩
    go_wp2
    go_ret
    exact ⟨rfl, bw_new hb _⟩
  · obtain rfl : m = true := by rw [HM.out, h2]; decide
    have hs := bytes_ne c [111, 116, 104, 101, 114]
    have e1 : ((k : Int) == 1) = false := by rw [beq_eq_false_iff_ne]; omega
    have e3 : ((k : Int) == 3) = false := by rw [beq_eq_false_iff_ne]; omega
    have e5 : ((k : Int) == 5) = false := by rw [beq_eq_false_iff_ne]; omega
    have e7 : ((k : Int) == 7) = false := by rw [beq_eq_false_iff_ne]; omega
    rw [decide_eq_true (show c = ⟨_⟩ from h2)] at hs
    clear h2 k1 k3 k5 k7
    go_wp2_with fail
    refine (HOA.out _).mono ?_
    rintro e w6 ⟨rfl, rfl⟩
    go_wp2
    go_ret
    exact ⟨rfl, bw_new hb _⟩

theorem classes_any (n d : Int) (w : World) (ht : Tab w) :
    Calls Tryd.prog 3 #[.agg #[.int .i64 n, .int .i64 d]] w fun e w' => e = .returned (.bool true) ∧ Below w.heap.size w w' := by
  by_cases he : pErr n d = 0
  · have h := PR_of he
    obtain ⟨x, rfl⟩ := Int.eq_ofNat_of_zero_le (show 0 ≤ n by have := h.2.1; omega)
    obtain ⟨y, rfl⟩ := Int.eq_ofNat_of_zero_le (show 0 ≤ d by have := h.1.1; omega)
    exact classes_ok x y w ht h
  · exact classes_err n d w ht he

end Go.Proofs.YtiokjnfhopdleaaDoor
