/- Part 41 of 42 of the proof of the law: contracts of the functions that it reaches, and plain facts. Conditions: those that each contract names. -/
import Derived.Test.YtlmheeommpbimaaGreatDoorRestsB40
import Derived.Test.YtlmheeommpbimaaGreatDoorRestsB34
import Derived.RegionTactic
import Derived.Deep.DeepCutAuto
namespace Go.Proofs.YtlmheeommpbimaaGreatDoor
open Go.RowKit
set_option maxRecDepth 1000000 in
set_option maxHeartbeats 4000000 in
theorem lrests_in (n d : Int) (X : Nat → Int × Int) (C : Nat → Tm) (i : Nat) (r0 r1 r2 r3 r4 r5 p0 p1 p2 p3 p4 p5 q0 q1 q2 q3 s0 s1 s2 s3 t0 t1 t2 t3 u0 u1 u2 u3 : Int) (w : World) (ht : Tab w) (hi : i < 12)
    (hMK : ∀ W, Calls Tryz.prog 11 #[.agg (plC n X d).toArray] W fun e w' => e = .returned (.agg (cirL C).toArray) ∧ Below W.heap.size W w')
    (hRE : ∀ W, Calls Tryz.prog 12 #[.agg (cirL C).toArray] W fun e w' => e = .returned (.tuple #[szv r0 r1 r2 r3 r4 r5, .int .i64 0]) ∧ Below W.heap.size W w')
    (hCL : ∀ W, Calls Tryz.prog 13 #[.agg (cirL C).toArray] W fun e w' => e = .returned (.tuple #[.bool (eqZ r0 r1 r2 r3 r4 r5 0 1 0 1 0 1), .int .i64 0]) ∧ Below W.heap.size W w')
    (hFI : ∀ W, Calls Tryz.prog 14 #[.agg (cirL C).toArray, .int .i64 (i : Int)] W fun e w' => e = .returned (.tuple #[szv p0 p1 p2 p3 p4 p5, .int .i64 0]) ∧ Below W.heap.size W w')
    (hLF : ∀ W, Calls Tryz.prog 15 #[.agg (tmC (C i)).toArray] W fun e w' => e = .returned (.tuple #[ovv q0 q1 q2 q3, .bool true]) ∧ Below W.heap.size W w')
    (hSF : ∀ W, Calls Tryz.prog 16 #[ovv q0 q1 q2 q3] W fun e w' => e = .returned (szv p0 p1 p2 p3 p4 p5) ∧ Below W.heap.size W w')
    (hSU : ∀ W, Calls Tryz.prog 17 #[.agg (cirL C).toArray, .int .i64 12] W fun e w' => e = .returned (.tuple #[ovv s0 s1 s2 s3, .bool true]) ∧ Below W.heap.size W w')
    (hAD : ∀ W, Calls Tryz.prog 19 #[ovv s0 s1 s2 s3, ovv 7 0 0 1, .int .i64 (-1)] W fun e w' => e = .returned (ovv t0 t1 t2 t3) ∧ Below W.heap.size W w')
    (hOV : ∀ W, Calls Tryz.prog 18 #[ovv t0 t1 t2 t3] W fun e w' => e = .returned (.tuple #[ovv u0 u1 u2 u3, .bool true]) ∧ Below W.heap.size W w')
    (hSR : ∀ W, Calls Tryz.prog 16 #[ovv u0 u1 u2 u3] W fun e w' => e = .returned (szv r0 r1 r2 r3 r4 r5) ∧ Below W.heap.size W w') :
    Calls Tryz.prog 3 #[.agg (plC n X d).toArray, .int .i64 (i : Int)] w fun e w' => e = .returned (.bool true) ∧ Below w.heap.size w w' := by
  have HKN := Lib.hid (fun W hT => tknown_any W hT)
  have HOC := Lib.hid (fun W => loctaves_any 7 W)
  have HSZ := Lib.hid (fun W => lsize_zero W)
  have HT := Lib.hid ht
  have HMK := Lib.hid hMK
  have HRE := Lib.hid hRE
  have HCL := Lib.hid hCL
  have HFI := Lib.hid hFI
  have HLF := Lib.hid hLF
  have HSF := Lib.hid hSF
  have HSU := Lib.hid hSU
  have HAD := Lib.hid hAD
  have HOV := Lib.hid hOV
  have HSR := Lib.hid hSR
  obtain ⟨b, hb⟩ : ∃ b, b = (eqZ r0 r1 r2 r3 r4 r5 0 1 0 1 0 1) := ⟨_, rfl⟩
  rw [← hb] at HCL
  have HBB := Lib.hid hb
  clear ht hb hMK hRE hCL hFI hLF hSF hSU hAD hOV hSR
  have hm0 := (Hp.start w).new 26 (plC n X d)
  simp only [List.nil_append] at hm0
  have HM0 := Lib.hid hm0
  clear hm0
  go_enter Tryz.func3, Tryz.ntmps3
  go_wp2_with fail
  refine (HKN.out _ (HT.out.below HM0.out.below)).mono ?_
  rintro e w1 ⟨rfl, hb1⟩
  have HM1 := Lib.hid (HM0.out.step hb1)
  clear hb1
  go_wp2_with (refine wpList_load_row rfl 26 _ rfl (w.heap.size) rfl 26 (plC n X d).toArray (0, 0) _ (HM1.out.at_ 0 rfl) Tryz.underlying26 rfl (by rw [infoPlan41, List.size_toArray, pl_len]) ?_)
  refine (HMK.out _).mono ?_
  rintro e w2 ⟨rfl, hb2⟩
  have hm2 := (HM1.out.step hb2).new 33 (cirL (fun _ => (0, 0, 0, 0)))
  simp only [List.nil_append, List.cons_append] at hm2
  have HM2 := Lib.hid hm2
  have hm3 := (hm2.row 1 rfl (cirL C)).cast (L' := [(w.heap.size, 26, plC n X d), (w2.heap.size, 33, cirL C)]) rfl
  have HM3 := Lib.hid hm3
  clear hb2 hm2 hm3
  go_wp2_with (first | (refine wpList_store_rowTo rfl 33 _ _ rfl rfl (w2.heap.size) (cirL C).toArray rfl rfl 33 (cirL (fun _ => (0, 0, 0, 0))).toArray (HM2.out.at_ 1 rfl) (by rw [infoCircle, List.size_toArray, cirL_len]) (by rw [List.size_toArray, List.size_toArray, cirL_len, cirL_len]) (cir_one _) ?_) | (refine wpList_load_row rfl 33 _ rfl (w2.heap.size) rfl 33 (cirL C).toArray (0, 0) _ (HM3.out.at_ 1 rfl) Tryz.underlying33 rfl (by rw [infoCircle, List.size_toArray, cirL_len]) ?_))
  refine (HRE.out _).mono ?_
  rintro e w3 ⟨rfl, hb3⟩
  have hm4 := (HM3.out.step hb3).new 36 [.int .i64 r0, .int .i64 r1, .int .i64 r2, .int .i64 r3, .int .i64 r4, .int .i64 r5]
  simp only [List.nil_append, List.cons_append] at hm4
  have HM4 := Lib.hid hm4
  clear hb3 hm4
  go_wp2_with (refine wpList_load_row rfl 33 _ rfl (w2.heap.size) rfl 33 (cirL C).toArray (0, 0) _ (HM4.out.at_ 1 rfl) Tryz.underlying33 rfl (by rw [infoCircle, List.size_toArray, cirL_len]) ?_)
  refine (HCL.out _).mono ?_
  rintro e w4 ⟨rfl, hb4⟩
  have HM5 := Lib.hid (HM4.out.step hb4)
  clear hb4
  go_wp2_with (refine wpList_load_row rfl 33 _ rfl (w2.heap.size) rfl 33 (cirL C).toArray (0, 0) _ (HM5.out.at_ 1 rfl) Tryz.underlying33 rfl (by rw [infoCircle, List.size_toArray, cirL_len]) ?_)
  refine (HFI.out _).mono ?_
  rintro e w5 ⟨rfl, hb5⟩
  have hm6 := (HM5.out.step hb5).new 36 [.int .i64 p0, .int .i64 p1, .int .i64 p2, .int .i64 p3, .int .i64 p4, .int .i64 p5]
  simp only [List.nil_append, List.cons_append] at hm6
  have HM6 := Lib.hid hm6
  obtain ⟨t0', t1', t2', t3'⟩ := cir_cells (hm6.at_ 1 rfl) hi
  have hi0 : (0 : Int) ≤ (i : Int) := by omega
  have hi1 : (i : Int) < 12 := by omega
  have hi2 : ¬ (11 : Int) < (i : Int) := by omega
  clear hb5 hm6
  go_wp2_with fail
  refine (HLF.out _).mono ?_
  rintro e w6 ⟨rfl, hb6⟩
  have hm7 := (HM6.out.step hb6).new 45 [.int .i64 q0, .int .i64 q1, .int .i64 q2, .int .i64 q3]
  simp only [List.nil_append, List.cons_append] at hm7
  have HM7 := Lib.hid hm7
  clear hb6 hm7 t0' t1' t2' t3'
  go_upto_region 11 with fail
  have hd1 : decide ((i : Int) < 0) = false := by simp
  have hd2 : decide ((11 : Int) < (i : Int)) = false := by simp; omega
  simp only [hd1, hd2, Bool.or_false]
  clear hd1 hd2 hi0 hi1 hi2
  refine wp_regionJ 12 #[false, false, false, false, false, false, false, false, false, false, false, false] (fun l a W => ∃ (m0 m1 m2 m3 m4 m5 m6 m7 m8 m9 m10 m11 : Bool), l = #[m0, m1, m2, m3, m4, m5, m6, m7, m8, m9, m10, m11] ∧ a = ({ tmps := #[Value.agg (plC n X d).toArray, Value.int IntKind.i64 (i : Int), Value.pointer (some { block := w.heap.size, off := 0 }), undef, Value.bool false, Value.pointer (some { block := w2.heap.size, off := 0 }), Value.pointer (some { block := w3.heap.size, off := 0 }), Value.int IntKind.i64 0, Value.bool b, Value.int IntKind.i64 0, Value.pointer (some { block := w5.heap.size, off := 0 }), Value.int IntKind.i64 0, Value.pointer (some { block := w6.heap.size, off := 0 }), Value.bool true, undef, undef, Value.bool true, Value.bool false, Value.agg (plC n X d).toArray, Value.agg (cirL C).toArray, Value.tuple #[szv r0 r1 r2 r3 r4 r5, Value.int IntKind.i64 0], Value.agg (cirL C).toArray, Value.tuple #[szv r0 r1 r2 r3 r4 r5, Value.int IntKind.i64 0], szv r0 r1 r2 r3 r4 r5, Value.int IntKind.i64 0, Value.tuple #[Value.bool b, Value.int IntKind.i64 0], Value.agg (cirL C).toArray, Value.tuple #[Value.bool b, Value.int IntKind.i64 0], Value.bool b, Value.int IntKind.i64 0, Value.tuple #[szv p0 p1 p2 p3 p4 p5, Value.int IntKind.i64 0], Value.agg (cirL C).toArray, Value.int IntKind.i64 (i : Int), Value.tuple #[szv p0 p1 p2 p3 p4 p5, Value.int IntKind.i64 0], szv p0 p1 p2 p3 p4 p5, Value.int IntKind.i64 0, Value.int IntKind.i64 (i : Int), Value.bool false, Value.bool false, Value.int IntKind.i64 (i : Int), Value.bool false, Value.bool false, undef, undef, undef, undef, undef, undef, undef, Value.tuple #[ovv q0 q1 q2 q3, Value.bool true], Value.int IntKind.i64 (i : Int), Value.pointer (some { block := w2.heap.size, off := i * 4 }), Value.agg #[Value.int IntKind.i64 (C i).fst, Value.int IntKind.i64 (C i).snd.fst, Value.int IntKind.i64 (C i).snd.snd.fst, Value.int IntKind.i64 (C i).snd.snd.snd], Value.tuple #[ovv q0 q1 q2 q3, Value.bool true], ovv q0 q1 q2 q3, Value.bool true, cwX m0 (.int .i64 0) (undef), cwX m1 (.bool false) (undef), cwX m2 (.bool false) (undef), cwX m3 (.bool true) (undef), cwX m4 (.bool false) (undef), cwX m5 (.bool false) (undef), cwX m6 (.bool false) (undef), cwX m7 (szv p0 p1 p2 p3 p4 p5) (undef), cwX m8 (ovv q0 q1 q2 q3) (undef), cwX m9 (szv p0 p1 p2 p3 p4 p5) (undef), cwX m10 (.bool false) (undef), cwX m11 (.bool false) (undef), undef, undef, undef, undef, undef, undef, undef, undef, undef, undef, undef, undef, undef, undef, undef, undef, undef, undef, undef, undef, undef, undef, undef, undef, undef, undef, undef, undef, undef, undef, undef, undef, undef, undef, undef, undef, undef, undef, undef, undef, undef, undef, undef, undef, undef, undef, undef, undef, undef, undef, undef, undef], defers := [] } : Act) ∧ (True) ∧ Hp w [(w.heap.size, 26, plC n X d), (w2.heap.size, 33, cirL C), (w3.heap.size, 36, [.int .i64 r0, .int .i64 r1, .int .i64 r2, .int .i64 r3, .int .i64 r4, .int .i64 r5]), (w5.heap.size, 36, [.int .i64 p0, .int .i64 p1, .int .i64 p2, .int .i64 p3, .int .i64 p4, .int .i64 p5]), (w6.heap.size, 45, [.int .i64 q0, .int .i64 q1, .int .i64 q2, .int .i64 q3])] W) (by kernel_rfl) (by kernel_rfl) (by kernel_rfl) (by kernel_rfl) ?_ ?_ ?_ ?_
  · rintro l a W ⟨m0, m1, m2, m3, m4, m5, m6, m7, m8, m9, m10, m11, rfl, _⟩
    rfl
  · exact ⟨false, false, false, false, false, false, false, false, false, false, false, false, rfl, rfl, trivial, HM7.out.drew⟩
  · rintro l a W i o ⟨m0, m1, m2, m3, m4, m5, m6, m7, m8, m9, m10, m11, rfl, rfl, hi0, hm⟩ ho hun hall K hK
    have hi : i < 12 := (Array.getElem?_eq_some_iff.1 ho).1
    have HM := Lib.hid hm
    have HI := Lib.hid hi0
    clear hm hi0
    rcases (show i = 0 ∨ i = 1 ∨ i = 2 ∨ i = 3 ∨ i = 4 ∨ i = 5 ∨ i = 6 ∨ i = 7 ∨ i = 8 ∨ i = 9 ∨ i = 10 ∨ i = 11 by omega) with rfl | rfl | rfl | rfl | rfl | rfl | rfl | rfl | rfl | rfl | rfl | rfl
    · obtain rfl := Option.some.inj (show some _ = some o from ho)
      obtain rfl : m0 = false := by simpa using hun
      clear hall hun hi ho
      go_simp
      exact hK.out _ _ ⟨true, m1, m2, m3, m4, m5, m6, m7, m8, m9, m10, m11, rfl, rfl, trivial, HM.out⟩
    · obtain rfl := Option.some.inj (show some _ = some o from ho)
      obtain rfl : m0 = true := getBX hall 0 rfl
      obtain rfl : m1 = false := by simpa using hun
      clear hall hun hi ho
      go_simp
      exact hK.out _ _ ⟨true, true, m2, m3, m4, m5, m6, m7, m8, m9, m10, m11, rfl, rfl, trivial, HM.out⟩
    · obtain rfl := Option.some.inj (show some _ = some o from ho)
      obtain rfl : m1 = true := getBX hall 1 rfl
      obtain rfl : m2 = false := by simpa using hun
      clear hall hun hi ho
      go_simp
      exact hK.out _ _ ⟨m0, true, true, m3, m4, m5, m6, m7, m8, m9, m10, m11, rfl, rfl, trivial, HM.out⟩
    · obtain rfl := Option.some.inj (show some _ = some o from ho)
      obtain rfl : m2 = true := getBX hall 2 rfl
      obtain rfl : m3 = false := by simpa using hun
      clear hall hun hi ho
      go_simp
      exact hK.out _ _ ⟨m0, m1, true, true, m4, m5, m6, m7, m8, m9, m10, m11, rfl, rfl, trivial, HM.out⟩
    · obtain rfl := Option.some.inj (show some _ = some o from ho)
      obtain rfl : m2 = true := getBX hall 2 rfl
      obtain rfl : m3 = true := getBX hall 3 rfl
      obtain rfl : m4 = false := by simpa using hun
      clear hall hun hi ho
      go_simp
      exact hK.out _ _ ⟨m0, m1, true, true, true, m5, m6, m7, m8, m9, m10, m11, rfl, rfl, trivial, HM.out⟩
    · obtain rfl := Option.some.inj (show some _ = some o from ho)
      obtain rfl : m2 = true := getBX hall 2 rfl
      obtain rfl : m4 = true := getBX hall 4 rfl
      obtain rfl : m5 = false := by simpa using hun
      clear hall hun hi ho
      go_simp
      exact hK.out _ _ ⟨m0, m1, true, m3, true, true, m6, m7, m8, m9, m10, m11, rfl, rfl, trivial, HM.out⟩
    · obtain rfl := Option.some.inj (show some _ = some o from ho)
      obtain rfl : m5 = true := getBX hall 5 rfl
      obtain rfl : m6 = false := by simpa using hun
      clear hall hun hi ho
      go_simp
      exact hK.out _ _ ⟨m0, m1, m2, m3, m4, true, true, m7, m8, m9, m10, m11, rfl, rfl, trivial, HM.out⟩
    · obtain rfl := Option.some.inj (show some _ = some o from ho)
      obtain rfl : m6 = true := getBX hall 6 rfl
      obtain rfl : m7 = false := by simpa using hun
      clear hall hun hi ho
      obtain ⟨y0, y1, y2, y3, y4, y5⟩ := six_of (HM.out.at_ 3 rfl)
      go_simp
      exact hK.out _ _ ⟨m0, m1, m2, m3, m4, m5, true, true, m8, m9, m10, m11, rfl, rfl, trivial, HM.out⟩
    · obtain rfl := Option.some.inj (show some _ = some o from ho)
      obtain rfl : m6 = true := getBX hall 6 rfl
      obtain rfl : m8 = false := by simpa using hun
      clear hall hun hi ho
      have v0 : W.cell? ⟨w6.heap.size, 0, none⟩ = some (.int .i64 q0) := (HM.out.at_ 4 rfl).cell 0
      have v1 : W.cell? ⟨w6.heap.size, 1, none⟩ = some (.int .i64 q1) := (HM.out.at_ 4 rfl).cell 1
      have v2 : W.cell? ⟨w6.heap.size, 2, none⟩ = some (.int .i64 q2) := (HM.out.at_ 4 rfl).cell 2
      have v3 : W.cell? ⟨w6.heap.size, 3, none⟩ = some (.int .i64 q3) := (HM.out.at_ 4 rfl).cell 3
      go_simp
      exact hK.out _ _ ⟨m0, m1, m2, m3, m4, m5, true, m7, true, m9, m10, m11, rfl, rfl, trivial, HM.out⟩
    · obtain rfl := Option.some.inj (show some _ = some o from ho)
      obtain rfl : m6 = true := getBX hall 6 rfl
      obtain rfl : m8 = true := getBX hall 8 rfl
      obtain rfl : m9 = false := by simpa using hun
      clear hall hun hi ho
      go_simp
      refine (HSF.out _).mono ?_
      rintro e W' ⟨rfl, hb⟩
      exact hK.out _ _ ⟨m0, m1, m2, m3, m4, m5, true, m7, true, true, m10, m11, rfl, rfl, trivial, HM.out.step hb⟩
    · obtain rfl := Option.some.inj (show some _ = some o from ho)
      obtain rfl : m6 = true := getBX hall 6 rfl
      obtain rfl : m7 = true := getBX hall 7 rfl
      obtain rfl : m9 = true := getBX hall 9 rfl
      obtain rfl : m10 = false := by simpa using hun
      clear hall hun hi ho
      go_simp
      exact hK.out _ _ ⟨m0, m1, m2, m3, m4, m5, true, true, m8, true, true, m11, rfl, rfl, trivial, HM.out⟩
    · obtain rfl := Option.some.inj (show some _ = some o from ho)
      obtain rfl : m6 = true := getBX hall 6 rfl
      obtain rfl : m10 = true := getBX hall 10 rfl
      obtain rfl : m11 = false := by simpa using hun
      clear hall hun hi ho
      go_simp
      exact hK.out _ _ ⟨m0, m1, m2, m3, m4, m5, true, m7, m8, m9, true, true, rfl, rfl, trivial, HM.out⟩
  · rintro l a W ⟨m0, m1, m2, m3, m4, m5, m6, m7, m8, m9, m10, m11, rfl, rfl, _, hm⟩ hall
    obtain rfl : m0 = true := hall 0 (by decide)
    obtain rfl : m1 = true := hall 1 (by decide)
    obtain rfl : m2 = true := hall 2 (by decide)
    obtain rfl : m3 = true := hall 3 (by decide)
    obtain rfl : m4 = true := hall 4 (by decide)
    obtain rfl : m5 = true := hall 5 (by decide)
    obtain rfl : m6 = true := hall 6 (by decide)
    obtain rfl : m7 = true := hall 7 (by decide)
    obtain rfl : m8 = true := hall 8 (by decide)
    obtain rfl : m9 = true := hall 9 (by decide)
    obtain rfl : m10 = true := hall 10 (by decide)
    obtain rfl : m11 = true := hall 11 (by decide)
    clear hall
    have HM8 : Hid (Hp w [(w.heap.size, 26, plC n X d), (w2.heap.size, 33, cirL C), (w3.heap.size, 36, [.int .i64 r0, .int .i64 r1, .int .i64 r2, .int .i64 r3, .int .i64 r4, .int .i64 r5]), (w5.heap.size, 36, [.int .i64 p0, .int .i64 p1, .int .i64 p2, .int .i64 p3, .int .i64 p4, .int .i64 p5]), (w6.heap.size, 45, [.int .i64 q0, .int .i64 q1, .int .i64 q2, .int .i64 q3])] _) := Lib.hid hm
    clear hm
    dsimp only [cwX, cond_true]
    go_wp2_with (refine wpList_load_row rfl 33 _ rfl (w2.heap.size) rfl 33 (cirL C).toArray (0, 0) _ (HM8.out.at_ 1 rfl) Tryz.underlying33 rfl (by rw [infoCircle, List.size_toArray, cirL_len]) ?_)
    refine (HSU.out _).mono ?_
    rintro e w7 ⟨rfl, hb7⟩
    have hm9 := (HM8.out.step hb7).new 45 [.int .i64 s0, .int .i64 s1, .int .i64 s2, .int .i64 s3]
    simp only [List.nil_append, List.cons_append] at hm9
    have HM9 := Lib.hid hm9
    clear hb7 hm9
    go_upto_region 16 with fail
    refine wp_regionJ 9 #[false, false, false, false, false, false, false, false, false] (fun l a W => ∃ (m0 m1 m2 m3 m4 m5 m6 m7 m8 : Bool), l = #[m0, m1, m2, m3, m4, m5, m6, m7, m8] ∧ a = ({ tmps := #[Value.agg (plC n X d).toArray, Value.int IntKind.i64 (i : Int), Value.pointer (some { block := w.heap.size, off := 0 }), undef, Value.bool false, Value.pointer (some { block := w2.heap.size, off := 0 }), Value.pointer (some { block := w3.heap.size, off := 0 }), Value.int IntKind.i64 0, Value.bool b, Value.int IntKind.i64 0, Value.pointer (some { block := w5.heap.size, off := 0 }), Value.int IntKind.i64 0, Value.pointer (some { block := w6.heap.size, off := 0 }), Value.bool true, Value.pointer (some { block := w7.heap.size, off := 0 }), Value.bool true, Value.bool true, Value.bool false, Value.agg (plC n X d).toArray, Value.agg (cirL C).toArray, Value.tuple #[szv r0 r1 r2 r3 r4 r5, Value.int IntKind.i64 0], Value.agg (cirL C).toArray, Value.tuple #[szv r0 r1 r2 r3 r4 r5, Value.int IntKind.i64 0], szv r0 r1 r2 r3 r4 r5, Value.int IntKind.i64 0, Value.tuple #[Value.bool b, Value.int IntKind.i64 0], Value.agg (cirL C).toArray, Value.tuple #[Value.bool b, Value.int IntKind.i64 0], Value.bool b, Value.int IntKind.i64 0, Value.tuple #[szv p0 p1 p2 p3 p4 p5, Value.int IntKind.i64 0], Value.agg (cirL C).toArray, Value.int IntKind.i64 (i : Int), Value.tuple #[szv p0 p1 p2 p3 p4 p5, Value.int IntKind.i64 0], szv p0 p1 p2 p3 p4 p5, Value.int IntKind.i64 0, Value.int IntKind.i64 (i : Int), Value.bool false, Value.bool false, Value.int IntKind.i64 (i : Int), Value.bool false, Value.bool false, undef, undef, undef, undef, undef, undef, undef, Value.tuple #[ovv q0 q1 q2 q3, Value.bool true], Value.int IntKind.i64 (i : Int), Value.pointer (some { block := w2.heap.size, off := i * 4 }), Value.agg #[Value.int IntKind.i64 (C i).fst, Value.int IntKind.i64 (C i).snd.fst, Value.int IntKind.i64 (C i).snd.snd.fst, Value.int IntKind.i64 (C i).snd.snd.snd], Value.tuple #[ovv q0 q1 q2 q3, Value.bool true], ovv q0 q1 q2 q3, Value.bool true, Value.int IntKind.i64 0, Value.bool false, Value.bool false, Value.bool true, Value.bool false, Value.bool false, Value.bool false, szv p0 p1 p2 p3 p4 p5, ovv q0 q1 q2 q3, szv p0 p1 p2 p3 p4 p5, Value.bool false, Value.bool false, Value.tuple #[ovv s0 s1 s2 s3, Value.bool true], Value.agg (cirL C).toArray, Value.tuple #[ovv s0 s1 s2 s3, Value.bool true], ovv s0 s1 s2 s3, Value.bool true, Value.bool true, Value.bool false, cwX m4 (.tuple #[ovv u0 u1 u2 u3, .bool true]) (undef), cwX m0 (ovv s0 s1 s2 s3) (undef), cwX m1 (ovv 7 0 0 1) (undef), cwX m2 (ovv t0 t1 t2 t3) (undef), cwX m3 (.tuple #[ovv u0 u1 u2 u3, .bool true]) (undef), cwX m5 (ovv u0 u1 u2 u3) (undef), cwX m6 (.bool true) (undef), undef, undef, undef, undef, undef, undef, undef, undef, undef, undef, undef, undef, undef, undef, undef, undef, undef, undef, undef, undef, undef, undef, undef, undef, undef, undef, undef, undef, undef, undef, undef, undef, undef, undef, undef, undef, undef, undef], defers := [] } : Act) ∧ (m7 = true → m0 = true) ∧ Hp w [(w.heap.size, 26, plC n X d), (w2.heap.size, 33, cirL C), (w3.heap.size, 36, [.int .i64 r0, .int .i64 r1, .int .i64 r2, .int .i64 r3, .int .i64 r4, .int .i64 r5]), (w5.heap.size, 36, [.int .i64 p0, .int .i64 p1, .int .i64 p2, .int .i64 p3, .int .i64 p4, .int .i64 p5]), (w6.heap.size, 45, [.int .i64 q0, .int .i64 q1, .int .i64 q2, .int .i64 q3]), (w7.heap.size, 45, bif m7 then [.int .i64 u0, .int .i64 u1, .int .i64 u2, .int .i64 u3] else [.int .i64 s0, .int .i64 s1, .int .i64 s2, .int .i64 s3])] W) (by kernel_rfl) (by kernel_rfl) (by kernel_rfl) (by kernel_rfl) ?_ ?_ ?_ ?_
    · rintro l a W ⟨m0, m1, m2, m3, m4, m5, m6, m7, m8, rfl, _⟩
      rfl
    · exact ⟨false, false, false, false, false, false, false, false, false, rfl, rfl, fun h => absurd h (by simp), HM9.out.drew⟩
    · rintro l a W i o ⟨m0, m1, m2, m3, m4, m5, m6, m7, m8, rfl, rfl, hi0, hm⟩ ho hun hall K hK
      have hi : i < 9 := (Array.getElem?_eq_some_iff.1 ho).1
      have HM := Lib.hid hm
      have HI := Lib.hid hi0
      clear hm hi0
      rcases (show i = 0 ∨ i = 1 ∨ i = 2 ∨ i = 3 ∨ i = 4 ∨ i = 5 ∨ i = 6 ∨ i = 7 ∨ i = 8 by omega) with rfl | rfl | rfl | rfl | rfl | rfl | rfl | rfl | rfl
      · obtain rfl := Option.some.inj (show some _ = some o from ho)
        obtain rfl : m0 = false := by simpa using hun
        clear hall hun hi ho
        obtain rfl : m7 = false := by
          cases m7
          · rfl
          · exact absurd (HI.out rfl) (by simp)
        have v0 : W.cell? ⟨w7.heap.size, 0, none⟩ = some (.int .i64 s0) := (HM.out.at_ 5 rfl).cell 0
        have v1 : W.cell? ⟨w7.heap.size, 1, none⟩ = some (.int .i64 s1) := (HM.out.at_ 5 rfl).cell 1
        have v2 : W.cell? ⟨w7.heap.size, 2, none⟩ = some (.int .i64 s2) := (HM.out.at_ 5 rfl).cell 2
        have v3 : W.cell? ⟨w7.heap.size, 3, none⟩ = some (.int .i64 s3) := (HM.out.at_ 5 rfl).cell 3
        go_simp
        exact hK.out _ _ ⟨true, m1, m2, m3, m4, m5, m6, false, m8, rfl, rfl, by have h0 := HI.out; exact fun e => by first | rfl | exact h0 e, HM.out⟩
      · obtain rfl := Option.some.inj (show some _ = some o from ho)
        obtain rfl : m1 = false := by simpa using hun
        clear hall hun hi ho
        go_simp
        refine (HOC.out _).mono ?_
        rintro e W' ⟨rfl, hb⟩
        exact hK.out _ _ ⟨m0, true, m2, m3, m4, m5, m6, m7, m8, rfl, rfl, by have h0 := HI.out; exact fun e => by first | rfl | exact h0 e, HM.out.step hb⟩
      · obtain rfl := Option.some.inj (show some _ = some o from ho)
        obtain rfl : m0 = true := getBX hall 0 rfl
        obtain rfl : m1 = true := getBX hall 1 rfl
        obtain rfl : m2 = false := by simpa using hun
        clear hall hun hi ho
        go_simp
        refine (HAD.out _).mono ?_
        rintro e W' ⟨rfl, hb⟩
        exact hK.out _ _ ⟨true, true, true, m3, m4, m5, m6, m7, m8, rfl, rfl, by have h0 := HI.out; exact fun e => by first | rfl | exact h0 e, HM.out.step hb⟩
      · obtain rfl := Option.some.inj (show some _ = some o from ho)
        obtain rfl : m2 = true := getBX hall 2 rfl
        obtain rfl : m3 = false := by simpa using hun
        clear hall hun hi ho
        go_simp
        refine (HOV.out _).mono ?_
        rintro e W' ⟨rfl, hb⟩
        exact hK.out _ _ ⟨m0, m1, true, true, m4, m5, m6, m7, m8, rfl, rfl, by have h0 := HI.out; exact fun e => by first | rfl | exact h0 e, HM.out.step hb⟩
      · obtain rfl := Option.some.inj (show some _ = some o from ho)
        obtain rfl : m3 = true := getBX hall 3 rfl
        obtain rfl : m4 = false := by simpa using hun
        clear hall hun hi ho
        go_simp
        exact hK.out _ _ ⟨m0, m1, m2, true, true, m5, m6, m7, m8, rfl, rfl, by have h0 := HI.out; exact fun e => by first | rfl | exact h0 e, HM.out⟩
      · obtain rfl := Option.some.inj (show some _ = some o from ho)
        obtain rfl : m4 = true := getBX hall 4 rfl
        obtain rfl : m5 = false := by simpa using hun
        clear hall hun hi ho
        go_simp
        exact hK.out _ _ ⟨m0, m1, m2, m3, true, true, m6, m7, m8, rfl, rfl, by have h0 := HI.out; exact fun e => by first | rfl | exact h0 e, HM.out⟩
      · obtain rfl := Option.some.inj (show some _ = some o from ho)
        obtain rfl : m4 = true := getBX hall 4 rfl
        obtain rfl : m6 = false := by simpa using hun
        clear hall hun hi ho
        go_simp
        exact hK.out _ _ ⟨m0, m1, m2, m3, true, m5, true, m7, m8, rfl, rfl, by have h0 := HI.out; exact fun e => by first | rfl | exact h0 e, HM.out⟩
      · obtain rfl := Option.some.inj (show some _ = some o from ho)
        obtain rfl : m0 = true := getBX hall 0 rfl
        obtain rfl : m5 = true := getBX hall 5 rfl
        obtain rfl : m7 = false := by simpa using hun
        clear hall hun hi ho
        have z0 : W.cell? ⟨w7.heap.size, 0, none⟩ = some (.int .i64 s0) := (HM.out.at_ 5 rfl).cell 0
        have f0 := (HM.out.at_ 5 rfl).frozen 0
        have z1 : W.cell? ⟨w7.heap.size, 1, none⟩ = some (.int .i64 s1) := (HM.out.at_ 5 rfl).cell 1
        have f1 := (HM.out.at_ 5 rfl).frozen 1
        have z2 : W.cell? ⟨w7.heap.size, 2, none⟩ = some (.int .i64 s2) := (HM.out.at_ 5 rfl).cell 2
        have f2 := (HM.out.at_ 5 rfl).frozen 2
        have z3 : W.cell? ⟨w7.heap.size, 3, none⟩ = some (.int .i64 s3) := (HM.out.at_ 5 rfl).cell 3
        have f3 := (HM.out.at_ 5 rfl).frozen 3
        have HN := Lib.hid (HM.out.put4 5 rfl (.int .i64 u0) (.int .i64 u1) (.int .i64 u2) (.int .i64 u3))
        go_simp
        exact hK.out _ _ ⟨true, m1, m2, m3, m4, true, m6, true, m8, rfl, rfl, by have h0 := HI.out; exact fun e => by first | rfl | exact h0 e, HN.out⟩
      · obtain rfl := Option.some.inj (show some _ = some o from ho)
        obtain rfl : m6 = true := getBX hall 6 rfl
        obtain rfl : m8 = false := by simpa using hun
        clear hall hun hi ho
        go_simp
        exact hK.out _ _ ⟨m0, m1, m2, m3, m4, m5, true, m7, true, rfl, rfl, by have h0 := HI.out; exact fun e => by first | rfl | exact h0 e, HM.out⟩
    · rintro l a W ⟨m0, m1, m2, m3, m4, m5, m6, m7, m8, rfl, rfl, _, hm⟩ hall
      obtain rfl : m0 = true := hall 0 (by decide)
      obtain rfl : m1 = true := hall 1 (by decide)
      obtain rfl : m2 = true := hall 2 (by decide)
      obtain rfl : m3 = true := hall 3 (by decide)
      obtain rfl : m4 = true := hall 4 (by decide)
      obtain rfl : m5 = true := hall 5 (by decide)
      obtain rfl : m6 = true := hall 6 (by decide)
      obtain rfl : m7 = true := hall 7 (by decide)
      obtain rfl : m8 = true := hall 8 (by decide)
      clear hall
      have HMa : Hid (Hp w [(w.heap.size, 26, plC n X d), (w2.heap.size, 33, cirL C), (w3.heap.size, 36, [.int .i64 r0, .int .i64 r1, .int .i64 r2, .int .i64 r3, .int .i64 r4, .int .i64 r5]), (w5.heap.size, 36, [.int .i64 p0, .int .i64 p1, .int .i64 p2, .int .i64 p3, .int .i64 p4, .int .i64 p5]), (w6.heap.size, 45, [.int .i64 q0, .int .i64 q1, .int .i64 q2, .int .i64 q3]), (w7.heap.size, 45, [.int .i64 u0, .int .i64 u1, .int .i64 u2, .int .i64 u3])] _) := Lib.hid hm
      clear hm
      dsimp only [cwX, cond_true]
      go_upto_region 19 with fail
      refine wp_regionJ 21 #[false, false, false, false, false, false, false, false, false, false, false, false, false, false, false, false, false, false, false, false, false] (fun l a W => ∃ (m0 m1 m2 m3 m4 m5 m6 m7 m8 m9 m10 m11 m12 m13 m14 m15 m16 m17 m18 m19 m20 : Bool), l = #[m0, m1, m2, m3, m4, m5, m6, m7, m8, m9, m10, m11, m12, m13, m14, m15, m16, m17, m18, m19, m20] ∧ a = ({ tmps := #[Value.agg (plC n X d).toArray, Value.int IntKind.i64 (i : Int), Value.pointer (some { block := w.heap.size, off := 0 }), undef, cwX m20 (.bool true) (Value.bool false), Value.pointer (some { block := w2.heap.size, off := 0 }), Value.pointer (some { block := w3.heap.size, off := 0 }), Value.int IntKind.i64 0, Value.bool b, Value.int IntKind.i64 0, Value.pointer (some { block := w5.heap.size, off := 0 }), Value.int IntKind.i64 0, Value.pointer (some { block := w6.heap.size, off := 0 }), Value.bool true, Value.pointer (some { block := w7.heap.size, off := 0 }), Value.bool true, Value.bool true, Value.bool false, Value.agg (plC n X d).toArray, Value.agg (cirL C).toArray, Value.tuple #[szv r0 r1 r2 r3 r4 r5, Value.int IntKind.i64 0], Value.agg (cirL C).toArray, Value.tuple #[szv r0 r1 r2 r3 r4 r5, Value.int IntKind.i64 0], szv r0 r1 r2 r3 r4 r5, Value.int IntKind.i64 0, Value.tuple #[Value.bool b, Value.int IntKind.i64 0], Value.agg (cirL C).toArray, Value.tuple #[Value.bool b, Value.int IntKind.i64 0], Value.bool b, Value.int IntKind.i64 0, Value.tuple #[szv p0 p1 p2 p3 p4 p5, Value.int IntKind.i64 0], Value.agg (cirL C).toArray, Value.int IntKind.i64 (i : Int), Value.tuple #[szv p0 p1 p2 p3 p4 p5, Value.int IntKind.i64 0], szv p0 p1 p2 p3 p4 p5, Value.int IntKind.i64 0, Value.int IntKind.i64 (i : Int), Value.bool false, Value.bool false, Value.int IntKind.i64 (i : Int), Value.bool false, Value.bool false, undef, undef, undef, undef, undef, undef, undef, Value.tuple #[ovv q0 q1 q2 q3, Value.bool true], Value.int IntKind.i64 (i : Int), Value.pointer (some { block := w2.heap.size, off := i * 4 }), Value.agg #[Value.int IntKind.i64 (C i).fst, Value.int IntKind.i64 (C i).snd.fst, Value.int IntKind.i64 (C i).snd.snd.fst, Value.int IntKind.i64 (C i).snd.snd.snd], Value.tuple #[ovv q0 q1 q2 q3, Value.bool true], ovv q0 q1 q2 q3, Value.bool true, Value.int IntKind.i64 0, Value.bool false, Value.bool false, Value.bool true, Value.bool false, Value.bool false, Value.bool false, szv p0 p1 p2 p3 p4 p5, ovv q0 q1 q2 q3, szv p0 p1 p2 p3 p4 p5, Value.bool false, Value.bool false, Value.tuple #[ovv s0 s1 s2 s3, Value.bool true], Value.agg (cirL C).toArray, Value.tuple #[ovv s0 s1 s2 s3, Value.bool true], ovv s0 s1 s2 s3, Value.bool true, Value.bool true, Value.bool false, Value.tuple #[ovv u0 u1 u2 u3, Value.bool true], ovv s0 s1 s2 s3, ovv 7 0 0 1, ovv t0 t1 t2 t3, Value.tuple #[ovv u0 u1 u2 u3, Value.bool true], ovv u0 u1 u2 u3, Value.bool true, Value.bool true, Value.bool false, undef, undef, undef, undef, undef, undef, undef, undef, undef, undef, undef, undef, undef, undef, undef, undef, cwX m0 (.int .i64 0) (undef), cwX m1 (.bool true) (undef), cwX m2 (.bool true) (undef), cwX m3 (.int .i64 0) (undef), cwX m4 (.bool true) (undef), cwX m5 (.bool true) (undef), cwX m6 (.bool true) (undef), cwX m7 (szv r0 r1 r2 r3 r4 r5) (undef), cwX m8 (ovv u0 u1 u2 u3) (undef), cwX m9 (szv r0 r1 r2 r3 r4 r5) (undef), cwX m10 (.bool true) (undef), cwX m11 (.bool true) (undef), cwX m12 (.bool true) (undef), cwX m13 (.bool b) (undef), cwX m14 (szv r0 r1 r2 r3 r4 r5) (undef), cwX m15 (ovv 0 0 0 1) (undef), cwX m16 (szv 0 1 0 1 0 1) (undef), cwX m17 (.bool b) (undef), cwX m18 (.bool true) (undef), cwX m19 (.bool true) (undef)], defers := [] } : Act) ∧ (True) ∧ Hp w [(w.heap.size, 26, plC n X d), (w2.heap.size, 33, cirL C), (w3.heap.size, 36, [.int .i64 r0, .int .i64 r1, .int .i64 r2, .int .i64 r3, .int .i64 r4, .int .i64 r5]), (w5.heap.size, 36, [.int .i64 p0, .int .i64 p1, .int .i64 p2, .int .i64 p3, .int .i64 p4, .int .i64 p5]), (w6.heap.size, 45, [.int .i64 q0, .int .i64 q1, .int .i64 q2, .int .i64 q3]), (w7.heap.size, 45, [.int .i64 u0, .int .i64 u1, .int .i64 u2, .int .i64 u3])] W) (by kernel_rfl) (by kernel_rfl) (by kernel_rfl) (by kernel_rfl) ?_ ?_ ?_ ?_
      · rintro l a W ⟨m0, m1, m2, m3, m4, m5, m6, m7, m8, m9, m10, m11, m12, m13, m14, m15, m16, m17, m18, m19, m20, rfl, _⟩
        rfl
      · exact ⟨false, false, false, false, false, false, false, false, false, false, false, false, false, false, false, false, false, false, false, false, false, rfl, rfl, trivial, HMa.out.drew⟩
      · rintro l a W i o ⟨m0, m1, m2, m3, m4, m5, m6, m7, m8, m9, m10, m11, m12, m13, m14, m15, m16, m17, m18, m19, m20, rfl, rfl, hi0, hm⟩ ho hun hall K hK
        have hi : i < 21 := (Array.getElem?_eq_some_iff.1 ho).1
        have HM := Lib.hid hm
        have HI := Lib.hid hi0
        clear hm hi0
        rcases (show i = 0 ∨ i = 1 ∨ i = 2 ∨ i = 3 ∨ i = 4 ∨ i = 5 ∨ i = 6 ∨ i = 7 ∨ i = 8 ∨ i = 9 ∨ i = 10 ∨ i = 11 ∨ i = 12 ∨ i = 13 ∨ i = 14 ∨ i = 15 ∨ i = 16 ∨ i = 17 ∨ i = 18 ∨ i = 19 ∨ i = 20 by omega) with rfl | rfl | rfl | rfl | rfl | rfl | rfl | rfl | rfl | rfl | rfl | rfl | rfl | rfl | rfl | rfl | rfl | rfl | rfl | rfl | rfl
        · obtain rfl := Option.some.inj (show some _ = some o from ho)
          obtain rfl : m0 = false := by simpa using hun
          clear hall hun hi ho
          go_simp
          exact hK.out _ _ ⟨true, m1, m2, m3, m4, m5, m6, m7, m8, m9, m10, m11, m12, m13, m14, m15, m16, m17, m18, m19, m20, rfl, rfl, trivial, HM.out⟩
        · obtain rfl := Option.some.inj (show some _ = some o from ho)
          obtain rfl : m0 = true := getBX hall 0 rfl
          obtain rfl : m1 = false := by simpa using hun
          clear hall hun hi ho
          go_simp
          exact hK.out _ _ ⟨true, true, m2, m3, m4, m5, m6, m7, m8, m9, m10, m11, m12, m13, m14, m15, m16, m17, m18, m19, m20, rfl, rfl, trivial, HM.out⟩
        · obtain rfl := Option.some.inj (show some _ = some o from ho)
          obtain rfl : m1 = true := getBX hall 1 rfl
          obtain rfl : m2 = false := by simpa using hun
          clear hall hun hi ho
          go_simp
          exact hK.out _ _ ⟨m0, true, true, m3, m4, m5, m6, m7, m8, m9, m10, m11, m12, m13, m14, m15, m16, m17, m18, m19, m20, rfl, rfl, trivial, HM.out⟩
        · obtain rfl := Option.some.inj (show some _ = some o from ho)
          obtain rfl : m2 = true := getBX hall 2 rfl
          obtain rfl : m3 = false := by simpa using hun
          clear hall hun hi ho
          go_simp
          exact hK.out _ _ ⟨m0, m1, true, true, m4, m5, m6, m7, m8, m9, m10, m11, m12, m13, m14, m15, m16, m17, m18, m19, m20, rfl, rfl, trivial, HM.out⟩
        · obtain rfl := Option.some.inj (show some _ = some o from ho)
          obtain rfl : m2 = true := getBX hall 2 rfl
          obtain rfl : m3 = true := getBX hall 3 rfl
          obtain rfl : m4 = false := by simpa using hun
          clear hall hun hi ho
          go_simp
          exact hK.out _ _ ⟨m0, m1, true, true, true, m5, m6, m7, m8, m9, m10, m11, m12, m13, m14, m15, m16, m17, m18, m19, m20, rfl, rfl, trivial, HM.out⟩
        · obtain rfl := Option.some.inj (show some _ = some o from ho)
          obtain rfl : m2 = true := getBX hall 2 rfl
          obtain rfl : m4 = true := getBX hall 4 rfl
          obtain rfl : m5 = false := by simpa using hun
          clear hall hun hi ho
          go_simp
          exact hK.out _ _ ⟨m0, m1, true, m3, true, true, m6, m7, m8, m9, m10, m11, m12, m13, m14, m15, m16, m17, m18, m19, m20, rfl, rfl, trivial, HM.out⟩
        · obtain rfl := Option.some.inj (show some _ = some o from ho)
          obtain rfl : m5 = true := getBX hall 5 rfl
          obtain rfl : m6 = false := by simpa using hun
          clear hall hun hi ho
          go_simp
          exact hK.out _ _ ⟨m0, m1, m2, m3, m4, true, true, m7, m8, m9, m10, m11, m12, m13, m14, m15, m16, m17, m18, m19, m20, rfl, rfl, trivial, HM.out⟩
        · obtain rfl := Option.some.inj (show some _ = some o from ho)
          obtain rfl : m6 = true := getBX hall 6 rfl
          obtain rfl : m7 = false := by simpa using hun
          clear hall hun hi ho
          obtain ⟨y0, y1, y2, y3, y4, y5⟩ := six_of (HM.out.at_ 2 rfl)
          go_simp
          exact hK.out _ _ ⟨m0, m1, m2, m3, m4, m5, true, true, m8, m9, m10, m11, m12, m13, m14, m15, m16, m17, m18, m19, m20, rfl, rfl, trivial, HM.out⟩
        · obtain rfl := Option.some.inj (show some _ = some o from ho)
          obtain rfl : m6 = true := getBX hall 6 rfl
          obtain rfl : m8 = false := by simpa using hun
          clear hall hun hi ho
          have v0 : W.cell? ⟨w7.heap.size, 0, none⟩ = some (.int .i64 u0) := (HM.out.at_ 5 rfl).cell 0
          have v1 : W.cell? ⟨w7.heap.size, 1, none⟩ = some (.int .i64 u1) := (HM.out.at_ 5 rfl).cell 1
          have v2 : W.cell? ⟨w7.heap.size, 2, none⟩ = some (.int .i64 u2) := (HM.out.at_ 5 rfl).cell 2
          have v3 : W.cell? ⟨w7.heap.size, 3, none⟩ = some (.int .i64 u3) := (HM.out.at_ 5 rfl).cell 3
          go_simp
          exact hK.out _ _ ⟨m0, m1, m2, m3, m4, m5, true, m7, true, m9, m10, m11, m12, m13, m14, m15, m16, m17, m18, m19, m20, rfl, rfl, trivial, HM.out⟩
        · obtain rfl := Option.some.inj (show some _ = some o from ho)
          obtain rfl : m6 = true := getBX hall 6 rfl
          obtain rfl : m8 = true := getBX hall 8 rfl
          obtain rfl : m9 = false := by simpa using hun
          clear hall hun hi ho
          go_simp
          refine (HSR.out _).mono ?_
          rintro e W' ⟨rfl, hb⟩
          exact hK.out _ _ ⟨m0, m1, m2, m3, m4, m5, true, m7, true, true, m10, m11, m12, m13, m14, m15, m16, m17, m18, m19, m20, rfl, rfl, trivial, HM.out.step hb⟩
        · obtain rfl := Option.some.inj (show some _ = some o from ho)
          obtain rfl : m6 = true := getBX hall 6 rfl
          obtain rfl : m7 = true := getBX hall 7 rfl
          obtain rfl : m9 = true := getBX hall 9 rfl
          obtain rfl : m10 = false := by simpa using hun
          clear hall hun hi ho
          go_simp
          exact hK.out _ _ ⟨m0, m1, m2, m3, m4, m5, true, true, m8, true, true, m11, m12, m13, m14, m15, m16, m17, m18, m19, m20, rfl, rfl, trivial, HM.out⟩
        · obtain rfl := Option.some.inj (show some _ = some o from ho)
          obtain rfl : m6 = true := getBX hall 6 rfl
          obtain rfl : m10 = true := getBX hall 10 rfl
          obtain rfl : m11 = false := by simpa using hun
          clear hall hun hi ho
          go_simp
          exact hK.out _ _ ⟨m0, m1, m2, m3, m4, m5, true, m7, m8, m9, true, true, m12, m13, m14, m15, m16, m17, m18, m19, m20, rfl, rfl, trivial, HM.out⟩
        · obtain rfl := Option.some.inj (show some _ = some o from ho)
          obtain rfl : m11 = true := getBX hall 11 rfl
          obtain rfl : m12 = false := by simpa using hun
          clear hall hun hi ho
          go_simp
          exact hK.out _ _ ⟨m0, m1, m2, m3, m4, m5, m6, m7, m8, m9, m10, true, true, m13, m14, m15, m16, m17, m18, m19, m20, rfl, rfl, trivial, HM.out⟩
        · obtain rfl := Option.some.inj (show some _ = some o from ho)
          obtain rfl : m12 = true := getBX hall 12 rfl
          obtain rfl : m13 = false := by simpa using hun
          clear hall hun hi ho
          go_simp
          exact hK.out _ _ ⟨m0, m1, m2, m3, m4, m5, m6, m7, m8, m9, m10, m11, true, true, m14, m15, m16, m17, m18, m19, m20, rfl, rfl, trivial, HM.out⟩
        · obtain rfl := Option.some.inj (show some _ = some o from ho)
          obtain rfl : m12 = true := getBX hall 12 rfl
          obtain rfl : m14 = false := by simpa using hun
          clear hall hun hi ho
          obtain ⟨y0, y1, y2, y3, y4, y5⟩ := six_of (HM.out.at_ 2 rfl)
          go_simp
          exact hK.out _ _ ⟨m0, m1, m2, m3, m4, m5, m6, m7, m8, m9, m10, m11, true, m13, true, m15, m16, m17, m18, m19, m20, rfl, rfl, trivial, HM.out⟩
        · obtain rfl := Option.some.inj (show some _ = some o from ho)
          obtain rfl : m12 = true := getBX hall 12 rfl
          obtain rfl : m15 = false := by simpa using hun
          clear hall hun hi ho
          go_simp
          exact hK.out _ _ ⟨m0, m1, m2, m3, m4, m5, m6, m7, m8, m9, m10, m11, true, m13, m14, true, m16, m17, m18, m19, m20, rfl, rfl, trivial, HM.out⟩
        · obtain rfl := Option.some.inj (show some _ = some o from ho)
          obtain rfl : m12 = true := getBX hall 12 rfl
          obtain rfl : m15 = true := getBX hall 15 rfl
          obtain rfl : m16 = false := by simpa using hun
          clear hall hun hi ho
          go_simp
          refine (HSZ.out _).mono ?_
          rintro e W' ⟨rfl, hb⟩
          exact hK.out _ _ ⟨m0, m1, m2, m3, m4, m5, m6, m7, m8, m9, m10, m11, true, m13, m14, true, true, m17, m18, m19, m20, rfl, rfl, trivial, HM.out.step hb⟩
        · obtain rfl := Option.some.inj (show some _ = some o from ho)
          obtain rfl : m12 = true := getBX hall 12 rfl
          obtain rfl : m14 = true := getBX hall 14 rfl
          obtain rfl : m16 = true := getBX hall 16 rfl
          obtain rfl : m17 = false := by simpa using hun
          clear hall hun hi ho
          go_simp
          rw [eqZ_run, ← HBB.out]
          go_simp
          exact hK.out _ _ ⟨m0, m1, m2, m3, m4, m5, m6, m7, m8, m9, m10, m11, true, m13, true, m15, true, true, m18, m19, m20, rfl, rfl, trivial, HM.out⟩
        · obtain rfl := Option.some.inj (show some _ = some o from ho)
          obtain rfl : m12 = true := getBX hall 12 rfl
          obtain rfl : m13 = true := getBX hall 13 rfl
          obtain rfl : m17 = true := getBX hall 17 rfl
          obtain rfl : m18 = false := by simpa using hun
          clear hall hun hi ho
          go_simp
          exact hK.out _ _ ⟨m0, m1, m2, m3, m4, m5, m6, m7, m8, m9, m10, m11, true, true, m14, m15, m16, true, true, m19, m20, rfl, rfl, trivial, HM.out⟩
        · obtain rfl := Option.some.inj (show some _ = some o from ho)
          obtain rfl : m12 = true := getBX hall 12 rfl
          obtain rfl : m18 = true := getBX hall 18 rfl
          obtain rfl : m19 = false := by simpa using hun
          clear hall hun hi ho
          go_simp
          exact hK.out _ _ ⟨m0, m1, m2, m3, m4, m5, m6, m7, m8, m9, m10, m11, true, m13, m14, m15, m16, m17, true, true, m20, rfl, rfl, trivial, HM.out⟩
        · obtain rfl := Option.some.inj (show some _ = some o from ho)
          obtain rfl : m19 = true := getBX hall 19 rfl
          obtain rfl : m20 = false := by simpa using hun
          clear hall hun hi ho
          go_simp
          exact hK.out _ _ ⟨m0, m1, m2, m3, m4, m5, m6, m7, m8, m9, m10, m11, m12, m13, m14, m15, m16, m17, m18, true, true, rfl, rfl, trivial, HM.out⟩
      · rintro l a W ⟨m0, m1, m2, m3, m4, m5, m6, m7, m8, m9, m10, m11, m12, m13, m14, m15, m16, m17, m18, m19, m20, rfl, rfl, _, hm⟩ hall
        obtain rfl : m0 = true := hall 0 (by decide)
        obtain rfl : m1 = true := hall 1 (by decide)
        obtain rfl : m2 = true := hall 2 (by decide)
        obtain rfl : m3 = true := hall 3 (by decide)
        obtain rfl : m4 = true := hall 4 (by decide)
        obtain rfl : m5 = true := hall 5 (by decide)
        obtain rfl : m6 = true := hall 6 (by decide)
        obtain rfl : m7 = true := hall 7 (by decide)
        obtain rfl : m8 = true := hall 8 (by decide)
        obtain rfl : m9 = true := hall 9 (by decide)
        obtain rfl : m10 = true := hall 10 (by decide)
        obtain rfl : m11 = true := hall 11 (by decide)
        obtain rfl : m12 = true := hall 12 (by decide)
        obtain rfl : m13 = true := hall 13 (by decide)
        obtain rfl : m14 = true := hall 14 (by decide)
        obtain rfl : m15 = true := hall 15 (by decide)
        obtain rfl : m16 = true := hall 16 (by decide)
        obtain rfl : m17 = true := hall 17 (by decide)
        obtain rfl : m18 = true := hall 18 (by decide)
        obtain rfl : m19 = true := hall 19 (by decide)
        obtain rfl : m20 = true := hall 20 (by decide)
        clear hall
        have HB := Lib.hid hm.below
        clear hm
        dsimp only [cwX, cond_true]
        go_wp2
        exact bodyPost_ret (v := .bool true) (by simp [results, Tryz.results3, go_sem]) rfl ⟨rfl, HB.out⟩
set_option maxRecDepth 1000000 in
set_option maxHeartbeats 4000000 in
theorem lrests_out (n d : Int) (X : Nat → Int × Int) (C : Nat → Tm) (x : Int) (r0 r1 r2 r3 r4 r5  s0 s1 s2 s3 t0 t1 t2 t3 u0 u1 u2 u3 : Int) (w : World) (ht : Tab w) (hx : x < 0 ∨ 11 < x)
    (hMK : ∀ W, Calls Tryz.prog 11 #[.agg (plC n X d).toArray] W fun e w' => e = .returned (.agg (cirL C).toArray) ∧ Below W.heap.size W w')
    (hRE : ∀ W, Calls Tryz.prog 12 #[.agg (cirL C).toArray] W fun e w' => e = .returned (.tuple #[szv r0 r1 r2 r3 r4 r5, .int .i64 0]) ∧ Below W.heap.size W w')
    (hCL : ∀ W, Calls Tryz.prog 13 #[.agg (cirL C).toArray] W fun e w' => e = .returned (.tuple #[.bool (eqZ r0 r1 r2 r3 r4 r5 0 1 0 1 0 1), .int .i64 0]) ∧ Below W.heap.size W w')
    (hFI : ∀ W, Calls Tryz.prog 14 #[.agg (cirL C).toArray, .int .i64 x] W fun e w' => e = .returned (.tuple #[szv 0 0 0 0 0 0, .int .i64 3]) ∧ Below W.heap.size W w')
    (hSU : ∀ W, Calls Tryz.prog 17 #[.agg (cirL C).toArray, .int .i64 12] W fun e w' => e = .returned (.tuple #[ovv s0 s1 s2 s3, .bool true]) ∧ Below W.heap.size W w')
    (hAD : ∀ W, Calls Tryz.prog 19 #[ovv s0 s1 s2 s3, ovv 7 0 0 1, .int .i64 (-1)] W fun e w' => e = .returned (ovv t0 t1 t2 t3) ∧ Below W.heap.size W w')
    (hOV : ∀ W, Calls Tryz.prog 18 #[ovv t0 t1 t2 t3] W fun e w' => e = .returned (.tuple #[ovv u0 u1 u2 u3, .bool true]) ∧ Below W.heap.size W w')
    (hSR : ∀ W, Calls Tryz.prog 16 #[ovv u0 u1 u2 u3] W fun e w' => e = .returned (szv r0 r1 r2 r3 r4 r5) ∧ Below W.heap.size W w') :
    Calls Tryz.prog 3 #[.agg (plC n X d).toArray, .int .i64 x] w fun e w' => e = .returned (.bool true) ∧ Below w.heap.size w w' := by
  have HKN := Lib.hid (fun W hT => tknown_any W hT)
  have HOC := Lib.hid (fun W => loctaves_any 7 W)
  have HSZ := Lib.hid (fun W => lsize_zero W)
  have HT := Lib.hid ht
  have HMK := Lib.hid hMK
  have HRE := Lib.hid hRE
  have HCL := Lib.hid hCL
  have HFI := Lib.hid hFI
  have HSU := Lib.hid hSU
  have HAD := Lib.hid hAD
  have HOV := Lib.hid hOV
  have HSR := Lib.hid hSR
  have HX := Lib.hid hx
  obtain ⟨b, hb⟩ : ∃ b, b = (eqZ r0 r1 r2 r3 r4 r5 0 1 0 1 0 1) := ⟨_, rfl⟩
  rw [← hb] at HCL
  have HBB := Lib.hid hb
  clear ht hb hMK hRE hCL hFI hSU hAD hOV hSR hx
  have hm0 := (Hp.start w).new 26 (plC n X d)
  simp only [List.nil_append] at hm0
  have HM0 := Lib.hid hm0
  clear hm0
  go_enter Tryz.func3, Tryz.ntmps3
  go_wp2_with fail
  refine (HKN.out _ (HT.out.below HM0.out.below)).mono ?_
  rintro e w1 ⟨rfl, hb1⟩
  have HM1 := Lib.hid (HM0.out.step hb1)
  clear hb1
  go_wp2_with (refine wpList_load_row rfl 26 _ rfl (w.heap.size) rfl 26 (plC n X d).toArray (0, 0) _ (HM1.out.at_ 0 rfl) Tryz.underlying26 rfl (by rw [infoPlan41, List.size_toArray, pl_len]) ?_)
  refine (HMK.out _).mono ?_
  rintro e w2 ⟨rfl, hb2⟩
  have hm2 := (HM1.out.step hb2).new 33 (cirL (fun _ => (0, 0, 0, 0)))
  simp only [List.nil_append, List.cons_append] at hm2
  have HM2 := Lib.hid hm2
  have hm3 := (hm2.row 1 rfl (cirL C)).cast (L' := [(w.heap.size, 26, plC n X d), (w2.heap.size, 33, cirL C)]) rfl
  have HM3 := Lib.hid hm3
  clear hb2 hm2 hm3
  go_wp2_with (first | (refine wpList_store_rowTo rfl 33 _ _ rfl rfl (w2.heap.size) (cirL C).toArray rfl rfl 33 (cirL (fun _ => (0, 0, 0, 0))).toArray (HM2.out.at_ 1 rfl) (by rw [infoCircle, List.size_toArray, cirL_len]) (by rw [List.size_toArray, List.size_toArray, cirL_len, cirL_len]) (cir_one _) ?_) | (refine wpList_load_row rfl 33 _ rfl (w2.heap.size) rfl 33 (cirL C).toArray (0, 0) _ (HM3.out.at_ 1 rfl) Tryz.underlying33 rfl (by rw [infoCircle, List.size_toArray, cirL_len]) ?_))
  refine (HRE.out _).mono ?_
  rintro e w3 ⟨rfl, hb3⟩
  have hm4 := (HM3.out.step hb3).new 36 [.int .i64 r0, .int .i64 r1, .int .i64 r2, .int .i64 r3, .int .i64 r4, .int .i64 r5]
  simp only [List.nil_append, List.cons_append] at hm4
  have HM4 := Lib.hid hm4
  clear hb3 hm4
  go_wp2_with (refine wpList_load_row rfl 33 _ rfl (w2.heap.size) rfl 33 (cirL C).toArray (0, 0) _ (HM4.out.at_ 1 rfl) Tryz.underlying33 rfl (by rw [infoCircle, List.size_toArray, cirL_len]) ?_)
  refine (HCL.out _).mono ?_
  rintro e w4 ⟨rfl, hb4⟩
  have HM5 := Lib.hid (HM4.out.step hb4)
  clear hb4
  go_wp2_with (refine wpList_load_row rfl 33 _ rfl (w2.heap.size) rfl 33 (cirL C).toArray (0, 0) _ (HM5.out.at_ 1 rfl) Tryz.underlying33 rfl (by rw [infoCircle, List.size_toArray, cirL_len]) ?_)
  refine (HFI.out _).mono ?_
  rintro e w5 ⟨rfl, hb5⟩
  have hm6 := (HM5.out.step hb5).new 36 [.int .i64 0, .int .i64 0, .int .i64 0, .int .i64 0, .int .i64 0, .int .i64 0]
  simp only [List.nil_append, List.cons_append] at hm6
  have HM6 := Lib.hid hm6
  have HM7 := Lib.hid hm6
  obtain ⟨y0, y1, y2, y3, y4, y5⟩ := six_of (hm6.at_ 3 rfl)
  clear hb5 hm6
  by_cases h1 : x < 0
  · go_wp2_with (refine wpList_load_row rfl 33 _ rfl (w2.heap.size) rfl 33 (cirL C).toArray (0, 0) _ (HM7.out.at_ 1 rfl) Tryz.underlying33 rfl (by rw [infoCircle, List.size_toArray, cirL_len]) ?_)
    refine (HSU.out _).mono ?_
    rintro e w7 ⟨rfl, hb7⟩
    have hm9 := (HM7.out.step hb7).new 45 [.int .i64 s0, .int .i64 s1, .int .i64 s2, .int .i64 s3]
    simp only [List.nil_append, List.cons_append] at hm9
    have HM9 := Lib.hid hm9
    clear hb7 hm9 y0 y1 y2 y3 y4 y5
    go_upto_region 16 with fail
    refine wp_regionJ 9 #[false, false, false, false, false, false, false, false, false] (fun l a W => ∃ (m0 m1 m2 m3 m4 m5 m6 m7 m8 : Bool), l = #[m0, m1, m2, m3, m4, m5, m6, m7, m8] ∧ a = ({ tmps := #[Value.agg (plC n X d).toArray, Value.int IntKind.i64 x, Value.pointer (some { block := w.heap.size, off := 0 }), undef, Value.bool false, Value.pointer (some { block := w2.heap.size, off := 0 }), Value.pointer (some { block := w3.heap.size, off := 0 }), Value.int IntKind.i64 0, Value.bool b, Value.int IntKind.i64 0, Value.pointer (some { block := w5.heap.size, off := 0 }), Value.int IntKind.i64 3, undef, undef, Value.pointer (some { block := w7.heap.size, off := 0 }), Value.bool true, Value.bool true, Value.bool false, Value.agg (plC n X d).toArray, Value.agg (cirL C).toArray, Value.tuple #[szv r0 r1 r2 r3 r4 r5, Value.int IntKind.i64 0], Value.agg (cirL C).toArray, Value.tuple #[szv r0 r1 r2 r3 r4 r5, Value.int IntKind.i64 0], szv r0 r1 r2 r3 r4 r5, Value.int IntKind.i64 0, Value.tuple #[Value.bool b, Value.int IntKind.i64 0], Value.agg (cirL C).toArray, Value.tuple #[Value.bool b, Value.int IntKind.i64 0], Value.bool b, Value.int IntKind.i64 0, Value.tuple #[szv 0 0 0 0 0 0, Value.int IntKind.i64 3], Value.agg (cirL C).toArray, Value.int IntKind.i64 x, Value.tuple #[szv 0 0 0 0 0 0, Value.int IntKind.i64 3], szv 0 0 0 0 0 0, Value.int IntKind.i64 3, Value.int IntKind.i64 x, Value.bool true, Value.bool true, undef, undef, Value.bool true, Value.int IntKind.i64 3, Value.bool false, Value.bool false, Value.agg #[Value.int IntKind.i64 0, Value.int IntKind.i64 0, Value.int IntKind.i64 0, Value.int IntKind.i64 0, Value.int IntKind.i64 0, Value.int IntKind.i64 0], Value.agg #[Value.int IntKind.i64 0, Value.int IntKind.i64 0, Value.int IntKind.i64 0, Value.int IntKind.i64 0, Value.int IntKind.i64 0, Value.int IntKind.i64 0], Value.bool false, Value.bool false, undef, undef, undef, undef, undef, undef, undef, undef, undef, undef, undef, undef, undef, undef, undef, undef, undef, undef, undef, Value.tuple #[ovv s0 s1 s2 s3, Value.bool true], Value.agg (cirL C).toArray, Value.tuple #[ovv s0 s1 s2 s3, Value.bool true], ovv s0 s1 s2 s3, Value.bool true, Value.bool true, Value.bool false, cwX m4 (.tuple #[ovv u0 u1 u2 u3, .bool true]) (undef), cwX m0 (ovv s0 s1 s2 s3) (undef), cwX m1 (ovv 7 0 0 1) (undef), cwX m2 (ovv t0 t1 t2 t3) (undef), cwX m3 (.tuple #[ovv u0 u1 u2 u3, .bool true]) (undef), cwX m5 (ovv u0 u1 u2 u3) (undef), cwX m6 (.bool true) (undef), undef, undef, undef, undef, undef, undef, undef, undef, undef, undef, undef, undef, undef, undef, undef, undef, undef, undef, undef, undef, undef, undef, undef, undef, undef, undef, undef, undef, undef, undef, undef, undef, undef, undef, undef, undef, undef, undef], defers := [] } : Act) ∧ (m7 = true → m0 = true) ∧ Hp w [(w.heap.size, 26, plC n X d), (w2.heap.size, 33, cirL C), (w3.heap.size, 36, [.int .i64 r0, .int .i64 r1, .int .i64 r2, .int .i64 r3, .int .i64 r4, .int .i64 r5]), (w5.heap.size, 36, [.int .i64 0, .int .i64 0, .int .i64 0, .int .i64 0, .int .i64 0, .int .i64 0]), (w7.heap.size, 45, bif m7 then [.int .i64 u0, .int .i64 u1, .int .i64 u2, .int .i64 u3] else [.int .i64 s0, .int .i64 s1, .int .i64 s2, .int .i64 s3])] W) (by kernel_rfl) (by kernel_rfl) (by kernel_rfl) (by kernel_rfl) ?_ ?_ ?_ ?_
    · rintro l a W ⟨m0, m1, m2, m3, m4, m5, m6, m7, m8, rfl, _⟩
      rfl
    · exact ⟨false, false, false, false, false, false, false, false, false, rfl, rfl, fun h => absurd h (by simp), HM9.out.drew⟩
    · rintro l a W i o ⟨m0, m1, m2, m3, m4, m5, m6, m7, m8, rfl, rfl, hi0, hm⟩ ho hun hall K hK
      have hi : i < 9 := (Array.getElem?_eq_some_iff.1 ho).1
      have HM := Lib.hid hm
      have HI := Lib.hid hi0
      clear hm hi0
      rcases (show i = 0 ∨ i = 1 ∨ i = 2 ∨ i = 3 ∨ i = 4 ∨ i = 5 ∨ i = 6 ∨ i = 7 ∨ i = 8 by omega) with rfl | rfl | rfl | rfl | rfl | rfl | rfl | rfl | rfl
      · obtain rfl := Option.some.inj (show some _ = some o from ho)
        obtain rfl : m0 = false := by simpa using hun
        clear hall hun hi ho
        obtain rfl : m7 = false := by
          cases m7
          · rfl
          · exact absurd (HI.out rfl) (by simp)
        have v0 : W.cell? ⟨w7.heap.size, 0, none⟩ = some (.int .i64 s0) := (HM.out.at_ 4 rfl).cell 0
        have v1 : W.cell? ⟨w7.heap.size, 1, none⟩ = some (.int .i64 s1) := (HM.out.at_ 4 rfl).cell 1
        have v2 : W.cell? ⟨w7.heap.size, 2, none⟩ = some (.int .i64 s2) := (HM.out.at_ 4 rfl).cell 2
        have v3 : W.cell? ⟨w7.heap.size, 3, none⟩ = some (.int .i64 s3) := (HM.out.at_ 4 rfl).cell 3
        go_simp
        exact hK.out _ _ ⟨true, m1, m2, m3, m4, m5, m6, false, m8, rfl, rfl, by have h0 := HI.out; exact fun e => by first | rfl | exact h0 e, HM.out⟩
      · obtain rfl := Option.some.inj (show some _ = some o from ho)
        obtain rfl : m1 = false := by simpa using hun
        clear hall hun hi ho
        go_simp
        refine (HOC.out _).mono ?_
        rintro e W' ⟨rfl, hb⟩
        exact hK.out _ _ ⟨m0, true, m2, m3, m4, m5, m6, m7, m8, rfl, rfl, by have h0 := HI.out; exact fun e => by first | rfl | exact h0 e, HM.out.step hb⟩
      · obtain rfl := Option.some.inj (show some _ = some o from ho)
        obtain rfl : m0 = true := getBX hall 0 rfl
        obtain rfl : m1 = true := getBX hall 1 rfl
        obtain rfl : m2 = false := by simpa using hun
        clear hall hun hi ho
        go_simp
        refine (HAD.out _).mono ?_
        rintro e W' ⟨rfl, hb⟩
        exact hK.out _ _ ⟨true, true, true, m3, m4, m5, m6, m7, m8, rfl, rfl, by have h0 := HI.out; exact fun e => by first | rfl | exact h0 e, HM.out.step hb⟩
      · obtain rfl := Option.some.inj (show some _ = some o from ho)
        obtain rfl : m2 = true := getBX hall 2 rfl
        obtain rfl : m3 = false := by simpa using hun
        clear hall hun hi ho
        go_simp
        refine (HOV.out _).mono ?_
        rintro e W' ⟨rfl, hb⟩
        exact hK.out _ _ ⟨m0, m1, true, true, m4, m5, m6, m7, m8, rfl, rfl, by have h0 := HI.out; exact fun e => by first | rfl | exact h0 e, HM.out.step hb⟩
      · obtain rfl := Option.some.inj (show some _ = some o from ho)
        obtain rfl : m3 = true := getBX hall 3 rfl
        obtain rfl : m4 = false := by simpa using hun
        clear hall hun hi ho
        go_simp
        exact hK.out _ _ ⟨m0, m1, m2, true, true, m5, m6, m7, m8, rfl, rfl, by have h0 := HI.out; exact fun e => by first | rfl | exact h0 e, HM.out⟩
      · obtain rfl := Option.some.inj (show some _ = some o from ho)
        obtain rfl : m4 = true := getBX hall 4 rfl
        obtain rfl : m5 = false := by simpa using hun
        clear hall hun hi ho
        go_simp
        exact hK.out _ _ ⟨m0, m1, m2, m3, true, true, m6, m7, m8, rfl, rfl, by have h0 := HI.out; exact fun e => by first | rfl | exact h0 e, HM.out⟩
      · obtain rfl := Option.some.inj (show some _ = some o from ho)
        obtain rfl : m4 = true := getBX hall 4 rfl
        obtain rfl : m6 = false := by simpa using hun
        clear hall hun hi ho
        go_simp
        exact hK.out _ _ ⟨m0, m1, m2, m3, true, m5, true, m7, m8, rfl, rfl, by have h0 := HI.out; exact fun e => by first | rfl | exact h0 e, HM.out⟩
      · obtain rfl := Option.some.inj (show some _ = some o from ho)
        obtain rfl : m0 = true := getBX hall 0 rfl
        obtain rfl : m5 = true := getBX hall 5 rfl
        obtain rfl : m7 = false := by simpa using hun
        clear hall hun hi ho
        have z0 : W.cell? ⟨w7.heap.size, 0, none⟩ = some (.int .i64 s0) := (HM.out.at_ 4 rfl).cell 0
        have f0 := (HM.out.at_ 4 rfl).frozen 0
        have z1 : W.cell? ⟨w7.heap.size, 1, none⟩ = some (.int .i64 s1) := (HM.out.at_ 4 rfl).cell 1
        have f1 := (HM.out.at_ 4 rfl).frozen 1
        have z2 : W.cell? ⟨w7.heap.size, 2, none⟩ = some (.int .i64 s2) := (HM.out.at_ 4 rfl).cell 2
        have f2 := (HM.out.at_ 4 rfl).frozen 2
        have z3 : W.cell? ⟨w7.heap.size, 3, none⟩ = some (.int .i64 s3) := (HM.out.at_ 4 rfl).cell 3
        have f3 := (HM.out.at_ 4 rfl).frozen 3
        have HN := Lib.hid (HM.out.put4 4 rfl (.int .i64 u0) (.int .i64 u1) (.int .i64 u2) (.int .i64 u3))
        go_simp
        exact hK.out _ _ ⟨true, m1, m2, m3, m4, true, m6, true, m8, rfl, rfl, by have h0 := HI.out; exact fun e => by first | rfl | exact h0 e, HN.out⟩
      · obtain rfl := Option.some.inj (show some _ = some o from ho)
        obtain rfl : m6 = true := getBX hall 6 rfl
        obtain rfl : m8 = false := by simpa using hun
        clear hall hun hi ho
        go_simp
        exact hK.out _ _ ⟨m0, m1, m2, m3, m4, m5, true, m7, true, rfl, rfl, by have h0 := HI.out; exact fun e => by first | rfl | exact h0 e, HM.out⟩
    · rintro l a W ⟨m0, m1, m2, m3, m4, m5, m6, m7, m8, rfl, rfl, _, hm⟩ hall
      obtain rfl : m0 = true := hall 0 (by decide)
      obtain rfl : m1 = true := hall 1 (by decide)
      obtain rfl : m2 = true := hall 2 (by decide)
      obtain rfl : m3 = true := hall 3 (by decide)
      obtain rfl : m4 = true := hall 4 (by decide)
      obtain rfl : m5 = true := hall 5 (by decide)
      obtain rfl : m6 = true := hall 6 (by decide)
      obtain rfl : m7 = true := hall 7 (by decide)
      obtain rfl : m8 = true := hall 8 (by decide)
      clear hall
      have HMa : Hid (Hp w [(w.heap.size, 26, plC n X d), (w2.heap.size, 33, cirL C), (w3.heap.size, 36, [.int .i64 r0, .int .i64 r1, .int .i64 r2, .int .i64 r3, .int .i64 r4, .int .i64 r5]), (w5.heap.size, 36, [.int .i64 0, .int .i64 0, .int .i64 0, .int .i64 0, .int .i64 0, .int .i64 0]), (w7.heap.size, 45, [.int .i64 u0, .int .i64 u1, .int .i64 u2, .int .i64 u3])] _) := Lib.hid hm
      clear hm
      dsimp only [cwX, cond_true]
      go_upto_region 19 with fail
      refine wp_regionJ 21 #[false, false, false, false, false, false, false, false, false, false, false, false, false, false, false, false, false, false, false, false, false] (fun l a W => ∃ (m0 m1 m2 m3 m4 m5 m6 m7 m8 m9 m10 m11 m12 m13 m14 m15 m16 m17 m18 m19 m20 : Bool), l = #[m0, m1, m2, m3, m4, m5, m6, m7, m8, m9, m10, m11, m12, m13, m14, m15, m16, m17, m18, m19, m20] ∧ a = ({ tmps := #[Value.agg (plC n X d).toArray, Value.int IntKind.i64 x, Value.pointer (some { block := w.heap.size, off := 0 }), undef, cwX m20 (.bool true) (Value.bool false), Value.pointer (some { block := w2.heap.size, off := 0 }), Value.pointer (some { block := w3.heap.size, off := 0 }), Value.int IntKind.i64 0, Value.bool b, Value.int IntKind.i64 0, Value.pointer (some { block := w5.heap.size, off := 0 }), Value.int IntKind.i64 3, undef, undef, Value.pointer (some { block := w7.heap.size, off := 0 }), Value.bool true, Value.bool true, Value.bool false, Value.agg (plC n X d).toArray, Value.agg (cirL C).toArray, Value.tuple #[szv r0 r1 r2 r3 r4 r5, Value.int IntKind.i64 0], Value.agg (cirL C).toArray, Value.tuple #[szv r0 r1 r2 r3 r4 r5, Value.int IntKind.i64 0], szv r0 r1 r2 r3 r4 r5, Value.int IntKind.i64 0, Value.tuple #[Value.bool b, Value.int IntKind.i64 0], Value.agg (cirL C).toArray, Value.tuple #[Value.bool b, Value.int IntKind.i64 0], Value.bool b, Value.int IntKind.i64 0, Value.tuple #[szv 0 0 0 0 0 0, Value.int IntKind.i64 3], Value.agg (cirL C).toArray, Value.int IntKind.i64 x, Value.tuple #[szv 0 0 0 0 0 0, Value.int IntKind.i64 3], szv 0 0 0 0 0 0, Value.int IntKind.i64 3, Value.int IntKind.i64 x, Value.bool true, Value.bool true, undef, undef, Value.bool true, Value.int IntKind.i64 3, Value.bool false, Value.bool false, Value.agg #[Value.int IntKind.i64 0, Value.int IntKind.i64 0, Value.int IntKind.i64 0, Value.int IntKind.i64 0, Value.int IntKind.i64 0, Value.int IntKind.i64 0], Value.agg #[Value.int IntKind.i64 0, Value.int IntKind.i64 0, Value.int IntKind.i64 0, Value.int IntKind.i64 0, Value.int IntKind.i64 0, Value.int IntKind.i64 0], Value.bool false, Value.bool false, undef, undef, undef, undef, undef, undef, undef, undef, undef, undef, undef, undef, undef, undef, undef, undef, undef, undef, undef, Value.tuple #[ovv s0 s1 s2 s3, Value.bool true], Value.agg (cirL C).toArray, Value.tuple #[ovv s0 s1 s2 s3, Value.bool true], ovv s0 s1 s2 s3, Value.bool true, Value.bool true, Value.bool false, Value.tuple #[ovv u0 u1 u2 u3, Value.bool true], ovv s0 s1 s2 s3, ovv 7 0 0 1, ovv t0 t1 t2 t3, Value.tuple #[ovv u0 u1 u2 u3, Value.bool true], ovv u0 u1 u2 u3, Value.bool true, Value.bool true, Value.bool false, undef, undef, undef, undef, undef, undef, undef, undef, undef, undef, undef, undef, undef, undef, undef, undef, cwX m0 (.int .i64 0) (undef), cwX m1 (.bool true) (undef), cwX m2 (.bool true) (undef), cwX m3 (.int .i64 0) (undef), cwX m4 (.bool true) (undef), cwX m5 (.bool true) (undef), cwX m6 (.bool true) (undef), cwX m7 (szv r0 r1 r2 r3 r4 r5) (undef), cwX m8 (ovv u0 u1 u2 u3) (undef), cwX m9 (szv r0 r1 r2 r3 r4 r5) (undef), cwX m10 (.bool true) (undef), cwX m11 (.bool true) (undef), cwX m12 (.bool true) (undef), cwX m13 (.bool b) (undef), cwX m14 (szv r0 r1 r2 r3 r4 r5) (undef), cwX m15 (ovv 0 0 0 1) (undef), cwX m16 (szv 0 1 0 1 0 1) (undef), cwX m17 (.bool b) (undef), cwX m18 (.bool true) (undef), cwX m19 (.bool true) (undef)], defers := [] } : Act) ∧ (True) ∧ Hp w [(w.heap.size, 26, plC n X d), (w2.heap.size, 33, cirL C), (w3.heap.size, 36, [.int .i64 r0, .int .i64 r1, .int .i64 r2, .int .i64 r3, .int .i64 r4, .int .i64 r5]), (w5.heap.size, 36, [.int .i64 0, .int .i64 0, .int .i64 0, .int .i64 0, .int .i64 0, .int .i64 0]), (w7.heap.size, 45, [.int .i64 u0, .int .i64 u1, .int .i64 u2, .int .i64 u3])] W) (by kernel_rfl) (by kernel_rfl) (by kernel_rfl) (by kernel_rfl) ?_ ?_ ?_ ?_
      · rintro l a W ⟨m0, m1, m2, m3, m4, m5, m6, m7, m8, m9, m10, m11, m12, m13, m14, m15, m16, m17, m18, m19, m20, rfl, _⟩
        rfl
      · exact ⟨false, false, false, false, false, false, false, false, false, false, false, false, false, false, false, false, false, false, false, false, false, rfl, rfl, trivial, HMa.out.drew⟩
      · rintro l a W i o ⟨m0, m1, m2, m3, m4, m5, m6, m7, m8, m9, m10, m11, m12, m13, m14, m15, m16, m17, m18, m19, m20, rfl, rfl, hi0, hm⟩ ho hun hall K hK
        have hi : i < 21 := (Array.getElem?_eq_some_iff.1 ho).1
        have HM := Lib.hid hm
        have HI := Lib.hid hi0
        clear hm hi0
        rcases (show i = 0 ∨ i = 1 ∨ i = 2 ∨ i = 3 ∨ i = 4 ∨ i = 5 ∨ i = 6 ∨ i = 7 ∨ i = 8 ∨ i = 9 ∨ i = 10 ∨ i = 11 ∨ i = 12 ∨ i = 13 ∨ i = 14 ∨ i = 15 ∨ i = 16 ∨ i = 17 ∨ i = 18 ∨ i = 19 ∨ i = 20 by omega) with rfl | rfl | rfl | rfl | rfl | rfl | rfl | rfl | rfl | rfl | rfl | rfl | rfl | rfl | rfl | rfl | rfl | rfl | rfl | rfl | rfl
        · obtain rfl := Option.some.inj (show some _ = some o from ho)
          obtain rfl : m0 = false := by simpa using hun
          clear hall hun hi ho
          go_simp
          exact hK.out _ _ ⟨true, m1, m2, m3, m4, m5, m6, m7, m8, m9, m10, m11, m12, m13, m14, m15, m16, m17, m18, m19, m20, rfl, rfl, trivial, HM.out⟩
        · obtain rfl := Option.some.inj (show some _ = some o from ho)
          obtain rfl : m0 = true := getBX hall 0 rfl
          obtain rfl : m1 = false := by simpa using hun
          clear hall hun hi ho
          go_simp
          exact hK.out _ _ ⟨true, true, m2, m3, m4, m5, m6, m7, m8, m9, m10, m11, m12, m13, m14, m15, m16, m17, m18, m19, m20, rfl, rfl, trivial, HM.out⟩
        · obtain rfl := Option.some.inj (show some _ = some o from ho)
          obtain rfl : m1 = true := getBX hall 1 rfl
          obtain rfl : m2 = false := by simpa using hun
          clear hall hun hi ho
          go_simp
          exact hK.out _ _ ⟨m0, true, true, m3, m4, m5, m6, m7, m8, m9, m10, m11, m12, m13, m14, m15, m16, m17, m18, m19, m20, rfl, rfl, trivial, HM.out⟩
        · obtain rfl := Option.some.inj (show some _ = some o from ho)
          obtain rfl : m2 = true := getBX hall 2 rfl
          obtain rfl : m3 = false := by simpa using hun
          clear hall hun hi ho
          go_simp
          exact hK.out _ _ ⟨m0, m1, true, true, m4, m5, m6, m7, m8, m9, m10, m11, m12, m13, m14, m15, m16, m17, m18, m19, m20, rfl, rfl, trivial, HM.out⟩
        · obtain rfl := Option.some.inj (show some _ = some o from ho)
          obtain rfl : m2 = true := getBX hall 2 rfl
          obtain rfl : m3 = true := getBX hall 3 rfl
          obtain rfl : m4 = false := by simpa using hun
          clear hall hun hi ho
          go_simp
          exact hK.out _ _ ⟨m0, m1, true, true, true, m5, m6, m7, m8, m9, m10, m11, m12, m13, m14, m15, m16, m17, m18, m19, m20, rfl, rfl, trivial, HM.out⟩
        · obtain rfl := Option.some.inj (show some _ = some o from ho)
          obtain rfl : m2 = true := getBX hall 2 rfl
          obtain rfl : m4 = true := getBX hall 4 rfl
          obtain rfl : m5 = false := by simpa using hun
          clear hall hun hi ho
          go_simp
          exact hK.out _ _ ⟨m0, m1, true, m3, true, true, m6, m7, m8, m9, m10, m11, m12, m13, m14, m15, m16, m17, m18, m19, m20, rfl, rfl, trivial, HM.out⟩
        · obtain rfl := Option.some.inj (show some _ = some o from ho)
          obtain rfl : m5 = true := getBX hall 5 rfl
          obtain rfl : m6 = false := by simpa using hun
          clear hall hun hi ho
          go_simp
          exact hK.out _ _ ⟨m0, m1, m2, m3, m4, true, true, m7, m8, m9, m10, m11, m12, m13, m14, m15, m16, m17, m18, m19, m20, rfl, rfl, trivial, HM.out⟩
        · obtain rfl := Option.some.inj (show some _ = some o from ho)
          obtain rfl : m6 = true := getBX hall 6 rfl
          obtain rfl : m7 = false := by simpa using hun
          clear hall hun hi ho
          obtain ⟨y0, y1, y2, y3, y4, y5⟩ := six_of (HM.out.at_ 2 rfl)
          go_simp
          exact hK.out _ _ ⟨m0, m1, m2, m3, m4, m5, true, true, m8, m9, m10, m11, m12, m13, m14, m15, m16, m17, m18, m19, m20, rfl, rfl, trivial, HM.out⟩
        · obtain rfl := Option.some.inj (show some _ = some o from ho)
          obtain rfl : m6 = true := getBX hall 6 rfl
          obtain rfl : m8 = false := by simpa using hun
          clear hall hun hi ho
          have v0 : W.cell? ⟨w7.heap.size, 0, none⟩ = some (.int .i64 u0) := (HM.out.at_ 4 rfl).cell 0
          have v1 : W.cell? ⟨w7.heap.size, 1, none⟩ = some (.int .i64 u1) := (HM.out.at_ 4 rfl).cell 1
          have v2 : W.cell? ⟨w7.heap.size, 2, none⟩ = some (.int .i64 u2) := (HM.out.at_ 4 rfl).cell 2
          have v3 : W.cell? ⟨w7.heap.size, 3, none⟩ = some (.int .i64 u3) := (HM.out.at_ 4 rfl).cell 3
          go_simp
          exact hK.out _ _ ⟨m0, m1, m2, m3, m4, m5, true, m7, true, m9, m10, m11, m12, m13, m14, m15, m16, m17, m18, m19, m20, rfl, rfl, trivial, HM.out⟩
        · obtain rfl := Option.some.inj (show some _ = some o from ho)
          obtain rfl : m6 = true := getBX hall 6 rfl
          obtain rfl : m8 = true := getBX hall 8 rfl
          obtain rfl : m9 = false := by simpa using hun
          clear hall hun hi ho
          go_simp
          refine (HSR.out _).mono ?_
          rintro e W' ⟨rfl, hb⟩
          exact hK.out _ _ ⟨m0, m1, m2, m3, m4, m5, true, m7, true, true, m10, m11, m12, m13, m14, m15, m16, m17, m18, m19, m20, rfl, rfl, trivial, HM.out.step hb⟩
        · obtain rfl := Option.some.inj (show some _ = some o from ho)
          obtain rfl : m6 = true := getBX hall 6 rfl
          obtain rfl : m7 = true := getBX hall 7 rfl
          obtain rfl : m9 = true := getBX hall 9 rfl
          obtain rfl : m10 = false := by simpa using hun
          clear hall hun hi ho
          go_simp
          exact hK.out _ _ ⟨m0, m1, m2, m3, m4, m5, true, true, m8, true, true, m11, m12, m13, m14, m15, m16, m17, m18, m19, m20, rfl, rfl, trivial, HM.out⟩
        · obtain rfl := Option.some.inj (show some _ = some o from ho)
          obtain rfl : m6 = true := getBX hall 6 rfl
          obtain rfl : m10 = true := getBX hall 10 rfl
          obtain rfl : m11 = false := by simpa using hun
          clear hall hun hi ho
          go_simp
          exact hK.out _ _ ⟨m0, m1, m2, m3, m4, m5, true, m7, m8, m9, true, true, m12, m13, m14, m15, m16, m17, m18, m19, m20, rfl, rfl, trivial, HM.out⟩
        · obtain rfl := Option.some.inj (show some _ = some o from ho)
          obtain rfl : m11 = true := getBX hall 11 rfl
          obtain rfl : m12 = false := by simpa using hun
          clear hall hun hi ho
          go_simp
          exact hK.out _ _ ⟨m0, m1, m2, m3, m4, m5, m6, m7, m8, m9, m10, true, true, m13, m14, m15, m16, m17, m18, m19, m20, rfl, rfl, trivial, HM.out⟩
        · obtain rfl := Option.some.inj (show some _ = some o from ho)
          obtain rfl : m12 = true := getBX hall 12 rfl
          obtain rfl : m13 = false := by simpa using hun
          clear hall hun hi ho
          go_simp
          exact hK.out _ _ ⟨m0, m1, m2, m3, m4, m5, m6, m7, m8, m9, m10, m11, true, true, m14, m15, m16, m17, m18, m19, m20, rfl, rfl, trivial, HM.out⟩
        · obtain rfl := Option.some.inj (show some _ = some o from ho)
          obtain rfl : m12 = true := getBX hall 12 rfl
          obtain rfl : m14 = false := by simpa using hun
          clear hall hun hi ho
          obtain ⟨y0, y1, y2, y3, y4, y5⟩ := six_of (HM.out.at_ 2 rfl)
          go_simp
          exact hK.out _ _ ⟨m0, m1, m2, m3, m4, m5, m6, m7, m8, m9, m10, m11, true, m13, true, m15, m16, m17, m18, m19, m20, rfl, rfl, trivial, HM.out⟩
        · obtain rfl := Option.some.inj (show some _ = some o from ho)
          obtain rfl : m12 = true := getBX hall 12 rfl
          obtain rfl : m15 = false := by simpa using hun
          clear hall hun hi ho
          go_simp
          exact hK.out _ _ ⟨m0, m1, m2, m3, m4, m5, m6, m7, m8, m9, m10, m11, true, m13, m14, true, m16, m17, m18, m19, m20, rfl, rfl, trivial, HM.out⟩
        · obtain rfl := Option.some.inj (show some _ = some o from ho)
          obtain rfl : m12 = true := getBX hall 12 rfl
          obtain rfl : m15 = true := getBX hall 15 rfl
          obtain rfl : m16 = false := by simpa using hun
          clear hall hun hi ho
          go_simp
          refine (HSZ.out _).mono ?_
          rintro e W' ⟨rfl, hb⟩
          exact hK.out _ _ ⟨m0, m1, m2, m3, m4, m5, m6, m7, m8, m9, m10, m11, true, m13, m14, true, true, m17, m18, m19, m20, rfl, rfl, trivial, HM.out.step hb⟩
        · obtain rfl := Option.some.inj (show some _ = some o from ho)
          obtain rfl : m12 = true := getBX hall 12 rfl
          obtain rfl : m14 = true := getBX hall 14 rfl
          obtain rfl : m16 = true := getBX hall 16 rfl
          obtain rfl : m17 = false := by simpa using hun
          clear hall hun hi ho
          go_simp
          rw [eqZ_run, ← HBB.out]
          go_simp
          exact hK.out _ _ ⟨m0, m1, m2, m3, m4, m5, m6, m7, m8, m9, m10, m11, true, m13, true, m15, true, true, m18, m19, m20, rfl, rfl, trivial, HM.out⟩
        · obtain rfl := Option.some.inj (show some _ = some o from ho)
          obtain rfl : m12 = true := getBX hall 12 rfl
          obtain rfl : m13 = true := getBX hall 13 rfl
          obtain rfl : m17 = true := getBX hall 17 rfl
          obtain rfl : m18 = false := by simpa using hun
          clear hall hun hi ho
          go_simp
          exact hK.out _ _ ⟨m0, m1, m2, m3, m4, m5, m6, m7, m8, m9, m10, m11, true, true, m14, m15, m16, true, true, m19, m20, rfl, rfl, trivial, HM.out⟩
        · obtain rfl := Option.some.inj (show some _ = some o from ho)
          obtain rfl : m12 = true := getBX hall 12 rfl
          obtain rfl : m18 = true := getBX hall 18 rfl
          obtain rfl : m19 = false := by simpa using hun
          clear hall hun hi ho
          go_simp
          exact hK.out _ _ ⟨m0, m1, m2, m3, m4, m5, m6, m7, m8, m9, m10, m11, true, m13, m14, m15, m16, m17, true, true, m20, rfl, rfl, trivial, HM.out⟩
        · obtain rfl := Option.some.inj (show some _ = some o from ho)
          obtain rfl : m19 = true := getBX hall 19 rfl
          obtain rfl : m20 = false := by simpa using hun
          clear hall hun hi ho
          go_simp
          exact hK.out _ _ ⟨m0, m1, m2, m3, m4, m5, m6, m7, m8, m9, m10, m11, m12, m13, m14, m15, m16, m17, m18, true, true, rfl, rfl, trivial, HM.out⟩
      · rintro l a W ⟨m0, m1, m2, m3, m4, m5, m6, m7, m8, m9, m10, m11, m12, m13, m14, m15, m16, m17, m18, m19, m20, rfl, rfl, _, hm⟩ hall
        obtain rfl : m0 = true := hall 0 (by decide)
        obtain rfl : m1 = true := hall 1 (by decide)
        obtain rfl : m2 = true := hall 2 (by decide)
        obtain rfl : m3 = true := hall 3 (by decide)
        obtain rfl : m4 = true := hall 4 (by decide)
        obtain rfl : m5 = true := hall 5 (by decide)
        obtain rfl : m6 = true := hall 6 (by decide)
        obtain rfl : m7 = true := hall 7 (by decide)
        obtain rfl : m8 = true := hall 8 (by decide)
        obtain rfl : m9 = true := hall 9 (by decide)
        obtain rfl : m10 = true := hall 10 (by decide)
        obtain rfl : m11 = true := hall 11 (by decide)
        obtain rfl : m12 = true := hall 12 (by decide)
        obtain rfl : m13 = true := hall 13 (by decide)
        obtain rfl : m14 = true := hall 14 (by decide)
        obtain rfl : m15 = true := hall 15 (by decide)
        obtain rfl : m16 = true := hall 16 (by decide)
        obtain rfl : m17 = true := hall 17 (by decide)
        obtain rfl : m18 = true := hall 18 (by decide)
        obtain rfl : m19 = true := hall 19 (by decide)
        obtain rfl : m20 = true := hall 20 (by decide)
        clear hall
        have HB := Lib.hid hm.below
        clear hm
        dsimp only [cwX, cond_true]
        go_wp2
        exact bodyPost_ret (v := .bool true) (by simp [results, Tryz.results3, go_sem]) rfl ⟨rfl, HB.out⟩

  · have h2 : 11 < x := by have := HX.out; omega
    go_wp2_with (refine wpList_load_row rfl 33 _ rfl (w2.heap.size) rfl 33 (cirL C).toArray (0, 0) _ (HM7.out.at_ 1 rfl) Tryz.underlying33 rfl (by rw [infoCircle, List.size_toArray, cirL_len]) ?_)
    refine (HSU.out _).mono ?_
    rintro e w7 ⟨rfl, hb7⟩
    have hm9 := (HM7.out.step hb7).new 45 [.int .i64 s0, .int .i64 s1, .int .i64 s2, .int .i64 s3]
    simp only [List.nil_append, List.cons_append] at hm9
    have HM9 := Lib.hid hm9
    clear hb7 hm9 y0 y1 y2 y3 y4 y5
    go_upto_region 16 with fail
    refine wp_regionJ 9 #[false, false, false, false, false, false, false, false, false] (fun l a W => ∃ (m0 m1 m2 m3 m4 m5 m6 m7 m8 : Bool), l = #[m0, m1, m2, m3, m4, m5, m6, m7, m8] ∧ a = ({ tmps := #[Value.agg (plC n X d).toArray, Value.int IntKind.i64 x, Value.pointer (some { block := w.heap.size, off := 0 }), undef, Value.bool false, Value.pointer (some { block := w2.heap.size, off := 0 }), Value.pointer (some { block := w3.heap.size, off := 0 }), Value.int IntKind.i64 0, Value.bool b, Value.int IntKind.i64 0, Value.pointer (some { block := w5.heap.size, off := 0 }), Value.int IntKind.i64 3, undef, undef, Value.pointer (some { block := w7.heap.size, off := 0 }), Value.bool true, Value.bool true, Value.bool false, Value.agg (plC n X d).toArray, Value.agg (cirL C).toArray, Value.tuple #[szv r0 r1 r2 r3 r4 r5, Value.int IntKind.i64 0], Value.agg (cirL C).toArray, Value.tuple #[szv r0 r1 r2 r3 r4 r5, Value.int IntKind.i64 0], szv r0 r1 r2 r3 r4 r5, Value.int IntKind.i64 0, Value.tuple #[Value.bool b, Value.int IntKind.i64 0], Value.agg (cirL C).toArray, Value.tuple #[Value.bool b, Value.int IntKind.i64 0], Value.bool b, Value.int IntKind.i64 0, Value.tuple #[szv 0 0 0 0 0 0, Value.int IntKind.i64 3], Value.agg (cirL C).toArray, Value.int IntKind.i64 x, Value.tuple #[szv 0 0 0 0 0 0, Value.int IntKind.i64 3], szv 0 0 0 0 0 0, Value.int IntKind.i64 3, Value.int IntKind.i64 x, Value.bool (decide (x < 0)), Value.bool (decide (x < 0)), Value.int IntKind.i64 x, Value.bool true, Value.bool true, Value.int IntKind.i64 3, Value.bool false, Value.bool false, Value.agg #[Value.int IntKind.i64 0, Value.int IntKind.i64 0, Value.int IntKind.i64 0, Value.int IntKind.i64 0, Value.int IntKind.i64 0, Value.int IntKind.i64 0], Value.agg #[Value.int IntKind.i64 0, Value.int IntKind.i64 0, Value.int IntKind.i64 0, Value.int IntKind.i64 0, Value.int IntKind.i64 0, Value.int IntKind.i64 0], Value.bool false, Value.bool false, undef, undef, undef, undef, undef, undef, undef, undef, undef, undef, undef, undef, undef, undef, undef, undef, undef, undef, undef, Value.tuple #[ovv s0 s1 s2 s3, Value.bool true], Value.agg (cirL C).toArray, Value.tuple #[ovv s0 s1 s2 s3, Value.bool true], ovv s0 s1 s2 s3, Value.bool true, Value.bool true, Value.bool false, cwX m4 (.tuple #[ovv u0 u1 u2 u3, .bool true]) (undef), cwX m0 (ovv s0 s1 s2 s3) (undef), cwX m1 (ovv 7 0 0 1) (undef), cwX m2 (ovv t0 t1 t2 t3) (undef), cwX m3 (.tuple #[ovv u0 u1 u2 u3, .bool true]) (undef), cwX m5 (ovv u0 u1 u2 u3) (undef), cwX m6 (.bool true) (undef), undef, undef, undef, undef, undef, undef, undef, undef, undef, undef, undef, undef, undef, undef, undef, undef, undef, undef, undef, undef, undef, undef, undef, undef, undef, undef, undef, undef, undef, undef, undef, undef, undef, undef, undef, undef, undef, undef], defers := [] } : Act) ∧ (m7 = true → m0 = true) ∧ Hp w [(w.heap.size, 26, plC n X d), (w2.heap.size, 33, cirL C), (w3.heap.size, 36, [.int .i64 r0, .int .i64 r1, .int .i64 r2, .int .i64 r3, .int .i64 r4, .int .i64 r5]), (w5.heap.size, 36, [.int .i64 0, .int .i64 0, .int .i64 0, .int .i64 0, .int .i64 0, .int .i64 0]), (w7.heap.size, 45, bif m7 then [.int .i64 u0, .int .i64 u1, .int .i64 u2, .int .i64 u3] else [.int .i64 s0, .int .i64 s1, .int .i64 s2, .int .i64 s3])] W) (by kernel_rfl) (by kernel_rfl) (by kernel_rfl) (by kernel_rfl) ?_ ?_ ?_ ?_
    · rintro l a W ⟨m0, m1, m2, m3, m4, m5, m6, m7, m8, rfl, _⟩
      rfl
    · exact ⟨false, false, false, false, false, false, false, false, false, rfl, rfl, fun h => absurd h (by simp), HM9.out.drew⟩
    · rintro l a W i o ⟨m0, m1, m2, m3, m4, m5, m6, m7, m8, rfl, rfl, hi0, hm⟩ ho hun hall K hK
      have hi : i < 9 := (Array.getElem?_eq_some_iff.1 ho).1
      have HM := Lib.hid hm
      have HI := Lib.hid hi0
      clear hm hi0
      rcases (show i = 0 ∨ i = 1 ∨ i = 2 ∨ i = 3 ∨ i = 4 ∨ i = 5 ∨ i = 6 ∨ i = 7 ∨ i = 8 by omega) with rfl | rfl | rfl | rfl | rfl | rfl | rfl | rfl | rfl
      · obtain rfl := Option.some.inj (show some _ = some o from ho)
        obtain rfl : m0 = false := by simpa using hun
        clear hall hun hi ho
        obtain rfl : m7 = false := by
          cases m7
          · rfl
          · exact absurd (HI.out rfl) (by simp)
        have v0 : W.cell? ⟨w7.heap.size, 0, none⟩ = some (.int .i64 s0) := (HM.out.at_ 4 rfl).cell 0
        have v1 : W.cell? ⟨w7.heap.size, 1, none⟩ = some (.int .i64 s1) := (HM.out.at_ 4 rfl).cell 1
        have v2 : W.cell? ⟨w7.heap.size, 2, none⟩ = some (.int .i64 s2) := (HM.out.at_ 4 rfl).cell 2
        have v3 : W.cell? ⟨w7.heap.size, 3, none⟩ = some (.int .i64 s3) := (HM.out.at_ 4 rfl).cell 3
        go_simp
        exact hK.out _ _ ⟨true, m1, m2, m3, m4, m5, m6, false, m8, rfl, rfl, by have h0 := HI.out; exact fun e => by first | rfl | exact h0 e, HM.out⟩
      · obtain rfl := Option.some.inj (show some _ = some o from ho)
        obtain rfl : m1 = false := by simpa using hun
        clear hall hun hi ho
        go_simp
        refine (HOC.out _).mono ?_
        rintro e W' ⟨rfl, hb⟩
        exact hK.out _ _ ⟨m0, true, m2, m3, m4, m5, m6, m7, m8, rfl, rfl, by have h0 := HI.out; exact fun e => by first | rfl | exact h0 e, HM.out.step hb⟩
      · obtain rfl := Option.some.inj (show some _ = some o from ho)
        obtain rfl : m0 = true := getBX hall 0 rfl
        obtain rfl : m1 = true := getBX hall 1 rfl
        obtain rfl : m2 = false := by simpa using hun
        clear hall hun hi ho
        go_simp
        refine (HAD.out _).mono ?_
        rintro e W' ⟨rfl, hb⟩
        exact hK.out _ _ ⟨true, true, true, m3, m4, m5, m6, m7, m8, rfl, rfl, by have h0 := HI.out; exact fun e => by first | rfl | exact h0 e, HM.out.step hb⟩
      · obtain rfl := Option.some.inj (show some _ = some o from ho)
        obtain rfl : m2 = true := getBX hall 2 rfl
        obtain rfl : m3 = false := by simpa using hun
        clear hall hun hi ho
        go_simp
        refine (HOV.out _).mono ?_
        rintro e W' ⟨rfl, hb⟩
        exact hK.out _ _ ⟨m0, m1, true, true, m4, m5, m6, m7, m8, rfl, rfl, by have h0 := HI.out; exact fun e => by first | rfl | exact h0 e, HM.out.step hb⟩
      · obtain rfl := Option.some.inj (show some _ = some o from ho)
        obtain rfl : m3 = true := getBX hall 3 rfl
        obtain rfl : m4 = false := by simpa using hun
        clear hall hun hi ho
        go_simp
        exact hK.out _ _ ⟨m0, m1, m2, true, true, m5, m6, m7, m8, rfl, rfl, by have h0 := HI.out; exact fun e => by first | rfl | exact h0 e, HM.out⟩
      · obtain rfl := Option.some.inj (show some _ = some o from ho)
        obtain rfl : m4 = true := getBX hall 4 rfl
        obtain rfl : m5 = false := by simpa using hun
        clear hall hun hi ho
        go_simp
        exact hK.out _ _ ⟨m0, m1, m2, m3, true, true, m6, m7, m8, rfl, rfl, by have h0 := HI.out; exact fun e => by first | rfl | exact h0 e, HM.out⟩
      · obtain rfl := Option.some.inj (show some _ = some o from ho)
        obtain rfl : m4 = true := getBX hall 4 rfl
        obtain rfl : m6 = false := by simpa using hun
        clear hall hun hi ho
        go_simp
        exact hK.out _ _ ⟨m0, m1, m2, m3, true, m5, true, m7, m8, rfl, rfl, by have h0 := HI.out; exact fun e => by first | rfl | exact h0 e, HM.out⟩
      · obtain rfl := Option.some.inj (show some _ = some o from ho)
        obtain rfl : m0 = true := getBX hall 0 rfl
        obtain rfl : m5 = true := getBX hall 5 rfl
        obtain rfl : m7 = false := by simpa using hun
        clear hall hun hi ho
        have z0 : W.cell? ⟨w7.heap.size, 0, none⟩ = some (.int .i64 s0) := (HM.out.at_ 4 rfl).cell 0
        have f0 := (HM.out.at_ 4 rfl).frozen 0
        have z1 : W.cell? ⟨w7.heap.size, 1, none⟩ = some (.int .i64 s1) := (HM.out.at_ 4 rfl).cell 1
        have f1 := (HM.out.at_ 4 rfl).frozen 1
        have z2 : W.cell? ⟨w7.heap.size, 2, none⟩ = some (.int .i64 s2) := (HM.out.at_ 4 rfl).cell 2
        have f2 := (HM.out.at_ 4 rfl).frozen 2
        have z3 : W.cell? ⟨w7.heap.size, 3, none⟩ = some (.int .i64 s3) := (HM.out.at_ 4 rfl).cell 3
        have f3 := (HM.out.at_ 4 rfl).frozen 3
        have HN := Lib.hid (HM.out.put4 4 rfl (.int .i64 u0) (.int .i64 u1) (.int .i64 u2) (.int .i64 u3))
        go_simp
        exact hK.out _ _ ⟨true, m1, m2, m3, m4, true, m6, true, m8, rfl, rfl, by have h0 := HI.out; exact fun e => by first | rfl | exact h0 e, HN.out⟩
      · obtain rfl := Option.some.inj (show some _ = some o from ho)
        obtain rfl : m6 = true := getBX hall 6 rfl
        obtain rfl : m8 = false := by simpa using hun
        clear hall hun hi ho
        go_simp
        exact hK.out _ _ ⟨m0, m1, m2, m3, m4, m5, true, m7, true, rfl, rfl, by have h0 := HI.out; exact fun e => by first | rfl | exact h0 e, HM.out⟩
    · rintro l a W ⟨m0, m1, m2, m3, m4, m5, m6, m7, m8, rfl, rfl, _, hm⟩ hall
      obtain rfl : m0 = true := hall 0 (by decide)
      obtain rfl : m1 = true := hall 1 (by decide)
      obtain rfl : m2 = true := hall 2 (by decide)
      obtain rfl : m3 = true := hall 3 (by decide)
      obtain rfl : m4 = true := hall 4 (by decide)
      obtain rfl : m5 = true := hall 5 (by decide)
      obtain rfl : m6 = true := hall 6 (by decide)
      obtain rfl : m7 = true := hall 7 (by decide)
      obtain rfl : m8 = true := hall 8 (by decide)
      clear hall
      have HMa : Hid (Hp w [(w.heap.size, 26, plC n X d), (w2.heap.size, 33, cirL C), (w3.heap.size, 36, [.int .i64 r0, .int .i64 r1, .int .i64 r2, .int .i64 r3, .int .i64 r4, .int .i64 r5]), (w5.heap.size, 36, [.int .i64 0, .int .i64 0, .int .i64 0, .int .i64 0, .int .i64 0, .int .i64 0]), (w7.heap.size, 45, [.int .i64 u0, .int .i64 u1, .int .i64 u2, .int .i64 u3])] _) := Lib.hid hm
      clear hm
      dsimp only [cwX, cond_true]
      go_upto_region 19 with fail
      refine wp_regionJ 21 #[false, false, false, false, false, false, false, false, false, false, false, false, false, false, false, false, false, false, false, false, false] (fun l a W => ∃ (m0 m1 m2 m3 m4 m5 m6 m7 m8 m9 m10 m11 m12 m13 m14 m15 m16 m17 m18 m19 m20 : Bool), l = #[m0, m1, m2, m3, m4, m5, m6, m7, m8, m9, m10, m11, m12, m13, m14, m15, m16, m17, m18, m19, m20] ∧ a = ({ tmps := #[Value.agg (plC n X d).toArray, Value.int IntKind.i64 x, Value.pointer (some { block := w.heap.size, off := 0 }), undef, cwX m20 (.bool true) (Value.bool false), Value.pointer (some { block := w2.heap.size, off := 0 }), Value.pointer (some { block := w3.heap.size, off := 0 }), Value.int IntKind.i64 0, Value.bool b, Value.int IntKind.i64 0, Value.pointer (some { block := w5.heap.size, off := 0 }), Value.int IntKind.i64 3, undef, undef, Value.pointer (some { block := w7.heap.size, off := 0 }), Value.bool true, Value.bool true, Value.bool false, Value.agg (plC n X d).toArray, Value.agg (cirL C).toArray, Value.tuple #[szv r0 r1 r2 r3 r4 r5, Value.int IntKind.i64 0], Value.agg (cirL C).toArray, Value.tuple #[szv r0 r1 r2 r3 r4 r5, Value.int IntKind.i64 0], szv r0 r1 r2 r3 r4 r5, Value.int IntKind.i64 0, Value.tuple #[Value.bool b, Value.int IntKind.i64 0], Value.agg (cirL C).toArray, Value.tuple #[Value.bool b, Value.int IntKind.i64 0], Value.bool b, Value.int IntKind.i64 0, Value.tuple #[szv 0 0 0 0 0 0, Value.int IntKind.i64 3], Value.agg (cirL C).toArray, Value.int IntKind.i64 x, Value.tuple #[szv 0 0 0 0 0 0, Value.int IntKind.i64 3], szv 0 0 0 0 0 0, Value.int IntKind.i64 3, Value.int IntKind.i64 x, Value.bool (decide (x < 0)), Value.bool (decide (x < 0)), Value.int IntKind.i64 x, Value.bool true, Value.bool true, Value.int IntKind.i64 3, Value.bool false, Value.bool false, Value.agg #[Value.int IntKind.i64 0, Value.int IntKind.i64 0, Value.int IntKind.i64 0, Value.int IntKind.i64 0, Value.int IntKind.i64 0, Value.int IntKind.i64 0], Value.agg #[Value.int IntKind.i64 0, Value.int IntKind.i64 0, Value.int IntKind.i64 0, Value.int IntKind.i64 0, Value.int IntKind.i64 0, Value.int IntKind.i64 0], Value.bool false, Value.bool false, undef, undef, undef, undef, undef, undef, undef, undef, undef, undef, undef, undef, undef, undef, undef, undef, undef, undef, undef, Value.tuple #[ovv s0 s1 s2 s3, Value.bool true], Value.agg (cirL C).toArray, Value.tuple #[ovv s0 s1 s2 s3, Value.bool true], ovv s0 s1 s2 s3, Value.bool true, Value.bool true, Value.bool false, Value.tuple #[ovv u0 u1 u2 u3, Value.bool true], ovv s0 s1 s2 s3, ovv 7 0 0 1, ovv t0 t1 t2 t3, Value.tuple #[ovv u0 u1 u2 u3, Value.bool true], ovv u0 u1 u2 u3, Value.bool true, Value.bool true, Value.bool false, undef, undef, undef, undef, undef, undef, undef, undef, undef, undef, undef, undef, undef, undef, undef, undef, cwX m0 (.int .i64 0) (undef), cwX m1 (.bool true) (undef), cwX m2 (.bool true) (undef), cwX m3 (.int .i64 0) (undef), cwX m4 (.bool true) (undef), cwX m5 (.bool true) (undef), cwX m6 (.bool true) (undef), cwX m7 (szv r0 r1 r2 r3 r4 r5) (undef), cwX m8 (ovv u0 u1 u2 u3) (undef), cwX m9 (szv r0 r1 r2 r3 r4 r5) (undef), cwX m10 (.bool true) (undef), cwX m11 (.bool true) (undef), cwX m12 (.bool true) (undef), cwX m13 (.bool b) (undef), cwX m14 (szv r0 r1 r2 r3 r4 r5) (undef), cwX m15 (ovv 0 0 0 1) (undef), cwX m16 (szv 0 1 0 1 0 1) (undef), cwX m17 (.bool b) (undef), cwX m18 (.bool true) (undef), cwX m19 (.bool true) (undef)], defers := [] } : Act) ∧ (True) ∧ Hp w [(w.heap.size, 26, plC n X d), (w2.heap.size, 33, cirL C), (w3.heap.size, 36, [.int .i64 r0, .int .i64 r1, .int .i64 r2, .int .i64 r3, .int .i64 r4, .int .i64 r5]), (w5.heap.size, 36, [.int .i64 0, .int .i64 0, .int .i64 0, .int .i64 0, .int .i64 0, .int .i64 0]), (w7.heap.size, 45, [.int .i64 u0, .int .i64 u1, .int .i64 u2, .int .i64 u3])] W) (by kernel_rfl) (by kernel_rfl) (by kernel_rfl) (by kernel_rfl) ?_ ?_ ?_ ?_
      · rintro l a W ⟨m0, m1, m2, m3, m4, m5, m6, m7, m8, m9, m10, m11, m12, m13, m14, m15, m16, m17, m18, m19, m20, rfl, _⟩
        rfl
      · exact ⟨false, false, false, false, false, false, false, false, false, false, false, false, false, false, false, false, false, false, false, false, false, rfl, rfl, trivial, HMa.out.drew⟩
      · rintro l a W i o ⟨m0, m1, m2, m3, m4, m5, m6, m7, m8, m9, m10, m11, m12, m13, m14, m15, m16, m17, m18, m19, m20, rfl, rfl, hi0, hm⟩ ho hun hall K hK
        have hi : i < 21 := (Array.getElem?_eq_some_iff.1 ho).1
        have HM := Lib.hid hm
        have HI := Lib.hid hi0
        clear hm hi0
        rcases (show i = 0 ∨ i = 1 ∨ i = 2 ∨ i = 3 ∨ i = 4 ∨ i = 5 ∨ i = 6 ∨ i = 7 ∨ i = 8 ∨ i = 9 ∨ i = 10 ∨ i = 11 ∨ i = 12 ∨ i = 13 ∨ i = 14 ∨ i = 15 ∨ i = 16 ∨ i = 17 ∨ i = 18 ∨ i = 19 ∨ i = 20 by omega) with rfl | rfl | rfl | rfl | rfl | rfl | rfl | rfl | rfl | rfl | rfl | rfl | rfl | rfl | rfl | rfl | rfl | rfl | rfl | rfl | rfl
        · obtain rfl := Option.some.inj (show some _ = some o from ho)
          obtain rfl : m0 = false := by simpa using hun
          clear hall hun hi ho
          go_simp
          exact hK.out _ _ ⟨true, m1, m2, m3, m4, m5, m6, m7, m8, m9, m10, m11, m12, m13, m14, m15, m16, m17, m18, m19, m20, rfl, rfl, trivial, HM.out⟩
        · obtain rfl := Option.some.inj (show some _ = some o from ho)
          obtain rfl : m0 = true := getBX hall 0 rfl
          obtain rfl : m1 = false := by simpa using hun
          clear hall hun hi ho
          go_simp
          exact hK.out _ _ ⟨true, true, m2, m3, m4, m5, m6, m7, m8, m9, m10, m11, m12, m13, m14, m15, m16, m17, m18, m19, m20, rfl, rfl, trivial, HM.out⟩
        · obtain rfl := Option.some.inj (show some _ = some o from ho)
          obtain rfl : m1 = true := getBX hall 1 rfl
          obtain rfl : m2 = false := by simpa using hun
          clear hall hun hi ho
          go_simp
          exact hK.out _ _ ⟨m0, true, true, m3, m4, m5, m6, m7, m8, m9, m10, m11, m12, m13, m14, m15, m16, m17, m18, m19, m20, rfl, rfl, trivial, HM.out⟩
        · obtain rfl := Option.some.inj (show some _ = some o from ho)
          obtain rfl : m2 = true := getBX hall 2 rfl
          obtain rfl : m3 = false := by simpa using hun
          clear hall hun hi ho
          go_simp
          exact hK.out _ _ ⟨m0, m1, true, true, m4, m5, m6, m7, m8, m9, m10, m11, m12, m13, m14, m15, m16, m17, m18, m19, m20, rfl, rfl, trivial, HM.out⟩
        · obtain rfl := Option.some.inj (show some _ = some o from ho)
          obtain rfl : m2 = true := getBX hall 2 rfl
          obtain rfl : m3 = true := getBX hall 3 rfl
          obtain rfl : m4 = false := by simpa using hun
          clear hall hun hi ho
          go_simp
          exact hK.out _ _ ⟨m0, m1, true, true, true, m5, m6, m7, m8, m9, m10, m11, m12, m13, m14, m15, m16, m17, m18, m19, m20, rfl, rfl, trivial, HM.out⟩
        · obtain rfl := Option.some.inj (show some _ = some o from ho)
          obtain rfl : m2 = true := getBX hall 2 rfl
          obtain rfl : m4 = true := getBX hall 4 rfl
          obtain rfl : m5 = false := by simpa using hun
          clear hall hun hi ho
          go_simp
          exact hK.out _ _ ⟨m0, m1, true, m3, true, true, m6, m7, m8, m9, m10, m11, m12, m13, m14, m15, m16, m17, m18, m19, m20, rfl, rfl, trivial, HM.out⟩
        · obtain rfl := Option.some.inj (show some _ = some o from ho)
          obtain rfl : m5 = true := getBX hall 5 rfl
          obtain rfl : m6 = false := by simpa using hun
          clear hall hun hi ho
          go_simp
          exact hK.out _ _ ⟨m0, m1, m2, m3, m4, true, true, m7, m8, m9, m10, m11, m12, m13, m14, m15, m16, m17, m18, m19, m20, rfl, rfl, trivial, HM.out⟩
        · obtain rfl := Option.some.inj (show some _ = some o from ho)
          obtain rfl : m6 = true := getBX hall 6 rfl
          obtain rfl : m7 = false := by simpa using hun
          clear hall hun hi ho
          obtain ⟨y0, y1, y2, y3, y4, y5⟩ := six_of (HM.out.at_ 2 rfl)
          go_simp
          exact hK.out _ _ ⟨m0, m1, m2, m3, m4, m5, true, true, m8, m9, m10, m11, m12, m13, m14, m15, m16, m17, m18, m19, m20, rfl, rfl, trivial, HM.out⟩
        · obtain rfl := Option.some.inj (show some _ = some o from ho)
          obtain rfl : m6 = true := getBX hall 6 rfl
          obtain rfl : m8 = false := by simpa using hun
          clear hall hun hi ho
          have v0 : W.cell? ⟨w7.heap.size, 0, none⟩ = some (.int .i64 u0) := (HM.out.at_ 4 rfl).cell 0
          have v1 : W.cell? ⟨w7.heap.size, 1, none⟩ = some (.int .i64 u1) := (HM.out.at_ 4 rfl).cell 1
          have v2 : W.cell? ⟨w7.heap.size, 2, none⟩ = some (.int .i64 u2) := (HM.out.at_ 4 rfl).cell 2
          have v3 : W.cell? ⟨w7.heap.size, 3, none⟩ = some (.int .i64 u3) := (HM.out.at_ 4 rfl).cell 3
          go_simp
          exact hK.out _ _ ⟨m0, m1, m2, m3, m4, m5, true, m7, true, m9, m10, m11, m12, m13, m14, m15, m16, m17, m18, m19, m20, rfl, rfl, trivial, HM.out⟩
        · obtain rfl := Option.some.inj (show some _ = some o from ho)
          obtain rfl : m6 = true := getBX hall 6 rfl
          obtain rfl : m8 = true := getBX hall 8 rfl
          obtain rfl : m9 = false := by simpa using hun
          clear hall hun hi ho
          go_simp
          refine (HSR.out _).mono ?_
          rintro e W' ⟨rfl, hb⟩
          exact hK.out _ _ ⟨m0, m1, m2, m3, m4, m5, true, m7, true, true, m10, m11, m12, m13, m14, m15, m16, m17, m18, m19, m20, rfl, rfl, trivial, HM.out.step hb⟩
        · obtain rfl := Option.some.inj (show some _ = some o from ho)
          obtain rfl : m6 = true := getBX hall 6 rfl
          obtain rfl : m7 = true := getBX hall 7 rfl
          obtain rfl : m9 = true := getBX hall 9 rfl
          obtain rfl : m10 = false := by simpa using hun
          clear hall hun hi ho
          go_simp
          exact hK.out _ _ ⟨m0, m1, m2, m3, m4, m5, true, true, m8, true, true, m11, m12, m13, m14, m15, m16, m17, m18, m19, m20, rfl, rfl, trivial, HM.out⟩
        · obtain rfl := Option.some.inj (show some _ = some o from ho)
          obtain rfl : m6 = true := getBX hall 6 rfl
          obtain rfl : m10 = true := getBX hall 10 rfl
          obtain rfl : m11 = false := by simpa using hun
          clear hall hun hi ho
          go_simp
          exact hK.out _ _ ⟨m0, m1, m2, m3, m4, m5, true, m7, m8, m9, true, true, m12, m13, m14, m15, m16, m17, m18, m19, m20, rfl, rfl, trivial, HM.out⟩
        · obtain rfl := Option.some.inj (show some _ = some o from ho)
          obtain rfl : m11 = true := getBX hall 11 rfl
          obtain rfl : m12 = false := by simpa using hun
          clear hall hun hi ho
          go_simp
          exact hK.out _ _ ⟨m0, m1, m2, m3, m4, m5, m6, m7, m8, m9, m10, true, true, m13, m14, m15, m16, m17, m18, m19, m20, rfl, rfl, trivial, HM.out⟩
        · obtain rfl := Option.some.inj (show some _ = some o from ho)
          obtain rfl : m12 = true := getBX hall 12 rfl
          obtain rfl : m13 = false := by simpa using hun
          clear hall hun hi ho
          go_simp
          exact hK.out _ _ ⟨m0, m1, m2, m3, m4, m5, m6, m7, m8, m9, m10, m11, true, true, m14, m15, m16, m17, m18, m19, m20, rfl, rfl, trivial, HM.out⟩
        · obtain rfl := Option.some.inj (show some _ = some o from ho)
          obtain rfl : m12 = true := getBX hall 12 rfl
          obtain rfl : m14 = false := by simpa using hun
          clear hall hun hi ho
          obtain ⟨y0, y1, y2, y3, y4, y5⟩ := six_of (HM.out.at_ 2 rfl)
          go_simp
          exact hK.out _ _ ⟨m0, m1, m2, m3, m4, m5, m6, m7, m8, m9, m10, m11, true, m13, true, m15, m16, m17, m18, m19, m20, rfl, rfl, trivial, HM.out⟩
        · obtain rfl := Option.some.inj (show some _ = some o from ho)
          obtain rfl : m12 = true := getBX hall 12 rfl
          obtain rfl : m15 = false := by simpa using hun
          clear hall hun hi ho
          go_simp
          exact hK.out _ _ ⟨m0, m1, m2, m3, m4, m5, m6, m7, m8, m9, m10, m11, true, m13, m14, true, m16, m17, m18, m19, m20, rfl, rfl, trivial, HM.out⟩
        · obtain rfl := Option.some.inj (show some _ = some o from ho)
          obtain rfl : m12 = true := getBX hall 12 rfl
          obtain rfl : m15 = true := getBX hall 15 rfl
          obtain rfl : m16 = false := by simpa using hun
          clear hall hun hi ho
          go_simp
          refine (HSZ.out _).mono ?_
          rintro e W' ⟨rfl, hb⟩
          exact hK.out _ _ ⟨m0, m1, m2, m3, m4, m5, m6, m7, m8, m9, m10, m11, true, m13, m14, true, true, m17, m18, m19, m20, rfl, rfl, trivial, HM.out.step hb⟩
        · obtain rfl := Option.some.inj (show some _ = some o from ho)
          obtain rfl : m12 = true := getBX hall 12 rfl
          obtain rfl : m14 = true := getBX hall 14 rfl
          obtain rfl : m16 = true := getBX hall 16 rfl
          obtain rfl : m17 = false := by simpa using hun
          clear hall hun hi ho
          go_simp
          rw [eqZ_run, ← HBB.out]
          go_simp
          exact hK.out _ _ ⟨m0, m1, m2, m3, m4, m5, m6, m7, m8, m9, m10, m11, true, m13, true, m15, true, true, m18, m19, m20, rfl, rfl, trivial, HM.out⟩
        · obtain rfl := Option.some.inj (show some _ = some o from ho)
          obtain rfl : m12 = true := getBX hall 12 rfl
          obtain rfl : m13 = true := getBX hall 13 rfl
          obtain rfl : m17 = true := getBX hall 17 rfl
          obtain rfl : m18 = false := by simpa using hun
          clear hall hun hi ho
          go_simp
          exact hK.out _ _ ⟨m0, m1, m2, m3, m4, m5, m6, m7, m8, m9, m10, m11, true, true, m14, m15, m16, true, true, m19, m20, rfl, rfl, trivial, HM.out⟩
        · obtain rfl := Option.some.inj (show some _ = some o from ho)
          obtain rfl : m12 = true := getBX hall 12 rfl
          obtain rfl : m18 = true := getBX hall 18 rfl
          obtain rfl : m19 = false := by simpa using hun
          clear hall hun hi ho
          go_simp
          exact hK.out _ _ ⟨m0, m1, m2, m3, m4, m5, m6, m7, m8, m9, m10, m11, true, m13, m14, m15, m16, m17, true, true, m20, rfl, rfl, trivial, HM.out⟩
        · obtain rfl := Option.some.inj (show some _ = some o from ho)
          obtain rfl : m19 = true := getBX hall 19 rfl
          obtain rfl : m20 = false := by simpa using hun
          clear hall hun hi ho
          go_simp
          exact hK.out _ _ ⟨m0, m1, m2, m3, m4, m5, m6, m7, m8, m9, m10, m11, m12, m13, m14, m15, m16, m17, m18, true, true, rfl, rfl, trivial, HM.out⟩
      · rintro l a W ⟨m0, m1, m2, m3, m4, m5, m6, m7, m8, m9, m10, m11, m12, m13, m14, m15, m16, m17, m18, m19, m20, rfl, rfl, _, hm⟩ hall
        obtain rfl : m0 = true := hall 0 (by decide)
        obtain rfl : m1 = true := hall 1 (by decide)
        obtain rfl : m2 = true := hall 2 (by decide)
        obtain rfl : m3 = true := hall 3 (by decide)
        obtain rfl : m4 = true := hall 4 (by decide)
        obtain rfl : m5 = true := hall 5 (by decide)
        obtain rfl : m6 = true := hall 6 (by decide)
        obtain rfl : m7 = true := hall 7 (by decide)
        obtain rfl : m8 = true := hall 8 (by decide)
        obtain rfl : m9 = true := hall 9 (by decide)
        obtain rfl : m10 = true := hall 10 (by decide)
        obtain rfl : m11 = true := hall 11 (by decide)
        obtain rfl : m12 = true := hall 12 (by decide)
        obtain rfl : m13 = true := hall 13 (by decide)
        obtain rfl : m14 = true := hall 14 (by decide)
        obtain rfl : m15 = true := hall 15 (by decide)
        obtain rfl : m16 = true := hall 16 (by decide)
        obtain rfl : m17 = true := hall 17 (by decide)
        obtain rfl : m18 = true := hall 18 (by decide)
        obtain rfl : m19 = true := hall 19 (by decide)
        obtain rfl : m20 = true := hall 20 (by decide)
        clear hall
        have HB := Lib.hid hm.below
        clear hm
        dsimp only [cwX, cond_true]
        go_wp2
        exact bodyPost_ret (v := .bool true) (by simp [results, Tryz.results3, go_sem]) rfl ⟨rfl, HB.out⟩
theorem lrests_any (n d x : Int) (X : Nat → Int × Int) (w : World) (ht : Tab w) (hn : 0 ≤ n ∧ n < 256) (hd : 0 ≤ d ∧ d < 256) (hX : ∀ i, i < 12 → (-128 ≤ (X i).1 ∧ (X i).1 ≤ 127) ∧ (-128 ≤ (X i).2 ∧ (X i).2 ≤ 127)) :
    Calls Tryz.prog 3 #[.agg (plC n X d).toArray, .int .i64 x] w fun e w' => e = .returned (.bool true) ∧ Below w.heap.size w w' := by
  have h := pl_pln n d X
  have hMK := fun W => lMake_any n d X W hn hd hX
  generalize plD n d = D at *
  generalize plP n X = P at *
  generalize plQ n X = S at *
  have hD := h.d
  have hV := nrm_ok (d := D) (by omega) (vS_Bx h (k := 12) (by omega))
  have hVb := hV.bd (vS_Bx h (k := 12) (by omega))
  have hVd := hV.den
  have hR := vR_Bx h
  unfold Bx at hVb
  have a0 := add_cross (X := (nrm (vS D P S 12).1 (vS D P S 12).2.1 (vS D P S 12).2.2 D).1) (U := 7) (u := D * 7) (E := 1) (k := -1) hV.ex (by omega)
  have a1 := add_cross (X := (nrm (vS D P S 12).1 (vS D P S 12).2.1 (vS D P S 12).2.2 D).2.1) (U := 0) (u := 0) (E := 1) (k := -1) hV.ey (by omega)
  have a2 := add_cross (X := (nrm (vS D P S 12).1 (vS D P S 12).2.1 (vS D P S 12).2.2 D).2.2.1) (U := 0) (u := 0) (E := 1) (k := -1) hV.ez (by omega)
  rw [show (vS D P S 12).1 + -1 * (D * 7) = (vR D P S).1 by simp only [vR]; omega] at a0
  rw [show (vS D P S 12).2.1 + -1 * 0 = (vR D P S).2.1 by simp only [vR]; omega] at a1
  rw [show (vS D P S 12).2.2 + -1 * 0 = (vR D P S).2.2 by simp only [vR]; omega] at a2
  have hSU := fun W => lsum_pl h (n := 12) (by decide) W
  have hAD := fun W => radd_any (nrm (vS D P S 12).1 (vS D P S 12).2.1 (vS D P S 12).2.2 D).1 (nrm (vS D P S 12).1 (vS D P S 12).2.1 (vS D P S 12).2.2 D).2.1 (nrm (vS D P S 12).1 (vS D P S 12).2.1 (vS D P S 12).2.2 D).2.2.1 (nrm (vS D P S 12).1 (vS D P S 12).2.1 (vS D P S 12).2.2 D).2.2.2 7 0 0 1 (-1) W (by omega) (by omega) (by omega) (by omega) (by omega) (by omega) (by omega) (by omega) (.inr rfl)
  have hOV := fun W => lover_at W (d := D) (by omega) hR (by omega) (by omega) (by omega) (by omega) a0 a1 a2
  by_cases hx : x < 0 ∨ 11 < x
  · have hFE := fun W => tFifth_err (cirP D P S) x W (plan_tm h) (by unfold ixE; rw [if_neg (by rw [ckE_pl h]; decide), if_pos (by omega)]; decide)
    rw [show ixE (cirP D P S) x = 3 by unfold ixE; rw [if_neg (by rw [ckE_pl h]; decide), if_pos (by omega)]] at hFE
    exact lrests_out n d X (cirP D P S) x _ _ _ _ _ _ _ _ _ _ _ _ _ _ _ _ _ _ w ht hx hMK (fun W => tRest_pl h W) (fun W => tCloses_pl h W) hFE hSU hAD hOV (fun W => lsize_nrm W (by omega) hR)
  · obtain ⟨i, rfl⟩ : ∃ i : Nat, x = (i : Int) := ⟨x.toNat, by omega⟩
    have hi : i < 12 := by omega
    exact lrests_in n d X (cirP D P S) i _ _ _ _ _ _ _ _ _ _ _ _ _ _ _ _ _ _ _ _ _ _ _ _ _ _ _ _ w ht hi hMK (fun W => tRest_pl h W) (fun W => tCloses_pl h W) (fun W => tFifth_pl D P S i W h (plan_tm h) (ckE_pl h) hi) (fun W => lfifth_pl h hi W) (fun W => lsize_nrm W (by omega) (stF_Bx h hi 2 (by decide))) hSU hAD hOV (fun W => lsize_nrm W (by omega) hR)
end Go.Proofs.YtlmheeommpbimaaGreatDoor
