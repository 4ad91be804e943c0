/- Part 41 of 46 of the proof of the law: contracts of the functions that it reaches, and plain facts. Conditions: those that each contract names. -/
import Derived.Test.YtlmheeommpbimaaGreatDoorIntB39
import Derived.Test.YtlmheeommpbimaaGreatDoorIntB37
namespace Go.Proofs.YtlmheeommpbimaaGreatDoor
open Go.RowKit
set_option maxRecDepth 1000000 in
set_option maxHeartbeats 4000000 in
theorem lfifth_gen (x0 x1 x2 x3 a0 a1 a2 a3 b0 b1 b2 b3 c0 c1 c2 c3 e0 e1 e2 e3 f0 f1 f2 f3 g0 g1 g2 g3 : Int) (w : World)
  (hT1 : ∀ W, Calls Tryz.prog 51 #[ovv (-19) 12 0 1, .agg #[.int .i64 x0, .int .i64 x1]] W fun e w' => e = .returned (ovv a0 a1 a2 a3) ∧ Below W.heap.size W w') (hA1 : ∀ W, Calls Tryz.prog 19 #[ovv (-1) 1 0 1, ovv a0 a1 a2 a3, .int .i64 (-1)] W fun e w' => e = .returned (ovv b0 b1 b2 b3) ∧ Below W.heap.size W w') (hO1 : ∀ W, Calls Tryz.prog 18 #[ovv b0 b1 b2 b3] W fun e w' => e = .returned (.tuple #[ovv c0 c1 c2 c3, .bool true]) ∧ Below W.heap.size W w')
  (hT2 : ∀ W, Calls Tryz.prog 51 #[ovv (-4) 4 (-1) 1, .agg #[.int .i64 x2, .int .i64 x3]] W fun e w' => e = .returned (ovv e0 e1 e2 e3) ∧ Below W.heap.size W w') (hA2 : ∀ W, Calls Tryz.prog 19 #[ovv c0 c1 c2 c3, ovv e0 e1 e2 e3, .int .i64 (-1)] W fun e w' => e = .returned (ovv f0 f1 f2 f3) ∧ Below W.heap.size W w') (hO2 : ∀ W, Calls Tryz.prog 18 #[ovv f0 f1 f2 f3] W fun e w' => e = .returned (.tuple #[ovv g0 g1 g2 g3, .bool true]) ∧ Below W.heap.size W w') :
  Calls Tryz.prog 15 #[.agg #[.int .i64 x0, .int .i64 x1, .int .i64 x2, .int .i64 x3]] w fun e w' => e = .returned (.tuple #[ovv g0 g1 g2 g3, .bool true]) ∧ Below w.heap.size w w' := by
 have HT1 := Lib.hid hT1
 have HA1 := Lib.hid hA1
 have HO1 := Lib.hid hO1
 have HT2 := Lib.hid hT2
 have HA2 := Lib.hid hA2
 have HO2 := Lib.hid hO2
 have hm0 := (((Hp.start w).new 31 [.int .i64 x0, .int .i64 x1, .int .i64 x2, .int .i64 x3]).new 45 [.int .i64 0, .int .i64 0, .int .i64 0, .int .i64 0]).new 45 [.int .i64 (-1), .int .i64 1, .int .i64 0, .int .i64 1]
 simp only [World.size_alloc, List.nil_append, List.cons_append] at hm0
 have HM0 := Lib.hid hm0
 clear hm0 hT1 hA1 hO1 hT2 hA2 hO2
 go_enter Tryz.func15, Tryz.ntmps15
 go_upto_region 2 with fail
 refine wp_regionJ 13 #[false, false, false, false, false, false, false, false, false, false, false, false, false] (fun l a W => ∃ (m0 m1 m2 m3 m4 m5 m6 m7 m8 m9 m10 m11 m12 : Bool), l = #[m0, m1, m2, m3, m4, m5, m6, m7, m8, m9, m10, m11, m12] ∧ a = ({ tmps := #[Value.agg #[Value.int IntKind.i64 x0, Value.int IntKind.i64 x1, Value.int IntKind.i64 x2, Value.int IntKind.i64 x3], Value.pointer (some { block := w.heap.size, off := 0 }), Value.pointer (some { block := w.heap.size + 1, off := 0 }), Value.bool false, Value.pointer (some { block := w.heap.size + 1 + 1, off := 0 }), cwX m12 (.bool true) (undef), Value.agg #[Value.int IntKind.i64 (-1), Value.int IntKind.i64 1, Value.int IntKind.i64 0], Value.agg #[Value.int IntKind.i64 (-1), Value.int IntKind.i64 1, Value.int IntKind.i64 0, Value.int IntKind.i64 1], cwX m8 (.tuple #[ovv c0 c1 c2 c3, .bool true]) (undef), cwX m0 (.agg #[.int .i64 (-1), .int .i64 1, .int .i64 0, .int .i64 1]) (undef), cwX m1 (.agg #[.int .i64 (-19), .int .i64 12, .int .i64 0]) (undef), cwX m2 (.agg #[.int .i64 (-19), .int .i64 12, .int .i64 0, .int .i64 1]) (undef), cwX m3 (.pointer (some ⟨w.heap.size, 0, none⟩)) (undef), cwX m4 (.agg #[.int .i64 x0, .int .i64 x1]) (undef), cwX m5 (ovv a0 a1 a2 a3) (undef), cwX m6 (ovv b0 b1 b2 b3) (undef), cwX m7 (.tuple #[ovv c0 c1 c2 c3, .bool true]) (undef), cwX m9 (ovv c0 c1 c2 c3) (undef), cwX m10 (.bool true) (undef), undef, undef, undef, undef, undef, undef, undef, undef, undef, undef, undef, undef, undef], defers := [] } : Act) ∧ (m11 = true → m0 = true) ∧ Hp w [(w.heap.size, 31, [.int .i64 x0, .int .i64 x1, .int .i64 x2, .int .i64 x3]), (w.heap.size + 1, 45, [.int .i64 0, .int .i64 0, .int .i64 0, .int .i64 0]), (w.heap.size + 1 + 1, 45, bif m11 then [.int .i64 c0, .int .i64 c1, .int .i64 c2, .int .i64 c3] else [.int .i64 (-1), .int .i64 1, .int .i64 0, .int .i64 1])] W) (by kernel_rfl) (by kernel_rfl) (by kernel_rfl) (by kernel_rfl) ?_ ?_ ?_ ?_
 ·rintro l a W ⟨m0, m1, m2, m3, m4, m5, m6, m7, m8, m9, m10, m11, m12, rfl, _⟩
  rfl
 ·exact ⟨false, false, false, false, false, false, false, false, false, false, false, false, false, rfl, rfl, fun h => absurd h (by simp), HM0.out.drew⟩
 ·rintro l a W i o ⟨m0, m1, m2, m3, m4, m5, m6, m7, m8, m9, m10, m11, m12, rfl, rfl, hi0, hm⟩ ho hun hall K hK
  have hi : i < 13 := (Array.getElem?_eq_some_iff.1 ho).1
  have HM := Lib.hid hm
  have HI := Lib.hid hi0
  clear hm hi0
  rcases (show i = 0 ∨ i = 1 ∨ i = 2 ∨ i = 3 ∨ i = 4 ∨ i = 5 ∨ i = 6 ∨ i = 7 ∨ i = 8 ∨ i = 9 ∨ i = 10 ∨ i = 11 ∨ i = 12 by omega) with rfl | rfl | rfl | rfl | rfl | rfl | rfl | rfl | rfl | rfl | rfl | rfl | rfl
  ·cases ho
   simp at hun; subst hun
   clear hall hi
   obtain rfl : m11 = false := by
    cases m11
    ·rfl
    ·exact absurd (HI.out rfl) (by simp)
   have y0 : W.cell? ⟨w.heap.size + 1 + 1, 0, none⟩ = some (.int .i64 (-1)) := (HM.out.at_ 2 rfl).cell 0
   have y1 : W.cell? ⟨w.heap.size + 1 + 1, 1, none⟩ = some (.int .i64 1) := (HM.out.at_ 2 rfl).cell 1
   have y2 : W.cell? ⟨w.heap.size + 1 + 1, 2, none⟩ = some (.int .i64 0) := (HM.out.at_ 2 rfl).cell 2
   have y3 : W.cell? ⟨w.heap.size + 1 + 1, 3, none⟩ = some (.int .i64 1) := (HM.out.at_ 2 rfl).cell 3
   go_simp
   exact hK.out _ _ ⟨true, m1, m2, m3, m4, m5, m6, m7, m8, m9, m10, false, m12, rfl, rfl, by have h0 := HI.out; exact fun e => by first | rfl | exact h0 e, HM.out⟩
  ·cases ho
   simp at hun; subst hun
   clear hall hi
   go_simp
   exact hK.out _ _ ⟨m0, true, m2, m3, m4, m5, m6, m7, m8, m9, m10, m11, m12, rfl, rfl, by have h0 := HI.out; exact fun e => by first | rfl | exact h0 e, HM.out⟩
  ·cases ho
   cases (getBX hall 1 rfl : m1 = true)
   simp at hun; subst hun
   clear hall hi
   go_simp
   exact hK.out _ _ ⟨m0, true, true, m3, m4, m5, m6, m7, m8, m9, m10, m11, m12, rfl, rfl, by have h0 := HI.out; exact fun e => by first | rfl | exact h0 e, HM.out⟩
  ·cases ho
   simp at hun; subst hun
   clear hall hi
   go_simp
   exact hK.out _ _ ⟨m0, m1, m2, true, m4, m5, m6, m7, m8, m9, m10, m11, m12, rfl, rfl, by have h0 := HI.out; exact fun e => by first | rfl | exact h0 e, HM.out⟩
  ·cases ho
   cases (getBX hall 3 rfl : m3 = true)
   simp at hun; subst hun
   clear hall hi
   have y0 : W.cell? ⟨w.heap.size, 0, none⟩ = some (.int .i64 x0) := (HM.out.at_ 0 rfl).cell 0
   have y1 : W.cell? ⟨w.heap.size, 1, none⟩ = some (.int .i64 x1) := (HM.out.at_ 0 rfl).cell 1
   go_simp
   exact hK.out _ _ ⟨m0, m1, m2, true, true, m5, m6, m7, m8, m9, m10, m11, m12, rfl, rfl, by have h0 := HI.out; exact fun e => by first | rfl | exact h0 e, HM.out⟩
  ·cases ho
   cases (getBX hall 2 rfl : m2 = true)
   cases (getBX hall 4 rfl : m4 = true)
   simp at hun; subst hun
   clear hall hi
   go_simp
   refine (HT1.out _).mono ?_
   rintro e W' ⟨rfl, hb⟩
   exact hK.out _ _ ⟨m0, m1, true, m3, true, true, m6, m7, m8, m9, m10, m11, m12, rfl, rfl, by have h0 := HI.out; exact fun e => by first | rfl | exact h0 e, HM.out.step hb⟩
  ·cases ho
   cases (getBX hall 0 rfl : m0 = true)
   cases (getBX hall 5 rfl : m5 = true)
   simp at hun; subst hun
   clear hall hi
   go_simp
   refine (HA1.out _).mono ?_
   rintro e W' ⟨rfl, hb⟩
   exact hK.out _ _ ⟨true, m1, m2, m3, m4, true, true, m7, m8, m9, m10, m11, m12, rfl, rfl, by have h0 := HI.out; exact fun e => by first | rfl | exact h0 e, HM.out.step hb⟩
  ·cases ho
   cases (getBX hall 6 rfl : m6 = true)
   simp at hun; subst hun
   clear hall hi
   go_simp
   refine (HO1.out _).mono ?_
   rintro e W' ⟨rfl, hb⟩
   exact hK.out _ _ ⟨m0, m1, m2, m3, m4, m5, true, true, m8, m9, m10, m11, m12, rfl, rfl, by have h0 := HI.out; exact fun e => by first | rfl | exact h0 e, HM.out.step hb⟩
  ·cases ho
   cases (getBX hall 7 rfl : m7 = true)
   simp at hun; subst hun
   clear hall hi
   go_simp
   exact hK.out _ _ ⟨m0, m1, m2, m3, m4, m5, m6, true, true, m9, m10, m11, m12, rfl, rfl, by have h0 := HI.out; exact fun e => by first | rfl | exact h0 e, HM.out⟩
  ·cases ho
   cases (getBX hall 8 rfl : m8 = true)
   simp at hun; subst hun
   clear hall hi
   go_simp
   exact hK.out _ _ ⟨m0, m1, m2, m3, m4, m5, m6, m7, true, true, m10, m11, m12, rfl, rfl, by have h0 := HI.out; exact fun e => by first | rfl | exact h0 e, HM.out⟩
  ·cases ho
   cases (getBX hall 8 rfl : m8 = true)
   simp at hun; subst hun
   clear hall hi
   go_simp
   exact hK.out _ _ ⟨m0, m1, m2, m3, m4, m5, m6, m7, true, m9, true, m11, m12, rfl, rfl, by have h0 := HI.out; exact fun e => by first | rfl | exact h0 e, HM.out⟩
  ·cases ho
   cases (getBX hall 0 rfl : m0 = true)
   cases (getBX hall 9 rfl : m9 = true)
   simp at hun; subst hun
   clear hall hi
   have z0 : W.cell? ⟨w.heap.size + 1 + 1, 0, none⟩ = some (.int .i64 (-1)) := (HM.out.at_ 2 rfl).cell 0
   have f0 := (HM.out.at_ 2 rfl).frozen 0
   have z1 : W.cell? ⟨w.heap.size + 1 + 1, 1, none⟩ = some (.int .i64 1) := (HM.out.at_ 2 rfl).cell 1
   have f1 := (HM.out.at_ 2 rfl).frozen 1
   have z2 : W.cell? ⟨w.heap.size + 1 + 1, 2, none⟩ = some (.int .i64 0) := (HM.out.at_ 2 rfl).cell 2
   have f2 := (HM.out.at_ 2 rfl).frozen 2
   have z3 : W.cell? ⟨w.heap.size + 1 + 1, 3, none⟩ = some (.int .i64 1) := (HM.out.at_ 2 rfl).cell 3
   have f3 := (HM.out.at_ 2 rfl).frozen 3
   have HN := Lib.hid (HM.out.put4 2 rfl (.int .i64 c0) (.int .i64 c1) (.int .i64 c2) (.int .i64 c3))
   go_simp
   exact hK.out _ _ ⟨true, m1, m2, m3, m4, m5, m6, m7, m8, true, m10, true, m12, rfl, rfl, by have h0 := HI.out; exact fun e => by first | rfl | exact h0 e, HN.out⟩
  ·cases ho
   cases (getBX hall 10 rfl : m10 = true)
   simp at hun; subst hun
   clear hall hi
   go_simp
   exact hK.out _ _ ⟨m0, m1, m2, m3, m4, m5, m6, m7, m8, m9, true, m11, true, rfl, rfl, by have h0 := HI.out; exact fun e => by first | rfl | exact h0 e, HM.out⟩
 ·rintro l a W ⟨m0, m1, m2, m3, m4, m5, m6, m7, m8, m9, m10, m11, m12, rfl, rfl, _, hm⟩ hall
  cases (hall 0 (by decide) : m0 = true)
  cases (hall 1 (by decide) : m1 = true)
  cases (hall 2 (by decide) : m2 = true)
  cases (hall 3 (by decide) : m3 = true)
  cases (hall 4 (by decide) : m4 = true)
  cases (hall 5 (by decide) : m5 = true)
  cases (hall 6 (by decide) : m6 = true)
  cases (hall 7 (by decide) : m7 = true)
  cases (hall 8 (by decide) : m8 = true)
  cases (hall 9 (by decide) : m9 = true)
  cases (hall 10 (by decide) : m10 = true)
  cases (hall 11 (by decide) : m11 = true)
  cases (hall 12 (by decide) : m12 = true)
  clear hall
  have HQ : Hid (Hp w [(w.heap.size, 31, [.int .i64 x0, .int .i64 x1, .int .i64 x2, .int .i64 x3]), (w.heap.size + 1, 45, [.int .i64 0, .int .i64 0, .int .i64 0, .int .i64 0]), (w.heap.size + 1 + 1, 45, [.int .i64 c0, .int .i64 c1, .int .i64 c2, .int .i64 c3])] _) := Lib.hid hm
  clear hm
  dsimp only [cwX, cond_true]
  go_upto_region 5 with fail
  refine wp_regionJ 12 #[false, false, false, false, false, false, false, false, false, false, false, false] (fun l a W => ∃ (m0 m1 m2 m3 m4 m5 m6 m7 m8 m9 m10 m11 : Bool), l = #[m0, m1, m2, m3, m4, m5, m6, m7, m8, m9, m10, m11] ∧ a = ({ tmps := #[Value.agg #[Value.int IntKind.i64 x0, Value.int IntKind.i64 x1, Value.int IntKind.i64 x2, Value.int IntKind.i64 x3], Value.pointer (some { block := w.heap.size, off := 0 }), Value.pointer (some { block := w.heap.size + 1, off := 0 }), cwX m11 (.bool true) (Value.bool false), Value.pointer (some { block := w.heap.size + 1 + 1, off := 0 }), Value.bool true, Value.agg #[Value.int IntKind.i64 (-1), Value.int IntKind.i64 1, Value.int IntKind.i64 0], Value.agg #[Value.int IntKind.i64 (-1), Value.int IntKind.i64 1, Value.int IntKind.i64 0, Value.int IntKind.i64 1], Value.tuple #[ovv c0 c1 c2 c3, Value.bool true], Value.agg #[Value.int IntKind.i64 (-1), Value.int IntKind.i64 1, Value.int IntKind.i64 0, Value.int IntKind.i64 1], Value.agg #[Value.int IntKind.i64 (-19), Value.int IntKind.i64 12, Value.int IntKind.i64 0], Value.agg #[Value.int IntKind.i64 (-19), Value.int IntKind.i64 12, Value.int IntKind.i64 0, Value.int IntKind.i64 1], Value.pointer (some { block := w.heap.size, off := 0 }), Value.agg #[Value.int IntKind.i64 x0, Value.int IntKind.i64 x1], ovv a0 a1 a2 a3, ovv b0 b1 b2 b3, Value.tuple #[ovv c0 c1 c2 c3, Value.bool true], ovv c0 c1 c2 c3, Value.bool true, Value.bool true, Value.bool false, undef, cwX m0 (ovv c0 c1 c2 c3) (undef), cwX m1 (.agg #[.int .i64 (-4), .int .i64 4, .int .i64 (-1)]) (undef), cwX m2 (.agg #[.int .i64 (-4), .int .i64 4, .int .i64 (-1), .int .i64 1]) (undef), cwX m3 (.pointer (some ⟨w.heap.size, 2, none⟩)) (undef), cwX m4 (.agg #[.int .i64 x2, .int .i64 x3]) (undef), cwX m5 (ovv e0 e1 e2 e3) (undef), cwX m6 (ovv f0 f1 f2 f3) (undef), cwX m7 (.tuple #[ovv g0 g1 g2 g3, .bool true]) (undef), cwX m8 (ovv g0 g1 g2 g3) (undef), cwX m9 (.bool true) (undef)], defers := [] } : Act) ∧ (True) ∧ Hp w [(w.heap.size, 31, [.int .i64 x0, .int .i64 x1, .int .i64 x2, .int .i64 x3]), (w.heap.size + 1, 45, bif m10 then [.int .i64 g0, .int .i64 g1, .int .i64 g2, .int .i64 g3] else [.int .i64 0, .int .i64 0, .int .i64 0, .int .i64 0]), (w.heap.size + 1 + 1, 45, [.int .i64 c0, .int .i64 c1, .int .i64 c2, .int .i64 c3])] W) (by kernel_rfl) (by kernel_rfl) (by kernel_rfl) (by kernel_rfl) ?_ ?_ ?_ ?_
  ·rintro l a W ⟨m0, m1, m2, m3, m4, m5, m6, m7, m8, m9, m10, m11, rfl, _⟩
   rfl
  ·exact ⟨false, false, false, false, false, false, false, false, false, false, false, false, rfl, rfl, trivial, HQ.out.drew⟩
  ·rintro l a W i o ⟨m0, m1, m2, m3, m4, m5, m6, m7, m8, m9, m10, m11, rfl, rfl, hi0, hm⟩ ho hun hall K hK
   have hi : i < 12 := (Array.getElem?_eq_some_iff.1 ho).1
   have HM := Lib.hid hm
   have HI := Lib.hid hi0
   clear hm hi0
   rcases (show i = 0 ∨ i = 1 ∨ i = 2 ∨ i = 3 ∨ i = 4 ∨ i = 5 ∨ i = 6 ∨ i = 7 ∨ i = 8 ∨ i = 9 ∨ i = 10 ∨ i = 11 by omega) with rfl | rfl | rfl | rfl | rfl | rfl | rfl | rfl | rfl | rfl | rfl | rfl
   ·cases ho
    simp at hun; subst hun
    clear hall hi
    have y0 : W.cell? ⟨w.heap.size + 1 + 1, 0, none⟩ = some (.int .i64 c0) := (HM.out.at_ 2 rfl).cell 0
    have y1 : W.cell? ⟨w.heap.size + 1 + 1, 1, none⟩ = some (.int .i64 c1) := (HM.out.at_ 2 rfl).cell 1
    have y2 : W.cell? ⟨w.heap.size + 1 + 1, 2, none⟩ = some (.int .i64 c2) := (HM.out.at_ 2 rfl).cell 2
    have y3 : W.cell? ⟨w.heap.size + 1 + 1, 3, none⟩ = some (.int .i64 c3) := (HM.out.at_ 2 rfl).cell 3
    go_simp
    exact hK.out _ _ ⟨true, m1, m2, m3, m4, m5, m6, m7, m8, m9, m10, m11, rfl, rfl, trivial, HM.out⟩
   ·cases ho
    simp at hun; subst hun
    clear hall hi
    go_simp
    exact hK.out _ _ ⟨m0, true, m2, m3, m4, m5, m6, m7, m8, m9, m10, m11, rfl, rfl, trivial, HM.out⟩
   ·cases ho
    cases (getBX hall 1 rfl : m1 = true)
    simp at hun; subst hun
    clear hall hi
    go_simp
    exact hK.out _ _ ⟨m0, true, true, m3, m4, m5, m6, m7, m8, m9, m10, m11, rfl, rfl, trivial, HM.out⟩
   ·cases ho
    simp at hun; subst hun
    clear hall hi
    go_simp
    exact hK.out _ _ ⟨m0, m1, m2, true, m4, m5, m6, m7, m8, m9, m10, m11, rfl, rfl, trivial, HM.out⟩
   ·cases ho
    cases (getBX hall 3 rfl : m3 = true)
    simp at hun; subst hun
    clear hall hi
    have y2 : W.cell? ⟨w.heap.size, 2, none⟩ = some (.int .i64 x2) := (HM.out.at_ 0 rfl).cell 2
    have y3 : W.cell? ⟨w.heap.size, 3, none⟩ = some (.int .i64 x3) := (HM.out.at_ 0 rfl).cell 3
    go_simp
    exact hK.out _ _ ⟨m0, m1, m2, true, true, m5, m6, m7, m8, m9, m10, m11, rfl, rfl, trivial, HM.out⟩
   ·cases ho
    cases (getBX hall 2 rfl : m2 = true)
    cases (getBX hall 4 rfl : m4 = true)
    simp at hun; subst hun
    clear hall hi
    go_simp
    refine (HT2.out _).mono ?_
    rintro e W' ⟨rfl, hb⟩
    exact hK.out _ _ ⟨m0, m1, true, m3, true, true, m6, m7, m8, m9, m10, m11, rfl, rfl, trivial, HM.out.step hb⟩
   ·cases ho
    cases (getBX hall 0 rfl : m0 = true)
    cases (getBX hall 5 rfl : m5 = true)
    simp at hun; subst hun
    clear hall hi
    go_simp
    refine (HA2.out _).mono ?_
    rintro e W' ⟨rfl, hb⟩
    exact hK.out _ _ ⟨true, m1, m2, m3, m4, true, true, m7, m8, m9, m10, m11, rfl, rfl, trivial, HM.out.step hb⟩
   ·cases ho
    cases (getBX hall 6 rfl : m6 = true)
    simp at hun; subst hun
    clear hall hi
    go_simp
    refine (HO2.out _).mono ?_
    rintro e W' ⟨rfl, hb⟩
    exact hK.out _ _ ⟨m0, m1, m2, m3, m4, m5, true, true, m8, m9, m10, m11, rfl, rfl, trivial, HM.out.step hb⟩
   ·cases ho
    cases (getBX hall 7 rfl : m7 = true)
    simp at hun; subst hun
    clear hall hi
    go_simp
    exact hK.out _ _ ⟨m0, m1, m2, m3, m4, m5, m6, true, true, m9, m10, m11, rfl, rfl, trivial, HM.out⟩
   ·cases ho
    cases (getBX hall 7 rfl : m7 = true)
    simp at hun; subst hun
    clear hall hi
    go_simp
    exact hK.out _ _ ⟨m0, m1, m2, m3, m4, m5, m6, true, m8, true, m10, m11, rfl, rfl, trivial, HM.out⟩
   ·cases ho
    cases (getBX hall 8 rfl : m8 = true)
    simp at hun; subst hun
    clear hall hi
    have z0 : W.cell? ⟨w.heap.size + 1, 0, none⟩ = some (.int .i64 0) := (HM.out.at_ 1 rfl).cell 0
    have f0 := (HM.out.at_ 1 rfl).frozen 0
    have z1 : W.cell? ⟨w.heap.size + 1, 1, none⟩ = some (.int .i64 0) := (HM.out.at_ 1 rfl).cell 1
    have f1 := (HM.out.at_ 1 rfl).frozen 1
    have z2 : W.cell? ⟨w.heap.size + 1, 2, none⟩ = some (.int .i64 0) := (HM.out.at_ 1 rfl).cell 2
    have f2 := (HM.out.at_ 1 rfl).frozen 2
    have z3 : W.cell? ⟨w.heap.size + 1, 3, none⟩ = some (.int .i64 0) := (HM.out.at_ 1 rfl).cell 3
    have f3 := (HM.out.at_ 1 rfl).frozen 3
    have HN := Lib.hid (HM.out.put4 1 rfl (.int .i64 g0) (.int .i64 g1) (.int .i64 g2) (.int .i64 g3))
    go_simp
    exact hK.out _ _ ⟨m0, m1, m2, m3, m4, m5, m6, m7, true, m9, true, m11, rfl, rfl, trivial, HN.out⟩
   ·cases ho
    cases (getBX hall 9 rfl : m9 = true)
    simp at hun; subst hun
    clear hall hi
    go_simp
    exact hK.out _ _ ⟨m0, m1, m2, m3, m4, m5, m6, m7, m8, true, m10, true, rfl, rfl, trivial, HM.out⟩
  ·rintro l a W ⟨m0, m1, m2, m3, m4, m5, m6, m7, m8, m9, m10, m11, rfl, rfl, _, hm⟩ hall
   cases (hall 0 (by decide) : m0 = true)
   cases (hall 1 (by decide) : m1 = true)
   cases (hall 2 (by decide) : m2 = true)
   cases (hall 3 (by decide) : m3 = true)
   cases (hall 4 (by decide) : m4 = true)
   cases (hall 5 (by decide) : m5 = true)
   cases (hall 6 (by decide) : m6 = true)
   cases (hall 7 (by decide) : m7 = true)
   cases (hall 8 (by decide) : m8 = true)
   cases (hall 9 (by decide) : m9 = true)
   cases (hall 10 (by decide) : m10 = true)
   cases (hall 11 (by decide) : m11 = true)
   clear hall
   have hq := hm
   clear hm
   have z0 := (hq.at_ 1 rfl).cell 0
   have z1 := (hq.at_ 1 rfl).cell 1
   have z2 := (hq.at_ 1 rfl).cell 2
   have z3 := (hq.at_ 1 rfl).cell 3
   simp only [cond_true, List.getElem?_cons_succ, List.getElem?_cons_zero] at z0 z1 z2 z3
   have HB := Lib.hid hq.below
   clear hq
   dsimp only [cwX, cond_true]
   go_wp2
   exact bodyPost_ret (v := .tuple #[ovv g0 g1 g2 g3, .bool true]) (by simp [results, Tryz.results15, go_sem, z0, z1, z2, z3]) rfl ⟨rfl, HB.out⟩
set_option maxRecDepth 1000000 in
set_option maxHeartbeats 4000000 in
theorem lsum_gen (C : Nat → Tm) (n : Nat) (F0 F1 F2 F3 G0 G1 G2 G3 V0 V1 V2 V3 : Nat → Int) (w : World) (hn : n ≤ 12) (hv : V0 0 = 0 ∧ V1 0 = 0 ∧ V2 0 = 0 ∧ V3 0 = 1)
  (hF : ∀ (i : Nat) (W : World), i < 12 → Calls Tryz.prog 15 #[.agg (tmC (C i)).toArray] W fun e w' => e = .returned (.tuple #[ovv (F0 i) (F1 i) (F2 i) (F3 i), .bool true]) ∧ Below W.heap.size W w')
  (hA : ∀ (i : Nat) (W : World), i < 12 → Calls Tryz.prog 19 #[ovv (V0 i) (V1 i) (V2 i) (V3 i), ovv (F0 i) (F1 i) (F2 i) (F3 i), .int .i64 1] W fun e w' => e = .returned (ovv (G0 i) (G1 i) (G2 i) (G3 i)) ∧ Below W.heap.size W w')
  (hO : ∀ (i : Nat) (W : World), i < 12 → Calls Tryz.prog 18 #[ovv (G0 i) (G1 i) (G2 i) (G3 i)] W fun e w' => e = .returned (.tuple #[ovv (V0 (i + 1)) (V1 (i + 1)) (V2 (i + 1)) (V3 (i + 1)), .bool true]) ∧ Below W.heap.size W w') :
  Calls Tryz.prog 17 #[.agg (cirL C).toArray, .int .i64 (n : Int)] w fun e w' => e = .returned (.tuple #[ovv (V0 n) (V1 n) (V2 n) (V3 n), .bool true]) ∧ Below w.heap.size w w' := by
 have HF := Lib.hid hF
 have HA := Lib.hid hA
 have HO := Lib.hid hO
 have hm0 := (((Hp.start w).new 33 (cirL C)).new 45 [.int .i64 0, .int .i64 0, .int .i64 0, .int .i64 0]).new 45 [.int .i64 0, .int .i64 0, .int .i64 0, .int .i64 1]
 simp only [World.size_alloc, List.nil_append, List.cons_append] at hm0
 have HM0 := Lib.hid (hm0.cast (L' := [(w.heap.size, 33, cirL C), (w.heap.size + 1, 45, [.int .i64 0, .int .i64 0, .int .i64 0, .int .i64 0]), (w.heap.size + 1 + 1, 45, [.int .i64 (V0 0), .int .i64 (V1 0), .int .i64 (V2 0), .int .i64 (V3 0)])]) (by rw [hv.1, hv.2.1, hv.2.2.1, hv.2.2.2]))
 clear hm0 hF hA hO hv
 go_enter Tryz.func17, Tryz.ntmps17
 go_wp2_with fail
 go_loopw [12] (fun v W => ∃ i : Nat, v = .int .i64 (i : Int) ∧ i ≤ n ∧ Hp w [(w.heap.size, 33, cirL C), (w.heap.size + 1, 45, [.int .i64 0, .int .i64 0, .int .i64 0, .int .i64 0]), (w.heap.size + 1 + 1, 45, [.int .i64 (V0 i), .int .i64 (V1 i), .int .i64 (V2 i), .int .i64 (V3 i)])] W) (fun v _ => n - (intOf v).toNat)
 case atStart => exact ⟨0, rfl, by omega, HM0.out⟩
 case round =>
  obtain ⟨i, rfl, hi, hm⟩ := hrel
  by_cases hil : i < n
  ·obtain ⟨v0, hv0⟩ : ∃ y, y = V0 i := ⟨_, rfl⟩
   obtain ⟨v1, hv1⟩ : ∃ y, y = V1 i := ⟨_, rfl⟩
   obtain ⟨v2, hv2⟩ : ∃ y, y = V2 i := ⟨_, rfl⟩
   obtain ⟨v3, hv3⟩ : ∃ y, y = V3 i := ⟨_, rfl⟩
   rw [← hv0, ← hv1, ← hv2, ← hv3] at hm
   have hF := fun W => HF.out i W (by omega)
   have hA := fun W => HA.out i W (by omega)
   have hO := fun W => HO.out i W (by omega)
   rw [← hv0, ← hv1, ← hv2, ← hv3] at hA
   clear hv0 hv1 hv2 hv3
   obtain ⟨f0, hf0⟩ : ∃ y, y = F0 i := ⟨_, rfl⟩
   obtain ⟨f1, hf1⟩ : ∃ y, y = F1 i := ⟨_, rfl⟩
   obtain ⟨f2, hf2⟩ : ∃ y, y = F2 i := ⟨_, rfl⟩
   obtain ⟨f3, hf3⟩ : ∃ y, y = F3 i := ⟨_, rfl⟩
   obtain ⟨g0, hg0⟩ : ∃ y, y = G0 i := ⟨_, rfl⟩
   obtain ⟨g1, hg1⟩ : ∃ y, y = G1 i := ⟨_, rfl⟩
   obtain ⟨g2, hg2⟩ : ∃ y, y = G2 i := ⟨_, rfl⟩
   obtain ⟨g3, hg3⟩ : ∃ y, y = G3 i := ⟨_, rfl⟩
   obtain ⟨n0, hn0⟩ : ∃ y, y = V0 (i + 1) := ⟨_, rfl⟩
   obtain ⟨n1, hn1⟩ : ∃ y, y = V1 (i + 1) := ⟨_, rfl⟩
   obtain ⟨n2, hn2⟩ : ∃ y, y = V2 (i + 1) := ⟨_, rfl⟩
   obtain ⟨n3, hn3⟩ : ∃ y, y = V3 (i + 1) := ⟨_, rfl⟩
   rw [← hf0, ← hf1, ← hf2, ← hf3] at hF hA
   rw [← hg0, ← hg1, ← hg2, ← hg3] at hA hO
   rw [← hn0, ← hn1, ← hn2, ← hn3] at hO
   have HFI := Lib.hid hF
   have HAI := Lib.hid hA
   have HOI := Lib.hid hO
   have HNX := Lib.hid (show (n0 = V0 (i + 1) ∧ n1 = V1 (i + 1)) ∧ n2 = V2 (i + 1) ∧ n3 = V3 (i + 1) from ⟨⟨hn0, hn1⟩, hn2, hn3⟩)
   clear hF hA hO hf0 hf1 hf2 hf3 hg0 hg1 hg2 hg3 hn0 hn1 hn2 hn3
   have hi12 : i < 12 := by omega
   have hini : (i : Int) < (n : Int) := by omega
   have hii : (0 : Int) ≤ (i : Int) := by omega
   have hi12i : (i : Int) < 12 := by omega
   have HMR := Lib.hid hm
   obtain ⟨t0, t1, t2, t3⟩ := cir_cells (hm.at_ 0 rfl) hi12
   clear hm
   go_wp2_with fail
   refine (HFI.out _).mono ?_
   rintro e w1 ⟨rfl, hb1⟩
   have hm1 := (HMR.out.step hb1).new 45 [.int .i64 f0, .int .i64 f1, .int .i64 f2, .int .i64 f3]
   simp only [List.nil_append, List.cons_append] at hm1
   have x0 := (hm1.at_ 2 rfl).cell 0
   have y0 := (hm1.at_ 3 rfl).cell 0
   have x1 := (hm1.at_ 2 rfl).cell 1
   have y1 := (hm1.at_ 3 rfl).cell 1
   have x2 := (hm1.at_ 2 rfl).cell 2
   have y2 := (hm1.at_ 3 rfl).cell 2
   have x3 := (hm1.at_ 2 rfl).cell 3
   have y3 := (hm1.at_ 3 rfl).cell 3
   simp only [List.getElem?_cons_succ, List.getElem?_cons_zero] at x0 x1 x2 x3 y0 y1 y2 y3
   have HM1 := Lib.hid hm1
   clear hb1 hm1 t0 t1 t2 t3
   go_wp2_with fail
   refine (HAI.out _).mono ?_
   rintro e w2 ⟨rfl, hb2⟩
   have HM2 := Lib.hid (HM1.out.step hb2)
   clear hb2 x0 x1 x2 x3 y0 y1 y2 y3
   go_wp2_with fail
   refine (HOI.out _).mono ?_
   rintro e w3 ⟨rfl, hb3⟩
   have hm3 := HM2.out.step hb3
   have z0 := (hm3.at_ 2 rfl).cell 0
   have q0 := (hm3.at_ 2 rfl).frozen 0
   have z1 := (hm3.at_ 2 rfl).cell 1
   have q1 := (hm3.at_ 2 rfl).frozen 1
   have z2 := (hm3.at_ 2 rfl).cell 2
   have q2 := (hm3.at_ 2 rfl).frozen 2
   have z3 := (hm3.at_ 2 rfl).cell 3
   have q3 := (hm3.at_ 2 rfl).frozen 3
   simp only [List.getElem?_cons_succ, List.getElem?_cons_zero] at z0 z1 z2 z3
   have HRL := Lib.hid (((hm3.put4 2 rfl (.int .i64 n0) (.int .i64 n1) (.int .i64 n2) (.int .i64 n3)).sub (L' := [(w.heap.size, 33, cirL C), (w.heap.size + 1, 45, [.int .i64 0, .int .i64 0, .int .i64 0, .int .i64 0]), (w.heap.size + 1 + 1, 45, [.int .i64 n0, .int .i64 n1, .int .i64 n2, .int .i64 n3])]) (by simp)).cast (L' := [(w.heap.size, 33, cirL C), (w.heap.size + 1, 45, [.int .i64 0, .int .i64 0, .int .i64 0, .int .i64 0]), (w.heap.size + 1 + 1, 45, [.int .i64 (V0 (i + 1)), .int .i64 (V1 (i + 1)), .int .i64 (V2 (i + 1)), .int .i64 (V3 (i + 1))])]) (by rw [HNX.out.1.1, HNX.out.1.2, HNX.out.2.1, HNX.out.2.2]))
   clear hb3 hm3
   go_wp2
   go_roundw
   case rel => exact ⟨i + 1, rfl, by omega, HRL.out⟩
   case measure => simp [intOf]; omega
  ·obtain rfl : i = n := by omega
   have z0 := (hm.at_ 1 rfl).cell 0
   have z1 := (hm.at_ 1 rfl).cell 1
   have z2 := (hm.at_ 1 rfl).cell 2
   have z3 := (hm.at_ 1 rfl).cell 3
   have f0 := (hm.at_ 1 rfl).frozen 0
   have f1 := (hm.at_ 1 rfl).frozen 1
   have f2 := (hm.at_ 1 rfl).frozen 2
   have f3 := (hm.at_ 1 rfl).frozen 3
   have y0 := (hm.at_ 2 rfl).cell 0
   have y1 := (hm.at_ 2 rfl).cell 1
   have y2 := (hm.at_ 2 rfl).cell 2
   have y3 := (hm.at_ 2 rfl).cell 3
   simp only [List.getElem?_cons_succ, List.getElem?_cons_zero] at z0 z1 z2 z3 y0 y1 y2 y3
   have HB := Lib.hid (hm.put4 1 rfl (.int .i64 (V0 i)) (.int .i64 (V1 i)) (.int .i64 (V2 i)) (.int .i64 (V3 i))).below
   clear hm
   go_wp2
   exact bodyPost_ret (v := .tuple #[ovv (V0 i) (V1 i) (V2 i) (V3 i), .bool true]) (by simp [results, Tryz.results17, go_sem, z0, z1, z2, z3, f0, f1, f2, f3]) rfl ⟨rfl, HB.out⟩
def nrm (x y z d : Int) : Int × Int × Int × Int :=
 match prt [(lowN x d, lowD x d), (lowN y d, lowD y d), (lowN z d, lowD z d)] with
 | some ([X, Y, Z], D) => (X, Y, Z, D)
 | _ => (0, 0, 0, 1)
abbrev ovn (n : Int × Int × Int × Int) : Value := ovv n.1 n.2.1 n.2.2.1 n.2.2.2
structure NrmOk (x y z d : Int) (n : Int × Int × Int × Int) : Prop where
 den : 1 ≤ n.2.2.2 ∧ n.2.2.2 ≤ d
 ex : n.1 * d = x * n.2.2.2
 ey : n.2.1 * d = y * n.2.2.2
 ez : n.2.2.1 * d = z * n.2.2.2
theorem nrm_prt {x y z d : Int} (hd : 1 ≤ d ∧ d ≤ 240) (h : Bx x y z) : prt [(lowN x d, lowD x d), (lowN y d, lowD y d), (lowN z d, lowD z d)] = some ([(nrm x y z d).1, (nrm x y z d).2.1, (nrm x y z d).2.2.1], (nrm x y z d).2.2.2) ∧ NrmOk x y z d (nrm x y z d) := by
 obtain ⟨_, X, Y, Z, D, hp, hD, e0, e1, e2⟩ := plan_prt hd h.1 h.2.1 h.2.2
 have hn : nrm x y z d = (X, Y, Z, D) := by unfold nrm; rw [hp]
 rw [hn]
 exact ⟨hp, hD, e0, e1, e2⟩
theorem nrm_ok {x y z d : Int} (hd : 1 ≤ d ∧ d ≤ 240) (h : Bx x y z) : NrmOk x y z d (nrm x y z d) := (nrm_prt hd h).2
theorem cross_bd {X x D d M : Int} (hD : 1 ≤ D ∧ D ≤ d) (e : X * d = x * D) (hx : -M ≤ x ∧ x ≤ M) (hM : 0 ≤ M) : -M ≤ X ∧ X ≤ M := by
 constructor
 ·by_cases c : -M ≤ X
  ·exact c
  ·have h1 : (X + M) * d ≤ (-1) * d := Int.mul_le_mul_of_nonneg_right (by omega) (by omega)
   have h2 : 0 ≤ (x + M) * D := Int.mul_nonneg (by omega) (by omega)
   have h3 : M * D ≤ M * d := Int.mul_le_mul_of_nonneg_left hD.2 hM
   rw [Int.add_mul] at h1 h2
   omega
 ·by_cases c : X ≤ M
  ·exact c
  ·have h1 : 1 * d ≤ (X - M) * d := Int.mul_le_mul_of_nonneg_right (by omega) (by omega)
   have h2 : 0 ≤ (M - x) * D := Int.mul_nonneg (by omega) (by omega)
   have h3 : M * D ≤ M * d := Int.mul_le_mul_of_nonneg_left hD.2 hM
   rw [Int.sub_mul] at h1 h2
   omega
theorem NrmOk.bd {x y z d : Int} {n : Int × Int × Int × Int} (h : NrmOk x y z d n) (hb : Bx x y z) : Bx n.1 n.2.1 n.2.2.1 :=
 ⟨cross_bd h.den h.ex hb.1 (by decide), cross_bd h.den h.ey hb.2.1 (by decide), cross_bd h.den h.ez hb.2.2 (by decide)⟩
theorem add_cross {X x D U u E k d : Int} (h1 : X * d = x * D) (h2 : U * d = u * E) : (X * E + k * U * D) * d = (x + k * u) * (D * E) := by
 have e1 : (X * E + k * U * D) * d = X * d * E + k * (U * d * D) := by
  rw [Int.add_mul, Int.mul_right_comm X E d, Int.mul_right_comm (k * U) D d, Int.mul_assoc k U d, Int.mul_assoc k]
 rw [e1, h1, h2, Int.add_mul, Int.mul_assoc x, Int.mul_assoc k u, Int.mul_assoc u E D, Int.mul_comm E D]
theorem tim_cross {n q p d c : Int} (h : n * d = p * q) : (c * n) * d = (c * p) * (1 * q) := by
 rw [Int.one_mul, Int.mul_assoc, h, Int.mul_assoc]
theorem low_bd {n d : Int} (hd : 0 < d) {M : Int} (hn : -M ≤ n ∧ n ≤ M) (hM : 0 ≤ M) : (-M ≤ lowN n d ∧ lowN n d ≤ M) ∧ 1 ≤ lowD n d ∧ lowD n d ≤ d := by
 obtain ⟨g, hg, h1, h2, h3, _⟩ := low_mul n d hd
 have hD : lowD n d ≤ d := by
  have : 1 * lowD n d ≤ g * lowD n d := Int.mul_le_mul_of_nonneg_right (by omega) (by omega)
  omega
 exact ⟨cross_bd ⟨h3, hD⟩ (rd_low hd) hn hM, h3, hD⟩
theorem lover_at {n0 n1 n2 E x y z d : Int} (w : World) (hd : 1 ≤ d ∧ d ≤ 240) (h : Bx x y z) (hE : 0 < E ∧ E ≤ 4611686018427387904) (b0 : -4611686018427387904 ≤ n0 ∧ n0 ≤ 4611686018427387904) (b1 : -4611686018427387904 ≤ n1 ∧ n1 ≤ 4611686018427387904) (b2 : -4611686018427387904 ≤ n2 ∧ n2 ≤ 4611686018427387904)
  (e0 : n0 * d = x * E) (e1 : n1 * d = y * E) (e2 : n2 * d = z * E) :
  Calls Tryz.prog 18 #[ovv n0 n1 n2 E] w fun e w' => e = .returned (.tuple #[ovn (nrm x y z d), .bool true]) ∧ Below w.heap.size w w' := by
 have hp : 0 < d := by omega
 obtain ⟨l0, l1⟩ := low_cross hE.1 hp e0
 obtain ⟨l2, l3⟩ := low_cross hE.1 hp e1
 obtain ⟨l4, l5⟩ := low_cross hE.1 hp e2
 obtain ⟨hr, _⟩ := plan_prt hd h.1 h.2.1 h.2.2
 have hR := nrm_prt hd h
 refine lover_gen n0 n1 n2 E (lowN x d) (lowD x d) (lowN y d) (lowD y d) (lowN z d) (lowD z d) _ _ _ _ w (fun W => ?_) (hr (lowN x d, lowD x d) (by simp)) (hr (lowN y d, lowD y d) (by simp)) (hr (lowN z d, lowD z d) (by simp)) (fun W => ?_)
 ·have := write_any n0 n1 n2 E W b0 b1 b2 hE.1 hE.2
  rwa [l0, l1, l2, l3, l4, l5] at this
 ·have := read_any (lowN x d) (lowD x d) (lowN y d) (lowD y d) (lowN z d) (lowD z d) W
  rwa [rdV_ok hr hR.1] at this
theorem lsize_at {n0 n1 n2 E x y z d : Int} (w : World) (hd : 0 < d) (hE : 0 < E ∧ E ≤ 4611686018427387904) (b0 : -4611686018427387904 ≤ n0 ∧ n0 ≤ 4611686018427387904) (b1 : -4611686018427387904 ≤ n1 ∧ n1 ≤ 4611686018427387904) (b2 : -4611686018427387904 ≤ n2 ∧ n2 ≤ 4611686018427387904)
  (e0 : n0 * d = x * E) (e1 : n1 * d = y * E) (e2 : n2 * d = z * E) :
  Calls Tryz.prog 16 #[ovv n0 n1 n2 E] w fun e w' => e = .returned (szD x y z d) ∧ Below w.heap.size w w' := by
 obtain ⟨l0, l1⟩ := low_cross hE.1 hd e0
 obtain ⟨l2, l3⟩ := low_cross hE.1 hd e1
 obtain ⟨l4, l5⟩ := low_cross hE.1 hd e2
 refine lsize_gen n0 n1 n2 E (lowN x d) (lowD x d) (lowN y d) (lowD y d) (lowN z d) (lowD z d) w (fun W => ?_)
 have := write_any n0 n1 n2 E W b0 b1 b2 hE.1 hE.2
 rwa [l0, l1, l2, l3, l4, l5] at this
theorem lsize_nrm {x y z d : Int} (w : World) (hd : 1 ≤ d ∧ d ≤ 240) (h : Bx x y z) :
  Calls Tryz.prog 16 #[ovn (nrm x y z d)] w fun e w' => e = .returned (szD x y z d) ∧ Below w.heap.size w w' := by
 have hn := nrm_ok hd h
 have hb := hn.bd h
 unfold Bx at hb
 have hD := hn.den
 exact lsize_at w (by omega) (by omega) (by omega) (by omega) (by omega) hn.ex hn.ey hn.ez
section
variable {d : Int} {P S : Nat → Int} (h : PlnC d P S)
include h
theorem stF_Bx {i : Nat} (hi : i < 12) (k : Nat) (hk : k ≤ 2) : Bx (stF d (P i) (S i) k).1 (stF d (P i) (S i) k).2.1 (stF d (P i) (S i) k).2.2 := by
 have hd := h.d
 have hp := h.p i hi
 have hs := h.s i hi
 unfold Bx
 rcases (show k = 0 ∨ k = 1 ∨ k = 2 by omega) with rfl | rfl | rfl <;> simp only [stF] <;> omega
theorem lfifth_pl {i : Nat} (hi : i < 12) (w : World) :
  Calls Tryz.prog 15 #[.agg (tmC (cirP d P S i)).toArray] w fun e w' => e = .returned (.tuple #[ovn (nrm (stF d (P i) (S i) 2).1 (stF d (P i) (S i) 2).2.1 (stF d (P i) (S i) 2).2.2 d), .bool true]) ∧ Below w.heap.size w w' := by
 have hd := h.d
 have hp := h.p i hi
 have hs := h.s i hi
 have hB1 := stF_Bx h hi 1 (by decide)
 have hB2 := stF_Bx h hi 2 (by decide)
 have r1 := rd_low (n := P i) (M := d) (by omega)
 have r2 := rd_low (n := S i) (M := d) (by omega)
 obtain ⟨⟨p1, p2⟩, p3, p4⟩ := low_bd (n := P i) (d := d) (by omega) (M := 100) (by omega) (by decide)
 obtain ⟨⟨s1, s2⟩, s3, s4⟩ := low_bd (n := S i) (d := d) (by omega) (M := 100) (by omega) (by decide)
 have hn := nrm_ok (d := d) (by omega) hB1
 have hnb := hn.bd hB1
 have hnd := hn.den
 unfold Bx at hnb
 show Calls _ _ #[.agg #[.int .i64 (lowN (P i) d), .int .i64 (lowD (P i) d), .int .i64 (lowN (S i) d), .int .i64 (lowD (S i) d)]] _ _
 generalize lowN (P i) d = n at *
 generalize lowD (P i) d = q at *
 generalize lowN (S i) d = m at *
 generalize lowD (S i) d = r at *
 generalize hc : nrm (stF d (P i) (S i) 1).1 (stF d (P i) (S i) 1).2.1 (stF d (P i) (S i) 1).2.2 d = c at *
 obtain ⟨c0, c1, c2, c3⟩ := c
 dsimp only at hnb hnd
 refine lfifth_gen n q m r (-19 * n) (12 * n) (0 * n) (1 * q) _ _ _ _ c0 c1 c2 c3 (-4 * m) (4 * m) (-1 * m) (1 * r) _ _ _ _ _ _ _ _ w (fun W => ltimes_any (-19) 12 0 1 n q W (by omega) (by omega) (by omega) (by omega) (by omega) (by omega)) (fun W => radd_any (-1) 1 0 1 (-19 * n) (12 * n) (0 * n) (1 * q) (-1) W (by omega) (by omega) (by omega) (by omega) (by omega) (by omega) (by omega) (by omega) (.inr rfl)) (fun W => ?_) (fun W => ltimes_any (-4) 4 (-1) 1 m r W (by omega) (by omega) (by omega) (by omega) (by omega) (by omega)) (fun W => radd_any c0 c1 c2 c3 (-4 * m) (4 * m) (-1 * m) (1 * r) (-1) W (by omega) (by omega) (by omega) (by omega) (by omega) (by omega) (by omega) (by omega) (.inr rfl)) (fun W => ?_)
 ·have a0 := add_cross (X := -1) (x := -d) (D := 1) (k := -1) (d := d) (by omega) (tim_cross (c := -19) r1)
  have a1 := add_cross (X := 1) (x := d) (D := 1) (k := -1) (d := d) (by omega) (tim_cross (c := 12) r1)
  have a2 := add_cross (X := 0) (x := 0) (D := 1) (k := -1) (d := d) (by omega) (tim_cross (c := 0) r1)
  rw [show -d + -1 * (-19 * P i) = (stF d (P i) (S i) 1).1 by simp only [stF]; omega] at a0
  rw [show d + -1 * (12 * P i) = (stF d (P i) (S i) 1).2.1 by simp only [stF]; omega] at a1
  rw [show 0 + -1 * (0 * P i) = (stF d (P i) (S i) 1).2.2 by simp only [stF]; omega] at a2
  have := lover_at W (by omega) hB1 (by omega) (by omega) (by omega) (by omega) a0 a1 a2
  rw [hc] at this
  exact this
 ·have a0 := add_cross (k := -1) hn.ex (tim_cross (c := -4) r2)
  have a1 := add_cross (k := -1) hn.ey (tim_cross (c := 4) r2)
  have a2 := add_cross (k := -1) hn.ez (tim_cross (c := -1) r2)
  rw [show (stF d (P i) (S i) 1).1 + -1 * (-4 * S i) = (stF d (P i) (S i) 2).1 by simp only [stF]; omega] at a0
  rw [show (stF d (P i) (S i) 1).2.1 + -1 * (4 * S i) = (stF d (P i) (S i) 2).2.1 by simp only [stF]; omega] at a1
  rw [show (stF d (P i) (S i) 1).2.2 + -1 * (-1 * S i) = (stF d (P i) (S i) 2).2.2 by simp only [stF]; omega] at a2
  have b := fun X U : Int => fun (hx : -6000 ≤ X ∧ X ≤ 6000) (hu : -6000 ≤ U ∧ U ≤ 6000) => (radd_bd (x := X) (u := U) (D := c3) (E := 1 * r) (k := -1) (by omega) (by omega) (by omega) (by omega) (.inr rfl)).2.2.2.2
  have b0 := b c0 (-4 * m) (by omega) (by omega)
  have b1 := b c1 (4 * m) (by omega) (by omega)
  have b2 := b c2 (-1 * m) (by omega) (by omega)
  have hE1 : 1 * 1 ≤ c3 * (1 * r) := Int.mul_le_mul (by omega) (by omega) (by decide) (by omega)
  have hE2 : c3 * (1 * r) ≤ 12 * 12 := Int.mul_le_mul (by omega) (by omega) (by omega) (by decide)
  exact lover_at W (by omega) hB2 (by omega) (by omega) (by omega) (by omega) a0 a1 a2
end
theorem infoPlan41 : (Tryz.prog.info? 26).map (·.size) = some 26 := by kernel_rfl
theorem nrm_zero {d : Int} (hd : 1 ≤ d ∧ d ≤ 240) : nrm 0 0 0 d = (0, 0, 0, 1) := by
 have e := low_cross (n := 0) (d := d) (m := 0) (e := 1) (by omega) (by decide) (by rw [Int.zero_mul, Int.zero_mul])
 have l := t_low_one 0
 unfold nrm
 rw [e.1, e.2, l.1, l.2, t_prt_ones (by decide) (by decide) (by decide)]
section
variable {d : Int} {P S : Nat → Int} (h : PlnC d P S)
include h
theorem lsum_pl {n : Nat} (hn : n ≤ 12) (w : World) :
  Calls Tryz.prog 17 #[.agg (cirL (cirP d P S)).toArray, .int .i64 (n : Int)] w fun e w' => e = .returned (.tuple #[ovn (nrm (vS d P S n).1 (vS d P S n).2.1 (vS d P S n).2.2 d), .bool true]) ∧ Below w.heap.size w w' := by
 have hd := h.d
 have hv0 := nrm_zero (d := d) (by omega)
 have hV := fun i (hi : i ≤ 12) => nrm_ok (d := d) (by omega) (vS_Bx h (k := i) hi)
 have hF := fun i (hi : i < 12) => nrm_ok (d := d) (by omega) (stF_Bx h hi 2 (by decide))
 have hVb := fun i (hi : i ≤ 12) => (hV i hi).bd (vS_Bx h (k := i) hi)
 have hFb := fun i (hi : i < 12) => (hF i hi).bd (stF_Bx h hi 2 (by decide))
 unfold Bx at hVb hFb
 refine lsum_gen (cirP d P S) n (fun i => (nrm (stF d (P i) (S i) 2).1 (stF d (P i) (S i) 2).2.1 (stF d (P i) (S i) 2).2.2 d).1) (fun i => (nrm (stF d (P i) (S i) 2).1 (stF d (P i) (S i) 2).2.1 (stF d (P i) (S i) 2).2.2 d).2.1) (fun i => (nrm (stF d (P i) (S i) 2).1 (stF d (P i) (S i) 2).2.1 (stF d (P i) (S i) 2).2.2 d).2.2.1) (fun i => (nrm (stF d (P i) (S i) 2).1 (stF d (P i) (S i) 2).2.1 (stF d (P i) (S i) 2).2.2 d).2.2.2)
  (fun i => (nrm (vS d P S i).1 (vS d P S i).2.1 (vS d P S i).2.2 d).1 * (nrm (stF d (P i) (S i) 2).1 (stF d (P i) (S i) 2).2.1 (stF d (P i) (S i) 2).2.2 d).2.2.2 + 1 * (nrm (stF d (P i) (S i) 2).1 (stF d (P i) (S i) 2).2.1 (stF d (P i) (S i) 2).2.2 d).1 * (nrm (vS d P S i).1 (vS d P S i).2.1 (vS d P S i).2.2 d).2.2.2)
  (fun i => (nrm (vS d P S i).1 (vS d P S i).2.1 (vS d P S i).2.2 d).2.1 * (nrm (stF d (P i) (S i) 2).1 (stF d (P i) (S i) 2).2.1 (stF d (P i) (S i) 2).2.2 d).2.2.2 + 1 * (nrm (stF d (P i) (S i) 2).1 (stF d (P i) (S i) 2).2.1 (stF d (P i) (S i) 2).2.2 d).2.1 * (nrm (vS d P S i).1 (vS d P S i).2.1 (vS d P S i).2.2 d).2.2.2)
  (fun i => (nrm (vS d P S i).1 (vS d P S i).2.1 (vS d P S i).2.2 d).2.2.1 * (nrm (stF d (P i) (S i) 2).1 (stF d (P i) (S i) 2).2.1 (stF d (P i) (S i) 2).2.2 d).2.2.2 + 1 * (nrm (stF d (P i) (S i) 2).1 (stF d (P i) (S i) 2).2.1 (stF d (P i) (S i) 2).2.2 d).2.2.1 * (nrm (vS d P S i).1 (vS d P S i).2.1 (vS d P S i).2.2 d).2.2.2)
  (fun i => (nrm (vS d P S i).1 (vS d P S i).2.1 (vS d P S i).2.2 d).2.2.2 * (nrm (stF d (P i) (S i) 2).1 (stF d (P i) (S i) 2).2.1 (stF d (P i) (S i) 2).2.2 d).2.2.2)
  (fun i => (nrm (vS d P S i).1 (vS d P S i).2.1 (vS d P S i).2.2 d).1) (fun i => (nrm (vS d P S i).1 (vS d P S i).2.1 (vS d P S i).2.2 d).2.1) (fun i => (nrm (vS d P S i).1 (vS d P S i).2.1 (vS d P S i).2.2 d).2.2.1) (fun i => (nrm (vS d P S i).1 (vS d P S i).2.1 (vS d P S i).2.2 d).2.2.2)
  w hn (by simp only [vS]; rw [hv0]; exact ⟨rfl, rfl, rfl, rfl⟩) (fun i W hi => lfifth_pl h hi W) (fun i W hi => ?_) (fun i W hi => ?_)
 ·have a := hVb i (by omega)
  have b := hFb i hi
  have c := (hV i (by omega)).den
  have e := (hF i hi).den
  exact radd_any _ _ _ _ _ _ _ _ 1 W (by omega) (by omega) (by omega) (by omega) (by omega) (by omega) (by omega) (by omega) (.inl rfl)
 ·have a := hVb i (by omega)
  have b := hFb i hi
  have c := (hV i (by omega)).den
  have e := (hF i hi).den
  have a0 := add_cross (k := 1) (hV i (by omega)).ex (hF i hi).ex
  have a1 := add_cross (k := 1) (hV i (by omega)).ey (hF i hi).ey
  have a2 := add_cross (k := 1) (hV i (by omega)).ez (hF i hi).ez
  rw [show (vS d P S i).1 + 1 * (stF d (P i) (S i) 2).1 = (vS d P S (i + 1)).1 by simp only [vS]; omega] at a0
  rw [show (vS d P S i).2.1 + 1 * (stF d (P i) (S i) 2).2.1 = (vS d P S (i + 1)).2.1 by simp only [vS]; omega] at a1
  rw [show (vS d P S i).2.2 + 1 * (stF d (P i) (S i) 2).2.2 = (vS d P S (i + 1)).2.2 by simp only [vS]; omega] at a2
  have hnx := vS_Bx h (k := i + 1) (by omega)
  generalize nrm (vS d P S i).1 (vS d P S i).2.1 (vS d P S i).2.2 d = u at *
  generalize nrm (stF d (P i) (S i) 2).1 (stF d (P i) (S i) 2).2.1 (stF d (P i) (S i) 2).2.2 d = v at *
  have q := fun X U : Int => fun (hx : -6000 ≤ X ∧ X ≤ 6000) (hu : -6000 ≤ U ∧ U ≤ 6000) => (radd_bd (x := X) (u := U) (D := u.2.2.2) (E := v.2.2.2) (k := 1) (by omega) (by omega) (by omega) (by omega) (.inl rfl)).2.2.2.2
  have q0 := q u.1 v.1 (by omega) (by omega)
  have q1 := q u.2.1 v.2.1 (by omega) (by omega)
  have q2 := q u.2.2.1 v.2.2.1 (by omega) (by omega)
  have hE1 : 1 * 1 ≤ u.2.2.2 * v.2.2.2 := Int.mul_le_mul (by omega) (by omega) (by decide) (by omega)
  have hE2 : u.2.2.2 * v.2.2.2 ≤ 12 * 12 := Int.mul_le_mul (by omega) (by omega) (by omega) (by decide)
  exact lover_at W (by omega) hnx (by omega) (by omega) (by omega) (by omega) a0 a1 a2
end
theorem run_max_six (ts : Array TypeId) (t : TypeId) (a b c : Int) : ∃ m, (∀ w, (Builtin.max_ ts t #[.int .i64 a, .int .i64 (-a), .int .i64 b, .int .i64 (-b), .int .i64 c, .int .i64 (-c)]).run Tryz.prog w = .ok (.int .i64 m) w) ∧ decide (m ≤ 900) = shB a b c := by
 refine ⟨_, fun w => by simp [Builtin.max_, Builtin.max2]; rfl, ?_⟩
 unfold shB
 rw [decide_eq_decide]
 repeat' split
 all_goals omega
set_option maxRecDepth 1000000 in
set_option maxHeartbeats 4000000 in
theorem lshort41_any (a b c d : Int) (w : World) (ha : -1000000 ≤ a ∧ a ≤ 1000000) (hb : -1000000 ≤ b ∧ b ≤ 1000000) (hc : -1000000 ≤ c ∧ c ≤ 1000000) :
  Calls Tryz.prog 73 #[ovv a b c d] w fun e w' => e = .returned (.bool (shB a b c)) ∧ Below w.heap.size w w' := by
 have wa : IntKind.i64.wrap (-a) = -a := IntWalk.i64_in _ (by omega)
 have wb : IntKind.i64.wrap (-b) = -b := IntWalk.i64_in _ (by omega)
 have wc : IntKind.i64.wrap (-c) = -c := IntWalk.i64_in _ (by omega)
 obtain ⟨m, hm, hs⟩ := run_max_six #[3, 3, 3, 3, 3, 3] 3 a b c
 have HS := Lib.hid hs
 have hm0 := (Hp.start w).new 45 [.int .i64 a, .int .i64 b, .int .i64 c, .int .i64 d]
 simp only [List.nil_append] at hm0
 have HB := Lib.hid hm0.below
 clear hm0 hs
 go_enter Tryz.func73, Tryz.ntmps73
 go_wp2
 exact bodyPost_ret (v := .bool (decide (m ≤ 900))) (by simp [results, Tryz.results73, go_sem]) rfl ⟨by rw [HS.out], HB.out⟩
end Go.Proofs.YtlmheeommpbimaaGreatDoor
