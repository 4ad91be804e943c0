/- Part 43 of 45 of the proof of the law: contracts of the functions that it reaches, and plain facts. Conditions: those that each contract names. -/
import Derived.Test.YtlmheeommpbimaaGreatDoorNotesB42
import Derived.RegionTactic
import Derived.Deep.DeepCutAuto
namespace Go.Proofs.YtlmheeommpbimaaGreatDoor
open Go.RowKit
theorem run_min2 (ts : Array TypeId) (t : TypeId) (x y : Int) (w : World) : (Builtin.min_ ts t #[.int .i64 x, .int .i64 y]).run Tryz.prog w = .ok (.int .i64 (min x y)) w := by
 simp [Builtin.min_, Builtin.min2]
 split <;> omega
theorem run_max2 (ts : Array TypeId) (t : TypeId) (x y : Int) (w : World) : (Builtin.max_ ts t #[.int .i64 x, .int .i64 y]).run Tryz.prog w = .ok (.int .i64 (max x y)) w := by
 simp [Builtin.max_, Builtin.max2]
 split <;> omega
set_option maxRecDepth 1000000 in
set_option maxHeartbeats 4000000 in
theorem lnotes_in (n d : Int) (X : Nat → Int × Int) (C : Nat → Tm) (x na nb x0 x1 x2 x3 x4 x5 q0 q1 q2 q3 y0 y1 y2 y3 y4 y5 f r0 r1 r2 r3 : Int) (b1 bb : Bool) (w : World) (ht : Tab w) (hx : 0 ≤ x ∧ x ≤ 11)
  (hMK : ∀ W, Calls Tryz.prog 11 #[.agg (plC n X d).toArray] W fun e w' => e = .returned (.agg (cirL C).toArray) ∧ Below W.heap.size W w')
  (hNO : ∀ W, Tab W → Calls Tryz.prog 31 #[.agg (cirL C).toArray, .int .i64 x] W fun e w' => e = .returned (.tuple #[szv x0 x1 x2 x3 x4 x5, .int .i64 0]) ∧ Below W.heap.size W w')
  (hBE : ∀ W, Tab W → Calls Tryz.prog 22 #[.agg (cirL C).toArray, .int .i64 na, .int .i64 nb] W fun e w' => e = .returned (.tuple #[szv y0 y1 y2 y3 y4 y5, .int .i64 f]) ∧ Below W.heap.size W w')
  (hLN : ∀ W, Tab W → Calls Tryz.prog 36 #[.agg (cirL C).toArray, .int .i64 x] W fun e w' => e = .returned (.tuple #[ovv q0 q1 q2 q3, .bool b1]) ∧ Below W.heap.size W w')
  (hSX : b1 = true → ∀ W, Calls Tryz.prog 16 #[ovv q0 q1 q2 q3] W fun e w' => e = .returned (szv x0 x1 x2 x3 x4 x5) ∧ Below W.heap.size W w')
  (hLB : 0 ≤ min na nb ∧ max na nb ≤ 127 → f = 0 ∧ ∀ W, Tab W → Calls Tryz.prog 37 #[.agg (cirL C).toArray, .int .i64 na, .int .i64 nb] W fun e w' => e = .returned (.tuple #[ovv r0 r1 r2 r3, .bool bb]) ∧ Below W.heap.size W w')
  (hSY : bb = true → ∀ W, Calls Tryz.prog 16 #[ovv r0 r1 r2 r3] W fun e w' => e = .returned (szv y0 y1 y2 y3 y4 y5) ∧ Below W.heap.size W w')
  (hRG : min na nb < 0 ∨ 127 < max na nb → f = 3 ∧ y0 = 0 ∧ y1 = 0 ∧ y2 = 0 ∧ y3 = 0 ∧ y4 = 0 ∧ y5 = 0) :
  Calls Tryz.prog 7 #[.agg (plC n X d).toArray, .int .i64 x, .agg #[.int .i64 na, .int .i64 nb]] w fun e w' => e = .returned (.bool true) ∧ Below w.heap.size w w' := by
 have HKN := Lib.hid (fun W hT => tknown_any W hT)
 have HT := Lib.hid ht
 have HMK := Lib.hid hMK
 have HNO := Lib.hid hNO
 have HBE := Lib.hid hBE
 have HLN := Lib.hid hLN
 have HSX := Lib.hid hSX
 have HLB := Lib.hid hLB
 have HSY := Lib.hid hSY
 have hx1 : ¬ x < 0 := by omega
 have hx2 : ¬ 11 < x := by omega
 have hmn := fun ts t W => run_min2 ts t na nb W
 have hmx := fun ts t W => run_max2 ts t na nb W
 obtain ⟨mn, hn'⟩ : ∃ y, y = min na nb := ⟨_, rfl⟩
 obtain ⟨mx, hx'⟩ : ∃ y, y = max na nb := ⟨_, rfl⟩
 rw [← hn'] at hmn HLB hRG
 rw [← hx'] at hmx HLB hRG
 have HRG := Lib.hid hRG
 clear ht hn' hx' hRG hMK hNO hBE hLN hSX hLB hSY hx
 have hm0 := ((Hp.start w).new 26 (plC n X d)).new 77 [.int .i64 na, .int .i64 nb]
 simp only [World.size_alloc, List.nil_append, List.cons_append] at hm0
 have HM0 := Lib.hid hm0
 clear hm0
 go_enter Tryz.func7, Tryz.ntmps7
 go_wp2_with fail
 refine (HKN.out _ (HT.out.below HM0.out.below)).mono ?_
 rintro e w1 ⟨rfl, hb1⟩
 have HM1 := Lib.hid (HM0.out.step hb1)
 clear hb1
 go_wp2_with (refine wpList_load_row rfl 26 _ rfl (w.heap.size) rfl 26 (plC n X d).toArray (0, 0) _ (HM1.out.at_ 0 rfl) Tryz.underlying26 rfl (by rw [infoPlan41, List.size_toArray, pl_len]) ?_)
 refine (HMK.out _).mono ?_
 rintro e w2 ⟨rfl, hb2⟩
 have hm2 := (HM1.out.step hb2).new 33 (cirL (fun _ => (0, 0, 0, 0)))
 simp only [List.nil_append, List.cons_append] at hm2
 have HM2 := Lib.hid hm2
 have hm3 := (hm2.row 2 rfl (cirL C)).cast (L' := [(w.heap.size, 26, plC n X d), (w.heap.size + 1, 77, [.int .i64 na, .int .i64 nb]), (w2.heap.size, 33, cirL C)]) rfl
 have HM3 := Lib.hid hm3
 clear hb2 hm2 hm3
 go_wp2_with (first | (refine wpList_store_rowTo rfl 33 _ _ rfl rfl (w2.heap.size) (cirL C).toArray rfl rfl 33 (cirL (fun _ => (0, 0, 0, 0))).toArray (HM2.out.at_ 2 rfl) (by rw [infoCircle, List.size_toArray, cirL_len]) (by rw [List.size_toArray, List.size_toArray, cirL_len, cirL_len]) (cir_one _) ?_) | (refine wpList_load_row rfl 33 _ rfl (w2.heap.size) rfl 33 (cirL C).toArray (0, 0) _ (HM3.out.at_ 2 rfl) Tryz.underlying33 rfl (by rw [infoCircle, List.size_toArray, cirL_len]) ?_))
 refine (HNO.out _ (HT.out.below HM3.out.below)).mono ?_
 rintro e w3 ⟨rfl, hb3⟩
 have hm4 := (HM3.out.step hb3).new 36 [.int .i64 x0, .int .i64 x1, .int .i64 x2, .int .i64 x3, .int .i64 x4, .int .i64 x5]
 simp only [List.nil_append, List.cons_append] at hm4
 have v0 := (hm4.at_ 1 rfl).cell 0
 have v1 := (hm4.at_ 1 rfl).cell 1
 simp only [List.getElem?_cons_succ, List.getElem?_cons_zero] at v0 v1
 have HM4 := Lib.hid hm4
 clear hb3 hm4
 go_wp2_with (refine wpList_load_row rfl 33 _ rfl (w2.heap.size) rfl 33 (cirL C).toArray (0, 0) _ (HM4.out.at_ 2 rfl) Tryz.underlying33 rfl (by rw [infoCircle, List.size_toArray, cirL_len]) ?_)
 refine (HBE.out _ (HT.out.below HM4.out.below)).mono ?_
 rintro e w4 ⟨rfl, hb4⟩
 have hm5 := (HM4.out.step hb4).new 36 [.int .i64 y0, .int .i64 y1, .int .i64 y2, .int .i64 y3, .int .i64 y4, .int .i64 y5]
 simp only [List.nil_append, List.cons_append] at hm5
 clear v0 v1
 have v0 := (hm5.at_ 1 rfl).cell 0
 have v1 := (hm5.at_ 1 rfl).cell 1
 simp only [List.getElem?_cons_succ, List.getElem?_cons_zero] at v0 v1
 obtain ⟨a0', a1', a2', a3', a4', a5'⟩ := six_of (hm5.at_ 3 rfl)
 obtain ⟨b0', b1', b2', b3', b4', b5'⟩ := six_of (hm5.at_ 4 rfl)
 have HM5 := Lib.hid hm5
 clear hb4 hm5
 go_wp2_with (refine wpList_load_row rfl 33 _ rfl (w2.heap.size) rfl 33 (cirL C).toArray (0, 0) _ (HM5.out.at_ 2 rfl) Tryz.underlying33 rfl (by rw [infoCircle, List.size_toArray, cirL_len]) ?_)
 refine (HLN.out _ (HT.out.below HM5.out.below)).mono ?_
 rintro e w5 ⟨rfl, hb5⟩
 have hm6 := (HM5.out.step hb5).new 45 [.int .i64 q0, .int .i64 q1, .int .i64 q2, .int .i64 q3]
 simp only [List.nil_append, List.cons_append] at hm6
 have HM6 := Lib.hid hm6
 clear hb5 hm6 v0 v1 a0' a1' a2' a3' a4' a5' b0' b1' b2' b3' b4' b5'
 cases b1
 ·clear HSX
  go_upto_region 10 with fail
  refine wp_regionJ 11 #[false, false, false, false, false, false, false, false, false, false, false] (fun l a W => ∃ (m0 m1 m2 m3 m4 m5 m6 m7 m8 m9 m10 : Bool), l = #[m0, m1, m2, m3, m4, m5, m6, m7, m8, m9, m10] ∧ a = ({ tmps := #[.agg (plC n X d).toArray, .int .i64 x, .agg #[.int .i64 na, .int .i64 nb], .pointer (some ⟨w.heap.size, 0, none⟩), undef, .pointer (some ⟨w.heap.size + 1, 0, none⟩), .bool false, .pointer (some ⟨w2.heap.size, 0, none⟩), .pointer (some ⟨w3.heap.size, 0, none⟩), .int .i64 0, .pointer (some ⟨w4.heap.size, 0, none⟩), .int .i64 f, .pointer (some ⟨w5.heap.size, 0, none⟩), .bool false, undef, undef, .bool true, .bool false, .agg (plC n X d).toArray, .agg (cirL C).toArray, .tuple #[szv x0 x1 x2 x3 x4 x5, .int .i64 0], .agg (cirL C).toArray, .int .i64 x, .tuple #[szv x0 x1 x2 x3 x4 x5, .int .i64 0], szv x0 x1 x2 x3 x4 x5, .int .i64 0, .tuple #[szv y0 y1 y2 y3 y4 y5, .int .i64 f], .agg (cirL C).toArray, .pointer (some ⟨w.heap.size + 1, 0, none⟩), .int .i64 na, .pointer (some ⟨w.heap.size + 1, 1, none⟩), .int .i64 nb, .tuple #[szv y0 y1 y2 y3 y4 y5, .int .i64 f], szv y0 y1 y2 y3 y4 y5, .int .i64 f, .int .i64 x, .bool (decide (x < 0)), .bool (decide (x < 0)), .int .i64 x, .bool (decide (11 < x)), .bool (decide (x < 0) || decide (11 < x)), undef, undef, undef, undef, undef, undef, undef, .tuple #[ovv q0 q1 q2 q3, .bool false], .agg (cirL C).toArray, .int .i64 x, .tuple #[ovv q0 q1 q2 q3, .bool false], ovv q0 q1 q2 q3, .bool false, cwX m0 (.bool false) (undef), cwX m1 (.bool false) (undef), undef, undef, undef, undef, undef, undef, undef, undef, cwX m10 (.bool false) (undef), undef, undef, undef, undef, undef, undef, undef, undef, undef, undef, undef, undef, undef, undef, undef, undef, undef, undef, undef, undef, undef, undef, undef, undef, undef, undef, undef, undef, undef, undef, undef, undef, undef, undef, undef, undef, undef, undef, undef, undef, undef, undef], defers := [] } : Act) ∧ (True) ∧ Hp w [(w.heap.size, 26, plC n X d), (w.heap.size + 1, 77, [.int .i64 na, .int .i64 nb]), (w2.heap.size, 33, cirL C), (w3.heap.size, 36, [.int .i64 x0, .int .i64 x1, .int .i64 x2, .int .i64 x3, .int .i64 x4, .int .i64 x5]), (w4.heap.size, 36, [.int .i64 y0, .int .i64 y1, .int .i64 y2, .int .i64 y3, .int .i64 y4, .int .i64 y5]), (w5.heap.size, 45, [.int .i64 q0, .int .i64 q1, .int .i64 q2, .int .i64 q3])] W) (by kernel_rfl) (by kernel_rfl) (by kernel_rfl) (by kernel_rfl) ?_ ?_ ?_ ?_
  ·rintro l a W ⟨m0, m1, m2, m3, m4, m5, m6, m7, m8, m9, m10, rfl, _⟩
   rfl
  ·exact ⟨false, false, false, false, false, false, false, false, false, false, false, rfl, rfl, trivial, HM6.out.drew⟩
  ·rintro l a W i o ⟨m0, m1, m2, m3, m4, m5, m6, m7, m8, m9, m10, rfl, rfl, hi0, hm⟩ ho hun hall K hK
   have hi : i < 11 := (Array.getElem?_eq_some_iff.1 ho).1
   have HM := Lib.hid hm
   have HI := Lib.hid hi0
   clear hm hi0
   rcases (show i = 0 ∨ i = 1 ∨ i = 2 ∨ i = 3 ∨ i = 4 ∨ i = 5 ∨ i = 6 ∨ i = 7 ∨ i = 8 ∨ i = 9 ∨ i = 10 by omega) with rfl | rfl | rfl | rfl | rfl | rfl | rfl | rfl | rfl | rfl | rfl
   ·cases ho
    simp at hun; subst hun
    clear hall hi
    go_simp
    exact hK.out _ _ ⟨true, m1, m2, m3, m4, m5, m6, m7, m8, m9, m10, rfl, rfl, trivial, HM.out⟩
   ·cases ho
    cases (getBX hall 0 rfl : m0 = true)
    simp at hun; subst hun
    clear hall hi
    go_simp
    exact hK.out _ _ ⟨true, true, m2, m3, m4, m5, m6, m7, m8, m9, m10, rfl, rfl, trivial, HM.out⟩
   ·cases ho
    cases (getBX hall 1 rfl : m1 = true)
    simp at hun; subst hun
    clear hall hi
    go_simp
    exact hK.out _ _ ⟨m0, true, true, m3, m4, m5, m6, m7, m8, m9, m10, rfl, rfl, trivial, HM.out⟩
   ·cases ho
    cases (getBX hall 1 rfl : m1 = true)
    simp at hun; subst hun
    clear hall hi
    go_simp
    exact hK.out _ _ ⟨m0, true, m2, true, m4, m5, m6, m7, m8, m9, m10, rfl, rfl, trivial, HM.out⟩
   ·cases ho
    cases (getBX hall 1 rfl : m1 = true)
    simp at hun; subst hun
    clear hall hi
    go_simp
    exact hK.out _ _ ⟨m0, true, m2, m3, true, m5, m6, m7, m8, m9, m10, rfl, rfl, trivial, HM.out⟩
   ·cases ho
    cases (getBX hall 4 rfl : m4 = true)
    simp at hun; subst hun
    clear hall hi
    go_simp
    exact hK.out _ _ ⟨m0, m1, m2, m3, true, true, m6, m7, m8, m9, m10, rfl, rfl, trivial, HM.out⟩
   ·cases ho
    cases (getBX hall 4 rfl : m4 = true)
    simp at hun; subst hun
    clear hall hi
    go_simp
    exact hK.out _ _ ⟨m0, m1, m2, m3, true, m5, true, m7, m8, m9, m10, rfl, rfl, trivial, HM.out⟩
   ·cases ho
    cases (getBX hall 4 rfl : m4 = true)
    simp at hun; subst hun
    clear hall hi
    go_simp
    exact hK.out _ _ ⟨m0, m1, m2, m3, true, m5, m6, true, m8, m9, m10, rfl, rfl, trivial, HM.out⟩
   ·cases ho
    cases (getBX hall 4 rfl : m4 = true)
    simp at hun; subst hun
    clear hall hi
    go_simp
    exact hK.out _ _ ⟨m0, m1, m2, m3, true, m5, m6, m7, true, m9, m10, rfl, rfl, trivial, HM.out⟩
   ·cases ho
    cases (getBX hall 1 rfl : m1 = true)
    simp at hun; subst hun
    clear hall hi
    go_simp
    exact hK.out _ _ ⟨m0, true, m2, m3, m4, m5, m6, m7, m8, true, m10, rfl, rfl, trivial, HM.out⟩
   ·cases ho
    cases (getBX hall 1 rfl : m1 = true)
    simp at hun; subst hun
    clear hall hi
    go_simp
    exact hK.out _ _ ⟨m0, true, m2, m3, m4, m5, m6, m7, m8, m9, true, rfl, rfl, trivial, HM.out⟩
  ·rintro l a W ⟨m0, m1, m2, m3, m4, m5, m6, m7, m8, m9, m10, rfl, rfl, _, hm⟩ hall
   cases (hall 0 (by decide) : m0 = true)
   cases (hall 1 (by decide) : m1 = true)
   cases (hall 2 (by decide) : m2 = true)
   cases (hall 3 (by decide) : m3 = true)
   cases (hall 4 (by decide) : m4 = true)
   cases (hall 5 (by decide) : m5 = true)
   cases (hall 6 (by decide) : m6 = true)
   cases (hall 7 (by decide) : m7 = true)
   cases (hall 8 (by decide) : m8 = true)
   cases (hall 9 (by decide) : m9 = true)
   cases (hall 10 (by decide) : m10 = true)
   clear hall
   have HM8 : Hid (Hp w [(w.heap.size, 26, plC n X d), (w.heap.size + 1, 77, [.int .i64 na, .int .i64 nb]), (w2.heap.size, 33, cirL C), (w3.heap.size, 36, [.int .i64 x0, .int .i64 x1, .int .i64 x2, .int .i64 x3, .int .i64 x4, .int .i64 x5]), (w4.heap.size, 36, [.int .i64 y0, .int .i64 y1, .int .i64 y2, .int .i64 y3, .int .i64 y4, .int .i64 y5]), (w5.heap.size, 45, [.int .i64 q0, .int .i64 q1, .int .i64 q2, .int .i64 q3])] _) := Lib.hid hm
   have v0 := (hm.at_ 1 rfl).cell 0
   have v1 := (hm.at_ 1 rfl).cell 1
   simp only [List.getElem?_cons_succ, List.getElem?_cons_zero] at v0 v1
   obtain ⟨b0', b1', b2', b3', b4', b5'⟩ := six_of (hm.at_ 4 rfl)
   clear hm
   dsimp only [cwX, cond_true]
   by_cases hl : mn < 0
   ·obtain ⟨rfl, rfl, rfl, rfl, rfl, rfl, rfl⟩ := HRG.out (.inl hl)
    have hm1 : mn < 0 := hl
    have HB := Lib.hid HM8.out.below
    go_wp2
    exact bodyPost_ret (v := .bool true) (by simp [results, Tryz.results7, go_sem]) rfl ⟨rfl, HB.out⟩
   by_cases hh : 127 < mx
   ·obtain ⟨rfl, rfl, rfl, rfl, rfl, rfl, rfl⟩ := HRG.out (.inr hh)
    have hm1 : ¬ mn < 0 := hl
    have hm2 : 127 < mx := hh
    have HB := Lib.hid HM8.out.below
    go_wp2
    exact bodyPost_ret (v := .bool true) (by simp [results, Tryz.results7, go_sem]) rfl ⟨rfl, HB.out⟩
   obtain ⟨rfl, hLB⟩ := HLB.out ⟨by omega, by omega⟩
   have HLB' := Lib.hid hLB
   clear hLB HRG HLB
   go_wp2_with (refine wpList_load_row rfl 33 _ rfl (w2.heap.size) rfl 33 (cirL C).toArray (0, 0) _ (HM8.out.at_ 2 rfl) Tryz.underlying33 rfl (by rw [infoCircle, List.size_toArray, cirL_len]) ?_)
   refine (HLB'.out _ (HT.out.below HM8.out.below)).mono ?_
   rintro e w8 ⟨rfl, hb8⟩
   have hm9 := (HM8.out.step hb8).new 45 [.int .i64 r0, .int .i64 r1, .int .i64 r2, .int .i64 r3]
   simp only [List.nil_append, List.cons_append] at hm9
   have HM9 := Lib.hid hm9
   clear hb8 hm9 v0 v1 b0' b1' b2' b3' b4' b5'
   cases bb
   ·clear HSY
    go_upto_region 15 with fail
    refine wp_regionJ 13 #[false, false, false, false, false, false, false, false, false, false, false, false, false] (fun l a W => ∃ (m0 m1 m2 m3 m4 m5 m6 m7 m8 m9 m10 m11 m12 : Bool), l = #[m0, m1, m2, m3, m4, m5, m6, m7, m8, m9, m10, m11, m12] ∧ a = ({ tmps := #[.agg (plC n X d).toArray, .int .i64 x, .agg #[.int .i64 na, .int .i64 nb], .pointer (some ⟨w.heap.size, 0, none⟩), undef, .pointer (some ⟨w.heap.size + 1, 0, none⟩), cwX m12 (.bool true) (.bool false), .pointer (some ⟨w2.heap.size, 0, none⟩), .pointer (some ⟨w3.heap.size, 0, none⟩), .int .i64 0, .pointer (some ⟨w4.heap.size, 0, none⟩), .int .i64 0, .pointer (some ⟨w5.heap.size, 0, none⟩), .bool false, .pointer (some ⟨w8.heap.size, 0, none⟩), .bool false, .bool true, .bool false, .agg (plC n X d).toArray, .agg (cirL C).toArray, .tuple #[szv x0 x1 x2 x3 x4 x5, .int .i64 0], .agg (cirL C).toArray, .int .i64 x, .tuple #[szv x0 x1 x2 x3 x4 x5, .int .i64 0], szv x0 x1 x2 x3 x4 x5, .int .i64 0, .tuple #[szv y0 y1 y2 y3 y4 y5, .int .i64 0], .agg (cirL C).toArray, .pointer (some ⟨w.heap.size + 1, 0, none⟩), .int .i64 na, .pointer (some ⟨w.heap.size + 1, 1, none⟩), .int .i64 nb, .tuple #[szv y0 y1 y2 y3 y4 y5, .int .i64 0], szv y0 y1 y2 y3 y4 y5, .int .i64 0, .int .i64 x, .bool (decide (x < 0)), .bool (decide (x < 0)), .int .i64 x, .bool (decide (11 < x)), .bool (decide (x < 0) || decide (11 < x)), undef, undef, undef, undef, undef, undef, undef, .tuple #[ovv q0 q1 q2 q3, .bool false], .agg (cirL C).toArray, .int .i64 x, .tuple #[ovv q0 q1 q2 q3, .bool false], ovv q0 q1 q2 q3, .bool false, .bool false, .bool false, undef, undef, undef, undef, undef, undef, undef, undef, .bool false, .pointer (some ⟨w.heap.size + 1, 0, none⟩), .int .i64 na, .pointer (some ⟨w.heap.size + 1, 1, none⟩), .int .i64 nb, .int .i64 mn, .bool false, .bool false, .pointer (some ⟨w.heap.size + 1, 0, none⟩), .int .i64 na, .pointer (some ⟨w.heap.size + 1, 1, none⟩), .int .i64 nb, .int .i64 mx, .bool false, .bool false, undef, undef, undef, undef, undef, undef, undef, .tuple #[ovv r0 r1 r2 r3, .bool false], .agg (cirL C).toArray, .pointer (some ⟨w.heap.size + 1, 0, none⟩), .int .i64 na, .pointer (some ⟨w.heap.size + 1, 1, none⟩), .int .i64 nb, .tuple #[ovv r0 r1 r2 r3, .bool false], ovv r0 r1 r2 r3, .bool false, cwX m0 (.bool false) (undef), cwX m1 (.bool true) (undef), cwX m2 (.bool true) (undef), undef, undef, undef, undef, undef, undef, undef, undef, cwX m11 (.bool true) (undef)], defers := [] } : Act) ∧ (True) ∧ Hp w [(w.heap.size, 26, plC n X d), (w.heap.size + 1, 77, [.int .i64 na, .int .i64 nb]), (w2.heap.size, 33, cirL C), (w3.heap.size, 36, [.int .i64 x0, .int .i64 x1, .int .i64 x2, .int .i64 x3, .int .i64 x4, .int .i64 x5]), (w4.heap.size, 36, [.int .i64 y0, .int .i64 y1, .int .i64 y2, .int .i64 y3, .int .i64 y4, .int .i64 y5]), (w5.heap.size, 45, [.int .i64 q0, .int .i64 q1, .int .i64 q2, .int .i64 q3]), (w8.heap.size, 45, [.int .i64 r0, .int .i64 r1, .int .i64 r2, .int .i64 r3])] W) (by kernel_rfl) (by kernel_rfl) (by kernel_rfl) (by kernel_rfl) ?_ ?_ ?_ ?_
    ·rintro l a W ⟨m0, m1, m2, m3, m4, m5, m6, m7, m8, m9, m10, m11, m12, rfl, _⟩
     rfl
    ·exact ⟨false, false, false, false, false, false, false, false, false, false, false, false, false, rfl, rfl, trivial, HM9.out.drew⟩
    ·rintro l a W i o ⟨m0, m1, m2, m3, m4, m5, m6, m7, m8, m9, m10, m11, m12, rfl, rfl, hi0, hm⟩ ho hun hall K hK
     have hi : i < 13 := (Array.getElem?_eq_some_iff.1 ho).1
     have HM := Lib.hid hm
     have HI := Lib.hid hi0
     clear hm hi0
     rcases (show i = 0 ∨ i = 1 ∨ i = 2 ∨ i = 3 ∨ i = 4 ∨ i = 5 ∨ i = 6 ∨ i = 7 ∨ i = 8 ∨ i = 9 ∨ i = 10 ∨ i = 11 ∨ i = 12 by omega) with rfl | rfl | rfl | rfl | rfl | rfl | rfl | rfl | rfl | rfl | rfl | rfl | rfl
     ·cases ho
      simp at hun; subst hun
      clear hall hi
      go_simp
      exact hK.out _ _ ⟨true, m1, m2, m3, m4, m5, m6, m7, m8, m9, m10, m11, m12, rfl, rfl, trivial, HM.out⟩
     ·cases ho
      cases (getBX hall 0 rfl : m0 = true)
      simp at hun; subst hun
      clear hall hi
      go_simp
      exact hK.out _ _ ⟨true, true, m2, m3, m4, m5, m6, m7, m8, m9, m10, m11, m12, rfl, rfl, trivial, HM.out⟩
     ·cases ho
      cases (getBX hall 1 rfl : m1 = true)
      simp at hun; subst hun
      clear hall hi
      go_simp
      exact hK.out _ _ ⟨m0, true, true, m3, m4, m5, m6, m7, m8, m9, m10, m11, m12, rfl, rfl, trivial, HM.out⟩
     ·cases ho
      cases (getBX hall 2 rfl : m2 = true)
      simp at hun; subst hun
      clear hall hi
      go_simp
      exact hK.out _ _ ⟨m0, m1, true, true, m4, m5, m6, m7, m8, m9, m10, m11, m12, rfl, rfl, trivial, HM.out⟩
     ·cases ho
      cases (getBX hall 2 rfl : m2 = true)
      simp at hun; subst hun
      clear hall hi
      go_simp
      exact hK.out _ _ ⟨m0, m1, true, m3, true, m5, m6, m7, m8, m9, m10, m11, m12, rfl, rfl, trivial, HM.out⟩
     ·cases ho
      cases (getBX hall 2 rfl : m2 = true)
      simp at hun; subst hun
      clear hall hi
      go_simp
      exact hK.out _ _ ⟨m0, m1, true, m3, m4, true, m6, m7, m8, m9, m10, m11, m12, rfl, rfl, trivial, HM.out⟩
     ·cases ho
      cases (getBX hall 5 rfl : m5 = true)
      simp at hun; subst hun
      clear hall hi
      go_simp
      exact hK.out _ _ ⟨m0, m1, m2, m3, m4, true, true, m7, m8, m9, m10, m11, m12, rfl, rfl, trivial, HM.out⟩
     ·cases ho
      cases (getBX hall 5 rfl : m5 = true)
      simp at hun; subst hun
      clear hall hi
      go_simp
      exact hK.out _ _ ⟨m0, m1, m2, m3, m4, true, m6, true, m8, m9, m10, m11, m12, rfl, rfl, trivial, HM.out⟩
     ·cases ho
      cases (getBX hall 5 rfl : m5 = true)
      simp at hun; subst hun
      clear hall hi
      go_simp
      exact hK.out _ _ ⟨m0, m1, m2, m3, m4, true, m6, m7, true, m9, m10, m11, m12, rfl, rfl, trivial, HM.out⟩
     ·cases ho
      cases (getBX hall 5 rfl : m5 = true)
      simp at hun; subst hun
      clear hall hi
      go_simp
      exact hK.out _ _ ⟨m0, m1, m2, m3, m4, true, m6, m7, m8, true, m10, m11, m12, rfl, rfl, trivial, HM.out⟩
     ·cases ho
      cases (getBX hall 2 rfl : m2 = true)
      simp at hun; subst hun
      clear hall hi
      go_simp
      exact hK.out _ _ ⟨m0, m1, true, m3, m4, m5, m6, m7, m8, m9, true, m11, m12, rfl, rfl, trivial, HM.out⟩
     ·cases ho
      cases (getBX hall 2 rfl : m2 = true)
      simp at hun; subst hun
      clear hall hi
      go_simp
      exact hK.out _ _ ⟨m0, m1, true, m3, m4, m5, m6, m7, m8, m9, m10, true, m12, rfl, rfl, trivial, HM.out⟩
     ·cases ho
      cases (getBX hall 11 rfl : m11 = true)
      simp at hun; subst hun
      clear hall hi
      go_simp
      exact hK.out _ _ ⟨m0, m1, m2, m3, m4, m5, m6, m7, m8, m9, m10, true, true, rfl, rfl, trivial, HM.out⟩
    ·rintro l a W ⟨m0, m1, m2, m3, m4, m5, m6, m7, m8, m9, m10, m11, m12, rfl, rfl, _, hm⟩ hall
     cases (hall 0 (by decide) : m0 = true)
     cases (hall 1 (by decide) : m1 = true)
     cases (hall 2 (by decide) : m2 = true)
     cases (hall 3 (by decide) : m3 = true)
     cases (hall 4 (by decide) : m4 = true)
     cases (hall 5 (by decide) : m5 = true)
     cases (hall 6 (by decide) : m6 = true)
     cases (hall 7 (by decide) : m7 = true)
     cases (hall 8 (by decide) : m8 = true)
     cases (hall 9 (by decide) : m9 = true)
     cases (hall 10 (by decide) : m10 = true)
     cases (hall 11 (by decide) : m11 = true)
     cases (hall 12 (by decide) : m12 = true)
     clear hall
     have HB := Lib.hid hm.below
     clear hm
     dsimp only [cwX, cond_true]
     go_wp2
     exact bodyPost_ret (v := .bool true) (by simp [results, Tryz.results7, go_sem]) rfl ⟨rfl, HB.out⟩
   ·have HSY' := Lib.hid (HSY.out rfl)
    clear HSY
    go_upto_region 15 with fail
    refine wp_regionJ 13 #[false, false, false, false, false, false, false, false, false, false, false, false, false] (fun l a W => ∃ (m0 m1 m2 m3 m4 m5 m6 m7 m8 m9 m10 m11 m12 : Bool), l = #[m0, m1, m2, m3, m4, m5, m6, m7, m8, m9, m10, m11, m12] ∧ a = ({ tmps := #[.agg (plC n X d).toArray, .int .i64 x, .agg #[.int .i64 na, .int .i64 nb], .pointer (some ⟨w.heap.size, 0, none⟩), undef, .pointer (some ⟨w.heap.size + 1, 0, none⟩), cwX m12 (.bool true) (.bool false), .pointer (some ⟨w2.heap.size, 0, none⟩), .pointer (some ⟨w3.heap.size, 0, none⟩), .int .i64 0, .pointer (some ⟨w4.heap.size, 0, none⟩), .int .i64 0, .pointer (some ⟨w5.heap.size, 0, none⟩), .bool false, .pointer (some ⟨w8.heap.size, 0, none⟩), .bool true, .bool true, .bool false, .agg (plC n X d).toArray, .agg (cirL C).toArray, .tuple #[szv x0 x1 x2 x3 x4 x5, .int .i64 0], .agg (cirL C).toArray, .int .i64 x, .tuple #[szv x0 x1 x2 x3 x4 x5, .int .i64 0], szv x0 x1 x2 x3 x4 x5, .int .i64 0, .tuple #[szv y0 y1 y2 y3 y4 y5, .int .i64 0], .agg (cirL C).toArray, .pointer (some ⟨w.heap.size + 1, 0, none⟩), .int .i64 na, .pointer (some ⟨w.heap.size + 1, 1, none⟩), .int .i64 nb, .tuple #[szv y0 y1 y2 y3 y4 y5, .int .i64 0], szv y0 y1 y2 y3 y4 y5, .int .i64 0, .int .i64 x, .bool (decide (x < 0)), .bool (decide (x < 0)), .int .i64 x, .bool (decide (11 < x)), .bool (decide (x < 0) || decide (11 < x)), undef, undef, undef, undef, undef, undef, undef, .tuple #[ovv q0 q1 q2 q3, .bool false], .agg (cirL C).toArray, .int .i64 x, .tuple #[ovv q0 q1 q2 q3, .bool false], ovv q0 q1 q2 q3, .bool false, .bool false, .bool false, undef, undef, undef, undef, undef, undef, undef, undef, .bool false, .pointer (some ⟨w.heap.size + 1, 0, none⟩), .int .i64 na, .pointer (some ⟨w.heap.size + 1, 1, none⟩), .int .i64 nb, .int .i64 mn, .bool false, .bool false, .pointer (some ⟨w.heap.size + 1, 0, none⟩), .int .i64 na, .pointer (some ⟨w.heap.size + 1, 1, none⟩), .int .i64 nb, .int .i64 mx, .bool false, .bool false, undef, undef, undef, undef, undef, undef, undef, .tuple #[ovv r0 r1 r2 r3, .bool true], .agg (cirL C).toArray, .pointer (some ⟨w.heap.size + 1, 0, none⟩), .int .i64 na, .pointer (some ⟨w.heap.size + 1, 1, none⟩), .int .i64 nb, .tuple #[ovv r0 r1 r2 r3, .bool true], ovv r0 r1 r2 r3, .bool true, cwX m0 (.bool true) (undef), cwX m1 (.bool false) (undef), cwX m2 (.bool false) (undef), cwX m3 (.int .i64 0) (undef), cwX m4 (.bool true) (undef), cwX m5 (.bool true) (undef), cwX m6 (szv y0 y1 y2 y3 y4 y5) (undef), cwX m7 (ovv r0 r1 r2 r3) (undef), cwX m8 (szv y0 y1 y2 y3 y4 y5) (undef), cwX m9 (.bool true) (undef), cwX m10 (.bool true) (undef), cwX m11 (.bool true) (undef)], defers := [] } : Act) ∧ (True) ∧ Hp w [(w.heap.size, 26, plC n X d), (w.heap.size + 1, 77, [.int .i64 na, .int .i64 nb]), (w2.heap.size, 33, cirL C), (w3.heap.size, 36, [.int .i64 x0, .int .i64 x1, .int .i64 x2, .int .i64 x3, .int .i64 x4, .int .i64 x5]), (w4.heap.size, 36, [.int .i64 y0, .int .i64 y1, .int .i64 y2, .int .i64 y3, .int .i64 y4, .int .i64 y5]), (w5.heap.size, 45, [.int .i64 q0, .int .i64 q1, .int .i64 q2, .int .i64 q3]), (w8.heap.size, 45, [.int .i64 r0, .int .i64 r1, .int .i64 r2, .int .i64 r3])] W) (by kernel_rfl) (by kernel_rfl) (by kernel_rfl) (by kernel_rfl) ?_ ?_ ?_ ?_
    ·rintro l a W ⟨m0, m1, m2, m3, m4, m5, m6, m7, m8, m9, m10, m11, m12, rfl, _⟩
     rfl
    ·exact ⟨false, false, false, false, false, false, false, false, false, false, false, false, false, rfl, rfl, trivial, HM9.out.drew⟩
    ·rintro l a W i o ⟨m0, m1, m2, m3, m4, m5, m6, m7, m8, m9, m10, m11, m12, rfl, rfl, hi0, hm⟩ ho hun hall K hK
     have hi : i < 13 := (Array.getElem?_eq_some_iff.1 ho).1
     have HM := Lib.hid hm
     have HI := Lib.hid hi0
     clear hm hi0
     rcases (show i = 0 ∨ i = 1 ∨ i = 2 ∨ i = 3 ∨ i = 4 ∨ i = 5 ∨ i = 6 ∨ i = 7 ∨ i = 8 ∨ i = 9 ∨ i = 10 ∨ i = 11 ∨ i = 12 by omega) with rfl | rfl | rfl | rfl | rfl | rfl | rfl | rfl | rfl | rfl | rfl | rfl | rfl
     ·cases ho
      simp at hun; subst hun
      clear hall hi
      go_simp
      exact hK.out _ _ ⟨true, m1, m2, m3, m4, m5, m6, m7, m8, m9, m10, m11, m12, rfl, rfl, trivial, HM.out⟩
     ·cases ho
      cases (getBX hall 0 rfl : m0 = true)
      simp at hun; subst hun
      clear hall hi
      go_simp
      exact hK.out _ _ ⟨true, true, m2, m3, m4, m5, m6, m7, m8, m9, m10, m11, m12, rfl, rfl, trivial, HM.out⟩
     ·cases ho
      cases (getBX hall 1 rfl : m1 = true)
      simp at hun; subst hun
      clear hall hi
      go_simp
      exact hK.out _ _ ⟨m0, true, true, m3, m4, m5, m6, m7, m8, m9, m10, m11, m12, rfl, rfl, trivial, HM.out⟩
     ·cases ho
      cases (getBX hall 2 rfl : m2 = true)
      simp at hun; subst hun
      clear hall hi
      go_simp
      exact hK.out _ _ ⟨m0, m1, true, true, m4, m5, m6, m7, m8, m9, m10, m11, m12, rfl, rfl, trivial, HM.out⟩
     ·cases ho
      cases (getBX hall 2 rfl : m2 = true)
      cases (getBX hall 3 rfl : m3 = true)
      simp at hun; subst hun
      clear hall hi
      go_simp
      exact hK.out _ _ ⟨m0, m1, true, true, true, m5, m6, m7, m8, m9, m10, m11, m12, rfl, rfl, trivial, HM.out⟩
     ·cases ho
      cases (getBX hall 2 rfl : m2 = true)
      cases (getBX hall 4 rfl : m4 = true)
      simp at hun; subst hun
      clear hall hi
      go_simp
      exact hK.out _ _ ⟨m0, m1, true, m3, true, true, m6, m7, m8, m9, m10, m11, m12, rfl, rfl, trivial, HM.out⟩
     ·cases ho
      cases (getBX hall 5 rfl : m5 = true)
      simp at hun; subst hun
      clear hall hi
      obtain ⟨y0', y1', y2', y3', y4', y5'⟩ := six_of (HM.out.at_ 4 rfl)
      go_simp
      exact hK.out _ _ ⟨m0, m1, m2, m3, m4, true, true, m7, m8, m9, m10, m11, m12, rfl, rfl, trivial, HM.out⟩
     ·cases ho
      cases (getBX hall 5 rfl : m5 = true)
      simp at hun; subst hun
      clear hall hi
      have v0 : W.cell? ⟨w8.heap.size, 0, none⟩ = some (.int .i64 r0) := (HM.out.at_ 6 rfl).cell 0
      have v1 : W.cell? ⟨w8.heap.size, 1, none⟩ = some (.int .i64 r1) := (HM.out.at_ 6 rfl).cell 1
      have v2 : W.cell? ⟨w8.heap.size, 2, none⟩ = some (.int .i64 r2) := (HM.out.at_ 6 rfl).cell 2
      have v3 : W.cell? ⟨w8.heap.size, 3, none⟩ = some (.int .i64 r3) := (HM.out.at_ 6 rfl).cell 3
      go_simp
      exact hK.out _ _ ⟨m0, m1, m2, m3, m4, true, m6, true, m8, m9, m10, m11, m12, rfl, rfl, trivial, HM.out⟩
     ·cases ho
      cases (getBX hall 5 rfl : m5 = true)
      cases (getBX hall 7 rfl : m7 = true)
      simp at hun; subst hun
      clear hall hi
      go_simp
      refine (HSY'.out _).mono ?_
      rintro e W' ⟨rfl, hb⟩
      exact hK.out _ _ ⟨m0, m1, m2, m3, m4, true, m6, true, true, m9, m10, m11, m12, rfl, rfl, trivial, HM.out.step hb⟩
     ·cases ho
      cases (getBX hall 5 rfl : m5 = true)
      cases (getBX hall 6 rfl : m6 = true)
      cases (getBX hall 8 rfl : m8 = true)
      simp at hun; subst hun
      clear hall hi
      go_simp
      exact hK.out _ _ ⟨m0, m1, m2, m3, m4, true, true, m7, true, true, m10, m11, m12, rfl, rfl, trivial, HM.out⟩
     ·cases ho
      cases (getBX hall 2 rfl : m2 = true)
      cases (getBX hall 5 rfl : m5 = true)
      cases (getBX hall 9 rfl : m9 = true)
      simp at hun; subst hun
      clear hall hi
      go_simp
      exact hK.out _ _ ⟨m0, m1, true, m3, m4, true, m6, m7, m8, true, true, m11, m12, rfl, rfl, trivial, HM.out⟩
     ·cases ho
      cases (getBX hall 2 rfl : m2 = true)
      cases (getBX hall 10 rfl : m10 = true)
      simp at hun; subst hun
      clear hall hi
      go_simp
      exact hK.out _ _ ⟨m0, m1, true, m3, m4, m5, m6, m7, m8, m9, true, true, m12, rfl, rfl, trivial, HM.out⟩
     ·cases ho
      cases (getBX hall 11 rfl : m11 = true)
      simp at hun; subst hun
      clear hall hi
      go_simp
      exact hK.out _ _ ⟨m0, m1, m2, m3, m4, m5, m6, m7, m8, m9, m10, true, true, rfl, rfl, trivial, HM.out⟩
    ·rintro l a W ⟨m0, m1, m2, m3, m4, m5, m6, m7, m8, m9, m10, m11, m12, rfl, rfl, _, hm⟩ hall
     cases (hall 0 (by decide) : m0 = true)
     cases (hall 1 (by decide) : m1 = true)
     cases (hall 2 (by decide) : m2 = true)
     cases (hall 3 (by decide) : m3 = true)
     cases (hall 4 (by decide) : m4 = true)
     cases (hall 5 (by decide) : m5 = true)
     cases (hall 6 (by decide) : m6 = true)
     cases (hall 7 (by decide) : m7 = true)
     cases (hall 8 (by decide) : m8 = true)
     cases (hall 9 (by decide) : m9 = true)
     cases (hall 10 (by decide) : m10 = true)
     cases (hall 11 (by decide) : m11 = true)
     cases (hall 12 (by decide) : m12 = true)
     clear hall
     have HB := Lib.hid hm.below
     clear hm
     dsimp only [cwX, cond_true]
     go_wp2
     exact bodyPost_ret (v := .bool true) (by simp [results, Tryz.results7, go_sem]) rfl ⟨rfl, HB.out⟩
 ·have HSX' := Lib.hid (HSX.out rfl)
  clear HSX
  go_upto_region 10 with fail
  refine wp_regionJ 11 #[false, false, false, false, false, false, false, false, false, false, false] (fun l a W => ∃ (m0 m1 m2 m3 m4 m5 m6 m7 m8 m9 m10 : Bool), l = #[m0, m1, m2, m3, m4, m5, m6, m7, m8, m9, m10] ∧ a = ({ tmps := #[.agg (plC n X d).toArray, .int .i64 x, .agg #[.int .i64 na, .int .i64 nb], .pointer (some ⟨w.heap.size, 0, none⟩), undef, .pointer (some ⟨w.heap.size + 1, 0, none⟩), .bool false, .pointer (some ⟨w2.heap.size, 0, none⟩), .pointer (some ⟨w3.heap.size, 0, none⟩), .int .i64 0, .pointer (some ⟨w4.heap.size, 0, none⟩), .int .i64 f, .pointer (some ⟨w5.heap.size, 0, none⟩), .bool true, undef, undef, .bool true, .bool false, .agg (plC n X d).toArray, .agg (cirL C).toArray, .tuple #[szv x0 x1 x2 x3 x4 x5, .int .i64 0], .agg (cirL C).toArray, .int .i64 x, .tuple #[szv x0 x1 x2 x3 x4 x5, .int .i64 0], szv x0 x1 x2 x3 x4 x5, .int .i64 0, .tuple #[szv y0 y1 y2 y3 y4 y5, .int .i64 f], .agg (cirL C).toArray, .pointer (some ⟨w.heap.size + 1, 0, none⟩), .int .i64 na, .pointer (some ⟨w.heap.size + 1, 1, none⟩), .int .i64 nb, .tuple #[szv y0 y1 y2 y3 y4 y5, .int .i64 f], szv y0 y1 y2 y3 y4 y5, .int .i64 f, .int .i64 x, .bool (decide (x < 0)), .bool (decide (x < 0)), .int .i64 x, .bool (decide (11 < x)), .bool (decide (x < 0) || decide (11 < x)), undef, undef, undef, undef, undef, undef, undef, .tuple #[ovv q0 q1 q2 q3, .bool true], .agg (cirL C).toArray, .int .i64 x, .tuple #[ovv q0 q1 q2 q3, .bool true], ovv q0 q1 q2 q3, .bool true, cwX m0 (.bool true) (undef), cwX m1 (.bool true) (undef), cwX m2 (.int .i64 0) (undef), cwX m3 (.bool false) (undef), cwX m4 (.bool false) (undef), cwX m5 (szv x0 x1 x2 x3 x4 x5) (undef), cwX m6 (ovv q0 q1 q2 q3) (undef), cwX m7 (szv x0 x1 x2 x3 x4 x5) (undef), cwX m8 (.bool false) (undef), cwX m9 (.bool false) (undef), cwX m10 (.bool false) (undef), undef, undef, undef, undef, undef, undef, undef, undef, undef, undef, undef, undef, undef, undef, undef, undef, undef, undef, undef, undef, undef, undef, undef, undef, undef, undef, undef, undef, undef, undef, undef, undef, undef, undef, undef, undef, undef, undef, undef, undef, undef, undef], defers := [] } : Act) ∧ (True) ∧ Hp w [(w.heap.size, 26, plC n X d), (w.heap.size + 1, 77, [.int .i64 na, .int .i64 nb]), (w2.heap.size, 33, cirL C), (w3.heap.size, 36, [.int .i64 x0, .int .i64 x1, .int .i64 x2, .int .i64 x3, .int .i64 x4, .int .i64 x5]), (w4.heap.size, 36, [.int .i64 y0, .int .i64 y1, .int .i64 y2, .int .i64 y3, .int .i64 y4, .int .i64 y5]), (w5.heap.size, 45, [.int .i64 q0, .int .i64 q1, .int .i64 q2, .int .i64 q3])] W) (by kernel_rfl) (by kernel_rfl) (by kernel_rfl) (by kernel_rfl) ?_ ?_ ?_ ?_
  ·rintro l a W ⟨m0, m1, m2, m3, m4, m5, m6, m7, m8, m9, m10, rfl, _⟩
   rfl
  ·exact ⟨false, false, false, false, false, false, false, false, false, false, false, rfl, rfl, trivial, HM6.out.drew⟩
  ·rintro l a W i o ⟨m0, m1, m2, m3, m4, m5, m6, m7, m8, m9, m10, rfl, rfl, hi0, hm⟩ ho hun hall K hK
   have hi : i < 11 := (Array.getElem?_eq_some_iff.1 ho).1
   have HM := Lib.hid hm
   have HI := Lib.hid hi0
   clear hm hi0
   rcases (show i = 0 ∨ i = 1 ∨ i = 2 ∨ i = 3 ∨ i = 4 ∨ i = 5 ∨ i = 6 ∨ i = 7 ∨ i = 8 ∨ i = 9 ∨ i = 10 by omega) with rfl | rfl | rfl | rfl | rfl | rfl | rfl | rfl | rfl | rfl | rfl
   ·cases ho
    simp at hun; subst hun
    clear hall hi
    go_simp
    exact hK.out _ _ ⟨true, m1, m2, m3, m4, m5, m6, m7, m8, m9, m10, rfl, rfl, trivial, HM.out⟩
   ·cases ho
    cases (getBX hall 0 rfl : m0 = true)
    simp at hun; subst hun
    clear hall hi
    go_simp
    exact hK.out _ _ ⟨true, true, m2, m3, m4, m5, m6, m7, m8, m9, m10, rfl, rfl, trivial, HM.out⟩
   ·cases ho
    cases (getBX hall 1 rfl : m1 = true)
    simp at hun; subst hun
    clear hall hi
    go_simp
    exact hK.out _ _ ⟨m0, true, true, m3, m4, m5, m6, m7, m8, m9, m10, rfl, rfl, trivial, HM.out⟩
   ·cases ho
    cases (getBX hall 1 rfl : m1 = true)
    cases (getBX hall 2 rfl : m2 = true)
    simp at hun; subst hun
    clear hall hi
    go_simp
    exact hK.out _ _ ⟨m0, true, true, true, m4, m5, m6, m7, m8, m9, m10, rfl, rfl, trivial, HM.out⟩
   ·cases ho
    cases (getBX hall 1 rfl : m1 = true)
    cases (getBX hall 3 rfl : m3 = true)
    simp at hun; subst hun
    clear hall hi
    go_simp
    exact hK.out _ _ ⟨m0, true, m2, true, true, m5, m6, m7, m8, m9, m10, rfl, rfl, trivial, HM.out⟩
   ·cases ho
    cases (getBX hall 4 rfl : m4 = true)
    simp at hun; subst hun
    clear hall hi
    obtain ⟨y0', y1', y2', y3', y4', y5'⟩ := six_of (HM.out.at_ 3 rfl)
    go_simp
    exact hK.out _ _ ⟨m0, m1, m2, m3, true, true, m6, m7, m8, m9, m10, rfl, rfl, trivial, HM.out⟩
   ·cases ho
    cases (getBX hall 4 rfl : m4 = true)
    simp at hun; subst hun
    clear hall hi
    have v0 : W.cell? ⟨w5.heap.size, 0, none⟩ = some (.int .i64 q0) := (HM.out.at_ 5 rfl).cell 0
    have v1 : W.cell? ⟨w5.heap.size, 1, none⟩ = some (.int .i64 q1) := (HM.out.at_ 5 rfl).cell 1
    have v2 : W.cell? ⟨w5.heap.size, 2, none⟩ = some (.int .i64 q2) := (HM.out.at_ 5 rfl).cell 2
    have v3 : W.cell? ⟨w5.heap.size, 3, none⟩ = some (.int .i64 q3) := (HM.out.at_ 5 rfl).cell 3
    go_simp
    exact hK.out _ _ ⟨m0, m1, m2, m3, true, m5, true, m7, m8, m9, m10, rfl, rfl, trivial, HM.out⟩
   ·cases ho
    cases (getBX hall 4 rfl : m4 = true)
    cases (getBX hall 6 rfl : m6 = true)
    simp at hun; subst hun
    clear hall hi
    go_simp
    refine (HSX'.out _).mono ?_
    rintro e W' ⟨rfl, hb⟩
    exact hK.out _ _ ⟨m0, m1, m2, m3, true, m5, true, true, m8, m9, m10, rfl, rfl, trivial, HM.out.step hb⟩
   ·cases ho
    cases (getBX hall 4 rfl : m4 = true)
    cases (getBX hall 5 rfl : m5 = true)
    cases (getBX hall 7 rfl : m7 = true)
    simp at hun; subst hun
    clear hall hi
    go_simp
    exact hK.out _ _ ⟨m0, m1, m2, m3, true, true, m6, true, true, m9, m10, rfl, rfl, trivial, HM.out⟩
   ·cases ho
    cases (getBX hall 1 rfl : m1 = true)
    cases (getBX hall 4 rfl : m4 = true)
    cases (getBX hall 8 rfl : m8 = true)
    simp at hun; subst hun
    clear hall hi
    go_simp
    exact hK.out _ _ ⟨m0, true, m2, m3, true, m5, m6, m7, true, true, m10, rfl, rfl, trivial, HM.out⟩
   ·cases ho
    cases (getBX hall 1 rfl : m1 = true)
    cases (getBX hall 9 rfl : m9 = true)
    simp at hun; subst hun
    clear hall hi
    go_simp
    exact hK.out _ _ ⟨m0, true, m2, m3, m4, m5, m6, m7, m8, true, true, rfl, rfl, trivial, HM.out⟩
  ·rintro l a W ⟨m0, m1, m2, m3, m4, m5, m6, m7, m8, m9, m10, rfl, rfl, _, hm⟩ hall
   cases (hall 0 (by decide) : m0 = true)
   cases (hall 1 (by decide) : m1 = true)
   cases (hall 2 (by decide) : m2 = true)
   cases (hall 3 (by decide) : m3 = true)
   cases (hall 4 (by decide) : m4 = true)
   cases (hall 5 (by decide) : m5 = true)
   cases (hall 6 (by decide) : m6 = true)
   cases (hall 7 (by decide) : m7 = true)
   cases (hall 8 (by decide) : m8 = true)
   cases (hall 9 (by decide) : m9 = true)
   cases (hall 10 (by decide) : m10 = true)
   clear hall
   have HM8 : Hid (Hp w [(w.heap.size, 26, plC n X d), (w.heap.size + 1, 77, [.int .i64 na, .int .i64 nb]), (w2.heap.size, 33, cirL C), (w3.heap.size, 36, [.int .i64 x0, .int .i64 x1, .int .i64 x2, .int .i64 x3, .int .i64 x4, .int .i64 x5]), (w4.heap.size, 36, [.int .i64 y0, .int .i64 y1, .int .i64 y2, .int .i64 y3, .int .i64 y4, .int .i64 y5]), (w5.heap.size, 45, [.int .i64 q0, .int .i64 q1, .int .i64 q2, .int .i64 q3])] _) := Lib.hid hm
   have v0 := (hm.at_ 1 rfl).cell 0
   have v1 := (hm.at_ 1 rfl).cell 1
   simp only [List.getElem?_cons_succ, List.getElem?_cons_zero] at v0 v1
   obtain ⟨b0', b1', b2', b3', b4', b5'⟩ := six_of (hm.at_ 4 rfl)
   clear hm
   dsimp only [cwX, cond_true]
   by_cases hl : mn < 0
   ·obtain ⟨rfl, rfl, rfl, rfl, rfl, rfl, rfl⟩ := HRG.out (.inl hl)
    have hm1 : mn < 0 := hl
    have HB := Lib.hid HM8.out.below
    go_wp2
    exact bodyPost_ret (v := .bool true) (by simp [results, Tryz.results7, go_sem]) rfl ⟨rfl, HB.out⟩
   by_cases hh : 127 < mx
   ·obtain ⟨rfl, rfl, rfl, rfl, rfl, rfl, rfl⟩ := HRG.out (.inr hh)
    have hm1 : ¬ mn < 0 := hl
    have hm2 : 127 < mx := hh
    have HB := Lib.hid HM8.out.below
    go_wp2
    exact bodyPost_ret (v := .bool true) (by simp [results, Tryz.results7, go_sem]) rfl ⟨rfl, HB.out⟩
   obtain ⟨rfl, hLB⟩ := HLB.out ⟨by omega, by omega⟩
   have HLB' := Lib.hid hLB
   clear hLB HRG HLB
   go_wp2_with (refine wpList_load_row rfl 33 _ rfl (w2.heap.size) rfl 33 (cirL C).toArray (0, 0) _ (HM8.out.at_ 2 rfl) Tryz.underlying33 rfl (by rw [infoCircle, List.size_toArray, cirL_len]) ?_)
   refine (HLB'.out _ (HT.out.below HM8.out.below)).mono ?_
   rintro e w8 ⟨rfl, hb8⟩
   have hm9 := (HM8.out.step hb8).new 45 [.int .i64 r0, .int .i64 r1, .int .i64 r2, .int .i64 r3]
   simp only [List.nil_append, List.cons_append] at hm9
   have HM9 := Lib.hid hm9
   clear hb8 hm9 v0 v1 b0' b1' b2' b3' b4' b5'
   cases bb
   ·clear HSY
    go_upto_region 15 with fail
    refine wp_regionJ 13 #[false, false, false, false, false, false, false, false, false, false, false, false, false] (fun l a W => ∃ (m0 m1 m2 m3 m4 m5 m6 m7 m8 m9 m10 m11 m12 : Bool), l = #[m0, m1, m2, m3, m4, m5, m6, m7, m8, m9, m10, m11, m12] ∧ a = ({ tmps := #[.agg (plC n X d).toArray, .int .i64 x, .agg #[.int .i64 na, .int .i64 nb], .pointer (some ⟨w.heap.size, 0, none⟩), undef, .pointer (some ⟨w.heap.size + 1, 0, none⟩), cwX m12 (.bool true) (.bool false), .pointer (some ⟨w2.heap.size, 0, none⟩), .pointer (some ⟨w3.heap.size, 0, none⟩), .int .i64 0, .pointer (some ⟨w4.heap.size, 0, none⟩), .int .i64 0, .pointer (some ⟨w5.heap.size, 0, none⟩), .bool true, .pointer (some ⟨w8.heap.size, 0, none⟩), .bool false, .bool true, .bool false, .agg (plC n X d).toArray, .agg (cirL C).toArray, .tuple #[szv x0 x1 x2 x3 x4 x5, .int .i64 0], .agg (cirL C).toArray, .int .i64 x, .tuple #[szv x0 x1 x2 x3 x4 x5, .int .i64 0], szv x0 x1 x2 x3 x4 x5, .int .i64 0, .tuple #[szv y0 y1 y2 y3 y4 y5, .int .i64 0], .agg (cirL C).toArray, .pointer (some ⟨w.heap.size + 1, 0, none⟩), .int .i64 na, .pointer (some ⟨w.heap.size + 1, 1, none⟩), .int .i64 nb, .tuple #[szv y0 y1 y2 y3 y4 y5, .int .i64 0], szv y0 y1 y2 y3 y4 y5, .int .i64 0, .int .i64 x, .bool (decide (x < 0)), .bool (decide (x < 0)), .int .i64 x, .bool (decide (11 < x)), .bool (decide (x < 0) || decide (11 < x)), undef, undef, undef, undef, undef, undef, undef, .tuple #[ovv q0 q1 q2 q3, .bool true], .agg (cirL C).toArray, .int .i64 x, .tuple #[ovv q0 q1 q2 q3, .bool true], ovv q0 q1 q2 q3, .bool true, .bool true, .bool true, .int .i64 0, .bool false, .bool false, szv x0 x1 x2 x3 x4 x5, ovv q0 q1 q2 q3, szv x0 x1 x2 x3 x4 x5, .bool false, .bool false, .bool false, .pointer (some ⟨w.heap.size + 1, 0, none⟩), .int .i64 na, .pointer (some ⟨w.heap.size + 1, 1, none⟩), .int .i64 nb, .int .i64 mn, .bool false, .bool false, .pointer (some ⟨w.heap.size + 1, 0, none⟩), .int .i64 na, .pointer (some ⟨w.heap.size + 1, 1, none⟩), .int .i64 nb, .int .i64 mx, .bool false, .bool false, undef, undef, undef, undef, undef, undef, undef, .tuple #[ovv r0 r1 r2 r3, .bool false], .agg (cirL C).toArray, .pointer (some ⟨w.heap.size + 1, 0, none⟩), .int .i64 na, .pointer (some ⟨w.heap.size + 1, 1, none⟩), .int .i64 nb, .tuple #[ovv r0 r1 r2 r3, .bool false], ovv r0 r1 r2 r3, .bool false, cwX m0 (.bool false) (undef), cwX m1 (.bool true) (undef), cwX m2 (.bool true) (undef), undef, undef, undef, undef, undef, undef, undef, undef, cwX m11 (.bool true) (undef)], defers := [] } : Act) ∧ (True) ∧ Hp w [(w.heap.size, 26, plC n X d), (w.heap.size + 1, 77, [.int .i64 na, .int .i64 nb]), (w2.heap.size, 33, cirL C), (w3.heap.size, 36, [.int .i64 x0, .int .i64 x1, .int .i64 x2, .int .i64 x3, .int .i64 x4, .int .i64 x5]), (w4.heap.size, 36, [.int .i64 y0, .int .i64 y1, .int .i64 y2, .int .i64 y3, .int .i64 y4, .int .i64 y5]), (w5.heap.size, 45, [.int .i64 q0, .int .i64 q1, .int .i64 q2, .int .i64 q3]), (w8.heap.size, 45, [.int .i64 r0, .int .i64 r1, .int .i64 r2, .int .i64 r3])] W) (by kernel_rfl) (by kernel_rfl) (by kernel_rfl) (by kernel_rfl) ?_ ?_ ?_ ?_
    ·rintro l a W ⟨m0, m1, m2, m3, m4, m5, m6, m7, m8, m9, m10, m11, m12, rfl, _⟩
     rfl
    ·exact ⟨false, false, false, false, false, false, false, false, false, false, false, false, false, rfl, rfl, trivial, HM9.out.drew⟩
    ·rintro l a W i o ⟨m0, m1, m2, m3, m4, m5, m6, m7, m8, m9, m10, m11, m12, rfl, rfl, hi0, hm⟩ ho hun hall K hK
     have hi : i < 13 := (Array.getElem?_eq_some_iff.1 ho).1
     have HM := Lib.hid hm
     have HI := Lib.hid hi0
     clear hm hi0
     rcases (show i = 0 ∨ i = 1 ∨ i = 2 ∨ i = 3 ∨ i = 4 ∨ i = 5 ∨ i = 6 ∨ i = 7 ∨ i = 8 ∨ i = 9 ∨ i = 10 ∨ i = 11 ∨ i = 12 by omega) with rfl | rfl | rfl | rfl | rfl | rfl | rfl | rfl | rfl | rfl | rfl | rfl | rfl
     ·cases ho
      simp at hun; subst hun
      clear hall hi
      go_simp
      exact hK.out _ _ ⟨true, m1, m2, m3, m4, m5, m6, m7, m8, m9, m10, m11, m12, rfl, rfl, trivial, HM.out⟩
     ·cases ho
      cases (getBX hall 0 rfl : m0 = true)
      simp at hun; subst hun
      clear hall hi
      go_simp
      exact hK.out _ _ ⟨true, true, m2, m3, m4, m5, m6, m7, m8, m9, m10, m11, m12, rfl, rfl, trivial, HM.out⟩
     ·cases ho
      cases (getBX hall 1 rfl : m1 = true)
      simp at hun; subst hun
      clear hall hi
      go_simp
      exact hK.out _ _ ⟨m0, true, true, m3, m4, m5, m6, m7, m8, m9, m10, m11, m12, rfl, rfl, trivial, HM.out⟩
     ·cases ho
      cases (getBX hall 2 rfl : m2 = true)
      simp at hun; subst hun
      clear hall hi
      go_simp
      exact hK.out _ _ ⟨m0, m1, true, true, m4, m5, m6, m7, m8, m9, m10, m11, m12, rfl, rfl, trivial, HM.out⟩
     ·cases ho
      cases (getBX hall 2 rfl : m2 = true)
      simp at hun; subst hun
      clear hall hi
      go_simp
      exact hK.out _ _ ⟨m0, m1, true, m3, true, m5, m6, m7, m8, m9, m10, m11, m12, rfl, rfl, trivial, HM.out⟩
     ·cases ho
      cases (getBX hall 2 rfl : m2 = true)
      simp at hun; subst hun
      clear hall hi
      go_simp
      exact hK.out _ _ ⟨m0, m1, true, m3, m4, true, m6, m7, m8, m9, m10, m11, m12, rfl, rfl, trivial, HM.out⟩
     ·cases ho
      cases (getBX hall 5 rfl : m5 = true)
      simp at hun; subst hun
      clear hall hi
      go_simp
      exact hK.out _ _ ⟨m0, m1, m2, m3, m4, true, true, m7, m8, m9, m10, m11, m12, rfl, rfl, trivial, HM.out⟩
     ·cases ho
      cases (getBX hall 5 rfl : m5 = true)
      simp at hun; subst hun
      clear hall hi
      go_simp
      exact hK.out _ _ ⟨m0, m1, m2, m3, m4, true, m6, true, m8, m9, m10, m11, m12, rfl, rfl, trivial, HM.out⟩
     ·cases ho
      cases (getBX hall 5 rfl : m5 = true)
      simp at hun; subst hun
      clear hall hi
      go_simp
      exact hK.out _ _ ⟨m0, m1, m2, m3, m4, true, m6, m7, true, m9, m10, m11, m12, rfl, rfl, trivial, HM.out⟩
     ·cases ho
      cases (getBX hall 5 rfl : m5 = true)
      simp at hun; subst hun
      clear hall hi
      go_simp
      exact hK.out _ _ ⟨m0, m1, m2, m3, m4, true, m6, m7, m8, true, m10, m11, m12, rfl, rfl, trivial, HM.out⟩
     ·cases ho
      cases (getBX hall 2 rfl : m2 = true)
      simp at hun; subst hun
      clear hall hi
      go_simp
      exact hK.out _ _ ⟨m0, m1, true, m3, m4, m5, m6, m7, m8, m9, true, m11, m12, rfl, rfl, trivial, HM.out⟩
     ·cases ho
      cases (getBX hall 2 rfl : m2 = true)
      simp at hun; subst hun
      clear hall hi
      go_simp
      exact hK.out _ _ ⟨m0, m1, true, m3, m4, m5, m6, m7, m8, m9, m10, true, m12, rfl, rfl, trivial, HM.out⟩
     ·cases ho
      cases (getBX hall 11 rfl : m11 = true)
      simp at hun; subst hun
      clear hall hi
      go_simp
      exact hK.out _ _ ⟨m0, m1, m2, m3, m4, m5, m6, m7, m8, m9, m10, true, true, rfl, rfl, trivial, HM.out⟩
    ·rintro l a W ⟨m0, m1, m2, m3, m4, m5, m6, m7, m8, m9, m10, m11, m12, rfl, rfl, _, hm⟩ hall
     cases (hall 0 (by decide) : m0 = true)
     cases (hall 1 (by decide) : m1 = true)
     cases (hall 2 (by decide) : m2 = true)
     cases (hall 3 (by decide) : m3 = true)
     cases (hall 4 (by decide) : m4 = true)
     cases (hall 5 (by decide) : m5 = true)
     cases (hall 6 (by decide) : m6 = true)
     cases (hall 7 (by decide) : m7 = true)
     cases (hall 8 (by decide) : m8 = true)
     cases (hall 9 (by decide) : m9 = true)
     cases (hall 10 (by decide) : m10 = true)
     cases (hall 11 (by decide) : m11 = true)
     cases (hall 12 (by decide) : m12 = true)
     clear hall
     have HB := Lib.hid hm.below
     clear hm
     dsimp only [cwX, cond_true]
     go_wp2
     exact bodyPost_ret (v := .bool true) (by simp [results, Tryz.results7, go_sem]) rfl ⟨rfl, HB.out⟩
   ·have HSY' := Lib.hid (HSY.out rfl)
    clear HSY
    go_upto_region 15 with fail
    refine wp_regionJ 13 #[false, false, false, false, false, false, false, false, false, false, false, false, false] (fun l a W => ∃ (m0 m1 m2 m3 m4 m5 m6 m7 m8 m9 m10 m11 m12 : Bool), l = #[m0, m1, m2, m3, m4, m5, m6, m7, m8, m9, m10, m11, m12] ∧ a = ({ tmps := #[.agg (plC n X d).toArray, .int .i64 x, .agg #[.int .i64 na, .int .i64 nb], .pointer (some ⟨w.heap.size, 0, none⟩), undef, .pointer (some ⟨w.heap.size + 1, 0, none⟩), cwX m12 (.bool true) (.bool false), .pointer (some ⟨w2.heap.size, 0, none⟩), .pointer (some ⟨w3.heap.size, 0, none⟩), .int .i64 0, .pointer (some ⟨w4.heap.size, 0, none⟩), .int .i64 0, .pointer (some ⟨w5.heap.size, 0, none⟩), .bool true, .pointer (some ⟨w8.heap.size, 0, none⟩), .bool true, .bool true, .bool false, .agg (plC n X d).toArray, .agg (cirL C).toArray, .tuple #[szv x0 x1 x2 x3 x4 x5, .int .i64 0], .agg (cirL C).toArray, .int .i64 x, .tuple #[szv x0 x1 x2 x3 x4 x5, .int .i64 0], szv x0 x1 x2 x3 x4 x5, .int .i64 0, .tuple #[szv y0 y1 y2 y3 y4 y5, .int .i64 0], .agg (cirL C).toArray, .pointer (some ⟨w.heap.size + 1, 0, none⟩), .int .i64 na, .pointer (some ⟨w.heap.size + 1, 1, none⟩), .int .i64 nb, .tuple #[szv y0 y1 y2 y3 y4 y5, .int .i64 0], szv y0 y1 y2 y3 y4 y5, .int .i64 0, .int .i64 x, .bool (decide (x < 0)), .bool (decide (x < 0)), .int .i64 x, .bool (decide (11 < x)), .bool (decide (x < 0) || decide (11 < x)), undef, undef, undef, undef, undef, undef, undef, .tuple #[ovv q0 q1 q2 q3, .bool true], .agg (cirL C).toArray, .int .i64 x, .tuple #[ovv q0 q1 q2 q3, .bool true], ovv q0 q1 q2 q3, .bool true, .bool true, .bool true, .int .i64 0, .bool false, .bool false, szv x0 x1 x2 x3 x4 x5, ovv q0 q1 q2 q3, szv x0 x1 x2 x3 x4 x5, .bool false, .bool false, .bool false, .pointer (some ⟨w.heap.size + 1, 0, none⟩), .int .i64 na, .pointer (some ⟨w.heap.size + 1, 1, none⟩), .int .i64 nb, .int .i64 mn, .bool false, .bool false, .pointer (some ⟨w.heap.size + 1, 0, none⟩), .int .i64 na, .pointer (some ⟨w.heap.size + 1, 1, none⟩), .int .i64 nb, .int .i64 mx, .bool false, .bool false, undef, undef, undef, undef, undef, undef, undef, .tuple #[ovv r0 r1 r2 r3, .bool true], .agg (cirL C).toArray, .pointer (some ⟨w.heap.size + 1, 0, none⟩), .int .i64 na, .pointer (some ⟨w.heap.size + 1, 1, none⟩), .int .i64 nb, .tuple #[ovv r0 r1 r2 r3, .bool true], ovv r0 r1 r2 r3, .bool true, cwX m0 (.bool true) (undef), cwX m1 (.bool false) (undef), cwX m2 (.bool false) (undef), cwX m3 (.int .i64 0) (undef), cwX m4 (.bool true) (undef), cwX m5 (.bool true) (undef), cwX m6 (szv y0 y1 y2 y3 y4 y5) (undef), cwX m7 (ovv r0 r1 r2 r3) (undef), cwX m8 (szv y0 y1 y2 y3 y4 y5) (undef), cwX m9 (.bool true) (undef), cwX m10 (.bool true) (undef), cwX m11 (.bool true) (undef)], defers := [] } : Act) ∧ (True) ∧ Hp w [(w.heap.size, 26, plC n X d), (w.heap.size + 1, 77, [.int .i64 na, .int .i64 nb]), (w2.heap.size, 33, cirL C), (w3.heap.size, 36, [.int .i64 x0, .int .i64 x1, .int .i64 x2, .int .i64 x3, .int .i64 x4, .int .i64 x5]), (w4.heap.size, 36, [.int .i64 y0, .int .i64 y1, .int .i64 y2, .int .i64 y3, .int .i64 y4, .int .i64 y5]), (w5.heap.size, 45, [.int .i64 q0, .int .i64 q1, .int .i64 q2, .int .i64 q3]), (w8.heap.size, 45, [.int .i64 r0, .int .i64 r1, .int .i64 r2, .int .i64 r3])] W) (by kernel_rfl) (by kernel_rfl) (by kernel_rfl) (by kernel_rfl) ?_ ?_ ?_ ?_
    ·rintro l a W ⟨m0, m1, m2, m3, m4, m5, m6, m7, m8, m9, m10, m11, m12, rfl, _⟩
     rfl
    ·exact ⟨false, false, false, false, false, false, false, false, false, false, false, false, false, rfl, rfl, trivial, HM9.out.drew⟩
    ·rintro l a W i o ⟨m0, m1, m2, m3, m4, m5, m6, m7, m8, m9, m10, m11, m12, rfl, rfl, hi0, hm⟩ ho hun hall K hK
     have hi : i < 13 := (Array.getElem?_eq_some_iff.1 ho).1
     have HM := Lib.hid hm
     have HI := Lib.hid hi0
     clear hm hi0
     rcases (show i = 0 ∨ i = 1 ∨ i = 2 ∨ i = 3 ∨ i = 4 ∨ i = 5 ∨ i = 6 ∨ i = 7 ∨ i = 8 ∨ i = 9 ∨ i = 10 ∨ i = 11 ∨ i = 12 by omega) with rfl | rfl | rfl | rfl | rfl | rfl | rfl | rfl | rfl | rfl | rfl | rfl | rfl
     ·cases ho
      simp at hun; subst hun
      clear hall hi
      go_simp
      exact hK.out _ _ ⟨true, m1, m2, m3, m4, m5, m6, m7, m8, m9, m10, m11, m12, rfl, rfl, trivial, HM.out⟩
     ·cases ho
      cases (getBX hall 0 rfl : m0 = true)
      simp at hun; subst hun
      clear hall hi
      go_simp
      exact hK.out _ _ ⟨true, true, m2, m3, m4, m5, m6, m7, m8, m9, m10, m11, m12, rfl, rfl, trivial, HM.out⟩
     ·cases ho
      cases (getBX hall 1 rfl : m1 = true)
      simp at hun; subst hun
      clear hall hi
      go_simp
      exact hK.out _ _ ⟨m0, true, true, m3, m4, m5, m6, m7, m8, m9, m10, m11, m12, rfl, rfl, trivial, HM.out⟩
     ·cases ho
      cases (getBX hall 2 rfl : m2 = true)
      simp at hun; subst hun
      clear hall hi
      go_simp
      exact hK.out _ _ ⟨m0, m1, true, true, m4, m5, m6, m7, m8, m9, m10, m11, m12, rfl, rfl, trivial, HM.out⟩
     ·cases ho
      cases (getBX hall 2 rfl : m2 = true)
      cases (getBX hall 3 rfl : m3 = true)
      simp at hun; subst hun
      clear hall hi
      go_simp
      exact hK.out _ _ ⟨m0, m1, true, true, true, m5, m6, m7, m8, m9, m10, m11, m12, rfl, rfl, trivial, HM.out⟩
     ·cases ho
      cases (getBX hall 2 rfl : m2 = true)
      cases (getBX hall 4 rfl : m4 = true)
      simp at hun; subst hun
      clear hall hi
      go_simp
      exact hK.out _ _ ⟨m0, m1, true, m3, true, true, m6, m7, m8, m9, m10, m11, m12, rfl, rfl, trivial, HM.out⟩
     ·cases ho
      cases (getBX hall 5 rfl : m5 = true)
      simp at hun; subst hun
      clear hall hi
      obtain ⟨y0', y1', y2', y3', y4', y5'⟩ := six_of (HM.out.at_ 4 rfl)
      go_simp
      exact hK.out _ _ ⟨m0, m1, m2, m3, m4, true, true, m7, m8, m9, m10, m11, m12, rfl, rfl, trivial, HM.out⟩
     ·cases ho
      cases (getBX hall 5 rfl : m5 = true)
      simp at hun; subst hun
      clear hall hi
      have v0 : W.cell? ⟨w8.heap.size, 0, none⟩ = some (.int .i64 r0) := (HM.out.at_ 6 rfl).cell 0
      have v1 : W.cell? ⟨w8.heap.size, 1, none⟩ = some (.int .i64 r1) := (HM.out.at_ 6 rfl).cell 1
      have v2 : W.cell? ⟨w8.heap.size, 2, none⟩ = some (.int .i64 r2) := (HM.out.at_ 6 rfl).cell 2
      have v3 : W.cell? ⟨w8.heap.size, 3, none⟩ = some (.int .i64 r3) := (HM.out.at_ 6 rfl).cell 3
      go_simp
      exact hK.out _ _ ⟨m0, m1, m2, m3, m4, true, m6, true, m8, m9, m10, m11, m12, rfl, rfl, trivial, HM.out⟩
     ·cases ho
      cases (getBX hall 5 rfl : m5 = true)
      cases (getBX hall 7 rfl : m7 = true)
      simp at hun; subst hun
      clear hall hi
      go_simp
      refine (HSY'.out _).mono ?_
      rintro e W' ⟨rfl, hb⟩
      exact hK.out _ _ ⟨m0, m1, m2, m3, m4, true, m6, true, true, m9, m10, m11, m12, rfl, rfl, trivial, HM.out.step hb⟩
     ·cases ho
      cases (getBX hall 5 rfl : m5 = true)
      cases (getBX hall 6 rfl : m6 = true)
      cases (getBX hall 8 rfl : m8 = true)
      simp at hun; subst hun
      clear hall hi
      go_simp
      exact hK.out _ _ ⟨m0, m1, m2, m3, m4, true, true, m7, true, true, m10, m11, m12, rfl, rfl, trivial, HM.out⟩
     ·cases ho
      cases (getBX hall 2 rfl : m2 = true)
      cases (getBX hall 5 rfl : m5 = true)
      cases (getBX hall 9 rfl : m9 = true)
      simp at hun; subst hun
      clear hall hi
      go_simp
      exact hK.out _ _ ⟨m0, m1, true, m3, m4, true, m6, m7, m8, true, true, m11, m12, rfl, rfl, trivial, HM.out⟩
     ·cases ho
      cases (getBX hall 2 rfl : m2 = true)
      cases (getBX hall 10 rfl : m10 = true)
      simp at hun; subst hun
      clear hall hi
      go_simp
      exact hK.out _ _ ⟨m0, m1, true, m3, m4, m5, m6, m7, m8, m9, true, true, m12, rfl, rfl, trivial, HM.out⟩
     ·cases ho
      cases (getBX hall 11 rfl : m11 = true)
      simp at hun; subst hun
      clear hall hi
      go_simp
      exact hK.out _ _ ⟨m0, m1, m2, m3, m4, m5, m6, m7, m8, m9, m10, true, true, rfl, rfl, trivial, HM.out⟩
    ·rintro l a W ⟨m0, m1, m2, m3, m4, m5, m6, m7, m8, m9, m10, m11, m12, rfl, rfl, _, hm⟩ hall
     cases (hall 0 (by decide) : m0 = true)
     cases (hall 1 (by decide) : m1 = true)
     cases (hall 2 (by decide) : m2 = true)
     cases (hall 3 (by decide) : m3 = true)
     cases (hall 4 (by decide) : m4 = true)
     cases (hall 5 (by decide) : m5 = true)
     cases (hall 6 (by decide) : m6 = true)
     cases (hall 7 (by decide) : m7 = true)
     cases (hall 8 (by decide) : m8 = true)
     cases (hall 9 (by decide) : m9 = true)
     cases (hall 10 (by decide) : m10 = true)
     cases (hall 11 (by decide) : m11 = true)
     cases (hall 12 (by decide) : m12 = true)
     clear hall
     have HB := Lib.hid hm.below
     clear hm
     dsimp only [cwX, cond_true]
     go_wp2
     exact bodyPost_ret (v := .bool true) (by simp [results, Tryz.results7, go_sem]) rfl ⟨rfl, HB.out⟩
set_option maxRecDepth 1000000 in
set_option maxHeartbeats 4000000 in
theorem lnotes_out (n d : Int) (X : Nat → Int × Int) (C : Nat → Tm) (x na nb y0 y1 y2 y3 y4 y5 f r0 r1 r2 r3 : Int) (bb : Bool) (w : World) (ht : Tab w) (hx : x < 0 ∨ 11 < x)
  (hMK : ∀ W, Calls Tryz.prog 11 #[.agg (plC n X d).toArray] W fun e w' => e = .returned (.agg (cirL C).toArray) ∧ Below W.heap.size W w')
  (hNO : ∀ W, Tab W → Calls Tryz.prog 31 #[.agg (cirL C).toArray, .int .i64 x] W fun e w' => e = .returned (.tuple #[szv 0 0 0 0 0 0, .int .i64 3]) ∧ Below W.heap.size W w')
  (hBE : ∀ W, Tab W → Calls Tryz.prog 22 #[.agg (cirL C).toArray, .int .i64 na, .int .i64 nb] W fun e w' => e = .returned (.tuple #[szv y0 y1 y2 y3 y4 y5, .int .i64 f]) ∧ Below W.heap.size W w')
  (hLB : 0 ≤ min na nb ∧ max na nb ≤ 127 → f = 0 ∧ ∀ W, Tab W → Calls Tryz.prog 37 #[.agg (cirL C).toArray, .int .i64 na, .int .i64 nb] W fun e w' => e = .returned (.tuple #[ovv r0 r1 r2 r3, .bool bb]) ∧ Below W.heap.size W w')
  (hSY : bb = true → ∀ W, Calls Tryz.prog 16 #[ovv r0 r1 r2 r3] W fun e w' => e = .returned (szv y0 y1 y2 y3 y4 y5) ∧ Below W.heap.size W w')
  (hRG : min na nb < 0 ∨ 127 < max na nb → f = 3 ∧ y0 = 0 ∧ y1 = 0 ∧ y2 = 0 ∧ y3 = 0 ∧ y4 = 0 ∧ y5 = 0) :
  Calls Tryz.prog 7 #[.agg (plC n X d).toArray, .int .i64 x, .agg #[.int .i64 na, .int .i64 nb]] w fun e w' => e = .returned (.bool true) ∧ Below w.heap.size w w' := by
 have HKN := Lib.hid (fun W hT => tknown_any W hT)
 have HT := Lib.hid ht
 have HMK := Lib.hid hMK
 have HNO := Lib.hid hNO
 have HBE := Lib.hid hBE
 have HLB := Lib.hid hLB
 have HSY := Lib.hid hSY
 have hmn := fun ts t W => run_min2 ts t na nb W
 have hmx := fun ts t W => run_max2 ts t na nb W
 obtain ⟨mn, hn'⟩ : ∃ y, y = min na nb := ⟨_, rfl⟩
 obtain ⟨mx, hx'⟩ : ∃ y, y = max na nb := ⟨_, rfl⟩
 rw [← hn'] at hmn HLB hRG
 rw [← hx'] at hmx HLB hRG
 have HRG := Lib.hid hRG
 clear ht hn' hx' hRG hMK hNO hBE hLB hSY
 have HX := Lib.hid hx
 clear hx
 have hm0 := ((Hp.start w).new 26 (plC n X d)).new 77 [.int .i64 na, .int .i64 nb]
 simp only [World.size_alloc, List.nil_append, List.cons_append] at hm0
 have HM0 := Lib.hid hm0
 clear hm0
 go_enter Tryz.func7, Tryz.ntmps7
 go_wp2_with fail
 refine (HKN.out _ (HT.out.below HM0.out.below)).mono ?_
 rintro e w1 ⟨rfl, hb1⟩
 have HM1 := Lib.hid (HM0.out.step hb1)
 clear hb1
 go_wp2_with (refine wpList_load_row rfl 26 _ rfl (w.heap.size) rfl 26 (plC n X d).toArray (0, 0) _ (HM1.out.at_ 0 rfl) Tryz.underlying26 rfl (by rw [infoPlan41, List.size_toArray, pl_len]) ?_)
 refine (HMK.out _).mono ?_
 rintro e w2 ⟨rfl, hb2⟩
 have hm2 := (HM1.out.step hb2).new 33 (cirL (fun _ => (0, 0, 0, 0)))
 simp only [List.nil_append, List.cons_append] at hm2
 have HM2 := Lib.hid hm2
 have hm3 := (hm2.row 2 rfl (cirL C)).cast (L' := [(w.heap.size, 26, plC n X d), (w.heap.size + 1, 77, [.int .i64 na, .int .i64 nb]), (w2.heap.size, 33, cirL C)]) rfl
 have HM3 := Lib.hid hm3
 clear hb2 hm2 hm3
 go_wp2_with (first | (refine wpList_store_rowTo rfl 33 _ _ rfl rfl (w2.heap.size) (cirL C).toArray rfl rfl 33 (cirL (fun _ => (0, 0, 0, 0))).toArray (HM2.out.at_ 2 rfl) (by rw [infoCircle, List.size_toArray, cirL_len]) (by rw [List.size_toArray, List.size_toArray, cirL_len, cirL_len]) (cir_one _) ?_) | (refine wpList_load_row rfl 33 _ rfl (w2.heap.size) rfl 33 (cirL C).toArray (0, 0) _ (HM3.out.at_ 2 rfl) Tryz.underlying33 rfl (by rw [infoCircle, List.size_toArray, cirL_len]) ?_))
 refine (HNO.out _ (HT.out.below HM3.out.below)).mono ?_
 rintro e w3 ⟨rfl, hb3⟩
 have hm4 := (HM3.out.step hb3).new 36 [.int .i64 0, .int .i64 0, .int .i64 0, .int .i64 0, .int .i64 0, .int .i64 0]
 simp only [List.nil_append, List.cons_append] at hm4
 have v0 := (hm4.at_ 1 rfl).cell 0
 have v1 := (hm4.at_ 1 rfl).cell 1
 simp only [List.getElem?_cons_succ, List.getElem?_cons_zero] at v0 v1
 have HM4 := Lib.hid hm4
 clear hb3 hm4
 go_wp2_with (refine wpList_load_row rfl 33 _ rfl (w2.heap.size) rfl 33 (cirL C).toArray (0, 0) _ (HM4.out.at_ 2 rfl) Tryz.underlying33 rfl (by rw [infoCircle, List.size_toArray, cirL_len]) ?_)
 refine (HBE.out _ (HT.out.below HM4.out.below)).mono ?_
 rintro e w4 ⟨rfl, hb4⟩
 have hm5 := (HM4.out.step hb4).new 36 [.int .i64 y0, .int .i64 y1, .int .i64 y2, .int .i64 y3, .int .i64 y4, .int .i64 y5]
 simp only [List.nil_append, List.cons_append] at hm5
 clear v0 v1
 have v0 := (hm5.at_ 1 rfl).cell 0
 have v1 := (hm5.at_ 1 rfl).cell 1
 simp only [List.getElem?_cons_succ, List.getElem?_cons_zero] at v0 v1
 obtain ⟨a0', a1', a2', a3', a4', a5'⟩ := six_of (hm5.at_ 3 rfl)
 obtain ⟨b0', b1', b2', b3', b4', b5'⟩ := six_of (hm5.at_ 4 rfl)
 have HM5 := Lib.hid hm5
 clear hb4 hm5
 have HM8 := HM5
 rcases HX.out with hx1 | hx2
 ·clear HX
  by_cases hl : mn < 0
  ·obtain ⟨rfl, rfl, rfl, rfl, rfl, rfl, rfl⟩ := HRG.out (.inl hl)
   have hm1 : mn < 0 := hl
   have HB := Lib.hid HM8.out.below
   go_wp2
   exact bodyPost_ret (v := .bool true) (by simp [results, Tryz.results7, go_sem]) rfl ⟨rfl, HB.out⟩
  by_cases hh : 127 < mx
  ·obtain ⟨rfl, rfl, rfl, rfl, rfl, rfl, rfl⟩ := HRG.out (.inr hh)
   have hm1 : ¬ mn < 0 := hl
   have hm2 : 127 < mx := hh
   have HB := Lib.hid HM8.out.below
   go_wp2
   exact bodyPost_ret (v := .bool true) (by simp [results, Tryz.results7, go_sem]) rfl ⟨rfl, HB.out⟩
  obtain ⟨rfl, hLB⟩ := HLB.out ⟨by omega, by omega⟩
  have HLB' := Lib.hid hLB
  clear hLB HRG HLB
  go_wp2_with (refine wpList_load_row rfl 33 _ rfl (w2.heap.size) rfl 33 (cirL C).toArray (0, 0) _ (HM8.out.at_ 2 rfl) Tryz.underlying33 rfl (by rw [infoCircle, List.size_toArray, cirL_len]) ?_)
  refine (HLB'.out _ (HT.out.below HM8.out.below)).mono ?_
  rintro e w8 ⟨rfl, hb8⟩
  have hm9 := (HM8.out.step hb8).new 45 [.int .i64 r0, .int .i64 r1, .int .i64 r2, .int .i64 r3]
  simp only [List.nil_append, List.cons_append] at hm9
  have HM9 := Lib.hid hm9
  clear hb8 hm9 v0 v1 b0' b1' b2' b3' b4' b5' a0' a1' a2' a3' a4' a5'
  cases bb
  ·clear HSY
   go_upto_region 15 with fail
   refine wp_regionJ 13 #[false, false, false, false, false, false, false, false, false, false, false, false, false] (fun l a W => ∃ (m0 m1 m2 m3 m4 m5 m6 m7 m8 m9 m10 m11 m12 : Bool), l = #[m0, m1, m2, m3, m4, m5, m6, m7, m8, m9, m10, m11, m12] ∧ a = ({ tmps := #[.agg (plC n X d).toArray, .int .i64 x, .agg #[.int .i64 na, .int .i64 nb], .pointer (some ⟨w.heap.size, 0, none⟩), undef, .pointer (some ⟨w.heap.size + 1, 0, none⟩), cwX m12 (.bool true) (.bool false), .pointer (some ⟨w2.heap.size, 0, none⟩), .pointer (some ⟨w3.heap.size, 0, none⟩), .int .i64 3, .pointer (some ⟨w4.heap.size, 0, none⟩), .int .i64 0, undef, undef, .pointer (some ⟨w8.heap.size, 0, none⟩), .bool false, .bool true, .bool false, .agg (plC n X d).toArray, .agg (cirL C).toArray, .tuple #[szv 0 0 0 0 0 0, .int .i64 3], .agg (cirL C).toArray, .int .i64 x, .tuple #[szv 0 0 0 0 0 0, .int .i64 3], szv 0 0 0 0 0 0, .int .i64 3, .tuple #[szv y0 y1 y2 y3 y4 y5, .int .i64 0], .agg (cirL C).toArray, .pointer (some ⟨w.heap.size + 1, 0, none⟩), .int .i64 na, .pointer (some ⟨w.heap.size + 1, 1, none⟩), .int .i64 nb, .tuple #[szv y0 y1 y2 y3 y4 y5, .int .i64 0], szv y0 y1 y2 y3 y4 y5, .int .i64 0, .int .i64 x, .bool true, .bool true, undef, undef, .bool true, .int .i64 3, .bool false, .bool false, .agg #[.int .i64 0, .int .i64 0, .int .i64 0, .int .i64 0, .int .i64 0, .int .i64 0], .agg #[.int .i64 0, .int .i64 0, .int .i64 0, .int .i64 0, .int .i64 0, .int .i64 0], .bool false, .bool false, undef, undef, undef, undef, undef, undef, undef, undef, undef, undef, undef, undef, undef, undef, undef, undef, undef, .pointer (some ⟨w.heap.size + 1, 0, none⟩), .int .i64 na, .pointer (some ⟨w.heap.size + 1, 1, none⟩), .int .i64 nb, .int .i64 mn, .bool (decide (mn < 0)), .bool (decide (mn < 0)), .pointer (some ⟨w.heap.size + 1, 0, none⟩), .int .i64 na, .pointer (some ⟨w.heap.size + 1, 1, none⟩), .int .i64 nb, .int .i64 mx, .bool (decide (127 < mx)), .bool (decide (mn < 0) || decide (127 < mx)), undef, undef, undef, undef, undef, undef, undef, .tuple #[ovv r0 r1 r2 r3, .bool false], .agg (cirL C).toArray, .pointer (some ⟨w.heap.size + 1, 0, none⟩), .int .i64 na, .pointer (some ⟨w.heap.size + 1, 1, none⟩), .int .i64 nb, .tuple #[ovv r0 r1 r2 r3, .bool false], ovv r0 r1 r2 r3, .bool false, cwX m0 (.bool false) (undef), cwX m1 (.bool true) (undef), cwX m2 (.bool true) (undef), undef, undef, undef, undef, undef, undef, undef, undef, cwX m11 (.bool true) (undef)], defers := [] } : Act) ∧ (True) ∧ Hp w [(w.heap.size, 26, plC n X d), (w.heap.size + 1, 77, [.int .i64 na, .int .i64 nb]), (w2.heap.size, 33, cirL C), (w3.heap.size, 36, [.int .i64 0, .int .i64 0, .int .i64 0, .int .i64 0, .int .i64 0, .int .i64 0]), (w4.heap.size, 36, [.int .i64 y0, .int .i64 y1, .int .i64 y2, .int .i64 y3, .int .i64 y4, .int .i64 y5]), (w8.heap.size, 45, [.int .i64 r0, .int .i64 r1, .int .i64 r2, .int .i64 r3])] W) (by kernel_rfl) (by kernel_rfl) (by kernel_rfl) (by kernel_rfl) ?_ ?_ ?_ ?_
   ·rintro l a W ⟨m0, m1, m2, m3, m4, m5, m6, m7, m8, m9, m10, m11, m12, rfl, _⟩
    rfl
   ·exact ⟨false, false, false, false, false, false, false, false, false, false, false, false, false, rfl, rfl, trivial, HM9.out.drew⟩
   ·rintro l a W i o ⟨m0, m1, m2, m3, m4, m5, m6, m7, m8, m9, m10, m11, m12, rfl, rfl, hi0, hm⟩ ho hun hall K hK
    have hi : i < 13 := (Array.getElem?_eq_some_iff.1 ho).1
    have HM := Lib.hid hm
    have HI := Lib.hid hi0
    clear hm hi0
    rcases (show i = 0 ∨ i = 1 ∨ i = 2 ∨ i = 3 ∨ i = 4 ∨ i = 5 ∨ i = 6 ∨ i = 7 ∨ i = 8 ∨ i = 9 ∨ i = 10 ∨ i = 11 ∨ i = 12 by omega) with rfl | rfl | rfl | rfl | rfl | rfl | rfl | rfl | rfl | rfl | rfl | rfl | rfl
    ·cases ho
     simp at hun; subst hun
     clear hall hi
     go_simp
     exact hK.out _ _ ⟨true, m1, m2, m3, m4, m5, m6, m7, m8, m9, m10, m11, m12, rfl, rfl, trivial, HM.out⟩
    ·cases ho
     cases (getBX hall 0 rfl : m0 = true)
     simp at hun; subst hun
     clear hall hi
     go_simp
     exact hK.out _ _ ⟨true, true, m2, m3, m4, m5, m6, m7, m8, m9, m10, m11, m12, rfl, rfl, trivial, HM.out⟩
    ·cases ho
     cases (getBX hall 1 rfl : m1 = true)
     simp at hun; subst hun
     clear hall hi
     go_simp
     exact hK.out _ _ ⟨m0, true, true, m3, m4, m5, m6, m7, m8, m9, m10, m11, m12, rfl, rfl, trivial, HM.out⟩
    ·cases ho
     cases (getBX hall 2 rfl : m2 = true)
     simp at hun; subst hun
     clear hall hi
     go_simp
     exact hK.out _ _ ⟨m0, m1, true, true, m4, m5, m6, m7, m8, m9, m10, m11, m12, rfl, rfl, trivial, HM.out⟩
    ·cases ho
     cases (getBX hall 2 rfl : m2 = true)
     simp at hun; subst hun
     clear hall hi
     go_simp
     exact hK.out _ _ ⟨m0, m1, true, m3, true, m5, m6, m7, m8, m9, m10, m11, m12, rfl, rfl, trivial, HM.out⟩
    ·cases ho
     cases (getBX hall 2 rfl : m2 = true)
     simp at hun; subst hun
     clear hall hi
     go_simp
     exact hK.out _ _ ⟨m0, m1, true, m3, m4, true, m6, m7, m8, m9, m10, m11, m12, rfl, rfl, trivial, HM.out⟩
    ·cases ho
     cases (getBX hall 5 rfl : m5 = true)
     simp at hun; subst hun
     clear hall hi
     go_simp
     exact hK.out _ _ ⟨m0, m1, m2, m3, m4, true, true, m7, m8, m9, m10, m11, m12, rfl, rfl, trivial, HM.out⟩
    ·cases ho
     cases (getBX hall 5 rfl : m5 = true)
     simp at hun; subst hun
     clear hall hi
     go_simp
     exact hK.out _ _ ⟨m0, m1, m2, m3, m4, true, m6, true, m8, m9, m10, m11, m12, rfl, rfl, trivial, HM.out⟩
    ·cases ho
     cases (getBX hall 5 rfl : m5 = true)
     simp at hun; subst hun
     clear hall hi
     go_simp
     exact hK.out _ _ ⟨m0, m1, m2, m3, m4, true, m6, m7, true, m9, m10, m11, m12, rfl, rfl, trivial, HM.out⟩
    ·cases ho
     cases (getBX hall 5 rfl : m5 = true)
     simp at hun; subst hun
     clear hall hi
     go_simp
     exact hK.out _ _ ⟨m0, m1, m2, m3, m4, true, m6, m7, m8, true, m10, m11, m12, rfl, rfl, trivial, HM.out⟩
    ·cases ho
     cases (getBX hall 2 rfl : m2 = true)
     simp at hun; subst hun
     clear hall hi
     go_simp
     exact hK.out _ _ ⟨m0, m1, true, m3, m4, m5, m6, m7, m8, m9, true, m11, m12, rfl, rfl, trivial, HM.out⟩
    ·cases ho
     cases (getBX hall 2 rfl : m2 = true)
     simp at hun; subst hun
     clear hall hi
     go_simp
     exact hK.out _ _ ⟨m0, m1, true, m3, m4, m5, m6, m7, m8, m9, m10, true, m12, rfl, rfl, trivial, HM.out⟩
    ·cases ho
     cases (getBX hall 11 rfl : m11 = true)
     simp at hun; subst hun
     clear hall hi
     go_simp
     exact hK.out _ _ ⟨m0, m1, m2, m3, m4, m5, m6, m7, m8, m9, m10, true, true, rfl, rfl, trivial, HM.out⟩
   ·rintro l a W ⟨m0, m1, m2, m3, m4, m5, m6, m7, m8, m9, m10, m11, m12, rfl, rfl, _, hm⟩ hall
    cases (hall 0 (by decide) : m0 = true)
    cases (hall 1 (by decide) : m1 = true)
    cases (hall 2 (by decide) : m2 = true)
    cases (hall 3 (by decide) : m3 = true)
    cases (hall 4 (by decide) : m4 = true)
    cases (hall 5 (by decide) : m5 = true)
    cases (hall 6 (by decide) : m6 = true)
    cases (hall 7 (by decide) : m7 = true)
    cases (hall 8 (by decide) : m8 = true)
    cases (hall 9 (by decide) : m9 = true)
    cases (hall 10 (by decide) : m10 = true)
    cases (hall 11 (by decide) : m11 = true)
    cases (hall 12 (by decide) : m12 = true)
    clear hall
    have HB := Lib.hid hm.below
    clear hm
    dsimp only [cwX, cond_true]
    go_wp2
    exact bodyPost_ret (v := .bool true) (by simp [results, Tryz.results7, go_sem]) rfl ⟨rfl, HB.out⟩
  ·have HSY' := Lib.hid (HSY.out rfl)
   clear HSY
   go_upto_region 15 with fail
   refine wp_regionJ 13 #[false, false, false, false, false, false, false, false, false, false, false, false, false] (fun l a W => ∃ (m0 m1 m2 m3 m4 m5 m6 m7 m8 m9 m10 m11 m12 : Bool), l = #[m0, m1, m2, m3, m4, m5, m6, m7, m8, m9, m10, m11, m12] ∧ a = ({ tmps := #[.agg (plC n X d).toArray, .int .i64 x, .agg #[.int .i64 na, .int .i64 nb], .pointer (some ⟨w.heap.size, 0, none⟩), undef, .pointer (some ⟨w.heap.size + 1, 0, none⟩), cwX m12 (.bool true) (.bool false), .pointer (some ⟨w2.heap.size, 0, none⟩), .pointer (some ⟨w3.heap.size, 0, none⟩), .int .i64 3, .pointer (some ⟨w4.heap.size, 0, none⟩), .int .i64 0, undef, undef, .pointer (some ⟨w8.heap.size, 0, none⟩), .bool true, .bool true, .bool false, .agg (plC n X d).toArray, .agg (cirL C).toArray, .tuple #[szv 0 0 0 0 0 0, .int .i64 3], .agg (cirL C).toArray, .int .i64 x, .tuple #[szv 0 0 0 0 0 0, .int .i64 3], szv 0 0 0 0 0 0, .int .i64 3, .tuple #[szv y0 y1 y2 y3 y4 y5, .int .i64 0], .agg (cirL C).toArray, .pointer (some ⟨w.heap.size + 1, 0, none⟩), .int .i64 na, .pointer (some ⟨w.heap.size + 1, 1, none⟩), .int .i64 nb, .tuple #[szv y0 y1 y2 y3 y4 y5, .int .i64 0], szv y0 y1 y2 y3 y4 y5, .int .i64 0, .int .i64 x, .bool true, .bool true, undef, undef, .bool true, .int .i64 3, .bool false, .bool false, .agg #[.int .i64 0, .int .i64 0, .int .i64 0, .int .i64 0, .int .i64 0, .int .i64 0], .agg #[.int .i64 0, .int .i64 0, .int .i64 0, .int .i64 0, .int .i64 0, .int .i64 0], .bool false, .bool false, undef, undef, undef, undef, undef, undef, undef, undef, undef, undef, undef, undef, undef, undef, undef, undef, undef, .pointer (some ⟨w.heap.size + 1, 0, none⟩), .int .i64 na, .pointer (some ⟨w.heap.size + 1, 1, none⟩), .int .i64 nb, .int .i64 mn, .bool (decide (mn < 0)), .bool (decide (mn < 0)), .pointer (some ⟨w.heap.size + 1, 0, none⟩), .int .i64 na, .pointer (some ⟨w.heap.size + 1, 1, none⟩), .int .i64 nb, .int .i64 mx, .bool (decide (127 < mx)), .bool (decide (mn < 0) || decide (127 < mx)), undef, undef, undef, undef, undef, undef, undef, .tuple #[ovv r0 r1 r2 r3, .bool true], .agg (cirL C).toArray, .pointer (some ⟨w.heap.size + 1, 0, none⟩), .int .i64 na, .pointer (some ⟨w.heap.size + 1, 1, none⟩), .int .i64 nb, .tuple #[ovv r0 r1 r2 r3, .bool true], ovv r0 r1 r2 r3, .bool true, cwX m0 (.bool true) (undef), cwX m1 (.bool false) (undef), cwX m2 (.bool false) (undef), cwX m3 (.int .i64 0) (undef), cwX m4 (.bool true) (undef), cwX m5 (.bool true) (undef), cwX m6 (szv y0 y1 y2 y3 y4 y5) (undef), cwX m7 (ovv r0 r1 r2 r3) (undef), cwX m8 (szv y0 y1 y2 y3 y4 y5) (undef), cwX m9 (.bool true) (undef), cwX m10 (.bool true) (undef), cwX m11 (.bool true) (undef)], defers := [] } : Act) ∧ (True) ∧ Hp w [(w.heap.size, 26, plC n X d), (w.heap.size + 1, 77, [.int .i64 na, .int .i64 nb]), (w2.heap.size, 33, cirL C), (w3.heap.size, 36, [.int .i64 0, .int .i64 0, .int .i64 0, .int .i64 0, .int .i64 0, .int .i64 0]), (w4.heap.size, 36, [.int .i64 y0, .int .i64 y1, .int .i64 y2, .int .i64 y3, .int .i64 y4, .int .i64 y5]), (w8.heap.size, 45, [.int .i64 r0, .int .i64 r1, .int .i64 r2, .int .i64 r3])] W) (by kernel_rfl) (by kernel_rfl) (by kernel_rfl) (by kernel_rfl) ?_ ?_ ?_ ?_
   ·rintro l a W ⟨m0, m1, m2, m3, m4, m5, m6, m7, m8, m9, m10, m11, m12, rfl, _⟩
    rfl
   ·exact ⟨false, false, false, false, false, false, false, false, false, false, false, false, false, rfl, rfl, trivial, HM9.out.drew⟩
   ·rintro l a W i o ⟨m0, m1, m2, m3, m4, m5, m6, m7, m8, m9, m10, m11, m12, rfl, rfl, hi0, hm⟩ ho hun hall K hK
    have hi : i < 13 := (Array.getElem?_eq_some_iff.1 ho).1
    have HM := Lib.hid hm
    have HI := Lib.hid hi0
    clear hm hi0
    rcases (show i = 0 ∨ i = 1 ∨ i = 2 ∨ i = 3 ∨ i = 4 ∨ i = 5 ∨ i = 6 ∨ i = 7 ∨ i = 8 ∨ i = 9 ∨ i = 10 ∨ i = 11 ∨ i = 12 by omega) with rfl | rfl | rfl | rfl | rfl | rfl | rfl | rfl | rfl | rfl | rfl | rfl | rfl
    ·cases ho
     simp at hun; subst hun
     clear hall hi
     go_simp
     exact hK.out _ _ ⟨true, m1, m2, m3, m4, m5, m6, m7, m8, m9, m10, m11, m12, rfl, rfl, trivial, HM.out⟩
    ·cases ho
     cases (getBX hall 0 rfl : m0 = true)
     simp at hun; subst hun
     clear hall hi
     go_simp
     exact hK.out _ _ ⟨true, true, m2, m3, m4, m5, m6, m7, m8, m9, m10, m11, m12, rfl, rfl, trivial, HM.out⟩
    ·cases ho
     cases (getBX hall 1 rfl : m1 = true)
     simp at hun; subst hun
     clear hall hi
     go_simp
     exact hK.out _ _ ⟨m0, true, true, m3, m4, m5, m6, m7, m8, m9, m10, m11, m12, rfl, rfl, trivial, HM.out⟩
    ·cases ho
     cases (getBX hall 2 rfl : m2 = true)
     simp at hun; subst hun
     clear hall hi
     go_simp
     exact hK.out _ _ ⟨m0, m1, true, true, m4, m5, m6, m7, m8, m9, m10, m11, m12, rfl, rfl, trivial, HM.out⟩
    ·cases ho
     cases (getBX hall 2 rfl : m2 = true)
     cases (getBX hall 3 rfl : m3 = true)
     simp at hun; subst hun
     clear hall hi
     go_simp
     exact hK.out _ _ ⟨m0, m1, true, true, true, m5, m6, m7, m8, m9, m10, m11, m12, rfl, rfl, trivial, HM.out⟩
    ·cases ho
     cases (getBX hall 2 rfl : m2 = true)
     cases (getBX hall 4 rfl : m4 = true)
     simp at hun; subst hun
     clear hall hi
     go_simp
     exact hK.out _ _ ⟨m0, m1, true, m3, true, true, m6, m7, m8, m9, m10, m11, m12, rfl, rfl, trivial, HM.out⟩
    ·cases ho
     cases (getBX hall 5 rfl : m5 = true)
     simp at hun; subst hun
     clear hall hi
     obtain ⟨y0', y1', y2', y3', y4', y5'⟩ := six_of (HM.out.at_ 4 rfl)
     go_simp
     exact hK.out _ _ ⟨m0, m1, m2, m3, m4, true, true, m7, m8, m9, m10, m11, m12, rfl, rfl, trivial, HM.out⟩
    ·cases ho
     cases (getBX hall 5 rfl : m5 = true)
     simp at hun; subst hun
     clear hall hi
     have v0 : W.cell? ⟨w8.heap.size, 0, none⟩ = some (.int .i64 r0) := (HM.out.at_ 5 rfl).cell 0
     have v1 : W.cell? ⟨w8.heap.size, 1, none⟩ = some (.int .i64 r1) := (HM.out.at_ 5 rfl).cell 1
     have v2 : W.cell? ⟨w8.heap.size, 2, none⟩ = some (.int .i64 r2) := (HM.out.at_ 5 rfl).cell 2
     have v3 : W.cell? ⟨w8.heap.size, 3, none⟩ = some (.int .i64 r3) := (HM.out.at_ 5 rfl).cell 3
     go_simp
     exact hK.out _ _ ⟨m0, m1, m2, m3, m4, true, m6, true, m8, m9, m10, m11, m12, rfl, rfl, trivial, HM.out⟩
    ·cases ho
     cases (getBX hall 5 rfl : m5 = true)
     cases (getBX hall 7 rfl : m7 = true)
     simp at hun; subst hun
     clear hall hi
     go_simp
     refine (HSY'.out _).mono ?_
     rintro e W' ⟨rfl, hb⟩
     exact hK.out _ _ ⟨m0, m1, m2, m3, m4, true, m6, true, true, m9, m10, m11, m12, rfl, rfl, trivial, HM.out.step hb⟩
    ·cases ho
     cases (getBX hall 5 rfl : m5 = true)
     cases (getBX hall 6 rfl : m6 = true)
     cases (getBX hall 8 rfl : m8 = true)
     simp at hun; subst hun
     clear hall hi
     go_simp
     exact hK.out _ _ ⟨m0, m1, m2, m3, m4, true, true, m7, true, true, m10, m11, m12, rfl, rfl, trivial, HM.out⟩
    ·cases ho
     cases (getBX hall 2 rfl : m2 = true)
     cases (getBX hall 5 rfl : m5 = true)
     cases (getBX hall 9 rfl : m9 = true)
     simp at hun; subst hun
     clear hall hi
     go_simp
     exact hK.out _ _ ⟨m0, m1, true, m3, m4, true, m6, m7, m8, true, true, m11, m12, rfl, rfl, trivial, HM.out⟩
    ·cases ho
     cases (getBX hall 2 rfl : m2 = true)
     cases (getBX hall 10 rfl : m10 = true)
     simp at hun; subst hun
     clear hall hi
     go_simp
     exact hK.out _ _ ⟨m0, m1, true, m3, m4, m5, m6, m7, m8, m9, true, true, m12, rfl, rfl, trivial, HM.out⟩
    ·cases ho
     cases (getBX hall 11 rfl : m11 = true)
     simp at hun; subst hun
     clear hall hi
     go_simp
     exact hK.out _ _ ⟨m0, m1, m2, m3, m4, m5, m6, m7, m8, m9, m10, true, true, rfl, rfl, trivial, HM.out⟩
   ·rintro l a W ⟨m0, m1, m2, m3, m4, m5, m6, m7, m8, m9, m10, m11, m12, rfl, rfl, _, hm⟩ hall
    cases (hall 0 (by decide) : m0 = true)
    cases (hall 1 (by decide) : m1 = true)
    cases (hall 2 (by decide) : m2 = true)
    cases (hall 3 (by decide) : m3 = true)
    cases (hall 4 (by decide) : m4 = true)
    cases (hall 5 (by decide) : m5 = true)
    cases (hall 6 (by decide) : m6 = true)
    cases (hall 7 (by decide) : m7 = true)
    cases (hall 8 (by decide) : m8 = true)
    cases (hall 9 (by decide) : m9 = true)
    cases (hall 10 (by decide) : m10 = true)
    cases (hall 11 (by decide) : m11 = true)
    cases (hall 12 (by decide) : m12 = true)
    clear hall
    have HB := Lib.hid hm.below
    clear hm
    dsimp only [cwX, cond_true]
    go_wp2
    exact bodyPost_ret (v := .bool true) (by simp [results, Tryz.results7, go_sem]) rfl ⟨rfl, HB.out⟩

 ·by_cases hx1 : x < 0
  ·exact absurd hx1 (by omega)
  clear HX
  by_cases hl : mn < 0
  ·obtain ⟨rfl, rfl, rfl, rfl, rfl, rfl, rfl⟩ := HRG.out (.inl hl)
   have hm1 : mn < 0 := hl
   have HB := Lib.hid HM8.out.below
   go_wp2
   exact bodyPost_ret (v := .bool true) (by simp [results, Tryz.results7, go_sem]) rfl ⟨rfl, HB.out⟩
  by_cases hh : 127 < mx
  ·obtain ⟨rfl, rfl, rfl, rfl, rfl, rfl, rfl⟩ := HRG.out (.inr hh)
   have hm1 : ¬ mn < 0 := hl
   have hm2 : 127 < mx := hh
   have HB := Lib.hid HM8.out.below
   go_wp2
   exact bodyPost_ret (v := .bool true) (by simp [results, Tryz.results7, go_sem]) rfl ⟨rfl, HB.out⟩
  obtain ⟨rfl, hLB⟩ := HLB.out ⟨by omega, by omega⟩
  have HLB' := Lib.hid hLB
  clear hLB HRG HLB
  go_wp2_with (refine wpList_load_row rfl 33 _ rfl (w2.heap.size) rfl 33 (cirL C).toArray (0, 0) _ (HM8.out.at_ 2 rfl) Tryz.underlying33 rfl (by rw [infoCircle, List.size_toArray, cirL_len]) ?_)
  refine (HLB'.out _ (HT.out.below HM8.out.below)).mono ?_
  rintro e w8 ⟨rfl, hb8⟩
  have hm9 := (HM8.out.step hb8).new 45 [.int .i64 r0, .int .i64 r1, .int .i64 r2, .int .i64 r3]
  simp only [List.nil_append, List.cons_append] at hm9
  have HM9 := Lib.hid hm9
  clear hb8 hm9 v0 v1 b0' b1' b2' b3' b4' b5' a0' a1' a2' a3' a4' a5'
  cases bb
  ·clear HSY
   go_upto_region 15 with fail
   refine wp_regionJ 13 #[false, false, false, false, false, false, false, false, false, false, false, false, false] (fun l a W => ∃ (m0 m1 m2 m3 m4 m5 m6 m7 m8 m9 m10 m11 m12 : Bool), l = #[m0, m1, m2, m3, m4, m5, m6, m7, m8, m9, m10, m11, m12] ∧ a = ({ tmps := #[.agg (plC n X d).toArray, .int .i64 x, .agg #[.int .i64 na, .int .i64 nb], .pointer (some ⟨w.heap.size, 0, none⟩), undef, .pointer (some ⟨w.heap.size + 1, 0, none⟩), cwX m12 (.bool true) (.bool false), .pointer (some ⟨w2.heap.size, 0, none⟩), .pointer (some ⟨w3.heap.size, 0, none⟩), .int .i64 3, .pointer (some ⟨w4.heap.size, 0, none⟩), .int .i64 0, undef, undef, .pointer (some ⟨w8.heap.size, 0, none⟩), .bool false, .bool true, .bool false, .agg (plC n X d).toArray, .agg (cirL C).toArray, .tuple #[szv 0 0 0 0 0 0, .int .i64 3], .agg (cirL C).toArray, .int .i64 x, .tuple #[szv 0 0 0 0 0 0, .int .i64 3], szv 0 0 0 0 0 0, .int .i64 3, .tuple #[szv y0 y1 y2 y3 y4 y5, .int .i64 0], .agg (cirL C).toArray, .pointer (some ⟨w.heap.size + 1, 0, none⟩), .int .i64 na, .pointer (some ⟨w.heap.size + 1, 1, none⟩), .int .i64 nb, .tuple #[szv y0 y1 y2 y3 y4 y5, .int .i64 0], szv y0 y1 y2 y3 y4 y5, .int .i64 0, .int .i64 x, .bool (decide (x < 0)), .bool (decide (x < 0)), .int .i64 x, .bool true, .bool true, .int .i64 3, .bool false, .bool false, .agg #[.int .i64 0, .int .i64 0, .int .i64 0, .int .i64 0, .int .i64 0, .int .i64 0], .agg #[.int .i64 0, .int .i64 0, .int .i64 0, .int .i64 0, .int .i64 0, .int .i64 0], .bool false, .bool false, undef, undef, undef, undef, undef, undef, undef, undef, undef, undef, undef, undef, undef, undef, undef, undef, undef, .pointer (some ⟨w.heap.size + 1, 0, none⟩), .int .i64 na, .pointer (some ⟨w.heap.size + 1, 1, none⟩), .int .i64 nb, .int .i64 mn, .bool (decide (mn < 0)), .bool (decide (mn < 0)), .pointer (some ⟨w.heap.size + 1, 0, none⟩), .int .i64 na, .pointer (some ⟨w.heap.size + 1, 1, none⟩), .int .i64 nb, .int .i64 mx, .bool (decide (127 < mx)), .bool (decide (mn < 0) || decide (127 < mx)), undef, undef, undef, undef, undef, undef, undef, .tuple #[ovv r0 r1 r2 r3, .bool false], .agg (cirL C).toArray, .pointer (some ⟨w.heap.size + 1, 0, none⟩), .int .i64 na, .pointer (some ⟨w.heap.size + 1, 1, none⟩), .int .i64 nb, .tuple #[ovv r0 r1 r2 r3, .bool false], ovv r0 r1 r2 r3, .bool false, cwX m0 (.bool false) (undef), cwX m1 (.bool true) (undef), cwX m2 (.bool true) (undef), undef, undef, undef, undef, undef, undef, undef, undef, cwX m11 (.bool true) (undef)], defers := [] } : Act) ∧ (True) ∧ Hp w [(w.heap.size, 26, plC n X d), (w.heap.size + 1, 77, [.int .i64 na, .int .i64 nb]), (w2.heap.size, 33, cirL C), (w3.heap.size, 36, [.int .i64 0, .int .i64 0, .int .i64 0, .int .i64 0, .int .i64 0, .int .i64 0]), (w4.heap.size, 36, [.int .i64 y0, .int .i64 y1, .int .i64 y2, .int .i64 y3, .int .i64 y4, .int .i64 y5]), (w8.heap.size, 45, [.int .i64 r0, .int .i64 r1, .int .i64 r2, .int .i64 r3])] W) (by kernel_rfl) (by kernel_rfl) (by kernel_rfl) (by kernel_rfl) ?_ ?_ ?_ ?_
   ·rintro l a W ⟨m0, m1, m2, m3, m4, m5, m6, m7, m8, m9, m10, m11, m12, rfl, _⟩
    rfl
   ·exact ⟨false, false, false, false, false, false, false, false, false, false, false, false, false, rfl, rfl, trivial, HM9.out.drew⟩
   ·rintro l a W i o ⟨m0, m1, m2, m3, m4, m5, m6, m7, m8, m9, m10, m11, m12, rfl, rfl, hi0, hm⟩ ho hun hall K hK
    have hi : i < 13 := (Array.getElem?_eq_some_iff.1 ho).1
    have HM := Lib.hid hm
    have HI := Lib.hid hi0
    clear hm hi0
    rcases (show i = 0 ∨ i = 1 ∨ i = 2 ∨ i = 3 ∨ i = 4 ∨ i = 5 ∨ i = 6 ∨ i = 7 ∨ i = 8 ∨ i = 9 ∨ i = 10 ∨ i = 11 ∨ i = 12 by omega) with rfl | rfl | rfl | rfl | rfl | rfl | rfl | rfl | rfl | rfl | rfl | rfl | rfl
    ·cases ho
     simp at hun; subst hun
     clear hall hi
     go_simp
     exact hK.out _ _ ⟨true, m1, m2, m3, m4, m5, m6, m7, m8, m9, m10, m11, m12, rfl, rfl, trivial, HM.out⟩
    ·cases ho
     cases (getBX hall 0 rfl : m0 = true)
     simp at hun; subst hun
     clear hall hi
     go_simp
     exact hK.out _ _ ⟨true, true, m2, m3, m4, m5, m6, m7, m8, m9, m10, m11, m12, rfl, rfl, trivial, HM.out⟩
    ·cases ho
     cases (getBX hall 1 rfl : m1 = true)
     simp at hun; subst hun
     clear hall hi
     go_simp
     exact hK.out _ _ ⟨m0, true, true, m3, m4, m5, m6, m7, m8, m9, m10, m11, m12, rfl, rfl, trivial, HM.out⟩
    ·cases ho
     cases (getBX hall 2 rfl : m2 = true)
     simp at hun; subst hun
     clear hall hi
     go_simp
     exact hK.out _ _ ⟨m0, m1, true, true, m4, m5, m6, m7, m8, m9, m10, m11, m12, rfl, rfl, trivial, HM.out⟩
    ·cases ho
     cases (getBX hall 2 rfl : m2 = true)
     simp at hun; subst hun
     clear hall hi
     go_simp
     exact hK.out _ _ ⟨m0, m1, true, m3, true, m5, m6, m7, m8, m9, m10, m11, m12, rfl, rfl, trivial, HM.out⟩
    ·cases ho
     cases (getBX hall 2 rfl : m2 = true)
     simp at hun; subst hun
     clear hall hi
     go_simp
     exact hK.out _ _ ⟨m0, m1, true, m3, m4, true, m6, m7, m8, m9, m10, m11, m12, rfl, rfl, trivial, HM.out⟩
    ·cases ho
     cases (getBX hall 5 rfl : m5 = true)
     simp at hun; subst hun
     clear hall hi
     go_simp
     exact hK.out _ _ ⟨m0, m1, m2, m3, m4, true, true, m7, m8, m9, m10, m11, m12, rfl, rfl, trivial, HM.out⟩
    ·cases ho
     cases (getBX hall 5 rfl : m5 = true)
     simp at hun; subst hun
     clear hall hi
     go_simp
     exact hK.out _ _ ⟨m0, m1, m2, m3, m4, true, m6, true, m8, m9, m10, m11, m12, rfl, rfl, trivial, HM.out⟩
    ·cases ho
     cases (getBX hall 5 rfl : m5 = true)
     simp at hun; subst hun
     clear hall hi
     go_simp
     exact hK.out _ _ ⟨m0, m1, m2, m3, m4, true, m6, m7, true, m9, m10, m11, m12, rfl, rfl, trivial, HM.out⟩
    ·cases ho
     cases (getBX hall 5 rfl : m5 = true)
     simp at hun; subst hun
     clear hall hi
     go_simp
     exact hK.out _ _ ⟨m0, m1, m2, m3, m4, true, m6, m7, m8, true, m10, m11, m12, rfl, rfl, trivial, HM.out⟩
    ·cases ho
     cases (getBX hall 2 rfl : m2 = true)
     simp at hun; subst hun
     clear hall hi
     go_simp
     exact hK.out _ _ ⟨m0, m1, true, m3, m4, m5, m6, m7, m8, m9, true, m11, m12, rfl, rfl, trivial, HM.out⟩
    ·cases ho
     cases (getBX hall 2 rfl : m2 = true)
     simp at hun; subst hun
     clear hall hi
     go_simp
     exact hK.out _ _ ⟨m0, m1, true, m3, m4, m5, m6, m7, m8, m9, m10, true, m12, rfl, rfl, trivial, HM.out⟩
    ·cases ho
     cases (getBX hall 11 rfl : m11 = true)
     simp at hun; subst hun
     clear hall hi
     go_simp
     exact hK.out _ _ ⟨m0, m1, m2, m3, m4, m5, m6, m7, m8, m9, m10, true, true, rfl, rfl, trivial, HM.out⟩
   ·rintro l a W ⟨m0, m1, m2, m3, m4, m5, m6, m7, m8, m9, m10, m11, m12, rfl, rfl, _, hm⟩ hall
    cases (hall 0 (by decide) : m0 = true)
    cases (hall 1 (by decide) : m1 = true)
    cases (hall 2 (by decide) : m2 = true)
    cases (hall 3 (by decide) : m3 = true)
    cases (hall 4 (by decide) : m4 = true)
    cases (hall 5 (by decide) : m5 = true)
    cases (hall 6 (by decide) : m6 = true)
    cases (hall 7 (by decide) : m7 = true)
    cases (hall 8 (by decide) : m8 = true)
    cases (hall 9 (by decide) : m9 = true)
    cases (hall 10 (by decide) : m10 = true)
    cases (hall 11 (by decide) : m11 = true)
    cases (hall 12 (by decide) : m12 = true)
    clear hall
    have HB := Lib.hid hm.below
    clear hm
    dsimp only [cwX, cond_true]
    go_wp2
    exact bodyPost_ret (v := .bool true) (by simp [results, Tryz.results7, go_sem]) rfl ⟨rfl, HB.out⟩
  ·have HSY' := Lib.hid (HSY.out rfl)
   clear HSY
   go_upto_region 15 with fail
   refine wp_regionJ 13 #[false, false, false, false, false, false, false, false, false, false, false, false, false] (fun l a W => ∃ (m0 m1 m2 m3 m4 m5 m6 m7 m8 m9 m10 m11 m12 : Bool), l = #[m0, m1, m2, m3, m4, m5, m6, m7, m8, m9, m10, m11, m12] ∧ a = ({ tmps := #[.agg (plC n X d).toArray, .int .i64 x, .agg #[.int .i64 na, .int .i64 nb], .pointer (some ⟨w.heap.size, 0, none⟩), undef, .pointer (some ⟨w.heap.size + 1, 0, none⟩), cwX m12 (.bool true) (.bool false), .pointer (some ⟨w2.heap.size, 0, none⟩), .pointer (some ⟨w3.heap.size, 0, none⟩), .int .i64 3, .pointer (some ⟨w4.heap.size, 0, none⟩), .int .i64 0, undef, undef, .pointer (some ⟨w8.heap.size, 0, none⟩), .bool true, .bool true, .bool false, .agg (plC n X d).toArray, .agg (cirL C).toArray, .tuple #[szv 0 0 0 0 0 0, .int .i64 3], .agg (cirL C).toArray, .int .i64 x, .tuple #[szv 0 0 0 0 0 0, .int .i64 3], szv 0 0 0 0 0 0, .int .i64 3, .tuple #[szv y0 y1 y2 y3 y4 y5, .int .i64 0], .agg (cirL C).toArray, .pointer (some ⟨w.heap.size + 1, 0, none⟩), .int .i64 na, .pointer (some ⟨w.heap.size + 1, 1, none⟩), .int .i64 nb, .tuple #[szv y0 y1 y2 y3 y4 y5, .int .i64 0], szv y0 y1 y2 y3 y4 y5, .int .i64 0, .int .i64 x, .bool (decide (x < 0)), .bool (decide (x < 0)), .int .i64 x, .bool true, .bool true, .int .i64 3, .bool false, .bool false, .agg #[.int .i64 0, .int .i64 0, .int .i64 0, .int .i64 0, .int .i64 0, .int .i64 0], .agg #[.int .i64 0, .int .i64 0, .int .i64 0, .int .i64 0, .int .i64 0, .int .i64 0], .bool false, .bool false, undef, undef, undef, undef, undef, undef, undef, undef, undef, undef, undef, undef, undef, undef, undef, undef, undef, .pointer (some ⟨w.heap.size + 1, 0, none⟩), .int .i64 na, .pointer (some ⟨w.heap.size + 1, 1, none⟩), .int .i64 nb, .int .i64 mn, .bool (decide (mn < 0)), .bool (decide (mn < 0)), .pointer (some ⟨w.heap.size + 1, 0, none⟩), .int .i64 na, .pointer (some ⟨w.heap.size + 1, 1, none⟩), .int .i64 nb, .int .i64 mx, .bool (decide (127 < mx)), .bool (decide (mn < 0) || decide (127 < mx)), undef, undef, undef, undef, undef, undef, undef, .tuple #[ovv r0 r1 r2 r3, .bool true], .agg (cirL C).toArray, .pointer (some ⟨w.heap.size + 1, 0, none⟩), .int .i64 na, .pointer (some ⟨w.heap.size + 1, 1, none⟩), .int .i64 nb, .tuple #[ovv r0 r1 r2 r3, .bool true], ovv r0 r1 r2 r3, .bool true, cwX m0 (.bool true) (undef), cwX m1 (.bool false) (undef), cwX m2 (.bool false) (undef), cwX m3 (.int .i64 0) (undef), cwX m4 (.bool true) (undef), cwX m5 (.bool true) (undef), cwX m6 (szv y0 y1 y2 y3 y4 y5) (undef), cwX m7 (ovv r0 r1 r2 r3) (undef), cwX m8 (szv y0 y1 y2 y3 y4 y5) (undef), cwX m9 (.bool true) (undef), cwX m10 (.bool true) (undef), cwX m11 (.bool true) (undef)], defers := [] } : Act) ∧ (True) ∧ Hp w [(w.heap.size, 26, plC n X d), (w.heap.size + 1, 77, [.int .i64 na, .int .i64 nb]), (w2.heap.size, 33, cirL C), (w3.heap.size, 36, [.int .i64 0, .int .i64 0, .int .i64 0, .int .i64 0, .int .i64 0, .int .i64 0]), (w4.heap.size, 36, [.int .i64 y0, .int .i64 y1, .int .i64 y2, .int .i64 y3, .int .i64 y4, .int .i64 y5]), (w8.heap.size, 45, [.int .i64 r0, .int .i64 r1, .int .i64 r2, .int .i64 r3])] W) (by kernel_rfl) (by kernel_rfl) (by kernel_rfl) (by kernel_rfl) ?_ ?_ ?_ ?_
   ·rintro l a W ⟨m0, m1, m2, m3, m4, m5, m6, m7, m8, m9, m10, m11, m12, rfl, _⟩
    rfl
   ·exact ⟨false, false, false, false, false, false, false, false, false, false, false, false, false, rfl, rfl, trivial, HM9.out.drew⟩
   ·rintro l a W i o ⟨m0, m1, m2, m3, m4, m5, m6, m7, m8, m9, m10, m11, m12, rfl, rfl, hi0, hm⟩ ho hun hall K hK
    have hi : i < 13 := (Array.getElem?_eq_some_iff.1 ho).1
    have HM := Lib.hid hm
    have HI := Lib.hid hi0
    clear hm hi0
    rcases (show i = 0 ∨ i = 1 ∨ i = 2 ∨ i = 3 ∨ i = 4 ∨ i = 5 ∨ i = 6 ∨ i = 7 ∨ i = 8 ∨ i = 9 ∨ i = 10 ∨ i = 11 ∨ i = 12 by omega) with rfl | rfl | rfl | rfl | rfl | rfl | rfl | rfl | rfl | rfl | rfl | rfl | rfl
    ·cases ho
     simp at hun; subst hun
     clear hall hi
     go_simp
     exact hK.out _ _ ⟨true, m1, m2, m3, m4, m5, m6, m7, m8, m9, m10, m11, m12, rfl, rfl, trivial, HM.out⟩
    ·cases ho
     cases (getBX hall 0 rfl : m0 = true)
     simp at hun; subst hun
     clear hall hi
     go_simp
     exact hK.out _ _ ⟨true, true, m2, m3, m4, m5, m6, m7, m8, m9, m10, m11, m12, rfl, rfl, trivial, HM.out⟩
    ·cases ho
     cases (getBX hall 1 rfl : m1 = true)
     simp at hun; subst hun
     clear hall hi
     go_simp
     exact hK.out _ _ ⟨m0, true, true, m3, m4, m5, m6, m7, m8, m9, m10, m11, m12, rfl, rfl, trivial, HM.out⟩
    ·cases ho
     cases (getBX hall 2 rfl : m2 = true)
     simp at hun; subst hun
     clear hall hi
     go_simp
     exact hK.out _ _ ⟨m0, m1, true, true, m4, m5, m6, m7, m8, m9, m10, m11, m12, rfl, rfl, trivial, HM.out⟩
    ·cases ho
     cases (getBX hall 2 rfl : m2 = true)
     cases (getBX hall 3 rfl : m3 = true)
     simp at hun; subst hun
     clear hall hi
     go_simp
     exact hK.out _ _ ⟨m0, m1, true, true, true, m5, m6, m7, m8, m9, m10, m11, m12, rfl, rfl, trivial, HM.out⟩
    ·cases ho
     cases (getBX hall 2 rfl : m2 = true)
     cases (getBX hall 4 rfl : m4 = true)
     simp at hun; subst hun
     clear hall hi
     go_simp
     exact hK.out _ _ ⟨m0, m1, true, m3, true, true, m6, m7, m8, m9, m10, m11, m12, rfl, rfl, trivial, HM.out⟩
    ·cases ho
     cases (getBX hall 5 rfl : m5 = true)
     simp at hun; subst hun
     clear hall hi
     obtain ⟨y0', y1', y2', y3', y4', y5'⟩ := six_of (HM.out.at_ 4 rfl)
     go_simp
     exact hK.out _ _ ⟨m0, m1, m2, m3, m4, true, true, m7, m8, m9, m10, m11, m12, rfl, rfl, trivial, HM.out⟩
    ·cases ho
     cases (getBX hall 5 rfl : m5 = true)
     simp at hun; subst hun
     clear hall hi
     have v0 : W.cell? ⟨w8.heap.size, 0, none⟩ = some (.int .i64 r0) := (HM.out.at_ 5 rfl).cell 0
     have v1 : W.cell? ⟨w8.heap.size, 1, none⟩ = some (.int .i64 r1) := (HM.out.at_ 5 rfl).cell 1
     have v2 : W.cell? ⟨w8.heap.size, 2, none⟩ = some (.int .i64 r2) := (HM.out.at_ 5 rfl).cell 2
     have v3 : W.cell? ⟨w8.heap.size, 3, none⟩ = some (.int .i64 r3) := (HM.out.at_ 5 rfl).cell 3
     go_simp
     exact hK.out _ _ ⟨m0, m1, m2, m3, m4, true, m6, true, m8, m9, m10, m11, m12, rfl, rfl, trivial, HM.out⟩
    ·cases ho
     cases (getBX hall 5 rfl : m5 = true)
     cases (getBX hall 7 rfl : m7 = true)
     simp at hun; subst hun
     clear hall hi
     go_simp
     refine (HSY'.out _).mono ?_
     rintro e W' ⟨rfl, hb⟩
     exact hK.out _ _ ⟨m0, m1, m2, m3, m4, true, m6, true, true, m9, m10, m11, m12, rfl, rfl, trivial, HM.out.step hb⟩
    ·cases ho
     cases (getBX hall 5 rfl : m5 = true)
     cases (getBX hall 6 rfl : m6 = true)
     cases (getBX hall 8 rfl : m8 = true)
     simp at hun; subst hun
     clear hall hi
     go_simp
     exact hK.out _ _ ⟨m0, m1, m2, m3, m4, true, true, m7, true, true, m10, m11, m12, rfl, rfl, trivial, HM.out⟩
    ·cases ho
     cases (getBX hall 2 rfl : m2 = true)
     cases (getBX hall 5 rfl : m5 = true)
     cases (getBX hall 9 rfl : m9 = true)
     simp at hun; subst hun
     clear hall hi
     go_simp
     exact hK.out _ _ ⟨m0, m1, true, m3, m4, true, m6, m7, m8, true, true, m11, m12, rfl, rfl, trivial, HM.out⟩
    ·cases ho
     cases (getBX hall 2 rfl : m2 = true)
     cases (getBX hall 10 rfl : m10 = true)
     simp at hun; subst hun
     clear hall hi
     go_simp
     exact hK.out _ _ ⟨m0, m1, true, m3, m4, m5, m6, m7, m8, m9, true, true, m12, rfl, rfl, trivial, HM.out⟩
    ·cases ho
     cases (getBX hall 11 rfl : m11 = true)
     simp at hun; subst hun
     clear hall hi
     go_simp
     exact hK.out _ _ ⟨m0, m1, m2, m3, m4, m5, m6, m7, m8, m9, m10, true, true, rfl, rfl, trivial, HM.out⟩
   ·rintro l a W ⟨m0, m1, m2, m3, m4, m5, m6, m7, m8, m9, m10, m11, m12, rfl, rfl, _, hm⟩ hall
    cases (hall 0 (by decide) : m0 = true)
    cases (hall 1 (by decide) : m1 = true)
    cases (hall 2 (by decide) : m2 = true)
    cases (hall 3 (by decide) : m3 = true)
    cases (hall 4 (by decide) : m4 = true)
    cases (hall 5 (by decide) : m5 = true)
    cases (hall 6 (by decide) : m6 = true)
    cases (hall 7 (by decide) : m7 = true)
    cases (hall 8 (by decide) : m8 = true)
    cases (hall 9 (by decide) : m9 = true)
    cases (hall 10 (by decide) : m10 = true)
    cases (hall 11 (by decide) : m11 = true)
    cases (hall 12 (by decide) : m12 = true)
    clear hall
    have HB := Lib.hid hm.below
    clear hm
    dsimp only [cwX, cond_true]
    go_wp2
    exact bodyPost_ret (v := .bool true) (by simp [results, Tryz.results7, go_sem]) rfl ⟨rfl, HB.out⟩
end Go.Proofs.YtlmheeommpbimaaGreatDoor
