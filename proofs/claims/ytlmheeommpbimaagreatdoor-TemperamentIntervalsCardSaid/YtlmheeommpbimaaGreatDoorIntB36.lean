/- Part 36 of 46 of the proof of the law: contracts of the functions that it reaches, and plain facts. Conditions: those that each contract names. -/
import Derived.Test.YtlmheeommpbimaaGreatDoorIntB35
import Derived.Test.YtlmheeommpbimaaGreatDoorIntB34
import Derived.Deep.QuietTactic
import Derived.BigQuiet
import Derived.RegionTactic
import Derived.Deep.DeepCutAuto
namespace Go.Proofs.YtlmheeommpbimaaGreatDoor
open Go.RowKit
set_option maxRecDepth 1000000 in
set_option maxHeartbeats 4000000 in
theorem tplace_gen (C : Nat → Tm) (n m q : Nat) (n0 n1 n2 n3 n4 n5 o0 o1 o2 o3 o4 o5 a0 a1 a2 a3 a4 a5 : Int) (w : World) (ht : Tab w) (hn : n < 1000) (hm : n % 12 = m) (hq : n / 12 = q)
  (hN : ∀ W, Tab W → Calls Tryz.prog 70 #[.agg (cirL C).toArray, .int .i64 (m : Int)] W fun e w' => e = .returned (.tuple #[szv n0 n1 n2 n3 n4 n5, .int .i64 0]) ∧ Below W.heap.size W w')
  (hO : ∀ W, Calls Tryz.prog 47 #[.int .i64 (q : Int)] W fun e w' => e = .returned (szv o0 o1 o2 o3 o4 o5) ∧ Below W.heap.size W w')
  (hA : ∀ W, Calls Tryz.prog 28 #[szv n0 n1 n2 n3 n4 n5, szv o0 o1 o2 o3 o4 o5] W fun e w' => e = .returned (.tuple #[szv a0 a1 a2 a3 a4 a5, .int .i64 0]) ∧ Below W.heap.size W w') :
  Calls Tryz.prog 81 #[.agg (cirL C).toArray, .int .i64 (n : Int)] w fun e w' => e = .returned (.tuple #[szv a0 a1 a2 a3 a4 a5, .int .i64 0]) ∧ Below w.heap.size w w' := by
 have HN := Lib.hid hN
 have HO := Lib.hid hO
 have HA := Lib.hid hA
 have HT := Lib.hid ht
 have HL := Lib.hid (fun W => tlimited_any a0 a1 a2 a3 a4 a5 0 W)
 unfold limV at HL
 rw [if_pos rfl] at HL
 have hm0 := ((Hp.start w).new 33 (cirL C)).new 36 [.int .i64 0, .int .i64 0, .int .i64 0, .int .i64 0, .int .i64 0, .int .i64 0]
 simp only [World.size_alloc, List.nil_append, List.cons_append] at hm0
 have HM0 := Lib.hid hm0
 clear hm0 ht hN hO hA
 obtain ⟨x, hx⟩ : ∃ x : Int, x = (n : Int) := ⟨_, rfl⟩
 obtain ⟨y, hy⟩ : ∃ y : Int, y = (m : Int) := ⟨_, rfl⟩
 obtain ⟨z, hz⟩ : ∃ z : Int, z = (q : Int) := ⟨_, rfl⟩
 have hxy : x.tmod 12 = y := by rw [Int.tmod_eq_emod_of_nonneg (by omega)]; omega
 have hxz : x.tdiv 12 = z := by rw [Int.tdiv_eq_ediv_of_nonneg (by omega)]; omega
 have hx0 : 0 ≤ x ∧ x < 1000 := by omega
 have hzw : IntKind.i64.wrap z = z := IntWalk.i64_in _ (by omega)
 rw [← hx]
 rw [← hy] at HN
 rw [← hz] at HO
 clear hx hy hz hm hq hn
 go_enter Tryz.func81, Tryz.ntmps81
 go_wp2_with (refine wpList_load_row rfl 33 _ rfl w.heap.size rfl 33 (cirL C).toArray (0, 0) _ (HM0.out.at_ 0 rfl) Tryz.underlying33 rfl (by rw [infoCircle, List.size_toArray, cirL_len]) ?_)
 refine (HN.out _ (HT.out.below HM0.out.below)).mono ?_
 rintro e w1 ⟨rfl, hb1⟩
 have hm1 := (HM0.out.step hb1).new 36 [.int .i64 n0, .int .i64 n1, .int .i64 n2, .int .i64 n3, .int .i64 n4, .int .i64 n5]
 simp only [List.nil_append, List.cons_append] at hm1
 have HM1 := Lib.hid hm1
 clear hb1 hm1
 go_upto_region 4 with fail
 refine wp_regionJ 12 #[false, false, false, false, false, false, false, false, false, false, false, false] (fun l a W => ∃ (m0 m1 m2 m3 m4 m5 m6 m7 m8 m9 m10 m11 : Bool), l = #[m0, m1, m2, m3, m4, m5, m6, m7, m8, m9, m10, m11] ∧ a = ({ tmps := #[Value.agg (cirL C).toArray, Value.int IntKind.i64 x, Value.pointer (some { block := w.heap.size, off := 0 }), undef, Value.pointer (some { block := w.heap.size + 1, off := 0 }), Value.int IntKind.i64 0, Value.pointer (some { block := w1.heap.size, off := 0 }), Value.int IntKind.i64 0, Value.tuple #[szv n0 n1 n2 n3 n4 n5, Value.int IntKind.i64 0], Value.agg (cirL C).toArray, Value.int IntKind.i64 x, Value.int IntKind.i64 y, Value.tuple #[szv n0 n1 n2 n3 n4 n5, Value.int IntKind.i64 0], szv n0 n1 n2 n3 n4 n5, Value.int IntKind.i64 0, Value.int IntKind.i64 0, Value.bool false, undef, undef, cwX m0 (szv n0 n1 n2 n3 n4 n5) (undef), cwX m1 (.int .i64 x) (undef), cwX m2 (.int .i64 z) (undef), cwX m3 (szv o0 o1 o2 o3 o4 o5) (undef), cwX m4 (.tuple #[szv a0 a1 a2 a3 a4 a5, .int .i64 0]) (undef), cwX m5 (szv a0 a1 a2 a3 a4 a5) (undef), cwX m6 (.int .i64 0) (undef), cwX m7 (.tuple #[szv a0 a1 a2 a3 a4 a5, .int .i64 0]) (undef), cwX m8 (szv a0 a1 a2 a3 a4 a5) (undef), cwX m9 (.int .i64 0) (undef)], defers := [] } : Act) ∧ (True) ∧ Hp w [(w.heap.size, 33, cirL C), (w.heap.size + 1, 36, bif m10 then [.int .i64 a0, .int .i64 a1, .int .i64 a2, .int .i64 a3, .int .i64 a4, .int .i64 a5] else [.int .i64 0, .int .i64 0, .int .i64 0, .int .i64 0, .int .i64 0, .int .i64 0]), (w1.heap.size, 36, [.int .i64 n0, .int .i64 n1, .int .i64 n2, .int .i64 n3, .int .i64 n4, .int .i64 n5])] W) (by kernel_rfl) (by kernel_rfl) (by kernel_rfl) (by kernel_rfl) ?_ ?_ ?_ ?_
 ·rintro l a W ⟨m0, m1, m2, m3, m4, m5, m6, m7, m8, m9, m10, m11, rfl, _⟩
  rfl
 ·exact ⟨false, false, false, false, false, false, false, false, false, false, false, false, rfl, rfl, trivial, HM1.out.drew⟩
 ·rintro l a W i o ⟨m0, m1, m2, m3, m4, m5, m6, m7, m8, m9, m10, m11, rfl, rfl, hi0, hm⟩ ho hun hall K hK
  have hi : i < 12 := (Array.getElem?_eq_some_iff.1 ho).1
  have HM := Lib.hid hm
  have HI := Lib.hid hi0
  clear hm hi0
  rcases (show i = 0 ∨ i = 1 ∨ i = 2 ∨ i = 3 ∨ i = 4 ∨ i = 5 ∨ i = 6 ∨ i = 7 ∨ i = 8 ∨ i = 9 ∨ i = 10 ∨ i = 11 by omega) with rfl | rfl | rfl | rfl | rfl | rfl | rfl | rfl | rfl | rfl | rfl | rfl
  ·cases ho
   simp at hun; subst hun
   clear hall hi
   obtain ⟨y0, y1, y2, y3, y4, y5⟩ := six_of (HM.out.at_ 2 rfl)
   go_simp
   exact hK.out _ _ ⟨true, m1, m2, m3, m4, m5, m6, m7, m8, m9, m10, m11, rfl, rfl, trivial, HM.out⟩
  ·cases ho
   simp at hun; subst hun
   clear hall hi
   go_simp
   exact hK.out _ _ ⟨m0, true, m2, m3, m4, m5, m6, m7, m8, m9, m10, m11, rfl, rfl, trivial, HM.out⟩
  ·cases ho
   cases (getBX hall 1 rfl : m1 = true)
   simp at hun; subst hun
   clear hall hi
   go_simp
   exact hK.out _ _ ⟨m0, true, true, m3, m4, m5, m6, m7, m8, m9, m10, m11, rfl, rfl, trivial, HM.out⟩
  ·cases ho
   cases (getBX hall 2 rfl : m2 = true)
   simp at hun; subst hun
   clear hall hi
   go_simp
   refine (HO.out _).mono ?_
   rintro e W' ⟨rfl, hb⟩
   exact hK.out _ _ ⟨m0, m1, true, true, m4, m5, m6, m7, m8, m9, m10, m11, rfl, rfl, trivial, HM.out.step hb⟩
  ·cases ho
   cases (getBX hall 0 rfl : m0 = true)
   cases (getBX hall 3 rfl : m3 = true)
   simp at hun; subst hun
   clear hall hi
   go_simp
   refine (HA.out _).mono ?_
   rintro e W' ⟨rfl, hb⟩
   exact hK.out _ _ ⟨true, m1, m2, true, true, m5, m6, m7, m8, m9, m10, m11, rfl, rfl, trivial, HM.out.step hb⟩
  ·cases ho
   cases (getBX hall 4 rfl : m4 = true)
   simp at hun; subst hun
   clear hall hi
   go_simp
   exact hK.out _ _ ⟨m0, m1, m2, m3, true, true, m6, m7, m8, m9, m10, m11, rfl, rfl, trivial, HM.out⟩
  ·cases ho
   cases (getBX hall 4 rfl : m4 = true)
   simp at hun; subst hun
   clear hall hi
   go_simp
   exact hK.out _ _ ⟨m0, m1, m2, m3, true, m5, true, m7, m8, m9, m10, m11, rfl, rfl, trivial, HM.out⟩
  ·cases ho
   cases (getBX hall 5 rfl : m5 = true)
   cases (getBX hall 6 rfl : m6 = true)
   simp at hun; subst hun
   clear hall hi
   go_simp
   refine (HL.out _).mono ?_
   rintro e W' ⟨rfl, hb⟩
   exact hK.out _ _ ⟨m0, m1, m2, m3, m4, true, true, true, m8, m9, m10, m11, rfl, rfl, trivial, HM.out.step hb⟩
  ·cases ho
   cases (getBX hall 7 rfl : m7 = true)
   simp at hun; subst hun
   clear hall hi
   go_simp
   exact hK.out _ _ ⟨m0, m1, m2, m3, m4, m5, m6, true, true, m9, m10, m11, rfl, rfl, trivial, HM.out⟩
  ·cases ho
   cases (getBX hall 7 rfl : m7 = true)
   simp at hun; subst hun
   clear hall hi
   go_simp
   exact hK.out _ _ ⟨m0, m1, m2, m3, m4, m5, m6, true, m8, true, m10, m11, rfl, rfl, trivial, HM.out⟩
  ·cases ho
   cases (getBX hall 8 rfl : m8 = true)
   simp at hun; subst hun
   clear hall hi
   have z0 : W.cell? ⟨w.heap.size + 1, 0, none⟩ = some (.int .i64 0) := (HM.out.at_ 1 rfl).cell 0
   have f0 := (HM.out.at_ 1 rfl).frozen 0
   have z1 : W.cell? ⟨w.heap.size + 1, 1, none⟩ = some (.int .i64 0) := (HM.out.at_ 1 rfl).cell 1
   have f1 := (HM.out.at_ 1 rfl).frozen 1
   have z2 : W.cell? ⟨w.heap.size + 1, 2, none⟩ = some (.int .i64 0) := (HM.out.at_ 1 rfl).cell 2
   have f2 := (HM.out.at_ 1 rfl).frozen 2
   have z3 : W.cell? ⟨w.heap.size + 1, 3, none⟩ = some (.int .i64 0) := (HM.out.at_ 1 rfl).cell 3
   have f3 := (HM.out.at_ 1 rfl).frozen 3
   have z4 : W.cell? ⟨w.heap.size + 1, 4, none⟩ = some (.int .i64 0) := (HM.out.at_ 1 rfl).cell 4
   have f4 := (HM.out.at_ 1 rfl).frozen 4
   have z5 : W.cell? ⟨w.heap.size + 1, 5, none⟩ = some (.int .i64 0) := (HM.out.at_ 1 rfl).cell 5
   have f5 := (HM.out.at_ 1 rfl).frozen 5
   have HN := Lib.hid (HM.out.put6 1 rfl (.int .i64 a0) (.int .i64 a1) (.int .i64 a2) (.int .i64 a3) (.int .i64 a4) (.int .i64 a5))
   go_simp
   exact hK.out _ _ ⟨m0, m1, m2, m3, m4, m5, m6, m7, true, m9, true, m11, rfl, rfl, trivial, HN.out⟩
  ·cases ho
   cases (getBX hall 9 rfl : m9 = true)
   simp at hun; subst hun
   clear hall hi
   go_simp
   exact hK.out _ _ ⟨m0, m1, m2, m3, m4, m5, m6, m7, m8, true, m10, true, rfl, rfl, trivial, HM.out⟩
 ·rintro l a W ⟨m0, m1, m2, m3, m4, m5, m6, m7, m8, m9, m10, m11, rfl, rfl, _, hm⟩ hall
  cases (hall 0 (by decide) : m0 = true)
  cases (hall 1 (by decide) : m1 = true)
  cases (hall 2 (by decide) : m2 = true)
  cases (hall 3 (by decide) : m3 = true)
  cases (hall 4 (by decide) : m4 = true)
  cases (hall 5 (by decide) : m5 = true)
  cases (hall 6 (by decide) : m6 = true)
  cases (hall 7 (by decide) : m7 = true)
  cases (hall 8 (by decide) : m8 = true)
  cases (hall 9 (by decide) : m9 = true)
  cases (hall 10 (by decide) : m10 = true)
  cases (hall 11 (by decide) : m11 = true)
  clear hall
  have HQ : Hid (Hp w [(w.heap.size, 33, cirL C), (w.heap.size + 1, 36, [.int .i64 a0, .int .i64 a1, .int .i64 a2, .int .i64 a3, .int .i64 a4, .int .i64 a5]), (w1.heap.size, 36, [.int .i64 n0, .int .i64 n1, .int .i64 n2, .int .i64 n3, .int .i64 n4, .int .i64 n5])] _) := Lib.hid hm
  clear hm
  dsimp only [cwX, cond_true]
  have hq := HQ.out
  obtain ⟨z0, z1, z2, z3, z4, z5⟩ := six_of (hq.at_ 1 rfl)
  obtain ⟨f0, f1, f2, f3, f4, f5⟩ := six_free (hq.at_ 1 rfl)
  have HB := Lib.hid hq.below
  clear hq
  go_wp2
  exact bodyPost_ret (v := .tuple #[szv a0 a1 a2 a3 a4 a5, .int .i64 0]) (by simp [results, Tryz.results81, go_sem, z0, z1, z2, z3, z4, z5, f0, f1, f2, f3, f4, f5]) rfl ⟨rfl, HB.out⟩
set_option maxRecDepth 1000000 in
set_option maxHeartbeats 4000000 in
theorem tbetween_gen (C : Nat → Tm) (m n : Nat) (p0 p1 p2 p3 p4 p5 q0 q1 q2 q3 q4 q5 s0 s1 s2 s3 s4 s5 : Int) (w : World) (ht : Tab w)
  (hM : ∀ W, Tab W → Calls Tryz.prog 81 #[.agg (cirL C).toArray, .int .i64 (m : Int)] W fun e w' => e = .returned (.tuple #[szv p0 p1 p2 p3 p4 p5, .int .i64 0]) ∧ Below W.heap.size W w')
  (hN : ∀ W, Tab W → Calls Tryz.prog 81 #[.agg (cirL C).toArray, .int .i64 (n : Int)] W fun e w' => e = .returned (.tuple #[szv q0 q1 q2 q3 q4 q5, .int .i64 0]) ∧ Below W.heap.size W w')
  (hS : ∀ W, Calls Tryz.prog 46 #[szv q0 q1 q2 q3 q4 q5, szv p0 p1 p2 p3 p4 p5] W fun e w' => e = .returned (.tuple #[szv s0 s1 s2 s3 s4 s5, .int .i64 0]) ∧ Below W.heap.size W w') :
  Calls Tryz.prog 59 #[.agg (cirL C).toArray, .int .i64 (m : Int), .int .i64 (n : Int)] w fun e w' => e = .returned (.tuple #[szv s0 s1 s2 s3 s4 s5, .int .i64 0]) ∧ Below w.heap.size w w' := by
 have HM := Lib.hid hM
 have HN := Lib.hid hN
 have HS := Lib.hid hS
 have HT := Lib.hid ht
 have HL := Lib.hid (fun W => tlimited_any s0 s1 s2 s3 s4 s5 0 W)
 unfold limV at HL
 rw [if_pos rfl] at HL
 have hm0 := ((Hp.start w).new 33 (cirL C)).new 36 [.int .i64 0, .int .i64 0, .int .i64 0, .int .i64 0, .int .i64 0, .int .i64 0]
 simp only [World.size_alloc, List.nil_append, List.cons_append] at hm0
 have HM0 := Lib.hid hm0
 clear hm0 ht hM hN hS
 go_enter Tryz.func59, Tryz.ntmps59
 go_wp2_with (refine wpList_load_row rfl 33 _ rfl w.heap.size rfl 33 (cirL C).toArray (0, 0) _ (HM0.out.at_ 0 rfl) Tryz.underlying33 rfl (by rw [infoCircle, List.size_toArray, cirL_len]) ?_)
 refine (HM.out _ (HT.out.below HM0.out.below)).mono ?_
 rintro e w1 ⟨rfl, hb1⟩
 have hm1 := (HM0.out.step hb1).new 36 [.int .i64 p0, .int .i64 p1, .int .i64 p2, .int .i64 p3, .int .i64 p4, .int .i64 p5]
 simp only [List.nil_append, List.cons_append] at hm1
 have HM1 := Lib.hid hm1
 clear hb1 hm1
 go_wp2_with (refine wpList_load_row rfl 33 _ rfl w.heap.size rfl 33 (cirL C).toArray (0, 0) _ (HM1.out.at_ 0 rfl) Tryz.underlying33 rfl (by rw [infoCircle, List.size_toArray, cirL_len]) ?_)
 refine (HN.out _ (HT.out.below HM1.out.below)).mono ?_
 rintro e w2 ⟨rfl, hb2⟩
 have hm2 := (HM1.out.step hb2).new 36 [.int .i64 q0, .int .i64 q1, .int .i64 q2, .int .i64 q3, .int .i64 q4, .int .i64 q5]
 simp only [List.nil_append, List.cons_append] at hm2
 have HM2 := Lib.hid hm2
 obtain ⟨y0, y1, y2, y3, y4, y5⟩ := six_of (hm2.at_ 2 rfl)
 obtain ⟨x0, x1, x2, x3, x4, x5⟩ := six_of (hm2.at_ 3 rfl)
 clear hb2 hm2
 go_wp2_with fail
 refine (HS.out _).mono ?_
 rintro e w3 ⟨rfl, hb3⟩
 have HM3 := Lib.hid (HM2.out.step hb3)
 clear hb3 x0 x1 x2 x3 x4 x5 y0 y1 y2 y3 y4 y5
 go_wp2_with fail
 refine (HL.out _).mono ?_
 rintro e w4 ⟨rfl, hb4⟩
 have hq := HM3.out.step hb4
 obtain ⟨z0, z1, z2, z3, z4, z5⟩ := six_of (hq.at_ 1 rfl)
 obtain ⟨f0, f1, f2, f3, f4, f5⟩ := six_free (hq.at_ 1 rfl)
 have HB := Lib.hid (hq.put6s 1 rfl (.int .i64 s0) (.int .i64 s1) (.int .i64 s2) (.int .i64 s3) (.int .i64 s4) (.int .i64 s5))
 clear hb4 hq
 go_wp2
 exact bodyPost_ret (v := .tuple #[szv s0 s1 s2 s3 s4 s5, .int .i64 0]) (by simp [results, Tryz.results59, go_sem, z0, z1, z2, z3, z4, z5, f0, f1, f2, f3, f4, f5]) rfl ⟨rfl, HB.out⟩
set_option maxRecDepth 100000 in
set_option maxHeartbeats 4000000 in
theorem seq_any (A B : Option Addr) (c1 c2 : Nat) (L M : List Int) (w : World) (h1 : Rd i64z w w.heap.size A L) (h2 : Rd i64z w w.heap.size B M) (hL : L.length ≤ 1000000) (hM : M.length ≤ 1000000) (hc1 : L.length ≤ c1) (hc2 : M.length ≤ c2) :
  Calls Tryz.prog 42 #[.slice A L.length c1, .slice B M.length c2] w fun e w' => e = .returned (.bool (decide (L = M))) ∧ Below w.heap.size w w' := by
 obtain ⟨n, hn⟩ : ∃ n, n = L.length := ⟨_, rfl⟩
 obtain ⟨m, hm⟩ : ∃ m, m = M.length := ⟨_, rfl⟩
 obtain ⟨d, hd⟩ : ∃ d, d = decide (L = M) := ⟨_, rfl⟩
 have H1 := Lib.hid h1
 have H2 := Lib.hid h2
 have HN := Lib.hid hn
 have HM := Lib.hid hm
 have HD := Lib.hid hd
 rw [← hd, ← hn, ← hm]
 rw [← hn] at hL hc1
 rw [← hm] at hM hc2
 clear h1 h2 hn hm hd
 by_cases hnm : n = m
 ·subst hnm
  go_enter Tryz.func42, Tryz.ntmps42
  go_wp2
  go_loopw [13] (fun i wr => ∃ k j : Nat, k ≤ n ∧ i = .int .i64 k ∧ L.take k = M.take k ∧ wr = w.drewN j) (fun i _ => n - (intOf i).toNat)
  case atStart => exact ⟨0, 0, by omega, rfl, rfl, rfl⟩
  case round =>
   obtain ⟨k, j, hk, rfl, hkk, rfl⟩ := hrel
   have HKK := Lib.hid hkk
   clear hkk
   by_cases hlt : k < n
   ·have hkl : k < L.length := by rw [← HN.out]; exact hlt
    have hkm : k < M.length := by rw [← HM.out]; exact hlt
    obtain ⟨b, off, rfl, hb, hc⟩ := (H1.out.below (below_drewN _ _ j)) (by omega)
    obtain ⟨e, off2, rfl, he, hce⟩ := (H2.out.below (below_drewN _ _ j)) (by omega)
    have x0 := hc k hkl
    have y0 := hce k hkm
    obtain ⟨W, hW⟩ : ∃ W, W = w.drewN j := ⟨_, rfl⟩
    rw [← hW] at x0 y0 ⊢
    obtain ⟨x, hx⟩ : ∃ x, x = L[k] := ⟨_, rfl⟩
    obtain ⟨y, hy⟩ : ∃ y, y = M[k] := ⟨_, rfl⟩
    rw [← hx] at x0
    rw [← hy] at y0
    simp only [i64z] at x0 y0
    have HW := Lib.hid hW
    have HX := Lib.hid hx
    have HY := Lib.hid hy
    have hki : (k : Int) < (n : Int) := by omega
    have hk0 : (0 : Int) ≤ (k : Int) := by omega
    clear hx hy hW hc hce hb he
    by_cases hxy : x = y
    ·have hne : (x != y) = false := by simpa using hxy
     have hlist : Hid (L.take (k + 1) = M.take (k + 1)) := Lib.hid (by
      rw [List.take_add_one, List.take_add_one, HKK.out, List.getElem?_eq_getElem hkl, List.getElem?_eq_getElem hkm, ← HX.out, ← HY.out, hxy])
     clear hxy
     go_wp2
     go_quiet (fail)
     go_wp2
     go_roundw
     case rel => exact ⟨k + 1, j + nq, by omega, by go_num, hlist.out, by rw [HW.out, World.drewN_drewN]⟩
     case measure => simp [intOf]; omega
    ·have hne : (x != y) = true := by simpa using hxy
     have hdf : Hid (d = false) := Lib.hid (by
      rw [HD.out, decide_eq_false_iff_not]
      intro h
      apply hxy
      rw [HX.out, HY.out]
      simp only [h])
     clear hxy
     go_wp2
     go_quiet (fail)
     go_wp2
     go_ret
     exact ⟨by rw [hdf.out]; rfl, by rw [HW.out, World.drewN_drewN]; exact below_drewN _ _ _⟩
   ·obtain rfl : k = n := by omega
    have hdt : Hid (d = true) := Lib.hid (by
     have := HKK.out
     rw [List.take_of_length_le (by rw [← HN.out]; omega), List.take_of_length_le (by rw [← HM.out]; omega)] at this
     rw [HD.out, decide_eq_true_iff]
     exact this)
    go_wp2
    go_ret
    exact ⟨by rw [hdt.out]; rfl, below_drewN _ _ _⟩
 ·have hdf : Hid (d = false) := Lib.hid (by
   rw [HD.out, decide_eq_false_iff_not]
   intro h
   apply hnm
   rw [HN.out, HM.out, h])
  have hnz : ((n : Int) != (m : Int)) = true := by simp only [bne_iff_ne, ne_eq]; omega
  go_enter Tryz.func42, Tryz.ntmps42
  go_wp2
  go_ret
  exact ⟨by rw [hdf.out]; rfl, Below.refl _ _⟩
set_option maxRecDepth 1000000 in
set_option maxHeartbeats 4000000 in
theorem tError_gen (C : Nat → Tm) (m n s0 s1 s2 s3 s4 s5 b0 b1 b2 b3 b4 b5 t0 t1 t2 t3 t4 t5 r0 r1 r2 r3 r4 r5 q x : Int) (w : World) (ht : Tab w) (hC : ∀ i, i < 12 → Tm64 (C i)) (hk : abE C n = 0) (hm : 0 ≤ m ∧ m ≤ 11) (hn : 0 ≤ n ∧ n ≤ 36)
  (hs : ∀ W, Calls Tryz.prog 38 #[szv s0 s1 s2 s3 s4 s5] W fun e w' => e = .returned (.int .i64 0) ∧ Below W.heap.size W w')
  (hB : ∀ W, Tab W → Calls Tryz.prog 59 #[.agg (cirL C).toArray, .int .i64 m, .int .i64 (m + n)] W fun e w' => e = .returned (.tuple #[szv b0 b1 b2 b3 b4 b5, .int .i64 0]) ∧ Below W.heap.size W w')
  (hS : ∀ W, Calls Tryz.prog 46 #[szv b0 b1 b2 b3 b4 b5, szv s0 s1 s2 s3 s4 s5] W fun e w' => e = .returned (.tuple #[szv t0 t1 t2 t3 t4 t5, .int .i64 q]) ∧ Below W.heap.size W w')
  (hL : ∀ W, Calls Tryz.prog 45 #[szv t0 t1 t2 t3 t4 t5, .int .i64 q] W fun e w' => e = .returned (.tuple #[szv r0 r1 r2 r3 r4 r5, .int .i64 x]) ∧ Below W.heap.size W w') :
  Calls Tryz.prog 33 #[.agg (cirL C).toArray, .int .i64 m, .int .i64 n, szv s0 s1 s2 s3 s4 s5] w fun e w' => e = .returned (.tuple #[szv r0 r1 r2 r3 r4 r5, .int .i64 x]) ∧ Below w.heap.size w w' := by
 have hck := fun W => tabove_any C n W hC
 rw [hk] at hck
 have HCK := Lib.hid hck
 have HS := Lib.hid hs
 have HB := Lib.hid hB
 have HSU := Lib.hid hS
 have HL := Lib.hid hL
 have HT := Lib.hid ht
 obtain ⟨h1, h2⟩ := hm
 obtain ⟨n1, n2⟩ := hn
 clear hck hk hs hB hS hL ht
 have hm0 := (((Hp.start w).new 33 (cirL C)).new 36 [.int .i64 s0, .int .i64 s1, .int .i64 s2, .int .i64 s3, .int .i64 s4, .int .i64 s5]).new 36 [.int .i64 0, .int .i64 0, .int .i64 0, .int .i64 0, .int .i64 0, .int .i64 0]
 simp only [World.size_alloc, List.nil_append, List.cons_append] at hm0
 have HM0 := Lib.hid hm0
 clear hm0
 go_enter Tryz.func33, Tryz.ntmps33
 go_wp2_with (refine wpList_load_row rfl 33 _ rfl (w.heap.size) rfl 33 (cirL C).toArray (0, 0) _ (HM0.out.at_ 0 rfl) Tryz.underlying33 rfl (by rw [infoCircle, List.size_toArray, cirL_len]) ?_)
 refine (HCK.out _).mono ?_
 rintro e w1 ⟨rfl, hb1⟩
 have hm1 := HM0.out.step hb1
 have HM1 := Lib.hid hm1
 obtain ⟨y0, y1, y2, y3, y4, y5⟩ := six_of (hm1.at_ 1 rfl)
 clear hb1 hm1
 go_wp2_with fail
 refine (HS.out _).mono ?_
 rintro e w2 ⟨rfl, hb2⟩
 have HM2 := Lib.hid (HM1.out.step hb2)
 clear hb2 y0 y1 y2 y3 y4 y5
 go_wp2_with (refine wpList_load_row rfl 33 _ rfl (w.heap.size) rfl 33 (cirL C).toArray (0, 0) _ (HM2.out.at_ 0 rfl) Tryz.underlying33 rfl (by rw [infoCircle, List.size_toArray, cirL_len]) ?_)
 refine (HB.out _ (HT.out.below HM2.out.below)).mono ?_
 rintro e w3 ⟨rfl, hb3⟩
 have hm3 := (HM2.out.step hb3).new 36 [.int .i64 b0, .int .i64 b1, .int .i64 b2, .int .i64 b3, .int .i64 b4, .int .i64 b5]
 simp only [List.nil_append, List.cons_append] at hm3
 have HM3 := Lib.hid hm3
 obtain ⟨y0, y1, y2, y3, y4, y5⟩ := six_of (hm3.at_ 1 rfl)
 obtain ⟨x0, x1, x2, x3, x4, x5⟩ := six_of (hm3.at_ 3 rfl)
 clear hb3 hm3
 go_wp2_with fail
 refine (HSU.out _).mono ?_
 rintro e w4 ⟨rfl, hb4⟩
 have HM4 := Lib.hid (HM3.out.step hb4)
 clear hb4 x0 x1 x2 x3 x4 x5 y0 y1 y2 y3 y4 y5
 go_wp2_with fail
 refine (HL.out _).mono ?_
 rintro e w5 ⟨rfl, hb5⟩
 have hq := HM4.out.step hb5
 obtain ⟨z0, z1, z2, z3, z4, z5⟩ := six_of (hq.at_ 2 rfl)
 obtain ⟨f0, f1, f2, f3, f4, f5⟩ := six_free (hq.at_ 2 rfl)
 have HQ := Lib.hid (hq.put6s 2 rfl (.int .i64 r0) (.int .i64 r1) (.int .i64 r2) (.int .i64 r3) (.int .i64 r4) (.int .i64 r5))
 clear hb5 hq
 go_wp2
 exact bodyPost_ret (v := .tuple #[szv r0 r1 r2 r3 r4 r5, .int .i64 x]) (by simp [results, Tryz.results33, go_sem, z0, z1, z2, z3, z4, z5, f0, f1, f2, f3, f4, f5]) rfl ⟨rfl, HQ.out⟩
def wdB (L : Nat → Nat → Int) : Nat → Nat
 | 0 => 0
 | k + 1 => if k = 0 then 0 else if L k (wdB L k) ≤ 0 then wdB L k else k
theorem wdB_lt (L : Nat → Nat → Int) : ∀ k, 0 < k → wdB L k < k
 | 0, h => absurd h (by omega)
 | k + 1, _ => by
  have ih := wdB_lt L k
  unfold wdB
  split
  ·omega
  ·split
   ·have := ih (by omega)
    omega
   ·omega
set_option maxRecDepth 1000000 in
set_option maxHeartbeats 4000000 in
theorem tWidest_gen (C : Nat → Tm) (n : Int) (b0 b1 b2 b3 b4 b5 : Nat → Int) (L : Nat → Nat → Int) (w : World) (ht : Tab w) (hC : ∀ i, i < 12 → Tm64 (C i)) (hk : abE C n = 0) (hn : 0 ≤ n ∧ n ≤ 36)
  (hB : ∀ (k : Nat) (W : World), k < 12 → Tab W → Calls Tryz.prog 59 #[.agg (cirL C).toArray, .int .i64 (k : Int), .int .i64 ((k : Int) + n)] W fun e w' => e = .returned (.tuple #[szv (b0 k) (b1 k) (b2 k) (b3 k) (b4 k) (b5 k), .int .i64 0]) ∧ Below W.heap.size W w')
  (hL : ∀ (k j : Nat) (W : World), k < 12 → j < 12 → Tab W → Calls Tryz.prog 72 #[szv (b0 k) (b1 k) (b2 k) (b3 k) (b4 k) (b5 k), szv (b0 j) (b1 j) (b2 j) (b3 j) (b4 j) (b5 j)] W fun e w' => e = .returned (.tuple #[.int .i64 (L k j), .int .i64 0]) ∧ Below W.heap.size W w') :
  Calls Tryz.prog 34 #[.agg (cirL C).toArray, .int .i64 n] w fun e w' => e = .returned (.tuple #[.int .i64 (wdB L 12 : Nat), .int .i64 0]) ∧ Below w.heap.size w w' := by
 have hck := fun W => tabove_any C n W hC
 rw [hk] at hck
 have HCK := Lib.hid hck
 have HB := Lib.hid hB
 have HL := Lib.hid hL
 have HT := Lib.hid ht
 obtain ⟨n1, n2⟩ := hn
 clear hck hk hB hL ht
 have hm0 := (Hp.start w).new 33 (cirL C)
 simp only [World.size_alloc, List.nil_append, List.cons_append] at hm0
 have HM0 := Lib.hid hm0
 clear hm0
 go_enter Tryz.func34, Tryz.ntmps34
 go_wp2_with (refine wpList_load_row rfl 33 _ rfl (w.heap.size) rfl 33 (cirL C).toArray (0, 0) _ (HM0.out.at_ 0 rfl) Tryz.underlying33 rfl (by rw [infoCircle, List.size_toArray, cirL_len]) ?_)
 refine (HCK.out _).mono ?_
 rintro e w1 ⟨rfl, hb1⟩
 have hm1 := (HM0.out.step hb1).new 36 [.int .i64 0, .int .i64 0, .int .i64 0, .int .i64 0, .int .i64 0, .int .i64 0]
 simp only [List.nil_append, List.cons_append] at hm1
 have HM1 := Lib.hid hm1
 clear hb1 hm1
 go_wp2_with fail
 go_loopw [7, 20] (fun u v W => ∃ (k : Nat) (m0 m1 m2 m3 m4 m5 : Int), k ≤ 12 ∧ v = .int .i64 (k : Int) ∧ u = .int .i64 (wdB L k : Nat) ∧ (0 < k → m0 = b0 (wdB L k) ∧ m1 = b1 (wdB L k) ∧ m2 = b2 (wdB L k) ∧ m3 = b3 (wdB L k) ∧ m4 = b4 (wdB L k) ∧ m5 = b5 (wdB L k)) ∧ Hp w [(w.heap.size, 33, cirL C), (w1.heap.size, 36, [.int .i64 m0, .int .i64 m1, .int .i64 m2, .int .i64 m3, .int .i64 m4, .int .i64 m5])] W) (fun _ v _ => 12 - (intOf v).toNat)
 case atStart => exact ⟨0, 0, 0, 0, 0, 0, 0, by omega, rfl, rfl, fun h => absurd h (by omega), HM1.out⟩
 case round =>
  obtain ⟨k, m0, m1, m2, m3, m4, m5, hk, rfl, rfl, hmo, hm⟩ := hrel
  have HMR := Lib.hid hm
  have HMO := Lib.hid hmo
  clear hm hmo
  by_cases hlt : k < 12
  ·have HBK := Lib.hid (fun W hT => HB.out k W hlt hT)
   obtain ⟨z, hz⟩ : ∃ z : Int, z = (k : Int) := ⟨_, rfl⟩
   rw [← hz] at HBK
   obtain ⟨x0, hx0⟩ : ∃ x, x = b0 k := ⟨_, rfl⟩
   obtain ⟨x1, hx1⟩ : ∃ x, x = b1 k := ⟨_, rfl⟩
   obtain ⟨x2, hx2⟩ : ∃ x, x = b2 k := ⟨_, rfl⟩
   obtain ⟨x3, hx3⟩ : ∃ x, x = b3 k := ⟨_, rfl⟩
   obtain ⟨x4, hx4⟩ : ∃ x, x = b4 k := ⟨_, rfl⟩
   obtain ⟨x5, hx5⟩ : ∃ x, x = b5 k := ⟨_, rfl⟩
   rw [← hx0, ← hx1, ← hx2, ← hx3, ← hx4, ← hx5] at HBK
   have HX := Lib.hid (And.intro hx0 (And.intro hx1 (And.intro hx2 (And.intro hx3 (And.intro hx4 hx5)))))
   have HZ := Lib.hid hz
   have hz12 : 0 ≤ z ∧ z < 12 := by omega
   obtain ⟨wb, hwb⟩ : ∃ x : Int, x = (wdB L k : Nat) := ⟨_, rfl⟩
   rw [← hwb, ← hz]
   have HWB := Lib.hid hwb
   clear hz hwb hx0 hx1 hx2 hx3 hx4 hx5
   go_wp2_with (refine wpList_load_row rfl 33 _ rfl (w.heap.size) rfl 33 (cirL C).toArray (0, 0) _ (HMR.out.at_ 0 rfl) Tryz.underlying33 rfl (by rw [infoCircle, List.size_toArray, cirL_len]) ?_)
   refine (HBK.out _ (HT.out.below HMR.out.below)).mono ?_
   rintro e w3 ⟨rfl, hb3⟩
   have hm3 := (HMR.out.step hb3).new 36 [.int .i64 x0, .int .i64 x1, .int .i64 x2, .int .i64 x3, .int .i64 x4, .int .i64 x5]
   simp only [List.nil_append, List.cons_append] at hm3
   obtain ⟨y0, y1, y2, y3, y4, y5⟩ := six_of (hm3.at_ 1 rfl)
   obtain ⟨f0, f1, f2, f3, f4, f5⟩ := six_free (hm3.at_ 1 rfl)
   obtain ⟨u0, u1, u2, u3, u4, u5⟩ := six_of (hm3.at_ 2 rfl)
   have HM3 := Lib.hid hm3
   have hp := hm3.put6 1 rfl (.int .i64 x0) (.int .i64 x1) (.int .i64 x2) (.int .i64 x3) (.int .i64 x4) (.int .i64 x5)
   have HP := Lib.hid (hp.sub (L' := [(w.heap.size, 33, cirL C), (w1.heap.size, 36, [.int .i64 x0, .int .i64 x1, .int .i64 x2, .int .i64 x3, .int .i64 x4, .int .i64 x5])]) (by simp))
   clear hb3 hm3 hp
   by_cases hk0 : k = 0
   ·have hz0 : ¬ 0 < z := by have := HZ.out; omega
    go_upto_region 15 with fail
    go_region
    go_wp2_with fail
    go_roundw
    case rel =>
     obtain ⟨e0, e1, e2, e3, e4, e5⟩ := HX.out
     have hzk := HZ.out
     have ew : wdB L (k + 1) = k := by rw [show wdB L (k + 1) = if k = 0 then 0 else if L k (wdB L k) ≤ 0 then wdB L k else k from rfl, if_pos hk0, hk0]
     refine ⟨k + 1, x0, x1, x2, x3, x4, x5, by omega, by rw [hzk]; go_num, by rw [ew, hzk], fun _ => ?_, HP.out.drew⟩
     rw [ew]
     exact ⟨e0, e1, e2, e3, e4, e5⟩
    case measure => simp [intOf]; have := HZ.out; omega
   ·have hz0 : 0 < z := by have := HZ.out; omega
    have hwl := wdB_lt L k (by omega)
    have hl := fun W hT => HL.out k (wdB L k) W hlt (by omega) hT
    obtain ⟨e0, e1, e2, e3, e4, e5⟩ := HX.out
    obtain ⟨q0, q1, q2, q3, q4, q5⟩ := HMO.out (by omega)
    rw [← e0, ← e1, ← e2, ← e3, ← e4, ← e5, ← q0, ← q1, ← q2, ← q3, ← q4, ← q5] at hl
    have ew : wdB L (k + 1) = if L k (wdB L k) ≤ 0 then wdB L k else k := by rw [show wdB L (k + 1) = if k = 0 then 0 else if L k (wdB L k) ≤ 0 then wdB L k else k from rfl, if_neg hk0]
    obtain ⟨c, hc⟩ : ∃ c, c = L k (wdB L k) := ⟨_, rfl⟩
    rw [← hc] at hl ew
    have HLK := Lib.hid hl
    have HEW := Lib.hid ew
    have HKZ := Lib.hid hk0
    clear e0 e1 e2 e3 e4 e5 q0 q1 q2 q3 q4 q5 hl hc ew hwl hk0
    go_wp2_with fail
    refine (HLK.out _ (HT.out.below HM3.out.below)).mono ?_
    rintro e w4 ⟨rfl, hb4⟩
    have hm4 := HM3.out.step hb4
    clear y0 y1 y2 y3 y4 y5 f0 f1 f2 f3 f4 f5 u0 u1 u2 u3 u4 u5
    obtain ⟨y0, y1, y2, y3, y4, y5⟩ := six_of (hm4.at_ 1 rfl)
    obtain ⟨f0, f1, f2, f3, f4, f5⟩ := six_free (hm4.at_ 1 rfl)
    obtain ⟨u0, u1, u2, u3, u4, u5⟩ := six_of (hm4.at_ 2 rfl)
    have hp := hm4.put6 1 rfl (.int .i64 x0) (.int .i64 x1) (.int .i64 x2) (.int .i64 x3) (.int .i64 x4) (.int .i64 x5)
    have HP4 := Lib.hid (hp.sub (L' := [(w.heap.size, 33, cirL C), (w1.heap.size, 36, [.int .i64 x0, .int .i64 x1, .int .i64 x2, .int .i64 x3, .int .i64 x4, .int .i64 x5])]) (by simp))
    have HM4 := Lib.hid (hm4.sub (L' := [(w.heap.size, 33, cirL C), (w1.heap.size, 36, [.int .i64 m0, .int .i64 m1, .int .i64 m2, .int .i64 m3, .int .i64 m4, .int .i64 m5])]) (by simp))
    clear hb4 hm4 hp
    by_cases hc0 : c ≤ 0
    ·go_wp2_with fail
     go_roundw
     case rel =>
      have hzk := HZ.out
      have ew : wdB L (k + 1) = wdB L k := by rw [HEW.out, if_pos hc0]
      refine ⟨k + 1, m0, m1, m2, m3, m4, m5, by omega, by rw [hzk]; go_num, by rw [ew, HWB.out], fun _ => ?_, HM4.out⟩
      rw [ew]
      exact HMO.out (by have := HKZ.out; omega)
     case measure => simp [intOf]; have := HZ.out; omega
    ·have hc1 : 0 < c := by omega
     go_upto_region 15 with fail
     go_region
     go_wp2_with fail
     go_roundw
     case rel =>
      obtain ⟨e0, e1, e2, e3, e4, e5⟩ := HX.out
      have hzk := HZ.out
      have ew : wdB L (k + 1) = k := by rw [HEW.out, if_neg (by omega)]
      refine ⟨k + 1, x0, x1, x2, x3, x4, x5, by omega, by rw [hzk]; go_num, by rw [ew, hzk], fun _ => ?_, HP4.out.drew⟩
      rw [ew]
      exact ⟨e0, e1, e2, e3, e4, e5⟩
     case measure => simp [intOf]; have := HZ.out; omega
  ·obtain rfl : k = 12 := by omega
   have HQ := Lib.hid HMR.out.below
   clear hk hlt
   go_wp2
   exact bodyPost_ret (v := .tuple #[.int .i64 (wdB L 12 : Nat), .int .i64 0]) (by simp [results, Tryz.results34, go_sem]) rfl ⟨rfl, HQ.out⟩
end Go.Proofs.YtlmheeommpbimaaGreatDoor
