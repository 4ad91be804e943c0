/- Part 42 of 46 of the proof of the law: contracts of the functions that it reaches, and plain facts. Conditions: those that each contract names. -/
import Derived.Test.YtlmheeommpbimaaGreatDoorIntB41
import Derived.RegionTactic
import Derived.Deep.DeepCutAuto
import Derived.Test.YtlmheeommpbimaaGreatDoorIntB37
import Derived.Test.YtlmheeommpbimaaGreatDoorIntB39
import Derived.Test.YtlmheeommpbimaaGreatDoorIntB36
namespace Go.Proofs.YtlmheeommpbimaaGreatDoor
open Go.RowKit
set_option maxRecDepth 1000000 in
set_option maxHeartbeats 4000000 in
theorem lnote_long (C : Nat → Tm) (n k : Nat) (s0 s1 s2 s3 : Int) (w : World) (ht : Tab w) (hn : n < 12) (hk : 7 * n % 12 = k)
  (hSU : ∀ W, Calls Tryz.prog 17 #[.agg (cirL C).toArray, .int .i64 (k : Int)] W fun e w' => e = .returned (.tuple #[ovv s0 s1 s2 s3, .bool true]) ∧ Below W.heap.size W w')
  (hSH : ∀ W, Calls Tryz.prog 73 #[ovv s0 s1 s2 s3] W fun e w' => e = .returned (.bool false) ∧ Below W.heap.size W w') :
  Calls Tryz.prog 36 #[.agg (cirL C).toArray, .int .i64 (n : Int)] w fun e w' => e = .returned (.tuple #[ovv s0 s1 s2 s3, .bool false]) ∧ Below w.heap.size w w' := by
 have HSU := Lib.hid hSU
 have HSH := Lib.hid hSH
 have HT := Lib.hid ht
 obtain ⟨x, hx⟩ : ∃ x : Int, x = (n : Int) := ⟨_, rfl⟩
 obtain ⟨y, hy⟩ : ∃ y : Int, y = (k : Int) := ⟨_, rfl⟩
 have hxy : (7 * x).tmod 12 = y := by rw [Int.tmod_eq_emod_of_nonneg (by omega)]; omega
 have w7 : IntKind.i64.wrap (7 * x) = 7 * x := IntWalk.i64_in _ (by omega)
 have wy : IntKind.i64.wrap y = y := IntWalk.i64_in _ (by omega)
 have hx0 : 0 ≤ x ∧ x < 12 := by omega
 rw [← hy] at HSU
 rw [← hx]
 clear hx hy hk hn ht hSU hSH
 have hm0 := ((Hp.start w).new 33 (cirL C)).new 45 [.int .i64 0, .int .i64 0, .int .i64 0, .int .i64 0]
 simp only [World.size_alloc, List.nil_append, List.cons_append] at hm0
 have HM0 := Lib.hid hm0
 clear hm0
 go_enter Tryz.func36, Tryz.ntmps36
 go_wp2_with (refine wpList_load_row rfl 33 _ rfl (w.heap.size) rfl 33 (cirL C).toArray (0, 0) _ (HM0.out.at_ 0 rfl) Tryz.underlying33 rfl (by rw [infoCircle, List.size_toArray, cirL_len]) ?_)
 refine (HSU.out _).mono ?_
 rintro e w1 ⟨rfl, hb1⟩
 have hm1 := (HM0.out.step hb1).new 45 [.int .i64 s0, .int .i64 s1, .int .i64 s2, .int .i64 s3]
 simp only [List.nil_append, List.cons_append] at hm1
 have v0 := (hm1.at_ 2 rfl).cell 0
 have v1 := (hm1.at_ 2 rfl).cell 1
 have v2 := (hm1.at_ 2 rfl).cell 2
 have v3 := (hm1.at_ 2 rfl).cell 3
 simp only [List.getElem?_cons_succ, List.getElem?_cons_zero] at v0 v1 v2 v3
 have HM1 := Lib.hid hm1
 clear hb1 hm1
 go_wp2_with fail
 refine (HSH.out _).mono ?_
 rintro e w2 ⟨rfl, hb2⟩
 have hq := HM1.out.step hb2
 clear v0 v1 v2 v3
 have v0 := (hq.at_ 2 rfl).cell 0
 have v1 := (hq.at_ 2 rfl).cell 1
 have v2 := (hq.at_ 2 rfl).cell 2
 have v3 := (hq.at_ 2 rfl).cell 3
 have z0 := (hq.at_ 1 rfl).cell 0
 have z1 := (hq.at_ 1 rfl).cell 1
 have z2 := (hq.at_ 1 rfl).cell 2
 have z3 := (hq.at_ 1 rfl).cell 3
 have f0 := (hq.at_ 1 rfl).frozen 0
 have f1 := (hq.at_ 1 rfl).frozen 1
 have f2 := (hq.at_ 1 rfl).frozen 2
 have f3 := (hq.at_ 1 rfl).frozen 3
 simp only [List.getElem?_cons_succ, List.getElem?_cons_zero] at v0 v1 v2 v3 z0 z1 z2 z3
 have HB := Lib.hid (hq.put4 1 rfl (.int .i64 s0) (.int .i64 s1) (.int .i64 s2) (.int .i64 s3)).below
 clear hb2 hq
 go_wp2
 exact bodyPost_ret (v := .tuple #[ovv s0 s1 s2 s3, .bool false]) (by simp [results, Tryz.results36, go_sem, z0, z1, z2, z3, f0, f1, f2, f3]) rfl ⟨rfl, HB.out⟩
set_option maxRecDepth 1000000 in
set_option maxHeartbeats 4000000 in
theorem lnote_short (C : Nat → Tm) (n k : Nat) (s0 s1 s2 s3 z t0 t1 t2 t3 u0 u1 u2 u3 : Int) (w : World) (ht : Tab w) (hn : n < 12) (hk : 7 * n % 12 = k)
  (hSU : ∀ W, Calls Tryz.prog 17 #[.agg (cirL C).toArray, .int .i64 (k : Int)] W fun e w' => e = .returned (.tuple #[ovv s0 s1 s2 s3, .bool true]) ∧ Below W.heap.size W w')
  (hSH : ∀ W, Calls Tryz.prog 73 #[ovv s0 s1 s2 s3] W fun e w' => e = .returned (.bool true) ∧ Below W.heap.size W w')
  (hOC : ∀ W, Tab W → Calls Tryz.prog 74 #[ovv s0 s1 s2 s3] W fun e w' => e = .returned (.int .i64 z) ∧ Below W.heap.size W w')
  (hAD : ∀ W, Calls Tryz.prog 19 #[ovv s0 s1 s2 s3, ovv z 0 0 1, .int .i64 (-1)] W fun e w' => e = .returned (ovv t0 t1 t2 t3) ∧ Below W.heap.size W w')
  (hOV : ∀ W, Calls Tryz.prog 18 #[ovv t0 t1 t2 t3] W fun e w' => e = .returned (.tuple #[ovv u0 u1 u2 u3, .bool true]) ∧ Below W.heap.size W w') :
  Calls Tryz.prog 36 #[.agg (cirL C).toArray, .int .i64 (n : Int)] w fun e w' => e = .returned (.tuple #[ovv u0 u1 u2 u3, .bool true]) ∧ Below w.heap.size w w' := by
 have HSU := Lib.hid hSU
 have HSH := Lib.hid hSH
 have HT := Lib.hid ht
 have HOC := Lib.hid hOC
 have HAD := Lib.hid hAD
 have HOV := Lib.hid hOV
 have HLO := Lib.hid (fun W => loctaves_any z W)
 obtain ⟨x, hx⟩ : ∃ x : Int, x = (n : Int) := ⟨_, rfl⟩
 obtain ⟨y, hy⟩ : ∃ y : Int, y = (k : Int) := ⟨_, rfl⟩
 have hxy : (7 * x).tmod 12 = y := by rw [Int.tmod_eq_emod_of_nonneg (by omega)]; omega
 have w7 : IntKind.i64.wrap (7 * x) = 7 * x := IntWalk.i64_in _ (by omega)
 have wy : IntKind.i64.wrap y = y := IntWalk.i64_in _ (by omega)
 have hx0 : 0 ≤ x ∧ x < 12 := by omega
 rw [← hy] at HSU
 rw [← hx]
 clear hx hy hk hn ht hSU hSH hOC hAD hOV
 have hm0 := ((Hp.start w).new 33 (cirL C)).new 45 [.int .i64 0, .int .i64 0, .int .i64 0, .int .i64 0]
 simp only [World.size_alloc, List.nil_append, List.cons_append] at hm0
 have HM0 := Lib.hid hm0
 clear hm0
 go_enter Tryz.func36, Tryz.ntmps36
 go_wp2_with (refine wpList_load_row rfl 33 _ rfl (w.heap.size) rfl 33 (cirL C).toArray (0, 0) _ (HM0.out.at_ 0 rfl) Tryz.underlying33 rfl (by rw [infoCircle, List.size_toArray, cirL_len]) ?_)
 refine (HSU.out _).mono ?_
 rintro e w1 ⟨rfl, hb1⟩
 have hm1 := (HM0.out.step hb1).new 45 [.int .i64 s0, .int .i64 s1, .int .i64 s2, .int .i64 s3]
 simp only [List.nil_append, List.cons_append] at hm1
 have v0 := (hm1.at_ 2 rfl).cell 0
 have v1 := (hm1.at_ 2 rfl).cell 1
 have v2 := (hm1.at_ 2 rfl).cell 2
 have v3 := (hm1.at_ 2 rfl).cell 3
 simp only [List.getElem?_cons_succ, List.getElem?_cons_zero] at v0 v1 v2 v3
 have HM1 := Lib.hid hm1
 clear hb1 hm1
 go_wp2_with fail
 refine (HSH.out _).mono ?_
 rintro e w2 ⟨rfl, hb2⟩
 have HM2 := Lib.hid (HM1.out.step hb2)
 clear hb2 v0 v1 v2 v3
 go_upto_region 5 with fail
 refine wp_regionJ 10 #[false, false, false, false, false, false, false, false, false, false] (fun l a W => ∃ (m0 m1 m2 m3 m4 m5 m6 m7 m8 m9 : Bool), l = #[m0, m1, m2, m3, m4, m5, m6, m7, m8, m9] ∧ a = ({ tmps := #[Value.agg (cirL C).toArray, Value.int IntKind.i64 x, Value.pointer (some { block := w.heap.size, off := 0 }), undef, Value.pointer (some { block := w.heap.size + 1, off := 0 }), cwX m9 (.bool true) (Value.bool false), Value.int IntKind.i64 y, Value.pointer (some { block := w1.heap.size, off := 0 }), Value.bool true, Value.int IntKind.i64 x, Value.int IntKind.i64 (7 * x), Value.int IntKind.i64 y, Value.tuple #[ovv s0 s1 s2 s3, Value.bool true], Value.agg (cirL C).toArray, Value.int IntKind.i64 y, Value.tuple #[ovv s0 s1 s2 s3, Value.bool true], ovv s0 s1 s2 s3, Value.bool true, Value.bool true, Value.bool false, Value.bool false, Value.agg #[Value.int IntKind.i64 s0, Value.int IntKind.i64 s1, Value.int IntKind.i64 s2, Value.int IntKind.i64 s3], Value.bool true, Value.bool false, Value.bool false, undef, cwX m0 (ovv s0 s1 s2 s3) (undef), cwX m1 (ovv s0 s1 s2 s3) (undef), cwX m2 (.int .i64 z) (undef), cwX m3 (ovv z 0 0 1) (undef), cwX m4 (ovv t0 t1 t2 t3) (undef), cwX m5 (.tuple #[ovv u0 u1 u2 u3, .bool true]) (undef), cwX m6 (ovv u0 u1 u2 u3) (undef), cwX m7 (.bool true) (undef)], defers := [] } : Act) ∧ (True) ∧ Hp w [(w.heap.size, 33, cirL C), (w.heap.size + 1, 45, bif m8 then [.int .i64 u0, .int .i64 u1, .int .i64 u2, .int .i64 u3] else [.int .i64 0, .int .i64 0, .int .i64 0, .int .i64 0]), (w1.heap.size, 45, [.int .i64 s0, .int .i64 s1, .int .i64 s2, .int .i64 s3])] W) (by kernel_rfl) (by kernel_rfl) (by kernel_rfl) (by kernel_rfl) ?_ ?_ ?_ ?_
 ·rintro l a W ⟨m0, m1, m2, m3, m4, m5, m6, m7, m8, m9, rfl, _⟩
  rfl
 ·exact ⟨false, false, false, false, false, false, false, false, false, false, rfl, rfl, trivial, HM2.out.drew⟩
 ·rintro l a W i o ⟨m0, m1, m2, m3, m4, m5, m6, m7, m8, m9, rfl, rfl, hi0, hm⟩ ho hun hall K hK
  have hi : i < 10 := (Array.getElem?_eq_some_iff.1 ho).1
  have HM := Lib.hid hm
  have HI := Lib.hid hi0
  clear hm hi0
  rcases (show i = 0 ∨ i = 1 ∨ i = 2 ∨ i = 3 ∨ i = 4 ∨ i = 5 ∨ i = 6 ∨ i = 7 ∨ i = 8 ∨ i = 9 by omega) with rfl | rfl | rfl | rfl | rfl | rfl | rfl | rfl | rfl | rfl
  ·cases ho
   simp at hun; subst hun
   clear hall hi
   have v0 : W.cell? ⟨w1.heap.size, 0, none⟩ = some (.int .i64 s0) := (HM.out.at_ 2 rfl).cell 0
   have v1 : W.cell? ⟨w1.heap.size, 1, none⟩ = some (.int .i64 s1) := (HM.out.at_ 2 rfl).cell 1
   have v2 : W.cell? ⟨w1.heap.size, 2, none⟩ = some (.int .i64 s2) := (HM.out.at_ 2 rfl).cell 2
   have v3 : W.cell? ⟨w1.heap.size, 3, none⟩ = some (.int .i64 s3) := (HM.out.at_ 2 rfl).cell 3
   go_simp
   exact hK.out _ _ ⟨true, m1, m2, m3, m4, m5, m6, m7, m8, m9, rfl, rfl, trivial, HM.out⟩
  ·cases ho
   simp at hun; subst hun
   clear hall hi
   have v0 : W.cell? ⟨w1.heap.size, 0, none⟩ = some (.int .i64 s0) := (HM.out.at_ 2 rfl).cell 0
   have v1 : W.cell? ⟨w1.heap.size, 1, none⟩ = some (.int .i64 s1) := (HM.out.at_ 2 rfl).cell 1
   have v2 : W.cell? ⟨w1.heap.size, 2, none⟩ = some (.int .i64 s2) := (HM.out.at_ 2 rfl).cell 2
   have v3 : W.cell? ⟨w1.heap.size, 3, none⟩ = some (.int .i64 s3) := (HM.out.at_ 2 rfl).cell 3
   go_simp
   exact hK.out _ _ ⟨m0, true, m2, m3, m4, m5, m6, m7, m8, m9, rfl, rfl, trivial, HM.out⟩
  ·cases ho
   cases (getBX hall 1 rfl : m1 = true)
   simp at hun; subst hun
   clear hall hi
   go_simp
   refine (HOC.out _ (HT.out.below HM.out.below)).mono ?_
   rintro e W' ⟨rfl, hb⟩
   exact hK.out _ _ ⟨m0, true, true, m3, m4, m5, m6, m7, m8, m9, rfl, rfl, trivial, HM.out.step hb⟩
  ·cases ho
   cases (getBX hall 2 rfl : m2 = true)
   simp at hun; subst hun
   clear hall hi
   go_simp
   refine (HLO.out _).mono ?_
   rintro e W' ⟨rfl, hb⟩
   exact hK.out _ _ ⟨m0, m1, true, true, m4, m5, m6, m7, m8, m9, rfl, rfl, trivial, HM.out.step hb⟩
  ·cases ho
   cases (getBX hall 0 rfl : m0 = true)
   cases (getBX hall 3 rfl : m3 = true)
   simp at hun; subst hun
   clear hall hi
   go_simp
   refine (HAD.out _).mono ?_
   rintro e W' ⟨rfl, hb⟩
   exact hK.out _ _ ⟨true, m1, m2, true, true, m5, m6, m7, m8, m9, rfl, rfl, trivial, HM.out.step hb⟩
  ·cases ho
   cases (getBX hall 4 rfl : m4 = true)
   simp at hun; subst hun
   clear hall hi
   go_simp
   refine (HOV.out _).mono ?_
   rintro e W' ⟨rfl, hb⟩
   exact hK.out _ _ ⟨m0, m1, m2, m3, true, true, m6, m7, m8, m9, rfl, rfl, trivial, HM.out.step hb⟩
  ·cases ho
   cases (getBX hall 5 rfl : m5 = true)
   simp at hun; subst hun
   clear hall hi
   go_simp
   exact hK.out _ _ ⟨m0, m1, m2, m3, m4, true, true, m7, m8, m9, rfl, rfl, trivial, HM.out⟩
  ·cases ho
   cases (getBX hall 5 rfl : m5 = true)
   simp at hun; subst hun
   clear hall hi
   go_simp
   exact hK.out _ _ ⟨m0, m1, m2, m3, m4, true, m6, true, m8, m9, rfl, rfl, trivial, HM.out⟩
  ·cases ho
   cases (getBX hall 6 rfl : m6 = true)
   simp at hun; subst hun
   clear hall hi
   have z0 : W.cell? ⟨w.heap.size + 1, 0, none⟩ = some (.int .i64 0) := (HM.out.at_ 1 rfl).cell 0
   have f0 := (HM.out.at_ 1 rfl).frozen 0
   have z1 : W.cell? ⟨w.heap.size + 1, 1, none⟩ = some (.int .i64 0) := (HM.out.at_ 1 rfl).cell 1
   have f1 := (HM.out.at_ 1 rfl).frozen 1
   have z2 : W.cell? ⟨w.heap.size + 1, 2, none⟩ = some (.int .i64 0) := (HM.out.at_ 1 rfl).cell 2
   have f2 := (HM.out.at_ 1 rfl).frozen 2
   have z3 : W.cell? ⟨w.heap.size + 1, 3, none⟩ = some (.int .i64 0) := (HM.out.at_ 1 rfl).cell 3
   have f3 := (HM.out.at_ 1 rfl).frozen 3
   have HN := Lib.hid (HM.out.put4 1 rfl (.int .i64 u0) (.int .i64 u1) (.int .i64 u2) (.int .i64 u3))
   go_simp
   exact hK.out _ _ ⟨m0, m1, m2, m3, m4, m5, true, m7, true, m9, rfl, rfl, trivial, HN.out⟩
  ·cases ho
   cases (getBX hall 7 rfl : m7 = true)
   simp at hun; subst hun
   clear hall hi
   go_simp
   exact hK.out _ _ ⟨m0, m1, m2, m3, m4, m5, m6, true, m8, true, rfl, rfl, trivial, HM.out⟩
 ·rintro l a W ⟨m0, m1, m2, m3, m4, m5, m6, m7, m8, m9, rfl, rfl, _, hm⟩ hall
  cases (hall 0 (by decide) : m0 = true)
  cases (hall 1 (by decide) : m1 = true)
  cases (hall 2 (by decide) : m2 = true)
  cases (hall 3 (by decide) : m3 = true)
  cases (hall 4 (by decide) : m4 = true)
  cases (hall 5 (by decide) : m5 = true)
  cases (hall 6 (by decide) : m6 = true)
  cases (hall 7 (by decide) : m7 = true)
  cases (hall 8 (by decide) : m8 = true)
  cases (hall 9 (by decide) : m9 = true)
  clear hall
  have hq := hm
  clear hm
  have z0 := (hq.at_ 1 rfl).cell 0
  have z1 := (hq.at_ 1 rfl).cell 1
  have z2 := (hq.at_ 1 rfl).cell 2
  have z3 := (hq.at_ 1 rfl).cell 3
  simp only [cond_true, List.getElem?_cons_succ, List.getElem?_cons_zero] at z0 z1 z2 z3
  have HB := Lib.hid hq.below
  clear hq
  dsimp only [cwX, cond_true]
  go_wp2
  exact bodyPost_ret (v := .tuple #[ovv u0 u1 u2 u3, .bool true]) (by simp [results, Tryz.results36, go_sem, z0, z1, z2, z3]) rfl ⟨rfl, HB.out⟩
end Go.Proofs.YtlmheeommpbimaaGreatDoor
namespace Go.Proofs.YtlmheeommpbimaaGreatDoor
open Go.RowKit
set_option maxRecDepth 1000000 in
set_option maxHeartbeats 4000000 in
theorem lbetween_no1 (C : Nat → Tm) (m n m' n' : Nat) (a0 a1 a2 a3 b0 b1 b2 b3 : Int) (b : Bool) (w : World) (hm : m < 1000) (hn : n < 1000) (hm' : m % 12 = m') (hn' : n % 12 = n') (ht : Tab w)
  (hNA : ∀ W, Tab W → Calls Tryz.prog 36 #[.agg (cirL C).toArray, .int .i64 (m' : Int)] W fun e w' => e = .returned (.tuple #[ovv a0 a1 a2 a3, .bool false]) ∧ Below W.heap.size W w')
  (hNB : ∀ W, Tab W → Calls Tryz.prog 36 #[.agg (cirL C).toArray, .int .i64 (n' : Int)] W fun e w' => e = .returned (.tuple #[ovv b0 b1 b2 b3, .bool b]) ∧ Below W.heap.size W w') :
  Calls Tryz.prog 37 #[.agg (cirL C).toArray, .int .i64 (m : Int), .int .i64 (n : Int)] w fun e w' => e = .returned (.tuple #[ovv 0 0 0 1, .bool false]) ∧ Below w.heap.size w w' := by
 have HNA := Lib.hid hNA
 have HNB := Lib.hid hNB
 have HT := Lib.hid ht
 obtain ⟨x, hx⟩ : ∃ x : Int, x = (m : Int) := ⟨_, rfl⟩
 obtain ⟨y, hy⟩ : ∃ y : Int, y = (n : Int) := ⟨_, rfl⟩
 obtain ⟨x', hx'⟩ : ∃ x : Int, x = (m' : Int) := ⟨_, rfl⟩
 obtain ⟨y', hy'⟩ : ∃ y : Int, y = (n' : Int) := ⟨_, rfl⟩
 have tx : x.tmod 12 = x' := by rw [Int.tmod_eq_emod_of_nonneg (by omega)]; omega
 have ty : y.tmod 12 = y' := by rw [Int.tmod_eq_emod_of_nonneg (by omega)]; omega
 have wx : IntKind.i64.wrap x' = x' := IntWalk.i64_in _ (by omega)
 have wy : IntKind.i64.wrap y' = y' := IntWalk.i64_in _ (by omega)
 rw [← hx'] at HNA
 rw [← hy'] at HNB
 rw [← hx, ← hy]
 clear hx hy hx' hy' hm hn hm' hn' ht hNA hNB
 have hm0 := ((Hp.start w).new 33 (cirL C)).new 45 [.int .i64 0, .int .i64 0, .int .i64 0, .int .i64 0]
 simp only [World.size_alloc, List.nil_append, List.cons_append] at hm0
 have HM0 := Lib.hid hm0
 clear hm0
 go_enter Tryz.func37, Tryz.ntmps37
 go_wp2_with (refine wpList_load_row rfl 33 _ rfl (w.heap.size) rfl 33 (cirL C).toArray (0, 0) _ (HM0.out.at_ 0 rfl) Tryz.underlying33 rfl (by rw [infoCircle, List.size_toArray, cirL_len]) ?_)
 refine (HNA.out _ (HT.out.below HM0.out.below)).mono ?_
 rintro e w1 ⟨rfl, hb1⟩
 have hm1 := (HM0.out.step hb1).new 45 [.int .i64 a0, .int .i64 a1, .int .i64 a2, .int .i64 a3]
 simp only [List.nil_append, List.cons_append] at hm1
 have HM1 := Lib.hid hm1
 clear hb1 hm1
 go_wp2_with (refine wpList_load_row rfl 33 _ rfl (w.heap.size) rfl 33 (cirL C).toArray (0, 0) _ (HM1.out.at_ 0 rfl) Tryz.underlying33 rfl (by rw [infoCircle, List.size_toArray, cirL_len]) ?_)
 refine (HNB.out _ (HT.out.below HM1.out.below)).mono ?_
 rintro e w2 ⟨rfl, hb2⟩
 have hq := (HM1.out.step hb2).new 45 [.int .i64 b0, .int .i64 b1, .int .i64 b2, .int .i64 b3]
 simp only [List.nil_append, List.cons_append] at hq
 clear hb2
 have z0 := (hq.at_ 1 rfl).cell 0
 have f0 := (hq.at_ 1 rfl).frozen 0
 have z1 := (hq.at_ 1 rfl).cell 1
 have f1 := (hq.at_ 1 rfl).frozen 1
 have z2 := (hq.at_ 1 rfl).cell 2
 have f2 := (hq.at_ 1 rfl).frozen 2
 have z3 := (hq.at_ 1 rfl).cell 3
 have f3 := (hq.at_ 1 rfl).frozen 3
 simp only [List.getElem?_cons_succ, List.getElem?_cons_zero] at z0 z1 z2 z3
 have HB := Lib.hid (hq.put4 1 rfl (.int .i64 0) (.int .i64 0) (.int .i64 0) (.int .i64 1)).below
 clear hq
 go_wp2
 exact bodyPost_ret (v := .tuple #[ovv 0 0 0 1, .bool false]) (by simp [results, Tryz.results37, go_sem, z0, z1, z2, z3, f0, f1, f2, f3]) rfl ⟨rfl, HB.out⟩
set_option maxRecDepth 1000000 in
set_option maxHeartbeats 4000000 in
theorem lbetween_no2 (C : Nat → Tm) (m n m' n' : Nat) (a0 a1 a2 a3 b0 b1 b2 b3 : Int) (w : World) (hm : m < 1000) (hn : n < 1000) (hm' : m % 12 = m') (hn' : n % 12 = n') (ht : Tab w)
  (hNA : ∀ W, Tab W → Calls Tryz.prog 36 #[.agg (cirL C).toArray, .int .i64 (m' : Int)] W fun e w' => e = .returned (.tuple #[ovv a0 a1 a2 a3, .bool true]) ∧ Below W.heap.size W w')
  (hNB : ∀ W, Tab W → Calls Tryz.prog 36 #[.agg (cirL C).toArray, .int .i64 (n' : Int)] W fun e w' => e = .returned (.tuple #[ovv b0 b1 b2 b3, .bool false]) ∧ Below W.heap.size W w') :
  Calls Tryz.prog 37 #[.agg (cirL C).toArray, .int .i64 (m : Int), .int .i64 (n : Int)] w fun e w' => e = .returned (.tuple #[ovv 0 0 0 1, .bool false]) ∧ Below w.heap.size w w' := by
 have HNA := Lib.hid hNA
 have HNB := Lib.hid hNB
 have HT := Lib.hid ht
 obtain ⟨x, hx⟩ : ∃ x : Int, x = (m : Int) := ⟨_, rfl⟩
 obtain ⟨y, hy⟩ : ∃ y : Int, y = (n : Int) := ⟨_, rfl⟩
 obtain ⟨x', hx'⟩ : ∃ x : Int, x = (m' : Int) := ⟨_, rfl⟩
 obtain ⟨y', hy'⟩ : ∃ y : Int, y = (n' : Int) := ⟨_, rfl⟩
 have tx : x.tmod 12 = x' := by rw [Int.tmod_eq_emod_of_nonneg (by omega)]; omega
 have ty : y.tmod 12 = y' := by rw [Int.tmod_eq_emod_of_nonneg (by omega)]; omega
 have wx : IntKind.i64.wrap x' = x' := IntWalk.i64_in _ (by omega)
 have wy : IntKind.i64.wrap y' = y' := IntWalk.i64_in _ (by omega)
 rw [← hx'] at HNA
 rw [← hy'] at HNB
 rw [← hx, ← hy]
 clear hx hy hx' hy' hm hn hm' hn' ht hNA hNB
 have hm0 := ((Hp.start w).new 33 (cirL C)).new 45 [.int .i64 0, .int .i64 0, .int .i64 0, .int .i64 0]
 simp only [World.size_alloc, List.nil_append, List.cons_append] at hm0
 have HM0 := Lib.hid hm0
 clear hm0
 go_enter Tryz.func37, Tryz.ntmps37
 go_wp2_with (refine wpList_load_row rfl 33 _ rfl (w.heap.size) rfl 33 (cirL C).toArray (0, 0) _ (HM0.out.at_ 0 rfl) Tryz.underlying33 rfl (by rw [infoCircle, List.size_toArray, cirL_len]) ?_)
 refine (HNA.out _ (HT.out.below HM0.out.below)).mono ?_
 rintro e w1 ⟨rfl, hb1⟩
 have hm1 := (HM0.out.step hb1).new 45 [.int .i64 a0, .int .i64 a1, .int .i64 a2, .int .i64 a3]
 simp only [List.nil_append, List.cons_append] at hm1
 have HM1 := Lib.hid hm1
 clear hb1 hm1
 go_wp2_with (refine wpList_load_row rfl 33 _ rfl (w.heap.size) rfl 33 (cirL C).toArray (0, 0) _ (HM1.out.at_ 0 rfl) Tryz.underlying33 rfl (by rw [infoCircle, List.size_toArray, cirL_len]) ?_)
 refine (HNB.out _ (HT.out.below HM1.out.below)).mono ?_
 rintro e w2 ⟨rfl, hb2⟩
 have hq := (HM1.out.step hb2).new 45 [.int .i64 b0, .int .i64 b1, .int .i64 b2, .int .i64 b3]
 simp only [List.nil_append, List.cons_append] at hq
 clear hb2
 have z0 := (hq.at_ 1 rfl).cell 0
 have f0 := (hq.at_ 1 rfl).frozen 0
 have z1 := (hq.at_ 1 rfl).cell 1
 have f1 := (hq.at_ 1 rfl).frozen 1
 have z2 := (hq.at_ 1 rfl).cell 2
 have f2 := (hq.at_ 1 rfl).frozen 2
 have z3 := (hq.at_ 1 rfl).cell 3
 have f3 := (hq.at_ 1 rfl).frozen 3
 simp only [List.getElem?_cons_succ, List.getElem?_cons_zero] at z0 z1 z2 z3
 have HB := Lib.hid (hq.put4 1 rfl (.int .i64 0) (.int .i64 0) (.int .i64 0) (.int .i64 1)).below
 clear hq
 go_wp2
 exact bodyPost_ret (v := .tuple #[ovv 0 0 0 1, .bool false]) (by simp [results, Tryz.results37, go_sem, z0, z1, z2, z3, f0, f1, f2, f3]) rfl ⟨rfl, HB.out⟩
set_option maxRecDepth 1000000 in
set_option maxHeartbeats 4000000 in
theorem lbetween_ok (C : Nat → Tm) (m n m' n' : Nat) (a0 a1 a2 a3 b0 b1 b2 b3 g p0 p1 p2 p3 q0 q1 q2 q3 u0 u1 u2 u3 : Int) (w : World) (hm : m < 1000) (hn : n < 1000) (hm' : m % 12 = m') (hn' : n % 12 = n') (hg : ((n / 12 : Nat) : Int) - ((m / 12 : Nat) : Int) = g) (ht : Tab w)
  (hNA : ∀ W, Tab W → Calls Tryz.prog 36 #[.agg (cirL C).toArray, .int .i64 (m' : Int)] W fun e w' => e = .returned (.tuple #[ovv a0 a1 a2 a3, .bool true]) ∧ Below W.heap.size W w')
  (hNB : ∀ W, Tab W → Calls Tryz.prog 36 #[.agg (cirL C).toArray, .int .i64 (n' : Int)] W fun e w' => e = .returned (.tuple #[ovv b0 b1 b2 b3, .bool true]) ∧ Below W.heap.size W w')
  (hAP : ∀ W, Calls Tryz.prog 19 #[ovv b0 b1 b2 b3, ovv a0 a1 a2 a3, .int .i64 (-1)] W fun e w' => e = .returned (ovv p0 p1 p2 p3) ∧ Below W.heap.size W w')
  (hAQ : ∀ W, Calls Tryz.prog 19 #[ovv p0 p1 p2 p3, ovv g 0 0 1, .int .i64 1] W fun e w' => e = .returned (ovv q0 q1 q2 q3) ∧ Below W.heap.size W w')
  (hOV : ∀ W, Calls Tryz.prog 18 #[ovv q0 q1 q2 q3] W fun e w' => e = .returned (.tuple #[ovv u0 u1 u2 u3, .bool true]) ∧ Below W.heap.size W w') :
  Calls Tryz.prog 37 #[.agg (cirL C).toArray, .int .i64 (m : Int), .int .i64 (n : Int)] w fun e w' => e = .returned (.tuple #[ovv u0 u1 u2 u3, .bool true]) ∧ Below w.heap.size w w' := by
 have HNA := Lib.hid hNA
 have HNB := Lib.hid hNB
 have HT := Lib.hid ht
 have HAP := Lib.hid hAP
 have HAQ := Lib.hid hAQ
 have HOV := Lib.hid hOV
 have HLO := Lib.hid (fun W => loctaves_any g W)
 obtain ⟨x, hx⟩ : ∃ x : Int, x = (m : Int) := ⟨_, rfl⟩
 obtain ⟨y, hy⟩ : ∃ y : Int, y = (n : Int) := ⟨_, rfl⟩
 obtain ⟨x', hx'⟩ : ∃ x : Int, x = (m' : Int) := ⟨_, rfl⟩
 obtain ⟨y', hy'⟩ : ∃ y : Int, y = (n' : Int) := ⟨_, rfl⟩
 have tx : x.tmod 12 = x' := by rw [Int.tmod_eq_emod_of_nonneg (by omega)]; omega
 have ty : y.tmod 12 = y' := by rw [Int.tmod_eq_emod_of_nonneg (by omega)]; omega
 have wx : IntKind.i64.wrap x' = x' := IntWalk.i64_in _ (by omega)
 have wy : IntKind.i64.wrap y' = y' := IntWalk.i64_in _ (by omega)
 obtain ⟨c, hc⟩ : ∃ c : Int, c = ((m / 12 : Nat) : Int) := ⟨_, rfl⟩
 obtain ⟨d, hd⟩ : ∃ d : Int, d = ((n / 12 : Nat) : Int) := ⟨_, rfl⟩
 have qx : x.tdiv 12 = c := by rw [Int.tdiv_eq_ediv_of_nonneg (by omega)]; omega
 have qy : y.tdiv 12 = d := by rw [Int.tdiv_eq_ediv_of_nonneg (by omega)]; omega
 have wc : IntKind.i64.wrap c = c := IntWalk.i64_in _ (by omega)
 have wd : IntKind.i64.wrap d = d := IntWalk.i64_in _ (by omega)
 have gd : d - c = g := by rw [hc, hd, hg]
 have wg : IntKind.i64.wrap (d - c) = g := by rw [gd]; exact IntWalk.i64_in _ (by omega)
 rw [← hx'] at HNA
 rw [← hy'] at HNB
 rw [← hx, ← hy]
 clear hx hy hx' hy' hm hn hm' hn' ht hNA hNB hc hd hg hAP hAQ hOV gd
 have hm0 := ((Hp.start w).new 33 (cirL C)).new 45 [.int .i64 0, .int .i64 0, .int .i64 0, .int .i64 0]
 simp only [World.size_alloc, List.nil_append, List.cons_append] at hm0
 have HM0 := Lib.hid hm0
 clear hm0
 go_enter Tryz.func37, Tryz.ntmps37
 go_wp2_with (refine wpList_load_row rfl 33 _ rfl (w.heap.size) rfl 33 (cirL C).toArray (0, 0) _ (HM0.out.at_ 0 rfl) Tryz.underlying33 rfl (by rw [infoCircle, List.size_toArray, cirL_len]) ?_)
 refine (HNA.out _ (HT.out.below HM0.out.below)).mono ?_
 rintro e w1 ⟨rfl, hb1⟩
 have hm1 := (HM0.out.step hb1).new 45 [.int .i64 a0, .int .i64 a1, .int .i64 a2, .int .i64 a3]
 simp only [List.nil_append, List.cons_append] at hm1
 have HM1 := Lib.hid hm1
 clear hb1 hm1
 go_wp2_with (refine wpList_load_row rfl 33 _ rfl (w.heap.size) rfl 33 (cirL C).toArray (0, 0) _ (HM1.out.at_ 0 rfl) Tryz.underlying33 rfl (by rw [infoCircle, List.size_toArray, cirL_len]) ?_)
 refine (HNB.out _ (HT.out.below HM1.out.below)).mono ?_
 rintro e w2 ⟨rfl, hb2⟩
 have hq := (HM1.out.step hb2).new 45 [.int .i64 b0, .int .i64 b1, .int .i64 b2, .int .i64 b3]
 simp only [List.nil_append, List.cons_append] at hq
 clear hb2
 have HM2 := Lib.hid hq
 have v0 := (hq.at_ 2 rfl).cell 0
 have r0 := (hq.at_ 3 rfl).cell 0
 have v1 := (hq.at_ 2 rfl).cell 1
 have r1 := (hq.at_ 3 rfl).cell 1
 have v2 := (hq.at_ 2 rfl).cell 2
 have r2 := (hq.at_ 3 rfl).cell 2
 have v3 := (hq.at_ 2 rfl).cell 3
 have r3 := (hq.at_ 3 rfl).cell 3
 simp only [List.getElem?_cons_succ, List.getElem?_cons_zero] at v0 v1 v2 v3 r0 r1 r2 r3
 clear hq
 go_wp2_with fail
 refine (HAP.out _).mono ?_
 rintro e w3 ⟨rfl, hb3⟩
 have HM3 := Lib.hid (HM2.out.step hb3)
 clear hb3 v0 v1 v2 v3 r0 r1 r2 r3
 go_wp2_with fail
 refine (HLO.out _).mono ?_
 rintro e w4 ⟨rfl, hb4⟩
 have HM4 := Lib.hid (HM3.out.step hb4)
 clear hb4
 go_wp2_with fail
 refine (HAQ.out _).mono ?_
 rintro e w5 ⟨rfl, hb5⟩
 have HM5 := Lib.hid (HM4.out.step hb5)
 clear hb5
 go_wp2_with fail
 refine (HOV.out _).mono ?_
 rintro e w6 ⟨rfl, hb6⟩
 have hq := HM5.out.step hb6
 clear hb6
 have z0 := (hq.at_ 1 rfl).cell 0
 have f0 := (hq.at_ 1 rfl).frozen 0
 have z1 := (hq.at_ 1 rfl).cell 1
 have f1 := (hq.at_ 1 rfl).frozen 1
 have z2 := (hq.at_ 1 rfl).cell 2
 have f2 := (hq.at_ 1 rfl).frozen 2
 have z3 := (hq.at_ 1 rfl).cell 3
 have f3 := (hq.at_ 1 rfl).frozen 3
 simp only [List.getElem?_cons_succ, List.getElem?_cons_zero] at z0 z1 z2 z3
 have HB := Lib.hid (hq.put4 1 rfl (.int .i64 u0) (.int .i64 u1) (.int .i64 u2) (.int .i64 u3)).below
 clear hq
 go_wp2
 exact bodyPost_ret (v := .tuple #[ovv u0 u1 u2 u3, .bool true]) (by simp [results, Tryz.results37, go_sem, z0, z1, z2, z3, f0, f1, f2, f3]) rfl ⟨rfl, HB.out⟩
end Go.Proofs.YtlmheeommpbimaaGreatDoor
namespace Go.Proofs.YtlmheeommpbimaaGreatDoor
open Go.RowKit
abbrev nr3 (d : Int) (v : Int × Int × Int) : Int × Int × Int × Int := nrm v.1 v.2.1 v.2.2 d
def lnB (d : Int) (P S : Nat → Int) (n : Nat) : Bool := shB (nr3 d (vS d P S (7 * n % 12))).1 (nr3 d (vS d P S (7 * n % 12))).2.1 (nr3 d (vS d P S (7 * n % 12))).2.2.1
def lnV (d : Int) (P S : Nat → Int) (n : Nat) : Int × Int × Int × Int := if lnB d P S n = true then nr3 d (vN d P S n) else nr3 d (vS d P S (7 * n % 12))
def lbB (d : Int) (P S : Nat → Int) (m n : Nat) : Bool := lnB d P S (m % 12) && lnB d P S (n % 12)
def lbV (d : Int) (P S : Nat → Int) (m n : Nat) : Int × Int × Int × Int := if lbB d P S m n = true then nr3 d (vB d P S m n) else (0, 0, 0, 1)
section
variable {d : Int} {P S : Nat → Int} (h : PlnC d P S)
include h
theorem lnote_pl {n : Nat} (hn : n < 12) (w : World) (ht : Tab w) :
  Calls Tryz.prog 36 #[.agg (cirL (cirP d P S)).toArray, .int .i64 (n : Int)] w fun e w' => e = .returned (.tuple #[ovn (lnV d P S n), .bool (lnB d P S n)]) ∧ Below w.heap.size w w' := by
 have hd := h.d
 have hk : 7 * n % 12 ≤ 12 := by omega
 have hvb := vS_bd h (7 * n % 12) hk
 have hV := nrm_ok (d := d) (by omega) (vS_Bx h (k := 7 * n % 12) hk)
 have hVb := hV.bd (vS_Bx h (k := 7 * n % 12) hk)
 have hN := vN_Bx h n
 have hVd := hV.den
 unfold Bx at hVb
 have hSU := fun W => lsum_pl h (n := 7 * n % 12) hk W
 have hSH := fun W => lshort41_any (nr3 d (vS d P S (7 * n % 12))).1 (nr3 d (vS d P S (7 * n % 12))).2.1 (nr3 d (vS d P S (7 * n % 12))).2.2.1 (nr3 d (vS d P S (7 * n % 12))).2.2.2 W (by dsimp only [nr3]; omega) (by dsimp only [nr3]; omega) (by dsimp only [nr3]; omega)
 have hB : lnB d P S n = shB (nr3 d (vS d P S (7 * n % 12))).1 (nr3 d (vS d P S (7 * n % 12))).2.1 (nr3 d (vS d P S (7 * n % 12))).2.2.1 := rfl
 rw [← hB] at hSH
 cases hb : lnB d P S n with
 | false =>
  have e : lnV d P S n = nr3 d (vS d P S (7 * n % 12)) := by unfold lnV; rw [if_neg (by rw [hb]; decide)]
  rw [e]
  rw [hb] at hSH
  exact lnote_long (cirP d P S) n (7 * n % 12) _ _ _ _ w ht hn rfl hSU hSH
 | true =>
  have e : lnV d P S n = nr3 d (vN d P S n) := by unfold lnV; rw [if_pos hb]
  rw [e]
  rw [hb] at hSH hB
  have hs9 := of_decide_eq_true hB.symm
  have hoc := oc_same (vS d P S (7 * n % 12)).1 (vS d P S (7 * n % 12)).2.1 (vS d P S (7 * n % 12)).2.2 d (by omega) hVd.1 hV.ex hV.ey hV.ez
  have hnr := oc_near hd (x := (vS d P S (7 * n % 12)).1) (y := (vS d P S (7 * n % 12)).2.1) (z := (vS d P S (7 * n % 12)).2.2) (by omega) (by omega) (by omega)
  have hOC := fun W (hT : Tab W) => refoct_any (nr3 d (vS d P S (7 * n % 12))).1 (nr3 d (vS d P S (7 * n % 12))).2.1 (nr3 d (vS d P S (7 * n % 12))).2.2.1 (nr3 d (vS d P S (7 * n % 12))).2.2.2 W hT hs9.1 hs9.2.1 hs9.2.2 ⟨hVd.1, by dsimp only [nr3]; omega⟩
  rw [hoc] at hOC
  have hvN : vN d P S n = ((vS d P S (7 * n % 12)).1 - d * ocZ (vS d P S (7 * n % 12)).1 (vS d P S (7 * n % 12)).2.1 (vS d P S (7 * n % 12)).2.2 d, (vS d P S (7 * n % 12)).2.1, (vS d P S (7 * n % 12)).2.2) := rfl
  have a0 := fun o : Int => add_cross (U := o) (u := d * o) (E := 1) (k := -1) hV.ex (by rw [Int.mul_one, Int.mul_comm])
  have a1 := add_cross (U := 0) (u := 0) (E := 1) (k := -1) hV.ey (by rw [Int.zero_mul, Int.zero_mul])
  have a2 := add_cross (U := 0) (u := 0) (E := 1) (k := -1) hV.ez (by rw [Int.zero_mul, Int.zero_mul])
  have a0 := a0 (ocZ (vS d P S (7 * n % 12)).1 (vS d P S (7 * n % 12)).2.1 (vS d P S (7 * n % 12)).2.2 d)
  rw [hvN] at hN ⊢
  generalize ocZ (vS d P S (7 * n % 12)).1 (vS d P S (7 * n % 12)).2.1 (vS d P S (7 * n % 12)).2.2 d = o at *
  have hob : -6000 ≤ o ∧ o ≤ 6000 := by
   constructor
   ·by_cases c : -6000 ≤ o
    ·exact c
    ·have : d * o ≤ 1 * o := Int.mul_le_mul_of_nonpos_right (by omega) (by omega)
     omega
   ·by_cases c : o ≤ 6000
    ·exact c
    ·have : 1 * o ≤ d * o := Int.mul_le_mul_of_nonneg_right (by omega) (by omega)
     omega
  rw [show (vS d P S (7 * n % 12)).1 + -1 * (d * o) = (vS d P S (7 * n % 12)).1 - d * o by omega] at a0
  rw [show (vS d P S (7 * n % 12)).2.1 + -1 * 0 = (vS d P S (7 * n % 12)).2.1 by omega] at a1
  rw [show (vS d P S (7 * n % 12)).2.2 + -1 * 0 = (vS d P S (7 * n % 12)).2.2 by omega] at a2
  dsimp only [nr3] at hs9 hSH hOC ⊢
  have q := fun X U : Int => fun (hx : -6000 ≤ X ∧ X ≤ 6000) (hu : -6000 ≤ U ∧ U ≤ 6000) => (radd_bd (x := X) (u := U) (D := (nrm (vS d P S (7 * n % 12)).1 (vS d P S (7 * n % 12)).2.1 (vS d P S (7 * n % 12)).2.2 d).2.2.2) (E := 1) (k := -1) (by omega) (by omega) (by omega) (by omega) (.inr rfl)).2.2.2.2
  have q0 := q _ o hVb.1 hob
  have q1 := q _ 0 hVb.2.1 (by decide)
  have q2 := q _ 0 hVb.2.2 (by decide)
  exact lnote_short (cirP d P S) n (7 * n % 12) _ _ _ _ o _ _ _ _ _ _ _ _ w ht hn rfl hSU hSH hOC (fun W => radd_any _ _ _ _ o 0 0 1 (-1) W (by omega) (by omega) (by omega) (by omega) (by omega) (by omega) (by omega) (by omega) (.inr rfl)) (fun W => lover_at W (by omega) hN (by omega) (by omega) (by omega) (by omega) a0 a1 a2)
theorem lbetween_pl {m n : Nat} (hm : m < 200) (hn : n < 200) (w : World) (ht : Tab w) :
  Calls Tryz.prog 37 #[.agg (cirL (cirP d P S)).toArray, .int .i64 (m : Int), .int .i64 (n : Int)] w fun e w' => e = .returned (.tuple #[ovn (lbV d P S m n), .bool (lbB d P S m n)]) ∧ Below w.heap.size w w' := by
 have hd := h.d
 have hA := fun W hT => lnote_pl h (n := m % 12) (by omega) W hT
 have hB := fun W hT => lnote_pl h (n := n % 12) (by omega) W hT
 cases h1 : lnB d P S (m % 12) with
 | false =>
  have e : lbB d P S m n = false := by unfold lbB; rw [h1]; rfl
  have ev : lbV d P S m n = (0, 0, 0, 1) := by unfold lbV; rw [if_neg (by rw [e]; decide)]
  rw [e, ev]
  rw [h1] at hA
  exact lbetween_no1 (cirP d P S) m n (m % 12) (n % 12) _ _ _ _ _ _ _ _ _ w (by omega) (by omega) rfl rfl ht hA hB
 | true =>
  rw [h1] at hA
  cases h2 : lnB d P S (n % 12) with
  | false =>
   have e : lbB d P S m n = false := by unfold lbB; rw [h1, h2]; rfl
   have ev : lbV d P S m n = (0, 0, 0, 1) := by unfold lbV; rw [if_neg (by rw [e]; decide)]
   rw [e, ev]
   rw [h2] at hB
   exact lbetween_no2 (cirP d P S) m n (m % 12) (n % 12) _ _ _ _ _ _ _ _ w (by omega) (by omega) rfl rfl ht hA hB
  | true =>
   have e : lbB d P S m n = true := by unfold lbB; rw [h1, h2]; rfl
   have ev : lbV d P S m n = nr3 d (vB d P S m n) := by unfold lbV; rw [if_pos e]
   have ea : lnV d P S (m % 12) = nr3 d (vN d P S (m % 12)) := by unfold lnV; rw [if_pos h1]
   have eb : lnV d P S (n % 12) = nr3 d (vN d P S (n % 12)) := by unfold lnV; rw [if_pos h2]
   rw [e, ev]
   rw [h2, eb] at hB
   rw [ea] at hA
   have hVA := nrm_ok (d := d) (by omega) (vN_Bx h (m % 12))
   have hVB := nrm_ok (d := d) (by omega) (vN_Bx h (n % 12))
   have hba := hVA.bd (vN_Bx h (m % 12))
   have hbb := hVB.bd (vN_Bx h (n % 12))
   have hda := hVA.den
   have hdb := hVB.den
   have hX := vB_Bx h hm hn
   obtain ⟨g, hg⟩ : ∃ g : Int, ((n / 12 : Nat) : Int) - ((m / 12 : Nat) : Int) = g := ⟨_, rfl⟩
   have a0 := add_cross (k := -1) hVB.ex hVA.ex
   have a1 := add_cross (k := -1) hVB.ey hVA.ey
   have a2 := add_cross (k := -1) hVB.ez hVA.ez
   have c0 := add_cross (U := g) (u := d * g) (E := 1) (k := 1) a0 (by rw [Int.mul_one, Int.mul_comm])
   have c1 := add_cross (U := 0) (u := 0) (E := 1) (k := 1) a1 (by rw [Int.zero_mul, Int.zero_mul])
   have c2 := add_cross (U := 0) (u := 0) (E := 1) (k := 1) a2 (by rw [Int.zero_mul, Int.zero_mul])
   have hdg : d * g = d * ((n / 12 : Nat) : Int) - d * ((m / 12 : Nat) : Int) := by rw [← hg, Int.mul_sub]
   rw [show (vN d P S (n % 12)).1 + -1 * (vN d P S (m % 12)).1 + 1 * (d * g) = (vB d P S m n).1 by simp only [vB, vP]; omega] at c0
   rw [show (vN d P S (n % 12)).2.1 + -1 * (vN d P S (m % 12)).2.1 + 1 * 0 = (vB d P S m n).2.1 by simp only [vB, vP]; omega] at c1
   rw [show (vN d P S (n % 12)).2.2 + -1 * (vN d P S (m % 12)).2.2 + 1 * 0 = (vB d P S m n).2.2 by simp only [vB, vP]; omega] at c2
   have hgb : -17 ≤ g ∧ g ≤ 17 := by omega
   unfold Bx at hba hbb
   dsimp only [nr3] at hA hB ⊢
   generalize nrm (vN d P S (m % 12)).1 (vN d P S (m % 12)).2.1 (vN d P S (m % 12)).2.2 d = u at *
   generalize nrm (vN d P S (n % 12)).1 (vN d P S (n % 12)).2.1 (vN d P S (n % 12)).2.2 d = v at *
   have bd : ∀ X D : Int, (-6000 ≤ X ∧ X ≤ 6000) → (1 ≤ D ∧ D ≤ 12) → -72000 ≤ X * D ∧ X * D ≤ 72000 := fun X D hx hD => by
    have q1 : (X + 6000) * D ≤ 12000 * 12 := Int.mul_le_mul (by omega) (by omega) (by omega) (by decide)
    have q2 : 0 ≤ (X + 6000) * D := Int.mul_nonneg (by omega) (by omega)
    have q3 : (6000 - X) * D ≤ 12000 * 12 := Int.mul_le_mul (by omega) (by omega) (by omega) (by decide)
    have q4 : 0 ≤ (6000 - X) * D := Int.mul_nonneg (by omega) (by omega)
    rw [Int.add_mul] at q2
    rw [Int.sub_mul] at q4
    omega
   have hE1 : 1 * 1 ≤ v.2.2.2 * u.2.2.2 := Int.mul_le_mul (by omega) (by omega) (by decide) (by omega)
   have hE2 : v.2.2.2 * u.2.2.2 ≤ 12 * 12 := Int.mul_le_mul (by omega) (by omega) (by omega) (by decide)
   have b0 := bd v.1 u.2.2.2 hbb.1 (by omega)
   have b1 := bd v.2.1 u.2.2.2 hbb.2.1 (by omega)
   have b2 := bd v.2.2.1 u.2.2.2 hbb.2.2 (by omega)
   have b3 := bd (-1 * u.1) v.2.2.2 (by omega) (by omega)
   have b4 := bd (-1 * u.2.1) v.2.2.2 (by omega) (by omega)
   have b5 := bd (-1 * u.2.2.1) v.2.2.2 (by omega) (by omega)
   have hAP := fun W => radd_any v.1 v.2.1 v.2.2.1 v.2.2.2 u.1 u.2.1 u.2.2.1 u.2.2.2 (-1) W (by omega) (by omega) (by omega) (by omega) (by omega) (by omega) (by omega) (by omega) (.inr rfl)
   have p0 : -1000000 ≤ v.1 * u.2.2.2 + -1 * u.1 * v.2.2.2 ∧ v.1 * u.2.2.2 + -1 * u.1 * v.2.2.2 ≤ 1000000 := by omega
   have p1 : -1000000 ≤ v.2.1 * u.2.2.2 + -1 * u.2.1 * v.2.2.2 ∧ v.2.1 * u.2.2.2 + -1 * u.2.1 * v.2.2.2 ≤ 1000000 := by omega
   have p2 : -1000000 ≤ v.2.2.1 * u.2.2.2 + -1 * u.2.2.1 * v.2.2.2 ∧ v.2.2.1 * u.2.2.2 + -1 * u.2.2.1 * v.2.2.2 ≤ 1000000 := by omega
   have hAQ := fun W => radd_any _ _ _ (v.2.2.2 * u.2.2.2) g 0 0 1 1 W p0 p1 p2 (by omega) (by omega) (by omega) (by omega) (by omega) (.inl rfl)
   have z := fun X U : Int => fun hx hu => (radd_bd (x := X) (u := U) (D := v.2.2.2 * u.2.2.2) (E := 1) (k := 1) hx hu (by omega) (by omega) (.inl rfl)).2.2.2.2
   have z0 := z _ g p0 (by omega)
   have z1 := z _ 0 p1 (by decide)
   have z2 := z _ 0 p2 (by decide)
   have hOV := fun W => lover_at W (d := d) (by omega) hX (by omega) (by omega) (by omega) (by omega) c0 c1 c2
   exact lbetween_ok (cirP d P S) m n (m % 12) (n % 12) _ _ _ _ _ _ _ _ g _ _ _ _ _ _ _ _ _ _ _ _ w (by omega) (by omega) rfl rfl hg ht hA hB hAP hAQ hOV
end
end Go.Proofs.YtlmheeommpbimaaGreatDoor
namespace Go.Proofs.YtlmheeommpbimaaGreatDoor
section
open Go.RowKit Go.Op
theorem wpList_load_rowW {P : Program} {ops : Array Oper} {rest : List Oper} {o : Oper} {a : Act} {w : World} {Q : Exit → Act → World → Prop} (hw : Region.wanted o (yielded ops a.tmps) = true) (ty : TypeId) (x : Operand) (ho : o.op = .load ty x)
  (g : Nat) (hx : a.eval x = .pointer (some ⟨g, 0, none⟩)) (t : TypeId) (cs : Array Value) (fr : Nat × Nat) (d : TypeDesc) (hg : w.heap[g]? = some (.cells cs t fr))
  (hu : P.underlying ty = some d) (hd : (match d with | .struct _ | .array _ _ => true | _ => false) = true) (hi : (P.info? ty).map (·.size) = some cs.size)
  (h : wpList P ops Q rest (a.put o.dst (.agg cs)) w) : wpList P ops Q (o :: rest) a w :=
 wpList_step fun _ hK => by
  rw [if_pos hw]
  exact wp_load_row ty x ho g hx t cs fr d hg hu hd hi (hK _ _ h)
end
end Go.Proofs.YtlmheeommpbimaaGreatDoor
namespace Go.Proofs.YtlmheeommpbimaaGreatDoor
open Go.RowKit
set_option maxRecDepth 1000000 in
set_option maxHeartbeats 4000000 in
theorem lint_gen (n d : Int) (X : Nat → Int × Int) (C : Nat → Tm) (x0 x1 s0 s1 s2 s3 s4 s5 d0 d1 d2 d3 d4 d5 f wv ge pe ck : Int) (Ls : List Int) (w : World) (ht : Tab w)
  (hMK : ∀ W, Calls Tryz.prog 11 #[.agg (plC n X d).toArray] W fun e w' => e = .returned (.agg (cirL C).toArray) ∧ Below W.heap.size W w')
  (hPU : ∀ W, Tab W → Calls Tryz.prog 32 #[.agg (cirL C).toArray, .int .i64 x0, szv s0 s1 s2 s3 s4 s5] W fun e w' => ∃ (LA : Option Addr) (lc : Nat), e = .returned (.tuple #[.slice LA Ls.length lc, .int .i64 pe]) ∧ Rd i64z w' w'.heap.size LA Ls ∧ Ls.length ≤ lc ∧ Below W.heap.size W w')
  (hER : ∀ W, Tab W → Calls Tryz.prog 33 #[.agg (cirL C).toArray, .int .i64 x1, .int .i64 x0, szv s0 s1 s2 s3 s4 s5] W fun e w' => e = .returned (.tuple #[szv d0 d1 d2 d3 d4 d5, .int .i64 f]) ∧ Below W.heap.size W w')
  (hWI : ∀ W, Tab W → Calls Tryz.prog 34 #[.agg (cirL C).toArray, .int .i64 x0] W fun e w' => e = .returned (.tuple #[.int .i64 wv, .int .i64 ge]) ∧ Below W.heap.size W w')
  (hCK : ∀ W, Calls Tryz.prog 38 #[szv s0 s1 s2 s3 s4 s5] W fun e w' => e = .returned (.int .i64 ck) ∧ Below W.heap.size W w')
  (hOUT : x0 < 0 ∨ 36 < x0 → pe = 3 ∧ Ls = [] ∧ f = 3 ∧ wv = 0 ∧ ge = 3 ∧ d0 = 0 ∧ d1 = 0 ∧ d2 = 0 ∧ d3 = 0 ∧ d4 = 0 ∧ d5 = 0)
  (hWR : 0 ≤ x0 ∧ x0 ≤ 36 → ck ≠ 0 → pe = ck ∧ Ls = [] ∧ (x1 < 0 ∨ 11 < x1 → f = 3 ∧ d0 = 0 ∧ d1 = 0 ∧ d2 = 0 ∧ d3 = 0 ∧ d4 = 0 ∧ d5 = 0) ∧ (0 ≤ x1 ∧ x1 ≤ 11 → f = ck ∧ d0 = 0 ∧ d1 = 0 ∧ d2 = 0 ∧ d3 = 0 ∧ d4 = 0 ∧ d5 = 0))
  (hRG : 0 ≤ x0 ∧ x0 ≤ 36 → ck = 0 → x1 < 0 ∨ 11 < x1 → f = 3 ∧ d0 = 0 ∧ d1 = 0 ∧ d2 = 0 ∧ d3 = 0 ∧ d4 = 0 ∧ d5 = 0)
  (hOK : 0 ≤ x0 ∧ x0 ≤ 36 → ck = 0 → 0 ≤ x1 ∧ x1 ≤ 11 → pe = 0 ∧ ge = 0 ∧ (f = 0 ∨ f = 4) ∧ (∀ W (LA : Option Addr) (lc : Nat), Tab W → Rd i64z W W.heap.size LA Ls → Ls.length ≤ lc → Calls Tryz.prog 39 #[.agg (cirL C).toArray, .agg #[.int .i64 x0, .int .i64 x1], szv s0 s1 s2 s3 s4 s5, .slice LA Ls.length lc, .int .i64 wv] W fun e w' => e = .returned (.bool true) ∧ Below W.heap.size W w') ∧ ∀ W, Tab W → Calls Tryz.prog 40 #[.agg (cirL C).toArray, .agg #[.int .i64 x0, .int .i64 x1], szv s0 s1 s2 s3 s4 s5, szv d0 d1 d2 d3 d4 d5, .int .i64 f] W fun e w' => e = .returned (.bool true) ∧ Below W.heap.size W w') :
  Calls Tryz.prog 9 #[.agg (plC n X d).toArray, .agg #[.int .i64 x0, .int .i64 x1], szv s0 s1 s2 s3 s4 s5] w fun e w' => e = .returned (.bool true) ∧ Below w.heap.size w w' := by
 have HKN := Lib.hid (fun W hT => tknown_any W hT)
 have HT := Lib.hid ht
 have HMK := Lib.hid hMK
 have HPU := Lib.hid hPU
 have HER := Lib.hid hER
 have HWI := Lib.hid hWI
 have HCK := Lib.hid hCK
 have HOUT := Lib.hid hOUT
 have HWR := Lib.hid hWR
 have HRG := Lib.hid hRG
 have HOK := Lib.hid hOK
 obtain ⟨ln, hln⟩ : ∃ n, n = Ls.length := ⟨_, rfl⟩
 rw [← hln] at HPU HOK
 have HLN := Lib.hid hln
 clear ht hMK hPU hER hWI hCK hOUT hWR hRG hOK hln
 have hm0 := (((Hp.start w).new 26 (plC n X d)).new 77 [.int .i64 x0, .int .i64 x1]).new 36 [.int .i64 s0, .int .i64 s1, .int .i64 s2, .int .i64 s3, .int .i64 s4, .int .i64 s5]
 simp only [World.size_alloc, List.nil_append, List.cons_append] at hm0
 have HM0 := Lib.hid hm0
 clear hm0
 go_enter Tryz.func9, Tryz.ntmps9
 go_wp2_with fail
 refine (HKN.out _ (HT.out.below HM0.out.below)).mono ?_
 rintro e w1 ⟨rfl, hb1⟩
 have HM1 := Lib.hid (HM0.out.step hb1)
 clear hb1
 go_wp2_with (refine wpList_load_row rfl 26 _ rfl (w.heap.size) rfl 26 (plC n X d).toArray (0, 0) _ (HM1.out.at_ 0 rfl) Tryz.underlying26 rfl (by rw [infoPlan41, List.size_toArray, pl_len]) ?_)
 refine (HMK.out _).mono ?_
 rintro e w2 ⟨rfl, hb2⟩
 have hm2 := (HM1.out.step hb2).new 33 (cirL (fun _ => (0, 0, 0, 0)))
 simp only [List.nil_append, List.cons_append] at hm2
 have HM2 := Lib.hid hm2
 have hm3 := (hm2.row 3 rfl (cirL C)).cast (L' := [(w.heap.size, 26, plC n X d), (w.heap.size + 1, 77, [.int .i64 x0, .int .i64 x1]), (w.heap.size + 1 + 1, 36, [.int .i64 s0, .int .i64 s1, .int .i64 s2, .int .i64 s3, .int .i64 s4, .int .i64 s5]), (w2.heap.size, 33, cirL C)]) rfl
 have v0 := (hm3.at_ 1 rfl).cell 0
 have v1 := (hm3.at_ 1 rfl).cell 1
 simp only [List.getElem?_cons_succ, List.getElem?_cons_zero] at v0 v1
 obtain ⟨y0', y1', y2', y3', y4', y5'⟩ := six_of (hm3.at_ 2 rfl)
 have HM3 := Lib.hid hm3
 clear hb2 hm2 hm3 v0 v1 y0' y1' y2' y3' y4' y5'
 go_wp2_with (first | (refine wpList_store_rowTo rfl 33 _ _ rfl rfl (w2.heap.size) (cirL C).toArray rfl rfl 33 (cirL (fun _ => (0, 0, 0, 0))).toArray (HM2.out.at_ 3 rfl) (by rw [infoCircle, List.size_toArray, cirL_len]) (by rw [List.size_toArray, List.size_toArray, cirL_len, cirL_len]) (cir_one _) ?_) | (refine wpList_load_row rfl 33 _ rfl (w2.heap.size) rfl 33 (cirL C).toArray (0, 0) _ (HM3.out.at_ 3 rfl) Tryz.underlying33 rfl (by rw [infoCircle, List.size_toArray, cirL_len]) ?_))
 refine wp_regionJ 6 #[false, false, false, false, false, false] (fun l a W => ∃ (m0 m1 m2 m3 m4 m5 : Bool), l = #[m0, m1, m2, m3, m4, m5] ∧ a = ({ tmps := #[.agg (plC n X d).toArray, .agg #[.int .i64 x0, .int .i64 x1], szv s0 s1 s2 s3 s4 s5, .pointer (some ⟨w.heap.size, 0, none⟩), .pointer (some ⟨w.heap.size + 1, 0, none⟩), .pointer (some ⟨w.heap.size + 1 + 1, 0, none⟩), .bool false, .pointer (some ⟨w2.heap.size, 0, none⟩), cwX m4 (.int .i64 x0) (undef), cwX m5 (.int .i64 x1) (undef), undef, undef, undef, undef, undef, undef, undef, undef, .bool true, .bool false, .agg (plC n X d).toArray, .agg (cirL C).toArray, cwX m0 (.pointer (some ⟨w.heap.size + 1, 0, none⟩)) (undef), cwX m1 (.int .i64 x0) (undef), cwX m2 (.pointer (some ⟨w.heap.size + 1, 1, none⟩)) (undef), cwX m3 (.int .i64 x1) (undef), undef, undef, undef, undef, undef, undef, undef, undef, undef, undef, undef, undef, undef, undef, undef, undef, undef, undef, undef, undef, undef, undef, undef, undef, undef, undef, undef, undef, undef, undef, undef, undef, undef, undef, undef, undef, undef, undef, undef, undef, undef, undef, undef, undef, undef, undef, undef, undef, undef, undef, undef, undef, undef, undef, undef, undef, undef, undef, undef, undef, undef, undef, undef, undef, undef, undef, undef, undef, undef, undef, undef, undef, undef, undef, undef, undef, undef, undef, undef, undef, undef, undef, undef, undef, undef, undef, undef, undef, undef, undef, undef, undef, undef, undef, undef, undef, undef, undef, undef, undef, undef, undef, undef, undef, undef, undef, undef, undef, undef, undef, undef, undef, undef, undef, undef], defers := [] } : Act) ∧ (True) ∧ Hp w [(w.heap.size, 26, plC n X d), (w.heap.size + 1, 77, [.int .i64 x0, .int .i64 x1]), (w.heap.size + 1 + 1, 36, [.int .i64 s0, .int .i64 s1, .int .i64 s2, .int .i64 s3, .int .i64 s4, .int .i64 s5]), (w2.heap.size, 33, cirL C)] W) (by kernel_rfl) (by kernel_rfl) (by kernel_rfl) (by kernel_rfl) ?_ ?_ ?_ ?_
 ·rintro l a W ⟨m0, m1, m2, m3, m4, m5, rfl, _⟩
  rfl
 ·exact ⟨false, false, false, false, false, false, rfl, rfl, trivial, HM3.out.drew⟩
 ·rintro l a W i o ⟨m0, m1, m2, m3, m4, m5, rfl, rfl, hi0, hm⟩ ho hun hall K hK
  have hi : i < 6 := (Array.getElem?_eq_some_iff.1 ho).1
  have HM := Lib.hid hm
  have HI := Lib.hid hi0
  clear hm hi0
  rcases (show i = 0 ∨ i = 1 ∨ i = 2 ∨ i = 3 ∨ i = 4 ∨ i = 5 by omega) with rfl | rfl | rfl | rfl | rfl | rfl
  ·cases ho
   simp at hun; subst hun
   clear hall hi
   go_simp
   exact hK.out _ _ ⟨true, m1, m2, m3, m4, m5, rfl, rfl, trivial, HM.out⟩
  ·cases ho
   cases (getBX hall 0 rfl : m0 = true)
   simp at hun; subst hun
   clear hall hi
   have v0 : W.cell? ⟨w.heap.size + 1, 0, none⟩ = some (.int .i64 x0) := (HM.out.at_ 1 rfl).cell 0
   go_simp
   exact hK.out _ _ ⟨true, true, m2, m3, m4, m5, rfl, rfl, trivial, HM.out⟩
  ·cases ho
   simp at hun; subst hun
   clear hall hi
   go_simp
   exact hK.out _ _ ⟨m0, m1, true, m3, m4, m5, rfl, rfl, trivial, HM.out⟩
  ·cases ho
   cases (getBX hall 2 rfl : m2 = true)
   simp at hun; subst hun
   clear hall hi
   have v1 : W.cell? ⟨w.heap.size + 1, 1, none⟩ = some (.int .i64 x1) := (HM.out.at_ 1 rfl).cell 1
   go_simp
   exact hK.out _ _ ⟨m0, m1, true, true, m4, m5, rfl, rfl, trivial, HM.out⟩
  ·cases ho
   cases (getBX hall 1 rfl : m1 = true)
   simp at hun; subst hun
   clear hall hi
   go_simp
   exact hK.out _ _ ⟨m0, true, m2, m3, true, m5, rfl, rfl, trivial, HM.out⟩
  ·cases ho
   cases (getBX hall 3 rfl : m3 = true)
   simp at hun; subst hun
   clear hall hi
   go_simp
   exact hK.out _ _ ⟨m0, m1, m2, true, m4, true, rfl, rfl, trivial, HM.out⟩
 ·rintro l a W ⟨m0, m1, m2, m3, m4, m5, rfl, rfl, _, hm⟩ hall
  cases (hall 0 (by decide) : m0 = true)
  cases (hall 1 (by decide) : m1 = true)
  cases (hall 2 (by decide) : m2 = true)
  cases (hall 3 (by decide) : m3 = true)
  cases (hall 4 (by decide) : m4 = true)
  cases (hall 5 (by decide) : m5 = true)
  clear hall
  have HM4 : Hid (Hp w [(w.heap.size, 26, plC n X d), (w.heap.size + 1, 77, [.int .i64 x0, .int .i64 x1]), (w.heap.size + 1 + 1, 36, [.int .i64 s0, .int .i64 s1, .int .i64 s2, .int .i64 s3, .int .i64 s4, .int .i64 s5]), (w2.heap.size, 33, cirL C)] _) := Lib.hid hm
  obtain ⟨y0', y1', y2', y3', y4', y5'⟩ := six_of (hm.at_ 2 rfl)
  clear hm
  dsimp only [cwX, cond_true]
  go_wp2_with (refine wpList_load_row rfl 33 _ rfl (w2.heap.size) rfl 33 (cirL C).toArray (0, 0) _ (HM4.out.at_ 3 rfl) Tryz.underlying33 rfl (by rw [infoCircle, List.size_toArray, cirL_len]) ?_)
  refine (HPU.out _ (HT.out.below HM4.out.below)).mono ?_
  rintro e w5 ⟨LA, lc, rfl, hrd, hlc, hb5⟩
  have HRD := Lib.hid hrd
  have HLC := Lib.hid hlc
  have hm5 := HM4.out.step hb5
  clear y0' y1' y2' y3' y4' y5'
  obtain ⟨y0', y1', y2', y3', y4', y5'⟩ := six_of (hm5.at_ 2 rfl)
  have HM5 := Lib.hid hm5
  clear hrd hlc hb5 hm5
  go_wp2_with (refine wpList_load_row rfl 33 _ rfl (w2.heap.size) rfl 33 (cirL C).toArray (0, 0) _ (HM5.out.at_ 3 rfl) Tryz.underlying33 rfl (by rw [infoCircle, List.size_toArray, cirL_len]) ?_)
  refine (HER.out _ (HT.out.below HM5.out.below)).mono ?_
  rintro e w6 ⟨rfl, hb6⟩
  have hm6 := (HM5.out.step hb6).new 36 [.int .i64 d0, .int .i64 d1, .int .i64 d2, .int .i64 d3, .int .i64 d4, .int .i64 d5]
  simp only [List.nil_append, List.cons_append] at hm6
  have HRD6 := Lib.hid ((HRD.out.below hb6).below ((bw_new (Below.refl _ w6) (.cells #[.int .i64 d0, .int .i64 d1, .int .i64 d2, .int .i64 d3, .int .i64 d4, .int .i64 d5] 36)).mono hb6.size))
  have hs6 := hb6.size
  have HM6 := Lib.hid hm6
  clear hb6 hm6 y0' y1' y2' y3' y4' y5'
  go_wp2_with (refine wpList_load_row rfl 33 _ rfl (w2.heap.size) rfl 33 (cirL C).toArray (0, 0) _ (HM6.out.at_ 3 rfl) Tryz.underlying33 rfl (by rw [infoCircle, List.size_toArray, cirL_len]) ?_)
  refine (HWI.out _ (HT.out.below HM6.out.below)).mono ?_
  rintro e w7 ⟨rfl, hb7⟩
  have hm7 := HM6.out.step hb7
  have HRD7 := Lib.hid (HRD6.out.below (hb7.mono (by rw [World.size_alloc]; omega)))
  have hs7 := hb7.size
  rw [World.size_alloc] at hs7
  obtain ⟨y0', y1', y2', y3', y4', y5'⟩ := six_of (hm7.at_ 2 rfl)
  have HM7 := Lib.hid hm7
  clear hb7 hm7
  by_cases ho : x0 < 0 ∨ 36 < x0
  ·obtain ⟨rfl, rfl, rfl, rfl, rfl, rfl, rfl, rfl, rfl, rfl, rfl⟩ := HOUT.out ho
   have hln0 : ln = 0 := HLN.out
   subst hln0
   rcases ho with ho | ho
   ·clear HOUT HWR HRG HOK
    go_wp2_with fail
    refine (HCK.out _).mono ?_
    rintro e w8 ⟨rfl, hb8⟩
    have hm8 := HM7.out.step hb8
    have HRD8 := Lib.hid (HRD7.out.below (hb8.mono (by omega)))
    have hs8 := hb8.size
    clear y0' y1' y2' y3' y4' y5'
    obtain ⟨y0', y1', y2', y3', y4', y5'⟩ := six_of (hm8.at_ 2 rfl)
    obtain ⟨z0', z1', z2', z3', z4', z5'⟩ := six_of (hm8.at_ 4 rfl)
    have HM8 := Lib.hid hm8
    have HQ := Lib.hid hm8.below
    clear hb8 hm8
    go_wp2
    exact bodyPost_ret (v := .bool true) (by simp [results, Tryz.results9, go_sem]) rfl ⟨rfl, HQ.out⟩
   ·by_cases ho2 : x0 < 0
    ·exact absurd ho2 (by omega)
    clear HOUT HWR HRG HOK
    go_wp2_with fail
    refine (HCK.out _).mono ?_
    rintro e w8 ⟨rfl, hb8⟩
    have hm8 := HM7.out.step hb8
    have HRD8 := Lib.hid (HRD7.out.below (hb8.mono (by omega)))
    have hs8 := hb8.size
    clear y0' y1' y2' y3' y4' y5'
    obtain ⟨y0', y1', y2', y3', y4', y5'⟩ := six_of (hm8.at_ 2 rfl)
    obtain ⟨z0', z1', z2', z3', z4', z5'⟩ := six_of (hm8.at_ 4 rfl)
    have HM8 := Lib.hid hm8
    have HQ := Lib.hid hm8.below
    clear hb8 hm8
    go_wp2
    exact bodyPost_ret (v := .bool true) (by simp [results, Tryz.results9, go_sem]) rfl ⟨rfl, HQ.out⟩
  have hx : 0 ≤ x0 ∧ x0 ≤ 36 := by omega
  have HWR' := Lib.hid (HWR.out hx)
  have HRG' := Lib.hid (HRG.out hx)
  have HOK' := Lib.hid (HOK.out hx)
  have hx1 : ¬ x0 < 0 := by omega
  have hx2 : ¬ 36 < x0 := by omega
  clear HOUT HWR HRG HOK ho hx
  go_wp2_with fail
  refine (HCK.out _).mono ?_
  rintro e w8 ⟨rfl, hb8⟩
  have hm8 := HM7.out.step hb8
  have HRD8 := Lib.hid (HRD7.out.below (hb8.mono (by omega)))
  have hs8 := hb8.size
  clear y0' y1' y2' y3' y4' y5'
  obtain ⟨y0', y1', y2', y3', y4', y5'⟩ := six_of (hm8.at_ 2 rfl)
  obtain ⟨z0', z1', z2', z3', z4', z5'⟩ := six_of (hm8.at_ 4 rfl)
  have HM8 := Lib.hid hm8
  have HQ := Lib.hid hm8.below
  clear hb8 hm8
  by_cases hck : ck = 0
  ·subst hck
   by_cases hr : x1 < 0 ∨ 11 < x1
   ·obtain ⟨rfl, rfl, rfl, rfl, rfl, rfl, rfl⟩ := HRG'.out rfl hr
    clear HWR' HRG' HOK'
    rcases hr with hr | hr
    ·go_wp2
     exact bodyPost_ret (v := .bool true) (by simp [results, Tryz.results9, go_sem]) rfl ⟨rfl, HQ.out⟩
    ·by_cases hr2 : x1 < 0
     ·exact absurd hr2 (by omega)
     go_wp2
     exact bodyPost_ret (v := .bool true) (by simp [results, Tryz.results9, go_sem]) rfl ⟨rfl, HQ.out⟩
   ·obtain ⟨rfl, rfl, hf, hin, her⟩ := HOK'.out rfl (by omega)
    have HIN := Lib.hid hin
    have HEE := Lib.hid her
    have HF := Lib.hid hf
    have hr1 : ¬ x1 < 0 := by omega
    have hr2 : ¬ 11 < x1 := by omega
    clear HWR' HRG' HOK' hin her hf hr
    have v0 := (HM8.out.at_ 1 rfl).cell 0
    have v1 := (HM8.out.at_ 1 rfl).cell 1
    simp only [List.getElem?_cons_succ, List.getElem?_cons_zero] at v0 v1
    go_wp2_with (refine wpList_load_row rfl 33 _ rfl (w2.heap.size) rfl 33 (cirL C).toArray (0, 0) _ (HM8.out.at_ 3 rfl) Tryz.underlying33 rfl (by rw [infoCircle, List.size_toArray, cirL_len]) ?_)
    refine (HIN.out _ LA lc (HT.out.below HM8.out.below) (HRD8.out.more (by omega)) HLC.out).mono ?_
    rintro e w9 ⟨rfl, hb9⟩
    have hm9 := HM8.out.step hb9
    clear v0 v1 y0' y1' y2' y3' y4' y5' z0' z1' z2' z3' z4' z5'
    have v0 := (hm9.at_ 1 rfl).cell 0
    have v1 := (hm9.at_ 1 rfl).cell 1
    simp only [List.getElem?_cons_succ, List.getElem?_cons_zero] at v0 v1
    obtain ⟨y0', y1', y2', y3', y4', y5'⟩ := six_of (hm9.at_ 2 rfl)
    obtain ⟨z0', z1', z2', z3', z4', z5'⟩ := six_of (hm9.at_ 4 rfl)
    have HM9 := Lib.hid hm9
    clear hb9 hm9
    rcases HF.out with rfl | rfl
    ·go_wp2_with (first | (refine wpList_load_row rfl 33 _ rfl (w2.heap.size) rfl 33 (cirL C).toArray (0, 0) _ (HM9.out.at_ 3 rfl) Tryz.underlying33 rfl (by rw [infoCircle, List.size_toArray, cirL_len]) ?_) | (refine wpList_load_rowW rfl 33 _ rfl (w2.heap.size) rfl 33 (cirL C).toArray (0, 0) _ (HM9.out.at_ 3 rfl) Tryz.underlying33 rfl (by rw [infoCircle, List.size_toArray, cirL_len]) ?_))
     refine (HEE.out _ (HT.out.below HM9.out.below)).mono ?_
     rintro e w10 ⟨rfl, hb10⟩
     have HQ2 := Lib.hid (HM9.out.step hb10).below
     clear hb10
     go_wp2
     exact bodyPost_ret (v := .bool true) (by simp [results, Tryz.results9, go_sem]) rfl ⟨rfl, HQ2.out⟩
    ·go_wp2_with (first | (refine wpList_load_row rfl 33 _ rfl (w2.heap.size) rfl 33 (cirL C).toArray (0, 0) _ (HM9.out.at_ 3 rfl) Tryz.underlying33 rfl (by rw [infoCircle, List.size_toArray, cirL_len]) ?_) | (refine wpList_load_rowW rfl 33 _ rfl (w2.heap.size) rfl 33 (cirL C).toArray (0, 0) _ (HM9.out.at_ 3 rfl) Tryz.underlying33 rfl (by rw [infoCircle, List.size_toArray, cirL_len]) ?_))
     refine (HEE.out _ (HT.out.below HM9.out.below)).mono ?_
     rintro e w10 ⟨rfl, hb10⟩
     have HQ2 := Lib.hid (HM9.out.step hb10).below
     clear hb10
     go_wp2
     exact bodyPost_ret (v := .bool true) (by simp [results, Tryz.results9, go_sem]) rfl ⟨rfl, HQ2.out⟩
  ·obtain ⟨rfl, rfl, h1, h2⟩ := HWR'.out hck
   have hln0 : ln = 0 := HLN.out
   subst hln0
   have H1 := Lib.hid h1
   have H2 := Lib.hid h2
   have hz1 : (pe != 0) = true := by simpa using hck
   have hz2 : (pe == pe) = true := beq_self_eq_true pe
   have hz3 : (pe != pe) = false := by simp
   clear HWR' HRG' HOK' h1 h2 hck
   by_cases hr : x1 < 0
   ·obtain ⟨rfl, rfl, rfl, rfl, rfl, rfl, rfl⟩ := H1.out (.inl hr)
    go_wp2
    exact bodyPost_ret (v := .bool true) (by simp [results, Tryz.results9, go_sem]) rfl ⟨rfl, HQ.out⟩
   ·by_cases hr2 : 11 < x1
    ·obtain ⟨rfl, rfl, rfl, rfl, rfl, rfl, rfl⟩ := H1.out (.inr hr2)
     go_wp2
     exact bodyPost_ret (v := .bool true) (by simp [results, Tryz.results9, go_sem]) rfl ⟨rfl, HQ.out⟩
    ·obtain ⟨rfl, rfl, rfl, rfl, rfl, rfl, rfl⟩ := H2.out (by omega)
     go_wp2
     exact bodyPost_ret (v := .bool true) (by simp [results, Tryz.results9, go_sem]) rfl ⟨rfl, HQ.out⟩
end Go.Proofs.YtlmheeommpbimaaGreatDoor
