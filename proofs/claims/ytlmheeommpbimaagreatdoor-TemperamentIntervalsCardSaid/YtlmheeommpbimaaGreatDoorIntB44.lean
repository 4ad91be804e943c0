/- Part 44 of 46 of the proof of the law: contracts of the functions that it reaches, and plain facts. Conditions: those that each contract names. -/
import Derived.Test.YtlmheeommpbimaaGreatDoorIntB39
import Derived.Test.YtlmheeommpbimaaGreatDoorIntB42
import Derived.Test.YtlmheeommpbimaaGreatDoorIntB35
import Derived.RegionTactic
import Derived.Deep.DeepCutAuto
namespace Go.Proofs.YtlmheeommpbimaaGreatDoor
open Go.RowKit
set_option maxRecDepth 1000000 in
set_option maxHeartbeats 4000000 in
theorem lover_all (n0 n1 n2 n3 s0 s1 s2 s3 s4 s5 g0 g1 g2 g3 er : Int) (b0 b1 b2 : Bool) (w : World) (hW : ∀ W, Calls Tryz.prog 52 #[ovv n0 n1 n2 n3] W fun e w' => e = .returned (szv s0 s1 s2 s3 s4 s5) ∧ Below W.heap.size W w')
  (hb0 : rightB s0 s1 = b0) (hb1 : rightB s2 s3 = b1) (hb2 : rightB s4 s5 = b2)
  (hD : b0 = true → b1 = true → b2 = true → ∀ W, Calls Tryz.prog 54 #[szv s0 s1 s2 s3 s4 s5] W fun e w' => e = .returned (.tuple #[ovv g0 g1 g2 g3, .int .i64 er]) ∧ Below W.heap.size W w') :
  Calls Tryz.prog 18 #[ovv n0 n1 n2 n3] w fun e w' => e = .returned (if (b0 && (b1 && b2)) = true then .tuple #[ovv g0 g1 g2 g3, .bool (er == 0)] else .tuple #[ovv 0 0 0 0, .bool false]) ∧ Below w.heap.size w w' := by
 have HW := Lib.hid hW
 have HD := Lib.hid hD
 have HB0 := Lib.hid hb0
 have HB1 := Lib.hid hb1
 have HB2 := Lib.hid hb2
 have hm0 := ((Hp.start w).new 45 [.int .i64 n0, .int .i64 n1, .int .i64 n2, .int .i64 n3]).new 45 [.int .i64 0, .int .i64 0, .int .i64 0, .int .i64 0]
 simp only [World.size_alloc, List.nil_append, List.cons_append] at hm0
 have HM0 := Lib.hid hm0
 clear hm0 hW hD hb0 hb1 hb2
 go_enter Tryz.func18, Tryz.ntmps18
 go_wp2_with fail
 refine (HW.out _).mono ?_
 rintro e w1 ⟨rfl, hb1⟩
 have hm1 := (HM0.out.step hb1).new 94 [.int .i64 s0, .int .i64 s1, .int .i64 s2, .int .i64 s3, .int .i64 s4, .int .i64 s5]
 simp only [List.nil_append, List.cons_append] at hm1
 obtain ⟨x0, x1, x2, x3, x4, x5⟩ := six_of (hm1.at_ 2 rfl)
 have HM1 := Lib.hid hm1
 clear hb1 hm1
 go_wp2_with fail
 clear x0 x1 x2 x3 x4 x5
 go_loopw [12] (fun v W => ∃ k : Nat, k ≤ 3 ∧ v = .int .i64 (k : Int) ∧ ((0 < k → b0 = true) ∧ (1 < k → b1 = true) ∧ (2 < k → b2 = true)) ∧ Hp w [(w.heap.size, 45, [.int .i64 n0, .int .i64 n1, .int .i64 n2, .int .i64 n3]), (w.heap.size + 1, 45, [.int .i64 0, .int .i64 0, .int .i64 0, .int .i64 0]), (w1.heap.size, 94, [.int .i64 s0, .int .i64 s1, .int .i64 s2, .int .i64 s3, .int .i64 s4, .int .i64 s5])] W) (fun v _ => 3 - (intOf v).toNat)
 case atStart => exact ⟨0, by omega, rfl, ⟨fun h => absurd h (by omega), fun h => absurd h (by omega), fun h => absurd h (by omega)⟩, HM1.out⟩
 case round =>
  obtain ⟨k, hk, rfl, hi, hm⟩ := hrel
  have HMR := Lib.hid hm
  rcases (show k = 0 ∨ k = 1 ∨ k = 2 ∨ k = 3 by omega) with rfl | rfl | rfl | rfl
  ·clear hm hi
   have hidx := (idx3 s0 s1 s2 s3 s4 s5 wr).1
   have HRK := Lib.hid (fun W => rightFraction_any s0 s1 W)
   rw [HB0.out] at HRK
   go_wp2_with fail
   refine (HRK.out _).mono ?_
   rintro e w2 ⟨rfl, hb2⟩
   cases b0
   ·have hq := (HMR.out.alloc _).step hb2
    have z0 := (hq.at_ 1 rfl).cell 0
    have f0 := (hq.at_ 1 rfl).frozen 0
    have z1 := (hq.at_ 1 rfl).cell 1
    have f1 := (hq.at_ 1 rfl).frozen 1
    have z2 := (hq.at_ 1 rfl).cell 2
    have f2 := (hq.at_ 1 rfl).frozen 2
    have z3 := (hq.at_ 1 rfl).cell 3
    have f3 := (hq.at_ 1 rfl).frozen 3
    simp only [List.getElem?_cons_succ, List.getElem?_cons_zero] at z0 z1 z2 z3
    have HQ := Lib.hid (hq.put4 1 rfl (.int .i64 0) (.int .i64 0) (.int .i64 0) (.int .i64 0)).below
    clear hb2 hq
    go_wp2
    exact bodyPost_ret (v := .tuple #[ovv 0 0 0 0, .bool false]) (by simp [results, Tryz.results18, go_sem, z0, z1, z2, z3, f0, f1, f2, f3]) rfl ⟨by simp only [Bool.false_and, Bool.false_eq_true, if_false], HQ.out⟩
   ·have HRL := Lib.hid ((HMR.out.alloc _).step hb2)
    clear hb2
    go_wp2
    go_roundw
    case rel => exact ⟨1, by omega, by first | rfl | go_num, ⟨fun _ => trivial, fun h => absurd h (by omega), fun h => absurd h (by omega)⟩, HRL.out⟩
    case measure => simp [intOf]
  ·have hb0 := hi.1 (by omega)
   subst hb0
   clear hm hi
   have hidx := (idx3 s0 s1 s2 s3 s4 s5 wr).2.1
   have HRK := Lib.hid (fun W => rightFraction_any s2 s3 W)
   rw [HB1.out] at HRK
   go_wp2_with fail
   refine (HRK.out _).mono ?_
   rintro e w2 ⟨rfl, hb2⟩
   cases b1
   ·have hq := (HMR.out.alloc _).step hb2
    have z0 := (hq.at_ 1 rfl).cell 0
    have f0 := (hq.at_ 1 rfl).frozen 0
    have z1 := (hq.at_ 1 rfl).cell 1
    have f1 := (hq.at_ 1 rfl).frozen 1
    have z2 := (hq.at_ 1 rfl).cell 2
    have f2 := (hq.at_ 1 rfl).frozen 2
    have z3 := (hq.at_ 1 rfl).cell 3
    have f3 := (hq.at_ 1 rfl).frozen 3
    simp only [List.getElem?_cons_succ, List.getElem?_cons_zero] at z0 z1 z2 z3
    have HQ := Lib.hid (hq.put4 1 rfl (.int .i64 0) (.int .i64 0) (.int .i64 0) (.int .i64 0)).below
    clear hb2 hq
    go_wp2
    exact bodyPost_ret (v := .tuple #[ovv 0 0 0 0, .bool false]) (by simp [results, Tryz.results18, go_sem, z0, z1, z2, z3, f0, f1, f2, f3]) rfl ⟨by simp only [Bool.and_false, Bool.false_and, Bool.false_eq_true, if_false], HQ.out⟩
   ·have HRL := Lib.hid ((HMR.out.alloc _).step hb2)
    clear hb2
    go_wp2
    go_roundw
    case rel => exact ⟨2, by omega, by first | rfl | go_num, ⟨fun _ => trivial, fun _ => trivial, fun h => absurd h (by omega)⟩, HRL.out⟩
    case measure => simp [intOf]
  ·have hb0 := hi.1 (by omega)
   have hb1 := hi.2.1 (by omega)
   subst hb0 hb1
   clear hm hi
   have hidx := (idx3 s0 s1 s2 s3 s4 s5 wr).2.2
   have HRK := Lib.hid (fun W => rightFraction_any s4 s5 W)
   rw [HB2.out] at HRK
   go_wp2_with fail
   refine (HRK.out _).mono ?_
   rintro e w2 ⟨rfl, hb2⟩
   cases b2
   ·have hq := (HMR.out.alloc _).step hb2
    have z0 := (hq.at_ 1 rfl).cell 0
    have f0 := (hq.at_ 1 rfl).frozen 0
    have z1 := (hq.at_ 1 rfl).cell 1
    have f1 := (hq.at_ 1 rfl).frozen 1
    have z2 := (hq.at_ 1 rfl).cell 2
    have f2 := (hq.at_ 1 rfl).frozen 2
    have z3 := (hq.at_ 1 rfl).cell 3
    have f3 := (hq.at_ 1 rfl).frozen 3
    simp only [List.getElem?_cons_succ, List.getElem?_cons_zero] at z0 z1 z2 z3
    have HQ := Lib.hid (hq.put4 1 rfl (.int .i64 0) (.int .i64 0) (.int .i64 0) (.int .i64 0)).below
    clear hb2 hq
    go_wp2
    exact bodyPost_ret (v := .tuple #[ovv 0 0 0 0, .bool false]) (by simp [results, Tryz.results18, go_sem, z0, z1, z2, z3, f0, f1, f2, f3]) rfl ⟨by simp only [Bool.and_false, Bool.false_eq_true, if_false], HQ.out⟩
   ·have HRL := Lib.hid ((HMR.out.alloc _).step hb2)
    clear hb2
    go_wp2
    go_roundw
    case rel => exact ⟨3, by omega, by first | rfl | go_num, ⟨fun _ => trivial, fun _ => trivial, fun _ => trivial⟩, HRL.out⟩
    case measure => simp [intOf]
  ·have hb0 := hi.1 (by omega)
   have hb1 := hi.2.1 (by omega)
   have hb2 := hi.2.2 (by omega)
   subst hb0 hb1 hb2
   have HDD := Lib.hid (HD.out rfl rfl rfl)
   obtain ⟨x0, x1, x2, x3, x4, x5⟩ := six_of (hm.at_ 2 rfl)
   clear hm hi
   go_wp2_with fail
   refine (HDD.out _).mono ?_
   rintro e w2 ⟨rfl, hb2⟩
   have hq := (HMR.out.step hb2).new 45 [.int .i64 g0, .int .i64 g1, .int .i64 g2, .int .i64 g3]
   simp only [List.nil_append, List.cons_append] at hq
   clear x0 x1 x2 x3 x4 x5
   have z0 := (hq.at_ 1 rfl).cell 0
   have f0 := (hq.at_ 1 rfl).frozen 0
   have z1 := (hq.at_ 1 rfl).cell 1
   have f1 := (hq.at_ 1 rfl).frozen 1
   have z2 := (hq.at_ 1 rfl).cell 2
   have f2 := (hq.at_ 1 rfl).frozen 2
   have z3 := (hq.at_ 1 rfl).cell 3
   have f3 := (hq.at_ 1 rfl).frozen 3
   simp only [List.getElem?_cons_succ, List.getElem?_cons_zero] at z0 z1 z2 z3
   have y0 := (hq.at_ 3 rfl).cell 0
   have y1 := (hq.at_ 3 rfl).cell 1
   have y2 := (hq.at_ 3 rfl).cell 2
   have y3 := (hq.at_ 3 rfl).cell 3
   simp only [List.getElem?_cons_succ, List.getElem?_cons_zero] at y0 y1 y2 y3
   have HB := Lib.hid (hq.put4 1 rfl (.int .i64 g0) (.int .i64 g1) (.int .i64 g2) (.int .i64 g3)).below
   clear hb2 hq
   go_wp2
   exact bodyPost_ret (v := .tuple #[ovv g0 g1 g2 g3, .bool (er == 0)]) (by simp [results, Tryz.results18, go_sem, z0, z1, z2, z3, f0, f1, f2, f3]) rfl ⟨by simp only [Bool.and_self, if_true], HB.out⟩
set_option maxRecDepth 1000000 in
set_option maxHeartbeats 4000000 in
theorem lerrors_gen (C : Nat → Tm) (x0 x1 s0 s1 s2 s3 s4 s5 d0 d1 d2 d3 d4 d5 f q0 q1 q2 q3 y0 y1 y2 y3 t0 t1 t2 t3 u0 u1 u2 u3 z0 z1 z2 z3 z4 z5 er : Int) (bk ok : Bool) (w : World) (ht : Tab w) (hx : (0 ≤ x0 ∧ x0 ≤ 36) ∧ 0 ≤ x1 ∧ x1 ≤ 11)
  (hB : ∀ W, Tab W → Calls Tryz.prog 37 #[.agg (cirL C).toArray, .int .i64 x1, .int .i64 (x1 + x0)] W fun e w' => e = .returned (.tuple #[ovv q0 q1 q2 q3, .bool bk]) ∧ Below W.heap.size W w')
  (hR : ∀ W, Calls Tryz.prog 54 #[szv s0 s1 s2 s3 s4 s5] W fun e w' => e = .returned (.tuple #[ovv y0 y1 y2 y3, .int .i64 er]) ∧ Below W.heap.size W w')
  (hA : bk = true → ∀ W, Calls Tryz.prog 19 #[ovv q0 q1 q2 q3, ovv y0 y1 y2 y3, .int .i64 (-1)] W fun e w' => e = .returned (ovv t0 t1 t2 t3) ∧ Below W.heap.size W w')
  (hO : bk = true → ∀ W, Calls Tryz.prog 18 #[ovv t0 t1 t2 t3] W fun e w' => e = .returned (.tuple #[ovv u0 u1 u2 u3, .bool ok]) ∧ Below W.heap.size W w')
  (hS : bk = true → ok = true → ∀ W, Calls Tryz.prog 16 #[ovv u0 u1 u2 u3] W fun e w' => e = .returned (szv z0 z1 z2 z3 z4 z5) ∧ Below W.heap.size W w')
  (hE : bk = true → (ok = false → f = 4 ∧ d0 = 0 ∧ d1 = 0 ∧ d2 = 0 ∧ d3 = 0 ∧ d4 = 0 ∧ d5 = 0) ∧ (ok = true → f = 0 ∧ d0 = z0 ∧ d1 = z1 ∧ d2 = z2 ∧ d3 = z3 ∧ d4 = z4 ∧ d5 = z5)) :
  Calls Tryz.prog 40 #[.agg (cirL C).toArray, .agg #[.int .i64 x0, .int .i64 x1], szv s0 s1 s2 s3 s4 s5, szv d0 d1 d2 d3 d4 d5, .int .i64 f] w fun e w' => e = .returned (.bool true) ∧ Below w.heap.size w w' := by
 have HT := Lib.hid ht
 have HB := Lib.hid hB
 have HR := Lib.hid hR
 have HA := Lib.hid hA
 have HO := Lib.hid hO
 have HS := Lib.hid hS
 have HE := Lib.hid hE
 obtain ⟨⟨x00, x01⟩, x10, x11⟩ := hx
 clear ht hB hR hA hO hS hE
 have hm0 := ((((Hp.start w).new 33 (cirL C)).new 77 [.int .i64 x0, .int .i64 x1]).new 36 [.int .i64 s0, .int .i64 s1, .int .i64 s2, .int .i64 s3, .int .i64 s4, .int .i64 s5]).new 36 [.int .i64 d0, .int .i64 d1, .int .i64 d2, .int .i64 d3, .int .i64 d4, .int .i64 d5]
 simp only [World.size_alloc, List.nil_append, List.cons_append] at hm0
 have v0 := (hm0.at_ 1 rfl).cell 0
 have v1 := (hm0.at_ 1 rfl).cell 1
 simp only [List.getElem?_cons_succ, List.getElem?_cons_zero] at v0 v1
 have HM0 := Lib.hid hm0
 clear hm0
 go_enter Tryz.func40, Tryz.ntmps40
 go_wp2_with (refine wpList_load_row rfl 33 _ rfl (w.heap.size) rfl 33 (cirL C).toArray (0, 0) _ (HM0.out.at_ 0 rfl) Tryz.underlying33 rfl (by rw [infoCircle, List.size_toArray, cirL_len]) ?_)
 refine (HB.out _ (HT.out.below HM0.out.below)).mono ?_
 rintro e w1 ⟨rfl, hb1⟩
 have hm1 := (HM0.out.step hb1).new 45 [.int .i64 q0, .int .i64 q1, .int .i64 q2, .int .i64 q3]
 simp only [List.nil_append, List.cons_append] at hm1
 obtain ⟨y0', y1', y2', y3', y4', y5'⟩ := six_of (hm1.at_ 2 rfl)
 have HM1 := Lib.hid hm1
 clear hb1 hm1 v0 v1
 cases bk
 ·have HQ := Lib.hid HM1.out.below
  go_wp2
  exact bodyPost_ret (v := .bool true) (by simp [results, Tryz.results40, go_sem]) rfl ⟨rfl, HQ.out⟩
 have HA' := Lib.hid (HA.out rfl)
 have HO' := Lib.hid (HO.out rfl)
 have HS' := Lib.hid (HS.out rfl)
 have HE' := Lib.hid (HE.out rfl)
 clear HA HO HS HE
 go_wp2_with fail
 refine (HR.out _).mono ?_
 rintro e w2 ⟨rfl, hb2⟩
 have hm2 := (HM1.out.step hb2).new 45 [.int .i64 y0, .int .i64 y1, .int .i64 y2, .int .i64 y3]
 simp only [List.nil_append, List.cons_append] at hm2
 have c0 := (hm2.at_ 4 rfl).cell 0
 have c1 := (hm2.at_ 4 rfl).cell 1
 have c2 := (hm2.at_ 4 rfl).cell 2
 have c3 := (hm2.at_ 4 rfl).cell 3
 simp only [List.getElem?_cons_succ, List.getElem?_cons_zero] at c0 c1 c2 c3
 have e0 := (hm2.at_ 5 rfl).cell 0
 have e1 := (hm2.at_ 5 rfl).cell 1
 have e2 := (hm2.at_ 5 rfl).cell 2
 have e3 := (hm2.at_ 5 rfl).cell 3
 simp only [List.getElem?_cons_succ, List.getElem?_cons_zero] at e0 e1 e2 e3
 have HM2 := Lib.hid hm2
 clear hb2 hm2 y0' y1' y2' y3' y4' y5'
 go_wp2_with fail
 refine (HA'.out _).mono ?_
 rintro e w3 ⟨rfl, hb3⟩
 have HM3 := Lib.hid (HM2.out.step hb3)
 clear hb3 c0 c1 c2 c3 e0 e1 e2 e3
 go_wp2_with fail
 refine (HO'.out _).mono ?_
 rintro e w4 ⟨rfl, hb4⟩
 have hm4 := HM3.out.step hb4
 have e0 := (hm4.at_ 5 rfl).cell 0
 have e1 := (hm4.at_ 5 rfl).cell 1
 have e2 := (hm4.at_ 5 rfl).cell 2
 have e3 := (hm4.at_ 5 rfl).cell 3
 simp only [List.getElem?_cons_succ, List.getElem?_cons_zero] at e0 e1 e2 e3
 have f0 := (hm4.at_ 5 rfl).frozen 0
 have f1 := (hm4.at_ 5 rfl).frozen 1
 have f2 := (hm4.at_ 5 rfl).frozen 2
 have f3 := (hm4.at_ 5 rfl).frozen 3
 have HM4 := Lib.hid ((hm4.put4 5 rfl (.int .i64 u0) (.int .i64 u1) (.int .i64 u2) (.int .i64 u3)).cast (L' := [(w.heap.size, 33, cirL C), (w.heap.size + 1, 77, [.int .i64 x0, .int .i64 x1]), (w.heap.size + 1 + 1, 36, [.int .i64 s0, .int .i64 s1, .int .i64 s2, .int .i64 s3, .int .i64 s4, .int .i64 s5]), (w.heap.size + 1 + 1 + 1, 36, [.int .i64 d0, .int .i64 d1, .int .i64 d2, .int .i64 d3, .int .i64 d4, .int .i64 d5]), (w1.heap.size, 45, [.int .i64 q0, .int .i64 q1, .int .i64 q2, .int .i64 q3]), (w2.heap.size, 45, [.int .i64 u0, .int .i64 u1, .int .i64 u2, .int .i64 u3])]) rfl)
 clear hb4 hm4
 cases ok
 ·obtain ⟨rfl, rfl, rfl, rfl, rfl, rfl, rfl⟩ := HE'.out.1 rfl
  obtain ⟨y0', y1', y2', y3', y4', y5'⟩ := six_of (HM4.out.at_ 3 rfl)
  have HQ := Lib.hid HM4.out.below
  go_wp2
  exact bodyPost_ret (v := .bool true) (by simp [results, Tryz.results40, go_sem]) rfl ⟨rfl, HQ.out⟩
 obtain ⟨rfl, rfl, rfl, rfl, rfl, rfl, rfl⟩ := HE'.out.2 rfl
 have HS'' := Lib.hid (HS'.out rfl)
 clear HS' HE'
 go_upto_region 8 with fail
 clear e0 e1 e2 e3 f0 f1 f2 f3
 refine wp_regionJ 9 #[false, false, false, false, false, false, false, false, false] (fun l a W => ∃ (m0 m1 m2 m3 m4 m5 m6 m7 m8 : Bool), l = #[m0, m1, m2, m3, m4, m5, m6, m7, m8] ∧ a = ({ tmps := #[.agg (cirL C).toArray, .agg #[.int .i64 x0, .int .i64 x1], szv s0 s1 s2 s3 s4 s5, szv d0 d1 d2 d3 d4 d5, .int .i64 0, .pointer (some ⟨w.heap.size, 0, none⟩), .pointer (some ⟨w.heap.size + 1, 0, none⟩), .pointer (some ⟨w.heap.size + 1 + 1, 0, none⟩), .pointer (some ⟨w.heap.size + 1 + 1 + 1, 0, none⟩), undef, cwX m8 (.bool true) (.bool false), .pointer (some ⟨w1.heap.size, 0, none⟩), .bool true, .pointer (some ⟨w2.heap.size, 0, none⟩), .int .i64 er, .tuple #[ovv q0 q1 q2 q3, .bool true], .agg (cirL C).toArray, .pointer (some ⟨w.heap.size + 1, 1, none⟩), .int .i64 x1, .pointer (some ⟨w.heap.size + 1, 1, none⟩), .int .i64 x1, .pointer (some ⟨w.heap.size + 1, 0, none⟩), .int .i64 x0, .int .i64 (x1 + x0), .tuple #[ovv q0 q1 q2 q3, .bool true], ovv q0 q1 q2 q3, .bool true, .bool true, .bool false, .tuple #[ovv y0 y1 y2 y3, .int .i64 er], .pointer (some ⟨w.heap.size + 1 + 1, 0, none⟩), .agg #[.int .i64 s0, .int .i64 s1], .pointer (some ⟨w.heap.size + 1 + 1, 2, none⟩), .agg #[.int .i64 s2, .int .i64 s3], .pointer (some ⟨w.heap.size + 1 + 1, 4, none⟩), .agg #[.int .i64 s4, .int .i64 s5], .agg #[.int .i64 s0, .int .i64 s1, .int .i64 s2, .int .i64 s3, .int .i64 s4, .int .i64 s5], .tuple #[ovv y0 y1 y2 y3, .int .i64 er], ovv y0 y1 y2 y3, .int .i64 er, .tuple #[ovv u0 u1 u2 u3, .bool true], .agg #[.int .i64 q0, .int .i64 q1, .int .i64 q2, .int .i64 q3], .agg #[.int .i64 y0, .int .i64 y1, .int .i64 y2, .int .i64 y3], ovv t0 t1 t2 t3, .tuple #[ovv u0 u1 u2 u3, .bool true], ovv u0 u1 u2 u3, .bool true, .bool true, .bool false, undef, undef, undef, undef, undef, undef, undef, cwX m0 (.int .i64 0) (undef), cwX m1 (.bool true) (undef), cwX m2 (.bool true) (undef), cwX m3 (szv d0 d1 d2 d3 d4 d5) (undef), cwX m4 (ovv u0 u1 u2 u3) (undef), cwX m5 (szv d0 d1 d2 d3 d4 d5) (undef), cwX m6 (.bool true) (undef), cwX m7 (.bool true) (undef)], defers := [] } : Act) ∧ (True) ∧ Hp w [(w.heap.size, 33, cirL C), (w.heap.size + 1, 77, [.int .i64 x0, .int .i64 x1]), (w.heap.size + 1 + 1, 36, [.int .i64 s0, .int .i64 s1, .int .i64 s2, .int .i64 s3, .int .i64 s4, .int .i64 s5]), (w.heap.size + 1 + 1 + 1, 36, [.int .i64 d0, .int .i64 d1, .int .i64 d2, .int .i64 d3, .int .i64 d4, .int .i64 d5]), (w1.heap.size, 45, [.int .i64 q0, .int .i64 q1, .int .i64 q2, .int .i64 q3]), (w2.heap.size, 45, [.int .i64 u0, .int .i64 u1, .int .i64 u2, .int .i64 u3])] W) (by kernel_rfl) (by kernel_rfl) (by kernel_rfl) (by kernel_rfl) ?_ ?_ ?_ ?_
 ·rintro l a W ⟨m0, m1, m2, m3, m4, m5, m6, m7, m8, rfl, _⟩
  rfl
 ·exact ⟨false, false, false, false, false, false, false, false, false, rfl, rfl, trivial, HM4.out.drew⟩
 ·rintro l a W i o ⟨m0, m1, m2, m3, m4, m5, m6, m7, m8, rfl, rfl, hi0, hm⟩ ho hun hall K hK
  have hi : i < 9 := (Array.getElem?_eq_some_iff.1 ho).1
  have HM := Lib.hid hm
  have HI := Lib.hid hi0
  clear hm hi0
  rcases (show i = 0 ∨ i = 1 ∨ i = 2 ∨ i = 3 ∨ i = 4 ∨ i = 5 ∨ i = 6 ∨ i = 7 ∨ i = 8 by omega) with rfl | rfl | rfl | rfl | rfl | rfl | rfl | rfl | rfl
  ·cases ho
   simp at hun; subst hun
   clear hall hi
   go_simp
   exact hK.out _ _ ⟨true, m1, m2, m3, m4, m5, m6, m7, m8, rfl, rfl, trivial, HM.out⟩
  ·cases ho
   cases (getBX hall 0 rfl : m0 = true)
   simp at hun; subst hun
   clear hall hi
   go_simp
   exact hK.out _ _ ⟨true, true, m2, m3, m4, m5, m6, m7, m8, rfl, rfl, trivial, HM.out⟩
  ·cases ho
   cases (getBX hall 1 rfl : m1 = true)
   simp at hun; subst hun
   clear hall hi
   go_simp
   exact hK.out _ _ ⟨m0, true, true, m3, m4, m5, m6, m7, m8, rfl, rfl, trivial, HM.out⟩
  ·cases ho
   cases (getBX hall 2 rfl : m2 = true)
   simp at hun; subst hun
   clear hall hi
   obtain ⟨y0', y1', y2', y3', y4', y5'⟩ := six_of (HM.out.at_ 3 rfl)
   go_simp
   exact hK.out _ _ ⟨m0, m1, true, true, m4, m5, m6, m7, m8, rfl, rfl, trivial, HM.out⟩
  ·cases ho
   cases (getBX hall 2 rfl : m2 = true)
   simp at hun; subst hun
   clear hall hi
   have v0 : W.cell? ⟨w2.heap.size, 0, none⟩ = some (.int .i64 u0) := (HM.out.at_ 5 rfl).cell 0
   have v1 : W.cell? ⟨w2.heap.size, 1, none⟩ = some (.int .i64 u1) := (HM.out.at_ 5 rfl).cell 1
   have v2 : W.cell? ⟨w2.heap.size, 2, none⟩ = some (.int .i64 u2) := (HM.out.at_ 5 rfl).cell 2
   have v3 : W.cell? ⟨w2.heap.size, 3, none⟩ = some (.int .i64 u3) := (HM.out.at_ 5 rfl).cell 3
   go_simp
   exact hK.out _ _ ⟨m0, m1, true, m3, true, m5, m6, m7, m8, rfl, rfl, trivial, HM.out⟩
  ·cases ho
   cases (getBX hall 2 rfl : m2 = true)
   cases (getBX hall 4 rfl : m4 = true)
   simp at hun; subst hun
   clear hall hi
   go_simp
   refine (HS''.out _).mono ?_
   rintro e W' ⟨rfl, hb⟩
   exact hK.out _ _ ⟨m0, m1, true, m3, true, true, m6, m7, m8, rfl, rfl, trivial, HM.out.step hb⟩
  ·cases ho
   cases (getBX hall 2 rfl : m2 = true)
   cases (getBX hall 3 rfl : m3 = true)
   cases (getBX hall 5 rfl : m5 = true)
   simp at hun; subst hun
   clear hall hi
   go_simp
   exact hK.out _ _ ⟨m0, m1, true, true, m4, true, true, m7, m8, rfl, rfl, trivial, HM.out⟩
  ·cases ho
   cases (getBX hall 2 rfl : m2 = true)
   cases (getBX hall 6 rfl : m6 = true)
   simp at hun; subst hun
   clear hall hi
   go_simp
   exact hK.out _ _ ⟨m0, m1, true, m3, m4, m5, true, true, m8, rfl, rfl, trivial, HM.out⟩
  ·cases ho
   cases (getBX hall 7 rfl : m7 = true)
   simp at hun; subst hun
   clear hall hi
   go_simp
   exact hK.out _ _ ⟨m0, m1, m2, m3, m4, m5, m6, true, true, rfl, rfl, trivial, HM.out⟩
 ·rintro l a W ⟨m0, m1, m2, m3, m4, m5, m6, m7, m8, rfl, rfl, _, hm⟩ hall
  cases (hall 0 (by decide) : m0 = true)
  cases (hall 1 (by decide) : m1 = true)
  cases (hall 2 (by decide) : m2 = true)
  cases (hall 3 (by decide) : m3 = true)
  cases (hall 4 (by decide) : m4 = true)
  cases (hall 5 (by decide) : m5 = true)
  cases (hall 6 (by decide) : m6 = true)
  cases (hall 7 (by decide) : m7 = true)
  cases (hall 8 (by decide) : m8 = true)
  clear hall
  have HQ := Lib.hid hm.below
  clear hm
  dsimp only [cwX, cond_true]
  go_wp2
  exact bodyPost_ret (v := .bool true) (by simp [results, Tryz.results40, go_sem]) rfl ⟨rfl, HQ.out⟩
end Go.Proofs.YtlmheeommpbimaaGreatDoor
