/- Part 28 of 46 of the proof of the law: contracts of the functions that it reaches, and plain facts. Conditions: those that each contract names. -/
import Derived.Test.YtlmheeommpbimaaGreatDoorIntB26
import Derived.Test.YtlmheeommpbimaaGreatDoorIntB06
import Derived.Test.YtlmheeommpbimaaGreatDoorIntB19
import Derived.Test.YtlmheeommpbimaaGreatDoorIntB01
namespace Go.Proofs.YtlmheeommpbimaaGreatDoor
open Go.RowKit
def RoRel (w : World) (x0 x1 x2 D u0 u1 u2 E DE r0 r1 r2 : Int) (i : Value) (W : World) : Prop :=
 ∃ k : Nat, k ≤ 3 ∧ i = .int .i64 (k : Int) ∧ Hp w [(w.heap.size, 45, [.int .i64 x0, .int .i64 x1, .int .i64 x2, .int .i64 D]), (w.heap.size + 1, 45, [.int .i64 u0, .int .i64 u1, .int .i64 u2, .int .i64 E]), (w.heap.size + 1 + 1, 45, [.int .i64 0, .int .i64 0, .int .i64 0, .int .i64 0]), (w.heap.size + 1 + 1 + 1, 45, [.int .i64 (if 0 < k then r0 else 0), .int .i64 (if 1 < k then r1 else 0), .int .i64 (if 2 < k then r2 else 0), .int .i64 DE])] W
theorem radd_bd {x u D E k : Int} (hx : -1000000 ≤ x ∧ x ≤ 1000000) (hu : -1000000 ≤ u ∧ u ≤ 1000000) (hD : 1 ≤ D ∧ D ≤ 1000000) (hE : 1 ≤ E ∧ E ≤ 1000000) (hk : k = 1 ∨ k = -1) :
  IntKind.i64.wrap (x * E) = x * E ∧ IntKind.i64.wrap (k * u) = k * u ∧ IntKind.i64.wrap (k * u * D) = k * u * D ∧ IntKind.i64.wrap (x * E + k * u * D) = x * E + k * u * D ∧ (-2000000000000 ≤ x * E + k * u * D ∧ x * E + k * u * D ≤ 2000000000000) := by
 have h1 := mul_bd hx.1 hx.2 (show -1000000 ≤ E by omega) hE.2
 have h2 : -1000000 ≤ k * u ∧ k * u ≤ 1000000 := by rcases hk with rfl | rfl <;> omega
 have h3 := mul_bd h2.1 h2.2 (show -1000000 ≤ D by omega) hD.2
 refine ⟨IntWalk.i64_in _ (by omega), IntWalk.i64_in _ (by omega), IntWalk.i64_in _ (by omega), IntWalk.i64_in _ (by omega), by omega, by omega⟩
set_option maxRecDepth 100000 in
set_option maxHeartbeats 8000000 in
theorem radd_any (x0 x1 x2 D u0 u1 u2 E k : Int) (w : World) (hx0 : -1000000 ≤ x0 ∧ x0 ≤ 1000000) (hx1 : -1000000 ≤ x1 ∧ x1 ≤ 1000000) (hx2 : -1000000 ≤ x2 ∧ x2 ≤ 1000000) (hD : 1 ≤ D ∧ D ≤ 1000000)
  (hu0 : -1000000 ≤ u0 ∧ u0 ≤ 1000000) (hu1 : -1000000 ≤ u1 ∧ u1 ≤ 1000000) (hu2 : -1000000 ≤ u2 ∧ u2 ≤ 1000000) (hE : 1 ≤ E ∧ E ≤ 1000000) (hk : k = 1 ∨ k = -1) :
  Calls Tryz.prog 19 #[ovv x0 x1 x2 D, ovv u0 u1 u2 E, .int .i64 k] w fun e w' => e = .returned (ovv (x0 * E + k * u0 * D) (x1 * E + k * u1 * D) (x2 * E + k * u2 * D) (D * E)) ∧ Below w.heap.size w w' := by
 obtain ⟨a0, b0, c0, d0, _⟩ := radd_bd hx0 hu0 hD hE hk
 obtain ⟨p0, hp0⟩ : ∃ p, p = x0 * E := ⟨_, rfl⟩
 obtain ⟨q0, hq0⟩ : ∃ p, p = k * u0 := ⟨_, rfl⟩
 obtain ⟨s0, hs0⟩ : ∃ p, p = q0 * D := ⟨_, rfl⟩
 obtain ⟨r0, hr0⟩ : ∃ p, p = p0 + s0 := ⟨_, rfl⟩
 have e0 : x0 * E + k * u0 * D = r0 := by rw [hr0, hs0, hp0, hq0]
 rw [e0]
 have HW0 := Lib.hid (show IntKind.i64.wrap (x0 * E) = p0 ∧ IntKind.i64.wrap (k * u0) = q0 ∧ IntKind.i64.wrap (q0 * D) = s0 ∧ IntKind.i64.wrap (p0 + s0) = r0 from ⟨by rw [hp0]; exact a0, by rw [hq0]; exact b0, by rw [hs0, hq0]; exact c0, by rw [hr0, hs0, hp0, hq0]; exact d0⟩)
 clear a0 b0 c0 d0 e0 hp0 hq0 hs0 hr0
 obtain ⟨a1, b1, c1, d1, _⟩ := radd_bd hx1 hu1 hD hE hk
 obtain ⟨p1, hp1⟩ : ∃ p, p = x1 * E := ⟨_, rfl⟩
 obtain ⟨q1, hq1⟩ : ∃ p, p = k * u1 := ⟨_, rfl⟩
 obtain ⟨s1, hs1⟩ : ∃ p, p = q1 * D := ⟨_, rfl⟩
 obtain ⟨r1, hr1⟩ : ∃ p, p = p1 + s1 := ⟨_, rfl⟩
 have e1 : x1 * E + k * u1 * D = r1 := by rw [hr1, hs1, hp1, hq1]
 rw [e1]
 have HW1 := Lib.hid (show IntKind.i64.wrap (x1 * E) = p1 ∧ IntKind.i64.wrap (k * u1) = q1 ∧ IntKind.i64.wrap (q1 * D) = s1 ∧ IntKind.i64.wrap (p1 + s1) = r1 from ⟨by rw [hp1]; exact a1, by rw [hq1]; exact b1, by rw [hs1, hq1]; exact c1, by rw [hr1, hs1, hp1, hq1]; exact d1⟩)
 clear a1 b1 c1 d1 e1 hp1 hq1 hs1 hr1
 obtain ⟨a2, b2, c2, d2, _⟩ := radd_bd hx2 hu2 hD hE hk
 obtain ⟨p2, hp2⟩ : ∃ p, p = x2 * E := ⟨_, rfl⟩
 obtain ⟨q2, hq2⟩ : ∃ p, p = k * u2 := ⟨_, rfl⟩
 obtain ⟨s2, hs2⟩ : ∃ p, p = q2 * D := ⟨_, rfl⟩
 obtain ⟨r2, hr2⟩ : ∃ p, p = p2 + s2 := ⟨_, rfl⟩
 have e2 : x2 * E + k * u2 * D = r2 := by rw [hr2, hs2, hp2, hq2]
 rw [e2]
 have HW2 := Lib.hid (show IntKind.i64.wrap (x2 * E) = p2 ∧ IntKind.i64.wrap (k * u2) = q2 ∧ IntKind.i64.wrap (q2 * D) = s2 ∧ IntKind.i64.wrap (p2 + s2) = r2 from ⟨by rw [hp2]; exact a2, by rw [hq2]; exact b2, by rw [hs2, hq2]; exact c2, by rw [hr2, hs2, hp2, hq2]; exact d2⟩)
 clear a2 b2 c2 d2 e2 hp2 hq2 hs2 hr2
 obtain ⟨m1, m2⟩ := mul_bd (show -1000000 ≤ D by omega) hD.2 (show -1000000 ≤ E by omega) hE.2
 have hde : IntKind.i64.wrap (D * E) = D * E := IntWalk.i64_in _ (by omega)
 obtain ⟨DE, hDE⟩ : ∃ p, p = D * E := ⟨_, rfl⟩
 have hde2 : IntKind.i64.wrap (D * E) = DE := by rw [hDE]; exact hde
 rw [← hDE]
 clear hde m1 m2 hDE hx0 hx1 hx2 hu0 hu1 hu2 hD hE hk
 have hM0 : Hp w [(w.heap.size, 45, [.int .i64 x0, .int .i64 x1, .int .i64 x2, .int .i64 D]), (w.heap.size + 1, 45, [.int .i64 u0, .int .i64 u1, .int .i64 u2, .int .i64 E]), (w.heap.size + 1 + 1, 45, [.int .i64 0, .int .i64 0, .int .i64 0, .int .i64 0]), (w.heap.size + 1 + 1 + 1, 45, [.int .i64 0, .int .i64 0, .int .i64 0, .int .i64 DE])] ((((w.alloc (.cells #[.int .i64 x0, .int .i64 x1, .int .i64 x2, .int .i64 D] 45)).alloc (.cells #[.int .i64 u0, .int .i64 u1, .int .i64 u2, .int .i64 E] 45)).alloc (.cells #[.int .i64 0, .int .i64 0, .int .i64 0, .int .i64 0] 45)).alloc (.cells #[.int .i64 0, .int .i64 0, .int .i64 0, .int .i64 DE] 45)) := by
  have h := ((((Hp.start w).new 45 [.int .i64 x0, .int .i64 x1, .int .i64 x2, .int .i64 D]).new 45 [.int .i64 u0, .int .i64 u1, .int .i64 u2, .int .i64 E]).new 45 [.int .i64 0, .int .i64 0, .int .i64 0, .int .i64 0]).new 45 [.int .i64 0, .int .i64 0, .int .i64 0, .int .i64 DE]
  simp only [World.size_alloc] at h
  exact h
 have HM0 := Lib.hid hM0
 clear hM0
 go_enter Tryz.func19, Tryz.ntmps19
 go_wp2_with fail
 clear hde2
 go_loopw [8] (fun i wr => RoRel w x0 x1 x2 D u0 u1 u2 E DE r0 r1 r2 i wr) (fun i _ => 3 - (intOf i).toNat)
 case atStart => exact ⟨0, by omega, rfl, HM0.out⟩
 case round =>
  clear HM0
  obtain ⟨j, hj, rfl, hm⟩ := hrel
  have HM := Lib.hid hm
  clear hm
  by_cases hlt : j < 3
  ·rcases (show j = 0 ∨ j = 1 ∨ j = 2 by omega) with rfl | rfl | rfl
   ·have HM2 : Hid (Hp w [(w.heap.size, 45, [.int .i64 x0, .int .i64 x1, .int .i64 x2, .int .i64 D]), (w.heap.size + 1, 45, [.int .i64 u0, .int .i64 u1, .int .i64 u2, .int .i64 E]), (w.heap.size + 1 + 1, 45, [.int .i64 0, .int .i64 0, .int .i64 0, .int .i64 0]), (w.heap.size + 1 + 1 + 1, 45, [.int .i64 0, .int .i64 0, .int .i64 0, .int .i64 DE])] wr) := HM.out
    clear HM
    go_wp2_with fail
    have HD : Hid (Hp w [(w.heap.size, 45, [.int .i64 x0, .int .i64 x1, .int .i64 x2, .int .i64 D]), (w.heap.size + 1, 45, [.int .i64 u0, .int .i64 u1, .int .i64 u2, .int .i64 E]), (w.heap.size + 1 + 1, 45, [.int .i64 0, .int .i64 0, .int .i64 0, .int .i64 0]), (w.heap.size + 1 + 1 + 1, 45, [.int .i64 0, .int .i64 0, .int .i64 0, .int .i64 DE])] wr.drew) := Lib.hid HM2.out.drew
    have hS : wr.drew.cell? ⟨w.heap.size, 0, none⟩ = some (.int .i64 x0) ∧ wr.drew.cell? ⟨w.heap.size, 3, none⟩ = some (.int .i64 D) ∧ wr.drew.cell? ⟨w.heap.size + 1, 0, none⟩ = some (.int .i64 u0) ∧ wr.drew.cell? ⟨w.heap.size + 1, 3, none⟩ = some (.int .i64 E) := ⟨(HD.out.at_ 0 rfl).cell 0, (HD.out.at_ 0 rfl).cell 3, (HD.out.at_ 1 rfl).cell 0, (HD.out.at_ 1 rfl).cell 3⟩
    obtain ⟨hw0, hw1, hw2, hw3⟩ := HW0.out
    refine wp_regionE' 21 (fun w' => w'.cell? ⟨w.heap.size, 0, none⟩ = some (.int .i64 x0) ∧ w'.cell? ⟨w.heap.size, 3, none⟩ = some (.int .i64 D) ∧ w'.cell? ⟨w.heap.size + 1, 0, none⟩ = some (.int .i64 u0) ∧ w'.cell? ⟨w.heap.size + 1, 3, none⟩ = some (.int .i64 E)) 21 #[false, false, false, false, false, false, false, false, false, false, false, false, false, false, false, false, false, false, false, false, false] (by kernel_rfl) (by kernel_rfl) (by kernel_rfl) ?_
    refine tkB 0 19 hS ?_
    simp only [Act.put]
    refine tkB 1 20 hS ?_
    simp only [Act.put]
    refine tkB 2 21 hS ?_
    simp only [Act.put]
    refine tkB 3 22 hS ?_
    simp only [Act.put]
    refine tkB 4 23 hS ?_
    simp only [Act.put]
    refine tkB 5 24 hS ?_
    simp only [Act.put]
    refine tkB 6 25 hS ?_
    simp only [Act.put]
    refine tkB 7 26 hS ?_
    simp only [Act.put]
    refine tkB 8 27 hS ?_
    simp only [Act.put]
    refine tkB 9 28 hS ?_
    simp only [Act.put]
    refine tkB 10 29 hS ?_
    simp only [Act.put]
    refine tkB 11 30 hS ?_
    simp only [Act.put]
    refine tkB 12 31 hS ?_
    simp only [Act.put]
    refine tkB 13 32 hS ?_
    simp only [Act.put]
    refine tkB 14 33 hS ?_
    simp only [Act.put]
    refine tkB 15 34 hS ?_
    simp only [Act.put]
    refine tkB 16 35 hS ?_
    simp only [Act.put]
    refine tkB 17 36 hS ?_
    simp only [Act.put]
    refine tkB 18 37 hS ?_
    simp only [Act.put]
    refine tkB 19 38 hS ?_
    simp only [Act.put]
    clear hS hw0 hw1 hw2 hw3
    obtain ⟨WD, hWD⟩ : ∃ X, X = wr.drew := ⟨_, rfl⟩
    rw [← hWD] at HD ⊢
    clear hWD HM2
    have q0 := (HD.out.at_ 3 rfl).cell 0
    have f0 := (HD.out.at_ 3 rfl).frozen 0
    refine wpAnyE_ready (rs := [20]) (by kernel_rfl) (by simp) ?_
    refine AllE.cons' (o := _) #[true, true, true, true, true, true, true, true, true, true, true, true, true, true, true, true, true, true, true, true, true] rfl (by kernel_rfl) (fun K hK => ?_) AllE.nil
    go_simp
    obtain ⟨X2, hX⟩ : ∃ X, X = WD.setCell ⟨w.heap.size + 1 + 1 + 1, 0, none⟩ (.int .i64 r0) := ⟨_, rfl⟩
    rw [← hX]
    have hfin : RoRel w x0 x1 x2 D u0 u1 u2 E DE r0 r1 r2 (.int .i64 ((0 + 1 : Nat) : Int)) X2 := by
     rw [hX]
     exact ⟨0 + 1, by omega, rfl, HD.out.put 3 rfl 0 (.int .i64 r0)⟩
    have HFIN := Lib.hid hfin
    have hs2 : X2.cell? ⟨w.heap.size, 0, none⟩ = some (.int .i64 x0) ∧ X2.cell? ⟨w.heap.size, 3, none⟩ = some (.int .i64 D) ∧ X2.cell? ⟨w.heap.size + 1, 0, none⟩ = some (.int .i64 u0) ∧ X2.cell? ⟨w.heap.size + 1, 3, none⟩ = some (.int .i64 E) := by
     rw [hX]
     have h := HD.out.put 3 rfl 0 (.int .i64 r0)
     exact ⟨(h.at_ 0 rfl).cell 0, (h.at_ 0 rfl).cell 3, (h.at_ 1 rfl).cell 0, (h.at_ 1 rfl).cell 3⟩
    refine hK.out _ _ (fun _ => hs2) ?_
    clear hK K hX q0 f0 hfin hs2
    try simp only [Act.put]
    refine wpAnyE_done (by kernel_rfl) ?_ _
    go_wp2_with fail
    go_roundw
    case rel => exact HFIN.out
    case measure => simp [intOf]
   ·have HM2 : Hid (Hp w [(w.heap.size, 45, [.int .i64 x0, .int .i64 x1, .int .i64 x2, .int .i64 D]), (w.heap.size + 1, 45, [.int .i64 u0, .int .i64 u1, .int .i64 u2, .int .i64 E]), (w.heap.size + 1 + 1, 45, [.int .i64 0, .int .i64 0, .int .i64 0, .int .i64 0]), (w.heap.size + 1 + 1 + 1, 45, [.int .i64 r0, .int .i64 0, .int .i64 0, .int .i64 DE])] wr) := HM.out
    clear HM
    go_wp2_with fail
    have HD : Hid (Hp w [(w.heap.size, 45, [.int .i64 x0, .int .i64 x1, .int .i64 x2, .int .i64 D]), (w.heap.size + 1, 45, [.int .i64 u0, .int .i64 u1, .int .i64 u2, .int .i64 E]), (w.heap.size + 1 + 1, 45, [.int .i64 0, .int .i64 0, .int .i64 0, .int .i64 0]), (w.heap.size + 1 + 1 + 1, 45, [.int .i64 r0, .int .i64 0, .int .i64 0, .int .i64 DE])] wr.drew) := Lib.hid HM2.out.drew
    have hS : wr.drew.cell? ⟨w.heap.size, 1, none⟩ = some (.int .i64 x1) ∧ wr.drew.cell? ⟨w.heap.size, 3, none⟩ = some (.int .i64 D) ∧ wr.drew.cell? ⟨w.heap.size + 1, 1, none⟩ = some (.int .i64 u1) ∧ wr.drew.cell? ⟨w.heap.size + 1, 3, none⟩ = some (.int .i64 E) := ⟨(HD.out.at_ 0 rfl).cell 1, (HD.out.at_ 0 rfl).cell 3, (HD.out.at_ 1 rfl).cell 1, (HD.out.at_ 1 rfl).cell 3⟩
    obtain ⟨hw0, hw1, hw2, hw3⟩ := HW1.out
    refine wp_regionE' 21 (fun w' => w'.cell? ⟨w.heap.size, 1, none⟩ = some (.int .i64 x1) ∧ w'.cell? ⟨w.heap.size, 3, none⟩ = some (.int .i64 D) ∧ w'.cell? ⟨w.heap.size + 1, 1, none⟩ = some (.int .i64 u1) ∧ w'.cell? ⟨w.heap.size + 1, 3, none⟩ = some (.int .i64 E)) 21 #[false, false, false, false, false, false, false, false, false, false, false, false, false, false, false, false, false, false, false, false, false] (by kernel_rfl) (by kernel_rfl) (by kernel_rfl) ?_
    refine tkB 0 19 hS ?_
    simp only [Act.put]
    refine tkB 1 20 hS ?_
    simp only [Act.put]
    refine tkB 2 21 hS ?_
    simp only [Act.put]
    refine tkB 3 22 hS ?_
    simp only [Act.put]
    refine tkB 4 23 hS ?_
    simp only [Act.put]
    refine tkB 5 24 hS ?_
    simp only [Act.put]
    refine tkB 6 25 hS ?_
    simp only [Act.put]
    refine tkB 7 26 hS ?_
    simp only [Act.put]
    refine tkB 8 27 hS ?_
    simp only [Act.put]
    refine tkB 9 28 hS ?_
    simp only [Act.put]
    refine tkB 10 29 hS ?_
    simp only [Act.put]
    refine tkB 11 30 hS ?_
    simp only [Act.put]
    refine tkB 12 31 hS ?_
    simp only [Act.put]
    refine tkB 13 32 hS ?_
    simp only [Act.put]
    refine tkB 14 33 hS ?_
    simp only [Act.put]
    refine tkB 15 34 hS ?_
    simp only [Act.put]
    refine tkB 16 35 hS ?_
    simp only [Act.put]
    refine tkB 17 36 hS ?_
    simp only [Act.put]
    refine tkB 18 37 hS ?_
    simp only [Act.put]
    refine tkB 19 38 hS ?_
    simp only [Act.put]
    clear hS hw0 hw1 hw2 hw3
    obtain ⟨WD, hWD⟩ : ∃ X, X = wr.drew := ⟨_, rfl⟩
    rw [← hWD] at HD ⊢
    clear hWD HM2
    have q0 := (HD.out.at_ 3 rfl).cell 1
    have f0 := (HD.out.at_ 3 rfl).frozen 1
    refine wpAnyE_ready (rs := [20]) (by kernel_rfl) (by simp) ?_
    refine AllE.cons' (o := _) #[true, true, true, true, true, true, true, true, true, true, true, true, true, true, true, true, true, true, true, true, true] rfl (by kernel_rfl) (fun K hK => ?_) AllE.nil
    go_simp
    obtain ⟨X2, hX⟩ : ∃ X, X = WD.setCell ⟨w.heap.size + 1 + 1 + 1, 1, none⟩ (.int .i64 r1) := ⟨_, rfl⟩
    rw [← hX]
    have hfin : RoRel w x0 x1 x2 D u0 u1 u2 E DE r0 r1 r2 (.int .i64 ((1 + 1 : Nat) : Int)) X2 := by
     rw [hX]
     exact ⟨1 + 1, by omega, rfl, HD.out.put 3 rfl 1 (.int .i64 r1)⟩
    have HFIN := Lib.hid hfin
    have hs2 : X2.cell? ⟨w.heap.size, 1, none⟩ = some (.int .i64 x1) ∧ X2.cell? ⟨w.heap.size, 3, none⟩ = some (.int .i64 D) ∧ X2.cell? ⟨w.heap.size + 1, 1, none⟩ = some (.int .i64 u1) ∧ X2.cell? ⟨w.heap.size + 1, 3, none⟩ = some (.int .i64 E) := by
     rw [hX]
     have h := HD.out.put 3 rfl 1 (.int .i64 r1)
     exact ⟨(h.at_ 0 rfl).cell 1, (h.at_ 0 rfl).cell 3, (h.at_ 1 rfl).cell 1, (h.at_ 1 rfl).cell 3⟩
    refine hK.out _ _ (fun _ => hs2) ?_
    clear hK K hX q0 f0 hfin hs2
    try simp only [Act.put]
    refine wpAnyE_done (by kernel_rfl) ?_ _
    go_wp2_with fail
    go_roundw
    case rel => exact HFIN.out
    case measure => simp [intOf]
   ·have HM2 : Hid (Hp w [(w.heap.size, 45, [.int .i64 x0, .int .i64 x1, .int .i64 x2, .int .i64 D]), (w.heap.size + 1, 45, [.int .i64 u0, .int .i64 u1, .int .i64 u2, .int .i64 E]), (w.heap.size + 1 + 1, 45, [.int .i64 0, .int .i64 0, .int .i64 0, .int .i64 0]), (w.heap.size + 1 + 1 + 1, 45, [.int .i64 r0, .int .i64 r1, .int .i64 0, .int .i64 DE])] wr) := HM.out
    clear HM
    go_wp2_with fail
    have HD : Hid (Hp w [(w.heap.size, 45, [.int .i64 x0, .int .i64 x1, .int .i64 x2, .int .i64 D]), (w.heap.size + 1, 45, [.int .i64 u0, .int .i64 u1, .int .i64 u2, .int .i64 E]), (w.heap.size + 1 + 1, 45, [.int .i64 0, .int .i64 0, .int .i64 0, .int .i64 0]), (w.heap.size + 1 + 1 + 1, 45, [.int .i64 r0, .int .i64 r1, .int .i64 0, .int .i64 DE])] wr.drew) := Lib.hid HM2.out.drew
    have hS : wr.drew.cell? ⟨w.heap.size, 2, none⟩ = some (.int .i64 x2) ∧ wr.drew.cell? ⟨w.heap.size, 3, none⟩ = some (.int .i64 D) ∧ wr.drew.cell? ⟨w.heap.size + 1, 2, none⟩ = some (.int .i64 u2) ∧ wr.drew.cell? ⟨w.heap.size + 1, 3, none⟩ = some (.int .i64 E) := ⟨(HD.out.at_ 0 rfl).cell 2, (HD.out.at_ 0 rfl).cell 3, (HD.out.at_ 1 rfl).cell 2, (HD.out.at_ 1 rfl).cell 3⟩
    obtain ⟨hw0, hw1, hw2, hw3⟩ := HW2.out
    refine wp_regionE' 21 (fun w' => w'.cell? ⟨w.heap.size, 2, none⟩ = some (.int .i64 x2) ∧ w'.cell? ⟨w.heap.size, 3, none⟩ = some (.int .i64 D) ∧ w'.cell? ⟨w.heap.size + 1, 2, none⟩ = some (.int .i64 u2) ∧ w'.cell? ⟨w.heap.size + 1, 3, none⟩ = some (.int .i64 E)) 21 #[false, false, false, false, false, false, false, false, false, false, false, false, false, false, false, false, false, false, false, false, false] (by kernel_rfl) (by kernel_rfl) (by kernel_rfl) ?_
    refine tkB 0 19 hS ?_
    simp only [Act.put]
    refine tkB 1 20 hS ?_
    simp only [Act.put]
    refine tkB 2 21 hS ?_
    simp only [Act.put]
    refine tkB 3 22 hS ?_
    simp only [Act.put]
    refine tkB 4 23 hS ?_
    simp only [Act.put]
    refine tkB 5 24 hS ?_
    simp only [Act.put]
    refine tkB 6 25 hS ?_
    simp only [Act.put]
    refine tkB 7 26 hS ?_
    simp only [Act.put]
    refine tkB 8 27 hS ?_
    simp only [Act.put]
    refine tkB 9 28 hS ?_
    simp only [Act.put]
    refine tkB 10 29 hS ?_
    simp only [Act.put]
    refine tkB 11 30 hS ?_
    simp only [Act.put]
    refine tkB 12 31 hS ?_
    simp only [Act.put]
    refine tkB 13 32 hS ?_
    simp only [Act.put]
    refine tkB 14 33 hS ?_
    simp only [Act.put]
    refine tkB 15 34 hS ?_
    simp only [Act.put]
    refine tkB 16 35 hS ?_
    simp only [Act.put]
    refine tkB 17 36 hS ?_
    simp only [Act.put]
    refine tkB 18 37 hS ?_
    simp only [Act.put]
    refine tkB 19 38 hS ?_
    simp only [Act.put]
    clear hS hw0 hw1 hw2 hw3
    obtain ⟨WD, hWD⟩ : ∃ X, X = wr.drew := ⟨_, rfl⟩
    rw [← hWD] at HD ⊢
    clear hWD HM2
    have q0 := (HD.out.at_ 3 rfl).cell 2
    have f0 := (HD.out.at_ 3 rfl).frozen 2
    refine wpAnyE_ready (rs := [20]) (by kernel_rfl) (by simp) ?_
    refine AllE.cons' (o := _) #[true, true, true, true, true, true, true, true, true, true, true, true, true, true, true, true, true, true, true, true, true] rfl (by kernel_rfl) (fun K hK => ?_) AllE.nil
    go_simp
    obtain ⟨X2, hX⟩ : ∃ X, X = WD.setCell ⟨w.heap.size + 1 + 1 + 1, 2, none⟩ (.int .i64 r2) := ⟨_, rfl⟩
    rw [← hX]
    have hfin : RoRel w x0 x1 x2 D u0 u1 u2 E DE r0 r1 r2 (.int .i64 ((2 + 1 : Nat) : Int)) X2 := by
     rw [hX]
     exact ⟨2 + 1, by omega, rfl, HD.out.put 3 rfl 2 (.int .i64 r2)⟩
    have HFIN := Lib.hid hfin
    have hs2 : X2.cell? ⟨w.heap.size, 2, none⟩ = some (.int .i64 x2) ∧ X2.cell? ⟨w.heap.size, 3, none⟩ = some (.int .i64 D) ∧ X2.cell? ⟨w.heap.size + 1, 2, none⟩ = some (.int .i64 u2) ∧ X2.cell? ⟨w.heap.size + 1, 3, none⟩ = some (.int .i64 E) := by
     rw [hX]
     have h := HD.out.put 3 rfl 2 (.int .i64 r2)
     exact ⟨(h.at_ 0 rfl).cell 2, (h.at_ 0 rfl).cell 3, (h.at_ 1 rfl).cell 2, (h.at_ 1 rfl).cell 3⟩
    refine hK.out _ _ (fun _ => hs2) ?_
    clear hK K hX q0 f0 hfin hs2
    try simp only [Act.put]
    refine wpAnyE_done (by kernel_rfl) ?_ _
    go_wp2_with fail
    go_roundw
    case rel => exact HFIN.out
    case measure => simp [intOf]
  ·obtain rfl : j = 3 := by omega
   have HM2 : Hid (Hp w [(w.heap.size, 45, [.int .i64 x0, .int .i64 x1, .int .i64 x2, .int .i64 D]), (w.heap.size + 1, 45, [.int .i64 u0, .int .i64 u1, .int .i64 u2, .int .i64 E]), (w.heap.size + 1 + 1, 45, [.int .i64 0, .int .i64 0, .int .i64 0, .int .i64 0]), (w.heap.size + 1 + 1 + 1, 45, [.int .i64 r0, .int .i64 r1, .int .i64 r2, .int .i64 DE])] wr) := HM.out
   clear HM HW0 HW1 HW2
   obtain ⟨c0, c1, c2, c3⟩ := four_of (HM2.out.at_ 3 rfl)
   obtain ⟨e0, e1, e2, e3⟩ := four_of (HM2.out.at_ 2 rfl)
   obtain ⟨f0, f1, f2, f3⟩ := four_free (HM2.out.at_ 2 rfl)
   go_wp2
   obtain ⟨WZ, hWZ⟩ : ∃ WZ, WZ = (((wr.setCell ⟨w.heap.size + 1 + 1, 0, none⟩ (.int .i64 r0)).setCell ⟨w.heap.size + 1 + 1, 1, none⟩ (.int .i64 r1)).setCell ⟨w.heap.size + 1 + 1, 2, none⟩ (.int .i64 r2)).setCell ⟨w.heap.size + 1 + 1, 3, none⟩ (.int .i64 DE) := ⟨_, rfl⟩
   have hz := HM2.out.put4 2 rfl (.int .i64 r0) (.int .i64 r1) (.int .i64 r2) (.int .i64 DE)
   rw [← hWZ] at hz ⊢
   obtain ⟨g0, g1, g2, g3⟩ := four_of (hz.at_ 2 rfl)
   exact bodyPost_ret (v := ovv r0 r1 r2 DE) (by simp [g0, g1, g2, g3, results, Tryz.results19, go_sem]) rfl ⟨rfl, hz.below⟩
end Go.Proofs.YtlmheeommpbimaaGreatDoor
namespace Go.Proofs.YtlmheeommpbimaaGreatDoor
section
open Go.RowKit
def RetStrip (n p : Nat) (w : World) (e : Ending) (w' : World) : Prop :=
 ∃ c r : Nat, e = .returned (.tuple #[.int .i64 (c : Int), .int .i64 (r : Int)]) ∧ n = p ^ c * r ∧ r % p ≠ 0 ∧ w = w'
theorem strip_bd {n p c r : Nat} (h : n = p ^ c * r) (hn : 1 ≤ n) (hn2 : n ≤ 4611686018427387904) (hp : 2 ≤ p) : c ≤ 62 ∧ 1 ≤ r ∧ r ≤ n := by
 have hr : 1 ≤ r := by
  rcases Nat.eq_zero_or_pos r with h0 | h0
  ·subst h0; omega
  ·exact h0
 refine ⟨?_, hr, ?_⟩
 ·have h1 : 2 ^ c ≤ p ^ c := Nat.pow_le_pow_left hp c
  have h2 : p ^ c ≤ n := by rw [h]; exact Nat.le_mul_of_pos_right _ hr
  rcases Nat.lt_or_ge c 63 with h3 | h3
  ·omega
  ·have h4 : 2 ^ 63 ≤ 2 ^ c := Nat.pow_le_pow_right (by decide) h3
   omega
 ·rw [h]; exact Nat.le_mul_of_pos_left _ (Nat.pow_pos (by omega))
set_option maxHeartbeats 1000000 in
theorem strip_any (n p : Nat) (w : World) (hn : 1 ≤ n) (hn2 : n ≤ 4611686018427387904) (hp : 2 ≤ p) (hp2 : p ≤ 5) :
  Calls Tryz.prog 95 #[.int .i64 (n : Int), .int .i64 (p : Int)] w (RetStrip n p w) := by
 have hpz : ((p : Int) == 0) = false := by rw [beq_eq_false_iff_ne]; omega
 go_enter Tryz.func95, Tryz.ntmps95
 go_wp2
 go_loop [0, 4] (fun u c => ∃ k r : Nat, u = .int .i64 (r : Int) ∧ c = .int .i64 (k : Int) ∧ Lib.Kept (n = p ^ k * r)) (fun u _ => (intOf u).toNat)
 case atStart => exact ⟨0, n, rfl, rfl, (by rw [Nat.pow_zero, Nat.one_mul] : n = p ^ 0 * n)⟩
 case round =>
  obtain ⟨k, r, rfl, rfl, he⟩ := hrel
  have HE := Lib.hid he
  obtain ⟨hk, hr1, hr2⟩ := strip_bd he hn hn2 hp
  clear he
  by_cases h0 : r % p = 0
  ·have hm : (((r : Int) % (p : Int)) == 0) = true := by rw [beq_iff_eq]; omega
   obtain ⟨q, hq⟩ : ∃ q : Nat, q = r / p := ⟨_, rfl⟩
   have hqi : (r : Int) / (p : Int) = (q : Int) := by rw [hq]; exact (Int.natCast_ediv r p).symm
   have hqr : q < r := by rw [hq]; exact Nat.div_lt_self (by omega) (by omega)
   have HN := Lib.hid (show n = p ^ (k + 1) * q by
    have h1 : r = p * q := by rw [hq]; exact (Nat.mul_div_cancel' (Nat.dvd_of_mod_eq_zero h0)).symm
    rw [HE.out, h1, Nat.pow_succ, Nat.mul_assoc])
   clear hq h0
   go_wp2
   go_round
   case rel => exact ⟨k + 1, q, rfl, by go_num, HN.out⟩
   case measure => simp [intOf]; omega
  ·have hm : (((r : Int) % (p : Int)) == 0) = false := by
    rw [beq_eq_false_iff_ne]
    intro e
    exact h0 (by have h : ((r % p : Nat) : Int) = 0 := by rw [Int.natCast_emod]; exact e
                 omega)
   have H0 := Lib.hid h0
   clear h0
   go_wp2
   go_ret2
   exact ⟨k, r, rfl, HE.out, H0.out, rfl⟩
structure Fac (n : Nat) (a b c r : Nat) : Prop where
 eq : n = 2 ^ a * 3 ^ b * 5 ^ c * r
def RaMem (w : World) (x y z : Int) (W : World) : Prop :=
 Blk W w.heap.size 36 [.int .i64 0, .int .i64 0, .int .i64 0, .int .i64 0, .int .i64 0, .int .i64 0] ∧ Blk W (w.heap.size + 1) 43 [.int .i64 x, .int .i64 y, .int .i64 z] ∧ Blk W (w.heap.size + 1 + 1) 3 [.int .i64 2, .int .i64 3, .int .i64 5] ∧ Below w.heap.size w W
theorem RaMem.below {w W W' : World} {x y z : Int} (h : RaMem w x y z W) (hb : Below W.heap.size W W') : RaMem w x y z W' := ⟨h.1.below hb h.1.lt, h.2.1.below hb h.2.1.lt, h.2.2.1.below hb h.2.2.1.lt, h.2.2.2.trans (hb.mono h.2.2.2.size)⟩
theorem RaMem.put {w W : World} {x y z : Int} (h : RaMem w x y z W) (u : Int) : RaMem w u y z (W.setCell ⟨w.heap.size + 1, 0, none⟩ (.int .i64 u)) ∧ RaMem w x u z (W.setCell ⟨w.heap.size + 1, 1, none⟩ (.int .i64 u)) ∧ RaMem w x y u (W.setCell ⟨w.heap.size + 1, 2, none⟩ (.int .i64 u)) := by
 have e1 : w.heap.size ≠ w.heap.size + 1 := by omega
 have e2 : w.heap.size + 1 + 1 ≠ w.heap.size + 1 := by omega
 refine ⟨⟨h.1.far e1 _, h.2.1.put 0 _, h.2.2.1.far e2 _, bw_set h.2.2.2 (by omega) _⟩, ⟨h.1.far e1 _, h.2.1.put 1 _, h.2.2.1.far e2 _, bw_set h.2.2.2 (by omega) _⟩, ⟨h.1.far e1 _, h.2.1.put 2 _, h.2.2.1.far e2 _, bw_set h.2.2.2 (by omega) _⟩⟩
def RaRel (w : World) (n d : Nat) (u v i : Value) (wr : World) : Prop :=
 ∃ k rn rd a0 b0 a1 b1 a2 b2 : Nat, k ≤ 3 ∧ i = .int .i64 (k : Int) ∧ u = .int .i64 (rn : Int) ∧ v = .int .i64 (rd : Int) ∧ (Fac n a0 a1 a2 rn ∧ Fac d b0 b1 b2 rd) ∧ ((k = 0 → a0 = 0 ∧ b0 = 0) ∧ (k ≤ 1 → a1 = 0 ∧ b1 = 0) ∧ (k ≤ 2 → a2 = 0 ∧ b2 = 0)) ∧
  ((0 < k → rn % 2 ≠ 0 ∧ rd % 2 ≠ 0) ∧ (1 < k → rn % 3 ≠ 0 ∧ rd % 3 ≠ 0) ∧ (2 < k → rn % 5 ≠ 0 ∧ rd % 5 ≠ 0)) ∧ RaMem w ((a0 : Int) - b0) ((a1 : Int) - b1) ((a2 : Int) - b2) wr
theorem fac_le {n a b c r : Nat} (h : Fac n a b c r) (hn : 1 ≤ n) : 1 ≤ r ∧ r ≤ n := by
 have he := h.eq
 have hr : 1 ≤ r := by
  rcases Nat.eq_zero_or_pos r with h0 | h0
  ·subst h0; rw [Nat.mul_zero] at he; omega
  ·exact h0
 refine ⟨hr, ?_⟩
 rw [he]
 exact Nat.le_mul_of_pos_left _ (Nat.mul_pos (Nat.mul_pos (Nat.pow_pos (by decide)) (Nat.pow_pos (by decide))) (Nat.pow_pos (by decide)))
theorem fac_bd {n a b c r : Nat} (h : Fac n a b c r) (hn : 1 ≤ n) (hn2 : n ≤ 4611686018427387904) : a ≤ 62 ∧ b ≤ 62 ∧ c ≤ 62 := by
 have he := h.eq
 refine ⟨(strip_bd (p := 2) (c := a) (r := 3 ^ b * 5 ^ c * r) (by rw [he]; simp [Nat.mul_assoc]) hn hn2 (by decide)).1, (strip_bd (p := 3) (c := b) (r := 2 ^ a * 5 ^ c * r) (by rw [he]; simp [Nat.mul_assoc, Nat.mul_left_comm]) hn hn2 (by decide)).1, (strip_bd (p := 5) (c := c) (r := 2 ^ a * 3 ^ b * r) (by rw [he, Nat.mul_comm (2 ^ a * 3 ^ b) (5 ^ c), Nat.mul_assoc (5 ^ c)]) hn hn2 (by decide)).1⟩
theorem mod_keep {p q c r x : Nat} (h : x = q ^ c * r) (hx : x % p ≠ 0) : r % p ≠ 0 := fun e => hx (by rw [h]; exact Nat.mod_eq_zero_of_dvd (Nat.dvd_trans (Nat.dvd_of_mod_eq_zero e) (Nat.dvd_mul_left _ _)))
def RetRatio (n d : Nat) (w : World) (e : Ending) (w' : World) : Prop :=
 (∃ rn rd a0 b0 a1 b1 a2 b2 : Nat, (Fac n a0 a1 a2 rn ∧ Fac d b0 b1 b2 rd) ∧ (rn % 2 ≠ 0 ∧ rd % 2 ≠ 0) ∧ (rn % 3 ≠ 0 ∧ rd % 3 ≠ 0) ∧ (rn % 5 ≠ 0 ∧ rd % 5 ≠ 0) ∧
  e = .returned (if rn = rd then ivR ((a0 : Int) - b0) 1 ((a1 : Int) - b1) 1 ((a2 : Int) - b2) 1 else .tuple #[szv 0 0 0 0 0 0, .int .i64 7])) ∧ Below w.heap.size w w'
set_option maxRecDepth 100000 in
set_option maxHeartbeats 8000000 in
theorem ratio_any (n d : Nat) (w : World) (hn : 1 ≤ n) (hn2 : n ≤ 4611686018427387904) (hd : 1 ≤ d) (hd2 : d ≤ 4611686018427387904) :
  Calls Tryz.prog 77 #[.int .i64 (n : Int), .int .i64 (d : Int)] w (RetRatio n d w) := by
 have hM0 : RaMem w 0 0 0 (((w.alloc (.cells #[.int .i64 0, .int .i64 0, .int .i64 0, .int .i64 0, .int .i64 0, .int .i64 0] 36)).alloc (.cells #[.int .i64 0, .int .i64 0, .int .i64 0] 43)).alloc (.cells #[.int .i64 2, .int .i64 3, .int .i64 5] 3)) := by
  refine ⟨?_, ?_, ?_, bw_new (bw_new (bw_new (Below.refl _ _) _) _) _⟩
  ·exact Blk.alloc (t := 36) (cs := [.int .i64 0, .int .i64 0, .int .i64 0, .int .i64 0, .int .i64 0, .int .i64 0]) (Blk.alloc (t := 36) (cs := [.int .i64 0, .int .i64 0, .int .i64 0, .int .i64 0, .int .i64 0, .int .i64 0]) (heap_alloc_new w _) _) _
  ·have := heap_alloc_new (w.alloc (.cells #[.int .i64 0, .int .i64 0, .int .i64 0, .int .i64 0, .int .i64 0, .int .i64 0] 36)) (.cells #[.int .i64 0, .int .i64 0, .int .i64 0] 43)
   rw [World.size_alloc] at this
   exact Blk.alloc (t := 43) (cs := [.int .i64 0, .int .i64 0, .int .i64 0]) this _
  ·have := heap_alloc_new ((w.alloc (.cells #[.int .i64 0, .int .i64 0, .int .i64 0, .int .i64 0, .int .i64 0, .int .i64 0] 36)).alloc (.cells #[.int .i64 0, .int .i64 0, .int .i64 0] 43)) (.cells #[.int .i64 2, .int .i64 3, .int .i64 5] 3)
   rw [World.size_alloc, World.size_alloc] at this
   exact this
 have HM0 := Lib.hid hM0
 have HST := Lib.hid (fun (x q : Nat) (W : World) (h1 : 1 ≤ x) (h2 : x ≤ 4611686018427387904) (h3 : 2 ≤ q) (h4 : q ≤ 5) => strip_any x q W h1 h2 h3 h4)
 clear hM0
 go_enter Tryz.func77, Tryz.ntmps77
 go_wp2_with fail
 go_loopw [0, 1, 20] (fun u v i wr => RaRel w n d u v i wr) (fun _ _ i _ => 3 - (intOf i).toNat)
 case atStart => exact ⟨0, n, d, 0, 0, 0, 0, 0, 0, by omega, rfl, rfl, rfl, ⟨⟨by simp⟩, ⟨by simp⟩⟩, ⟨fun _ => ⟨rfl, rfl⟩, fun _ => ⟨rfl, rfl⟩, fun _ => ⟨rfl, rfl⟩⟩, ⟨fun h => absurd h (by decide), fun h => absurd h (by decide), fun h => absurd h (by decide)⟩, HM0.out⟩
 case round =>
  clear HM0
  obtain ⟨k, rn, rd, a0, b0, a1, b1, a2, b2, hk, rfl, rfl, rfl, ⟨hfn, hfd⟩, hz, hmod, hmem⟩ := hrel
  obtain ⟨rn1, rn2⟩ := fac_le hfn hn
  obtain ⟨rd1, rd2⟩ := fac_le hfd hd
  have HF := Lib.hid (And.intro hfn hfd)
  have HMD := Lib.hid hmod
  have HZ := Lib.hid hz
  have HM := Lib.hid hmem
  have hsz : w.heap.size + 1 + 1 < wr.heap.size := hmem.2.2.1.lt
  clear hfn hfd hmod hmem hz
  by_cases hlt : k < 3
  ·rcases (show k = 0 ∨ k = 1 ∨ k = 2 by omega) with rfl | rfl | rfl
   ·obtain ⟨rfl, rfl⟩ := HZ.out.1 rfl
    have c0 := HM.out.2.2.1.cell 0
    have e0 := HM.out.2.1.cell 0
    have f0 := HM.out.2.1.frozen 0
    have hs1 := HST.out rn 2 wr rn1 (by omega) (by decide) (by decide)
    have HS1 := Lib.hid hs1
    clear hs1
    go_wp2_with fail
    refine (HS1.out).mono ?_
    rintro e w1 ⟨ca, ra, rfl, hea, hma, rfl⟩
    have HA := Lib.hid (And.intro hea hma)
    obtain ⟨ka, ra1, ra2⟩ := strip_bd hea rn1 (by omega) (by decide)
    have hs2 := HST.out rd 2 wr rd1 (by omega) (by decide) (by decide)
    have HS2 := Lib.hid hs2
    clear hs2 hea hma
    go_wp2_with fail
    refine (HS2.out).mono ?_
    rintro e w1 ⟨cb, rb, rfl, heb, hmb, rfl⟩
    have HBB := Lib.hid (And.intro heb hmb)
    obtain ⟨kb, rb1, rb2⟩ := strip_bd heb rd1 (by omega) (by decide)
    clear heb hmb
    have HM2 := Lib.hid ((HM.out.put ((ca : Int) - cb)).1)
    go_wp2
    go_roundw
    case rel =>
     refine (show RaRel w n d (.int .i64 (ra : Int)) (.int .i64 (rb : Int)) (.int .i64 ((0 + 1 : Nat) : Int)) _ from ⟨0 + 1, ra, rb, ca, cb, a1, b1, a2, b2, by omega, rfl, rfl, rfl, ⟨⟨?_⟩, ⟨?_⟩⟩, ⟨fun h => absurd h (by decide), fun _ => HZ.out.2.1 (by decide), fun _ => HZ.out.2.2 (by decide)⟩, ⟨fun _ => ⟨HA.out.2, HBB.out.2⟩, fun h => absurd h (by decide), fun h => absurd h (by decide)⟩, HM2.out⟩)
     ·rw [HF.out.1.eq, HA.out.1]; simp only [Nat.pow_zero, Nat.one_mul, Nat.mul_assoc, Nat.mul_left_comm]
     ·rw [HF.out.2.eq, HBB.out.1]; simp only [Nat.pow_zero, Nat.one_mul, Nat.mul_assoc, Nat.mul_left_comm]
    case measure => simp [intOf]
   ·obtain ⟨rfl, rfl⟩ := HZ.out.2.1 (by decide)
    have c0 := HM.out.2.2.1.cell 1
    have e0 := HM.out.2.1.cell 1
    have f0 := HM.out.2.1.frozen 1
    have hs1 := HST.out rn 3 wr rn1 (by omega) (by decide) (by decide)
    have HS1 := Lib.hid hs1
    clear hs1
    go_wp2_with fail
    refine (HS1.out).mono ?_
    rintro e w1 ⟨ca, ra, rfl, hea, hma, rfl⟩
    have HA := Lib.hid (And.intro hea hma)
    obtain ⟨ka, ra1, ra2⟩ := strip_bd hea rn1 (by omega) (by decide)
    have hs2 := HST.out rd 3 wr rd1 (by omega) (by decide) (by decide)
    have HS2 := Lib.hid hs2
    clear hs2 hea hma
    go_wp2_with fail
    refine (HS2.out).mono ?_
    rintro e w1 ⟨cb, rb, rfl, heb, hmb, rfl⟩
    have HBB := Lib.hid (And.intro heb hmb)
    obtain ⟨kb, rb1, rb2⟩ := strip_bd heb rd1 (by omega) (by decide)
    clear heb hmb
    have HM2 := Lib.hid ((HM.out.put ((ca : Int) - cb)).2.1)
    go_wp2
    go_roundw
    case rel =>
     refine (show RaRel w n d (.int .i64 (ra : Int)) (.int .i64 (rb : Int)) (.int .i64 ((1 + 1 : Nat) : Int)) _ from ⟨1 + 1, ra, rb, a0, b0, ca, cb, a2, b2, by omega, rfl, rfl, rfl, ⟨⟨?_⟩, ⟨?_⟩⟩, ⟨fun h => absurd h (by decide), fun h => absurd h (by decide), fun _ => HZ.out.2.2 (by decide)⟩, ⟨fun _ => ⟨mod_keep HA.out.1 (HMD.out.1 (by decide)).1, mod_keep HBB.out.1 (HMD.out.1 (by decide)).2⟩, fun _ => ⟨HA.out.2, HBB.out.2⟩, fun h => absurd h (by decide)⟩, HM2.out⟩)
     ·rw [HF.out.1.eq, HA.out.1]; simp only [Nat.pow_zero, Nat.mul_one, Nat.mul_assoc, Nat.mul_left_comm]
     ·rw [HF.out.2.eq, HBB.out.1]; simp only [Nat.pow_zero, Nat.mul_one, Nat.mul_assoc, Nat.mul_left_comm]
    case measure => simp [intOf]
   ·obtain ⟨rfl, rfl⟩ := HZ.out.2.2 (by decide)
    have c0 := HM.out.2.2.1.cell 2
    have e0 := HM.out.2.1.cell 2
    have f0 := HM.out.2.1.frozen 2
    have hs1 := HST.out rn 5 wr rn1 (by omega) (by decide) (by decide)
    have HS1 := Lib.hid hs1
    clear hs1
    go_wp2_with fail
    refine (HS1.out).mono ?_
    rintro e w1 ⟨ca, ra, rfl, hea, hma, rfl⟩
    have HA := Lib.hid (And.intro hea hma)
    obtain ⟨ka, ra1, ra2⟩ := strip_bd hea rn1 (by omega) (by decide)
    have hs2 := HST.out rd 5 wr rd1 (by omega) (by decide) (by decide)
    have HS2 := Lib.hid hs2
    clear hs2 hea hma
    go_wp2_with fail
    refine (HS2.out).mono ?_
    rintro e w1 ⟨cb, rb, rfl, heb, hmb, rfl⟩
    have HBB := Lib.hid (And.intro heb hmb)
    obtain ⟨kb, rb1, rb2⟩ := strip_bd heb rd1 (by omega) (by decide)
    clear heb hmb
    have HM2 := Lib.hid ((HM.out.put ((ca : Int) - cb)).2.2)
    go_wp2
    go_roundw
    case rel =>
     refine (show RaRel w n d (.int .i64 (ra : Int)) (.int .i64 (rb : Int)) (.int .i64 ((2 + 1 : Nat) : Int)) _ from ⟨2 + 1, ra, rb, a0, b0, a1, b1, ca, cb, by omega, rfl, rfl, rfl, ⟨⟨?_⟩, ⟨?_⟩⟩, ⟨fun h => absurd h (by decide), fun h => absurd h (by decide), fun h => absurd h (by decide)⟩, ⟨fun _ => ⟨mod_keep HA.out.1 (HMD.out.1 (by decide)).1, mod_keep HBB.out.1 (HMD.out.1 (by decide)).2⟩, fun _ => ⟨mod_keep HA.out.1 (HMD.out.2.1 (by decide)).1, mod_keep HBB.out.1 (HMD.out.2.1 (by decide)).2⟩, fun _ => ⟨HA.out.2, HBB.out.2⟩⟩, HM2.out⟩)
     ·rw [HF.out.1.eq, HA.out.1]; simp only [Nat.pow_zero, Nat.mul_one, Nat.mul_assoc]
     ·rw [HF.out.2.eq, HBB.out.1]; simp only [Nat.pow_zero, Nat.mul_one, Nat.mul_assoc]
    case measure => simp [intOf]
  ·obtain rfl : k = 3 := by omega
   obtain ⟨ba0, ba1, ba2⟩ := fac_bd HF.out.1 hn hn2
   obtain ⟨bb0, bb1, bb2⟩ := fac_bd HF.out.2 hd hd2
   have HMD2 := Lib.hid (And.intro (HMD.out.1 (by decide)) (And.intro (HMD.out.2.1 (by decide)) (HMD.out.2.2 (by decide))))
   obtain ⟨c0, c1, c2⟩ := three_of HM.out.2.1
   obtain ⟨e0, e1, e2, e3, e4, e5⟩ := six_of HM.out.1
   obtain ⟨f0, f1, f2, f3, f4, f5⟩ := six_free HM.out.1
   by_cases hrr : rn = rd
   ·subst hrr
    have hi := fun W => iof_any ((a0 : Int) - b0) ((a1 : Int) - b1) ((a2 : Int) - b2) W ⟨by omega, by omega⟩ ⟨by omega, by omega⟩ ⟨by omega, by omega⟩
    obtain ⟨r0, r1, r2, r3, r4, r5, q, hrr⟩ : ∃ r0 r1 r2 r3 r4 r5 q, ivR ((a0 : Int) - b0) 1 ((a1 : Int) - b1) 1 ((a2 : Int) - b2) 1 = .tuple #[szv r0 r1 r2 r3 r4 r5, .int .i64 q] := by
     unfold ivR; split
     ·exact ⟨_, _, _, _, _, _, _, rfl⟩
     ·exact ⟨_, _, _, _, _, _, _, rfl⟩
    rw [hrr] at hi
    have HI := Lib.hid hi
    have HRR := Lib.hid hrr
    clear hi hrr
    go_wp2_with fail
    refine (HI.out _).mono ?_
    rintro e w1 ⟨rfl, hb⟩
    have HM2 := Lib.hid (HM.out.below hb)
    clear hb c0 c1 c2 e0 e1 e2 e3 e4 e5 f0 f1 f2 f3 f4 f5
    obtain ⟨e0, e1, e2, e3, e4, e5⟩ := six_of HM2.out.1
    obtain ⟨f0, f1, f2, f3, f4, f5⟩ := six_free HM2.out.1
    go_wp2
    obtain ⟨WZ, hWZ⟩ : ∃ WZ, WZ = ((((((w1.setCell ⟨w.heap.size, 0, none⟩ (.int .i64 r0)).setCell ⟨w.heap.size, 1, none⟩ (.int .i64 r1)).setCell ⟨w.heap.size, 2, none⟩ (.int .i64 r2)).setCell ⟨w.heap.size, 3, none⟩ (.int .i64 r3)).setCell ⟨w.heap.size, 4, none⟩ (.int .i64 r4)).setCell ⟨w.heap.size, 5, none⟩ (.int .i64 r5)) := ⟨_, rfl⟩
    obtain ⟨g0, g1, g2, g3, g4, g5⟩ := six_of (show Blk WZ _ _ _ by rw [hWZ]; exact six_put HM2.out.1 _ _ _ _ _ _)
    have hww : Below w.heap.size w WZ := by rw [hWZ]; exact six_below HM2.out.2.2.2 (Nat.le_refl _) _ _ _ _ _ _
    rw [← hWZ]
    exact bodyPost_ret (v := .tuple #[szv r0 r1 r2 r3 r4 r5, .int .i64 q]) (by simp [g0, g1, g2, g3, g4, g5, results, Tryz.results77, go_sem]) rfl ⟨⟨rn, rn, a0, b0, a1, b1, a2, b2, HF.out, HMD2.out.1, HMD2.out.2.1, HMD2.out.2.2, by rw [if_pos rfl, HRR.out]⟩, hww⟩
   ·have hne : ((rn : Int) != (rd : Int)) = true := by rw [bne_iff_ne]; omega
    have hne2 : ((rn : Int) == (rd : Int)) = false := by rw [beq_eq_false_iff_ne]; omega
    have HRR := Lib.hid hrr
    clear hrr
    go_wp2
    obtain ⟨WZ, hWZ⟩ : ∃ WZ, WZ = ((((((wr.setCell ⟨w.heap.size, 0, none⟩ (.int .i64 0)).setCell ⟨w.heap.size, 1, none⟩ (.int .i64 0)).setCell ⟨w.heap.size, 2, none⟩ (.int .i64 0)).setCell ⟨w.heap.size, 3, none⟩ (.int .i64 0)).setCell ⟨w.heap.size, 4, none⟩ (.int .i64 0)).setCell ⟨w.heap.size, 5, none⟩ (.int .i64 0)) := ⟨_, rfl⟩
    obtain ⟨g0, g1, g2, g3, g4, g5⟩ := six_of (show Blk WZ _ _ _ by rw [hWZ]; exact six_put HM.out.1 _ _ _ _ _ _)
    have hww : Below w.heap.size w WZ := by rw [hWZ]; exact six_below HM.out.2.2.2 (Nat.le_refl _) _ _ _ _ _ _
    rw [← hWZ]
    exact bodyPost_ret (v := .tuple #[szv 0 0 0 0 0 0, .int .i64 7]) (by simp [g0, g1, g2, g3, g4, g5, results, Tryz.results77, go_sem]) rfl ⟨⟨rn, rd, a0, b0, a1, b1, a2, b2, HF.out, HMD2.out.1, HMD2.out.2.1, HMD2.out.2.2, by rw [if_neg HRR.out]⟩, hww⟩
end
section
theorem pow_uniq {p : Nat} (hp : 2 ≤ p) : ∀ {a b x y : Nat}, p ^ a * x = p ^ b * y → x % p ≠ 0 → y % p ≠ 0 → a = b ∧ x = y
 | 0, 0, x, y, h, _, _ => by simpa using h
 | 0, b + 1, x, y, h, hx, _ => by
  exfalso
  apply hx
  rw [Nat.pow_zero, Nat.one_mul, Nat.pow_succ, Nat.mul_comm (p ^ b) p, Nat.mul_assoc] at h
  rw [h]
  exact Nat.mul_mod_right _ _
 | a + 1, 0, x, y, h, _, hy => by
  exfalso
  apply hy
  rw [Nat.pow_zero, Nat.one_mul, Nat.pow_succ, Nat.mul_comm (p ^ a) p, Nat.mul_assoc] at h
  rw [← h]
  exact Nat.mul_mod_right _ _
 | a + 1, b + 1, x, y, h, hx, hy => by
  rw [Nat.pow_succ, Nat.pow_succ, Nat.mul_comm (p ^ a) p, Nat.mul_comm (p ^ b) p, Nat.mul_assoc, Nat.mul_assoc] at h
  obtain ⟨h1, h2⟩ := pow_uniq hp (Nat.eq_of_mul_eq_mul_left (by omega) h) hx hy
  exact ⟨by omega, h2⟩
def Pr (p : Nat) : Prop := 2 ≤ p ∧ ∀ u < p, ∀ v < p, u ≠ 0 → v ≠ 0 → (u * v) % p ≠ 0
theorem pr_two : Pr 2 := ⟨by decide, by decide⟩
theorem pr_three : Pr 3 := ⟨by decide, by decide⟩
theorem Pr.mul {p x y : Nat} (h : Pr p) (hx : x % p ≠ 0) (hy : y % p ≠ 0) : (x * y) % p ≠ 0 := by
 have hp : 0 < p := by have := h.1; omega
 rw [Nat.mul_mod]
 exact h.2 _ (Nat.mod_lt _ hp) _ (Nat.mod_lt _ hp) hx hy
theorem Pr.pow {p x : Nat} (h : Pr p) (hx : x % p ≠ 0) : ∀ n, (x ^ n) % p ≠ 0
 | 0 => by rw [Nat.pow_zero, Nat.mod_eq_of_lt (by have := h.1; omega)]; decide
 | n + 1 => by rw [Nat.pow_succ]; exact h.mul (Pr.pow h hx n) hx
theorem fac_uniq {n a b c r a' b' c' r' : Nat} (h : Fac n a b c r) (h' : Fac n a' b' c' r') (h2 : r % 2 ≠ 0) (h3 : r % 3 ≠ 0) (h5 : r % 5 ≠ 0) (k2 : r' % 2 ≠ 0) (k3 : r' % 3 ≠ 0) (k5 : r' % 5 ≠ 0) : a = a' ∧ b = b' ∧ c = c' ∧ r = r' := by
 have e : 2 ^ a * (3 ^ b * (5 ^ c * r)) = 2 ^ a' * (3 ^ b' * (5 ^ c' * r')) := by
  have h1 := h.eq.symm.trans h'.eq
  simpa only [Nat.mul_assoc] using h1
 have p2 : ∀ {b c r : Nat}, r % 2 ≠ 0 → (3 ^ b * (5 ^ c * r)) % 2 ≠ 0 := fun hr => pr_two.mul (pr_two.pow (by decide) _) (pr_two.mul (pr_two.pow (by decide) _) hr)
 obtain ⟨e1, e⟩ := pow_uniq (by decide) e (p2 h2) (p2 k2)
 have p3 : ∀ {c r : Nat}, r % 3 ≠ 0 → (5 ^ c * r) % 3 ≠ 0 := fun hr => pr_three.mul (pr_three.pow (by decide) _) hr
 obtain ⟨e2, e⟩ := pow_uniq (by decide) e (p3 h3) (p3 k3)
 obtain ⟨e3, e4⟩ := pow_uniq (by decide) e h5 k5
 exact ⟨e1, e2, e3, e4⟩
end
end Go.Proofs.YtlmheeommpbimaaGreatDoor
namespace Go.Proofs.YtlmheeommpbimaaGreatDoor
open Go.RowKit
def nmV (n d : Nat) : Value := .agg #[.int .i64 (n : Int), .int .i64 (d : Int)]
def nmEnc (L : List (ByteArray × Nat × Nat)) : List (ByteArray × Value) := L.map fun p => (p.1, nmV p.2.1 p.2.2)
def nmGet (k : ByteArray) : List (ByteArray × Nat × Nat) → Option (Nat × Nat)
 | [] => none
 | p :: L => if k = p.1 then some p.2 else nmGet k L
theorem nmGet_fnd (k : ByteArray) : ∀ (L : List (ByteArray × Nat × Nat)) (i : Nat), (fnd k (nmEnc L) i).map (·.2) = (nmGet k L).map fun q => nmV q.1 q.2
 | [], _ => rfl
 | p :: L, i => by
  unfold nmEnc nmGet
  rw [List.map_cons]
  unfold fnd
  by_cases h : k = p.1
  ·rw [if_pos h, if_pos h]; rfl
  ·rw [if_neg h, if_neg h]; exact nmGet_fnd k L (i + 1)
theorem nmGet_mem (k : ByteArray) : ∀ (L : List (ByteArray × Nat × Nat)) (q : Nat × Nat), nmGet k L = some q → ∃ s, (s, q) ∈ L
 | [], _, h => by cases h
 | p :: L, q, h => by
  unfold nmGet at h
  by_cases e : k = p.1
  ·rw [if_pos e] at h
   injection h with h
   exact ⟨p.1, by rw [← h]; exact List.mem_cons_self⟩
  ·rw [if_neg e] at h
   obtain ⟨s, hs⟩ := nmGet_mem k L q h
   exact ⟨s, List.mem_cons_of_mem _ hs⟩
theorem fnd_out (k : ByteArray) : ∀ (L : List (ByteArray × Nat × Nat)) (i : Nat), (∀ p ∈ L, k ≠ p.1) → fnd k (nmEnc L) i = none
 | [], _, _ => rfl
 | p :: L, i, h => by
  unfold nmEnc
  rw [List.map_cons]
  unfold fnd
  rw [if_neg (h p List.mem_cons_self)]
  exact fnd_out k L (i + 1) fun q hq => h q (List.mem_cons_of_mem _ hq)
def nmTab : List (ByteArray × Nat × Nat) := [(⟨#[117, 110, 105, 115, 111, 110]⟩, 1, 1), (⟨#[111, 99, 116, 97, 118, 101]⟩, 2, 1), (⟨#[102, 105, 102, 116, 104]⟩, 3, 2), (⟨#[102, 111, 117, 114, 116, 104]⟩, 4, 3), (⟨#[116, 104, 105, 114, 100]⟩, 5, 4), (⟨#[109, 105, 110, 111, 114]⟩, 6, 5), (⟨#[116, 111, 110, 101]⟩, 9, 8), (⟨#[115, 121, 110, 116, 111, 110, 105, 99]⟩, 81, 80), (⟨#[112, 121, 116, 104, 97, 103, 111, 114, 101, 97, 110]⟩, 531441, 524288), (⟨#[115, 99, 104, 105, 115, 109, 97]⟩, 32805, 32768), (⟨#[100, 105, 101, 115, 105, 115]⟩, 128, 125)]
theorem nmTab_bd : ∀ q ∈ nmTab, (1 ≤ q.2.1 ∧ q.2.1 ≤ 4611686018427387904) ∧ (1 ≤ q.2.2 ∧ q.2.2 ≤ 4611686018427387904) := by
 unfold nmTab
 intro q hq
 simp only [List.mem_cons, List.not_mem_nil, or_false] at hq
 rcases hq with rfl | rfl | rfl | rfl | rfl | rfl | rfl | rfl | rfl | rfl | rfl <;> exact ⟨⟨by decide, by decide⟩, by decide, by decide⟩
theorem nm_store {W : World} {b : Nat} {L : List (ByteArray × Nat × Nat)} (h : MapB (strKeys Tryz.underlying9) W b (nmEnc L)) (k : ByteArray) (n d : Nat) (hk : ∀ p ∈ L, k ≠ p.1) :
  ∃ w', (Instr.mapUpdate 116 (.map (some b)) (.string k) (nmV n d)).run Tryz.prog W = .ok () w' ∧ MapB (strKeys Tryz.underlying9) w' b (nmEnc (L ++ [(k, n, d)])) ∧ W.grownBy w' (some b) := by
 obtain ⟨w', h1, h2, h3⟩ := run_store (strKeys Tryz.underlying9) Tryz.underlying116 h k (nmV n d)
 refine ⟨w', h1, ?_, h3⟩
 unfold mput at h2
 rw [fnd_out k L 0 hk] at h2
 have e : nmEnc (L ++ [(k, n, d)]) = nmEnc L ++ [(k, nmV n d)] := by simp [nmEnc]
 rw [e]
 exact h2
theorem nm_look {W : World} {b : Nat} {L : List (ByteArray × Nat × Nat)} (h : MapB (strKeys Tryz.underlying9) W b (nmEnc L)) (k : ByteArray) :
  (Instr.lookup 116 (.map (some b)) (.string k) true).run Tryz.prog W = .ok (match nmGet k L with | some q => .tuple #[nmV q.1 q.2, .bool true] | none => .tuple #[nmV 0 0, .bool false]) W := by
 have hl := run_look (strKeys Tryz.underlying9) Tryz.underlying116 (z := nmV 0 0) (fun w => by first | exact Tryz.zeroValue77 w | kernel_rfl) h k true
 rw [if_pos rfl] at hl
 refine hl.trans ?_
 unfold mget
 rw [nmGet_fnd k L 0]
 cases nmGet k L with
 | none => rfl
 | some q => rfl
theorem nm_chain (W : World) (b : Nat) (h : MapB (strKeys Tryz.underlying9) W b []) : ∃ w1 w2 w3 w4 w5 w6 w7 w8 w9 w10 w11 : World,
  (Instr.mapUpdate 116 (.map (some b)) (.string ⟨#[117, 110, 105, 115, 111, 110]⟩) (.agg #[.int .i64 1, .int .i64 1])).run Tryz.prog W = .ok () w1 ∧
  (Instr.mapUpdate 116 (.map (some b)) (.string ⟨#[111, 99, 116, 97, 118, 101]⟩) (.agg #[.int .i64 2, .int .i64 1])).run Tryz.prog w1 = .ok () w2 ∧
  (Instr.mapUpdate 116 (.map (some b)) (.string ⟨#[102, 105, 102, 116, 104]⟩) (.agg #[.int .i64 3, .int .i64 2])).run Tryz.prog w2 = .ok () w3 ∧
  (Instr.mapUpdate 116 (.map (some b)) (.string ⟨#[102, 111, 117, 114, 116, 104]⟩) (.agg #[.int .i64 4, .int .i64 3])).run Tryz.prog w3 = .ok () w4 ∧
  (Instr.mapUpdate 116 (.map (some b)) (.string ⟨#[116, 104, 105, 114, 100]⟩) (.agg #[.int .i64 5, .int .i64 4])).run Tryz.prog w4 = .ok () w5 ∧
  (Instr.mapUpdate 116 (.map (some b)) (.string ⟨#[109, 105, 110, 111, 114]⟩) (.agg #[.int .i64 6, .int .i64 5])).run Tryz.prog w5 = .ok () w6 ∧
  (Instr.mapUpdate 116 (.map (some b)) (.string ⟨#[116, 111, 110, 101]⟩) (.agg #[.int .i64 9, .int .i64 8])).run Tryz.prog w6 = .ok () w7 ∧
  (Instr.mapUpdate 116 (.map (some b)) (.string ⟨#[115, 121, 110, 116, 111, 110, 105, 99]⟩) (.agg #[.int .i64 81, .int .i64 80])).run Tryz.prog w7 = .ok () w8 ∧
  (Instr.mapUpdate 116 (.map (some b)) (.string ⟨#[112, 121, 116, 104, 97, 103, 111, 114, 101, 97, 110]⟩) (.agg #[.int .i64 531441, .int .i64 524288])).run Tryz.prog w8 = .ok () w9 ∧
  (Instr.mapUpdate 116 (.map (some b)) (.string ⟨#[115, 99, 104, 105, 115, 109, 97]⟩) (.agg #[.int .i64 32805, .int .i64 32768])).run Tryz.prog w9 = .ok () w10 ∧
  (Instr.mapUpdate 116 (.map (some b)) (.string ⟨#[100, 105, 101, 115, 105, 115]⟩) (.agg #[.int .i64 128, .int .i64 125])).run Tryz.prog w10 = .ok () w11 ∧
  MapB (strKeys Tryz.underlying9) w11 b (nmEnc nmTab) ∧ W.grownBy w11 (some b) := by
 obtain ⟨w1, r1, m1, g1⟩ := nm_store (L := []) h ⟨#[117, 110, 105, 115, 111, 110]⟩ 1 1 (by decide)
 obtain ⟨w2, r2, m2, g2⟩ := nm_store (L := [(⟨#[117, 110, 105, 115, 111, 110]⟩, 1, 1)]) m1 ⟨#[111, 99, 116, 97, 118, 101]⟩ 2 1 (by decide)
 have g2 := g1.trans g2
 obtain ⟨w3, r3, m3, g3⟩ := nm_store (L := [(⟨#[117, 110, 105, 115, 111, 110]⟩, 1, 1), (⟨#[111, 99, 116, 97, 118, 101]⟩, 2, 1)]) m2 ⟨#[102, 105, 102, 116, 104]⟩ 3 2 (by decide)
 have g3 := g2.trans g3
 obtain ⟨w4, r4, m4, g4⟩ := nm_store (L := [(⟨#[117, 110, 105, 115, 111, 110]⟩, 1, 1), (⟨#[111, 99, 116, 97, 118, 101]⟩, 2, 1), (⟨#[102, 105, 102, 116, 104]⟩, 3, 2)]) m3 ⟨#[102, 111, 117, 114, 116, 104]⟩ 4 3 (by decide)
 have g4 := g3.trans g4
 obtain ⟨w5, r5, m5, g5⟩ := nm_store (L := [(⟨#[117, 110, 105, 115, 111, 110]⟩, 1, 1), (⟨#[111, 99, 116, 97, 118, 101]⟩, 2, 1), (⟨#[102, 105, 102, 116, 104]⟩, 3, 2), (⟨#[102, 111, 117, 114, 116, 104]⟩, 4, 3)]) m4 ⟨#[116, 104, 105, 114, 100]⟩ 5 4 (by decide)
 have g5 := g4.trans g5
 obtain ⟨w6, r6, m6, g6⟩ := nm_store (L := [(⟨#[117, 110, 105, 115, 111, 110]⟩, 1, 1), (⟨#[111, 99, 116, 97, 118, 101]⟩, 2, 1), (⟨#[102, 105, 102, 116, 104]⟩, 3, 2), (⟨#[102, 111, 117, 114, 116, 104]⟩, 4, 3), (⟨#[116, 104, 105, 114, 100]⟩, 5, 4)]) m5 ⟨#[109, 105, 110, 111, 114]⟩ 6 5 (by decide)
 have g6 := g5.trans g6
 obtain ⟨w7, r7, m7, g7⟩ := nm_store (L := [(⟨#[117, 110, 105, 115, 111, 110]⟩, 1, 1), (⟨#[111, 99, 116, 97, 118, 101]⟩, 2, 1), (⟨#[102, 105, 102, 116, 104]⟩, 3, 2), (⟨#[102, 111, 117, 114, 116, 104]⟩, 4, 3), (⟨#[116, 104, 105, 114, 100]⟩, 5, 4), (⟨#[109, 105, 110, 111, 114]⟩, 6, 5)]) m6 ⟨#[116, 111, 110, 101]⟩ 9 8 (by decide)
 have g7 := g6.trans g7
 obtain ⟨w8, r8, m8, g8⟩ := nm_store (L := [(⟨#[117, 110, 105, 115, 111, 110]⟩, 1, 1), (⟨#[111, 99, 116, 97, 118, 101]⟩, 2, 1), (⟨#[102, 105, 102, 116, 104]⟩, 3, 2), (⟨#[102, 111, 117, 114, 116, 104]⟩, 4, 3), (⟨#[116, 104, 105, 114, 100]⟩, 5, 4), (⟨#[109, 105, 110, 111, 114]⟩, 6, 5), (⟨#[116, 111, 110, 101]⟩, 9, 8)]) m7 ⟨#[115, 121, 110, 116, 111, 110, 105, 99]⟩ 81 80 (by decide)
 have g8 := g7.trans g8
 obtain ⟨w9, r9, m9, g9⟩ := nm_store (L := [(⟨#[117, 110, 105, 115, 111, 110]⟩, 1, 1), (⟨#[111, 99, 116, 97, 118, 101]⟩, 2, 1), (⟨#[102, 105, 102, 116, 104]⟩, 3, 2), (⟨#[102, 111, 117, 114, 116, 104]⟩, 4, 3), (⟨#[116, 104, 105, 114, 100]⟩, 5, 4), (⟨#[109, 105, 110, 111, 114]⟩, 6, 5), (⟨#[116, 111, 110, 101]⟩, 9, 8), (⟨#[115, 121, 110, 116, 111, 110, 105, 99]⟩, 81, 80)]) m8 ⟨#[112, 121, 116, 104, 97, 103, 111, 114, 101, 97, 110]⟩ 531441 524288 (by decide)
 have g9 := g8.trans g9
 obtain ⟨w10, r10, m10, g10⟩ := nm_store (L := [(⟨#[117, 110, 105, 115, 111, 110]⟩, 1, 1), (⟨#[111, 99, 116, 97, 118, 101]⟩, 2, 1), (⟨#[102, 105, 102, 116, 104]⟩, 3, 2), (⟨#[102, 111, 117, 114, 116, 104]⟩, 4, 3), (⟨#[116, 104, 105, 114, 100]⟩, 5, 4), (⟨#[109, 105, 110, 111, 114]⟩, 6, 5), (⟨#[116, 111, 110, 101]⟩, 9, 8), (⟨#[115, 121, 110, 116, 111, 110, 105, 99]⟩, 81, 80), (⟨#[112, 121, 116, 104, 97, 103, 111, 114, 101, 97, 110]⟩, 531441, 524288)]) m9 ⟨#[115, 99, 104, 105, 115, 109, 97]⟩ 32805 32768 (by decide)
 have g10 := g9.trans g10
 obtain ⟨w11, r11, m11, g11⟩ := nm_store (L := [(⟨#[117, 110, 105, 115, 111, 110]⟩, 1, 1), (⟨#[111, 99, 116, 97, 118, 101]⟩, 2, 1), (⟨#[102, 105, 102, 116, 104]⟩, 3, 2), (⟨#[102, 111, 117, 114, 116, 104]⟩, 4, 3), (⟨#[116, 104, 105, 114, 100]⟩, 5, 4), (⟨#[109, 105, 110, 111, 114]⟩, 6, 5), (⟨#[116, 111, 110, 101]⟩, 9, 8), (⟨#[115, 121, 110, 116, 111, 110, 105, 99]⟩, 81, 80), (⟨#[112, 121, 116, 104, 97, 103, 111, 114, 101, 97, 110]⟩, 531441, 524288), (⟨#[115, 99, 104, 105, 115, 109, 97]⟩, 32805, 32768)]) m10 ⟨#[100, 105, 101, 115, 105, 115]⟩ 128 125 (by decide)
 have g11 := g10.trans g11
 exact ⟨w1, w2, w3, w4, w5, w6, w7, w8, w9, w10, w11, r1, r2, r3, r4, r5, r6, r7, r8, r9, r10, r11, m11, g11⟩
def RetNamed (k : ByteArray) (w : World) (e : Ending) (w' : World) : Prop :=
 match nmGet k nmTab with
 | none => e = .returned (.tuple #[szv 0 0 0 0 0 0, .int .i64 10]) ∧ Below w.heap.size w w'
 | some q => RetRatio q.1 q.2 w e w'
theorem RetRatio.tup {n d : Nat} {w w' : World} {e : Ending} (h : RetRatio n d w e w') : ∃ r0 r1 r2 r3 r4 r5 q, e = .returned (.tuple #[szv r0 r1 r2 r3 r4 r5, .int .i64 q]) := by
 obtain ⟨⟨rn, rd, a0, b0, a1, b1, a2, b2, _, _, _, _, he⟩, _⟩ := h
 rw [he]
 unfold ivR
 split
 ·split
  ·exact ⟨_, _, _, _, _, _, _, rfl⟩
  ·exact ⟨_, _, _, _, _, _, _, rfl⟩
 ·exact ⟨_, _, _, _, _, _, _, rfl⟩
set_option maxRecDepth 100000 in
set_option maxHeartbeats 4000000 in
theorem named_any (k : ByteArray) (w : World) :
  Calls Tryz.prog 41 #[.string k] w (RetNamed k w) := by
 have hm0 := MapB.new (strKeys Tryz.underlying9) (w.alloc (.cells #[.int .i64 0, .int .i64 0, .int .i64 0, .int .i64 0, .int .i64 0, .int .i64 0] 36))
 rw [World.size_alloc] at hm0
 obtain ⟨w1, w2, w3, w4, w5, w6, w7, w8, w9, w10, w11, r1, r2, r3, r4, r5, r6, r7, r8, r9, r10, r11, hm, hg⟩ := nm_chain _ _ hm0
 have hy : Blk ((w.alloc (.cells #[.int .i64 0, .int .i64 0, .int .i64 0, .int .i64 0, .int .i64 0, .int .i64 0] 36)).alloc (.map #[] 0)) w.heap.size 36 [.int .i64 0, .int .i64 0, .int .i64 0, .int .i64 0, .int .i64 0, .int .i64 0] := Blk.alloc (t := 36) (cs := [.int .i64 0, .int .i64 0, .int .i64 0, .int .i64 0, .int .i64 0, .int .i64 0]) (heap_alloc_new w _) _
 have hy2 : Blk w11 w.heap.size 36 [.int .i64 0, .int .i64 0, .int .i64 0, .int .i64 0, .int .i64 0, .int .i64 0] := (hg.block _ hy.lt (by intro e; injection e with e; omega)).trans hy
 have hb : Below w.heap.size w w11 := (bw_new (bw_new (Below.refl _ w) _) _).grown hg (by simp; omega) (by intro r e; cases e; omega)
 have hsz := hg.size
 rw [World.size_alloc, World.size_alloc] at hsz
 have hl := nm_look hm k
 have HY := Lib.hid hy2
 have HBW := Lib.hid hb
 have HL := Lib.hid hl
 have hmm := @run_makeMap Tryz.prog

 have R1 := Lib.hid r1
 have R2 := Lib.hid r2
 have R3 := Lib.hid r3
 have R4 := Lib.hid r4
 have R5 := Lib.hid r5
 have R6 := Lib.hid r6
 have R7 := Lib.hid r7
 have R8 := Lib.hid r8
 have R9 := Lib.hid r9
 have R10 := Lib.hid r10
 have R11 := Lib.hid r11
 clear hm hg hy hy2 hb hl hm0 r1 r2 r3 r4 r5 r6 r7 r8 r9 r10 r11
 go_enter Tryz.func41, Tryz.ntmps41
 go_wp2_with fail
 rw [R1.out]
 simp only [Result.andThen]
 rw [Oper.upon_skip]
 go_wp2_with fail
 rw [R2.out]
 simp only [Result.andThen]
 rw [Oper.upon_skip]
 go_wp2_with fail
 rw [R3.out]
 simp only [Result.andThen]
 rw [Oper.upon_skip]
 go_wp2_with fail
 rw [R4.out]
 simp only [Result.andThen]
 rw [Oper.upon_skip]
 go_wp2_with fail
 rw [R5.out]
 simp only [Result.andThen]
 rw [Oper.upon_skip]
 go_wp2_with fail
 rw [R6.out]
 simp only [Result.andThen]
 rw [Oper.upon_skip]
 go_wp2_with fail
 rw [R7.out]
 simp only [Result.andThen]
 rw [Oper.upon_skip]
 go_wp2_with fail
 rw [R8.out]
 simp only [Result.andThen]
 rw [Oper.upon_skip]
 go_wp2_with fail
 rw [R9.out]
 simp only [Result.andThen]
 rw [Oper.upon_skip]
 go_wp2_with fail
 rw [R10.out]
 simp only [Result.andThen]
 rw [Oper.upon_skip]
 go_wp2_with fail
 rw [R11.out]
 simp only [Result.andThen]
 rw [Oper.upon_skip]
 go_wp2_with fail
 rw [HL.out]
 simp only [Result.andThen]
 rw [Oper.upon_value]
 clear HL hmm
 obtain ⟨e0, e1, e2, e3, e4, e5⟩ := six_of HY.out
 obtain ⟨f0, f1, f2, f3, f4, f5⟩ := six_free HY.out
 have hlt : w.heap.size < w11.heap.size := HY.out.lt
 clear hsz
 cases hq : nmGet k nmTab with
 | none =>
  have HQ := Lib.hid hq
  clear hq
  dsimp only
  unfold nmV
  go_wp2
  obtain ⟨WZ, hWZ⟩ : ∃ WZ, WZ = (((((((w11.setCell ⟨w.heap.size, 0, none⟩ (.int .i64 0)).setCell ⟨w.heap.size, 1, none⟩ (.int .i64 0)).setCell ⟨w.heap.size, 2, none⟩ (.int .i64 0)).setCell ⟨w.heap.size, 3, none⟩ (.int .i64 0)).setCell ⟨w.heap.size, 4, none⟩ (.int .i64 0)).setCell ⟨w.heap.size, 5, none⟩ (.int .i64 0))).alloc (.cells #[.int .i64 0, .int .i64 0] 77) := ⟨_, rfl⟩
  obtain ⟨g0, g1, g2, g3, g4, g5⟩ := six_of (show Blk WZ _ 36 [.int .i64 0, .int .i64 0, .int .i64 0, .int .i64 0, .int .i64 0, .int .i64 0] by rw [hWZ]; exact Blk.alloc (six_put HY.out _ _ _ _ _ _) _)
  have hww : Below w.heap.size w WZ := by rw [hWZ]; exact bw_new (six_below HBW.out (Nat.le_refl _) _ _ _ _ _ _) _
  rw [← hWZ]
  exact bodyPost_ret (v := .tuple #[szv 0 0 0 0 0 0, .int .i64 10]) (by simp [g0, g1, g2, g3, g4, g5, results, Tryz.results41, go_sem]) rfl (by unfold RetNamed; rw [HQ.out]; exact ⟨rfl, hww⟩)
 | some q =>
  obtain ⟨n, d⟩ := q
  obtain ⟨s, hs⟩ := nmGet_mem k nmTab _ hq
  obtain ⟨⟨b1, b2⟩, b3, b4⟩ := nmTab_bd _ hs
  have hr := fun W => ratio_any n d W b1 b2 b3 b4
  have HR := Lib.hid hr
  have HQ := Lib.hid hq
  clear hr hs hq b1 b2 b3 b4
  dsimp only
  unfold nmV
  go_wp2_with fail
  refine (HR.out _).mono ?_
  intro e W' hret
  have hb : Below (w11.alloc (.cells #[.int .i64 (n : Int), .int .i64 (d : Int)] 77)).heap.size (w11.alloc (.cells #[.int .i64 (n : Int), .int .i64 (d : Int)] 77)) W' := hret.2
  obtain ⟨r0, r1, r2, r3, r4, r5, q, rfl⟩ := hret.tup
  have HRET := Lib.hid hret.1
  have hy3 : Blk W' w.heap.size 36 [.int .i64 0, .int .i64 0, .int .i64 0, .int .i64 0, .int .i64 0, .int .i64 0] := (Blk.alloc HY.out (.cells #[.int .i64 (n : Int), .int .i64 (d : Int)] 77)).below hb (by rw [World.size_alloc]; omega)
  have HY3 := Lib.hid hy3
  have HB3 := Lib.hid ((bw_new HBW.out (.cells #[.int .i64 (n : Int), .int .i64 (d : Int)] 77)).trans (hb.mono (by rw [World.size_alloc]; omega)))
  clear hb hret hy3 e0 e1 e2 e3 e4 e5 f0 f1 f2 f3 f4 f5 hlt
  obtain ⟨e0, e1, e2, e3, e4, e5⟩ := six_of HY3.out
  obtain ⟨f0, f1, f2, f3, f4, f5⟩ := six_free HY3.out
  go_wp2
  obtain ⟨WZ, hWZ⟩ : ∃ WZ, WZ = ((((((W'.setCell ⟨w.heap.size, 0, none⟩ (.int .i64 r0)).setCell ⟨w.heap.size, 1, none⟩ (.int .i64 r1)).setCell ⟨w.heap.size, 2, none⟩ (.int .i64 r2)).setCell ⟨w.heap.size, 3, none⟩ (.int .i64 r3)).setCell ⟨w.heap.size, 4, none⟩ (.int .i64 r4)).setCell ⟨w.heap.size, 5, none⟩ (.int .i64 r5)) := ⟨_, rfl⟩
  obtain ⟨g0, g1, g2, g3, g4, g5⟩ := six_of (show Blk WZ _ _ _ by rw [hWZ]; exact six_put HY3.out _ _ _ _ _ _)
  have hww : Below w.heap.size w WZ := by rw [hWZ]; exact six_below HB3.out (Nat.le_refl _) _ _ _ _ _ _
  rw [← hWZ]
  exact bodyPost_ret (v := .tuple #[szv r0 r1 r2 r3 r4 r5, .int .i64 q]) (by simp [g0, g1, g2, g3, g4, g5, results, Tryz.results41, go_sem]) rfl (by unfold RetNamed; rw [HQ.out]; exact ⟨HRET.out, hww⟩)
end Go.Proofs.YtlmheeommpbimaaGreatDoor
