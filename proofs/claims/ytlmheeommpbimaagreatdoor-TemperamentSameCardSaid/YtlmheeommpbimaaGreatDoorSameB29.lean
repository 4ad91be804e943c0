/- Part 29 of 44 of the proof of the law: contracts of the functions that it reaches, and plain facts. Conditions: those that each contract names. -/
import Derived.Test.YtlmheeommpbimaaGreatDoorSameB22
import Derived.Test.YtlmheeommpbimaaGreatDoorSameB06
namespace Go.Proofs.YtlmheeommpbimaaGreatDoor
open Go.RowKit
def RoRel (w : World) (x0 x1 x2 D u0 u1 u2 E DE r0 r1 r2 : Int) (i : Value) (W : World) : Prop :=
 ∃ k : Nat, k ≤ 3 ∧ i = .int .i64 (k : Int) ∧ Hp w [(w.heap.size, 45, [.int .i64 x0, .int .i64 x1, .int .i64 x2, .int .i64 D]), (w.heap.size + 1, 45, [.int .i64 u0, .int .i64 u1, .int .i64 u2, .int .i64 E]), (w.heap.size + 1 + 1, 45, [.int .i64 0, .int .i64 0, .int .i64 0, .int .i64 0]), (w.heap.size + 1 + 1 + 1, 45, [.int .i64 (if 0 < k then r0 else 0), .int .i64 (if 1 < k then r1 else 0), .int .i64 (if 2 < k then r2 else 0), .int .i64 DE])] W
theorem radd_bd {x u D E k : Int} (hx : -1000000 ≤ x ∧ x ≤ 1000000) (hu : -1000000 ≤ u ∧ u ≤ 1000000) (hD : 1 ≤ D ∧ D ≤ 1000000) (hE : 1 ≤ E ∧ E ≤ 1000000) (hk : k = 1 ∨ k = -1) :
  IntKind.i64.wrap (x * E) = x * E ∧ IntKind.i64.wrap (k * u) = k * u ∧ IntKind.i64.wrap (k * u * D) = k * u * D ∧ IntKind.i64.wrap (x * E + k * u * D) = x * E + k * u * D ∧ (-2000000000000 ≤ x * E + k * u * D ∧ x * E + k * u * D ≤ 2000000000000) := by
 have h1 := mul_bd hx.1 hx.2 (show -1000000 ≤ E by omega) hE.2
 have h2 : -1000000 ≤ k * u ∧ k * u ≤ 1000000 := by rcases hk with rfl | rfl <;> omega
 have h3 := mul_bd h2.1 h2.2 (show -1000000 ≤ D by omega) hD.2
 refine ⟨IntWalk.i64_in _ (by omega), IntWalk.i64_in _ (by omega), IntWalk.i64_in _ (by omega), IntWalk.i64_in _ (by omega), by omega, by omega⟩
set_option maxRecDepth 100000 in
set_option maxHeartbeats 8000000 in
theorem radd_any (x0 x1 x2 D u0 u1 u2 E k : Int) (w : World) (hx0 : -1000000 ≤ x0 ∧ x0 ≤ 1000000) (hx1 : -1000000 ≤ x1 ∧ x1 ≤ 1000000) (hx2 : -1000000 ≤ x2 ∧ x2 ≤ 1000000) (hD : 1 ≤ D ∧ D ≤ 1000000)
  (hu0 : -1000000 ≤ u0 ∧ u0 ≤ 1000000) (hu1 : -1000000 ≤ u1 ∧ u1 ≤ 1000000) (hu2 : -1000000 ≤ u2 ∧ u2 ≤ 1000000) (hE : 1 ≤ E ∧ E ≤ 1000000) (hk : k = 1 ∨ k = -1) :
  Calls Tryz.prog 19 #[ovv x0 x1 x2 D, ovv u0 u1 u2 E, .int .i64 k] w fun e w' => e = .returned (ovv (x0 * E + k * u0 * D) (x1 * E + k * u1 * D) (x2 * E + k * u2 * D) (D * E)) ∧ Below w.heap.size w w' := by
 obtain ⟨a0, b0, c0, d0, _⟩ := radd_bd hx0 hu0 hD hE hk
 obtain ⟨p0, hp0⟩ : ∃ p, p = x0 * E := ⟨_, rfl⟩
 obtain ⟨q0, hq0⟩ : ∃ p, p = k * u0 := ⟨_, rfl⟩
 obtain ⟨s0, hs0⟩ : ∃ p, p = q0 * D := ⟨_, rfl⟩
 obtain ⟨r0, hr0⟩ : ∃ p, p = p0 + s0 := ⟨_, rfl⟩
 have e0 : x0 * E + k * u0 * D = r0 := by rw [hr0, hs0, hp0, hq0]
 rw [e0]
 have HW0 := Lib.hid (show IntKind.i64.wrap (x0 * E) = p0 ∧ IntKind.i64.wrap (k * u0) = q0 ∧ IntKind.i64.wrap (q0 * D) = s0 ∧ IntKind.i64.wrap (p0 + s0) = r0 from ⟨by rw [hp0]; exact a0, by rw [hq0]; exact b0, by rw [hs0, hq0]; exact c0, by rw [hr0, hs0, hp0, hq0]; exact d0⟩)
 clear a0 b0 c0 d0 e0 hp0 hq0 hs0 hr0
 obtain ⟨a1, b1, c1, d1, _⟩ := radd_bd hx1 hu1 hD hE hk
 obtain ⟨p1, hp1⟩ : ∃ p, p = x1 * E := ⟨_, rfl⟩
 obtain ⟨q1, hq1⟩ : ∃ p, p = k * u1 := ⟨_, rfl⟩
 obtain ⟨s1, hs1⟩ : ∃ p, p = q1 * D := ⟨_, rfl⟩
 obtain ⟨r1, hr1⟩ : ∃ p, p = p1 + s1 := ⟨_, rfl⟩
 have e1 : x1 * E + k * u1 * D = r1 := by rw [hr1, hs1, hp1, hq1]
 rw [e1]
 have HW1 := Lib.hid (show IntKind.i64.wrap (x1 * E) = p1 ∧ IntKind.i64.wrap (k * u1) = q1 ∧ IntKind.i64.wrap (q1 * D) = s1 ∧ IntKind.i64.wrap (p1 + s1) = r1 from ⟨by rw [hp1]; exact a1, by rw [hq1]; exact b1, by rw [hs1, hq1]; exact c1, by rw [hr1, hs1, hp1, hq1]; exact d1⟩)
 clear a1 b1 c1 d1 e1 hp1 hq1 hs1 hr1
 obtain ⟨a2, b2, c2, d2, _⟩ := radd_bd hx2 hu2 hD hE hk
 obtain ⟨p2, hp2⟩ : ∃ p, p = x2 * E := ⟨_, rfl⟩
 obtain ⟨q2, hq2⟩ : ∃ p, p = k * u2 := ⟨_, rfl⟩
 obtain ⟨s2, hs2⟩ : ∃ p, p = q2 * D := ⟨_, rfl⟩
 obtain ⟨r2, hr2⟩ : ∃ p, p = p2 + s2 := ⟨_, rfl⟩
 have e2 : x2 * E + k * u2 * D = r2 := by rw [hr2, hs2, hp2, hq2]
 rw [e2]
 have HW2 := Lib.hid (show IntKind.i64.wrap (x2 * E) = p2 ∧ IntKind.i64.wrap (k * u2) = q2 ∧ IntKind.i64.wrap (q2 * D) = s2 ∧ IntKind.i64.wrap (p2 + s2) = r2 from ⟨by rw [hp2]; exact a2, by rw [hq2]; exact b2, by rw [hs2, hq2]; exact c2, by rw [hr2, hs2, hp2, hq2]; exact d2⟩)
 clear a2 b2 c2 d2 e2 hp2 hq2 hs2 hr2
 obtain ⟨m1, m2⟩ := mul_bd (show -1000000 ≤ D by omega) hD.2 (show -1000000 ≤ E by omega) hE.2
 have hde : IntKind.i64.wrap (D * E) = D * E := IntWalk.i64_in _ (by omega)
 obtain ⟨DE, hDE⟩ : ∃ p, p = D * E := ⟨_, rfl⟩
 have hde2 : IntKind.i64.wrap (D * E) = DE := by rw [hDE]; exact hde
 rw [← hDE]
 clear hde m1 m2 hDE hx0 hx1 hx2 hu0 hu1 hu2 hD hE hk
 have hM0 : Hp w [(w.heap.size, 45, [.int .i64 x0, .int .i64 x1, .int .i64 x2, .int .i64 D]), (w.heap.size + 1, 45, [.int .i64 u0, .int .i64 u1, .int .i64 u2, .int .i64 E]), (w.heap.size + 1 + 1, 45, [.int .i64 0, .int .i64 0, .int .i64 0, .int .i64 0]), (w.heap.size + 1 + 1 + 1, 45, [.int .i64 0, .int .i64 0, .int .i64 0, .int .i64 DE])] ((((w.alloc (.cells #[.int .i64 x0, .int .i64 x1, .int .i64 x2, .int .i64 D] 45)).alloc (.cells #[.int .i64 u0, .int .i64 u1, .int .i64 u2, .int .i64 E] 45)).alloc (.cells #[.int .i64 0, .int .i64 0, .int .i64 0, .int .i64 0] 45)).alloc (.cells #[.int .i64 0, .int .i64 0, .int .i64 0, .int .i64 DE] 45)) := by
  have h := ((((Hp.start w).new 45 [.int .i64 x0, .int .i64 x1, .int .i64 x2, .int .i64 D]).new 45 [.int .i64 u0, .int .i64 u1, .int .i64 u2, .int .i64 E]).new 45 [.int .i64 0, .int .i64 0, .int .i64 0, .int .i64 0]).new 45 [.int .i64 0, .int .i64 0, .int .i64 0, .int .i64 DE]
  simp only [World.size_alloc] at h
  exact h
 have HM0 := Lib.hid hM0
 clear hM0
 go_enter Tryz.func19, Tryz.ntmps19
 go_wp2_with fail
 clear hde2
 go_loopw [8] (fun i wr => RoRel w x0 x1 x2 D u0 u1 u2 E DE r0 r1 r2 i wr) (fun i _ => 3 - (intOf i).toNat)
 case atStart => exact ⟨0, by omega, rfl, HM0.out⟩
 case round =>
  clear HM0
  obtain ⟨j, hj, rfl, hm⟩ := hrel
  have HM := Lib.hid hm
  clear hm
  by_cases hlt : j < 3
  ·rcases (show j = 0 ∨ j = 1 ∨ j = 2 by omega) with rfl | rfl | rfl
   ·have HM2 : Hid (Hp w [(w.heap.size, 45, [.int .i64 x0, .int .i64 x1, .int .i64 x2, .int .i64 D]), (w.heap.size + 1, 45, [.int .i64 u0, .int .i64 u1, .int .i64 u2, .int .i64 E]), (w.heap.size + 1 + 1, 45, [.int .i64 0, .int .i64 0, .int .i64 0, .int .i64 0]), (w.heap.size + 1 + 1 + 1, 45, [.int .i64 0, .int .i64 0, .int .i64 0, .int .i64 DE])] wr) := HM.out
    clear HM
    go_wp2_with fail
    have HD : Hid (Hp w [(w.heap.size, 45, [.int .i64 x0, .int .i64 x1, .int .i64 x2, .int .i64 D]), (w.heap.size + 1, 45, [.int .i64 u0, .int .i64 u1, .int .i64 u2, .int .i64 E]), (w.heap.size + 1 + 1, 45, [.int .i64 0, .int .i64 0, .int .i64 0, .int .i64 0]), (w.heap.size + 1 + 1 + 1, 45, [.int .i64 0, .int .i64 0, .int .i64 0, .int .i64 DE])] wr.drew) := Lib.hid HM2.out.drew
    have hS : wr.drew.cell? ⟨w.heap.size, 0, none⟩ = some (.int .i64 x0) ∧ wr.drew.cell? ⟨w.heap.size, 3, none⟩ = some (.int .i64 D) ∧ wr.drew.cell? ⟨w.heap.size + 1, 0, none⟩ = some (.int .i64 u0) ∧ wr.drew.cell? ⟨w.heap.size + 1, 3, none⟩ = some (.int .i64 E) := ⟨(HD.out.at_ 0 rfl).cell 0, (HD.out.at_ 0 rfl).cell 3, (HD.out.at_ 1 rfl).cell 0, (HD.out.at_ 1 rfl).cell 3⟩
    obtain ⟨hw0, hw1, hw2, hw3⟩ := HW0.out
    refine wp_regionE' 21 (fun w' => w'.cell? ⟨w.heap.size, 0, none⟩ = some (.int .i64 x0) ∧ w'.cell? ⟨w.heap.size, 3, none⟩ = some (.int .i64 D) ∧ w'.cell? ⟨w.heap.size + 1, 0, none⟩ = some (.int .i64 u0) ∧ w'.cell? ⟨w.heap.size + 1, 3, none⟩ = some (.int .i64 E)) 21 #[false, false, false, false, false, false, false, false, false, false, false, false, false, false, false, false, false, false, false, false, false] (by kernel_rfl) (by kernel_rfl) (by kernel_rfl) ?_
    refine wpAnyE_tk (i := 0) (v := ?_) #[true, false, false, false, false, false, false, false, false, false, false, false, false, false, false, false, false, false, false, false, false] (some 19) rfl rfl (by kernel_rfl) (by kernel_rfl) (by kernel_rfl) (by kernel_rfl) (by kernel_rfl) (fun _ _ _ h => h) (Or.inl ⟨by rfl, ?_⟩) hS ?_
    rotate_left
    ·(intro w hSw; (try dsimp only at hSw); go_simp; all_goals with_reducible rfl)
    simp only [Act.put]
    refine wpAnyE_tk (i := 1) (v := ?_) #[true, true, false, false, false, false, false, false, false, false, false, false, false, false, false, false, false, false, false, false, false] (some 20) rfl rfl (by kernel_rfl) (by kernel_rfl) (by kernel_rfl) (by kernel_rfl) (by kernel_rfl) (fun _ _ _ h => h) (Or.inl ⟨by rfl, ?_⟩) hS ?_
    rotate_left
    ·(intro w hSw; (try dsimp only at hSw); go_simp; all_goals with_reducible rfl)
    simp only [Act.put]
    refine wpAnyE_tk (i := 2) (v := ?_) #[true, true, true, false, false, false, false, false, false, false, false, false, false, false, false, false, false, false, false, false, false] (some 21) rfl rfl (by kernel_rfl) (by kernel_rfl) (by kernel_rfl) (by kernel_rfl) (by kernel_rfl) (fun _ _ _ h => h) (Or.inl ⟨by rfl, ?_⟩) hS ?_
    rotate_left
    ·(intro w hSw; (try dsimp only at hSw); go_simp; all_goals with_reducible rfl)
    simp only [Act.put]
    refine wpAnyE_tk (i := 3) (v := ?_) #[true, true, true, true, false, false, false, false, false, false, false, false, false, false, false, false, false, false, false, false, false] (some 22) rfl rfl (by kernel_rfl) (by kernel_rfl) (by kernel_rfl) (by kernel_rfl) (by kernel_rfl) (fun _ _ _ h => h) (Or.inl ⟨by rfl, ?_⟩) hS ?_
    rotate_left
    ·(intro w hSw; (try dsimp only at hSw); go_simp; all_goals with_reducible rfl)
    simp only [Act.put]
    refine wpAnyE_tk (i := 4) (v := ?_) #[true, true, true, true, true, false, false, false, false, false, false, false, false, false, false, false, false, false, false, false, false] (some 23) rfl rfl (by kernel_rfl) (by kernel_rfl) (by kernel_rfl) (by kernel_rfl) (by kernel_rfl) (fun _ _ _ h => h) (Or.inl ⟨by rfl, ?_⟩) hS ?_
    rotate_left
    ·(intro w hSw; (try dsimp only at hSw); go_simp; all_goals with_reducible rfl)
    simp only [Act.put]
    refine wpAnyE_tk (i := 5) (v := ?_) #[true, true, true, true, true, true, false, false, false, false, false, false, false, false, false, false, false, false, false, false, false] (some 24) rfl rfl (by kernel_rfl) (by kernel_rfl) (by kernel_rfl) (by kernel_rfl) (by kernel_rfl) (fun _ _ _ h => h) (Or.inl ⟨by rfl, ?_⟩) hS ?_
    rotate_left
    ·(intro w hSw; (try dsimp only at hSw); go_simp; all_goals with_reducible rfl)
    simp only [Act.put]
    refine wpAnyE_tk (i := 6) (v := ?_) #[true, true, true, true, true, true, true, false, false, false, false, false, false, false, false, false, false, false, false, false, false] (some 25) rfl rfl (by kernel_rfl) (by kernel_rfl) (by kernel_rfl) (by kernel_rfl) (by kernel_rfl) (fun _ _ _ h => h) (Or.inl ⟨by rfl, ?_⟩) hS ?_
    rotate_left
    ·(intro w hSw; (try dsimp only at hSw); go_simp; all_goals with_reducible rfl)
    simp only [Act.put]
    refine wpAnyE_tk (i := 7) (v := ?_) #[true, true, true, true, true, true, true, true, false, false, false, false, false, false, false, false, false, false, false, false, false] (some 26) rfl rfl (by kernel_rfl) (by kernel_rfl) (by kernel_rfl) (by kernel_rfl) (by kernel_rfl) (fun _ _ _ h => h) (Or.inl ⟨by rfl, ?_⟩) hS ?_
    rotate_left
    ·(intro w hSw; (try dsimp only at hSw); go_simp; all_goals with_reducible rfl)
    simp only [Act.put]
    refine wpAnyE_tk (i := 8) (v := ?_) #[true, true, true, true, true, true, true, true, true, false, false, false, false, false, false, false, false, false, false, false, false] (some 27) rfl rfl (by kernel_rfl) (by kernel_rfl) (by kernel_rfl) (by kernel_rfl) (by kernel_rfl) (fun _ _ _ h => h) (Or.inl ⟨by rfl, ?_⟩) hS ?_
    rotate_left
    ·(intro w hSw; (try dsimp only at hSw); go_simp; all_goals with_reducible rfl)
    simp only [Act.put]
    refine wpAnyE_tk (i := 9) (v := ?_) #[true, true, true, true, true, true, true, true, true, true, false, false, false, false, false, false, false, false, false, false, false] (some 28) rfl rfl (by kernel_rfl) (by kernel_rfl) (by kernel_rfl) (by kernel_rfl) (by kernel_rfl) (fun _ _ _ h => h) (Or.inl ⟨by rfl, ?_⟩) hS ?_
    rotate_left
    ·(intro w hSw; (try dsimp only at hSw); go_simp; all_goals with_reducible rfl)
    simp only [Act.put]
    refine wpAnyE_tk (i := 10) (v := ?_) #[true, true, true, true, true, true, true, true, true, true, true, false, false, false, false, false, false, false, false, false, false] (some 29) rfl rfl (by kernel_rfl) (by kernel_rfl) (by kernel_rfl) (by kernel_rfl) (by kernel_rfl) (fun _ _ _ h => h) (Or.inl ⟨by rfl, ?_⟩) hS ?_
    rotate_left
    ·(intro w hSw; (try dsimp only at hSw); go_simp; all_goals with_reducible rfl)
    simp only [Act.put]
    refine wpAnyE_tk (i := 11) (v := ?_) #[true, true, true, true, true, true, true, true, true, true, true, true, false, false, false, false, false, false, false, false, false] (some 30) rfl rfl (by kernel_rfl) (by kernel_rfl) (by kernel_rfl) (by kernel_rfl) (by kernel_rfl) (fun _ _ _ h => h) (Or.inl ⟨by rfl, ?_⟩) hS ?_
    rotate_left
    ·(intro w hSw; (try dsimp only at hSw); go_simp; all_goals with_reducible rfl)
    simp only [Act.put]
    refine wpAnyE_tk (i := 12) (v := ?_) #[true, true, true, true, true, true, true, true, true, true, true, true, true, false, false, false, false, false, false, false, false] (some 31) rfl rfl (by kernel_rfl) (by kernel_rfl) (by kernel_rfl) (by kernel_rfl) (by kernel_rfl) (fun _ _ _ h => h) (Or.inl ⟨by rfl, ?_⟩) hS ?_
    rotate_left
    ·(intro w hSw; (try dsimp only at hSw); go_simp; all_goals with_reducible rfl)
    simp only [Act.put]
    refine wpAnyE_tk (i := 13) (v := ?_) #[true, true, true, true, true, true, true, true, true, true, true, true, true, true, false, false, false, false, false, false, false] (some 32) rfl rfl (by kernel_rfl) (by kernel_rfl) (by kernel_rfl) (by kernel_rfl) (by kernel_rfl) (fun _ _ _ h => h) (Or.inl ⟨by rfl, ?_⟩) hS ?_
    rotate_left
    ·(intro w hSw; (try dsimp only at hSw); go_simp; all_goals with_reducible rfl)
    simp only [Act.put]
    refine wpAnyE_tk (i := 14) (v := ?_) #[true, true, true, true, true, true, true, true, true, true, true, true, true, true, true, false, false, false, false, false, false] (some 33) rfl rfl (by kernel_rfl) (by kernel_rfl) (by kernel_rfl) (by kernel_rfl) (by kernel_rfl) (fun _ _ _ h => h) (Or.inl ⟨by rfl, ?_⟩) hS ?_
    rotate_left
    ·(intro w hSw; (try dsimp only at hSw); go_simp; all_goals with_reducible rfl)
    simp only [Act.put]
    refine wpAnyE_tk (i := 15) (v := ?_) #[true, true, true, true, true, true, true, true, true, true, true, true, true, true, true, true, false, false, false, false, false] (some 34) rfl rfl (by kernel_rfl) (by kernel_rfl) (by kernel_rfl) (by kernel_rfl) (by kernel_rfl) (fun _ _ _ h => h) (Or.inl ⟨by rfl, ?_⟩) hS ?_
    rotate_left
    ·(intro w hSw; (try dsimp only at hSw); go_simp; all_goals with_reducible rfl)
    simp only [Act.put]
    refine wpAnyE_tk (i := 16) (v := ?_) #[true, true, true, true, true, true, true, true, true, true, true, true, true, true, true, true, true, false, false, false, false] (some 35) rfl rfl (by kernel_rfl) (by kernel_rfl) (by kernel_rfl) (by kernel_rfl) (by kernel_rfl) (fun _ _ _ h => h) (Or.inl ⟨by rfl, ?_⟩) hS ?_
    rotate_left
    ·(intro w hSw; (try dsimp only at hSw); go_simp; all_goals with_reducible rfl)
    simp only [Act.put]
    refine wpAnyE_tk (i := 17) (v := ?_) #[true, true, true, true, true, true, true, true, true, true, true, true, true, true, true, true, true, true, false, false, false] (some 36) rfl rfl (by kernel_rfl) (by kernel_rfl) (by kernel_rfl) (by kernel_rfl) (by kernel_rfl) (fun _ _ _ h => h) (Or.inl ⟨by rfl, ?_⟩) hS ?_
    rotate_left
    ·(intro w hSw; (try dsimp only at hSw); go_simp; all_goals with_reducible rfl)
    simp only [Act.put]
    refine wpAnyE_tk (i := 18) (v := ?_) #[true, true, true, true, true, true, true, true, true, true, true, true, true, true, true, true, true, true, true, false, false] (some 37) rfl rfl (by kernel_rfl) (by kernel_rfl) (by kernel_rfl) (by kernel_rfl) (by kernel_rfl) (fun _ _ _ h => h) (Or.inl ⟨by rfl, ?_⟩) hS ?_
    rotate_left
    ·(intro w hSw; (try dsimp only at hSw); go_simp; all_goals with_reducible rfl)
    simp only [Act.put]
    refine wpAnyE_tk (i := 19) (v := ?_) #[true, true, true, true, true, true, true, true, true, true, true, true, true, true, true, true, true, true, true, true, false] (some 38) rfl rfl (by kernel_rfl) (by kernel_rfl) (by kernel_rfl) (by kernel_rfl) (by kernel_rfl) (fun _ _ _ h => h) (Or.inl ⟨by rfl, ?_⟩) hS ?_
    rotate_left
    ·(intro w hSw; (try dsimp only at hSw); go_simp; all_goals with_reducible rfl)
    simp only [Act.put]
    clear hS hw0 hw1 hw2 hw3
    obtain ⟨WD, hWD⟩ : ∃ X, X = wr.drew := ⟨_, rfl⟩
    rw [← hWD] at HD ⊢
    clear hWD HM2
    have q0 := (HD.out.at_ 3 rfl).cell 0
    have f0 := (HD.out.at_ 3 rfl).frozen 0
    refine wpAnyE_ready (rs := [20]) (by kernel_rfl) (by simp) ?_
    refine AllE.cons' (o := _) #[true, true, true, true, true, true, true, true, true, true, true, true, true, true, true, true, true, true, true, true, true] rfl (by kernel_rfl) (fun K hK => ?_) AllE.nil
    go_simp
    obtain ⟨X2, hX⟩ : ∃ X, X = WD.setCell ⟨w.heap.size + 1 + 1 + 1, 0, none⟩ (.int .i64 r0) := ⟨_, rfl⟩
    rw [← hX]
    have hfin : RoRel w x0 x1 x2 D u0 u1 u2 E DE r0 r1 r2 (.int .i64 ((0 + 1 : Nat) : Int)) X2 := by
     rw [hX]
     exact ⟨0 + 1, by omega, rfl, HD.out.put 3 rfl 0 (.int .i64 r0)⟩
    have HFIN := Lib.hid hfin
    have hs2 : X2.cell? ⟨w.heap.size, 0, none⟩ = some (.int .i64 x0) ∧ X2.cell? ⟨w.heap.size, 3, none⟩ = some (.int .i64 D) ∧ X2.cell? ⟨w.heap.size + 1, 0, none⟩ = some (.int .i64 u0) ∧ X2.cell? ⟨w.heap.size + 1, 3, none⟩ = some (.int .i64 E) := by
     rw [hX]
     have h := HD.out.put 3 rfl 0 (.int .i64 r0)
     exact ⟨(h.at_ 0 rfl).cell 0, (h.at_ 0 rfl).cell 3, (h.at_ 1 rfl).cell 0, (h.at_ 1 rfl).cell 3⟩
    refine hK.out _ _ (fun _ => hs2) ?_
    clear hK K hX q0 f0 hfin hs2
    try simp only [Act.put]
    refine wpAnyE_done (by kernel_rfl) ?_ _
    go_wp2_with fail
    go_roundw
    case rel => exact HFIN.out
    case measure => simp [intOf]
   ·have HM2 : Hid (Hp w [(w.heap.size, 45, [.int .i64 x0, .int .i64 x1, .int .i64 x2, .int .i64 D]), (w.heap.size + 1, 45, [.int .i64 u0, .int .i64 u1, .int .i64 u2, .int .i64 E]), (w.heap.size + 1 + 1, 45, [.int .i64 0, .int .i64 0, .int .i64 0, .int .i64 0]), (w.heap.size + 1 + 1 + 1, 45, [.int .i64 r0, .int .i64 0, .int .i64 0, .int .i64 DE])] wr) := HM.out
    clear HM
    go_wp2_with fail
    have HD : Hid (Hp w [(w.heap.size, 45, [.int .i64 x0, .int .i64 x1, .int .i64 x2, .int .i64 D]), (w.heap.size + 1, 45, [.int .i64 u0, .int .i64 u1, .int .i64 u2, .int .i64 E]), (w.heap.size + 1 + 1, 45, [.int .i64 0, .int .i64 0, .int .i64 0, .int .i64 0]), (w.heap.size + 1 + 1 + 1, 45, [.int .i64 r0, .int .i64 0, .int .i64 0, .int .i64 DE])] wr.drew) := Lib.hid HM2.out.drew
    have hS : wr.drew.cell? ⟨w.heap.size, 1, none⟩ = some (.int .i64 x1) ∧ wr.drew.cell? ⟨w.heap.size, 3, none⟩ = some (.int .i64 D) ∧ wr.drew.cell? ⟨w.heap.size + 1, 1, none⟩ = some (.int .i64 u1) ∧ wr.drew.cell? ⟨w.heap.size + 1, 3, none⟩ = some (.int .i64 E) := ⟨(HD.out.at_ 0 rfl).cell 1, (HD.out.at_ 0 rfl).cell 3, (HD.out.at_ 1 rfl).cell 1, (HD.out.at_ 1 rfl).cell 3⟩
    obtain ⟨hw0, hw1, hw2, hw3⟩ := HW1.out
    refine wp_regionE' 21 (fun w' => w'.cell? ⟨w.heap.size, 1, none⟩ = some (.int .i64 x1) ∧ w'.cell? ⟨w.heap.size, 3, none⟩ = some (.int .i64 D) ∧ w'.cell? ⟨w.heap.size + 1, 1, none⟩ = some (.int .i64 u1) ∧ w'.cell? ⟨w.heap.size + 1, 3, none⟩ = some (.int .i64 E)) 21 #[false, false, false, false, false, false, false, false, false, false, false, false, false, false, false, false, false, false, false, false, false] (by kernel_rfl) (by kernel_rfl) (by kernel_rfl) ?_
    refine wpAnyE_tk (i := 0) (v := ?_) #[true, false, false, false, false, false, false, false, false, false, false, false, false, false, false, false, false, false, false, false, false] (some 19) rfl rfl (by kernel_rfl) (by kernel_rfl) (by kernel_rfl) (by kernel_rfl) (by kernel_rfl) (fun _ _ _ h => h) (Or.inl ⟨by rfl, ?_⟩) hS ?_
    rotate_left
    ·(intro w hSw; (try dsimp only at hSw); go_simp; all_goals with_reducible rfl)
    simp only [Act.put]
    refine wpAnyE_tk (i := 1) (v := ?_) #[true, true, false, false, false, false, false, false, false, false, false, false, false, false, false, false, false, false, false, false, false] (some 20) rfl rfl (by kernel_rfl) (by kernel_rfl) (by kernel_rfl) (by kernel_rfl) (by kernel_rfl) (fun _ _ _ h => h) (Or.inl ⟨by rfl, ?_⟩) hS ?_
    rotate_left
    ·(intro w hSw; (try dsimp only at hSw); go_simp; all_goals with_reducible rfl)
    simp only [Act.put]
    refine wpAnyE_tk (i := 2) (v := ?_) #[true, true, true, false, false, false, false, false, false, false, false, false, false, false, false, false, false, false, false, false, false] (some 21) rfl rfl (by kernel_rfl) (by kernel_rfl) (by kernel_rfl) (by kernel_rfl) (by kernel_rfl) (fun _ _ _ h => h) (Or.inl ⟨by rfl, ?_⟩) hS ?_
    rotate_left
    ·(intro w hSw; (try dsimp only at hSw); go_simp; all_goals with_reducible rfl)
    simp only [Act.put]
    refine wpAnyE_tk (i := 3) (v := ?_) #[true, true, true, true, false, false, false, false, false, false, false, false, false, false, false, false, false, false, false, false, false] (some 22) rfl rfl (by kernel_rfl) (by kernel_rfl) (by kernel_rfl) (by kernel_rfl) (by kernel_rfl) (fun _ _ _ h => h) (Or.inl ⟨by rfl, ?_⟩) hS ?_
    rotate_left
    ·(intro w hSw; (try dsimp only at hSw); go_simp; all_goals with_reducible rfl)
    simp only [Act.put]
    refine wpAnyE_tk (i := 4) (v := ?_) #[true, true, true, true, true, false, false, false, false, false, false, false, false, false, false, false, false, false, false, false, false] (some 23) rfl rfl (by kernel_rfl) (by kernel_rfl) (by kernel_rfl) (by kernel_rfl) (by kernel_rfl) (fun _ _ _ h => h) (Or.inl ⟨by rfl, ?_⟩) hS ?_
    rotate_left
    ·(intro w hSw; (try dsimp only at hSw); go_simp; all_goals with_reducible rfl)
    simp only [Act.put]
    refine wpAnyE_tk (i := 5) (v := ?_) #[true, true, true, true, true, true, false, false, false, false, false, false, false, false, false, false, false, false, false, false, false] (some 24) rfl rfl (by kernel_rfl) (by kernel_rfl) (by kernel_rfl) (by kernel_rfl) (by kernel_rfl) (fun _ _ _ h => h) (Or.inl ⟨by rfl, ?_⟩) hS ?_
    rotate_left
    ·(intro w hSw; (try dsimp only at hSw); go_simp; all_goals with_reducible rfl)
    simp only [Act.put]
    refine wpAnyE_tk (i := 6) (v := ?_) #[true, true, true, true, true, true, true, false, false, false, false, false, false, false, false, false, false, false, false, false, false] (some 25) rfl rfl (by kernel_rfl) (by kernel_rfl) (by kernel_rfl) (by kernel_rfl) (by kernel_rfl) (fun _ _ _ h => h) (Or.inl ⟨by rfl, ?_⟩) hS ?_
    rotate_left
    ·(intro w hSw; (try dsimp only at hSw); go_simp; all_goals with_reducible rfl)
    simp only [Act.put]
    refine wpAnyE_tk (i := 7) (v := ?_) #[true, true, true, true, true, true, true, true, false, false, false, false, false, false, false, false, false, false, false, false, false] (some 26) rfl rfl (by kernel_rfl) (by kernel_rfl) (by kernel_rfl) (by kernel_rfl) (by kernel_rfl) (fun _ _ _ h => h) (Or.inl ⟨by rfl, ?_⟩) hS ?_
    rotate_left
    ·(intro w hSw; (try dsimp only at hSw); go_simp; all_goals with_reducible rfl)
    simp only [Act.put]
    refine wpAnyE_tk (i := 8) (v := ?_) #[true, true, true, true, true, true, true, true, true, false, false, false, false, false, false, false, false, false, false, false, false] (some 27) rfl rfl (by kernel_rfl) (by kernel_rfl) (by kernel_rfl) (by kernel_rfl) (by kernel_rfl) (fun _ _ _ h => h) (Or.inl ⟨by rfl, ?_⟩) hS ?_
    rotate_left
    ·(intro w hSw; (try dsimp only at hSw); go_simp; all_goals with_reducible rfl)
    simp only [Act.put]
    refine wpAnyE_tk (i := 9) (v := ?_) #[true, true, true, true, true, true, true, true, true, true, false, false, false, false, false, false, false, false, false, false, false] (some 28) rfl rfl (by kernel_rfl) (by kernel_rfl) (by kernel_rfl) (by kernel_rfl) (by kernel_rfl) (fun _ _ _ h => h) (Or.inl ⟨by rfl, ?_⟩) hS ?_
    rotate_left
    ·(intro w hSw; (try dsimp only at hSw); go_simp; all_goals with_reducible rfl)
    simp only [Act.put]
    refine wpAnyE_tk (i := 10) (v := ?_) #[true, true, true, true, true, true, true, true, true, true, true, false, false, false, false, false, false, false, false, false, false] (some 29) rfl rfl (by kernel_rfl) (by kernel_rfl) (by kernel_rfl) (by kernel_rfl) (by kernel_rfl) (fun _ _ _ h => h) (Or.inl ⟨by rfl, ?_⟩) hS ?_
    rotate_left
    ·(intro w hSw; (try dsimp only at hSw); go_simp; all_goals with_reducible rfl)
    simp only [Act.put]
    refine wpAnyE_tk (i := 11) (v := ?_) #[true, true, true, true, true, true, true, true, true, true, true, true, false, false, false, false, false, false, false, false, false] (some 30) rfl rfl (by kernel_rfl) (by kernel_rfl) (by kernel_rfl) (by kernel_rfl) (by kernel_rfl) (fun _ _ _ h => h) (Or.inl ⟨by rfl, ?_⟩) hS ?_
    rotate_left
    ·(intro w hSw; (try dsimp only at hSw); go_simp; all_goals with_reducible rfl)
    simp only [Act.put]
    refine wpAnyE_tk (i := 12) (v := ?_) #[true, true, true, true, true, true, true, true, true, true, true, true, true, false, false, false, false, false, false, false, false] (some 31) rfl rfl (by kernel_rfl) (by kernel_rfl) (by kernel_rfl) (by kernel_rfl) (by kernel_rfl) (fun _ _ _ h => h) (Or.inl ⟨by rfl, ?_⟩) hS ?_
    rotate_left
    ·(intro w hSw; (try dsimp only at hSw); go_simp; all_goals with_reducible rfl)
    simp only [Act.put]
    refine wpAnyE_tk (i := 13) (v := ?_) #[true, true, true, true, true, true, true, true, true, true, true, true, true, true, false, false, false, false, false, false, false] (some 32) rfl rfl (by kernel_rfl) (by kernel_rfl) (by kernel_rfl) (by kernel_rfl) (by kernel_rfl) (fun _ _ _ h => h) (Or.inl ⟨by rfl, ?_⟩) hS ?_
    rotate_left
    ·(intro w hSw; (try dsimp only at hSw); go_simp; all_goals with_reducible rfl)
    simp only [Act.put]
    refine wpAnyE_tk (i := 14) (v := ?_) #[true, true, true, true, true, true, true, true, true, true, true, true, true, true, true, false, false, false, false, false, false] (some 33) rfl rfl (by kernel_rfl) (by kernel_rfl) (by kernel_rfl) (by kernel_rfl) (by kernel_rfl) (fun _ _ _ h => h) (Or.inl ⟨by rfl, ?_⟩) hS ?_
    rotate_left
    ·(intro w hSw; (try dsimp only at hSw); go_simp; all_goals with_reducible rfl)
    simp only [Act.put]
    refine wpAnyE_tk (i := 15) (v := ?_) #[true, true, true, true, true, true, true, true, true, true, true, true, true, true, true, true, false, false, false, false, false] (some 34) rfl rfl (by kernel_rfl) (by kernel_rfl) (by kernel_rfl) (by kernel_rfl) (by kernel_rfl) (fun _ _ _ h => h) (Or.inl ⟨by rfl, ?_⟩) hS ?_
    rotate_left
    ·(intro w hSw; (try dsimp only at hSw); go_simp; all_goals with_reducible rfl)
    simp only [Act.put]
    refine wpAnyE_tk (i := 16) (v := ?_) #[true, true, true, true, true, true, true, true, true, true, true, true, true, true, true, true, true, false, false, false, false] (some 35) rfl rfl (by kernel_rfl) (by kernel_rfl) (by kernel_rfl) (by kernel_rfl) (by kernel_rfl) (fun _ _ _ h => h) (Or.inl ⟨by rfl, ?_⟩) hS ?_
    rotate_left
    ·(intro w hSw; (try dsimp only at hSw); go_simp; all_goals with_reducible rfl)
    simp only [Act.put]
    refine wpAnyE_tk (i := 17) (v := ?_) #[true, true, true, true, true, true, true, true, true, true, true, true, true, true, true, true, true, true, false, false, false] (some 36) rfl rfl (by kernel_rfl) (by kernel_rfl) (by kernel_rfl) (by kernel_rfl) (by kernel_rfl) (fun _ _ _ h => h) (Or.inl ⟨by rfl, ?_⟩) hS ?_
    rotate_left
    ·(intro w hSw; (try dsimp only at hSw); go_simp; all_goals with_reducible rfl)
    simp only [Act.put]
    refine wpAnyE_tk (i := 18) (v := ?_) #[true, true, true, true, true, true, true, true, true, true, true, true, true, true, true, true, true, true, true, false, false] (some 37) rfl rfl (by kernel_rfl) (by kernel_rfl) (by kernel_rfl) (by kernel_rfl) (by kernel_rfl) (fun _ _ _ h => h) (Or.inl ⟨by rfl, ?_⟩) hS ?_
    rotate_left
    ·(intro w hSw; (try dsimp only at hSw); go_simp; all_goals with_reducible rfl)
    simp only [Act.put]
    refine wpAnyE_tk (i := 19) (v := ?_) #[true, true, true, true, true, true, true, true, true, true, true, true, true, true, true, true, true, true, true, true, false] (some 38) rfl rfl (by kernel_rfl) (by kernel_rfl) (by kernel_rfl) (by kernel_rfl) (by kernel_rfl) (fun _ _ _ h => h) (Or.inl ⟨by rfl, ?_⟩) hS ?_
    rotate_left
    ·(intro w hSw; (try dsimp only at hSw); go_simp; all_goals with_reducible rfl)
    simp only [Act.put]
    clear hS hw0 hw1 hw2 hw3
    obtain ⟨WD, hWD⟩ : ∃ X, X = wr.drew := ⟨_, rfl⟩
    rw [← hWD] at HD ⊢
    clear hWD HM2
    have q0 := (HD.out.at_ 3 rfl).cell 1
    have f0 := (HD.out.at_ 3 rfl).frozen 1
    refine wpAnyE_ready (rs := [20]) (by kernel_rfl) (by simp) ?_
    refine AllE.cons' (o := _) #[true, true, true, true, true, true, true, true, true, true, true, true, true, true, true, true, true, true, true, true, true] rfl (by kernel_rfl) (fun K hK => ?_) AllE.nil
    go_simp
    obtain ⟨X2, hX⟩ : ∃ X, X = WD.setCell ⟨w.heap.size + 1 + 1 + 1, 1, none⟩ (.int .i64 r1) := ⟨_, rfl⟩
    rw [← hX]
    have hfin : RoRel w x0 x1 x2 D u0 u1 u2 E DE r0 r1 r2 (.int .i64 ((1 + 1 : Nat) : Int)) X2 := by
     rw [hX]
     exact ⟨1 + 1, by omega, rfl, HD.out.put 3 rfl 1 (.int .i64 r1)⟩
    have HFIN := Lib.hid hfin
    have hs2 : X2.cell? ⟨w.heap.size, 1, none⟩ = some (.int .i64 x1) ∧ X2.cell? ⟨w.heap.size, 3, none⟩ = some (.int .i64 D) ∧ X2.cell? ⟨w.heap.size + 1, 1, none⟩ = some (.int .i64 u1) ∧ X2.cell? ⟨w.heap.size + 1, 3, none⟩ = some (.int .i64 E) := by
     rw [hX]
     have h := HD.out.put 3 rfl 1 (.int .i64 r1)
     exact ⟨(h.at_ 0 rfl).cell 1, (h.at_ 0 rfl).cell 3, (h.at_ 1 rfl).cell 1, (h.at_ 1 rfl).cell 3⟩
    refine hK.out _ _ (fun _ => hs2) ?_
    clear hK K hX q0 f0 hfin hs2
    try simp only [Act.put]
    refine wpAnyE_done (by kernel_rfl) ?_ _
    go_wp2_with fail
    go_roundw
    case rel => exact HFIN.out
    case measure => simp [intOf]
   ·have HM2 : Hid (Hp w [(w.heap.size, 45, [.int .i64 x0, .int .i64 x1, .int .i64 x2, .int .i64 D]), (w.heap.size + 1, 45, [.int .i64 u0, .int .i64 u1, .int .i64 u2, .int .i64 E]), (w.heap.size + 1 + 1, 45, [.int .i64 0, .int .i64 0, .int .i64 0, .int .i64 0]), (w.heap.size + 1 + 1 + 1, 45, [.int .i64 r0, .int .i64 r1, .int .i64 0, .int .i64 DE])] wr) := HM.out
    clear HM
    go_wp2_with fail
    have HD : Hid (Hp w [(w.heap.size, 45, [.int .i64 x0, .int .i64 x1, .int .i64 x2, .int .i64 D]), (w.heap.size + 1, 45, [.int .i64 u0, .int .i64 u1, .int .i64 u2, .int .i64 E]), (w.heap.size + 1 + 1, 45, [.int .i64 0, .int .i64 0, .int .i64 0, .int .i64 0]), (w.heap.size + 1 + 1 + 1, 45, [.int .i64 r0, .int .i64 r1, .int .i64 0, .int .i64 DE])] wr.drew) := Lib.hid HM2.out.drew
    have hS : wr.drew.cell? ⟨w.heap.size, 2, none⟩ = some (.int .i64 x2) ∧ wr.drew.cell? ⟨w.heap.size, 3, none⟩ = some (.int .i64 D) ∧ wr.drew.cell? ⟨w.heap.size + 1, 2, none⟩ = some (.int .i64 u2) ∧ wr.drew.cell? ⟨w.heap.size + 1, 3, none⟩ = some (.int .i64 E) := ⟨(HD.out.at_ 0 rfl).cell 2, (HD.out.at_ 0 rfl).cell 3, (HD.out.at_ 1 rfl).cell 2, (HD.out.at_ 1 rfl).cell 3⟩
    obtain ⟨hw0, hw1, hw2, hw3⟩ := HW2.out
    refine wp_regionE' 21 (fun w' => w'.cell? ⟨w.heap.size, 2, none⟩ = some (.int .i64 x2) ∧ w'.cell? ⟨w.heap.size, 3, none⟩ = some (.int .i64 D) ∧ w'.cell? ⟨w.heap.size + 1, 2, none⟩ = some (.int .i64 u2) ∧ w'.cell? ⟨w.heap.size + 1, 3, none⟩ = some (.int .i64 E)) 21 #[false, false, false, false, false, false, false, false, false, false, false, false, false, false, false, false, false, false, false, false, false] (by kernel_rfl) (by kernel_rfl) (by kernel_rfl) ?_
    refine wpAnyE_tk (i := 0) (v := ?_) #[true, false, false, false, false, false, false, false, false, false, false, false, false, false, false, false, false, false, false, false, false] (some 19) rfl rfl (by kernel_rfl) (by kernel_rfl) (by kernel_rfl) (by kernel_rfl) (by kernel_rfl) (fun _ _ _ h => h) (Or.inl ⟨by rfl, ?_⟩) hS ?_
    rotate_left
    ·(intro w hSw; (try dsimp only at hSw); go_simp; all_goals with_reducible rfl)
    simp only [Act.put]
    refine wpAnyE_tk (i := 1) (v := ?_) #[true, true, false, false, false, false, false, false, false, false, false, false, false, false, false, false, false, false, false, false, false] (some 20) rfl rfl (by kernel_rfl) (by kernel_rfl) (by kernel_rfl) (by kernel_rfl) (by kernel_rfl) (fun _ _ _ h => h) (Or.inl ⟨by rfl, ?_⟩) hS ?_
    rotate_left
    ·(intro w hSw; (try dsimp only at hSw); go_simp; all_goals with_reducible rfl)
    simp only [Act.put]
    refine wpAnyE_tk (i := 2) (v := ?_) #[true, true, true, false, false, false, false, false, false, false, false, false, false, false, false, false, false, false, false, false, false] (some 21) rfl rfl (by kernel_rfl) (by kernel_rfl) (by kernel_rfl) (by kernel_rfl) (by kernel_rfl) (fun _ _ _ h => h) (Or.inl ⟨by rfl, ?_⟩) hS ?_
    rotate_left
    ·(intro w hSw; (try dsimp only at hSw); go_simp; all_goals with_reducible rfl)
    simp only [Act.put]
    refine wpAnyE_tk (i := 3) (v := ?_) #[true, true, true, true, false, false, false, false, false, false, false, false, false, false, false, false, false, false, false, false, false] (some 22) rfl rfl (by kernel_rfl) (by kernel_rfl) (by kernel_rfl) (by kernel_rfl) (by kernel_rfl) (fun _ _ _ h => h) (Or.inl ⟨by rfl, ?_⟩) hS ?_
    rotate_left
    ·(intro w hSw; (try dsimp only at hSw); go_simp; all_goals with_reducible rfl)
    simp only [Act.put]
    refine wpAnyE_tk (i := 4) (v := ?_) #[true, true, true, true, true, false, false, false, false, false, false, false, false, false, false, false, false, false, false, false, false] (some 23) rfl rfl (by kernel_rfl) (by kernel_rfl) (by kernel_rfl) (by kernel_rfl) (by kernel_rfl) (fun _ _ _ h => h) (Or.inl ⟨by rfl, ?_⟩) hS ?_
    rotate_left
    ·(intro w hSw; (try dsimp only at hSw); go_simp; all_goals with_reducible rfl)
    simp only [Act.put]
    refine wpAnyE_tk (i := 5) (v := ?_) #[true, true, true, true, true, true, false, false, false, false, false, false, false, false, false, false, false, false, false, false, false] (some 24) rfl rfl (by kernel_rfl) (by kernel_rfl) (by kernel_rfl) (by kernel_rfl) (by kernel_rfl) (fun _ _ _ h => h) (Or.inl ⟨by rfl, ?_⟩) hS ?_
    rotate_left
    ·(intro w hSw; (try dsimp only at hSw); go_simp; all_goals with_reducible rfl)
    simp only [Act.put]
    refine wpAnyE_tk (i := 6) (v := ?_) #[true, true, true, true, true, true, true, false, false, false, false, false, false, false, false, false, false, false, false, false, false] (some 25) rfl rfl (by kernel_rfl) (by kernel_rfl) (by kernel_rfl) (by kernel_rfl) (by kernel_rfl) (fun _ _ _ h => h) (Or.inl ⟨by rfl, ?_⟩) hS ?_
    rotate_left
    ·(intro w hSw; (try dsimp only at hSw); go_simp; all_goals with_reducible rfl)
    simp only [Act.put]
    refine wpAnyE_tk (i := 7) (v := ?_) #[true, true, true, true, true, true, true, true, false, false, false, false, false, false, false, false, false, false, false, false, false] (some 26) rfl rfl (by kernel_rfl) (by kernel_rfl) (by kernel_rfl) (by kernel_rfl) (by kernel_rfl) (fun _ _ _ h => h) (Or.inl ⟨by rfl, ?_⟩) hS ?_
    rotate_left
    ·(intro w hSw; (try dsimp only at hSw); go_simp; all_goals with_reducible rfl)
    simp only [Act.put]
    refine wpAnyE_tk (i := 8) (v := ?_) #[true, true, true, true, true, true, true, true, true, false, false, false, false, false, false, false, false, false, false, false, false] (some 27) rfl rfl (by kernel_rfl) (by kernel_rfl) (by kernel_rfl) (by kernel_rfl) (by kernel_rfl) (fun _ _ _ h => h) (Or.inl ⟨by rfl, ?_⟩) hS ?_
    rotate_left
    ·(intro w hSw; (try dsimp only at hSw); go_simp; all_goals with_reducible rfl)
    simp only [Act.put]
    refine wpAnyE_tk (i := 9) (v := ?_) #[true, true, true, true, true, true, true, true, true, true, false, false, false, false, false, false, false, false, false, false, false] (some 28) rfl rfl (by kernel_rfl) (by kernel_rfl) (by kernel_rfl) (by kernel_rfl) (by kernel_rfl) (fun _ _ _ h => h) (Or.inl ⟨by rfl, ?_⟩) hS ?_
    rotate_left
    ·(intro w hSw; (try dsimp only at hSw); go_simp; all_goals with_reducible rfl)
    simp only [Act.put]
    refine wpAnyE_tk (i := 10) (v := ?_) #[true, true, true, true, true, true, true, true, true, true, true, false, false, false, false, false, false, false, false, false, false] (some 29) rfl rfl (by kernel_rfl) (by kernel_rfl) (by kernel_rfl) (by kernel_rfl) (by kernel_rfl) (fun _ _ _ h => h) (Or.inl ⟨by rfl, ?_⟩) hS ?_
    rotate_left
    ·(intro w hSw; (try dsimp only at hSw); go_simp; all_goals with_reducible rfl)
    simp only [Act.put]
    refine wpAnyE_tk (i := 11) (v := ?_) #[true, true, true, true, true, true, true, true, true, true, true, true, false, false, false, false, false, false, false, false, false] (some 30) rfl rfl (by kernel_rfl) (by kernel_rfl) (by kernel_rfl) (by kernel_rfl) (by kernel_rfl) (fun _ _ _ h => h) (Or.inl ⟨by rfl, ?_⟩) hS ?_
    rotate_left
    ·(intro w hSw; (try dsimp only at hSw); go_simp; all_goals with_reducible rfl)
    simp only [Act.put]
    refine wpAnyE_tk (i := 12) (v := ?_) #[true, true, true, true, true, true, true, true, true, true, true, true, true, false, false, false, false, false, false, false, false] (some 31) rfl rfl (by kernel_rfl) (by kernel_rfl) (by kernel_rfl) (by kernel_rfl) (by kernel_rfl) (fun _ _ _ h => h) (Or.inl ⟨by rfl, ?_⟩) hS ?_
    rotate_left
    ·(intro w hSw; (try dsimp only at hSw); go_simp; all_goals with_reducible rfl)
    simp only [Act.put]
    refine wpAnyE_tk (i := 13) (v := ?_) #[true, true, true, true, true, true, true, true, true, true, true, true, true, true, false, false, false, false, false, false, false] (some 32) rfl rfl (by kernel_rfl) (by kernel_rfl) (by kernel_rfl) (by kernel_rfl) (by kernel_rfl) (fun _ _ _ h => h) (Or.inl ⟨by rfl, ?_⟩) hS ?_
    rotate_left
    ·(intro w hSw; (try dsimp only at hSw); go_simp; all_goals with_reducible rfl)
    simp only [Act.put]
    refine wpAnyE_tk (i := 14) (v := ?_) #[true, true, true, true, true, true, true, true, true, true, true, true, true, true, true, false, false, false, false, false, false] (some 33) rfl rfl (by kernel_rfl) (by kernel_rfl) (by kernel_rfl) (by kernel_rfl) (by kernel_rfl) (fun _ _ _ h => h) (Or.inl ⟨by rfl, ?_⟩) hS ?_
    rotate_left
    ·(intro w hSw; (try dsimp only at hSw); go_simp; all_goals with_reducible rfl)
    simp only [Act.put]
    refine wpAnyE_tk (i := 15) (v := ?_) #[true, true, true, true, true, true, true, true, true, true, true, true, true, true, true, true, false, false, false, false, false] (some 34) rfl rfl (by kernel_rfl) (by kernel_rfl) (by kernel_rfl) (by kernel_rfl) (by kernel_rfl) (fun _ _ _ h => h) (Or.inl ⟨by rfl, ?_⟩) hS ?_
    rotate_left
    ·(intro w hSw; (try dsimp only at hSw); go_simp; all_goals with_reducible rfl)
    simp only [Act.put]
    refine wpAnyE_tk (i := 16) (v := ?_) #[true, true, true, true, true, true, true, true, true, true, true, true, true, true, true, true, true, false, false, false, false] (some 35) rfl rfl (by kernel_rfl) (by kernel_rfl) (by kernel_rfl) (by kernel_rfl) (by kernel_rfl) (fun _ _ _ h => h) (Or.inl ⟨by rfl, ?_⟩) hS ?_
    rotate_left
    ·(intro w hSw; (try dsimp only at hSw); go_simp; all_goals with_reducible rfl)
    simp only [Act.put]
    refine wpAnyE_tk (i := 17) (v := ?_) #[true, true, true, true, true, true, true, true, true, true, true, true, true, true, true, true, true, true, false, false, false] (some 36) rfl rfl (by kernel_rfl) (by kernel_rfl) (by kernel_rfl) (by kernel_rfl) (by kernel_rfl) (fun _ _ _ h => h) (Or.inl ⟨by rfl, ?_⟩) hS ?_
    rotate_left
    ·(intro w hSw; (try dsimp only at hSw); go_simp; all_goals with_reducible rfl)
    simp only [Act.put]
    refine wpAnyE_tk (i := 18) (v := ?_) #[true, true, true, true, true, true, true, true, true, true, true, true, true, true, true, true, true, true, true, false, false] (some 37) rfl rfl (by kernel_rfl) (by kernel_rfl) (by kernel_rfl) (by kernel_rfl) (by kernel_rfl) (fun _ _ _ h => h) (Or.inl ⟨by rfl, ?_⟩) hS ?_
    rotate_left
    ·(intro w hSw; (try dsimp only at hSw); go_simp; all_goals with_reducible rfl)
    simp only [Act.put]
    refine wpAnyE_tk (i := 19) (v := ?_) #[true, true, true, true, true, true, true, true, true, true, true, true, true, true, true, true, true, true, true, true, false] (some 38) rfl rfl (by kernel_rfl) (by kernel_rfl) (by kernel_rfl) (by kernel_rfl) (by kernel_rfl) (fun _ _ _ h => h) (Or.inl ⟨by rfl, ?_⟩) hS ?_
    rotate_left
    ·(intro w hSw; (try dsimp only at hSw); go_simp; all_goals with_reducible rfl)
    simp only [Act.put]
    clear hS hw0 hw1 hw2 hw3
    obtain ⟨WD, hWD⟩ : ∃ X, X = wr.drew := ⟨_, rfl⟩
    rw [← hWD] at HD ⊢
    clear hWD HM2
    have q0 := (HD.out.at_ 3 rfl).cell 2
    have f0 := (HD.out.at_ 3 rfl).frozen 2
    refine wpAnyE_ready (rs := [20]) (by kernel_rfl) (by simp) ?_
    refine AllE.cons' (o := _) #[true, true, true, true, true, true, true, true, true, true, true, true, true, true, true, true, true, true, true, true, true] rfl (by kernel_rfl) (fun K hK => ?_) AllE.nil
    go_simp
    obtain ⟨X2, hX⟩ : ∃ X, X = WD.setCell ⟨w.heap.size + 1 + 1 + 1, 2, none⟩ (.int .i64 r2) := ⟨_, rfl⟩
    rw [← hX]
    have hfin : RoRel w x0 x1 x2 D u0 u1 u2 E DE r0 r1 r2 (.int .i64 ((2 + 1 : Nat) : Int)) X2 := by
     rw [hX]
     exact ⟨2 + 1, by omega, rfl, HD.out.put 3 rfl 2 (.int .i64 r2)⟩
    have HFIN := Lib.hid hfin
    have hs2 : X2.cell? ⟨w.heap.size, 2, none⟩ = some (.int .i64 x2) ∧ X2.cell? ⟨w.heap.size, 3, none⟩ = some (.int .i64 D) ∧ X2.cell? ⟨w.heap.size + 1, 2, none⟩ = some (.int .i64 u2) ∧ X2.cell? ⟨w.heap.size + 1, 3, none⟩ = some (.int .i64 E) := by
     rw [hX]
     have h := HD.out.put 3 rfl 2 (.int .i64 r2)
     exact ⟨(h.at_ 0 rfl).cell 2, (h.at_ 0 rfl).cell 3, (h.at_ 1 rfl).cell 2, (h.at_ 1 rfl).cell 3⟩
    refine hK.out _ _ (fun _ => hs2) ?_
    clear hK K hX q0 f0 hfin hs2
    try simp only [Act.put]
    refine wpAnyE_done (by kernel_rfl) ?_ _
    go_wp2_with fail
    go_roundw
    case rel => exact HFIN.out
    case measure => simp [intOf]
  ·obtain rfl : j = 3 := by omega
   have HM2 : Hid (Hp w [(w.heap.size, 45, [.int .i64 x0, .int .i64 x1, .int .i64 x2, .int .i64 D]), (w.heap.size + 1, 45, [.int .i64 u0, .int .i64 u1, .int .i64 u2, .int .i64 E]), (w.heap.size + 1 + 1, 45, [.int .i64 0, .int .i64 0, .int .i64 0, .int .i64 0]), (w.heap.size + 1 + 1 + 1, 45, [.int .i64 r0, .int .i64 r1, .int .i64 r2, .int .i64 DE])] wr) := HM.out
   clear HM HW0 HW1 HW2
   obtain ⟨c0, c1, c2, c3⟩ := four_of (HM2.out.at_ 3 rfl)
   obtain ⟨e0, e1, e2, e3⟩ := four_of (HM2.out.at_ 2 rfl)
   obtain ⟨f0, f1, f2, f3⟩ := four_free (HM2.out.at_ 2 rfl)
   go_wp2
   obtain ⟨WZ, hWZ⟩ : ∃ WZ, WZ = (((wr.setCell ⟨w.heap.size + 1 + 1, 0, none⟩ (.int .i64 r0)).setCell ⟨w.heap.size + 1 + 1, 1, none⟩ (.int .i64 r1)).setCell ⟨w.heap.size + 1 + 1, 2, none⟩ (.int .i64 r2)).setCell ⟨w.heap.size + 1 + 1, 3, none⟩ (.int .i64 DE) := ⟨_, rfl⟩
   have hz := HM2.out.put4 2 rfl (.int .i64 r0) (.int .i64 r1) (.int .i64 r2) (.int .i64 DE)
   rw [← hWZ] at hz ⊢
   obtain ⟨g0, g1, g2, g3⟩ := four_of (hz.at_ 2 rfl)
   exact bodyPost_ret (v := ovv r0 r1 r2 DE) (by simp [g0, g1, g2, g3, results, Tryz.results19, go_sem]) rfl ⟨rfl, hz.below⟩
end Go.Proofs.YtlmheeommpbimaaGreatDoor
