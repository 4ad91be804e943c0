/- Law 05: Make, the size of a plan; planned sizes are right. Conditions: the plan's numerators are int8, its denominator a uint8. Printed by genpartslaw.py. -/
import Derived.Test.YtplonkeipdbchaaDoorLaw05
import Derived.Test.YtplonkeipdbchaaDoorIvLow
import Derived.Test.YtplonkeipdbchaaDoorIvSign
namespace Go.Proofs.YtplonkeipdbchaaDoor
open Go.RowKit

/-- A plan, in one value. -/
abbrev plv (n0 n1 n2 d : Int) : Value := .agg #[.int .i8 n0, .int .i8 n1, .int .i8 n2, .int .u8 d]
set_option maxRecDepth 100000 in
set_option maxHeartbeats 4000000 in
theorem lmake_any (n0 n1 n2 d : Int) (w : World) (h0 : -128 ≤ n0 ∧ n0 ≤ 127) (h1 : -128 ≤ n1 ∧ n1 ≤ 127) (h2 : -128 ≤ n2 ∧ n2 ≤ 127) (hd : 0 ≤ d ∧ d ≤ 255) :
    Calls Tryd.prog 24 #[plv n0 n1 n2 d] w fun e w' => e = .returned (szv (lowN n0 (1 + d % 12)) (lowD n0 (1 + d % 12)) (lowN n1 (1 + d % 12)) (lowD n1 (1 + d % 12)) (lowN n2 (1 + d % 12)) (lowD n2 (1 + d % 12))) ∧ Below w.heap.size w w' := by
  obtain ⟨m, hm⟩ : ∃ m, m = d % 12 := ⟨_, rfl⟩
  have hmb : 0 ≤ m ∧ m ≤ 11 := by omega
  rw [← hm]
  have hrm : wrap64 (d.tmod 12) = m := by rw [Int.tmod_eq_emod_of_nonneg hd.1, ← hm]; exact IntWalk.wrap64_in _ ⟨by omega, by omega⟩
  have hc0 : wrap64 n0 = n0 := IntWalk.wrap64_in _ (by omega)
  have hc1 : wrap64 n1 = n1 := IntWalk.wrap64_in _ (by omega)
  have hc2 : wrap64 n2 = n2 := IntWalk.wrap64_in _ (by omega)
  obtain ⟨D, hD⟩ : ∃ D, D = 1 + m := ⟨_, rfl⟩
  have hwD : wrap64 (1 + m) = D := by rw [hD]; exact IntWalk.wrap64_in _ (by omega)
  rw [← hD]
  have hs := fun W => lsize_any n0 n1 n2 D W (by omega) (by omega) (by omega) (by omega) (by omega)
  obtain ⟨p0, hp0⟩ : ∃ p, p = lowN n0 D := ⟨_, rfl⟩
  obtain ⟨q0, hq0⟩ : ∃ p, p = lowD n0 D := ⟨_, rfl⟩
  rw [← hp0, ← hq0] at hs ⊢
  obtain ⟨p1, hp1⟩ : ∃ p, p = lowN n1 D := ⟨_, rfl⟩
  obtain ⟨q1, hq1⟩ : ∃ p, p = lowD n1 D := ⟨_, rfl⟩
  rw [← hp1, ← hq1] at hs ⊢
  obtain ⟨p2, hp2⟩ : ∃ p, p = lowN n2 D := ⟨_, rfl⟩
  obtain ⟨q2, hq2⟩ : ∃ p, p = lowD n2 D := ⟨_, rfl⟩
  rw [← hp2, ← hq2] at hs ⊢
  have HS := Lib.hid hs
  have hM0 : Hp w [(w.heap.size, 55, [.int .i8 n0, .int .i8 n1, .int .i8 n2, .int .u8 d]), (w.heap.size + 1, 28, [.int .i64 0, .int .i64 0, .int .i64 0, .int .i64 0, .int .i64 0, .int .i64 0])] ((w.alloc (.cells #[.int .i8 n0, .int .i8 n1, .int .i8 n2, .int .u8 d] 55)).alloc (.cells #[.int .i64 0, .int .i64 0, .int .i64 0, .int .i64 0, .int .i64 0, .int .i64 0] 28)) := by
    have h := ((Hp.start w).new 55 [.int .i8 n0, .int .i8 n1, .int .i8 n2, .int .u8 d]).new 28 [.int .i64 0, .int .i64 0, .int .i64 0, .int .i64 0, .int .i64 0, .int .i64 0]
    simp only [World.size_alloc] at h
    exact h
  have HM0 := Lib.hid hM0
  clear hM0 hs hm hmb hD h0 h1 h2 hd hp0 hp1 hp2 hq0 hq1 hq2
  go_enter Tryd.func24, Tryd.ntmps24
  go_wp2_with fail
  refine (HS.out _).mono ?_
  rintro e W1 ⟨rfl, hb⟩
  have HM1 := Lib.hid (HM0.out.step hb)
  clear hb HM0 hrm hc0 hc1 hc2 hwD
  obtain ⟨e0, e1, e2, e3, e4, e5⟩ := six_of (HM1.out.at_ 1 rfl)
  obtain ⟨f0, f1, f2, f3, f4, f5⟩ := six_free (HM1.out.at_ 1 rfl)
  go_wp2
  obtain ⟨WZ, hWZ⟩ : ∃ WZ, WZ = (((((W1.setCell ⟨w.heap.size + 1, 0, none⟩ (.int .i64 p0)).setCell ⟨w.heap.size + 1, 1, none⟩ (.int .i64 q0)).setCell ⟨w.heap.size + 1, 2, none⟩ (.int .i64 p1)).setCell ⟨w.heap.size + 1, 3, none⟩ (.int .i64 q1)).setCell ⟨w.heap.size + 1, 4, none⟩ (.int .i64 p2)).setCell ⟨w.heap.size + 1, 5, none⟩ (.int .i64 q2) := ⟨_, rfl⟩
  have hz := HM1.out.put6 1 rfl (.int .i64 p0) (.int .i64 q0) (.int .i64 p1) (.int .i64 q1) (.int .i64 p2) (.int .i64 q2)
  rw [← hWZ] at hz ⊢
  obtain ⟨g0, g1, g2, g3, g4, g5⟩ := six_of (hz.at_ 1 rfl)
  exact bodyPost_ret (v := szv p0 q0 p1 q1 p2 q2) (by simp [g0, g1, g2, g3, g4, g5, results, Tryd.results24, go_sem]) rfl ⟨rfl, hz.below⟩
/-- Planned sizes are right. -/
theorem plan_ok {n0 n1 n2 M : Int} (hM : 1 ≤ M ∧ M ≤ 240) (h0 : -6000 ≤ n0 ∧ n0 ≤ 6000) (h1 : -6000 ≤ n1 ∧ n1 ≤ 6000) (h2 : -6000 ≤ n2 ∧ n2 ≤ 6000) :
    ivE [(lowN n0 M, lowD n0 M), (lowN n1 M, lowD n1 M), (lowN n2 M, lowD n2 M)] = 0 ∧ ivR (lowN n0 M) (lowD n0 M) (lowN n1 M) (lowD n1 M) (lowN n2 M) (lowD n2 M) = .tuple #[szv (lowN n0 M) (lowD n0 M) (lowN n1 M) (lowD n1 M) (lowN n2 M) (lowD n2 M), .int .i64 0] := by
  obtain ⟨hr, x, y, z, D, hp, _⟩ := plan_prt hM h0 h1 h2
  have he := ivE_ok hr (by rw [hp]; simp)
  exact ⟨he, by unfold ivR; rw [if_pos he]⟩
end Go.Proofs.YtplonkeipdbchaaDoor
