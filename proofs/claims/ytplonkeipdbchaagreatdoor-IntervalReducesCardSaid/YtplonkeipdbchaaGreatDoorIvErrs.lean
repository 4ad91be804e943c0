/- Package interval: the error ways of Sign, Compare and Reduce; Sign of a right size. Conditions: parts are ints. Printed by genchkslaw.py. -/
import Derived.Test.YtplonkeipdbchaaGreatDoorIvSgn
import Derived.Test.YtplonkeipdbchaaGreatDoorRegE
namespace Go.Proofs.YtplonkeipdbchaaGreatDoor
open Go.RowKit

set_option maxRecDepth 100000 in
theorem iSign_err (a0 b0 a1 b1 a2 b2 : Int) (w : World) (hi : ∀ k ∈ [a0, b0, a1, b1, a2, b2], I64 k) (h : ivE [(a0, b0), (a1, b1), (a2, b2)] ≠ 0) :
    Calls Tryz.prog 14 #[szv a0 b0 a1 b1 a2 b2] w fun e w' => e = .returned (.tuple #[.int .i64 0, .int .i64 (ivE [(a0, b0), (a1, b1), (a2, b2)])]) ∧ Below w.heap.size w w' := by
  have hc := fun W => icheck_any a0 b0 a1 b1 a2 b2 W (hi _ (by simp)) (hi _ (by simp)) (hi _ (by simp)) (hi _ (by simp)) (hi _ (by simp)) (hi _ (by simp))
  obtain ⟨r, hr⟩ : ∃ r, r = ivE [(a0, b0), (a1, b1), (a2, b2)] := ⟨_, rfl⟩
  rw [← hr] at hc h ⊢
  have HC := Lib.hid hc
  have hz2 : (r != 0) = true := by simpa using h
  clear hc hr h hi
  go_enter Tryz.func14, Tryz.ntmps14
  go_wp2_with fail
  refine (HC.out _).mono ?_
  rintro e w1 ⟨rfl, hb⟩
  have HB := Lib.hid ((bw_new (Below.refl w.heap.size w) _).trans (hb.mono (by simp)))
  clear hb
  go_wp2
  go_ret2
  exact ⟨rfl, HB.out⟩
set_option maxRecDepth 100000 in
theorem iCompare_err (a0 b0 a1 b1 a2 b2 c0 d0 c1 d1 c2 d2 : Int) (w : World) (hi : ∀ k ∈ [a0, b0, a1, b1, a2, b2, c0, d0, c1, d1, c2, d2], I64 k) (h : (if ivE [(a0, b0), (a1, b1), (a2, b2)] ≠ 0 then ivE [(a0, b0), (a1, b1), (a2, b2)] else ivE [(c0, d0), (c1, d1), (c2, d2)]) ≠ 0) :
    Calls Tryz.prog 15 #[szv a0 b0 a1 b1 a2 b2, szv c0 d0 c1 d1 c2 d2] w fun e w' => e = .returned (.tuple #[.int .i64 0, .int .i64 (if ivE [(a0, b0), (a1, b1), (a2, b2)] ≠ 0 then ivE [(a0, b0), (a1, b1), (a2, b2)] else ivE [(c0, d0), (c1, d1), (c2, d2)])]) ∧ Below w.heap.size w w' := by
  have hc := fun W => iboth_any a0 b0 a1 b1 a2 b2 c0 d0 c1 d1 c2 d2 W (hi _ (by simp)) (hi _ (by simp)) (hi _ (by simp)) (hi _ (by simp)) (hi _ (by simp)) (hi _ (by simp)) (hi _ (by simp)) (hi _ (by simp)) (hi _ (by simp)) (hi _ (by simp)) (hi _ (by simp)) (hi _ (by simp))
  obtain ⟨r, hr⟩ : ∃ r, r = (if ivE [(a0, b0), (a1, b1), (a2, b2)] ≠ 0 then ivE [(a0, b0), (a1, b1), (a2, b2)] else ivE [(c0, d0), (c1, d1), (c2, d2)]) := ⟨_, rfl⟩
  rw [← hr] at hc h ⊢
  have HC := Lib.hid hc
  have hz2 : (r != 0) = true := by simpa using h
  clear hc hr h hi
  go_enter Tryz.func15, Tryz.ntmps15
  go_wp2_with fail
  refine (HC.out _).mono ?_
  rintro e w1 ⟨rfl, hb⟩
  have HB := Lib.hid ((bw_new (bw_new (Below.refl w.heap.size w) _) _).trans (hb.mono (by simp; omega)))
  clear hb
  go_wp2
  go_ret2
  exact ⟨rfl, HB.out⟩
set_option maxRecDepth 100000 in
theorem iReduce_err (a0 b0 a1 b1 a2 b2 : Int) (w : World) (hi : ∀ k ∈ [a0, b0, a1, b1, a2, b2], I64 k) (h : ivE [(a0, b0), (a1, b1), (a2, b2)] ≠ 0) :
    Calls Tryz.prog 17 #[szv a0 b0 a1 b1 a2 b2] w fun e w' => e = .returned (.tuple #[szv 0 0 0 0 0 0, .int .i64 0, .int .i64 (ivE [(a0, b0), (a1, b1), (a2, b2)])]) ∧ Below w.heap.size w w' := by
  have hc := fun W => icheck_any a0 b0 a1 b1 a2 b2 W (hi _ (by simp)) (hi _ (by simp)) (hi _ (by simp)) (hi _ (by simp)) (hi _ (by simp)) (hi _ (by simp))
  obtain ⟨r, hr⟩ : ∃ r, r = ivE [(a0, b0), (a1, b1), (a2, b2)] := ⟨_, rfl⟩
  rw [← hr] at hc h ⊢
  have HC := Lib.hid hc
  have hz2 : (r != 0) = true := by simpa using h
  have hM0 : Hp w [(w.heap.size, 25, [.int .i64 a0, .int .i64 b0, .int .i64 a1, .int .i64 b1, .int .i64 a2, .int .i64 b2]), (w.heap.size + 1, 25, [.int .i64 0, .int .i64 0, .int .i64 0, .int .i64 0, .int .i64 0, .int .i64 0])] ((w.alloc (.cells #[.int .i64 a0, .int .i64 b0, .int .i64 a1, .int .i64 b1, .int .i64 a2, .int .i64 b2] 25)).alloc (.cells #[.int .i64 0, .int .i64 0, .int .i64 0, .int .i64 0, .int .i64 0, .int .i64 0] 25)) := by
    have h := ((Hp.start w).new 25 [.int .i64 a0, .int .i64 b0, .int .i64 a1, .int .i64 b1, .int .i64 a2, .int .i64 b2]).new 25 [.int .i64 0, .int .i64 0, .int .i64 0, .int .i64 0, .int .i64 0, .int .i64 0]
    simp only [World.size_alloc] at h
    exact h
  have HM0 := Lib.hid hM0
  clear hc hr h hi hM0
  go_enter Tryz.func17, Tryz.ntmps17
  go_wp2_with fail
  refine (HC.out _).mono ?_
  rintro e w1 ⟨rfl, hb⟩
  have HM1 := Lib.hid (HM0.out.step hb)
  clear hb HM0
  obtain ⟨e0, e1, e2, e3, e4, e5⟩ := six_of (HM1.out.at_ 1 rfl)
  obtain ⟨f0, f1, f2, f3, f4, f5⟩ := six_free (HM1.out.at_ 1 rfl)
  go_wp2
  obtain ⟨WZ, hWZ⟩ : ∃ WZ, WZ = (((((w1.setCell ⟨w.heap.size + 1, 0, none⟩ (.int .i64 0)).setCell ⟨w.heap.size + 1, 1, none⟩ (.int .i64 0)).setCell ⟨w.heap.size + 1, 2, none⟩ (.int .i64 0)).setCell ⟨w.heap.size + 1, 3, none⟩ (.int .i64 0)).setCell ⟨w.heap.size + 1, 4, none⟩ (.int .i64 0)).setCell ⟨w.heap.size + 1, 5, none⟩ (.int .i64 0) := ⟨_, rfl⟩
  have hz := HM1.out.put6 1 rfl (.int .i64 0) (.int .i64 0) (.int .i64 0) (.int .i64 0) (.int .i64 0) (.int .i64 0)
  rw [← hWZ] at hz ⊢
  obtain ⟨g0, g1, g2, g3, g4, g5⟩ := six_of (hz.at_ 1 rfl)
  exact bodyPost_ret (v := .tuple #[szv 0 0 0 0 0 0, .int .i64 0, .int .i64 r]) (by simp [g0, g1, g2, g3, g4, g5, results, Tryz.results17, go_sem]) rfl ⟨rfl, hz.below⟩
set_option maxRecDepth 100000 in
theorem iSign_any (a0 b0 a1 b1 a2 b2 x y z D : Int) (w : World) (ht : Tab w) (hA : ∀ q ∈ [(a0, b0), (a1, b1), (a2, b2)], Right q.1 q.2) (hpr : prt [(a0, b0), (a1, b1), (a2, b2)] = some ([x, y, z], D)) :
    Calls Tryz.prog 14 #[szv a0 b0 a1 b1 a2 b2] w fun e w' => e = .returned (.tuple #[.int .i64 (sgn (lgZ x y z)), .int .i64 0]) ∧ Below w.heap.size w w' := by
  have hi : ∀ k ∈ [a0, b0, a1, b1, a2, b2], I64 k := by
    have one : ∀ {n d : Int}, Right n d → I64 n ∧ I64 d := fun h => by
      obtain ⟨h1, h2, h3, h4, _⟩ := h
      exact ⟨⟨by omega, by omega⟩, by omega, by omega⟩
    have r0 := one (hA (a0, b0) (by simp))
    have r1 := one (hA (a1, b1) (by simp))
    have r2 := one (hA (a2, b2) (by simp))
    intro k hk
    simp only [List.mem_cons, List.not_mem_nil, or_false] at hk
    rcases hk with rfl | rfl | rfl | rfl | rfl | rfl
    · exact r0.1
    · exact r0.2
    · exact r1.1
    · exact r1.2
    · exact r2.1
    · exact r2.2
  have hc := fun W => icheck_any a0 b0 a1 b1 a2 b2 W (hi _ (by simp)) (hi _ (by simp)) (hi _ (by simp)) (hi _ (by simp)) (hi _ (by simp)) (hi _ (by simp))
  rw [ivE_ok hA (by rw [hpr]; simp)] at hc
  have hp := fun W => parts_any a0 b0 a1 b1 a2 b2 W (right_mild hA)
  obtain ⟨hD, hl⟩ := prt_num hpr (right_mild hA)
  have bx := hl x (by simp)
  have bY := hl y (by simp)
  have bz := hl z (by simp)
  have hs := fun W hW => isign_all x y z W hW ⟨by omega, by omega⟩ ⟨by omega, by omega⟩ ⟨by omega, by omega⟩
  obtain ⟨s, hs'⟩ : ∃ s, s = sgn (lgZ x y z) := ⟨_, rfl⟩
  rw [← hs'] at hs ⊢
  have hM0 : Hp w [(w.heap.size, 25, [.int .i64 a0, .int .i64 b0, .int .i64 a1, .int .i64 b1, .int .i64 a2, .int .i64 b2])] (w.alloc (.cells #[.int .i64 a0, .int .i64 b0, .int .i64 a1, .int .i64 b1, .int .i64 a2, .int .i64 b2] 25)) := (Hp.start w).new 25 [.int .i64 a0, .int .i64 b0, .int .i64 a1, .int .i64 b1, .int .i64 a2, .int .i64 b2]
  have HM0 := Lib.hid hM0
  have HC := Lib.hid hc
  have HP := Lib.hid hp
  have HS := Lib.hid hs
  have HT := Lib.hid ht
  have HPR := Lib.hid hpr
  clear hM0 hc hp hs hi hA hpr hD hl bx bY bz hs' ht
  go_enter Tryz.func14, Tryz.ntmps14
  go_wp2_with fail
  refine (HC.out _).mono ?_
  rintro e w1 ⟨rfl, hb⟩
  have HM1 := Lib.hid (HM0.out.step hb)
  clear hb HM0
  obtain ⟨e0, e1, e2, e3, e4, e5⟩ := six_of (HM1.out.at_ 0 rfl)
  go_wp2_with fail
  refine (HP.out _).mono ?_
  rintro e w2 hret
  unfold PaRet at hret
  rw [HPR.out] at hret
  obtain ⟨rfl, hb⟩ := hret
  have HM2 := Lib.hid (HM1.out.step hb)
  clear hb HM1 e0 e1 e2 e3 e4 e5
  go_wp2_with fail
  refine (HS.out _ (HT.out.below (bw_new HM2.out.below _))).mono ?_
  rintro e w3 ⟨rfl, hb⟩
  have HB := Lib.hid ((bw_new HM2.out.below _).trans (hb.mono (by have := HM2.out.below.size; simp; omega)))
  clear hb HM2
  go_wp2
  go_ret2
  exact ⟨rfl, HB.out⟩
end Go.Proofs.YtplonkeipdbchaaGreatDoor
