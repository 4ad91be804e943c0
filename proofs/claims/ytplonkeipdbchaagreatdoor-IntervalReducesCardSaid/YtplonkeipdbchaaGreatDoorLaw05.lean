/- Package bombardelaw05: parts. Conditions: none. Package bombardelaw05: size, read, right. Conditions: those that each theorem names. Printed by genlaw05.py. -/
import Derived.Test.YtplonkeipdbchaaGreatDoorIvCheck
import Derived.Test.YtplonkeipdbchaaGreatDoorRefRead
namespace Go.Proofs.YtplonkeipdbchaaGreatDoor
section
open Go.RowKit

set_option maxRecDepth 100000 in
set_option maxHeartbeats 2000000 in
/-- parts of a size. -/
theorem lparts_any (n0 d0 n1 d1 n2 d2 : Int) (w : World) :
    Calls Tryz.prog 20 #[szv n0 d0 n1 d1 n2 d2] w fun e w' => e = .returned (szv n0 d0 n1 d1 n2 d2) ∧ Below w.heap.size w w' := by
  go_enter Tryz.func20, Tryz.ntmps20
  go_wp2
  refine bodyPost_ret (v := szv n0 d0 n1 d1 n2 d2) ?_ rfl ⟨rfl, bw_new (bw_new (Below.refl _ w) _) _⟩
  have hz := heap_alloc_new (w.alloc (.cells #[.int .i64 n0, .int .i64 d0, .int .i64 n1, .int .i64 d1, .int .i64 n2, .int .i64 d2] 25)) (.cells #[.int .i64 n0, .int .i64 d0, .int .i64 n1, .int .i64 d1, .int .i64 n2, .int .i64 d2] 40)
  rw [World.size_alloc] at hz
  obtain ⟨g0, g1, g2, g3, g4, g5⟩ := six_of (t := 40) (a := .int .i64 n0) (b := .int .i64 d0) (c := .int .i64 n1) (d := .int .i64 d1) (e := .int .i64 n2) (f := .int .i64 d2) hz
  simp [g0, g1, g2, g3, g4, g5, results, Tryz.results20, go_sem]
end

section
open Go.RowKit

theorem rdV_form (n0 d0 n1 d1 n2 d2 : Int) : ∃ a b c d : Int, rdV [(n0, d0), (n1, d1), (n2, d2)] = .tuple #[ovv a b c d, .int .i64 (ivE [(n0, d0), (n1, d1), (n2, d2)])] ∧ (ivE [(n0, d0), (n1, d1), (n2, d2)] = 0 → prt [(n0, d0), (n1, d1), (n2, d2)] = some ([a, b, c], d)) ∧ (ivE [(n0, d0), (n1, d1), (n2, d2)] ≠ 0 → a = 0 ∧ b = 0 ∧ c = 0 ∧ d = 0) := by
  by_cases h : ∀ q ∈ [(n0, d0), (n1, d1), (n2, d2)], Right q.1 q.2
  · cases hp : prt [(n0, d0), (n1, d1), (n2, d2)] with
    | none => exact ⟨0, 0, 0, 0, by rw [rdV_lim h hp, ivE_lim h hp], fun he => by rw [ivE_lim h hp] at he; exact absurd he (by decide), fun _ => ⟨rfl, rfl, rfl, rfl⟩⟩
    | some t =>
      obtain ⟨l, D⟩ := t
      obtain ⟨x, y, z, rfl⟩ := prt_three hp
      have h0 := ivE_ok h (by rw [hp]; exact fun h => by cases h)
      exact ⟨x, y, z, D, by rw [rdV_ok h hp, h0], fun _ => rfl, fun he => absurd h0 he⟩
  · have he : ivE [(n0, d0), (n1, d1), (n2, d2)] = 2 := if_neg h
    have hr : rdV [(n0, d0), (n1, d1), (n2, d2)] = .tuple #[ovv 0 0 0 0, .int .i64 2] := if_neg h
    exact ⟨0, 0, 0, 0, by rw [hr, he], fun h0 => by rw [he] at h0; exact absurd h0 (by decide), fun _ => ⟨rfl, rfl, rfl, rfl⟩⟩

set_option maxRecDepth 100000 in
set_option maxHeartbeats 4000000 in
theorem lsize_any (x y z D : Int) (w : World) (h0 : -4611686018427387904 ≤ x ∧ x ≤ 4611686018427387904) (h1 : -4611686018427387904 ≤ y ∧ y ≤ 4611686018427387904) (h2 : -4611686018427387904 ≤ z ∧ z ≤ 4611686018427387904) (hD : 0 < D) (hD2 : D ≤ 4611686018427387904) :
    Calls Tryz.prog 49 #[ovv x y z D] w fun e w' => e = .returned (szv (lowN x D) (lowD x D) (lowN y D) (lowD y D) (lowN z D) (lowD z D)) ∧ Below w.heap.size w w' := by
  have hw := fun W => write_any x y z D W h0 h1 h2 hD hD2
  obtain ⟨n0, hn0⟩ : ∃ n, n = lowN x D := ⟨_, rfl⟩
  obtain ⟨d0, hd0⟩ : ∃ n, n = lowD x D := ⟨_, rfl⟩
  obtain ⟨n1, hn1⟩ : ∃ n, n = lowN y D := ⟨_, rfl⟩
  obtain ⟨d1, hd1⟩ : ∃ n, n = lowD y D := ⟨_, rfl⟩
  obtain ⟨n2, hn2⟩ : ∃ n, n = lowN z D := ⟨_, rfl⟩
  obtain ⟨d2, hd2⟩ : ∃ n, n = lowD z D := ⟨_, rfl⟩
  rw [← hn0, ← hn1, ← hn2, ← hd0, ← hd1, ← hd2] at hw ⊢
  have HW := Lib.hid hw
  have hM0 : Hp w [(w.heap.size, 28, [.int .i64 x, .int .i64 y, .int .i64 z, .int .i64 D]), (w.heap.size + 1, 25, [.int .i64 0, .int .i64 0, .int .i64 0, .int .i64 0, .int .i64 0, .int .i64 0])] ((w.alloc (.cells #[.int .i64 x, .int .i64 y, .int .i64 z, .int .i64 D] 28)).alloc (.cells #[.int .i64 0, .int .i64 0, .int .i64 0, .int .i64 0, .int .i64 0, .int .i64 0] 25)) := by
    have h := ((Hp.start w).new 28 [.int .i64 x, .int .i64 y, .int .i64 z, .int .i64 D]).new 25 [.int .i64 0, .int .i64 0, .int .i64 0, .int .i64 0, .int .i64 0, .int .i64 0]
    simp only [World.size_alloc] at h
    exact h
  have HM0 := Lib.hid hM0
  clear hw hM0 hn0 hn1 hn2 hd0 hd1 hd2 h0 h1 h2 hD hD2
  go_enter Tryz.func49, Tryz.ntmps49
  go_wp2_with fail
  refine (HW.out _).mono ?_
  rintro e w1 ⟨rfl, hb⟩
  have HM1 := Lib.hid (HM0.out.step hb)
  have hlt : w.heap.size + 1 < w1.heap.size := (HM1.out.at_ 1 rfl).lt
  clear hb HM0
  obtain ⟨e0, e1, e2, e3, e4, e5⟩ := six_of (HM1.out.at_ 1 rfl)
  obtain ⟨f0, f1, f2, f3, f4, f5⟩ := six_free (HM1.out.at_ 1 rfl)
  go_wp2
  obtain ⟨WZ, hWZ⟩ : ∃ WZ, WZ = (((((((w1.setCell ⟨w.heap.size + 1, 0, none⟩ (.int .i64 n0)).setCell ⟨w.heap.size + 1, 1, none⟩ (.int .i64 d0)).setCell ⟨w.heap.size + 1, 2, none⟩ (.int .i64 n1)).setCell ⟨w.heap.size + 1, 3, none⟩ (.int .i64 d1)).setCell ⟨w.heap.size + 1, 4, none⟩ (.int .i64 n2)).setCell ⟨w.heap.size + 1, 5, none⟩ (.int .i64 d2)).alloc (.cells #[.int .i64 n0, .int .i64 d0, .int .i64 n1, .int .i64 d1, .int .i64 n2, .int .i64 d2] 40)) := ⟨_, rfl⟩
  have hz := (HM1.out.put6 1 rfl (.int .i64 n0) (.int .i64 d0) (.int .i64 n1) (.int .i64 d1) (.int .i64 n2) (.int .i64 d2)).alloc (.cells #[.int .i64 n0, .int .i64 d0, .int .i64 n1, .int .i64 d1, .int .i64 n2, .int .i64 d2] 40)
  rw [← hWZ] at hz ⊢
  obtain ⟨g0, g1, g2, g3, g4, g5⟩ := six_of (hz.at_ 1 rfl)
  exact bodyPost_ret (v := szv n0 d0 n1 d1 n2 d2) (by simp [g0, g1, g2, g3, g4, g5, results, Tryz.results49, go_sem]) rfl ⟨rfl, hz.below⟩

set_option maxRecDepth 100000 in
set_option maxHeartbeats 4000000 in
theorem lread_any (n0 d0 n1 d1 n2 d2 : Int) (w : World) :
    Calls Tryz.prog 6 #[szv n0 d0 n1 d1 n2 d2] w fun e w' => e = .returned (rdV [(n0, d0), (n1, d1), (n2, d2)]) ∧ Below w.heap.size w w' := by
  have hp := fun W => lparts_any n0 d0 n1 d1 n2 d2 W
  have hr := fun W => read_any n0 d0 n1 d1 n2 d2 W
  obtain ⟨a, b, c, d, hv, _, _⟩ := rdV_form n0 d0 n1 d1 n2 d2
  rw [hv] at hr ⊢
  obtain ⟨q, hq⟩ : ∃ q, q = ivE [(n0, d0), (n1, d1), (n2, d2)] := ⟨_, rfl⟩
  rw [← hq] at hr ⊢
  have HP := Lib.hid hp
  have HR := Lib.hid hr
  have hM0 : Hp w [(w.heap.size, 25, [.int .i64 n0, .int .i64 d0, .int .i64 n1, .int .i64 d1, .int .i64 n2, .int .i64 d2]), (w.heap.size + 1, 28, [.int .i64 0, .int .i64 0, .int .i64 0, .int .i64 0])] ((w.alloc (.cells #[.int .i64 n0, .int .i64 d0, .int .i64 n1, .int .i64 d1, .int .i64 n2, .int .i64 d2] 25)).alloc (.cells #[.int .i64 0, .int .i64 0, .int .i64 0, .int .i64 0] 28)) := by
    have h := ((Hp.start w).new 25 [.int .i64 n0, .int .i64 d0, .int .i64 n1, .int .i64 d1, .int .i64 n2, .int .i64 d2]).new 28 [.int .i64 0, .int .i64 0, .int .i64 0, .int .i64 0]
    simp only [World.size_alloc] at h
    exact h
  have HM0 := Lib.hid hM0
  clear hp hr hM0 hv hq
  go_enter Tryz.func6, Tryz.ntmps6
  go_wp2_with fail
  refine (HP.out _).mono ?_
  rintro e w1 ⟨rfl, hb⟩
  have HM1 := Lib.hid (HM0.out.step hb)
  clear hb HM0
  go_wp2_with fail
  refine (HR.out _).mono ?_
  rintro e w2 ⟨rfl, hb⟩
  have HM2 := Lib.hid (HM1.out.step hb)
  clear hb HM1
  obtain ⟨e0, e1, e2, e3⟩ := four_of (HM2.out.at_ 1 rfl)
  obtain ⟨f0, f1, f2, f3⟩ := four_free (HM2.out.at_ 1 rfl)
  go_wp2
  obtain ⟨WZ, hWZ⟩ : ∃ WZ, WZ = ((((w2.setCell ⟨w.heap.size + 1, 0, none⟩ (.int .i64 a)).setCell ⟨w.heap.size + 1, 1, none⟩ (.int .i64 b)).setCell ⟨w.heap.size + 1, 2, none⟩ (.int .i64 c)).setCell ⟨w.heap.size + 1, 3, none⟩ (.int .i64 d)) := ⟨_, rfl⟩
  have hz := HM2.out.put4 1 rfl (.int .i64 a) (.int .i64 b) (.int .i64 c) (.int .i64 d)
  rw [← hWZ] at hz ⊢
  obtain ⟨g0, g1, g2, g3⟩ := four_of (hz.at_ 1 rfl)
  exact bodyPost_ret (v := .tuple #[ovv a b c d, .int .i64 q]) (by simp [g0, g1, g2, g3, results, Tryz.results6, go_sem]) rfl ⟨rfl, hz.below⟩

set_option maxRecDepth 100000 in
set_option maxHeartbeats 4000000 in
theorem lright_any (x y z D : Int) (w : World) (h0 : -4611686018427387904 ≤ x ∧ x ≤ 4611686018427387904) (h1 : -4611686018427387904 ≤ y ∧ y ≤ 4611686018427387904) (h2 : -4611686018427387904 ≤ z ∧ z ≤ 4611686018427387904) (hD : 0 < D) (hD2 : D ≤ 4611686018427387904) :
    Calls Tryz.prog 19 #[ovv x y z D] w fun e w' => e = .returned (ivR (lowN x D) (lowD x D) (lowN y D) (lowD y D) (lowN z D) (lowD z D)) ∧ Below w.heap.size w w' := by
  have hs := fun W => lsize_any x y z D W h0 h1 h2 hD hD2
  obtain ⟨n0, hn0⟩ : ∃ n, n = lowN x D := ⟨_, rfl⟩
  obtain ⟨d0, hd0⟩ : ∃ n, n = lowD x D := ⟨_, rfl⟩
  obtain ⟨n1, hn1⟩ : ∃ n, n = lowN y D := ⟨_, rfl⟩
  obtain ⟨d1, hd1⟩ : ∃ n, n = lowD y D := ⟨_, rfl⟩
  obtain ⟨n2, hn2⟩ : ∃ n, n = lowN z D := ⟨_, rfl⟩
  obtain ⟨d2, hd2⟩ : ∃ n, n = lowD z D := ⟨_, rfl⟩
  rw [← hn0, ← hn1, ← hn2, ← hd0, ← hd1, ← hd2] at hs ⊢
  have hr := fun W => lread_any n0 d0 n1 d1 n2 d2 W
  obtain ⟨a, b, c, d, hv, _, _⟩ := rdV_form n0 d0 n1 d1 n2 d2
  rw [hv] at hr
  have hi : ivR n0 d0 n1 d1 n2 d2 = if ivE [(n0, d0), (n1, d1), (n2, d2)] = 0 then .tuple #[szv n0 d0 n1 d1 n2 d2, .int .i64 0] else .tuple #[szv 0 0 0 0 0 0, .int .i64 4] := rfl
  obtain ⟨q, hq⟩ : ∃ q, q = ivE [(n0, d0), (n1, d1), (n2, d2)] := ⟨_, rfl⟩
  rw [← hq] at hr hi
  have HS := Lib.hid hs
  have HR := Lib.hid hr
  have HI := Lib.hid hi
  have hM0 : Hp w [(w.heap.size, 28, [.int .i64 x, .int .i64 y, .int .i64 z, .int .i64 D]), (w.heap.size + 1, 25, [.int .i64 0, .int .i64 0, .int .i64 0, .int .i64 0, .int .i64 0, .int .i64 0])] ((w.alloc (.cells #[.int .i64 x, .int .i64 y, .int .i64 z, .int .i64 D] 28)).alloc (.cells #[.int .i64 0, .int .i64 0, .int .i64 0, .int .i64 0, .int .i64 0, .int .i64 0] 25)) := by
    have h := ((Hp.start w).new 28 [.int .i64 x, .int .i64 y, .int .i64 z, .int .i64 D]).new 25 [.int .i64 0, .int .i64 0, .int .i64 0, .int .i64 0, .int .i64 0, .int .i64 0]
    simp only [World.size_alloc] at h
    exact h
  have HM0 := Lib.hid hM0
  clear hs hr hi hM0 hv hq hn0 hn1 hn2 hd0 hd1 hd2 h0 h1 h2 hD hD2
  by_cases hz0 : q = 0
  all_goals
    have HZ := Lib.hid hz0
    first | (have hzb : (q != 0) = false := by simpa using hz0) | (have hzb : (q != 0) = true := by simpa using hz0)
    clear hz0
    go_enter Tryz.func19, Tryz.ntmps19
    go_wp2_with fail
    refine (HS.out _).mono ?_
    rintro e w1 ⟨rfl, hb⟩
    have HM1 := Lib.hid ((HM0.out.step hb).new 25 [.int .i64 n0, .int .i64 d0, .int .i64 n1, .int .i64 d1, .int .i64 n2, .int .i64 d2])
    have hlt : w.heap.size + 1 < w1.heap.size := ((HM0.out.step hb).at_ 1 rfl).lt
    clear hb HM0
    go_wp2_with fail
    refine (HR.out _).mono ?_
    rintro e w2 ⟨rfl, hb⟩
    have HM2 := Lib.hid (show Hp w [(w.heap.size, 28, [.int .i64 x, .int .i64 y, .int .i64 z, .int .i64 D]), (w.heap.size + 1, 25, [.int .i64 0, .int .i64 0, .int .i64 0, .int .i64 0, .int .i64 0, .int .i64 0]), (w1.heap.size, 25, [.int .i64 n0, .int .i64 d0, .int .i64 n1, .int .i64 d1, .int .i64 n2, .int .i64 d2])] w2 from HM1.out.step hb)
    clear hb HM1
    have hlt1 : w1.heap.size < w2.heap.size := (HM2.out.at_ 2 rfl).lt
    have hlt2 : w.heap.size + 1 < w2.heap.size := (HM2.out.at_ 1 rfl).lt
    obtain ⟨e0, e1, e2, e3, e4, e5⟩ := six_of (HM2.out.at_ 1 rfl)
    obtain ⟨f0, f1, f2, f3, f4, f5⟩ := six_free (HM2.out.at_ 1 rfl)
    obtain ⟨u0, u1, u2, u3, u4, u5⟩ := six_of (HM2.out.at_ 2 rfl)
  · go_wp2
    obtain ⟨WZ, hWZ⟩ : ∃ WZ, WZ = (((((((w2.setCell ⟨w.heap.size + 1, 0, none⟩ (.int .i64 n0)).setCell ⟨w.heap.size + 1, 1, none⟩ (.int .i64 d0)).setCell ⟨w.heap.size + 1, 2, none⟩ (.int .i64 n1)).setCell ⟨w.heap.size + 1, 3, none⟩ (.int .i64 d1)).setCell ⟨w.heap.size + 1, 4, none⟩ (.int .i64 n2)).setCell ⟨w.heap.size + 1, 5, none⟩ (.int .i64 d2)).alloc (.cells #[.int .i64 a, .int .i64 b, .int .i64 c, .int .i64 d] 28)) := ⟨_, rfl⟩
    have hz := (HM2.out.put6 1 rfl (.int .i64 n0) (.int .i64 d0) (.int .i64 n1) (.int .i64 d1) (.int .i64 n2) (.int .i64 d2)).alloc (.cells #[.int .i64 a, .int .i64 b, .int .i64 c, .int .i64 d] 28)
    rw [← hWZ] at hz ⊢
    obtain ⟨g0, g1, g2, g3, g4, g5⟩ := six_of (hz.at_ 1 rfl)
    exact bodyPost_ret (v := .tuple #[szv n0 d0 n1 d1 n2 d2, .int .i64 0]) (by simp [g0, g1, g2, g3, g4, g5, results, Tryz.results19, go_sem]) rfl ⟨by rw [HI.out, if_pos HZ.out], hz.below⟩
  · go_wp2
    obtain ⟨WZ, hWZ⟩ : ∃ WZ, WZ = (((((((w2.setCell ⟨w.heap.size + 1, 0, none⟩ (.int .i64 0)).setCell ⟨w.heap.size + 1, 1, none⟩ (.int .i64 0)).setCell ⟨w.heap.size + 1, 2, none⟩ (.int .i64 0)).setCell ⟨w.heap.size + 1, 3, none⟩ (.int .i64 0)).setCell ⟨w.heap.size + 1, 4, none⟩ (.int .i64 0)).setCell ⟨w.heap.size + 1, 5, none⟩ (.int .i64 0)).alloc (.cells #[.int .i64 a, .int .i64 b, .int .i64 c, .int .i64 d] 28)) := ⟨_, rfl⟩
    have hz := (HM2.out.put6 1 rfl (.int .i64 0) (.int .i64 0) (.int .i64 0) (.int .i64 0) (.int .i64 0) (.int .i64 0)).alloc (.cells #[.int .i64 a, .int .i64 b, .int .i64 c, .int .i64 d] 28)
    rw [← hWZ] at hz ⊢
    obtain ⟨g0, g1, g2, g3, g4, g5⟩ := six_of (hz.at_ 1 rfl)
    exact bodyPost_ret (v := .tuple #[szv 0 0 0 0 0 0, .int .i64 4]) (by simp [g0, g1, g2, g3, g4, g5, results, Tryz.results19, go_sem]) rfl ⟨by rw [HI.out, if_neg HZ.out], hz.below⟩
end
end Go.Proofs.YtplonkeipdbchaaGreatDoor
