/- Part 42 of 46 of the proof of the law: contracts of the functions that it reaches, and plain facts. Conditions: those that each contract names. -/
import Derived.Test.YtendjepcjmfmfaaGreatDoorErrB41
namespace Go.Proofs.YtendjepcjmfmfaaGreatDoor
open Go.RowKit
set_option maxRecDepth 1000000 in
set_option maxHeartbeats 8000000 in
theorem bbeats_tot (C : Nat → Tm) (p l s t : Int) (w : World) (ht : Tab w) (hs : ptB s) (hl : 0 ≤ l ∧ l ≤ 127) (hlt : l + s = t)
  (hD : ∀ W, Tab W → Calls Tryz.prog 58 #[.agg (tuL C p).toArray, .agg #[.int .i64 l, .int .i64 s]] W fun e w' => InE e ∧ Below W.heap.size W w')
  (hF : ∀ W, Tab W → Calls Tryz.prog 55 #[.agg (tuL C p).toArray, .int .i64 l] W fun e w' => BdE e ∧ Below W.heap.size W w')
  (hG : ∀ W, Tab W → Calls Tryz.prog 55 #[.agg (tuL C p).toArray, .int .i64 t] W fun e w' => BdE e ∧ Below W.heap.size W w') :
  Calls Tryz.prog 60 #[.agg (tuL C p).toArray, .agg #[.int .i64 l, .int .i64 s]] w fun e w' => BdE e ∧ Below w.heap.size w w' := by
 have hp := fun W => bPart_ok s W hs
 have hs12 : 0 ≤ s ∧ s ≤ 12 := by unfold ptB at hs; omega
 have hw : IntKind.i64.wrap (l + s) = t := by rw [hlt]; exact IntWalk.i64_in _ (by omega)
 obtain ⟨u, hu⟩ : ∃ u, u = (ptP s).1 := ⟨_, rfl⟩
 obtain ⟨v, hv⟩ : ∃ u, u = (ptP s).2 := ⟨_, rfl⟩
 rw [← hu, ← hv] at hp
 have HP := Lib.hid hp
 have HD := Lib.hid hD
 have HF := Lib.hid hF
 have HG := Lib.hid hG
 have HT := Lib.hid ht
 have HW := Lib.hid hw
 have hm0 := (((Hp.start w).new 41 (tuL C p)).new 67 [.int .i64 l, .int .i64 s]).new 53 [.int .i64 0, .int .i64 0]
 simp only [World.size_alloc, List.nil_append, List.cons_append] at hm0
 have HM0 := Lib.hid hm0
 obtain ⟨y0, y1⟩ := two_of (hm0.at_ 1 rfl)
 clear hm0 hp hD hF hG ht hw hs hl hlt hs12 hu hv
 go_enter Tryz.func60, Tryz.ntmps60
 go_wp2_with fail
 refine (HP.out _).mono ?_
 rintro e wx ⟨rfl, rfl⟩
 go_wp2_with (refine wpList_load_row rfl 41 _ rfl w.heap.size rfl 41 (tuL C p).toArray (0, 0) _ (HM0.out.at_ 0 rfl) Tryz.underlying41 rfl (by rw [infoTun, List.size_toArray, tuL_len]) ?_)
 refine (HD.out _ (HT.out.below HM0.out.below)).mono ?_
 rintro e w1 ⟨⟨dv, dc, rfl⟩, hb1⟩
 by_cases hdc : dc = 0
 ·subst hdc
  have HM1 := Lib.hid (HM0.out.step hb1)
  clear hb1 HM0 y0 y1
  obtain ⟨y0, y1⟩ := two_of (HM1.out.at_ 1 rfl)
  go_wp2_with (refine wpList_load_row rfl 41 _ rfl w.heap.size rfl 41 (tuL C p).toArray (0, 0) _ (HM1.out.at_ 0 rfl) Tryz.underlying41 rfl (by rw [infoTun, List.size_toArray, tuL_len]) ?_)
  refine (HF.out _ (HT.out.below HM1.out.below)).mono ?_
  rintro e w2 ⟨⟨a0, a1, e1, rfl⟩, hb2⟩
  have hm3 := (HM1.out.step hb2).new 53 [.int .i64 a0, .int .i64 a1]
  simp only [List.nil_append, List.cons_append] at hm3
  have HM3 := Lib.hid hm3
  clear hb2 HM1 y0 y1
  by_cases h1 : e1 = 0
  ·subst h1
   obtain ⟨y0, y1⟩ := two_of (hm3.at_ 1 rfl)
   have hw := HW.out
   clear hm3
   go_wp2_with (refine wpList_load_row rfl 41 _ rfl w.heap.size rfl 41 (tuL C p).toArray (0, 0) _ (HM3.out.at_ 0 rfl) Tryz.underlying41 rfl (by rw [infoTun, List.size_toArray, tuL_len]) ?_)
   refine (HG.out _ (HT.out.below HM3.out.below)).mono ?_
   rintro e w3 ⟨⟨b0, b1, e2, rfl⟩, hb3⟩
   have hm4 := (HM3.out.step hb3).new 53 [.int .i64 b0, .int .i64 b1]
   simp only [List.nil_append, List.cons_append] at hm4
   have HM4 := Lib.hid hm4
   clear hb3 HM3 y0 y1 hw
   obtain ⟨y0, y1⟩ := two_of (hm4.at_ 2 rfl)
   have f0 := (hm4.at_ 2 rfl).frozen 0
   have f1 := (hm4.at_ 2 rfl).frozen 1
   by_cases h2 : e2 = 0
   ·subst h2
    obtain ⟨q0, q1⟩ := two_of (hm4.at_ 3 rfl)
    obtain ⟨q2, q3⟩ := two_of (hm4.at_ 4 rfl)
    obtain ⟨x1, hx1⟩ : ∃ x, IntKind.i64.wrap (v * b0) = x := ⟨_, rfl⟩
    obtain ⟨x2, hx2⟩ : ∃ x, IntKind.i64.wrap (u * a1) = x := ⟨_, rfl⟩
    obtain ⟨x3, hx3⟩ : ∃ x, IntKind.i64.wrap (v * b1) = x := ⟨_, rfl⟩
    obtain ⟨x4, hx4⟩ : ∃ x, IntKind.i64.wrap (u * a0) = x := ⟨_, rfl⟩
    obtain ⟨z1, hz1⟩ : ∃ x, IntKind.i64.wrap (x1 - x2) = x := ⟨_, rfl⟩
    obtain ⟨z2, hz2⟩ : ∃ x, IntKind.i64.wrap (x3 - x4) = x := ⟨_, rfl⟩
    obtain ⟨z3, hz3⟩ : ∃ x, IntKind.i64.wrap (x4 - x3) = x := ⟨_, rfl⟩
    obtain ⟨z4, hz4⟩ : ∃ x, IntKind.i64.wrap (x2 - x1) = x := ⟨_, rfl⟩
    by_cases h3 : dv = 1
    ·subst h3
     have HZ := Lib.hid (hm4.put2 2 rfl (.int .i64 (max 0 z1)) (.int .i64 z2))
     clear hm4 HM4
     go_wp2_with fail
     obtain ⟨WZ, hWZ⟩ : ∃ WZ, WZ = ((w3.alloc (.cells #[.int .i64 b0, .int .i64 b1] 53)).setCell ⟨w.heap.size + 1 + 1, 0, none⟩ (.int .i64 (max 0 z1))).setCell ⟨w.heap.size + 1 + 1, 1, none⟩ (.int .i64 z2) := ⟨_, rfl⟩
     rw [← hWZ] at HZ ⊢
     obtain ⟨j0, j1⟩ := two_of (HZ.out.at_ 2 rfl)
     exact bodyPost_ret (v := .tuple #[.agg #[.int .i64 (max 0 z1), .int .i64 z2], .int .i64 0]) (by simp [results, Tryz.results60, go_sem, j0, j1]) rfl ⟨BdE.of _ _ _, HZ.out.below⟩
    ·by_cases h4 : dv = -1
     ·subst h4
      have HZ := Lib.hid (hm4.put2 2 rfl (.int .i64 (max 0 z3)) (.int .i64 z4))
      clear hm4 HM4 h3
      go_wp2_with fail
      obtain ⟨WZ, hWZ⟩ : ∃ WZ, WZ = ((w3.alloc (.cells #[.int .i64 b0, .int .i64 b1] 53)).setCell ⟨w.heap.size + 1 + 1, 0, none⟩ (.int .i64 (max 0 z3))).setCell ⟨w.heap.size + 1 + 1, 1, none⟩ (.int .i64 z4) := ⟨_, rfl⟩
      rw [← hWZ] at HZ ⊢
      obtain ⟨j0, j1⟩ := two_of (HZ.out.at_ 2 rfl)
      exact bodyPost_ret (v := .tuple #[.agg #[.int .i64 (max 0 z3), .int .i64 z4], .int .i64 0]) (by simp [results, Tryz.results60, go_sem, j0, j1]) rfl ⟨BdE.of _ _ _, HZ.out.below⟩
     ·have hz1 : (dv == 1) = false := by simpa using h3
      have hz2 : (dv == -1) = false := by simpa using h4
      have HZ := Lib.hid (hm4.put2 2 rfl (.int .i64 0) (.int .i64 0))
      clear hm4 HM4 h3 h4
      go_wp2_with fail
      obtain ⟨WZ, hWZ⟩ : ∃ WZ, WZ = ((w3.alloc (.cells #[.int .i64 b0, .int .i64 b1] 53)).setCell ⟨w.heap.size + 1 + 1, 0, none⟩ (.int .i64 0)).setCell ⟨w.heap.size + 1 + 1, 1, none⟩ (.int .i64 0) := ⟨_, rfl⟩
      rw [← hWZ] at HZ ⊢
      obtain ⟨j0, j1⟩ := two_of (HZ.out.at_ 2 rfl)
      exact bodyPost_ret (v := .tuple #[.agg #[.int .i64 0, .int .i64 0], .int .i64 0]) (by simp [results, Tryz.results60, go_sem, j0, j1]) rfl ⟨BdE.of _ _ _, HZ.out.below⟩
   ·have hz : (e2 != 0) = true := by simpa using h2
    have HZ := Lib.hid (hm4.put2 2 rfl (.int .i64 0) (.int .i64 0))
    clear hm4 HM4 h2
    go_wp2_with fail
    obtain ⟨WZ, hWZ⟩ : ∃ WZ, WZ = ((w3.alloc (.cells #[.int .i64 b0, .int .i64 b1] 53)).setCell ⟨w.heap.size + 1 + 1, 0, none⟩ (.int .i64 0)).setCell ⟨w.heap.size + 1 + 1, 1, none⟩ (.int .i64 0) := ⟨_, rfl⟩
    rw [← hWZ] at HZ ⊢
    obtain ⟨j0, j1⟩ := two_of (HZ.out.at_ 2 rfl)
    exact bodyPost_ret (v := .tuple #[.agg #[.int .i64 0, .int .i64 0], .int .i64 e2]) (by simp [results, Tryz.results60, go_sem, j0, j1]) rfl ⟨BdE.of _ _ _, HZ.out.below⟩
  ·have hz : (e1 != 0) = true := by simpa using h1
   obtain ⟨y0, y1⟩ := two_of (hm3.at_ 2 rfl)
   have f0 := (hm3.at_ 2 rfl).frozen 0
   have f1 := (hm3.at_ 2 rfl).frozen 1
   have HZ := Lib.hid (hm3.put2 2 rfl (.int .i64 0) (.int .i64 0))
   clear hm3 HM3 h1
   go_wp2_with fail
   obtain ⟨WZ, hWZ⟩ : ∃ WZ, WZ = ((w2.alloc (.cells #[.int .i64 a0, .int .i64 a1] 53)).setCell ⟨w.heap.size + 1 + 1, 0, none⟩ (.int .i64 0)).setCell ⟨w.heap.size + 1 + 1, 1, none⟩ (.int .i64 0) := ⟨_, rfl⟩
   rw [← hWZ] at HZ ⊢
   obtain ⟨j0, j1⟩ := two_of (HZ.out.at_ 2 rfl)
   exact bodyPost_ret (v := .tuple #[.agg #[.int .i64 0, .int .i64 0], .int .i64 e1]) (by simp [results, Tryz.results60, go_sem, j0, j1]) rfl ⟨BdE.of _ _ _, HZ.out.below⟩
 ·have hz : (dc != 0) = true := by simpa using hdc
  have HM1 := Lib.hid (HM0.out.step hb1)
  clear hb1 HM0 y0 y1 hdc
  obtain ⟨y0, y1⟩ := two_of (HM1.out.at_ 2 rfl)
  have f0 := (HM1.out.at_ 2 rfl).frozen 0
  have f1 := (HM1.out.at_ 2 rfl).frozen 1
  have HZ := Lib.hid (HM1.out.put2 2 rfl (.int .i64 0) (.int .i64 0))
  clear HM1
  go_wp2_with fail
  obtain ⟨WZ, hWZ⟩ : ∃ WZ, WZ = (w1.setCell ⟨w.heap.size + 1 + 1, 0, none⟩ (.int .i64 0)).setCell ⟨w.heap.size + 1 + 1, 1, none⟩ (.int .i64 0) := ⟨_, rfl⟩
  rw [← hWZ] at HZ ⊢
  obtain ⟨j0, j1⟩ := two_of (HZ.out.at_ 2 rfl)
  exact bodyPost_ret (v := .tuple #[.agg #[.int .i64 0, .int .i64 0], .int .i64 dc]) (by simp [results, Tryz.results60, go_sem, j0, j1]) rfl ⟨BdE.of _ _ _, HZ.out.below⟩
set_option maxRecDepth 1000000 in
set_option maxHeartbeats 8000000 in
theorem bsizes_tot (C : Nat → Tm) (p : Int) (g c : Nat) (L : List (Int × Int)) (w : World) (ht : Tab w) (hL : IvsAt w g L) (hl : L.length ≤ 200) (hi : ∀ x ∈ L, ivxE x = 0)
  (hB : ∀ x y : Int, 0 ≤ x ∧ x ≤ 127 → 0 ≤ y ∧ y ≤ 127 → ∀ W, Tab W → Calls Tryz.prog 56 #[.agg (cirL C).toArray, .int .i64 x, .int .i64 y] W fun e w' => SzE e ∧ Below W.heap.size W w') :
  Calls Tryz.prog 59 #[.agg (tuL C p).toArray, .slice (some ⟨g, 0, none⟩) L.length c] w fun e w' => (∃ c : Int, e = .returned (.int .i64 c)) ∧ Below w.heap.size w w' := by
 obtain ⟨n, hn⟩ : ∃ n, n = L.length := ⟨_, rfl⟩
 have hm0 := (Hp.start w).new 41 (tuL C p)
 simp only [World.size_alloc, List.nil_append, List.cons_append] at hm0
 have HM0 := Lib.hid hm0
 have HL := Lib.hid hL
 have HI := Lib.hid hi
 have HN := Lib.hid hn
 have HB := Lib.hid hB
 have HT := Lib.hid ht
 rw [← hn] at hl ⊢
 clear hm0 hL hi hn hB ht
 go_enter Tryz.func59, Tryz.ntmps59
 go_wp2_with fail
 go_loopw [13] (fun i wr => SzRel w C p n i wr) (fun i _ => n - (intOf i).toNat)
 case atStart => exact ⟨0, by omega, rfl, HM0.out⟩
 case round =>
  obtain ⟨k, hk, rfl, hm⟩ := hrel
  have HM := Lib.hid hm
  clear hm HM0
  by_cases hlt : k < n
  ·obtain ⟨x, hx⟩ : ∃ x, x = L[k]'(by rw [← HN.out]; exact hlt) := ⟨_, rfl⟩
   obtain ⟨c0, c1⟩ := (HL.out.below HM.out.below).2 k (by rw [← HN.out]; exact hlt)
   have hie := HI.out x (by rw [hx]; exact List.getElem_mem _)
   rw [← hx] at c0 c1
   clear hx
   obtain ⟨a, b⟩ := x
   dsimp only at c0 c1
   have hab : (0 ≤ a ∧ a ≤ 127) ∧ (3 ≤ b ∧ b ≤ 12) ∧ a + b ≤ 127 := by
    unfold ivxE at hie
    split at hie
    ·exact absurd hie (by decide)
    ·rename_i h1
     have hb : ptB b := Classical.not_not.1 h1
     split at hie
     ·rename_i h2
      dsimp only at h2
      unfold ptB at hb
      omega
     ·exact absurd hie (by decide)
   obtain ⟨t, htt⟩ : ∃ t, t = a + b := ⟨_, rfl⟩
   have hw : IntKind.i64.wrap (a + b) = t := by rw [htt]; exact IntWalk.i64_in _ (by omega)
   have HAT := Lib.hid (show (0 ≤ a ∧ a ≤ 127) ∧ (0 ≤ t ∧ t ≤ 127) by omega)
   have hlk : (k : Int) < (n : Int) := by omega
   obtain ⟨g6, hg6⟩ : ∃ g, g = wr.heap.size := ⟨_, rfl⟩
   have hm6 := HM.out.new 67 [.int .i64 a, .int .i64 b]
   simp only [List.nil_append, List.cons_append] at hm6
   have hm7 := hm6.new 136 [.int .i64 a, .int .i64 t, .int .i64 69, .int .i64 a, .int .i64 69, .int .i64 t]
   simp only [World.size_alloc, List.nil_append, List.cons_append] at hm7
   have HM7 := Lib.hid hm7
   obtain ⟨y0, y1⟩ := two_of (hm6.at_ 1 rfl)
   clear hie hab htt hm6 hm7 hg6
   go_wp2_with fail
   go_loopw [36] (fun i wx => SyRel w C p wr.heap.size (wr.heap.size + 1) a b t i wx) (fun i _ => 3 - (intOf i).toNat)
   case atStart => exact ⟨0, by omega, rfl, HM7.out⟩
   case round =>
    obtain ⟨j, hj, rfl, hm⟩ := hrel
    have HM8 := Lib.hid hm
    clear hm HM7 c0 c1 y0 y1 hw
    by_cases hjt : j < 3
    ·rcases (show j = 0 ∨ j = 1 ∨ j = 2 by omega) with rfl | rfl | rfl
     ·obtain ⟨c0, c1, c2, c3, c4, c5⟩ := six_of (HM8.out.at_ 2 rfl)
      have HBT := Lib.hid (HB.out a t HAT.out.1 HAT.out.2)
      have HM9 := Lib.hid (HM8.out.new 136 [.int .i64 a, .int .i64 t])
      go_wp2_with (refine wpList_load_pre rfl 38 _ rfl w.heap.size rfl (cirL C).toArray _ (tu_cir (HM9.out.at_ 0 rfl)) Tryz.underlying38 rfl (by rw [infoCircle, List.size_toArray, cirL_len]) ?_)
      refine (HBT.out _ (HT.out.below HM9.out.below)).mono ?_
      rintro e w2 ⟨⟨s0, s1, s2, s3, s4, s5, c', hE, rfl⟩, hb2⟩
      clear hE
      by_cases hc : c' = 0
      ·subst hc
       have HM10 := Lib.hid ((HM9.out.step hb2).alloc (.cells #[.int .i64 s0, .int .i64 s1, .int .i64 s2, .int .i64 s3, .int .i64 s4, .int .i64 s5] 49))
       have HM11 := Lib.hid (HM10.out.sub (List.sublist_append_left _ _))
       clear hb2 HM10 HM9 c0 c1 c2 c3 c4 c5 HM8
       go_wp2_with fail
       go_roundw
       case rel => exact ⟨0 + 1, by omega, rfl, HM11.out⟩
       case measure => simp [intOf]
      ·have hz : (c' != 0) = true := by simpa using hc
       have HM10 := Lib.hid ((HM9.out.step hb2).alloc (.cells #[.int .i64 s0, .int .i64 s1, .int .i64 s2, .int .i64 s3, .int .i64 s4, .int .i64 s5] 49))
       clear hb2 HM9 c0 c1 c2 c3 c4 c5 HM8 hc
       go_wp2_with fail
       exact bodyPost_ret (v := .int .i64 c') (by simp [results, Tryz.results59, go_sem]) rfl ⟨⟨_, rfl⟩, HM10.out.below⟩
     ·obtain ⟨c0, c1, c2, c3, c4, c5⟩ := six_of (HM8.out.at_ 2 rfl)
      have HBT := Lib.hid (HB.out 69 a (by decide) HAT.out.1)
      have HM9 := Lib.hid (HM8.out.new 136 [.int .i64 69, .int .i64 a])
      go_wp2_with (refine wpList_load_pre rfl 38 _ rfl w.heap.size rfl (cirL C).toArray _ (tu_cir (HM9.out.at_ 0 rfl)) Tryz.underlying38 rfl (by rw [infoCircle, List.size_toArray, cirL_len]) ?_)
      refine (HBT.out _ (HT.out.below HM9.out.below)).mono ?_
      rintro e w2 ⟨⟨s0, s1, s2, s3, s4, s5, c', hE, rfl⟩, hb2⟩
      clear hE
      by_cases hc : c' = 0
      ·subst hc
       have HM10 := Lib.hid ((HM9.out.step hb2).alloc (.cells #[.int .i64 s0, .int .i64 s1, .int .i64 s2, .int .i64 s3, .int .i64 s4, .int .i64 s5] 49))
       have HM11 := Lib.hid (HM10.out.sub (List.sublist_append_left _ _))
       clear hb2 HM10 HM9 c0 c1 c2 c3 c4 c5 HM8
       go_wp2_with fail
       go_roundw
       case rel => exact ⟨1 + 1, by omega, rfl, HM11.out⟩
       case measure => simp [intOf]
      ·have hz : (c' != 0) = true := by simpa using hc
       have HM10 := Lib.hid ((HM9.out.step hb2).alloc (.cells #[.int .i64 s0, .int .i64 s1, .int .i64 s2, .int .i64 s3, .int .i64 s4, .int .i64 s5] 49))
       clear hb2 HM9 c0 c1 c2 c3 c4 c5 HM8 hc
       go_wp2_with fail
       exact bodyPost_ret (v := .int .i64 c') (by simp [results, Tryz.results59, go_sem]) rfl ⟨⟨_, rfl⟩, HM10.out.below⟩
     ·obtain ⟨c0, c1, c2, c3, c4, c5⟩ := six_of (HM8.out.at_ 2 rfl)
      have HBT := Lib.hid (HB.out 69 t (by decide) HAT.out.2)
      have HM9 := Lib.hid (HM8.out.new 136 [.int .i64 69, .int .i64 t])
      go_wp2_with (refine wpList_load_pre rfl 38 _ rfl w.heap.size rfl (cirL C).toArray _ (tu_cir (HM9.out.at_ 0 rfl)) Tryz.underlying38 rfl (by rw [infoCircle, List.size_toArray, cirL_len]) ?_)
      refine (HBT.out _ (HT.out.below HM9.out.below)).mono ?_
      rintro e w2 ⟨⟨s0, s1, s2, s3, s4, s5, c', hE, rfl⟩, hb2⟩
      clear hE
      by_cases hc : c' = 0
      ·subst hc
       have HM10 := Lib.hid ((HM9.out.step hb2).alloc (.cells #[.int .i64 s0, .int .i64 s1, .int .i64 s2, .int .i64 s3, .int .i64 s4, .int .i64 s5] 49))
       have HM11 := Lib.hid (HM10.out.sub (List.sublist_append_left _ _))
       clear hb2 HM10 HM9 c0 c1 c2 c3 c4 c5 HM8
       go_wp2_with fail
       go_roundw
       case rel => exact ⟨2 + 1, by omega, rfl, HM11.out⟩
       case measure => simp [intOf]
      ·have hz : (c' != 0) = true := by simpa using hc
       have HM10 := Lib.hid ((HM9.out.step hb2).alloc (.cells #[.int .i64 s0, .int .i64 s1, .int .i64 s2, .int .i64 s3, .int .i64 s4, .int .i64 s5] 49))
       clear hb2 HM9 c0 c1 c2 c3 c4 c5 HM8 hc
       go_wp2_with fail
       exact bodyPost_ret (v := .int .i64 c') (by simp [results, Tryz.results59, go_sem]) rfl ⟨⟨_, rfl⟩, HM10.out.below⟩
    ·obtain rfl : j = 3 := by omega
     have HM11 := Lib.hid (show Hp w [(w.heap.size, 41, tuL C p)] _ from HM8.out.sub (by simp))
     clear hjt hj HM8
     go_wp2_with fail
     go_roundw
     case rel => exact ⟨k + 1, by omega, rfl, HM11.out⟩
     case measure => simp only [intOf]; omega
  ·obtain rfl : k = n := by omega
   clear hlt hk
   go_wp2_with fail
   exact bodyPost_ret (v := .int .i64 0) (by simp [results, Tryz.results59, go_sem]) rfl ⟨⟨_, rfl⟩, HM.out.below⟩
set_option maxRecDepth 1000000 in
set_option maxHeartbeats 4000000 in
theorem bDirection_tot (C : Nat → Tm) (p a b c : Int) (w : World) (ht : Tab w) (hC : ∀ i, i < 12 → Tm64 (C i)) (ha : I64 a) (hb : I64 b) (hc : c = if tuE C p ≠ 0 then tuE C p else ivxE (a, b))
  (hD : c = 0 → ∀ W, Tab W → Calls Tryz.prog 58 #[.agg (tuL C p).toArray, .agg #[.int .i64 a, .int .i64 b]] W fun e w' => InE e ∧ Below W.heap.size W w') :
  Calls Tryz.prog 26 #[.agg (tuL C p).toArray, .agg #[.int .i64 a, .int .i64 b]] w fun e w' => (∃ d g : Int, e = .returned (.tuple #[.int .i64 d, .int .i64 g]) ∧ (c ≠ 0 → d = 0 ∧ g = c)) ∧ Below w.heap.size w w' := by
 have hck : ∀ (W : World) (g : Nat), IvsAt W g [(a, b)] → Calls Tryz.prog 57 #[.agg (tuL C p).toArray, .slice (some ⟨g, 0, none⟩) 1 1] W fun e w' => e = .returned (.int .i64 c) ∧ Below W.heap.size W w' := fun W g h => by
  have := bcheck_any C p g 1 [(a, b)] W hC h (by simp) (fun x hx => by
   rw [List.mem_singleton] at hx; subst hx; exact ⟨ha, hb⟩)
  rw [ivsE_one, ← hc] at this
  exact this
 have HCK := Lib.hid hck
 have HD := Lib.hid hD
 have HT := Lib.hid ht
 have hm0 := ((Hp.start w).new 41 (tuL C p)).new 67 [.int .i64 a, .int .i64 b]
 simp only [World.size_alloc, List.nil_append, List.cons_append] at hm0
 obtain ⟨y0, y1⟩ := two_of (hm0.at_ 1 rfl)
 have hm1 := hm0.new 67 [.int .i64 a, .int .i64 b]
 simp only [World.size_alloc, List.nil_append, List.cons_append] at hm1
 have HM0 := Lib.hid hm0
 have HM1 := Lib.hid hm1
 clear hm0 hm1 hck hC ha hb hc hD ht
 go_enter Tryz.func26, Tryz.ntmps26
 go_wp2_with (refine wpList_load_row rfl 41 _ rfl w.heap.size rfl 41 (tuL C p).toArray (0, 0) _ (HM0.out.at_ 0 rfl) Tryz.underlying41 rfl (by rw [infoTun, List.size_toArray, tuL_len]) ?_)
 refine (HCK.out _ _ (ivs_one (HM1.out.at_ 2 rfl))).mono ?_
 rintro e w1 ⟨rfl, hb1⟩
 have HM2 := Lib.hid (HM1.out.step hb1)
 clear hb1 HM0 HM1 y0 y1
 by_cases h0 : c = 0
 ·have HDC := Lib.hid (HD.out h0)
  subst h0
  obtain ⟨y0, y1⟩ := two_of (HM2.out.at_ 1 rfl)
  go_wp2_with (refine wpList_load_row rfl 41 _ rfl w.heap.size rfl 41 (tuL C p).toArray (0, 0) _ (HM2.out.at_ 0 rfl) Tryz.underlying41 rfl (by rw [infoTun, List.size_toArray, tuL_len]) ?_)
  refine (HDC.out _ (HT.out.below HM2.out.below)).mono ?_
  rintro e w2 ⟨⟨dv, dc, rfl⟩, hb2⟩
  have HZ := Lib.hid (HM2.out.step hb2)
  clear hb2 HM2 y0 y1
  go_wp2_with fail
  exact bodyPost_ret (v := .tuple #[.int .i64 dv, .int .i64 dc]) (by simp [results, Tryz.results26, go_sem]) rfl ⟨⟨_, _, rfl, fun k => absurd rfl k⟩, HZ.out.below⟩
 ·have hz : (c != 0) = true := by simpa using h0
  have H0 := Lib.hid h0
  clear h0
  go_wp2_with fail
  exact bodyPost_ret (v := .tuple #[.int .i64 0, .int .i64 c]) (by simp [results, Tryz.results26, go_sem]) rfl ⟨⟨_, _, rfl, fun _ => ⟨rfl, rfl⟩⟩, HM2.out.below⟩
set_option maxRecDepth 1000000 in
set_option maxHeartbeats 4000000 in
theorem bBeats_tot (C : Nat → Tm) (p a b c : Int) (w : World) (ht : Tab w) (hC : ∀ i, i < 12 → Tm64 (C i)) (ha : I64 a) (hb : I64 b) (hc : c = if tuE C p ≠ 0 then tuE C p else ivxE (a, b))
  (hS : c = 0 → ∀ (W : World) (g : Nat), Tab W → IvsAt W g [(a, b)] → Calls Tryz.prog 59 #[.agg (tuL C p).toArray, .slice (some ⟨g, 0, none⟩) 1 1] W fun e w' => (∃ c : Int, e = .returned (.int .i64 c)) ∧ Below W.heap.size W w')
  (hB : c = 0 → ∀ W, Tab W → Calls Tryz.prog 60 #[.agg (tuL C p).toArray, .agg #[.int .i64 a, .int .i64 b]] W fun e w' => BdE e ∧ Below W.heap.size W w') :
  Calls Tryz.prog 27 #[.agg (tuL C p).toArray, .agg #[.int .i64 a, .int .i64 b]] w fun e w' => (∃ d0 d1 g : Int, e = .returned (.tuple #[.agg #[.int .i64 d0, .int .i64 d1], .int .i64 g]) ∧ (c ≠ 0 → d0 = 0 ∧ d1 = 0 ∧ g = c)) ∧ Below w.heap.size w w' := by
 have hck : ∀ (W : World) (g : Nat), IvsAt W g [(a, b)] → Calls Tryz.prog 57 #[.agg (tuL C p).toArray, .slice (some ⟨g, 0, none⟩) 1 1] W fun e w' => e = .returned (.int .i64 c) ∧ Below W.heap.size W w' := fun W g h => by
  have := bcheck_any C p g 1 [(a, b)] W hC h (by simp) (fun x hx => by
   rw [List.mem_singleton] at hx; subst hx; exact ⟨ha, hb⟩)
  rw [ivsE_one, ← hc] at this
  exact this
 have HCK := Lib.hid hck
 have HS := Lib.hid hS
 have HBB := Lib.hid hB
 have HT := Lib.hid ht
 have hm0 := (((Hp.start w).new 41 (tuL C p)).new 67 [.int .i64 a, .int .i64 b]).new 53 [.int .i64 0, .int .i64 0]
 simp only [World.size_alloc, List.nil_append, List.cons_append] at hm0
 obtain ⟨y0, y1⟩ := two_of (hm0.at_ 1 rfl)
 have hm1 := hm0.new 67 [.int .i64 a, .int .i64 b]
 simp only [World.size_alloc, List.nil_append, List.cons_append] at hm1
 have HM0 := Lib.hid hm0
 have HM1 := Lib.hid hm1
 clear hm0 hm1 hck hC ha hb hc hS hB ht
 go_enter Tryz.func27, Tryz.ntmps27
 go_wp2_with (refine wpList_load_row rfl 41 _ rfl w.heap.size rfl 41 (tuL C p).toArray (0, 0) _ (HM0.out.at_ 0 rfl) Tryz.underlying41 rfl (by rw [infoTun, List.size_toArray, tuL_len]) ?_)
 refine (HCK.out _ _ (ivs_one (HM1.out.at_ 3 rfl))).mono ?_
 rintro e w1 ⟨rfl, hb1⟩
 have HM2 := Lib.hid (HM1.out.step hb1)
 clear hb1 HM0 HM1 y0 y1
 by_cases h0 : c = 0
 ·have HSC := Lib.hid (HS.out h0)
  have HBC := Lib.hid (HBB.out h0)
  subst h0
  obtain ⟨y0, y1⟩ := two_of (HM2.out.at_ 1 rfl)
  have HM3 := Lib.hid (HM2.out.new 67 [.int .i64 a, .int .i64 b])
  go_wp2_with (refine wpList_load_row rfl 41 _ rfl w.heap.size rfl 41 (tuL C p).toArray (0, 0) _ (HM2.out.at_ 0 rfl) Tryz.underlying41 rfl (by rw [infoTun, List.size_toArray, tuL_len]) ?_)
  refine (HSC.out _ _ (HT.out.below HM3.out.below) (ivs_one (HM3.out.at_ 4 rfl))).mono ?_
  rintro e w2 ⟨⟨sc, rfl⟩, hb2⟩
  by_cases hsc : sc = 0
  ·subst hsc
   have HM4 := Lib.hid (HM3.out.step hb2)
   clear hb2 HM2 HM3 y0 y1
   obtain ⟨y0, y1⟩ := two_of (HM4.out.at_ 1 rfl)
   go_wp2_with (refine wpList_load_row rfl 41 _ rfl w.heap.size rfl 41 (tuL C p).toArray (0, 0) _ (HM4.out.at_ 0 rfl) Tryz.underlying41 rfl (by rw [infoTun, List.size_toArray, tuL_len]) ?_)
   refine (HBC.out _ (HT.out.below HM4.out.below)).mono ?_
   rintro e w3 ⟨⟨v0, v1, v2, rfl⟩, hb3⟩
   have HM5 := Lib.hid (HM4.out.step hb3)
   clear hb3 HM4 y0 y1
   obtain ⟨y0, y1⟩ := two_of (HM5.out.at_ 2 rfl)
   have f0 := (HM5.out.at_ 2 rfl).frozen 0
   have f1 := (HM5.out.at_ 2 rfl).frozen 1
   have HZ := Lib.hid (HM5.out.put2 2 rfl (.int .i64 v0) (.int .i64 v1))
   clear HM5
   go_wp2_with fail
   exact bodyPost_ret (v := .tuple #[.agg #[.int .i64 v0, .int .i64 v1], .int .i64 v2]) (by simp [results, Tryz.results27, go_sem, y0, y1, f0, f1]) rfl ⟨⟨_, _, _, rfl, fun k => absurd rfl k⟩, HZ.out.below⟩
  ·have hz : (sc != 0) = true := by simpa using hsc
   have HM4 := Lib.hid (HM3.out.step hb2)
   clear hb2 HM2 HM3 y0 y1 hsc
   obtain ⟨y0, y1⟩ := two_of (HM4.out.at_ 2 rfl)
   have f0 := (HM4.out.at_ 2 rfl).frozen 0
   have f1 := (HM4.out.at_ 2 rfl).frozen 1
   have HZ := Lib.hid (HM4.out.put2 2 rfl (.int .i64 0) (.int .i64 0))
   clear HM4
   go_wp2_with fail
   exact bodyPost_ret (v := .tuple #[.agg #[.int .i64 0, .int .i64 0], .int .i64 sc]) (by simp [results, Tryz.results27, go_sem, y0, y1, f0, f1]) rfl ⟨⟨_, _, _, rfl, fun k => absurd rfl k⟩, HZ.out.below⟩
 ·have hz : (c != 0) = true := by simpa using h0
  clear h0
  obtain ⟨y0, y1⟩ := two_of (HM2.out.at_ 2 rfl)
  have f0 := (HM2.out.at_ 2 rfl).frozen 0
  have f1 := (HM2.out.at_ 2 rfl).frozen 1
  have HZ := Lib.hid (HM2.out.put2 2 rfl (.int .i64 0) (.int .i64 0))
  clear HM2
  go_wp2_with fail
  exact bodyPost_ret (v := .tuple #[.agg #[.int .i64 0, .int .i64 0], .int .i64 c]) (by simp [results, Tryz.results27, go_sem, y0, y1, f0, f1]) rfl ⟨⟨_, _, _, rfl, fun _ => ⟨rfl, rfl, rfl⟩⟩, HZ.out.below⟩
set_option maxRecDepth 1000000 in
set_option maxHeartbeats 4000000 in
theorem bCompare_tot (C : Nat → Tm) (p a b a' b' c : Int) (w : World) (ht : Tab w) (hC : ∀ i, i < 12 → Tm64 (C i)) (ha : I64 a) (hb : I64 b) (ha' : I64 a') (hb' : I64 b') (hc : c = if tuE C p ≠ 0 then tuE C p else ivsE [(a, b), (a', b')])
  (hS : c = 0 → ∀ (W : World) (g : Nat), Tab W → IvsAt W g [(a, b), (a', b')] → Calls Tryz.prog 59 #[.agg (tuL C p).toArray, .slice (some ⟨g, 0, none⟩) 2 2] W fun e w' => (∃ c : Int, e = .returned (.int .i64 c)) ∧ Below W.heap.size W w')
  (hB : c = 0 → ∀ W, Tab W → Calls Tryz.prog 60 #[.agg (tuL C p).toArray, .agg #[.int .i64 a, .int .i64 b]] W fun e w' => BdE e ∧ Below W.heap.size W w')
  (hG : c = 0 → ∀ W, Tab W → Calls Tryz.prog 60 #[.agg (tuL C p).toArray, .agg #[.int .i64 a', .int .i64 b']] W fun e w' => BdE e ∧ Below W.heap.size W w') :
  Calls Tryz.prog 30 #[.agg (tuL C p).toArray, .agg #[.int .i64 a, .int .i64 b], .agg #[.int .i64 a', .int .i64 b']] w fun e w' => (∃ d g : Int, e = .returned (.tuple #[.int .i64 d, .int .i64 g]) ∧ (c ≠ 0 → d = 0 ∧ g = c)) ∧ Below w.heap.size w w' := by
 have hck : ∀ (W : World) (g : Nat), IvsAt W g [(a, b), (a', b')] → Calls Tryz.prog 57 #[.agg (tuL C p).toArray, .slice (some ⟨g, 0, none⟩) 2 2] W fun e w' => e = .returned (.int .i64 c) ∧ Below W.heap.size W w' := fun W g h => by
  have := bcheck_any C p g 2 [(a, b), (a', b')] W hC h (by simp) (fun x hx => by
   simp only [List.mem_cons, List.not_mem_nil, or_false] at hx
   rcases hx with rfl | rfl
   ·exact ⟨ha, hb⟩
   ·exact ⟨ha', hb'⟩)
  rw [← hc] at this
  exact this
 have HCK := Lib.hid hck
 have HS := Lib.hid hS
 have HB1 := Lib.hid hB
 have HB2 := Lib.hid hG
 have HT := Lib.hid ht
 have hm0 := (((Hp.start w).new 41 (tuL C p)).new 67 [.int .i64 a, .int .i64 b]).new 67 [.int .i64 a', .int .i64 b']
 simp only [World.size_alloc, List.nil_append, List.cons_append] at hm0
 obtain ⟨y0, y1⟩ := two_of (hm0.at_ 1 rfl)
 obtain ⟨y2, y3⟩ := two_of (hm0.at_ 2 rfl)
 have hm1 := hm0.new 67 [.int .i64 a, .int .i64 b, .int .i64 a', .int .i64 b']
 simp only [World.size_alloc, List.nil_append, List.cons_append] at hm1
 have HM0 := Lib.hid hm0
 have HM1 := Lib.hid hm1
 clear hm0 hm1 hck hC ha hb ha' hb' hc hS hB hG ht
 go_enter Tryz.func30, Tryz.ntmps30
 go_wp2_with (refine wpList_load_row rfl 41 _ rfl w.heap.size rfl 41 (tuL C p).toArray (0, 0) _ (HM0.out.at_ 0 rfl) Tryz.underlying41 rfl (by rw [infoTun, List.size_toArray, tuL_len]) ?_)
 refine (HCK.out _ _ (ivs_two (HM1.out.at_ 3 rfl))).mono ?_
 rintro e w1 ⟨rfl, hb1⟩
 have HM2 := Lib.hid (HM1.out.step hb1)
 clear hb1 HM0 HM1 y0 y1 y2 y3
 by_cases h0 : c = 0
 ·have HSC := Lib.hid (HS.out h0)
  have HC1 := Lib.hid (HB1.out h0)
  have HC2 := Lib.hid (HB2.out h0)
  subst h0
  obtain ⟨y0, y1⟩ := two_of (HM2.out.at_ 1 rfl)
  obtain ⟨y2, y3⟩ := two_of (HM2.out.at_ 2 rfl)
  have HM3 := Lib.hid (HM2.out.new 67 [.int .i64 a, .int .i64 b, .int .i64 a', .int .i64 b'])
  go_wp2_with (refine wpList_load_row rfl 41 _ rfl w.heap.size rfl 41 (tuL C p).toArray (0, 0) _ (HM2.out.at_ 0 rfl) Tryz.underlying41 rfl (by rw [infoTun, List.size_toArray, tuL_len]) ?_)
  refine (HSC.out _ _ (HT.out.below HM3.out.below) (ivs_two (HM3.out.at_ 4 rfl))).mono ?_
  rintro e w2 ⟨⟨sc, rfl⟩, hb2⟩
  by_cases hsc : sc = 0
  ·subst hsc
   have HM4 := Lib.hid (HM3.out.step hb2)
   clear hb2 HM2 HM3 y0 y1 y2 y3
   obtain ⟨y0, y1⟩ := two_of (HM4.out.at_ 1 rfl)
   go_wp2_with (refine wpList_load_row rfl 41 _ rfl w.heap.size rfl 41 (tuL C p).toArray (0, 0) _ (HM4.out.at_ 0 rfl) Tryz.underlying41 rfl (by rw [infoTun, List.size_toArray, tuL_len]) ?_)
   refine (HC1.out _ (HT.out.below HM4.out.below)).mono ?_
   rintro e w3 ⟨⟨u0, u1, e1, rfl⟩, hb3⟩
   have hm5 := (HM4.out.step hb3).new 53 [.int .i64 u0, .int .i64 u1]
   simp only [List.nil_append, List.cons_append] at hm5
   have HM5 := Lib.hid hm5
   clear hb3 HM4 y0 y1 hm5
   by_cases h1 : e1 = 0
   ·subst h1
    obtain ⟨y0, y1⟩ := two_of (HM5.out.at_ 2 rfl)
    go_wp2_with (refine wpList_load_row rfl 41 _ rfl w.heap.size rfl 41 (tuL C p).toArray (0, 0) _ (HM5.out.at_ 0 rfl) Tryz.underlying41 rfl (by rw [infoTun, List.size_toArray, tuL_len]) ?_)
    refine (HC2.out _ (HT.out.below HM5.out.below)).mono ?_
    rintro e w4 ⟨⟨v0, v1, e2, rfl⟩, hb4⟩
    have hm6 := (HM5.out.step hb4).new 53 [.int .i64 v0, .int .i64 v1]
    simp only [List.nil_append, List.cons_append] at hm6
    have HM6 := Lib.hid hm6
    obtain ⟨q0, q1⟩ := two_of (hm6.at_ 5 rfl)
    obtain ⟨q2, q3⟩ := two_of (hm6.at_ 6 rfl)
    clear hb4 HM5 y0 y1 hm6
    by_cases h2 : e2 = 0
    ·subst h2
     by_cases h3 : v1 < u0
     ·go_wp2_with fail
      exact bodyPost_ret (v := .tuple #[.int .i64 1, .int .i64 0]) (by simp [results, Tryz.results30, go_sem]) rfl ⟨⟨_, _, rfl, fun k => absurd rfl k⟩, HM6.out.below⟩
     ·by_cases h4 : u1 < v0
      ·go_wp2_with fail
       exact bodyPost_ret (v := .tuple #[.int .i64 (-1), .int .i64 0]) (by simp [results, Tryz.results30, go_sem]) rfl ⟨⟨_, _, rfl, fun k => absurd rfl k⟩, HM6.out.below⟩
      ·go_wp2_with fail
       exact bodyPost_ret (v := .tuple #[.int .i64 0, .int .i64 0]) (by simp [results, Tryz.results30, go_sem]) rfl ⟨⟨_, _, rfl, fun k => absurd rfl k⟩, HM6.out.below⟩
    ·have hz : (e2 != 0) = true := by simpa using h2
     clear h2
     go_wp2_with fail
     exact bodyPost_ret (v := .tuple #[.int .i64 0, .int .i64 e2]) (by simp [results, Tryz.results30, go_sem]) rfl ⟨⟨_, _, rfl, fun k => absurd rfl k⟩, HM6.out.below⟩
   ·have hz : (e1 != 0) = true := by simpa using h1
    clear h1
    go_wp2_with fail
    exact bodyPost_ret (v := .tuple #[.int .i64 0, .int .i64 e1]) (by simp [results, Tryz.results30, go_sem]) rfl ⟨⟨_, _, rfl, fun k => absurd rfl k⟩, HM5.out.below⟩
  ·have hz : (sc != 0) = true := by simpa using hsc
   have HM4 := Lib.hid (HM3.out.step hb2)
   clear hb2 HM2 HM3 y0 y1 y2 y3 hsc
   go_wp2_with fail
   exact bodyPost_ret (v := .tuple #[.int .i64 0, .int .i64 sc]) (by simp [results, Tryz.results30, go_sem]) rfl ⟨⟨_, _, rfl, fun k => absurd rfl k⟩, HM4.out.below⟩
 ·have hz : (c != 0) = true := by simpa using h0
  clear h0
  go_wp2_with fail
  exact bodyPost_ret (v := .tuple #[.int .i64 0, .int .i64 c]) (by simp [results, Tryz.results30, go_sem]) rfl ⟨⟨_, _, rfl, fun _ => ⟨rfl, rfl⟩⟩, HM2.out.below⟩
end Go.Proofs.YtendjepcjmfmfaaGreatDoor
