/- Part 41 of 42 of the proof of the law: contracts of the functions that it reaches, and plain facts. Conditions: those that each contract names. -/
import Derived.Test.YtendjepcjmfmfaaGreatDoorCmpB40
import Derived.Deep.QuietTactic
import Derived.BigQuiet
import Derived.Test.YtendjepcjmfmfaaGreatDoorCmpB39
namespace Go.Proofs.YtendjepcjmfmfaaGreatDoor
open Go.RowKit
def LbRel (w : World) (C : Nat → Tm) (p l s a0 a1 b0 b1 e1 e2 : Int) (gA gB gE : Nat) (i : Value) (W : World) : Prop :=
 ∃ k : Nat, k ≤ 3 ∧ i = .int .i64 (k : Int) ∧ Hp w [(w.heap.size, 41, tuL C p), (w.heap.size + 1, 67, [.int .i64 l, .int .i64 s]), (w.heap.size + 1 + 1, 53, [.int .i64 0, .int .i64 0]), (gA, 53, [.int .i64 a0, .int .i64 a1]), (gB, 53, [.int .i64 b0, .int .i64 b1]), (gE, 28, [.int .i64 0, .int .i64 e1, .int .i64 e2])] W
def LcRel (w : World) (C : Nat → Tm) (p l s a0 a1 b0 b1 e1 e2 : Int) (gA gB gE : Nat) (i : Value) (W : World) : Prop :=
 ∃ k : Nat, k ≤ 3 ∧ i = .int .i64 (k : Int) ∧ (1 < k → e1 = 0) ∧ (2 < k → e2 = 0) ∧ Hp w [(w.heap.size, 41, tuL C p), (w.heap.size + 1, 67, [.int .i64 l, .int .i64 s]), (w.heap.size + 1 + 1, 53, [.int .i64 0, .int .i64 0]), (gA, 53, [.int .i64 a0, .int .i64 a1]), (gB, 53, [.int .i64 b0, .int .i64 b1]), (gE, 28, [.int .i64 0, .int .i64 e1, .int .i64 e2])] W
set_option maxRecDepth 1000000 in
set_option maxHeartbeats 8000000 in
theorem lbeats_gen (C : Nat → Tm) (p l s t dv a0 a1 e1 b0 b1 e2 : Int) (w : World) (ht : Tab w) (hs : ptB s) (hl : 0 ≤ l ∧ l ≤ 127) (hlt : l + s = t) (hdv : dv = 0 ∨ dv = -1 ∨ dv = 1) (he1 : e1 ≠ 4) (he2 : e2 ≠ 4)
  (ha0 : 0 ≤ a0 ∧ a0 ≤ 130000000000) (ha1 : 0 ≤ a1 ∧ a1 ≤ 130000000000) (hb0 : 0 ≤ b0 ∧ b0 ≤ 130000000000) (hb1 : 0 ≤ b1 ∧ b1 ≤ 130000000000)
  (hD : ∀ W, Tab W → Calls Tryz.prog 28 #[.agg (tuL C p).toArray, .agg #[.int .i64 l, .int .i64 s]] W fun e w' => e = .returned (.tuple #[.int .i64 dv, .int .i64 0]) ∧ Below W.heap.size W w')
  (hF : ∀ W, Tab W → Calls Tryz.prog 24 #[.agg (tuL C p).toArray, .int .i64 l] W fun e w' => e = .returned (.tuple #[.agg #[.int .i64 a0, .int .i64 a1], .int .i64 e1]) ∧ Below W.heap.size W w')
  (hG : ∀ W, Tab W → Calls Tryz.prog 24 #[.agg (tuL C p).toArray, .int .i64 t] W fun e w' => e = .returned (.tuple #[.agg #[.int .i64 b0, .int .i64 b1], .int .i64 e2]) ∧ Below W.heap.size W w') :
  Calls Tryz.prog 29 #[.agg (tuL C p).toArray, .agg #[.int .i64 l, .int .i64 s]] w fun e w' => e = .returned (.tuple #[.agg #[.int .i64 (btT (ptP s).1 (ptP s).2 dv a0 a1 e1 b0 b1 e2).1, .int .i64 (btT (ptP s).1 (ptP s).2 dv a0 a1 e1 b0 b1 e2).2.1], .int .i64 (btT (ptP s).1 (ptP s).2 dv a0 a1 e1 b0 b1 e2).2.2]) ∧ Below w.heap.size w w' := by
 have hp := fun W => lpart42 s W
 have hs12 : 0 ≤ s ∧ s ≤ 12 := by unfold ptB at hs; omega
 have hw : IntKind.i64.wrap (l + s) = t := by rw [hlt]; exact IntWalk.i64_in _ (by omega)
 have hpb := ptP_bd s
 obtain ⟨u, hu⟩ : ∃ u, u = (ptP s).1 := ⟨_, rfl⟩
 obtain ⟨v, hv⟩ : ∃ u, u = (ptP s).2 := ⟨_, rfl⟩
 obtain ⟨q, hq⟩ : ∃ q, q = decide (ptB s) := ⟨_, rfl⟩
 rw [← hu, ← hv, ← hq] at hp
 rw [← hu, ← hv] at hpb ⊢
 have hT0 : ∃ T, T = btT u v dv a0 a1 e1 b0 b1 e2 := ⟨_, rfl⟩
 obtain ⟨T, hT0⟩ := hT0
 rw [← hT0]
 have HV := Lib.hid hT0
 have HP := Lib.hid hp
 have HD := Lib.hid hD
 have HF := Lib.hid hF
 have HG := Lib.hid hG
 have HT := Lib.hid ht
 have HW := Lib.hid hw
 have HDV := Lib.hid hdv
 have HE4 := Lib.hid (And.intro he1 he2)
 have n1 := bt_mul hpb.2 hb0
 have n2 := bt_mul hpb.1 ha1
 have n3 := bt_mul hpb.2 hb1
 have n4 := bt_mul hpb.1 ha0
 obtain ⟨x1, hx1⟩ : ∃ x, x = v * b0 := ⟨_, rfl⟩
 obtain ⟨x2, hx2⟩ : ∃ x, x = u * a1 := ⟨_, rfl⟩
 obtain ⟨x3, hx3⟩ : ∃ x, x = v * b1 := ⟨_, rfl⟩
 obtain ⟨x4, hx4⟩ : ∃ x, x = u * a0 := ⟨_, rfl⟩
 have w1 : IntKind.i64.wrap (v * b0) = x1 := by rw [hx1]; exact IntWalk.i64_in _ (by omega)
 have w2 : IntKind.i64.wrap (u * a1) = x2 := by rw [hx2]; exact IntWalk.i64_in _ (by omega)
 have w3 : IntKind.i64.wrap (v * b1) = x3 := by rw [hx3]; exact IntWalk.i64_in _ (by omega)
 have w4 : IntKind.i64.wrap (u * a0) = x4 := by rw [hx4]; exact IntWalk.i64_in _ (by omega)
 rw [← hx1] at n1
 rw [← hx2] at n2
 rw [← hx3] at n3
 rw [← hx4] at n4
 obtain ⟨z1, hz1⟩ : ∃ x, x = x1 - x2 := ⟨_, rfl⟩
 obtain ⟨z2, hz2⟩ : ∃ x, x = x3 - x4 := ⟨_, rfl⟩
 obtain ⟨z3, hz3⟩ : ∃ x, x = x4 - x3 := ⟨_, rfl⟩
 obtain ⟨z4, hz4⟩ : ∃ x, x = x2 - x1 := ⟨_, rfl⟩
 have v1 : IntKind.i64.wrap (x1 - x2) = z1 := by rw [hz1]; exact IntWalk.i64_in _ (by omega)
 have v2 : IntKind.i64.wrap (x3 - x4) = z2 := by rw [hz2]; exact IntWalk.i64_in _ (by omega)
 have v3 : IntKind.i64.wrap (-z2) = z3 := by rw [show -z2 = z3 by omega]; exact IntWalk.i64_in _ (by omega)
 have v4 : IntKind.i64.wrap (-z1) = z4 := by rw [show -z1 = z4 by omega]; exact IntWalk.i64_in _ (by omega)
 have v5 : IntKind.i64.wrap (0 - z2) = z3 := by rw [show 0 - z2 = z3 by omega]; exact IntWalk.i64_in _ (by omega)
 have v6 : IntKind.i64.wrap (0 - z1) = z4 := by rw [show 0 - z1 = z4 by omega]; exact IntWalk.i64_in _ (by omega)
 have HN := Lib.hid (show btT u v dv a0 a1 e1 b0 b1 e2 = if e1 ≠ 0 then (0, 0, e1) else if e2 ≠ 0 then (0, 0, e2) else if dv = 1 then (max 0 z1, z2, 0) else if dv = -1 then (max 0 z3, z4, 0) else (0, 0, 0) by
  unfold btT; rw [← hx1, ← hx2, ← hx3, ← hx4, ← hz1, ← hz2, ← hz3, ← hz4])
 have HWS := Lib.hid (And.intro (And.intro w1 (And.intro w2 (And.intro w3 w4))) (And.intro v1 (And.intro v2 (And.intro v3 (And.intro v4 (And.intro v5 v6))))))
 have hm0 := (((Hp.start w).new 41 (tuL C p)).new 67 [.int .i64 l, .int .i64 s]).new 53 [.int .i64 0, .int .i64 0]
 simp only [World.size_alloc, List.nil_append, List.cons_append] at hm0
 have HM0 := Lib.hid hm0
 obtain ⟨y0, y1⟩ := two_of (hm0.at_ 1 rfl)
 clear hm0 hp hD hF hG ht hw hs hl hlt hs12 hu hv hq hpb n1 n2 n3 n4 hx1 hx2 hx3 hx4 w1 w2 w3 w4 hz1 hz2 hz3 hz4 v1 v2 v3 v4 v5 v6 ha0 ha1 hb0 hb1 hT0 hdv he1 he2
 go_enter Tryz.func29, Tryz.ntmps29
 go_wp2_with fail
 refine (HP.out _).mono ?_
 rintro e wx ⟨rfl, hbx⟩
 have HMX := Lib.hid (HM0.out.step hbx)
 clear hbx HM0 y0 y1
 obtain ⟨y0, y1⟩ := two_of (HMX.out.at_ 1 rfl)
 go_wp2_with (refine wpList_load_row rfl 41 _ rfl w.heap.size rfl 41 (tuL C p).toArray (0, 0) _ (HMX.out.at_ 0 rfl) Tryz.underlying41 rfl (by rw [infoTun, List.size_toArray, tuL_len]) ?_)
 refine (HD.out _ (HT.out.below HMX.out.below)).mono ?_
 rintro e w1 ⟨rfl, hb1⟩
 have HM1 := Lib.hid (HMX.out.step hb1)
 clear hb1 HMX y0 y1
 obtain ⟨y0, y1⟩ := two_of (HM1.out.at_ 1 rfl)
 go_wp2_with (refine wpList_load_row rfl 41 _ rfl w.heap.size rfl 41 (tuL C p).toArray (0, 0) _ (HM1.out.at_ 0 rfl) Tryz.underlying41 rfl (by rw [infoTun, List.size_toArray, tuL_len]) ?_)
 refine (HF.out _ (HT.out.below HM1.out.below)).mono ?_
 rintro e w2 ⟨rfl, hb2⟩
 have hm3 := (HM1.out.step hb2).new 53 [.int .i64 a0, .int .i64 a1]
 simp only [List.nil_append, List.cons_append] at hm3
 have HM3 := Lib.hid hm3
 clear hb2 HM1 y0 y1
 obtain ⟨y0, y1⟩ := two_of (hm3.at_ 1 rfl)
 have hw := HW.out
 clear hm3
 go_wp2_with (refine wpList_load_row rfl 41 _ rfl w.heap.size rfl 41 (tuL C p).toArray (0, 0) _ (HM3.out.at_ 0 rfl) Tryz.underlying41 rfl (by rw [infoTun, List.size_toArray, tuL_len]) ?_)
 refine (HG.out _ (HT.out.below HM3.out.below)).mono ?_
 rintro e w3 ⟨rfl, hb3⟩
 have hm4 := (HM3.out.step hb3).new 53 [.int .i64 b0, .int .i64 b1]
 simp only [List.nil_append, List.cons_append] at hm4
 have hm5 := hm4.new 28 [.int .i64 0, .int .i64 e1, .int .i64 e2]
 simp only [World.size_alloc, List.nil_append, List.cons_append] at hm5
 have HM5 := Lib.hid hm5
 clear hb3 HM3 y0 y1 hw hm4 hm5
 go_wp2_with fail
 go_loopw [56] (fun i wr => LbRel w C p l s a0 a1 b0 b1 e1 e2 w2.heap.size w3.heap.size (w3.heap.size + 1) i wr) (fun i _ => 3 - (intOf i).toNat)
 case atStart => exact ⟨0, by omega, rfl, HM5.out⟩
 case round =>
  obtain ⟨k, hk, rfl, hm⟩ := hrel
  have HM := Lib.hid hm
  clear hm HM5
  obtain ⟨c0, c1, c2⟩ := three_of (HM.out.at_ 5 rfl)
  rcases (show k = 0 ∨ k = 1 ∨ k = 2 ∨ k = 3 by omega) with rfl | rfl | rfl | rfl
  ·clear hk
   go_wp2_with fail
   go_roundw
   case rel => exact ⟨1, by omega, rfl, HM.out⟩
   case measure => simp [intOf]
  ·have hz : (e1 == 4) = false := by rw [beq_eq_false_iff_ne]; exact HE4.out.1
   clear hk
   go_wp2_with fail
   go_roundw
   case rel => exact ⟨2, by omega, rfl, HM.out⟩
   case measure => simp [intOf]
  ·have hz : (e2 == 4) = false := by rw [beq_eq_false_iff_ne]; exact HE4.out.2
   clear hk
   go_wp2_with fail
   go_roundw
   case rel => exact ⟨3, by omega, rfl, HM.out⟩
   case measure => simp [intOf]
  ·have hm6 := HM.out.new 28 [.int .i64 0, .int .i64 e1, .int .i64 e2]
   simp only [World.size_alloc, List.nil_append, List.cons_append] at hm6
   have HM6 := Lib.hid hm6
   have HM7 := Lib.hid (show Hp w [(w.heap.size, 41, tuL C p), (w.heap.size + 1, 67, [.int .i64 l, .int .i64 s]), (w.heap.size + 1 + 1, 53, [.int .i64 0, .int .i64 0]), (w2.heap.size, 53, [.int .i64 a0, .int .i64 a1]), (w3.heap.size, 53, [.int .i64 b0, .int .i64 b1]), (wr.heap.size, 28, [.int .i64 0, .int .i64 e1, .int .i64 e2])] _ from HM6.out.sub (by simp))
   clear hk c0 c1 c2 hm6 HM6 HM
   go_wp2_with fail
   go_loopw [70] (fun i wx => LcRel w C p l s a0 a1 b0 b1 e1 e2 w2.heap.size w3.heap.size wr.heap.size i wx) (fun i _ => 3 - (intOf i).toNat)
   case atStart => exact ⟨0, by omega, rfl, fun h => absurd h (by omega), fun h => absurd h (by omega), HM7.out⟩
   case round =>
    obtain ⟨j, hj, rfl, k1, k2, hm⟩ := hrel
    have HM := Lib.hid hm
    clear HM7
    obtain ⟨c0, c1, c2⟩ := three_of (hm.at_ 5 rfl)
    rcases (show j = 0 ∨ j = 1 ∨ j = 2 ∨ j = 3 by omega) with rfl | rfl | rfl | rfl
    ·clear hj k1 k2 hm
     go_wp2_with fail
     go_roundw
     case rel => exact ⟨1, by omega, rfl, fun h => absurd h (by omega), fun h => absurd h (by omega), HM.out⟩
     case measure => simp [intOf]

    ·clear hj k1 k2
     by_cases h1 : e1 = 0
     ·have HO := Lib.hid h1
      have hz : (e1 != 0) = false := by rw [h1]; rfl
      clear hm h1
      go_wp2_with fail
      go_roundw
      case rel => exact ⟨2, by omega, rfl, fun _ => HO.out, fun h => absurd h (by omega), HM.out⟩
      case measure => simp [intOf]
     ·have HE := Lib.hid (HV.out.trans (HN.out.trans (by rw [if_pos h1])))
      have hz : (e1 != 0) = true := by simpa using h1
      have f0 := (hm.at_ 2 rfl).frozen 0
      have f1 := (hm.at_ 2 rfl).frozen 1
      obtain ⟨m0, m1⟩ := two_of (hm.at_ 2 rfl)
      have HZ := Lib.hid (hm.put2 2 rfl (.int .i64 0) (.int .i64 0))
      clear hm HM h1
      go_wp2_with fail
      obtain ⟨WZ, hWZ⟩ : ∃ WZ, WZ = (wr.setCell ⟨w.heap.size + 1 + 1, 0, none⟩ (.int .i64 0)).setCell ⟨w.heap.size + 1 + 1, 1, none⟩ (.int .i64 0) := ⟨_, rfl⟩
      rw [← hWZ] at HZ ⊢
      obtain ⟨j0, j1⟩ := two_of (HZ.out.at_ 2 rfl)
      exact bodyPost_ret (v := .tuple #[.agg #[.int .i64 0, .int .i64 0], .int .i64 e1]) (by simp [results, Tryz.results29, go_sem, j0, j1]) rfl ⟨by rw [HE.out], HZ.out.below⟩

    ·have HK1 := Lib.hid (k1 (by omega))
     clear hj k1 k2
     by_cases h1 : e2 = 0
     ·have HO := Lib.hid h1
      have hz : (e2 != 0) = false := by rw [h1]; rfl
      clear hm h1
      go_wp2_with fail
      go_roundw
      case rel => exact ⟨3, by omega, rfl, fun _ => HK1.out, fun _ => HO.out, HM.out⟩
      case measure => simp [intOf]
     ·have HE := Lib.hid (HV.out.trans (HN.out.trans (by rw [if_neg (fun h => h HK1.out), if_pos h1])))
      have hz : (e2 != 0) = true := by simpa using h1
      have f0 := (hm.at_ 2 rfl).frozen 0
      have f1 := (hm.at_ 2 rfl).frozen 1
      obtain ⟨m0, m1⟩ := two_of (hm.at_ 2 rfl)
      have HZ := Lib.hid (hm.put2 2 rfl (.int .i64 0) (.int .i64 0))
      clear hm HM h1
      go_wp2_with fail
      obtain ⟨WZ, hWZ⟩ : ∃ WZ, WZ = (wr.setCell ⟨w.heap.size + 1 + 1, 0, none⟩ (.int .i64 0)).setCell ⟨w.heap.size + 1 + 1, 1, none⟩ (.int .i64 0) := ⟨_, rfl⟩
      rw [← hWZ] at HZ ⊢
      obtain ⟨j0, j1⟩ := two_of (HZ.out.at_ 2 rfl)
      exact bodyPost_ret (v := .tuple #[.agg #[.int .i64 0, .int .i64 0], .int .i64 e2]) (by simp [results, Tryz.results29, go_sem, j0, j1]) rfl ⟨by rw [HE.out], HZ.out.below⟩

    ·have HK1 := Lib.hid (k1 (by omega))
     have HK2 := Lib.hid (k2 (by omega))
     clear hj k1 k2 c0 c1 c2
     obtain ⟨q0, q1⟩ := two_of (hm.at_ 3 rfl)
     obtain ⟨q2, q3⟩ := two_of (hm.at_ 4 rfl)
     obtain ⟨⟨w1', w2', w3', w4'⟩, v1', v2', v3', v4', v5', v6'⟩ := HWS.out
     have HN2 := Lib.hid (HV.out.trans (HN.out.trans (by rw [if_neg (fun h => h HK1.out), if_neg (fun h => h HK2.out)])))
     clear hm
     go_wp2_with fail
     go_quiet (fail)
     have hm := HM.out.drewN nq
     clear q0 q1 q2 q3 HM
     obtain ⟨m0, m1⟩ := two_of (hm.at_ 2 rfl)
     have f0 := (hm.at_ 2 rfl).frozen 0
     have f1 := (hm.at_ 2 rfl).frozen 1
     rcases HDV.out with rfl | rfl | rfl
     ·have HE := Lib.hid (show T = (0, 0, 0) from HN2.out.trans (by rw [if_neg (by decide), if_neg (by decide)]))
      have HZ := Lib.hid (hm.put2 2 rfl (.int .i64 0) (.int .i64 0))
      clear hm
      go_wp2_with fail
      obtain ⟨WZ, hWZ⟩ : ∃ WZ, WZ = ((wr.drewN nq).setCell ⟨w.heap.size + 1 + 1, 0, none⟩ (.int .i64 0)).setCell ⟨w.heap.size + 1 + 1, 1, none⟩ (.int .i64 0) := ⟨_, rfl⟩
      rw [← hWZ] at HZ ⊢
      obtain ⟨j0, j1⟩ := two_of (HZ.out.at_ 2 rfl)
      exact bodyPost_ret (v := .tuple #[.agg #[.int .i64 0, .int .i64 0], .int .i64 0]) (by simp [results, Tryz.results29, go_sem, j0, j1]) rfl ⟨by rw [HE.out], HZ.out.below⟩
     ·have HE := Lib.hid (show T = ((max 0 z3), z4, 0) from HN2.out.trans (by rw [if_neg (by decide), if_pos rfl]))
      have HZ := Lib.hid (hm.put2 2 rfl (.int .i64 (max 0 z3)) (.int .i64 z4))
      clear hm
      go_wp2_with fail
      obtain ⟨WZ, hWZ⟩ : ∃ WZ, WZ = ((wr.drewN nq).setCell ⟨w.heap.size + 1 + 1, 0, none⟩ (.int .i64 (max 0 z3))).setCell ⟨w.heap.size + 1 + 1, 1, none⟩ (.int .i64 z4) := ⟨_, rfl⟩
      rw [← hWZ] at HZ ⊢
      obtain ⟨j0, j1⟩ := two_of (HZ.out.at_ 2 rfl)
      exact bodyPost_ret (v := .tuple #[.agg #[.int .i64 (max 0 z3), .int .i64 z4], .int .i64 0]) (by simp [results, Tryz.results29, go_sem, j0, j1]) rfl ⟨by rw [HE.out], HZ.out.below⟩
     ·have HE := Lib.hid (show T = ((max 0 z1), z2, 0) from HN2.out.trans (by rw [if_pos rfl]))
      have HZ := Lib.hid (hm.put2 2 rfl (.int .i64 (max 0 z1)) (.int .i64 z2))
      clear hm
      go_wp2_with fail
      obtain ⟨WZ, hWZ⟩ : ∃ WZ, WZ = ((wr.drewN nq).setCell ⟨w.heap.size + 1 + 1, 0, none⟩ (.int .i64 (max 0 z1))).setCell ⟨w.heap.size + 1 + 1, 1, none⟩ (.int .i64 z2) := ⟨_, rfl⟩
      rw [← hWZ] at HZ ⊢
      obtain ⟨j0, j1⟩ := two_of (HZ.out.at_ 2 rfl)
      exact bodyPost_ret (v := .tuple #[.agg #[.int .i64 (max 0 z1), .int .i64 z2], .int .i64 0]) (by simp [results, Tryz.results29, go_sem, j0, j1]) rfl ⟨by rw [HE.out], HZ.out.below⟩
theorem frT_er {d : Int} (P S : Nat → Int) (p : Int) (n : Nat) : (frT d P S p n).2.2 = 0 ∨ (frT d P S p n).2.2 = 3 := by
 unfold frT rtT
 dsimp only
 split
 ·exact .inr rfl
 ·exact .inl rfl
theorem drT_sg (d : Int) (P S : Nat → Int) (l n : Nat) (s : Int) : drT d P S l n s = 0 ∨ drT d P S l n s = -1 ∨ drT d P S l n s = 1 := by
 unfold drT sgn
 split
 ·exact .inr (.inl rfl)
 ·split
  ·exact .inl rfl
  ·exact .inr (.inr rfl)
theorem lbeats_pl {d : Int} {P S : Nat → Int} (h : PlnC d P S) (p s : Int) (hp : 1 ≤ p ∧ p ≤ 1000) (hs : ptB s) {l n : Nat} (hn : n ≤ 127) (hls : (l : Int) + s = n) (w : World) (ht : Tab w) :
  Calls Tryz.prog 29 #[.agg (tuL (cirP d P S) p).toArray, .agg #[.int .i64 (l : Int), .int .i64 s]] w fun e w' => e = .returned (.tuple #[.agg #[.int .i64 (bbT d P S p l n s).1, .int .i64 (bbT d P S p l n s).2.1], .int .i64 (bbT d P S p l n s).2.2]) ∧ Below w.heap.size w w' := by
 have hs12 : 3 ≤ s ∧ s ≤ 12 := by unfold ptB at hs; omega
 have b1 := frT_bd h hp (n := l) (by omega)
 have b2 := frT_bd h hp hn
 have r1 := frT_er (d := d) P S p l
 have r2 := frT_er (d := d) P S p n
 exact lbeats_gen (cirP d P S) p l s n _ _ _ _ _ _ _ w ht hs (by omega) hls (drT_sg d P S l n s) (by omega) (by omega) b1.1 b1.2.1 b2.1 b2.2.1 (fun W hT => ldir_pl h p s hs hn hls W hT) (fun W hT => lfreq_pl h p hp (by omega) W hT) (fun W hT => lfreq_pl h p hp hn W hT)
set_option maxRecDepth 100000 in
set_option maxHeartbeats 4000000 in
theorem lright_any (a b : Int) (w : World) : Calls Tryz.prog 25 #[.agg #[.int .i64 a, .int .i64 b]] w fun e w' => e = .returned (.int .i64 (ivxE (a, b))) ∧ Below w.heap.size w w' := by
 have hp := fun W => lpart42 b W
 have hm0 := (Hp.start w).new 67 [.int .i64 a, .int .i64 b]
 simp only [List.nil_append, List.cons_append] at hm0
 have HM0 := Lib.hid hm0
 obtain ⟨y0, y1⟩ := two_of (hm0.at_ 0 rfl)
 obtain ⟨u, hu⟩ : ∃ u, u = (ptP b).1 := ⟨_, rfl⟩
 obtain ⟨v, hv⟩ : ∃ u, u = (ptP b).2 := ⟨_, rfl⟩
 obtain ⟨q, hq⟩ : ∃ q, q = decide (ptB b) := ⟨_, rfl⟩
 rw [← hu, ← hv, ← hq] at hp
 have HP := Lib.hid hp
 obtain ⟨E, hE⟩ : ∃ E, E = ivxE (a, b) := ⟨_, rfl⟩
 rw [← hE]
 have HQ := Lib.hid hq
 have HE := Lib.hid hE
 clear hm0 hp hu hv hq hE
 go_enter Tryz.func25, Tryz.ntmps25
 go_wp2_with fail
 refine (HP.out _).mono ?_
 rintro e w1 ⟨rfl, hb1⟩
 have HM1 := Lib.hid (HM0.out.step hb1)
 clear hb1 HM0 y0 y1
 obtain ⟨y0, y1⟩ := two_of (HM1.out.at_ 0 rfl)
 by_cases hb : ptB b
 ·obtain rfl : q = true := HQ.out.trans (decide_eq_true hb)
  have hb12 : 3 ≤ b ∧ b ≤ 12 := by unfold ptB at hb; omega
  by_cases h0 : a < 0
  ·have HZ := Lib.hid (show E = 3 from HE.out.trans (by unfold ivxE; rw [if_neg (fun h => h hb), if_neg (by dsimp only; omega)]))
   clear hb hb12
   go_wp2_with fail
   exact bodyPost_ret (v := .int .i64 3) (by simp [results, Tryz.results25, go_sem]) rfl ⟨by rw [HZ.out], HM1.out.below⟩
  ·obtain ⟨t, ht⟩ : ∃ t, t = IntKind.i64.wrap (a + b) := ⟨_, rfl⟩
   by_cases h1 : 127 < a
   ·have HZ := Lib.hid (show E = 3 from HE.out.trans (by unfold ivxE; rw [if_neg (fun h => h hb), if_neg (by dsimp only; omega)]))
    have ht' := ht.symm
    clear hb hb12 ht
    by_cases h2 : 127 < t
    ·go_wp2_with fail
     exact bodyPost_ret (v := .int .i64 3) (by simp [results, Tryz.results25, go_sem]) rfl ⟨by rw [HZ.out], HM1.out.below⟩
    ·go_wp2_with fail
     exact bodyPost_ret (v := .int .i64 3) (by simp [results, Tryz.results25, go_sem]) rfl ⟨by rw [HZ.out], HM1.out.below⟩
   ·have ht2 : t = a + b := by rw [ht]; exact IntWalk.i64_in _ (by omega)
    have ht' := ht.symm
    by_cases h2 : 127 < t
    ·have HZ := Lib.hid (show E = 3 from HE.out.trans (by unfold ivxE; rw [if_neg (fun h => h hb), if_neg (by dsimp only; omega)]))
     clear hb hb12 ht ht2
     go_wp2_with fail
     exact bodyPost_ret (v := .int .i64 3) (by simp [results, Tryz.results25, go_sem]) rfl ⟨by rw [HZ.out], HM1.out.below⟩
    ·have HZ := Lib.hid (show E = 0 from HE.out.trans (by unfold ivxE; rw [if_neg (fun h => h hb), if_pos (by dsimp only; omega)]))
     clear hb hb12 ht ht2
     go_wp2_with fail
     exact bodyPost_ret (v := .int .i64 0) (by simp [results, Tryz.results25, go_sem]) rfl ⟨by rw [HZ.out], HM1.out.below⟩
 ·obtain rfl : q = false := HQ.out.trans (decide_eq_false hb)
  have HZ := Lib.hid (show E = 18 from HE.out.trans (by unfold ivxE; rw [if_pos hb]))
  clear hb
  go_wp2_with fail
  exact bodyPost_ret (v := .int .i64 18) (by simp [results, Tryz.results25, go_sem]) rfl ⟨by rw [HZ.out], HM1.out.below⟩
theorem ivx_ok {a b : Int} (h : ivxE (a, b) = 0) : ptB b ∧ 0 ≤ a ∧ a + b ≤ 127 := by
 unfold ivxE at h
 dsimp only at h
 split at h
 ·cases h
 ·rename_i h1
  split at h
  ·rename_i h2
   exact ⟨Classical.not_not.1 h1, h2.1, h2.2.2⟩
  ·cases h
theorem four42 {W : World} {g : Nat} {t : TypeId} {a b c d : Value} (h : Blk W g t [a, b, c, d]) : W.cell? ⟨g, 0, none⟩ = some a ∧ W.cell? ⟨g, 1, none⟩ = some b ∧ W.cell? ⟨g, 2, none⟩ = some c ∧ W.cell? ⟨g, 3, none⟩ = some d := ⟨h.cell 0, h.cell 1, h.cell 2, h.cell 3⟩
set_option maxRecDepth 1000000 in
set_option maxHeartbeats 8000000 in
theorem lcmps_no1 (m d q a b a' b' p r : Int) (X : Nat → Int × Int) (C : Nat → Tm) (w : World) (ht : Tab w) (hr : r ≠ 0)
  (hM : ∀ W, Calls Tryz.prog 22 #[.agg (plC m X d).toArray, .int .u16 q] W fun e w' => e = .returned (.agg (tuL C p).toArray) ∧ Below W.heap.size W w')
  (hC : ∀ W, Calls Tryz.prog 16 #[.agg (tuL C p).toArray] W fun e w' => e = .returned (.int .i64 0) ∧ Below W.heap.size W w')
  (hR : ∀ W, Calls Tryz.prog 25 #[.agg #[.int .i64 a, .int .i64 b]] W fun e w' => e = .returned (.int .i64 r) ∧ Below W.heap.size W w') :
  Calls Tryz.prog 7 #[.agg (plC m X d).toArray, .int .u16 q, .agg #[.int .i64 a, .int .i64 b, .int .i64 a', .int .i64 b']] w fun e w' => e = .returned (.bool true) ∧ Below w.heap.size w w' := by
 have HKN := Lib.hid (fun W hT => bknown_any W hT)
 have HT := Lib.hid ht
 have HM := Lib.hid hM
 have HC := Lib.hid hC
 have HR := Lib.hid hR
 have HZR := Lib.hid (show (r != 0) = true by simpa using hr)
 clear hr
 have hm0 := ((Hp.start w).new 26 (plC m X d)).new 73 [.int .i64 a, .int .i64 b, .int .i64 a', .int .i64 b']
 simp only [World.size_alloc, List.nil_append, List.cons_append] at hm0
 have HM0 := Lib.hid hm0
 clear ht hM hC hR hm0
 go_enter Tryz.func7, Tryz.ntmps7
 go_wp2_with fail
 refine (HKN.out _ (HT.out.below HM0.out.below)).mono ?_
 rintro e w1 ⟨rfl, hb1⟩
 have HM1 := Lib.hid (HM0.out.step hb1)
 clear hb1 HM0
 go_wp2_with (refine wpList_load_row rfl 26 _ rfl (w.heap.size) rfl 26 (plC m X d).toArray (0, 0) _ (HM1.out.at_ 0 rfl) Tryz.underlying26 rfl (by rw [infoPlan42, List.size_toArray, pl_len]) ?_)
 refine (HM.out _).mono ?_
 rintro e w2 ⟨rfl, hb2⟩
 have hm2 := (HM1.out.step hb2).new 41 (tuL (fun _ => (0, 0, 0, 0)) 0)
 simp only [List.nil_append, List.cons_append] at hm2
 have HM2 := Lib.hid hm2
 have HM3 := Lib.hid ((hm2.row 2 rfl (tuL C p)).cast (L' := [(w.heap.size, 26, plC m X d), (w.heap.size + 1, 73, [.int .i64 a, .int .i64 b, .int .i64 a', .int .i64 b']), (w2.heap.size, 41, tuL C p)]) rfl)
 clear hb2 HM1 hm2
 go_wp2_with (first | (refine wpList_store_rowTo rfl 41 _ _ rfl rfl (w2.heap.size) (tuL C p).toArray rfl rfl 41 (tuL (fun _ => (0, 0, 0, 0)) 0).toArray (HM2.out.at_ 2 rfl) (by rw [infoTun, List.size_toArray, tuL_len]) (by rw [List.size_toArray, List.size_toArray, tuL_len, tuL_len]) (tu_one C p) ?_) | (refine wpList_load_row rfl 41 _ rfl (w2.heap.size) rfl 41 (tuL C p).toArray (0, 0) _ (HM3.out.at_ 2 rfl) Tryz.underlying41 rfl (by rw [infoTun, List.size_toArray, tuL_len]) ?_))
 refine (HC.out _).mono ?_
 rintro e w3 ⟨rfl, hb3⟩
 have HM4 := Lib.hid (HM3.out.step hb3)
 obtain ⟨y0, y1, y2, y3⟩ := four42 (HM4.out.at_ 1 rfl)
 clear hb3 HM2 HM3
 go_wp2_with fail
 refine (HR.out _).mono ?_
 rintro e w4 ⟨rfl, hb4⟩
 have HM5 := Lib.hid (HM4.out.step hb4)
 clear hb4 HM4 y0 y1 y2 y3
 have hz := HZR.out
 go_wp2_with fail
 exact bodyPost_ret (v := .bool true) (by simp [results, Tryz.results7, go_sem]) rfl ⟨rfl, HM5.out.below⟩
set_option maxRecDepth 1000000 in
set_option maxHeartbeats 8000000 in
theorem lcmps_no2 (m d q a b a' b' p r : Int) (X : Nat → Int × Int) (C : Nat → Tm) (w : World) (ht : Tab w) (hr : r ≠ 0)
  (hM : ∀ W, Calls Tryz.prog 22 #[.agg (plC m X d).toArray, .int .u16 q] W fun e w' => e = .returned (.agg (tuL C p).toArray) ∧ Below W.heap.size W w')
  (hC : ∀ W, Calls Tryz.prog 16 #[.agg (tuL C p).toArray] W fun e w' => e = .returned (.int .i64 0) ∧ Below W.heap.size W w')
  (hR : ∀ W, Calls Tryz.prog 25 #[.agg #[.int .i64 a, .int .i64 b]] W fun e w' => e = .returned (.int .i64 0) ∧ Below W.heap.size W w')
  (hR2 : ∀ W, Calls Tryz.prog 25 #[.agg #[.int .i64 a', .int .i64 b']] W fun e w' => e = .returned (.int .i64 r) ∧ Below W.heap.size W w') :
  Calls Tryz.prog 7 #[.agg (plC m X d).toArray, .int .u16 q, .agg #[.int .i64 a, .int .i64 b, .int .i64 a', .int .i64 b']] w fun e w' => e = .returned (.bool true) ∧ Below w.heap.size w w' := by
 have HKN := Lib.hid (fun W hT => bknown_any W hT)
 have HT := Lib.hid ht
 have HM := Lib.hid hM
 have HC := Lib.hid hC
 have HR := Lib.hid hR
 have HZR := Lib.hid (show (r != 0) = true by simpa using hr)
 have HR2 := Lib.hid hR2
 clear hr hR2
 have hm0 := ((Hp.start w).new 26 (plC m X d)).new 73 [.int .i64 a, .int .i64 b, .int .i64 a', .int .i64 b']
 simp only [World.size_alloc, List.nil_append, List.cons_append] at hm0
 have HM0 := Lib.hid hm0
 clear ht hM hC hR hm0
 go_enter Tryz.func7, Tryz.ntmps7
 go_wp2_with fail
 refine (HKN.out _ (HT.out.below HM0.out.below)).mono ?_
 rintro e w1 ⟨rfl, hb1⟩
 have HM1 := Lib.hid (HM0.out.step hb1)
 clear hb1 HM0
 go_wp2_with (refine wpList_load_row rfl 26 _ rfl (w.heap.size) rfl 26 (plC m X d).toArray (0, 0) _ (HM1.out.at_ 0 rfl) Tryz.underlying26 rfl (by rw [infoPlan42, List.size_toArray, pl_len]) ?_)
 refine (HM.out _).mono ?_
 rintro e w2 ⟨rfl, hb2⟩
 have hm2 := (HM1.out.step hb2).new 41 (tuL (fun _ => (0, 0, 0, 0)) 0)
 simp only [List.nil_append, List.cons_append] at hm2
 have HM2 := Lib.hid hm2
 have HM3 := Lib.hid ((hm2.row 2 rfl (tuL C p)).cast (L' := [(w.heap.size, 26, plC m X d), (w.heap.size + 1, 73, [.int .i64 a, .int .i64 b, .int .i64 a', .int .i64 b']), (w2.heap.size, 41, tuL C p)]) rfl)
 clear hb2 HM1 hm2
 go_wp2_with (first | (refine wpList_store_rowTo rfl 41 _ _ rfl rfl (w2.heap.size) (tuL C p).toArray rfl rfl 41 (tuL (fun _ => (0, 0, 0, 0)) 0).toArray (HM2.out.at_ 2 rfl) (by rw [infoTun, List.size_toArray, tuL_len]) (by rw [List.size_toArray, List.size_toArray, tuL_len, tuL_len]) (tu_one C p) ?_) | (refine wpList_load_row rfl 41 _ rfl (w2.heap.size) rfl 41 (tuL C p).toArray (0, 0) _ (HM3.out.at_ 2 rfl) Tryz.underlying41 rfl (by rw [infoTun, List.size_toArray, tuL_len]) ?_))
 refine (HC.out _).mono ?_
 rintro e w3 ⟨rfl, hb3⟩
 have HM4 := Lib.hid (HM3.out.step hb3)
 obtain ⟨y0, y1, y2, y3⟩ := four42 (HM4.out.at_ 1 rfl)
 clear hb3 HM2 HM3
 go_wp2_with fail
 refine (HR.out _).mono ?_
 rintro e w4 ⟨rfl, hb4⟩
 have HM5 := Lib.hid (HM4.out.step hb4)
 clear hb4 HM4 y0 y1 y2 y3
 obtain ⟨y0, y1, y2, y3⟩ := four42 (HM5.out.at_ 1 rfl)
 go_wp2_with fail
 refine (HR2.out _).mono ?_
 rintro e w5 ⟨rfl, hb5⟩
 have HM6 := Lib.hid (HM5.out.step hb5)
 clear hb5 HM5 y0 y1 y2 y3
 have hz := HZR.out
 go_wp2_with fail
 exact bodyPost_ret (v := .bool true) (by simp [results, Tryz.results7, go_sem]) rfl ⟨rfl, HM6.out.below⟩
set_option maxRecDepth 1000000 in
set_option maxHeartbeats 8000000 in
theorem lcmps_gen (m d q a b a' b' p u0 u1 e1 v0 v1 e2 : Int) (X : Nat → Int × Int) (C : Nat → Tm) (w : World) (ht : Tab w) (he1 : e1 = 0 ∨ e1 = 3) (he2 : e2 = 0 ∨ e2 = 3)
  (hM : ∀ W, Calls Tryz.prog 22 #[.agg (plC m X d).toArray, .int .u16 q] W fun e w' => e = .returned (.agg (tuL C p).toArray) ∧ Below W.heap.size W w')
  (hC : ∀ W, Calls Tryz.prog 16 #[.agg (tuL C p).toArray] W fun e w' => e = .returned (.int .i64 0) ∧ Below W.heap.size W w')
  (hR : ∀ W, Calls Tryz.prog 25 #[.agg #[.int .i64 a, .int .i64 b]] W fun e w' => e = .returned (.int .i64 0) ∧ Below W.heap.size W w')
  (hR2 : ∀ W, Calls Tryz.prog 25 #[.agg #[.int .i64 a', .int .i64 b']] W fun e w' => e = .returned (.int .i64 0) ∧ Below W.heap.size W w')
  (hK : ∀ W, Tab W → Calls Tryz.prog 30 #[.agg (tuL C p).toArray, .agg #[.int .i64 a, .int .i64 b], .agg #[.int .i64 a', .int .i64 b']] W fun e w' => e = .returned (.tuple #[.int .i64 (cmT 0 e1 e2 u0 u1 v0 v1).1, .int .i64 (cmT 0 e1 e2 u0 u1 v0 v1).2]) ∧ Below W.heap.size W w')
  (hU : ∀ W, Tab W → Calls Tryz.prog 29 #[.agg (tuL C p).toArray, .agg #[.int .i64 a, .int .i64 b]] W fun e w' => e = .returned (.tuple #[.agg #[.int .i64 u0, .int .i64 u1], .int .i64 e1]) ∧ Below W.heap.size W w')
  (hV : ∀ W, Tab W → Calls Tryz.prog 29 #[.agg (tuL C p).toArray, .agg #[.int .i64 a', .int .i64 b']] W fun e w' => e = .returned (.tuple #[.agg #[.int .i64 v0, .int .i64 v1], .int .i64 e2]) ∧ Below W.heap.size W w') :
  Calls Tryz.prog 7 #[.agg (plC m X d).toArray, .int .u16 q, .agg #[.int .i64 a, .int .i64 b, .int .i64 a', .int .i64 b']] w fun e w' => e = .returned (.bool true) ∧ Below w.heap.size w w' := by
 have HKN := Lib.hid (fun W hT => bknown_any W hT)
 have HT := Lib.hid ht
 have HM := Lib.hid hM
 have HC := Lib.hid hC
 have HR := Lib.hid hR
 obtain ⟨T, hT0⟩ : ∃ T, T = cmT 0 e1 e2 u0 u1 v0 v1 := ⟨_, rfl⟩
 rw [← hT0] at hK
 obtain ⟨cv, ce⟩ := T
 have HTT := Lib.hid (show (cv, ce) = if e1 ≠ 0 then (0, e1) else if e2 ≠ 0 then (0, e2) else if v1 < u0 then ((1 : Int), (0 : Int)) else if u1 < v0 then (-1, 0) else (0, 0) from hT0)
 have HR2 := Lib.hid hR2
 have HK := Lib.hid hK
 have HU := Lib.hid hU
 have HV := Lib.hid hV
 have HE := Lib.hid (And.intro he1 he2)
 clear hR2 hK hU hV he1 he2 hT0
 have hm0 := ((Hp.start w).new 26 (plC m X d)).new 73 [.int .i64 a, .int .i64 b, .int .i64 a', .int .i64 b']
 simp only [World.size_alloc, List.nil_append, List.cons_append] at hm0
 have HM0 := Lib.hid hm0
 clear ht hM hC hR hm0
 go_enter Tryz.func7, Tryz.ntmps7
 go_wp2_with fail
 refine (HKN.out _ (HT.out.below HM0.out.below)).mono ?_
 rintro e w1 ⟨rfl, hb1⟩
 have HM1 := Lib.hid (HM0.out.step hb1)
 clear hb1 HM0
 go_wp2_with (refine wpList_load_row rfl 26 _ rfl (w.heap.size) rfl 26 (plC m X d).toArray (0, 0) _ (HM1.out.at_ 0 rfl) Tryz.underlying26 rfl (by rw [infoPlan42, List.size_toArray, pl_len]) ?_)
 refine (HM.out _).mono ?_
 rintro e w2 ⟨rfl, hb2⟩
 have hm2 := (HM1.out.step hb2).new 41 (tuL (fun _ => (0, 0, 0, 0)) 0)
 simp only [List.nil_append, List.cons_append] at hm2
 have HM2 := Lib.hid hm2
 have HM3 := Lib.hid ((hm2.row 2 rfl (tuL C p)).cast (L' := [(w.heap.size, 26, plC m X d), (w.heap.size + 1, 73, [.int .i64 a, .int .i64 b, .int .i64 a', .int .i64 b']), (w2.heap.size, 41, tuL C p)]) rfl)
 clear hb2 HM1 hm2
 go_wp2_with (first | (refine wpList_store_rowTo rfl 41 _ _ rfl rfl (w2.heap.size) (tuL C p).toArray rfl rfl 41 (tuL (fun _ => (0, 0, 0, 0)) 0).toArray (HM2.out.at_ 2 rfl) (by rw [infoTun, List.size_toArray, tuL_len]) (by rw [List.size_toArray, List.size_toArray, tuL_len, tuL_len]) (tu_one C p) ?_) | (refine wpList_load_row rfl 41 _ rfl (w2.heap.size) rfl 41 (tuL C p).toArray (0, 0) _ (HM3.out.at_ 2 rfl) Tryz.underlying41 rfl (by rw [infoTun, List.size_toArray, tuL_len]) ?_))
 refine (HC.out _).mono ?_
 rintro e w3 ⟨rfl, hb3⟩
 have HM4 := Lib.hid (HM3.out.step hb3)
 obtain ⟨y0, y1, y2, y3⟩ := four42 (HM4.out.at_ 1 rfl)
 clear hb3 HM2 HM3
 go_wp2_with fail
 refine (HR.out _).mono ?_
 rintro e w4 ⟨rfl, hb4⟩
 have HM5 := Lib.hid (HM4.out.step hb4)
 clear hb4 HM4 y0 y1 y2 y3
 obtain ⟨y0, y1, y2, y3⟩ := four42 (HM5.out.at_ 1 rfl)
 go_wp2_with fail
 refine (HR2.out _).mono ?_
 rintro e w5 ⟨rfl, hb5⟩
 have HM6 := Lib.hid (HM5.out.step hb5)
 clear hb5 HM5 y0 y1 y2 y3
 obtain ⟨y0, y1, y2, y3⟩ := four42 (HM6.out.at_ 1 rfl)
 go_wp2_with (first | (refine wpList_load_row rfl 41 _ rfl (w2.heap.size) rfl 41 (tuL C p).toArray (0, 0) _ (HM6.out.at_ 2 rfl) Tryz.underlying41 rfl (by rw [infoTun, List.size_toArray, tuL_len]) ?_))
 refine (HK.out _ (HT.out.below HM6.out.below)).mono ?_
 rintro e w6 ⟨rfl, hb6⟩
 have HM7 := Lib.hid (HM6.out.step hb6)
 clear hb6 HM6 y0 y1 y2 y3
 obtain ⟨y0, y1, y2, y3⟩ := four42 (HM7.out.at_ 1 rfl)
 go_wp2_with (first | (refine wpList_load_row rfl 41 _ rfl (w2.heap.size) rfl 41 (tuL C p).toArray (0, 0) _ (HM7.out.at_ 2 rfl) Tryz.underlying41 rfl (by rw [infoTun, List.size_toArray, tuL_len]) ?_))
 refine (HU.out _ (HT.out.below HM7.out.below)).mono ?_
 rintro e w7 ⟨rfl, hb7⟩
 have hm8 := (HM7.out.step hb7).new 53 [.int .i64 u0, .int .i64 u1]
 simp only [List.nil_append, List.cons_append] at hm8
 have HM8 := Lib.hid hm8
 clear hb7 HM7 y0 y1 y2 y3 hm8
 obtain ⟨y0, y1, y2, y3⟩ := four42 (HM8.out.at_ 1 rfl)
 go_wp2_with (first | (refine wpList_load_row rfl 41 _ rfl (w2.heap.size) rfl 41 (tuL C p).toArray (0, 0) _ (HM8.out.at_ 2 rfl) Tryz.underlying41 rfl (by rw [infoTun, List.size_toArray, tuL_len]) ?_))
 refine (HV.out _ (HT.out.below HM8.out.below)).mono ?_
 rintro e w8 ⟨rfl, hb8⟩
 have hm9 := (HM8.out.step hb8).new 53 [.int .i64 v0, .int .i64 v1]
 simp only [List.nil_append, List.cons_append] at hm9
 have HM9 := Lib.hid hm9
 clear hb8 HM8 y0 y1 y2 y3
 obtain ⟨y0, y1⟩ := two_of (hm9.at_ 3 rfl)
 obtain ⟨y2, y3⟩ := two_of (hm9.at_ 4 rfl)
 clear hm9
 obtain ⟨he1, he2⟩ := HE.out
 rcases he1 with rfl | rfl
 ·rcases he2 with rfl | rfl
  ·by_cases h1 : v1 < u0
   ·obtain ⟨rfl, rfl⟩ : cv = 1 ∧ ce = 0 := Prod.mk.inj (HTT.out.trans (by rw [if_neg (by simp), if_neg (by simp), if_pos h1]))
    clear HTT
    go_wp2_with fail
    exact bodyPost_ret (v := .bool true) (by simp [results, Tryz.results7, go_sem]) rfl ⟨rfl, HM9.out.below⟩
   ·by_cases h2 : u1 < v0
    ·obtain ⟨rfl, rfl⟩ : cv = -1 ∧ ce = 0 := Prod.mk.inj (HTT.out.trans (by rw [if_neg (by simp), if_neg (by simp), if_neg h1, if_pos h2]))
     clear HTT
     go_wp2_with fail
     exact bodyPost_ret (v := .bool true) (by simp [results, Tryz.results7, go_sem]) rfl ⟨rfl, HM9.out.below⟩
    ·obtain ⟨rfl, rfl⟩ : cv = 0 ∧ ce = 0 := Prod.mk.inj (HTT.out.trans (by rw [if_neg (by simp), if_neg (by simp), if_neg h1, if_neg h2]))
     clear HTT
     go_wp2_with fail
     exact bodyPost_ret (v := .bool true) (by simp [results, Tryz.results7, go_sem]) rfl ⟨rfl, HM9.out.below⟩
  ·obtain ⟨rfl, rfl⟩ : cv = 0 ∧ ce = 3 := Prod.mk.inj (HTT.out.trans (by rw [if_neg (by simp), if_pos (by simp)]))
   clear HTT
   go_wp2_with fail
   exact bodyPost_ret (v := .bool true) (by simp [results, Tryz.results7, go_sem]) rfl ⟨rfl, HM9.out.below⟩
 ·obtain ⟨rfl, rfl⟩ : cv = 0 ∧ ce = 3 := Prod.mk.inj (HTT.out.trans (by rw [if_pos (by simp)]))
  clear HTT
  rcases he2 with rfl | rfl
  ·go_wp2_with fail
   exact bodyPost_ret (v := .bool true) (by simp [results, Tryz.results7, go_sem]) rfl ⟨rfl, HM9.out.below⟩
  ·go_wp2_with fail
   exact bodyPost_ret (v := .bool true) (by simp [results, Tryz.results7, go_sem]) rfl ⟨rfl, HM9.out.below⟩
theorem bbT_er {d : Int} (P S : Nat → Int) (p : Int) (l n : Nat) (s : Int) : (bbT d P S p l n s).2.2 = 0 ∨ (bbT d P S p l n s).2.2 = 3 := by
 have r1 := frT_er (d := d) P S p l
 have r2 := frT_er (d := d) P S p n
 unfold bbT btT
 (repeat' split) <;> first | exact .inl rfl | (dsimp only; omega)
theorem lcmps_any (m d q a b a' b' : Int) (X : Nat → Int × Int) (w : World) (ht : Tab w) (hm : 0 ≤ m ∧ m < 256) (hd : 0 ≤ d ∧ d < 256) (hX : ∀ i, i < 12 → (-128 ≤ (X i).1 ∧ (X i).1 ≤ 127) ∧ (-128 ≤ (X i).2 ∧ (X i).2 ≤ 127)) (hq : 0 ≤ q ∧ q < 65536) (ha : I64 a) (hb : I64 b) (ha' : I64 a') (hb' : I64 b') :
  Calls Tryz.prog 7 #[.agg (plC m X d).toArray, .int .u16 q, .agg #[.int .i64 a, .int .i64 b, .int .i64 a', .int .i64 b']] w fun e w' => e = .returned (.bool true) ∧ Below w.heap.size w w' := by
 have hpl := pl_pln m d X
 have hp : 1 ≤ 1 + q % 1000 ∧ 1 + q % 1000 ≤ 1000 := by omega
 have htu : tuE (cirP (plD m d) (plP m X) (plQ m X)) (1 + q % 1000) = 0 := by
  unfold tuE
  rw [ckE_pl hpl, if_neg (by simp), if_neg (by omega)]
 have hC := fun W => bCheck_any (cirP (plD m d) (plP m X) (plQ m X)) (1 + q % 1000) W (plan_tm hpl)
 rw [htu] at hC
 by_cases hr : ivxE (a, b) = 0
 ·by_cases hr' : ivxE (a', b') = 0
  ·obtain ⟨hs, h0, h1⟩ := ivx_ok hr
   obtain ⟨hs', h0', h1'⟩ := ivx_ok hr'
   have hs12 : 3 ≤ b ∧ b ≤ 12 := by unfold ptB at hs; omega
   have hs12' : 3 ≤ b' ∧ b' ≤ 12 := by unfold ptB at hs'; omega
   obtain ⟨l, rfl⟩ : ∃ l : Nat, a = (l : Int) := ⟨a.toNat, by omega⟩
   obtain ⟨n, hn⟩ : ∃ n : Nat, (l : Int) + b = (n : Int) := ⟨((l : Int) + b).toNat, by omega⟩
   obtain ⟨l', rfl⟩ : ∃ l : Nat, a' = (l : Int) := ⟨a'.toNat, by omega⟩
   obtain ⟨n', hn'⟩ : ∃ n : Nat, (l' : Int) + b' = (n : Int) := ⟨((l' : Int) + b').toNat, by omega⟩
   have hR := fun W => lright_any l b W
   have hR2 := fun W => lright_any l' b' W
   rw [hr] at hR
   rw [hr'] at hR2
   have hc : (0 : Int) = if tuE (cirP (plD m d) (plP m X) (plQ m X)) (1 + q % 1000) ≠ 0 then tuE (cirP (plD m d) (plP m X) (plQ m X)) (1 + q % 1000) else ivsE [((l : Int), b), ((l' : Int), b')] := by
    rw [htu, if_neg (by simp)]
    show 0 = if ivxE ((l : Int), b) ≠ 0 then ivxE ((l : Int), b) else if ivxE ((l' : Int), b') ≠ 0 then ivxE ((l' : Int), b') else 0
    rw [if_neg (fun h => h hr), if_neg (fun h => h hr')]
   refine lcmps_gen m d q l b l' b' (1 + q % 1000) _ _ _ _ _ _ X _ w ht (bbT_er _ _ (1 + q % 1000) l n b) (bbT_er _ _ (1 + q % 1000) l' n' b') (fun W => lTun_any m d q X W hm hd hX hq) hC hR hR2 (fun W hT => ?_) (fun W hT => lbeats_pl hpl (1 + q % 1000) b hp hs (by omega) hn W hT) (fun W hT => lbeats_pl hpl (1 + q % 1000) b' hp hs' (by omega) hn' W hT)
   exact bCompare_any _ _ l b l' b' 0 _ _ _ _ _ _ W hT (plan_tm hpl) ha hb ha' hb' hc (fun _ W g hT hg => bsizes_pl hpl (1 + q % 1000) g 2 [((l : Int), b), ((l' : Int), b')] W hT hg (by simp) (fun x hx => by
    simp only [List.mem_cons, List.not_mem_nil, or_false] at hx
    rcases hx with rfl | rfl
    ·exact hr
    ·exact hr')) (fun _ W hT => bbeats_pl hpl (1 + q % 1000) b hp hs (by omega) hn W hT) (fun _ W hT => bbeats_pl hpl (1 + q % 1000) b' hp hs' (by omega) hn' W hT)
  ·have hR := fun W => lright_any a b W
   rw [hr] at hR
   exact lcmps_no2 m d q a b a' b' (1 + q % 1000) _ X _ w ht hr' (fun W => lTun_any m d q X W hm hd hX hq) hC hR (fun W => lright_any a' b' W)
 ·exact lcmps_no1 m d q a b a' b' (1 + q % 1000) _ X _ w ht hr (fun W => lTun_any m d q X W hm hd hX hq) hC (fun W => lright_any a b W)
end Go.Proofs.YtendjepcjmfmfaaGreatDoor
