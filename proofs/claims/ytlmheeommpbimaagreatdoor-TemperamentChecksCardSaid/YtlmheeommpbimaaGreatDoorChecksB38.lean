/- Part 38 of 39 of the proof of the law: contracts of the functions that it reaches, and plain facts. Conditions: those that each contract names. -/
import Derived.Test.YtlmheeommpbimaaGreatDoorChecksB32
import Derived.Great.CaseRows
import Derived.Great.BuildSlice
import Derived.RegionTactic
import Derived.Deep.DeepCutAuto
import Derived.Test.YtlmheeommpbimaaGreatDoorChecksB29
import Derived.Test.YtlmheeommpbimaaGreatDoorChecksB36
namespace Go.Proofs.YtlmheeommpbimaaGreatDoor
open Go.RowKit
def twoC (C B : Nat → Tm) : List Value := ([.agg (cirL C).toArray, .agg (cirL B).toArray] : List Value).flatMap fun v => v.cells.toList
theorem two_at (C B : Nat → Tm) {W : World} {g : Nat} {t : TypeId} (h : Blk W g t (twoC C B)) : W.rangeAt g 0 (cirL C) := fun j v hv => by
  have hj : j < (cirL C).length := (List.getElem?_eq_some_iff.1 hv).1
  show W.cell? ⟨g, 0 + j, none⟩ = _
  rw [h.cell, ← hv, Nat.zero_add]
  show (cirL C ++ _)[j]? = _
  exact List.getElem?_append_left hj
set_option maxRecDepth 1000000 in
set_option maxHeartbeats 4000000 in
theorem tSame_err (C B : Nat → Tm) (w : World) (hC : ∀ i, i < 12 → Tm64 (C i)) (hk : ckE C ≠ 0) :
    Calls Tryz.prog 35 #[.agg (cirL C).toArray, .agg (cirL B).toArray] w fun e w' => e = .returned (.tuple #[.bool false, .int .i64 (ckE C)]) ∧ Below w.heap.size w w' := by
  have HCK := Lib.hid (fun W => tcheck_any C W hC)
  obtain ⟨c, hc⟩ : ∃ c, c = ckE C := ⟨_, rfl⟩
  rw [← hc] at HCK hk ⊢
  have hz : (c != 0) = true := by simpa using hk
  clear hc hk hC
  have hm0 := ((Hp.start w).new 33 (cirL C)).new 33 (cirL B)
  simp only [World.size_alloc, List.nil_append, List.cons_append] at hm0
  have HM0 := Lib.hid hm0
  have hm1 := hm0.new 33 (twoC C B)
  simp only [World.size_alloc, List.nil_append, List.cons_append] at hm1
  have HM1 := Lib.hid hm1
  have HTC := Lib.hid (fun (W : World) (g : Nat) (t : TypeId) (h : Blk W g t (twoC C B)) => two_at C B h)
  clear hm0 hm1
  go_enter Tryz.func35, Tryz.ntmps35
  go_upto_region 1 with fail
  go_step
  refine wpList_load_row rfl 33 _ rfl (w.heap.size) rfl 33 (cirL C).toArray (0, 0) _ (HM0.out.at_ 0 rfl) Tryz.underlying33 rfl (by rw [infoCircle, List.size_toArray, cirL_len]) ?_
  refine wpList_load_row rfl 33 _ rfl (w.heap.size + 1) rfl 33 (cirL B).toArray (0, 0) _ (HM0.out.at_ 1 rfl) Tryz.underlying33 rfl (by rw [infoCircle, List.size_toArray, cirL_len]) ?_
  refine Great.wpList_buildRows rfl 110 33 _ 48 ([.agg (cirL C).toArray, .agg (cirL B).toArray] : List Value) rfl (fun i => 14 + i) (w.heap.size + 1 + 1) (by simp) (some 16) rfl Tryz.underlying110 infoCircle (by kernel_rfl) (by decide) (by simp) (by simp) rfl (fun v hv => by simp only [List.mem_cons, List.not_mem_nil, or_false] at hv; rcases hv with rfl | rfl <;> exact cirL_len _) (fun i h => by match i, h with | 0, _ => rfl | 1, _ => rfl) ?_
  rw [show (([.agg (cirL C).toArray, .agg (cirL B).toArray] : List Value).flatMap fun v => v.cells.toList) = twoC C B from rfl]
  generalize twoC C B = TC at *
  go_wp2_with fail
  go_loopw [18] (fun v W => v = .int .i64 0 ∧ Hp w [(w.heap.size, 33, cirL C), (w.heap.size + 1, 33, cirL B), (w.heap.size + 1 + 1, 33, TC)] W) (fun _ _ => 0)
  case atStart => exact ⟨rfl, HM1.out⟩
  case round =>
    obtain ⟨rfl, hm⟩ := hrel
    have HA := Lib.hid hm
    have hm2 := hm.new 33 (cirL (fun _ => (0, 0, 0, 0)))
    simp only [List.nil_append, List.cons_append] at hm2
    have HB := Lib.hid hm2
    have hm3 := (hm2.row 3 rfl (cirL C)).cast (L' := [(w.heap.size, 33, cirL C), (w.heap.size + 1, 33, cirL B), (w.heap.size + 1 + 1, 33, TC), (wr.heap.size, 33, cirL C)]) rfl
    have HCc := Lib.hid hm3
    clear hm hm2 hm3
    go_wp2_with (first
      | (refine wpList_load_mid rfl 33 _ rfl (w.heap.size + 1 + 1) 0 rfl (cirL C) _ (HTC.out _ _ _ (HA.out.at_ 2 rfl)) Tryz.underlying33 rfl (by rw [infoCircle, cirL_len]) ?_)
      | (refine wpList_store_rowTo rfl 33 _ _ rfl rfl wr.heap.size (cirL C).toArray rfl rfl 33 (cirL (fun _ => (0, 0, 0, 0))).toArray (HB.out.at_ 3 rfl) (by rw [infoCircle, List.size_toArray, cirL_len]) (by rw [List.size_toArray, List.size_toArray, cirL_len, cirL_len]) (cir_one _) ?_)
      | (refine wpList_load_row rfl 33 _ rfl (wr.heap.size) rfl 33 (cirL C).toArray (0, 0) _ (HCc.out.at_ 3 rfl) Tryz.underlying33 rfl (by rw [infoCircle, List.size_toArray, cirL_len]) ?_))
    refine (HCK.out _).mono ?_
    rintro e w1 ⟨rfl, hb1⟩
    have HQ := Lib.hid (HCc.out.step hb1).below
    clear hb1
    go_wp2
    exact bodyPost_ret (v := .tuple #[.bool false, .int .i64 c]) (by simp [results, Tryz.results35, go_sem]) rfl ⟨rfl, HQ.out⟩
end Go.Proofs.YtlmheeommpbimaaGreatDoor
namespace Go.Proofs.YtlmheeommpbimaaGreatDoor
open Go.RowKit
theorem cirL_set2 (C : Nat → Tm) {k : Nat} (hk : k < 12) (x0 x1 : Int) :
    ((cirL C).set (k * 4) (.int .i64 x0)).set (k * 4 + 1) (.int .i64 x1) = cirL (fun j => if j = k then (x0, x1, (C j).2.2.1, (C j).2.2.2) else C j) ∧
    ((cirL C).set (k * 4 + 2) (.int .i64 x0)).set (k * 4 + 3) (.int .i64 x1) = cirL (fun j => if j = k then ((C j).1, (C j).2.1, x0, x1) else C j) := by
  have hl := cirL_len C
  have key : ∀ (D : Nat → Tm) (a b : Nat) (u v : Value), a < 48 → b < 48 → a ≠ b → (∀ j r, j < 12 → r < 4 → (tmC (D j))[r]? = if b = j * 4 + r then some v else if a = j * 4 + r then some u else (tmC (C j))[r]?) → ((cirL C).set a u).set b v = cirL D := by
    intro D a b u v ha hb hab h
    apply List.ext_getElem?
    intro q
    by_cases hq : q < 48
    · obtain ⟨j, r, hr, rfl⟩ : ∃ j r, r < 4 ∧ q = j * 4 + r := ⟨q / 4, q % 4, by omega, by omega⟩
      rw [cirL_get D (by omega) hr, h j r (by omega) hr, List.getElem?_set, List.getElem?_set, List.length_set, hl]
      by_cases e1 : b = j * 4 + r
      · rw [if_pos e1, if_pos (by omega), if_pos e1]
      · rw [if_neg e1, if_neg e1]
        by_cases e2 : a = j * 4 + r
        · rw [if_pos e2, if_pos (by omega), if_pos e2]
        · rw [if_neg e2, if_neg e2, cirL_get C (by omega) hr]
    · rw [List.getElem?_eq_none (by rw [List.length_set, List.length_set, hl]; omega), List.getElem?_eq_none (by rw [cirL_len]; omega)]
  constructor
  · refine key _ _ _ _ _ (by omega) (by omega) (by omega) fun j r hj hr => ?_
    by_cases e : j = k
    · subst e
      rcases (show r = 0 ∨ r = 1 ∨ r = 2 ∨ r = 3 by omega) with rfl | rfl | rfl | rfl <;> simp [tmC]
    · rw [if_neg e, if_neg (by omega), if_neg (by omega)]
  · refine key _ _ _ _ _ (by omega) (by omega) (by omega) fun j r hj hr => ?_
    by_cases e : j = k
    · subst e
      rcases (show r = 0 ∨ r = 1 ∨ r = 2 ∨ r = 3 by omega) with rfl | rfl | rfl | rfl <;> simp [tmC]
    · rw [if_neg e, if_neg (by omega), if_neg (by omega)]
set_option maxRecDepth 1000000 in
set_option maxHeartbeats 4000000 in
theorem lchecks_even (n d at' x0 x1 c : Int) (X : Nat → Int × Int) (C0 C : Nat → Tm) (k : Nat) (w : World) (ht : Tab w) (ha : 0 ≤ at' ∧ at' < 256) (he : at' % 2 = 0) (hk : at' / 2 % 12 = (k : Int)) (hC : cirL C = cirL (fun j => if j = k then (x0, x1, (C0 j).2.2.1, (C0 j).2.2.2) else C0 j))
    (hMK : ∀ W, Calls Tryz.prog 11 #[.agg (plC n X d).toArray] W fun e w' => e = .returned (.agg (cirL C0).toArray) ∧ Below W.heap.size W w')
    (hLC : ∀ W, Calls Tryz.prog 29 #[.agg (cirL C).toArray] W fun e w' => e = .returned (.int .i64 c) ∧ Below W.heap.size W w')
    (hCK : ∀ W, Calls Tryz.prog 30 #[.agg (cirL C).toArray] W fun e w' => e = .returned (.int .i64 c) ∧ Below W.heap.size W w')
    (hCL : c ≠ 0 → ∀ W, Calls Tryz.prog 13 #[.agg (cirL C).toArray] W fun e w' => e = .returned (.tuple #[.bool false, .int .i64 c]) ∧ Below W.heap.size W w')
    (hRE : c ≠ 0 → ∀ W, Calls Tryz.prog 12 #[.agg (cirL C).toArray] W fun e w' => e = .returned (.tuple #[szv 0 0 0 0 0 0, .int .i64 c]) ∧ Below W.heap.size W w')
    (hFI : c ≠ 0 → ∀ W, Calls Tryz.prog 14 #[.agg (cirL C).toArray, .int .i64 0] W fun e w' => e = .returned (.tuple #[szv 0 0 0 0 0 0, .int .i64 c]) ∧ Below W.heap.size W w')
    (hNO : c ≠ 0 → ∀ W, Calls Tryz.prog 31 #[.agg (cirL C).toArray, .int .i64 0] W fun e w' => e = .returned (.tuple #[szv 0 0 0 0 0 0, .int .i64 c]) ∧ Below W.heap.size W w')
    (hBE : c ≠ 0 → ∀ W, Calls Tryz.prog 22 #[.agg (cirL C).toArray, .int .i64 0, .int .i64 1] W fun e w' => e = .returned (.tuple #[szv 0 0 0 0 0 0, .int .i64 c]) ∧ Below W.heap.size W w')
    (hPU : c ≠ 0 → ∀ W, Calls Tryz.prog 32 #[.agg (cirL C).toArray, .int .i64 7, szv 0 0 0 0 0 0] W fun e w' => e = .returned (.tuple #[.slice none 0 0, .int .i64 c]) ∧ Below W.heap.size W w')
    (hER : c ≠ 0 → ∀ W, Calls Tryz.prog 33 #[.agg (cirL C).toArray, .int .i64 0, .int .i64 7, szv 0 0 0 0 0 0] W fun e w' => e = .returned (.tuple #[szv 0 0 0 0 0 0, .int .i64 c]) ∧ Below W.heap.size W w')
    (hWI : c ≠ 0 → ∀ W, Calls Tryz.prog 34 #[.agg (cirL C).toArray, .int .i64 7] W fun e w' => e = .returned (.tuple #[.int .i64 0, .int .i64 c]) ∧ Below W.heap.size W w')
    (hSA : c ≠ 0 → ∀ W, Calls Tryz.prog 35 #[.agg (cirL C).toArray, .agg (cirL C).toArray] W fun e w' => e = .returned (.tuple #[.bool false, .int .i64 c]) ∧ Below W.heap.size W w') :
    Calls Tryz.prog 6 #[.agg (plC n X d).toArray, .int .u8 at', .agg #[.int .i64 x0, .int .i64 x1]] w fun e w' => e = .returned (.bool true) ∧ Below w.heap.size w w' := by
  have HKN := Lib.hid (fun W hT => tknown_any W hT)
  have HT := Lib.hid ht
  have HMK := Lib.hid hMK
  have HLC := Lib.hid hLC
  have HCK := Lib.hid hCK
  have HCL := Lib.hid hCL
  have HRE := Lib.hid hRE
  have HFI := Lib.hid hFI
  have HNO := Lib.hid hNO
  have HBE := Lib.hid hBE
  have HPU := Lib.hid hPU
  have HER := Lib.hid hER
  have HWI := Lib.hid hWI
  have HSA := Lib.hid hSA
  obtain ⟨z, hz⟩ : ∃ z : Int, z = (k : Int) := ⟨_, rfl⟩
  have t2 : at'.tmod 2 = 0 := by rw [Int.tmod_eq_emod_of_nonneg ha.1, he]
  have td : at'.tdiv 2 = at' / 2 := Int.tdiv_eq_ediv_of_nonneg ha.1
  obtain ⟨u, hu⟩ : ∃ u : Int, u = at' / 2 := ⟨_, rfl⟩
  rw [← hu] at hk td
  have tz : u.tmod 12 = z := by rw [Int.tmod_eq_emod_of_nonneg (by omega), hk, hz]
  have wu : IntKind.u8.wrap u = u := by unfold IntKind.wrap; simp [IntKind.bits, IntKind.signed]; omega
  have wz : IntKind.u8.wrap z = z := by unfold IntKind.wrap; simp [IntKind.bits, IntKind.signed]; omega
  have hk12 : k < 12 := by omega
  have z0' : 0 ≤ z := by omega
  have z1' : z < 12 := by omega
  have hzk : z.toNat = k := by omega
  have HCE := Lib.hid hC
  clear ht ha he hk hC hz hu hMK hLC hCK hCL hRE hFI hNO hBE hPU hER hWI hSA
  have hm0 := ((Hp.start w).new 26 (plC n X d)).new 29 [.int .i64 x0, .int .i64 x1]
  simp only [World.size_alloc, List.nil_append, List.cons_append] at hm0
  have HM0 := Lib.hid hm0
  clear hm0
  go_enter Tryz.func6, Tryz.ntmps6
  go_wp2_with fail
  refine (HKN.out _ (HT.out.below HM0.out.below)).mono ?_
  rintro e w1 ⟨rfl, hb1⟩
  have HM1 := Lib.hid (HM0.out.step hb1)
  clear hb1
  go_wp2_with (refine wpList_load_row rfl 26 _ rfl (w.heap.size) rfl 26 (plC n X d).toArray (0, 0) _ (HM1.out.at_ 0 rfl) Tryz.underlying26 rfl (by rw [infoPlan41, List.size_toArray, pl_len]) ?_)
  refine (HMK.out _).mono ?_
  rintro e w2 ⟨rfl, hb2⟩
  have hm2 := (HM1.out.step hb2).new 33 (cirL (fun _ => (0, 0, 0, 0)))
  simp only [List.nil_append, List.cons_append] at hm2
  have HM2 := Lib.hid hm2
  have hm3 := (hm2.row 2 rfl (cirL C0)).cast (L' := [(w.heap.size, 26, plC n X d), (w.heap.size + 1, 29, [.int .i64 x0, .int .i64 x1]), (w2.heap.size, 33, cirL C0)]) rfl
  have HM3 : Hid (Hp w [(w.heap.size, 26, plC n X d), (w.heap.size + 1, 29, [.int .i64 x0, .int .i64 x1]), (w2.heap.size, 33, cirL C0)] ((w2.alloc (.cells #[.int .i64 0, .int .i64 0, .int .i64 0, .int .i64 0, .int .i64 0, .int .i64 0, .int .i64 0, .int .i64 0, .int .i64 0, .int .i64 0, .int .i64 0, .int .i64 0, .int .i64 0, .int .i64 0, .int .i64 0, .int .i64 0, .int .i64 0, .int .i64 0, .int .i64 0, .int .i64 0, .int .i64 0, .int .i64 0, .int .i64 0, .int .i64 0, .int .i64 0, .int .i64 0, .int .i64 0, .int .i64 0, .int .i64 0, .int .i64 0, .int .i64 0, .int .i64 0, .int .i64 0, .int .i64 0, .int .i64 0, .int .i64 0, .int .i64 0, .int .i64 0, .int .i64 0, .int .i64 0, .int .i64 0, .int .i64 0, .int .i64 0, .int .i64 0, .int .i64 0, .int .i64 0, .int .i64 0, .int .i64 0] 33)).setRow w2.heap.size (cirL C0).toArray)) := Lib.hid hm3
  clear hb2 hm2 hm3
  go_upto_region 5 with (refine wpList_store_rowTo rfl 33 _ _ rfl rfl (w2.heap.size) (cirL C0).toArray rfl rfl 33 (cirL (fun _ => (0, 0, 0, 0))).toArray (HM2.out.at_ 2 rfl) (by rw [infoCircle, List.size_toArray, cirL_len]) (by rw [List.size_toArray, List.size_toArray, cirL_len, cirL_len]) (cir_one _) ?_)
  obtain ⟨W3, hW3⟩ : ∃ W3, W3 = (w2.alloc (.cells #[.int .i64 0, .int .i64 0, .int .i64 0, .int .i64 0, .int .i64 0, .int .i64 0, .int .i64 0, .int .i64 0, .int .i64 0, .int .i64 0, .int .i64 0, .int .i64 0, .int .i64 0, .int .i64 0, .int .i64 0, .int .i64 0, .int .i64 0, .int .i64 0, .int .i64 0, .int .i64 0, .int .i64 0, .int .i64 0, .int .i64 0, .int .i64 0, .int .i64 0, .int .i64 0, .int .i64 0, .int .i64 0, .int .i64 0, .int .i64 0, .int .i64 0, .int .i64 0, .int .i64 0, .int .i64 0, .int .i64 0, .int .i64 0, .int .i64 0, .int .i64 0, .int .i64 0, .int .i64 0, .int .i64 0, .int .i64 0, .int .i64 0, .int .i64 0, .int .i64 0, .int .i64 0, .int .i64 0, .int .i64 0] 33)).setRow w2.heap.size (cirL C0).toArray := ⟨_, rfl⟩
  have hm3 := HM3.out
  rw [← hW3] at hm3 ⊢
  clear hW3 HM3 HM2
  have v0 := (hm3.at_ 1 rfl).cell 0
  have v1 := (hm3.at_ 1 rfl).cell 1
  simp only [List.getElem?_cons_succ, List.getElem?_cons_zero] at v0 v1
  obtain ⟨q0, q1, q2, q3⟩ := cir_cells (hm3.at_ 2 rfl) hk12
  have f0 := (hm3.at_ 2 rfl).frozen (k * 4)
  have f1 := (hm3.at_ 2 rfl).frozen (k * 4 + 1)
  have f2 := (hm3.at_ 2 rfl).frozen (k * 4 + 2)
  have f3 := (hm3.at_ 2 rfl).frozen (k * 4 + 3)
  have HM4 := Lib.hid (((hm3.put 2 rfl (k * 4) (.int .i64 x0)).put 2 rfl (k * 4 + 1) (.int .i64 x1)).cast (L' := [(w.heap.size, 26, plC n X d), (w.heap.size + 1, 29, [.int .i64 x0, .int .i64 x1]), (w2.heap.size, 33, cirL C)]) (by rw [HCE.out, ← (cirL_set2 C0 hk12 x0 x1).1]; rfl))
  clear hm3
  go_upto_region 7 with fail
  clear v0 v1 q0 q1 q2 q3 f0 f1 f2 f3
  go_wp2_with (refine wpList_load_row rfl 33 _ rfl (w2.heap.size) rfl 33 (cirL C).toArray (0, 0) _ (HM4.out.at_ 2 rfl) Tryz.underlying33 rfl (by rw [infoCircle, List.size_toArray, cirL_len]) ?_)
  refine (HLC.out _).mono ?_
  rintro e w5 ⟨rfl, hb5⟩
  have HM5 := Lib.hid (HM4.out.step hb5)
  clear hb5
  go_wp2_with (refine wpList_load_row rfl 33 _ rfl (w2.heap.size) rfl 33 (cirL C).toArray (0, 0) _ (HM5.out.at_ 2 rfl) Tryz.underlying33 rfl (by rw [infoCircle, List.size_toArray, cirL_len]) ?_)
  refine (HCK.out _).mono ?_
  rintro e w6 ⟨rfl, hb6⟩
  have HM6 := Lib.hid (HM5.out.step hb6)
  clear hb6
  by_cases h0 : c = 0
  · subst h0
    have HB := Lib.hid HM6.out.below
    go_wp2
    exact bodyPost_ret (v := .bool true) (by simp [results, Tryz.results6, go_sem]) rfl ⟨rfl, HB.out⟩
  · have hcz : (c == 0) = false := by simpa using h0
    have HXCL := Lib.hid (HCL.out h0)
    have HXRE := Lib.hid (HRE.out h0)
    have HXFI := Lib.hid (HFI.out h0)
    have HXNO := Lib.hid (HNO.out h0)
    have HXBE := Lib.hid (HBE.out h0)
    have HXPU := Lib.hid (HPU.out h0)
    have HXER := Lib.hid (HER.out h0)
    have HXWI := Lib.hid (HWI.out h0)
    have HXSA := Lib.hid (HSA.out h0)
    have hm7 := HM6.out.new 36 [.int .i64 0, .int .i64 0, .int .i64 0, .int .i64 0, .int .i64 0, .int .i64 0]
    simp only [List.nil_append, List.cons_append] at hm7
    have HM7 := Lib.hid hm7
    clear hm7 h0
    go_wp2_with (refine wpList_load_row rfl 33 _ rfl (w2.heap.size) rfl 33 (cirL C).toArray (0, 0) _ (HM7.out.at_ 2 rfl) Tryz.underlying33 rfl (by rw [infoCircle, List.size_toArray, cirL_len]) ?_)
    refine (HXCL.out _).mono ?_
    rintro e w7 ⟨rfl, hb⟩
    have HM8 := Lib.hid (HM7.out.step hb)
    clear hb
    go_wp2_with (refine wpList_load_row rfl 33 _ rfl (w2.heap.size) rfl 33 (cirL C).toArray (0, 0) _ (HM8.out.at_ 2 rfl) Tryz.underlying33 rfl (by rw [infoCircle, List.size_toArray, cirL_len]) ?_)
    refine (HXRE.out _).mono ?_
    rintro e w8 ⟨rfl, hb⟩
    have hmn := (HM8.out.step hb).new 36 [.int .i64 0, .int .i64 0, .int .i64 0, .int .i64 0, .int .i64 0, .int .i64 0]
    simp only [List.nil_append, List.cons_append] at hmn
    have HM9 := Lib.hid hmn
    clear hb hmn
    go_wp2_with (refine wpList_load_row rfl 33 _ rfl (w2.heap.size) rfl 33 (cirL C).toArray (0, 0) _ (HM9.out.at_ 2 rfl) Tryz.underlying33 rfl (by rw [infoCircle, List.size_toArray, cirL_len]) ?_)
    refine (HXFI.out _).mono ?_
    rintro e w9 ⟨rfl, hb⟩
    have hmn := (HM9.out.step hb).new 36 [.int .i64 0, .int .i64 0, .int .i64 0, .int .i64 0, .int .i64 0, .int .i64 0]
    simp only [List.nil_append, List.cons_append] at hmn
    have HM10 := Lib.hid hmn
    clear hb hmn
    go_wp2_with (refine wpList_load_row rfl 33 _ rfl (w2.heap.size) rfl 33 (cirL C).toArray (0, 0) _ (HM10.out.at_ 2 rfl) Tryz.underlying33 rfl (by rw [infoCircle, List.size_toArray, cirL_len]) ?_)
    refine (HXNO.out _).mono ?_
    rintro e w10 ⟨rfl, hb⟩
    have hmn := (HM10.out.step hb).new 36 [.int .i64 0, .int .i64 0, .int .i64 0, .int .i64 0, .int .i64 0, .int .i64 0]
    simp only [List.nil_append, List.cons_append] at hmn
    have HM11 := Lib.hid hmn
    clear hb hmn
    go_wp2_with (refine wpList_load_row rfl 33 _ rfl (w2.heap.size) rfl 33 (cirL C).toArray (0, 0) _ (HM11.out.at_ 2 rfl) Tryz.underlying33 rfl (by rw [infoCircle, List.size_toArray, cirL_len]) ?_)
    refine (HXBE.out _).mono ?_
    rintro e w11 ⟨rfl, hb⟩
    have hmn := (HM11.out.step hb).new 36 [.int .i64 0, .int .i64 0, .int .i64 0, .int .i64 0, .int .i64 0, .int .i64 0]
    simp only [List.nil_append, List.cons_append] at hmn
    have HM12 := Lib.hid hmn
    clear hb hmn
    obtain ⟨y0, y1, y2, y3, y4, y5⟩ := six_of (HM12.out.at_ 3 rfl)
    go_wp2_with (refine wpList_load_row rfl 33 _ rfl (w2.heap.size) rfl 33 (cirL C).toArray (0, 0) _ (HM12.out.at_ 2 rfl) Tryz.underlying33 rfl (by rw [infoCircle, List.size_toArray, cirL_len]) ?_)
    refine (HXPU.out _).mono ?_
    rintro e w12 ⟨rfl, hb⟩
    have HM13 := Lib.hid (HM12.out.step hb)
    clear hb
    clear y0 y1 y2 y3 y4 y5
    obtain ⟨y0, y1, y2, y3, y4, y5⟩ := six_of (HM13.out.at_ 3 rfl)
    go_wp2_with (refine wpList_load_row rfl 33 _ rfl (w2.heap.size) rfl 33 (cirL C).toArray (0, 0) _ (HM13.out.at_ 2 rfl) Tryz.underlying33 rfl (by rw [infoCircle, List.size_toArray, cirL_len]) ?_)
    refine (HXER.out _).mono ?_
    rintro e w13 ⟨rfl, hb⟩
    have hmn := (HM13.out.step hb).new 36 [.int .i64 0, .int .i64 0, .int .i64 0, .int .i64 0, .int .i64 0, .int .i64 0]
    simp only [List.nil_append, List.cons_append] at hmn
    have HM14 := Lib.hid hmn
    clear hb hmn
    clear y0 y1 y2 y3 y4 y5
    go_wp2_with (refine wpList_load_row rfl 33 _ rfl (w2.heap.size) rfl 33 (cirL C).toArray (0, 0) _ (HM14.out.at_ 2 rfl) Tryz.underlying33 rfl (by rw [infoCircle, List.size_toArray, cirL_len]) ?_)
    refine (HXWI.out _).mono ?_
    rintro e w14 ⟨rfl, hb⟩
    have HM15 := Lib.hid (HM14.out.step hb)
    clear hb
    go_wp2_with (refine wpList_load_row rfl 33 _ rfl (w2.heap.size) rfl 33 (cirL C).toArray (0, 0) _ (HM15.out.at_ 2 rfl) Tryz.underlying33 rfl (by rw [infoCircle, List.size_toArray, cirL_len]) ?_)
    refine (HXSA.out _).mono ?_
    rintro e w15 ⟨rfl, hb⟩
    have HM16 := Lib.hid (HM15.out.step hb)
    clear hb
    have hz := HM16.out
    obtain ⟨y30, y31, y32, y33, y34, y35⟩ := six_of (hz.at_ 3 rfl)
    obtain ⟨y40, y41, y42, y43, y44, y45⟩ := six_of (hz.at_ 4 rfl)
    obtain ⟨y50, y51, y52, y53, y54, y55⟩ := six_of (hz.at_ 5 rfl)
    obtain ⟨y60, y61, y62, y63, y64, y65⟩ := six_of (hz.at_ 6 rfl)
    obtain ⟨y70, y71, y72, y73, y74, y75⟩ := six_of (hz.at_ 7 rfl)
    obtain ⟨y80, y81, y82, y83, y84, y85⟩ := six_of (hz.at_ 8 rfl)
    have HB := Lib.hid hz.below
    clear hz
    go_wp2
    exact bodyPost_ret (v := .bool true) (by simp [results, Tryz.results6, go_sem]) rfl ⟨rfl, HB.out⟩
set_option maxRecDepth 1000000 in
set_option maxHeartbeats 4000000 in
theorem lchecks_odd (n d at' x0 x1 c : Int) (X : Nat → Int × Int) (C0 C : Nat → Tm) (k : Nat) (w : World) (ht : Tab w) (ha : 0 ≤ at' ∧ at' < 256) (he : at' % 2 = 1) (hk : at' / 2 % 12 = (k : Int)) (hC : cirL C = cirL (fun j => if j = k then ((C0 j).1, (C0 j).2.1, x0, x1) else C0 j))
    (hMK : ∀ W, Calls Tryz.prog 11 #[.agg (plC n X d).toArray] W fun e w' => e = .returned (.agg (cirL C0).toArray) ∧ Below W.heap.size W w')
    (hLC : ∀ W, Calls Tryz.prog 29 #[.agg (cirL C).toArray] W fun e w' => e = .returned (.int .i64 c) ∧ Below W.heap.size W w')
    (hCK : ∀ W, Calls Tryz.prog 30 #[.agg (cirL C).toArray] W fun e w' => e = .returned (.int .i64 c) ∧ Below W.heap.size W w')
    (hCL : c ≠ 0 → ∀ W, Calls Tryz.prog 13 #[.agg (cirL C).toArray] W fun e w' => e = .returned (.tuple #[.bool false, .int .i64 c]) ∧ Below W.heap.size W w')
    (hRE : c ≠ 0 → ∀ W, Calls Tryz.prog 12 #[.agg (cirL C).toArray] W fun e w' => e = .returned (.tuple #[szv 0 0 0 0 0 0, .int .i64 c]) ∧ Below W.heap.size W w')
    (hFI : c ≠ 0 → ∀ W, Calls Tryz.prog 14 #[.agg (cirL C).toArray, .int .i64 0] W fun e w' => e = .returned (.tuple #[szv 0 0 0 0 0 0, .int .i64 c]) ∧ Below W.heap.size W w')
    (hNO : c ≠ 0 → ∀ W, Calls Tryz.prog 31 #[.agg (cirL C).toArray, .int .i64 0] W fun e w' => e = .returned (.tuple #[szv 0 0 0 0 0 0, .int .i64 c]) ∧ Below W.heap.size W w')
    (hBE : c ≠ 0 → ∀ W, Calls Tryz.prog 22 #[.agg (cirL C).toArray, .int .i64 0, .int .i64 1] W fun e w' => e = .returned (.tuple #[szv 0 0 0 0 0 0, .int .i64 c]) ∧ Below W.heap.size W w')
    (hPU : c ≠ 0 → ∀ W, Calls Tryz.prog 32 #[.agg (cirL C).toArray, .int .i64 7, szv 0 0 0 0 0 0] W fun e w' => e = .returned (.tuple #[.slice none 0 0, .int .i64 c]) ∧ Below W.heap.size W w')
    (hER : c ≠ 0 → ∀ W, Calls Tryz.prog 33 #[.agg (cirL C).toArray, .int .i64 0, .int .i64 7, szv 0 0 0 0 0 0] W fun e w' => e = .returned (.tuple #[szv 0 0 0 0 0 0, .int .i64 c]) ∧ Below W.heap.size W w')
    (hWI : c ≠ 0 → ∀ W, Calls Tryz.prog 34 #[.agg (cirL C).toArray, .int .i64 7] W fun e w' => e = .returned (.tuple #[.int .i64 0, .int .i64 c]) ∧ Below W.heap.size W w')
    (hSA : c ≠ 0 → ∀ W, Calls Tryz.prog 35 #[.agg (cirL C).toArray, .agg (cirL C).toArray] W fun e w' => e = .returned (.tuple #[.bool false, .int .i64 c]) ∧ Below W.heap.size W w') :
    Calls Tryz.prog 6 #[.agg (plC n X d).toArray, .int .u8 at', .agg #[.int .i64 x0, .int .i64 x1]] w fun e w' => e = .returned (.bool true) ∧ Below w.heap.size w w' := by
  have HKN := Lib.hid (fun W hT => tknown_any W hT)
  have HT := Lib.hid ht
  have HMK := Lib.hid hMK
  have HLC := Lib.hid hLC
  have HCK := Lib.hid hCK
  have HCL := Lib.hid hCL
  have HRE := Lib.hid hRE
  have HFI := Lib.hid hFI
  have HNO := Lib.hid hNO
  have HBE := Lib.hid hBE
  have HPU := Lib.hid hPU
  have HER := Lib.hid hER
  have HWI := Lib.hid hWI
  have HSA := Lib.hid hSA
  obtain ⟨z, hz⟩ : ∃ z : Int, z = (k : Int) := ⟨_, rfl⟩
  have t2 : at'.tmod 2 = 1 := by rw [Int.tmod_eq_emod_of_nonneg ha.1, he]
  have td : at'.tdiv 2 = at' / 2 := Int.tdiv_eq_ediv_of_nonneg ha.1
  obtain ⟨u, hu⟩ : ∃ u : Int, u = at' / 2 := ⟨_, rfl⟩
  rw [← hu] at hk td
  have tz : u.tmod 12 = z := by rw [Int.tmod_eq_emod_of_nonneg (by omega), hk, hz]
  have wu : IntKind.u8.wrap u = u := by unfold IntKind.wrap; simp [IntKind.bits, IntKind.signed]; omega
  have wz : IntKind.u8.wrap z = z := by unfold IntKind.wrap; simp [IntKind.bits, IntKind.signed]; omega
  have hk12 : k < 12 := by omega
  have z0' : 0 ≤ z := by omega
  have z1' : z < 12 := by omega
  have hzk : z.toNat = k := by omega
  have HCE := Lib.hid hC
  clear ht ha he hk hC hz hu hMK hLC hCK hCL hRE hFI hNO hBE hPU hER hWI hSA
  have hm0 := ((Hp.start w).new 26 (plC n X d)).new 29 [.int .i64 x0, .int .i64 x1]
  simp only [World.size_alloc, List.nil_append, List.cons_append] at hm0
  have HM0 := Lib.hid hm0
  clear hm0
  go_enter Tryz.func6, Tryz.ntmps6
  go_wp2_with fail
  refine (HKN.out _ (HT.out.below HM0.out.below)).mono ?_
  rintro e w1 ⟨rfl, hb1⟩
  have HM1 := Lib.hid (HM0.out.step hb1)
  clear hb1
  go_wp2_with (refine wpList_load_row rfl 26 _ rfl (w.heap.size) rfl 26 (plC n X d).toArray (0, 0) _ (HM1.out.at_ 0 rfl) Tryz.underlying26 rfl (by rw [infoPlan41, List.size_toArray, pl_len]) ?_)
  refine (HMK.out _).mono ?_
  rintro e w2 ⟨rfl, hb2⟩
  have hm2 := (HM1.out.step hb2).new 33 (cirL (fun _ => (0, 0, 0, 0)))
  simp only [List.nil_append, List.cons_append] at hm2
  have HM2 := Lib.hid hm2
  have hm3 := (hm2.row 2 rfl (cirL C0)).cast (L' := [(w.heap.size, 26, plC n X d), (w.heap.size + 1, 29, [.int .i64 x0, .int .i64 x1]), (w2.heap.size, 33, cirL C0)]) rfl
  have HM3 : Hid (Hp w [(w.heap.size, 26, plC n X d), (w.heap.size + 1, 29, [.int .i64 x0, .int .i64 x1]), (w2.heap.size, 33, cirL C0)] ((w2.alloc (.cells #[.int .i64 0, .int .i64 0, .int .i64 0, .int .i64 0, .int .i64 0, .int .i64 0, .int .i64 0, .int .i64 0, .int .i64 0, .int .i64 0, .int .i64 0, .int .i64 0, .int .i64 0, .int .i64 0, .int .i64 0, .int .i64 0, .int .i64 0, .int .i64 0, .int .i64 0, .int .i64 0, .int .i64 0, .int .i64 0, .int .i64 0, .int .i64 0, .int .i64 0, .int .i64 0, .int .i64 0, .int .i64 0, .int .i64 0, .int .i64 0, .int .i64 0, .int .i64 0, .int .i64 0, .int .i64 0, .int .i64 0, .int .i64 0, .int .i64 0, .int .i64 0, .int .i64 0, .int .i64 0, .int .i64 0, .int .i64 0, .int .i64 0, .int .i64 0, .int .i64 0, .int .i64 0, .int .i64 0, .int .i64 0] 33)).setRow w2.heap.size (cirL C0).toArray)) := Lib.hid hm3
  clear hb2 hm2 hm3
  go_upto_region 6 with (refine wpList_store_rowTo rfl 33 _ _ rfl rfl (w2.heap.size) (cirL C0).toArray rfl rfl 33 (cirL (fun _ => (0, 0, 0, 0))).toArray (HM2.out.at_ 2 rfl) (by rw [infoCircle, List.size_toArray, cirL_len]) (by rw [List.size_toArray, List.size_toArray, cirL_len, cirL_len]) (cir_one _) ?_)
  obtain ⟨W3, hW3⟩ : ∃ W3, W3 = (w2.alloc (.cells #[.int .i64 0, .int .i64 0, .int .i64 0, .int .i64 0, .int .i64 0, .int .i64 0, .int .i64 0, .int .i64 0, .int .i64 0, .int .i64 0, .int .i64 0, .int .i64 0, .int .i64 0, .int .i64 0, .int .i64 0, .int .i64 0, .int .i64 0, .int .i64 0, .int .i64 0, .int .i64 0, .int .i64 0, .int .i64 0, .int .i64 0, .int .i64 0, .int .i64 0, .int .i64 0, .int .i64 0, .int .i64 0, .int .i64 0, .int .i64 0, .int .i64 0, .int .i64 0, .int .i64 0, .int .i64 0, .int .i64 0, .int .i64 0, .int .i64 0, .int .i64 0, .int .i64 0, .int .i64 0, .int .i64 0, .int .i64 0, .int .i64 0, .int .i64 0, .int .i64 0, .int .i64 0, .int .i64 0, .int .i64 0] 33)).setRow w2.heap.size (cirL C0).toArray := ⟨_, rfl⟩
  have hm3 := HM3.out
  rw [← hW3] at hm3 ⊢
  clear hW3 HM3 HM2
  have v0 := (hm3.at_ 1 rfl).cell 0
  have v1 := (hm3.at_ 1 rfl).cell 1
  simp only [List.getElem?_cons_succ, List.getElem?_cons_zero] at v0 v1
  obtain ⟨q0, q1, q2, q3⟩ := cir_cells (hm3.at_ 2 rfl) hk12
  have f0 := (hm3.at_ 2 rfl).frozen (k * 4)
  have f1 := (hm3.at_ 2 rfl).frozen (k * 4 + 1)
  have f2 := (hm3.at_ 2 rfl).frozen (k * 4 + 2)
  have f3 := (hm3.at_ 2 rfl).frozen (k * 4 + 3)
  have HM4 := Lib.hid (((hm3.put 2 rfl (k * 4 + 2) (.int .i64 x0)).put 2 rfl (k * 4 + 3) (.int .i64 x1)).cast (L' := [(w.heap.size, 26, plC n X d), (w.heap.size + 1, 29, [.int .i64 x0, .int .i64 x1]), (w2.heap.size, 33, cirL C)]) (by rw [HCE.out, ← (cirL_set2 C0 hk12 x0 x1).2]; rfl))
  clear hm3
  go_upto_region 7 with fail
  clear v0 v1 q0 q1 q2 q3 f0 f1 f2 f3
  go_wp2_with (refine wpList_load_row rfl 33 _ rfl (w2.heap.size) rfl 33 (cirL C).toArray (0, 0) _ (HM4.out.at_ 2 rfl) Tryz.underlying33 rfl (by rw [infoCircle, List.size_toArray, cirL_len]) ?_)
  refine (HLC.out _).mono ?_
  rintro e w5 ⟨rfl, hb5⟩
  have HM5 := Lib.hid (HM4.out.step hb5)
  clear hb5
  go_wp2_with (refine wpList_load_row rfl 33 _ rfl (w2.heap.size) rfl 33 (cirL C).toArray (0, 0) _ (HM5.out.at_ 2 rfl) Tryz.underlying33 rfl (by rw [infoCircle, List.size_toArray, cirL_len]) ?_)
  refine (HCK.out _).mono ?_
  rintro e w6 ⟨rfl, hb6⟩
  have HM6 := Lib.hid (HM5.out.step hb6)
  clear hb6
  by_cases h0 : c = 0
  · subst h0
    have HB := Lib.hid HM6.out.below
    go_wp2
    exact bodyPost_ret (v := .bool true) (by simp [results, Tryz.results6, go_sem]) rfl ⟨rfl, HB.out⟩
  · have hcz : (c == 0) = false := by simpa using h0
    have HXCL := Lib.hid (HCL.out h0)
    have HXRE := Lib.hid (HRE.out h0)
    have HXFI := Lib.hid (HFI.out h0)
    have HXNO := Lib.hid (HNO.out h0)
    have HXBE := Lib.hid (HBE.out h0)
    have HXPU := Lib.hid (HPU.out h0)
    have HXER := Lib.hid (HER.out h0)
    have HXWI := Lib.hid (HWI.out h0)
    have HXSA := Lib.hid (HSA.out h0)
    have hm7 := HM6.out.new 36 [.int .i64 0, .int .i64 0, .int .i64 0, .int .i64 0, .int .i64 0, .int .i64 0]
    simp only [List.nil_append, List.cons_append] at hm7
    have HM7 := Lib.hid hm7
    clear hm7 h0
    go_wp2_with (refine wpList_load_row rfl 33 _ rfl (w2.heap.size) rfl 33 (cirL C).toArray (0, 0) _ (HM7.out.at_ 2 rfl) Tryz.underlying33 rfl (by rw [infoCircle, List.size_toArray, cirL_len]) ?_)
    refine (HXCL.out _).mono ?_
    rintro e w7 ⟨rfl, hb⟩
    have HM8 := Lib.hid (HM7.out.step hb)
    clear hb
    go_wp2_with (refine wpList_load_row rfl 33 _ rfl (w2.heap.size) rfl 33 (cirL C).toArray (0, 0) _ (HM8.out.at_ 2 rfl) Tryz.underlying33 rfl (by rw [infoCircle, List.size_toArray, cirL_len]) ?_)
    refine (HXRE.out _).mono ?_
    rintro e w8 ⟨rfl, hb⟩
    have hmn := (HM8.out.step hb).new 36 [.int .i64 0, .int .i64 0, .int .i64 0, .int .i64 0, .int .i64 0, .int .i64 0]
    simp only [List.nil_append, List.cons_append] at hmn
    have HM9 := Lib.hid hmn
    clear hb hmn
    go_wp2_with (refine wpList_load_row rfl 33 _ rfl (w2.heap.size) rfl 33 (cirL C).toArray (0, 0) _ (HM9.out.at_ 2 rfl) Tryz.underlying33 rfl (by rw [infoCircle, List.size_toArray, cirL_len]) ?_)
    refine (HXFI.out _).mono ?_
    rintro e w9 ⟨rfl, hb⟩
    have hmn := (HM9.out.step hb).new 36 [.int .i64 0, .int .i64 0, .int .i64 0, .int .i64 0, .int .i64 0, .int .i64 0]
    simp only [List.nil_append, List.cons_append] at hmn
    have HM10 := Lib.hid hmn
    clear hb hmn
    go_wp2_with (refine wpList_load_row rfl 33 _ rfl (w2.heap.size) rfl 33 (cirL C).toArray (0, 0) _ (HM10.out.at_ 2 rfl) Tryz.underlying33 rfl (by rw [infoCircle, List.size_toArray, cirL_len]) ?_)
    refine (HXNO.out _).mono ?_
    rintro e w10 ⟨rfl, hb⟩
    have hmn := (HM10.out.step hb).new 36 [.int .i64 0, .int .i64 0, .int .i64 0, .int .i64 0, .int .i64 0, .int .i64 0]
    simp only [List.nil_append, List.cons_append] at hmn
    have HM11 := Lib.hid hmn
    clear hb hmn
    go_wp2_with (refine wpList_load_row rfl 33 _ rfl (w2.heap.size) rfl 33 (cirL C).toArray (0, 0) _ (HM11.out.at_ 2 rfl) Tryz.underlying33 rfl (by rw [infoCircle, List.size_toArray, cirL_len]) ?_)
    refine (HXBE.out _).mono ?_
    rintro e w11 ⟨rfl, hb⟩
    have hmn := (HM11.out.step hb).new 36 [.int .i64 0, .int .i64 0, .int .i64 0, .int .i64 0, .int .i64 0, .int .i64 0]
    simp only [List.nil_append, List.cons_append] at hmn
    have HM12 := Lib.hid hmn
    clear hb hmn
    obtain ⟨y0, y1, y2, y3, y4, y5⟩ := six_of (HM12.out.at_ 3 rfl)
    go_wp2_with (refine wpList_load_row rfl 33 _ rfl (w2.heap.size) rfl 33 (cirL C).toArray (0, 0) _ (HM12.out.at_ 2 rfl) Tryz.underlying33 rfl (by rw [infoCircle, List.size_toArray, cirL_len]) ?_)
    refine (HXPU.out _).mono ?_
    rintro e w12 ⟨rfl, hb⟩
    have HM13 := Lib.hid (HM12.out.step hb)
    clear hb
    clear y0 y1 y2 y3 y4 y5
    obtain ⟨y0, y1, y2, y3, y4, y5⟩ := six_of (HM13.out.at_ 3 rfl)
    go_wp2_with (refine wpList_load_row rfl 33 _ rfl (w2.heap.size) rfl 33 (cirL C).toArray (0, 0) _ (HM13.out.at_ 2 rfl) Tryz.underlying33 rfl (by rw [infoCircle, List.size_toArray, cirL_len]) ?_)
    refine (HXER.out _).mono ?_
    rintro e w13 ⟨rfl, hb⟩
    have hmn := (HM13.out.step hb).new 36 [.int .i64 0, .int .i64 0, .int .i64 0, .int .i64 0, .int .i64 0, .int .i64 0]
    simp only [List.nil_append, List.cons_append] at hmn
    have HM14 := Lib.hid hmn
    clear hb hmn
    clear y0 y1 y2 y3 y4 y5
    go_wp2_with (refine wpList_load_row rfl 33 _ rfl (w2.heap.size) rfl 33 (cirL C).toArray (0, 0) _ (HM14.out.at_ 2 rfl) Tryz.underlying33 rfl (by rw [infoCircle, List.size_toArray, cirL_len]) ?_)
    refine (HXWI.out _).mono ?_
    rintro e w14 ⟨rfl, hb⟩
    have HM15 := Lib.hid (HM14.out.step hb)
    clear hb
    go_wp2_with (refine wpList_load_row rfl 33 _ rfl (w2.heap.size) rfl 33 (cirL C).toArray (0, 0) _ (HM15.out.at_ 2 rfl) Tryz.underlying33 rfl (by rw [infoCircle, List.size_toArray, cirL_len]) ?_)
    refine (HXSA.out _).mono ?_
    rintro e w15 ⟨rfl, hb⟩
    have HM16 := Lib.hid (HM15.out.step hb)
    clear hb
    have hz := HM16.out
    obtain ⟨y30, y31, y32, y33, y34, y35⟩ := six_of (hz.at_ 3 rfl)
    obtain ⟨y40, y41, y42, y43, y44, y45⟩ := six_of (hz.at_ 4 rfl)
    obtain ⟨y50, y51, y52, y53, y54, y55⟩ := six_of (hz.at_ 5 rfl)
    obtain ⟨y60, y61, y62, y63, y64, y65⟩ := six_of (hz.at_ 6 rfl)
    obtain ⟨y70, y71, y72, y73, y74, y75⟩ := six_of (hz.at_ 7 rfl)
    obtain ⟨y80, y81, y82, y83, y84, y85⟩ := six_of (hz.at_ 8 rfl)
    have HB := Lib.hid hz.below
    clear hz
    go_wp2
    exact bodyPost_ret (v := .bool true) (by simp [results, Tryz.results6, go_sem]) rfl ⟨rfl, HB.out⟩
theorem lchecks_any (n d at' x0 x1 : Int) (X : Nat → Int × Int) (w : World) (ht : Tab w) (hn : 0 ≤ n ∧ n < 256) (hd : 0 ≤ d ∧ d < 256) (hX : ∀ i, i < 12 → (-128 ≤ (X i).1 ∧ (X i).1 ≤ 127) ∧ (-128 ≤ (X i).2 ∧ (X i).2 ≤ 127)) (ha : 0 ≤ at' ∧ at' < 256) (i0 : I64 x0) (i1 : I64 x1) :
    Calls Tryz.prog 6 #[.agg (plC n X d).toArray, .int .u8 at', .agg #[.int .i64 x0, .int .i64 x1]] w fun e w' => e = .returned (.bool true) ∧ Below w.heap.size w w' := by
  have h := pl_pln n d X
  have hMK := fun W => lMake_any n d X W hn hd hX
  have h64 := plan_tm h
  generalize cirP (plD n d) (plP n X) (plQ n X) = C0 at *
  obtain ⟨k, hk⟩ : ∃ k : Nat, at' / 2 % 12 = (k : Int) := ⟨(at' / 2 % 12).toNat, by omega⟩
  have fin : ∀ C : Nat → Tm, (∀ i, i < 12 → Tm64 (C i)) → (ckE C ≠ 0 → (ixE C 0 = ckE C ∧ abE C 7 = ckE C)) := fun C _ h => ⟨by unfold ixE; rw [if_pos h], by unfold abE; rw [if_pos h]⟩
  by_cases he : at' % 2 = 0
  · have hC : ∀ i, i < 12 → Tm64 ((fun j => if j = k then (x0, x1, (C0 j).2.2.1, (C0 j).2.2.2) else C0 j) i) := fun i hi => by
      show Tm64 (if i = k then (x0, x1, (C0 i).2.2.1, (C0 i).2.2.2) else C0 i)
      split
      · exact ⟨⟨i0, i1⟩, (h64 i hi).2⟩
      · exact h64 i hi
    generalize hCe : (fun j => if j = k then (x0, x1, (C0 j).2.2.1, (C0 j).2.2.2) else C0 j) = C at hC
    have e1 := fun h => (fin C hC h).1
    have e2 := fun h => (fin C hC h).2
    exact lchecks_even n d at' x0 x1 (ckE C) X C0 C k w ht ha he hk (by rw [hCe]) hMK (fun W => lcheck_any C W) (fun W => tcheck_any C W hC)
      (fun h W => tcloses_err C W hC h) (fun h W => trest_err C W hC h) (fun h W => by have := tFifth_err C 0 W hC (by rw [e1 h]; exact h); rwa [e1 h] at this) (fun h W => by have := tNote_err C 0 W hC (by rw [e1 h]; exact h); rwa [e1 h] at this) (fun h W => tBetween_err C 0 1 W hC h) (fun h W => by have := tPure_err C 7 0 0 0 0 0 0 W hC (by rw [e2 h]; exact h); rwa [e2 h] at this) (fun h W => by have := tError_err C 7 0 0 0 0 0 0 0 W hC (by rw [e2 h]; exact h); rwa [e2 h] at this) (fun h W => by have := tWidest_err C 7 W hC (by rw [e2 h]; exact h); rwa [e2 h] at this) (fun h W => tSame_err C C W hC h)
  · have hC : ∀ i, i < 12 → Tm64 ((fun j => if j = k then ((C0 j).1, (C0 j).2.1, x0, x1) else C0 j) i) := fun i hi => by
      show Tm64 (if i = k then ((C0 i).1, (C0 i).2.1, x0, x1) else C0 i)
      split
      · exact ⟨(h64 i hi).1, i0, i1⟩
      · exact h64 i hi
    generalize hCe : (fun j => if j = k then ((C0 j).1, (C0 j).2.1, x0, x1) else C0 j) = C at hC
    have e1 := fun h => (fin C hC h).1
    have e2 := fun h => (fin C hC h).2
    exact lchecks_odd n d at' x0 x1 (ckE C) X C0 C k w ht ha (by omega) hk (by rw [hCe]) hMK (fun W => lcheck_any C W) (fun W => tcheck_any C W hC)
      (fun h W => tcloses_err C W hC h) (fun h W => trest_err C W hC h) (fun h W => by have := tFifth_err C 0 W hC (by rw [e1 h]; exact h); rwa [e1 h] at this) (fun h W => by have := tNote_err C 0 W hC (by rw [e1 h]; exact h); rwa [e1 h] at this) (fun h W => tBetween_err C 0 1 W hC h) (fun h W => by have := tPure_err C 7 0 0 0 0 0 0 W hC (by rw [e2 h]; exact h); rwa [e2 h] at this) (fun h W => by have := tError_err C 7 0 0 0 0 0 0 0 W hC (by rw [e2 h]; exact h); rwa [e2 h] at this) (fun h W => by have := tWidest_err C 7 W hC (by rw [e2 h]; exact h); rwa [e2 h] at this) (fun h W => tSame_err C C W hC h)
end Go.Proofs.YtlmheeommpbimaaGreatDoor
