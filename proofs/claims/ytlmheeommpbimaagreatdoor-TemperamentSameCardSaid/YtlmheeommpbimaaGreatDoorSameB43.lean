/- Part 43 of 44 of the proof of the law: contracts of the functions that it reaches, and plain facts. Conditions: those that each contract names. -/
import Derived.Test.YtlmheeommpbimaaGreatDoorSameB35
import Derived.Great.CaseRows
import Derived.Great.BuildSlice
import Derived.RegionTactic
import Derived.Deep.DeepCutAuto
import Derived.Test.YtlmheeommpbimaaGreatDoorSameB42
import Derived.Test.YtlmheeommpbimaaGreatDoorSameB38
import Derived.Test.YtlmheeommpbimaaGreatDoorSameB39
namespace Go.Proofs.YtlmheeommpbimaaGreatDoor
open Go.RowKit
def twoC (C B : Nat → Tm) : List Value := ([.agg (cirL C).toArray, .agg (cirL B).toArray] : List Value).flatMap fun v => v.cells.toList
theorem two_at (C B : Nat → Tm) {W : World} {g : Nat} {t : TypeId} (h : Blk W g t (twoC C B)) : W.rangeAt g 0 (cirL C) := fun j v hv => by
 have hj : j < (cirL C).length := (List.getElem?_eq_some_iff.1 hv).1
 show W.cell? ⟨g, 0 + j, none⟩ = _
 rw [h.cell, ← hv, Nat.zero_add]
 show (cirL C ++ _)[j]? = _
 exact List.getElem?_append_left hj
def alB (E : Nat → Bool) (n : Nat) : Bool := (List.range n).all E
theorem alB_succ (E : Nat → Bool) (n : Nat) : alB E (n + 1) = (alB E n && E n) := by
 unfold alB
 rw [List.range_succ, List.all_append]
 simp
theorem two_at2 (C B : Nat → Tm) {W : World} {g : Nat} {t : TypeId} (h : Blk W g t (twoC C B)) : W.rangeAt g 48 (cirL B) := fun j v hv => by
 show W.cell? ⟨g, 48 + j, none⟩ = _
 rw [h.cell, ← hv]
 show (cirL C ++ (cirL B ++ []))[48 + j]? = _
 rw [List.append_nil, List.getElem?_append_right (by rw [cirL_len]; omega), cirL_len, Nat.add_sub_cancel_left]
set_option maxRecDepth 1000000 in
set_option maxHeartbeats 4000000 in
theorem tSame_gen (C B : Nat → Tm) (a0 a1 a2 a3 a4 a5 b0 b1 b2 b3 b4 b5 : Nat → Int) (E : Nat → Bool) (w : World) (ht : Tab w) (hC : ∀ i, i < 12 → Tm64 (C i)) (hB : ∀ i, i < 12 → Tm64 (B i)) (hkC : ckE C = 0) (hkB : ckE B = 0)
  (hN : ∀ (k : Nat) (W : World), k < 12 → Tab W → Calls Tryz.prog 70 #[.agg (cirL C).toArray, .int .i64 (k : Int)] W fun e w' => e = .returned (.tuple #[szv (a0 k) (a1 k) (a2 k) (a3 k) (a4 k) (a5 k), .int .i64 0]) ∧ Below W.heap.size W w')
  (hM : ∀ (k : Nat) (W : World), k < 12 → Tab W → Calls Tryz.prog 70 #[.agg (cirL B).toArray, .int .i64 (k : Int)] W fun e w' => e = .returned (.tuple #[szv (b0 k) (b1 k) (b2 k) (b3 k) (b4 k) (b5 k), .int .i64 0]) ∧ Below W.heap.size W w')
  (he : ∀ k : Nat, k < 12 → E k = eqZ (a0 k) (a1 k) (a2 k) (a3 k) (a4 k) (a5 k) (b0 k) (b1 k) (b2 k) (b3 k) (b4 k) (b5 k)) :
  Calls Tryz.prog 35 #[.agg (cirL C).toArray, .agg (cirL B).toArray] w fun e w' => e = .returned (.tuple #[.bool (alB E 12), .int .i64 0]) ∧ Below w.heap.size w w' := by
 have hck := fun W => tcheck_any C W hC
 rw [hkC] at hck
 have HCK := Lib.hid hck
 have hcl := fun W => tcheck_any B W hB
 rw [hkB] at hcl
 have HCL := Lib.hid hcl
 have HN := Lib.hid hN
 have HM := Lib.hid hM
 have HE := Lib.hid he
 have HT := Lib.hid ht
 clear hck hcl hkC hkB hC hB hN hM he ht
 have hm0 := ((Hp.start w).new 33 (cirL C)).new 33 (cirL B)
 simp only [World.size_alloc, List.nil_append, List.cons_append] at hm0
 have HM0 := Lib.hid hm0
 have hm1 := hm0.new 33 (twoC C B)
 simp only [World.size_alloc, List.nil_append, List.cons_append] at hm1
 have HM1 := Lib.hid hm1
 have HTC := Lib.hid (fun (W : World) (g : Nat) (t : TypeId) (h : Blk W g t (twoC C B)) => two_at C B h)
 have HTD := Lib.hid (fun (W : World) (g : Nat) (t : TypeId) (h : Blk W g t (twoC C B)) => two_at2 C B h)
 clear hm0 hm1
 go_enter Tryz.func35, Tryz.ntmps35
 go_upto_region 1 with fail
 go_step
 refine wpList_load_row rfl 33 _ rfl (w.heap.size) rfl 33 (cirL C).toArray (0, 0) _ (HM0.out.at_ 0 rfl) Tryz.underlying33 rfl (by rw [infoCircle, List.size_toArray, cirL_len]) ?_
 refine wpList_load_row rfl 33 _ rfl (w.heap.size + 1) rfl 33 (cirL B).toArray (0, 0) _ (HM0.out.at_ 1 rfl) Tryz.underlying33 rfl (by rw [infoCircle, List.size_toArray, cirL_len]) ?_
 refine Great.wpList_buildRows rfl 110 33 _ 48 ([.agg (cirL C).toArray, .agg (cirL B).toArray] : List Value) rfl (fun i => 14 + i) (w.heap.size + 1 + 1) (by simp) (some 16) rfl Tryz.underlying110 infoCircle (by kernel_rfl) (by decide) (by simp) (by simp) rfl (fun v hv => by simp only [List.mem_cons, List.not_mem_nil, or_false] at hv; rcases hv with rfl | rfl <;> exact cirL_len _) (fun i h => by match i, h with | 0, _ => rfl | 1, _ => rfl) ?_
 rw [show (([.agg (cirL C).toArray, .agg (cirL B).toArray] : List Value).flatMap fun v => v.cells.toList) = twoC C B from rfl]
 generalize twoC C B = TC at *
 go_wp2_with fail
 go_loopw [18] (fun v W => ∃ k : Nat, k ≤ 2 ∧ v = .int .i64 (k : Int) ∧ Hp w [(w.heap.size, 33, cirL C), (w.heap.size + 1, 33, cirL B), (w.heap.size + 1 + 1, 33, TC)] W) (fun v _ => 2 - (intOf v).toNat)
 case atStart => exact ⟨0, by omega, rfl, HM1.out⟩
 case round =>
  obtain ⟨k, hk, rfl, hm⟩ := hrel
  have HA := Lib.hid hm
  have hm2 := hm.new 33 (cirL (fun _ => (0, 0, 0, 0)))
  simp only [List.nil_append, List.cons_append] at hm2
  have HB := Lib.hid hm2
  rcases (show k = 0 ∨ k = 1 ∨ k = 2 by omega) with rfl | rfl | rfl
  ·have hm3 := (hm2.row 3 rfl (cirL C)).cast (L' := [(w.heap.size, 33, cirL C), (w.heap.size + 1, 33, cirL B), (w.heap.size + 1 + 1, 33, TC), (wr.heap.size, 33, cirL C)]) rfl
   have HCc := Lib.hid hm3
   clear hm hm2 hm3
   go_wp2_with (first
    | (refine wpList_load_mid rfl 33 _ rfl (w.heap.size + 1 + 1) 0 rfl (cirL C) _ (HTC.out _ _ _ (HA.out.at_ 2 rfl)) Tryz.underlying33 rfl (by rw [infoCircle, cirL_len]) ?_)
    | (refine wpList_store_rowTo rfl 33 _ _ rfl rfl wr.heap.size (cirL C).toArray rfl rfl 33 (cirL (fun _ => (0, 0, 0, 0))).toArray (HB.out.at_ 3 rfl) (by rw [infoCircle, List.size_toArray, cirL_len]) (by rw [List.size_toArray, List.size_toArray, cirL_len, cirL_len]) (cir_one _) ?_)
    | (refine wpList_load_row rfl 33 _ rfl (wr.heap.size) rfl 33 (cirL C).toArray (0, 0) _ (HCc.out.at_ 3 rfl) Tryz.underlying33 rfl (by rw [infoCircle, List.size_toArray, cirL_len]) ?_))
   refine (HCK.out _).mono ?_
   rintro e w1 ⟨rfl, hb1⟩
   have HQ := Lib.hid ((HCc.out.step hb1).sub (L' := [(w.heap.size, 33, cirL C), (w.heap.size + 1, 33, cirL B), (w.heap.size + 1 + 1, 33, TC)]) (by simp))
   clear hb1
   go_wp2
   go_roundw
   case rel => exact ⟨1, by omega, rfl, HQ.out⟩
   case measure => simp [intOf]
  ·have hm3 := (hm2.row 3 rfl (cirL B)).cast (L' := [(w.heap.size, 33, cirL C), (w.heap.size + 1, 33, cirL B), (w.heap.size + 1 + 1, 33, TC), (wr.heap.size, 33, cirL B)]) rfl
   have HCc := Lib.hid hm3
   clear hm hm2 hm3
   go_wp2_with (first
    | (refine wpList_load_mid rfl 33 _ rfl (w.heap.size + 1 + 1) 48 rfl (cirL B) _ (HTD.out _ _ _ (HA.out.at_ 2 rfl)) Tryz.underlying33 rfl (by rw [infoCircle, cirL_len]) ?_)
    | (refine wpList_store_rowTo rfl 33 _ _ rfl rfl wr.heap.size (cirL B).toArray rfl rfl 33 (cirL (fun _ => (0, 0, 0, 0))).toArray (HB.out.at_ 3 rfl) (by rw [infoCircle, List.size_toArray, cirL_len]) (by rw [List.size_toArray, List.size_toArray, cirL_len, cirL_len]) (cir_one _) ?_)
    | (refine wpList_load_row rfl 33 _ rfl (wr.heap.size) rfl 33 (cirL B).toArray (0, 0) _ (HCc.out.at_ 3 rfl) Tryz.underlying33 rfl (by rw [infoCircle, List.size_toArray, cirL_len]) ?_))
   refine (HCL.out _).mono ?_
   rintro e w1 ⟨rfl, hb1⟩
   have HQ := Lib.hid ((HCc.out.step hb1).sub (L' := [(w.heap.size, 33, cirL C), (w.heap.size + 1, 33, cirL B), (w.heap.size + 1 + 1, 33, TC)]) (by simp))
   clear hb1
   go_wp2
   go_roundw
   case rel => exact ⟨2, by omega, rfl, HQ.out⟩
   case measure => simp [intOf]
  ·clear hm hm2 hk
   rw [show ((2 : Nat) : Int) = 2 from rfl]
   go_wp2_with fail
   go_loopw [9, 28] (fun u v W => ∃ k : Nat, k ≤ 12 ∧ v = .int .i64 (k : Int) ∧ u = .bool (alB E k) ∧ Hp w [(w.heap.size, 33, cirL C), (w.heap.size + 1, 33, cirL B), (w.heap.size + 1 + 1, 33, TC)] W) (fun _ v _ => 12 - (intOf v).toNat)
   case atStart => exact ⟨0, by omega, rfl, rfl, HA.out⟩
   case round =>
    obtain ⟨k, hk, rfl, rfl, hm⟩ := hrel
    have HMR := Lib.hid hm
    clear hm
    by_cases hlt : k < 12
    ·have HNK := Lib.hid (fun W hT => HN.out k W hlt hT)
     have HOK := Lib.hid (fun W hT => HM.out k W hlt hT)
     have heq := HE.out k hlt
     have HAS := Lib.hid (alB_succ E k)
     obtain ⟨z, hz⟩ : ∃ z : Int, z = (k : Int) := ⟨_, rfl⟩
     rw [← hz] at HNK HOK
     obtain ⟨ek, hek⟩ : ∃ x, x = E k := ⟨_, rfl⟩
     obtain ⟨sk, hsk⟩ : ∃ x, x = alB E k := ⟨_, rfl⟩
     obtain ⟨p0, hp0⟩ : ∃ x, x = a0 k := ⟨_, rfl⟩
     obtain ⟨q0, hq0⟩ : ∃ x, x = b0 k := ⟨_, rfl⟩
     obtain ⟨p1, hp1⟩ : ∃ x, x = a1 k := ⟨_, rfl⟩
     obtain ⟨q1, hq1⟩ : ∃ x, x = b1 k := ⟨_, rfl⟩
     obtain ⟨p2, hp2⟩ : ∃ x, x = a2 k := ⟨_, rfl⟩
     obtain ⟨q2, hq2⟩ : ∃ x, x = b2 k := ⟨_, rfl⟩
     obtain ⟨p3, hp3⟩ : ∃ x, x = a3 k := ⟨_, rfl⟩
     obtain ⟨q3, hq3⟩ : ∃ x, x = b3 k := ⟨_, rfl⟩
     obtain ⟨p4, hp4⟩ : ∃ x, x = a4 k := ⟨_, rfl⟩
     obtain ⟨q4, hq4⟩ : ∃ x, x = b4 k := ⟨_, rfl⟩
     obtain ⟨p5, hp5⟩ : ∃ x, x = a5 k := ⟨_, rfl⟩
     obtain ⟨q5, hq5⟩ : ∃ x, x = b5 k := ⟨_, rfl⟩
     rw [← hp0, ← hp1, ← hp2, ← hp3, ← hp4, ← hp5] at HNK heq
     rw [← hq0, ← hq1, ← hq2, ← hq3, ← hq4, ← hq5] at HOK heq
     rw [← hek] at heq HAS
     rw [← hsk] at HAS
     have HEQ := Lib.hid heq
     have HZ := Lib.hid hz
     have hz12 : 0 ≤ z ∧ z < 12 := by omega
     rw [← hsk, ← hz]
     clear hz heq hek hsk hp0 hp1 hp2 hp3 hp4 hp5 hq0 hq1 hq2 hq3 hq4 hq5
     go_wp2_with (refine wpList_load_row rfl 33 _ rfl (w.heap.size) rfl 33 (cirL C).toArray (0, 0) _ (HMR.out.at_ 0 rfl) Tryz.underlying33 rfl (by rw [infoCircle, List.size_toArray, cirL_len]) ?_)
     refine (HNK.out _ (HT.out.below HMR.out.below)).mono ?_
     rintro e w5 ⟨rfl, hb5⟩
     have hm7 := (HMR.out.step hb5).new 36 [.int .i64 p0, .int .i64 p1, .int .i64 p2, .int .i64 p3, .int .i64 p4, .int .i64 p5]
     simp only [List.nil_append, List.cons_append] at hm7
     have HM7 := Lib.hid hm7
     clear hb5 hm7
     go_wp2_with (refine wpList_load_row rfl 33 _ rfl (w.heap.size + 1) rfl 33 (cirL B).toArray (0, 0) _ (HM7.out.at_ 1 rfl) Tryz.underlying33 rfl (by rw [infoCircle, List.size_toArray, cirL_len]) ?_)
     refine (HOK.out _ (HT.out.below HM7.out.below)).mono ?_
     rintro e w6 ⟨rfl, hb6⟩
     have hm8 := (HM7.out.step hb6).new 36 [.int .i64 q0, .int .i64 q1, .int .i64 q2, .int .i64 q3, .int .i64 q4, .int .i64 q5]
     simp only [List.nil_append, List.cons_append] at hm8
     have HM8 := Lib.hid (hm8.sub (L' := [(w.heap.size, 33, cirL C), (w.heap.size + 1, 33, cirL B), (w.heap.size + 1 + 1, 33, TC)]) (by simp))
     obtain ⟨x0, x1, x2, x3, x4, x5⟩ := six_of (hm8.at_ 3 rfl)
     obtain ⟨y0, y1, y2, y3, y4, y5⟩ := six_of (hm8.at_ 4 rfl)
     clear hb6 hm8
     cases sk with
     | false =>
      have hr : alB E (k + 1) = false := by rw [HAS.out]; rfl
      have HRR := Lib.hid hr
      clear hr
      go_wp2_with fail
      go_roundw
      case rel => exact ⟨k + 1, by omega, by rw [HZ.out]; go_num, by rw [HRR.out], HM8.out⟩
      case measure => simp [intOf]; have := HZ.out; omega
     | true =>
      have hr : alB E (k + 1) = eqZ p0 p1 p2 p3 p4 p5 q0 q1 q2 q3 q4 q5 := by rw [HAS.out, HEQ.out]; rfl
      have HRR := Lib.hid hr
      clear hr
      go_wp2_with (rw [eqZ_run])
      go_roundw
      case rel => exact ⟨k + 1, by omega, by rw [HZ.out]; go_num, by rw [HRR.out], HM8.out⟩
      case measure => simp [intOf]; have := HZ.out; omega
    ·obtain rfl : k = 12 := by omega
     have HQ := Lib.hid HMR.out.below
     clear hk hlt
     go_wp2
     exact bodyPost_ret (v := .tuple #[.bool (alB E 12), .int .i64 0]) (by simp [results, Tryz.results35, go_sem]) rfl ⟨rfl, HQ.out⟩
theorem step_load_row {P : Program} {ops : Array Oper} {o : Oper} {a : Act} {w : World} {K : Act → World → Prop} {Q : Exit → Act → World → Prop} {E : Prop} (hgd : o.guard = none) (ty : TypeId) (x : Operand) (ho : o.op = .load ty x)
  (g : Nat) (hx : a.eval x = .pointer (some ⟨g, 0, none⟩)) (t : TypeId) (cs : Array Value) (fr : Nat × Nat) (d : TypeDesc) (hg : w.heap[g]? = some (.cells cs t fr))
  (hu : P.underlying ty = some d) (hd : (match d with | .struct _ | .array _ _ => true | _ => false) = true) (hi : (P.info? ty).map (·.size) = some cs.size)
  (h : K (a.put o.dst (.agg cs)) w) : if Region.wanted o (yielded ops a.tmps) = true then Oper.wp P o a w K Q else E := by
 have hw : Region.wanted o (yielded ops a.tmps) = true := by simp [Region.wanted, hgd]
 rw [if_pos hw]
 exact wp_load_row ty x ho g hx t cs fr d hg hu hd hi h
theorem known_succ {L M : Nat → Bool} {k : Nat} (h : ∀ j, j < k → L j = true ∧ M j = true) (h1 : true = L k) (h2 : true = M k) (j : Nat) (hj : j < k + 1) : L j = true ∧ M j = true := by
 rcases (show j < k ∨ j = k by omega) with hj | rfl
 ·exact h j hj
 ·exact ⟨h1.symm, h2.symm⟩
theorem box_ins {w W : World} {L : List (Nat × TypeId × List Value)} {t : TypeId} {z c z2 c2 : List Value} {m5 m7 : Bool} {g1 g2 : Nat} {t2 : TypeId} (h : Hp w ((L ++ cl false (g1, t, bif false then c else z)) ++ cl m5 (g2, t2, bif m7 then c2 else z2)) W) :
  Hp w ((L ++ cl true (W.heap.size, t, bif false then c else z)) ++ cl m5 (g2, t2, bif m7 then c2 else z2)) (W.alloc (.cells z.toArray t)) := by
 have h2 : Hp w (L ++ cl m5 (g2, t2, bif m7 then c2 else z2)) W := by simpa only [cl, cond_false, List.append_nil] using h
 have := h2.ins t z
 simpa only [cl, cond_false, cond_true, List.append_assoc, List.singleton_append] using this
theorem box_new {w W : World} {L : List (Nat × TypeId × List Value)} {t : TypeId} {z c : List Value} {g2 : Nat} (h : Hp w (L ++ cl false (g2, t, bif false then c else z)) W) :
  Hp w (L ++ cl true (W.heap.size, t, bif false then c else z)) (W.alloc (.cells z.toArray t)) := by
 have h2 : Hp w L W := by simpa only [cl, cond_false, List.append_nil] using h
 exact h2.new t z
set_option maxRecDepth 1000000 in
set_option maxHeartbeats 4000000 in
theorem lsame_gen (n d n' d' : Int) (X X' : Nat → Int × Int) (C B : Nat → Tm) (p0 p1 p2 p3 q0 q1 q2 q3 a0 a1 a2 a3 a4 a5 b0 b1 b2 b3 b4 b5 : Nat → Int) (L M E : Nat → Bool) (w : World) (ht : Tab w)
  (hMK : ∀ W, Calls Tryz.prog 11 #[.agg (plC n X d).toArray] W fun e w' => e = .returned (.agg (cirL C).toArray) ∧ Below W.heap.size W w')
  (hML : ∀ W, Calls Tryz.prog 11 #[.agg (plC n' X' d').toArray] W fun e w' => e = .returned (.agg (cirL B).toArray) ∧ Below W.heap.size W w')
  (hSA : ∀ W, Tab W → Calls Tryz.prog 35 #[.agg (cirL C).toArray, .agg (cirL B).toArray] W fun e w' => e = .returned (.tuple #[.bool (alB E 12), .int .i64 0]) ∧ Below W.heap.size W w')
  (hLN : ∀ (k : Nat) W, k < 12 → Tab W → Calls Tryz.prog 36 #[.agg (cirL C).toArray, .int .i64 (k : Int)] W fun e w' => e = .returned (.tuple #[ovv (p0 k) (p1 k) (p2 k) (p3 k), .bool (L k)]) ∧ Below W.heap.size W w')
  (hLM : ∀ (k : Nat) W, k < 12 → Tab W → Calls Tryz.prog 36 #[.agg (cirL B).toArray, .int .i64 (k : Int)] W fun e w' => e = .returned (.tuple #[ovv (q0 k) (q1 k) (q2 k) (q3 k), .bool (M k)]) ∧ Below W.heap.size W w')
  (hSX : ∀ (k : Nat) W, k < 12 → L k = true → Calls Tryz.prog 16 #[ovv (p0 k) (p1 k) (p2 k) (p3 k)] W fun e w' => e = .returned (szv (a0 k) (a1 k) (a2 k) (a3 k) (a4 k) (a5 k)) ∧ Below W.heap.size W w')
  (hSY : ∀ (k : Nat) W, k < 12 → M k = true → Calls Tryz.prog 16 #[ovv (q0 k) (q1 k) (q2 k) (q3 k)] W fun e w' => e = .returned (szv (b0 k) (b1 k) (b2 k) (b3 k) (b4 k) (b5 k)) ∧ Below W.heap.size W w')
  (he : ∀ k : Nat, k < 12 → E k = eqZ (a0 k) (a1 k) (a2 k) (a3 k) (a4 k) (a5 k) (b0 k) (b1 k) (b2 k) (b3 k) (b4 k) (b5 k)) :
  Calls Tryz.prog 8 #[.agg (plC n X d).toArray, .agg (plC n' X' d').toArray] w fun e w' => e = .returned (.bool true) ∧ Below w.heap.size w w' := by
 have HKN := Lib.hid (fun W hT => tknown_any W hT)
 have HT := Lib.hid ht
 have HE := Lib.hid he
 have HMK := Lib.hid hMK
 have HML := Lib.hid hML
 have HSA := Lib.hid hSA
 have HLN := Lib.hid hLN
 have HLM := Lib.hid hLM
 have HSX := Lib.hid hSX
 have HSY := Lib.hid hSY
 clear ht he hMK hML hSA hLN hLM hSX hSY
 have hm0 := ((Hp.start w).new 26 (plC n X d)).new 26 (plC n' X' d')
 simp only [World.size_alloc, List.nil_append, List.cons_append] at hm0
 have HM0 := Lib.hid hm0
 clear hm0
 go_enter Tryz.func8, Tryz.ntmps8
 go_wp2_with fail
 refine (HKN.out _ (HT.out.below HM0.out.below)).mono ?_
 rintro e w1 ⟨rfl, hb1⟩
 have HM1 := Lib.hid (HM0.out.step hb1)
 clear hb1
 go_upto_region 3 with fail
 refine wp_regionJ 8 #[false, false, false, false, false, false, false, false] (fun l a W => ∃ (m0 m1 m2 m3 m4 m5 m6 m7 : Bool) (g1 : Nat) (g2 : Nat), l = #[m0, m1, m2, m3, m4, m5, m6, m7] ∧ a = ({ tmps := #[.agg (plC n X d).toArray, .agg (plC n' X' d').toArray, .pointer (some ⟨w.heap.size, 0, none⟩), .pointer (some ⟨w.heap.size + 1, 0, none⟩), .bool false, cwX m4 (.pointer (some ⟨g1, 0, none⟩)) (undef), cwX m5 (.pointer (some ⟨g2, 0, none⟩)) (undef), undef, undef, undef, undef, undef, undef, undef, undef, .bool true, .bool false, cwX m0 (.agg (plC n X d).toArray) (undef), cwX m1 (.agg (cirL C).toArray) (undef), cwX m2 (.agg (plC n' X' d').toArray) (undef), cwX m3 (.agg (cirL B).toArray) (undef), undef, undef, undef, undef, undef, undef, undef, undef, undef, undef, undef, undef, undef, undef, undef, undef, undef, undef, undef, undef, undef, undef, undef, undef, undef, undef, undef, undef, undef, undef, undef, undef, undef, undef, undef, undef, undef, undef, undef, undef, undef, undef, undef], defers := [] } : Act) ∧ ((m6 = true → m4 = true) ∧ (m7 = true → m5 = true)) ∧ Hp w (([(w.heap.size, 26, plC n X d), (w.heap.size + 1, 26, plC n' X' d')] ++ cl m4 (g1, 33, bif m6 then cirL C else cirL (fun _ => (0, 0, 0, 0)))) ++ cl m5 (g2, 33, bif m7 then cirL B else cirL (fun _ => (0, 0, 0, 0)))) W) (by kernel_rfl) (by kernel_rfl) (by kernel_rfl) (by kernel_rfl) ?_ ?_ ?_ ?_
 ·rintro l a W ⟨m0, m1, m2, m3, m4, m5, m6, m7, g1, g2, rfl, _⟩
  rfl
 ·exact ⟨false, false, false, false, false, false, false, false, 0, 0, rfl, rfl, ⟨fun h => absurd h (by simp), fun h => absurd h (by simp)⟩, HM1.out.drew⟩
 ·rintro l a W i o ⟨m0, m1, m2, m3, m4, m5, m6, m7, g1, g2, rfl, rfl, hi0, hm⟩ ho hun hall K hK
  have hi : i < 8 := (Array.getElem?_eq_some_iff.1 ho).1
  have HM := Lib.hid hm
  have HI := Lib.hid hi0
  clear hm hi0
  rcases (show i = 0 ∨ i = 1 ∨ i = 2 ∨ i = 3 ∨ i = 4 ∨ i = 5 ∨ i = 6 ∨ i = 7 by omega) with rfl | rfl | rfl | rfl | rfl | rfl | rfl | rfl
  ·cases ho
   simp at hun; subst hun
   clear hall hi
   refine step_load_row rfl 26 _ rfl (w.heap.size) rfl 26 (plC n X d).toArray (0, 0) _ (HM.out.at_ 0 rfl) Tryz.underlying26 rfl (by rw [infoPlan41, List.size_toArray, pl_len]) ?_
   exact hK.out _ _ ⟨true, m1, m2, m3, m4, m5, m6, m7, g1, g2, rfl, rfl, by obtain ⟨h0, h1⟩ := HI.out; exact ⟨(fun e => by first | rfl | exact h0 e | cases e), (fun e => by first | rfl | exact h1 e | cases e)⟩, HM.out⟩
  ·cases ho
   cases (getBX hall 0 rfl : m0 = true)
   simp at hun; subst hun
   clear hall hi
   go_simp
   refine (HMK.out _).mono ?_
   rintro e W' ⟨rfl, hb⟩
   exact hK.out _ _ ⟨true, true, m2, m3, m4, m5, m6, m7, g1, g2, rfl, rfl, by obtain ⟨h0, h1⟩ := HI.out; exact ⟨(fun e => by first | rfl | exact h0 e | cases e), (fun e => by first | rfl | exact h1 e | cases e)⟩, HM.out.step hb⟩
  ·cases ho
   simp at hun; subst hun
   clear hall hi
   refine step_load_row rfl 26 _ rfl (w.heap.size + 1) rfl 26 (plC n' X' d').toArray (0, 0) _ (HM.out.at_ 1 rfl) Tryz.underlying26 rfl (by rw [infoPlan41, List.size_toArray, pl_len]) ?_
   exact hK.out _ _ ⟨m0, m1, true, m3, m4, m5, m6, m7, g1, g2, rfl, rfl, by obtain ⟨h0, h1⟩ := HI.out; exact ⟨(fun e => by first | rfl | exact h0 e | cases e), (fun e => by first | rfl | exact h1 e | cases e)⟩, HM.out⟩
  ·cases ho
   cases (getBX hall 2 rfl : m2 = true)
   simp at hun; subst hun
   clear hall hi
   go_simp
   refine (HML.out _).mono ?_
   rintro e W' ⟨rfl, hb⟩
   exact hK.out _ _ ⟨m0, m1, true, true, m4, m5, m6, m7, g1, g2, rfl, rfl, by obtain ⟨h0, h1⟩ := HI.out; exact ⟨(fun e => by first | rfl | exact h0 e | cases e), (fun e => by first | rfl | exact h1 e | cases e)⟩, HM.out.step hb⟩
  ·cases ho
   simp at hun; subst hun
   clear hall hi
   obtain rfl : m6 = false := by
    cases m6
    ·rfl
    ·exact absurd (HI.out.1 rfl) (by simp)
   have HN := Lib.hid (box_ins HM.out)
   go_simp
   exact hK.out _ _ ⟨m0, m1, m2, m3, true, m5, false, m7, W.heap.size, g2, rfl, rfl, by obtain ⟨h0, h1⟩ := HI.out; exact ⟨(fun e => by first | rfl | exact h0 e | cases e), (fun e => by first | rfl | exact h1 e | cases e)⟩, HN.out⟩
  ·cases ho
   simp at hun; subst hun
   clear hall hi
   obtain rfl : m7 = false := by
    cases m7
    ·rfl
    ·exact absurd (HI.out.2 rfl) (by simp)
   have HN := Lib.hid (box_new HM.out)
   go_simp
   exact hK.out _ _ ⟨m0, m1, m2, m3, m4, true, m6, false, g1, W.heap.size, rfl, rfl, by obtain ⟨h0, h1⟩ := HI.out; exact ⟨(fun e => by first | rfl | exact h0 e | cases e), (fun e => by first | rfl | exact h1 e | cases e)⟩, HN.out⟩
  ·cases ho
   cases (getBX hall 1 rfl : m1 = true)
   cases (getBX hall 4 rfl : m4 = true)
   simp at hun; subst hun
   clear hall hi
   refine step_store_row rfl 33 _ _ rfl rfl g1 (cirL C).toArray rfl rfl 33 (cirL (fun _ => (0, 0, 0, 0))).toArray (HM.out.at_ 2 rfl) (by rw [infoCircle, List.size_toArray, cirL_len]) (by rw [List.size_toArray, List.size_toArray, cirL_len, cirL_len]) (cir_one _) ?_
   exact hK.out _ _ ⟨m0, true, m2, m3, true, m5, true, m7, g1, g2, rfl, rfl, by obtain ⟨h0, h1⟩ := HI.out; exact ⟨(fun e => by first | rfl | exact h0 e | cases e), (fun e => by first | rfl | exact h1 e | cases e)⟩, (HM.out.row 2 rfl (cirL C)).cast rfl⟩
  ·cases ho
   cases (getBX hall 3 rfl : m3 = true)
   cases (getBX hall 5 rfl : m5 = true)
   cases (getBX hall 6 rfl : m6 = true)
   obtain rfl : m4 = true := HI.out.1 rfl
   simp at hun; subst hun
   clear hall hi
   refine step_store_row rfl 33 _ _ rfl rfl g2 (cirL B).toArray rfl rfl 33 (cirL (fun _ => (0, 0, 0, 0))).toArray (HM.out.at_ 3 rfl) (by rw [infoCircle, List.size_toArray, cirL_len]) (by rw [List.size_toArray, List.size_toArray, cirL_len, cirL_len]) (cir_one _) ?_
   exact hK.out _ _ ⟨m0, m1, m2, true, true, true, true, true, g1, g2, rfl, rfl, by obtain ⟨h0, h1⟩ := HI.out; exact ⟨(fun e => by first | rfl | exact h0 e | cases e), (fun e => by first | rfl | exact h1 e | cases e)⟩, (HM.out.row 3 rfl (cirL B)).cast rfl⟩
 ·rintro l a W ⟨m0, m1, m2, m3, m4, m5, m6, m7, g1, g2, rfl, rfl, _, hm⟩ hall
  cases (hall 0 (by decide) : m0 = true)
  cases (hall 1 (by decide) : m1 = true)
  cases (hall 2 (by decide) : m2 = true)
  cases (hall 3 (by decide) : m3 = true)
  cases (hall 4 (by decide) : m4 = true)
  cases (hall 5 (by decide) : m5 = true)
  cases (hall 6 (by decide) : m6 = true)
  cases (hall 7 (by decide) : m7 = true)
  clear hall
  have HM5 : Hid (Hp w [(w.heap.size, 26, plC n X d), (w.heap.size + 1, 26, plC n' X' d'), (g1, 33, cirL C), (g2, 33, cirL B)] _) := Lib.hid hm
  clear hm
  dsimp only [cwX, cond_true]
  go_wp2_with (first | (refine wpList_load_row rfl 33 _ rfl (g1) rfl 33 (cirL C).toArray (0, 0) _ (HM5.out.at_ 2 rfl) Tryz.underlying33 rfl (by rw [infoCircle, List.size_toArray, cirL_len]) ?_) | (refine wpList_load_row rfl 33 _ rfl (g2) rfl 33 (cirL B).toArray (0, 0) _ (HM5.out.at_ 3 rfl) Tryz.underlying33 rfl (by rw [infoCircle, List.size_toArray, cirL_len]) ?_))
  refine (HSA.out _ (HT.out.below HM5.out.below)).mono ?_
  rintro e w4 ⟨rfl, hb4⟩
  have HM6 := Lib.hid (HM5.out.step hb4)
  clear hb4
  generalize hal : alB E 12 = isS
  have HAL := Lib.hid hal
  clear hal
  go_wp2_with fail
  go_loopw [9, 27] (fun u v W => ∃ k : Nat, k ≤ 12 ∧ v = .int .i64 (k : Int) ∧ u = .bool (alB E k) ∧ (∀ j, j < k → L j = true ∧ M j = true) ∧ Hp w [(w.heap.size, 26, plC n X d), (w.heap.size + 1, 26, plC n' X' d'), (g1, 33, cirL C), (g2, 33, cirL B)] W) (fun _ v _ => 12 - (intOf v).toNat)
  case atStart => exact ⟨0, by omega, rfl, rfl, fun j h => absurd h (by omega), HM6.out⟩
  case round =>
   obtain ⟨k, hk, rfl, rfl, hlm, hm⟩ := hrel
   have HMR := Lib.hid hm
   have HLMK := Lib.hid hlm
   clear hm hlm
   by_cases hlt : k < 12
   ·have HNK := Lib.hid (fun W hT => HLN.out k W hlt hT)
    have HOK := Lib.hid (fun W hT => HLM.out k W hlt hT)
    have HXK := Lib.hid (fun W h => HSX.out k W hlt h)
    have HYK := Lib.hid (fun W h => HSY.out k W hlt h)
    have heq := HE.out k hlt
    have HAS := Lib.hid (alB_succ E k)
    obtain ⟨z, hz⟩ : ∃ z : Int, z = (k : Int) := ⟨_, rfl⟩
    rw [← hz] at HNK HOK
    obtain ⟨lk, hlk⟩ : ∃ x, x = L k := ⟨_, rfl⟩
    obtain ⟨mk, hmk⟩ : ∃ x, x = M k := ⟨_, rfl⟩
    obtain ⟨ek, hek⟩ : ∃ x, x = E k := ⟨_, rfl⟩
    obtain ⟨sk, hsk⟩ : ∃ x, x = alB E k := ⟨_, rfl⟩
    obtain ⟨p0', hp0⟩ : ∃ x, x = p0 k := ⟨_, rfl⟩
    obtain ⟨p1', hp1⟩ : ∃ x, x = p1 k := ⟨_, rfl⟩
    obtain ⟨p2', hp2⟩ : ∃ x, x = p2 k := ⟨_, rfl⟩
    obtain ⟨p3', hp3⟩ : ∃ x, x = p3 k := ⟨_, rfl⟩
    obtain ⟨q0', hq0⟩ : ∃ x, x = q0 k := ⟨_, rfl⟩
    obtain ⟨q1', hq1⟩ : ∃ x, x = q1 k := ⟨_, rfl⟩
    obtain ⟨q2', hq2⟩ : ∃ x, x = q2 k := ⟨_, rfl⟩
    obtain ⟨q3', hq3⟩ : ∃ x, x = q3 k := ⟨_, rfl⟩
    obtain ⟨a0', ha0⟩ : ∃ x, x = a0 k := ⟨_, rfl⟩
    obtain ⟨a1', ha1⟩ : ∃ x, x = a1 k := ⟨_, rfl⟩
    obtain ⟨a2', ha2⟩ : ∃ x, x = a2 k := ⟨_, rfl⟩
    obtain ⟨a3', ha3⟩ : ∃ x, x = a3 k := ⟨_, rfl⟩
    obtain ⟨a4', ha4⟩ : ∃ x, x = a4 k := ⟨_, rfl⟩
    obtain ⟨a5', ha5⟩ : ∃ x, x = a5 k := ⟨_, rfl⟩
    obtain ⟨b0', hb0⟩ : ∃ x, x = b0 k := ⟨_, rfl⟩
    obtain ⟨b1', hb1⟩ : ∃ x, x = b1 k := ⟨_, rfl⟩
    obtain ⟨b2', hb2⟩ : ∃ x, x = b2 k := ⟨_, rfl⟩
    obtain ⟨b3', hb3⟩ : ∃ x, x = b3 k := ⟨_, rfl⟩
    obtain ⟨b4', hb4⟩ : ∃ x, x = b4 k := ⟨_, rfl⟩
    obtain ⟨b5', hb5⟩ : ∃ x, x = b5 k := ⟨_, rfl⟩
    rw [← hp0, ← hp1, ← hp2, ← hp3] at HNK HXK
    rw [← hq0, ← hq1, ← hq2, ← hq3] at HOK HYK
    rw [← ha0, ← ha1, ← ha2, ← ha3, ← ha4, ← ha5] at HXK heq
    rw [← hb0, ← hb1, ← hb2, ← hb3, ← hb4, ← hb5] at HYK heq
    rw [← hlk] at HNK HXK
    rw [← hmk] at HOK HYK
    rw [← hek] at heq HAS
    rw [← hsk] at HAS
    have HEQ := Lib.hid heq
    have HZ := Lib.hid hz
    have HLK := Lib.hid hlk
    have HMK' := Lib.hid hmk
    have hz12 : 0 ≤ z ∧ z < 12 := by omega
    rw [← hsk, ← hz]
    clear hz heq hlk hmk hek hsk hp0 hp1 hp2 hp3 hq0 hq1 hq2 hq3 ha0 ha1 ha2 ha3 ha4 ha5 hb0 hb1 hb2 hb3 hb4 hb5
    go_wp2_with (refine wpList_load_row rfl 33 _ rfl (g1) rfl 33 (cirL C).toArray (0, 0) _ (HMR.out.at_ 2 rfl) Tryz.underlying33 rfl (by rw [infoCircle, List.size_toArray, cirL_len]) ?_)
    refine (HNK.out _ (HT.out.below HMR.out.below)).mono ?_
    rintro e w5 ⟨rfl, hb5⟩
    have hm7 := (HMR.out.step hb5).new 45 [.int .i64 p0', .int .i64 p1', .int .i64 p2', .int .i64 p3']
    simp only [List.nil_append, List.cons_append] at hm7
    have HM7 := Lib.hid hm7
    clear hb5 hm7
    go_wp2_with (refine wpList_load_row rfl 33 _ rfl (g2) rfl 33 (cirL B).toArray (0, 0) _ (HM7.out.at_ 3 rfl) Tryz.underlying33 rfl (by rw [infoCircle, List.size_toArray, cirL_len]) ?_)
    refine (HOK.out _ (HT.out.below HM7.out.below)).mono ?_
    rintro e w6 ⟨rfl, hb6⟩
    have hm8 := (HM7.out.step hb6).new 45 [.int .i64 q0', .int .i64 q1', .int .i64 q2', .int .i64 q3']
    simp only [List.nil_append, List.cons_append] at hm8
    have HM8 := Lib.hid hm8
    clear hb6 hm8
    cases lk
    ·have HB := Lib.hid HM8.out.below
     go_wp2
     exact bodyPost_ret (v := .bool true) (by simp [results, Tryz.results8, go_sem]) rfl ⟨rfl, HB.out⟩
    cases mk
    ·have HB := Lib.hid HM8.out.below
     go_wp2
     exact bodyPost_ret (v := .bool true) (by simp [results, Tryz.results8, go_sem]) rfl ⟨rfl, HB.out⟩
    have HXX := Lib.hid (fun W => HXK.out W rfl)
    have HYY := Lib.hid (fun W => HYK.out W rfl)
    clear HXK HYK
    cases sk
    ·have HRR := Lib.hid (show alB E (k + 1) = false by rw [HAS.out]; rfl)
     clear HAS
     go_upto_region 13 with fail
     refine wp_regionJ 9 #[false, false, false, false, false, false, false, false, false] (fun l a W => ∃ (m0 m1 m2 m3 m4 m5 m6 m7 m8 : Bool), l = #[m0, m1, m2, m3, m4, m5, m6, m7, m8] ∧ a = ({ tmps := #[.agg (plC n X d).toArray, .agg (plC n' X' d').toArray, .pointer (some ⟨w.heap.size, 0, none⟩), .pointer (some ⟨w.heap.size + 1, 0, none⟩), u4, .pointer (some ⟨g1, 0, none⟩), .pointer (some ⟨g2, 0, none⟩), .bool isS, .int .i64 0, .bool false, .int .i64 z, .pointer (some ⟨w5.heap.size, 0, none⟩), .bool true, .pointer (some ⟨w6.heap.size, 0, none⟩), .bool true, .bool true, .bool false, .agg (plC n X d).toArray, .agg (cirL C).toArray, .agg (plC n' X' d').toArray, .agg (cirL B).toArray, .tuple #[.bool isS, .int .i64 0], .agg (cirL C).toArray, .agg (cirL B).toArray, .tuple #[.bool isS, .int .i64 0], .bool isS, .int .i64 0, .int .i64 z, .bool true, .int .i64 z, .tuple #[ovv p0' p1' p2' p3', .bool true], .agg (cirL C).toArray, .int .i64 z, .tuple #[ovv p0' p1' p2' p3', .bool true], ovv p0' p1' p2' p3', .bool true, .tuple #[ovv q0' q1' q2' q3', .bool true], .agg (cirL B).toArray, .int .i64 z, .tuple #[ovv q0' q1' q2' q3', .bool true], ovv q0' q1' q2' q3', .bool true, .bool true, .bool false, .bool false, .bool true, .bool false, .bool false, cwX m0 (.bool false) (u48), cwX m1 (.bool false) (u49), cwX m2 (undef) (u50), cwX m3 (undef) (u51), cwX m4 (undef) (u52), cwX m5 (undef) (u53), cwX m6 (undef) (u54), cwX m7 (.bool false) (u55), u56, undef, undef, undef, undef, undef, undef, undef], defers := [] } : Act) ∧ (True) ∧ Hp w [(w.heap.size, 26, plC n X d), (w.heap.size + 1, 26, plC n' X' d'), (g1, 33, cirL C), (g2, 33, cirL B), (w5.heap.size, 45, [.int .i64 p0', .int .i64 p1', .int .i64 p2', .int .i64 p3']), (w6.heap.size, 45, [.int .i64 q0', .int .i64 q1', .int .i64 q2', .int .i64 q3'])] W) (by kernel_rfl) (by kernel_rfl) (by kernel_rfl) (by kernel_rfl) ?_ ?_ ?_ ?_
     ·rintro l a W ⟨m0, m1, m2, m3, m4, m5, m6, m7, m8, rfl, _⟩
      rfl
     ·exact ⟨false, false, false, false, false, false, false, false, false, rfl, rfl, trivial, HM8.out.drew⟩
     ·rintro l a W i o ⟨m0, m1, m2, m3, m4, m5, m6, m7, m8, rfl, rfl, hi0, hm⟩ ho hun hall K hK
      have hi : i < 9 := (Array.getElem?_eq_some_iff.1 ho).1
      have HM := Lib.hid hm
      have HI := Lib.hid hi0
      clear hm hi0
      rcases (show i = 0 ∨ i = 1 ∨ i = 2 ∨ i = 3 ∨ i = 4 ∨ i = 5 ∨ i = 6 ∨ i = 7 ∨ i = 8 by omega) with rfl | rfl | rfl | rfl | rfl | rfl | rfl | rfl | rfl
      ·cases ho
       simp at hun; subst hun
       clear hall hi
       go_simp
       exact hK.out _ _ ⟨true, m1, m2, m3, m4, m5, m6, m7, m8, rfl, rfl, trivial, HM.out⟩
      ·cases ho
       cases (getBX hall 0 rfl : m0 = true)
       simp at hun; subst hun
       clear hall hi
       go_simp
       exact hK.out _ _ ⟨true, true, m2, m3, m4, m5, m6, m7, m8, rfl, rfl, trivial, HM.out⟩
      ·cases ho
       cases (getBX hall 1 rfl : m1 = true)
       simp at hun; subst hun
       clear hall hi
       go_simp
       exact hK.out _ _ ⟨m0, true, true, m3, m4, m5, m6, m7, m8, rfl, rfl, trivial, HM.out⟩
      ·cases ho
       cases (getBX hall 1 rfl : m1 = true)
       simp at hun; subst hun
       clear hall hi
       go_simp
       exact hK.out _ _ ⟨m0, true, m2, true, m4, m5, m6, m7, m8, rfl, rfl, trivial, HM.out⟩
      ·cases ho
       cases (getBX hall 1 rfl : m1 = true)
       simp at hun; subst hun
       clear hall hi
       go_simp
       exact hK.out _ _ ⟨m0, true, m2, m3, true, m5, m6, m7, m8, rfl, rfl, trivial, HM.out⟩
      ·cases ho
       cases (getBX hall 1 rfl : m1 = true)
       simp at hun; subst hun
       clear hall hi
       go_simp
       exact hK.out _ _ ⟨m0, true, m2, m3, m4, true, m6, m7, m8, rfl, rfl, trivial, HM.out⟩
      ·cases ho
       cases (getBX hall 1 rfl : m1 = true)
       simp at hun; subst hun
       clear hall hi
       go_simp
       exact hK.out _ _ ⟨m0, true, m2, m3, m4, m5, true, m7, m8, rfl, rfl, trivial, HM.out⟩
      ·cases ho
       cases (getBX hall 1 rfl : m1 = true)
       simp at hun; subst hun
       clear hall hi
       go_simp
       exact hK.out _ _ ⟨m0, true, m2, m3, m4, m5, m6, true, m8, rfl, rfl, trivial, HM.out⟩
      ·cases ho
       cases (getBX hall 7 rfl : m7 = true)
       simp at hun; subst hun
       clear hall hi
       go_simp
       exact hK.out _ _ ⟨m0, m1, m2, m3, m4, m5, m6, true, true, rfl, rfl, trivial, HM.out⟩
     ·rintro l a W ⟨m0, m1, m2, m3, m4, m5, m6, m7, m8, rfl, rfl, _, hm⟩ hall
      cases (hall 0 (by decide) : m0 = true)
      cases (hall 1 (by decide) : m1 = true)
      cases (hall 2 (by decide) : m2 = true)
      cases (hall 3 (by decide) : m3 = true)
      cases (hall 4 (by decide) : m4 = true)
      cases (hall 5 (by decide) : m5 = true)
      cases (hall 6 (by decide) : m6 = true)
      cases (hall 7 (by decide) : m7 = true)
      cases (hall 8 (by decide) : m8 = true)
      clear hall
      have HN : Hid (Hp w [(w.heap.size, 26, plC n X d), (w.heap.size + 1, 26, plC n' X' d'), (g1, 33, cirL C), (g2, 33, cirL B)] _) := Lib.hid (hm.sub (by simp))
      clear hm
      dsimp only [cwX, cond_true]
      go_wp2_with fail
      go_roundw
      case rel => exact ⟨k + 1, by omega, by rw [HZ.out]; go_num, by rw [HRR.out], fun j hj => known_succ HLMK.out HLK.out HMK'.out j hj, HN.out⟩
      case measure => simp [intOf]; have := HZ.out; omega
    ·have HRR := Lib.hid (show alB E (k + 1) = eqZ a0' a1' a2' a3' a4' a5' b0' b1' b2' b3' b4' b5' by rw [HAS.out, HEQ.out]; rfl)
     clear HAS
     go_upto_region 13 with fail
     refine wp_regionJ 9 #[false, false, false, false, false, false, false, false, false] (fun l a W => ∃ (m0 m1 m2 m3 m4 m5 m6 m7 m8 : Bool), l = #[m0, m1, m2, m3, m4, m5, m6, m7, m8] ∧ a = ({ tmps := #[.agg (plC n X d).toArray, .agg (plC n' X' d').toArray, .pointer (some ⟨w.heap.size, 0, none⟩), .pointer (some ⟨w.heap.size + 1, 0, none⟩), u4, .pointer (some ⟨g1, 0, none⟩), .pointer (some ⟨g2, 0, none⟩), .bool isS, .int .i64 0, cwX m8 (.bool (eqZ a0' a1' a2' a3' a4' a5' b0' b1' b2' b3' b4' b5')) (.bool true), .int .i64 z, .pointer (some ⟨w5.heap.size, 0, none⟩), .bool true, .pointer (some ⟨w6.heap.size, 0, none⟩), .bool true, .bool true, .bool false, .agg (plC n X d).toArray, .agg (cirL C).toArray, .agg (plC n' X' d').toArray, .agg (cirL B).toArray, .tuple #[.bool isS, .int .i64 0], .agg (cirL C).toArray, .agg (cirL B).toArray, .tuple #[.bool isS, .int .i64 0], .bool isS, .int .i64 0, .int .i64 z, .bool true, .int .i64 z, .tuple #[ovv p0' p1' p2' p3', .bool true], .agg (cirL C).toArray, .int .i64 z, .tuple #[ovv p0' p1' p2' p3', .bool true], ovv p0' p1' p2' p3', .bool true, .tuple #[ovv q0' q1' q2' q3', .bool true], .agg (cirL B).toArray, .int .i64 z, .tuple #[ovv q0' q1' q2' q3', .bool true], ovv q0' q1' q2' q3', .bool true, .bool true, .bool false, .bool false, .bool true, .bool false, .bool false, cwX m0 (.bool true) (u48), cwX m1 (.bool true) (u49), cwX m2 (ovv p0' p1' p2' p3') (u50), cwX m3 (szv a0' a1' a2' a3' a4' a5') (u51), cwX m4 (ovv q0' q1' q2' q3') (u52), cwX m5 (szv b0' b1' b2' b3' b4' b5') (u53), cwX m6 (.bool (eqZ a0' a1' a2' a3' a4' a5' b0' b1' b2' b3' b4' b5')) (u54), cwX m7 (.bool (eqZ a0' a1' a2' a3' a4' a5' b0' b1' b2' b3' b4' b5')) (u55), u56, undef, undef, undef, undef, undef, undef, undef], defers := [] } : Act) ∧ (m8 = true → m0 = true) ∧ Hp w [(w.heap.size, 26, plC n X d), (w.heap.size + 1, 26, plC n' X' d'), (g1, 33, cirL C), (g2, 33, cirL B), (w5.heap.size, 45, [.int .i64 p0', .int .i64 p1', .int .i64 p2', .int .i64 p3']), (w6.heap.size, 45, [.int .i64 q0', .int .i64 q1', .int .i64 q2', .int .i64 q3'])] W) (by kernel_rfl) (by kernel_rfl) (by kernel_rfl) (by kernel_rfl) ?_ ?_ ?_ ?_
     ·rintro l a W ⟨m0, m1, m2, m3, m4, m5, m6, m7, m8, rfl, _⟩
      rfl
     ·exact ⟨false, false, false, false, false, false, false, false, false, rfl, rfl, fun h => absurd h (by simp), HM8.out.drew⟩
     ·rintro l a W i o ⟨m0, m1, m2, m3, m4, m5, m6, m7, m8, rfl, rfl, hi0, hm⟩ ho hun hall K hK
      have hi : i < 9 := (Array.getElem?_eq_some_iff.1 ho).1
      have HM := Lib.hid hm
      have HI := Lib.hid hi0
      clear hm hi0
      rcases (show i = 0 ∨ i = 1 ∨ i = 2 ∨ i = 3 ∨ i = 4 ∨ i = 5 ∨ i = 6 ∨ i = 7 ∨ i = 8 by omega) with rfl | rfl | rfl | rfl | rfl | rfl | rfl | rfl | rfl
      ·cases ho
       simp at hun; subst hun
       clear hall hi
       obtain rfl : m8 = false := by
        cases m8
        ·rfl
        ·exact absurd (HI.out rfl) (by simp)
       go_simp
       exact hK.out _ _ ⟨true, m1, m2, m3, m4, m5, m6, m7, false, rfl, rfl, by have h0 := HI.out; exact (fun e => by first | rfl | exact h0 e | cases e), HM.out⟩
      ·cases ho
       cases (getBX hall 0 rfl : m0 = true)
       simp at hun; subst hun
       clear hall hi
       go_simp
       exact hK.out _ _ ⟨true, true, m2, m3, m4, m5, m6, m7, m8, rfl, rfl, by have h0 := HI.out; exact (fun e => by first | rfl | exact h0 e | cases e), HM.out⟩
      ·cases ho
       cases (getBX hall 1 rfl : m1 = true)
       simp at hun; subst hun
       clear hall hi
       have v0 : W.cell? ⟨w5.heap.size, 0, none⟩ = some (.int .i64 p0') := (HM.out.at_ 4 rfl).cell 0
       have v1 : W.cell? ⟨w5.heap.size, 1, none⟩ = some (.int .i64 p1') := (HM.out.at_ 4 rfl).cell 1
       have v2 : W.cell? ⟨w5.heap.size, 2, none⟩ = some (.int .i64 p2') := (HM.out.at_ 4 rfl).cell 2
       have v3 : W.cell? ⟨w5.heap.size, 3, none⟩ = some (.int .i64 p3') := (HM.out.at_ 4 rfl).cell 3
       go_simp
       exact hK.out _ _ ⟨m0, true, true, m3, m4, m5, m6, m7, m8, rfl, rfl, by have h0 := HI.out; exact (fun e => by first | rfl | exact h0 e | cases e), HM.out⟩
      ·cases ho
       cases (getBX hall 1 rfl : m1 = true)
       cases (getBX hall 2 rfl : m2 = true)
       simp at hun; subst hun
       clear hall hi
       go_simp
       refine (HXX.out _).mono ?_
       rintro e W' ⟨rfl, hb⟩
       exact hK.out _ _ ⟨m0, true, true, true, m4, m5, m6, m7, m8, rfl, rfl, by have h0 := HI.out; exact (fun e => by first | rfl | exact h0 e | cases e), HM.out.step hb⟩
      ·cases ho
       cases (getBX hall 1 rfl : m1 = true)
       simp at hun; subst hun
       clear hall hi
       have v0 : W.cell? ⟨w6.heap.size, 0, none⟩ = some (.int .i64 q0') := (HM.out.at_ 5 rfl).cell 0
       have v1 : W.cell? ⟨w6.heap.size, 1, none⟩ = some (.int .i64 q1') := (HM.out.at_ 5 rfl).cell 1
       have v2 : W.cell? ⟨w6.heap.size, 2, none⟩ = some (.int .i64 q2') := (HM.out.at_ 5 rfl).cell 2
       have v3 : W.cell? ⟨w6.heap.size, 3, none⟩ = some (.int .i64 q3') := (HM.out.at_ 5 rfl).cell 3
       go_simp
       exact hK.out _ _ ⟨m0, true, m2, m3, true, m5, m6, m7, m8, rfl, rfl, by have h0 := HI.out; exact (fun e => by first | rfl | exact h0 e | cases e), HM.out⟩
      ·cases ho
       cases (getBX hall 1 rfl : m1 = true)
       cases (getBX hall 4 rfl : m4 = true)
       simp at hun; subst hun
       clear hall hi
       go_simp
       refine (HYY.out _).mono ?_
       rintro e W' ⟨rfl, hb⟩
       exact hK.out _ _ ⟨m0, true, m2, m3, true, true, m6, m7, m8, rfl, rfl, by have h0 := HI.out; exact (fun e => by first | rfl | exact h0 e | cases e), HM.out.step hb⟩
      ·cases ho
       cases (getBX hall 1 rfl : m1 = true)
       cases (getBX hall 3 rfl : m3 = true)
       cases (getBX hall 5 rfl : m5 = true)
       simp at hun; subst hun
       clear hall hi
       go_simp
       rw [eqZ_run]
       go_simp
       exact hK.out _ _ ⟨m0, true, m2, true, m4, true, true, m7, m8, rfl, rfl, by have h0 := HI.out; exact (fun e => by first | rfl | exact h0 e | cases e), HM.out⟩
      ·cases ho
       cases (getBX hall 1 rfl : m1 = true)
       cases (getBX hall 6 rfl : m6 = true)
       simp at hun; subst hun
       clear hall hi
       go_simp
       exact hK.out _ _ ⟨m0, true, m2, m3, m4, m5, true, true, m8, rfl, rfl, by have h0 := HI.out; exact (fun e => by first | rfl | exact h0 e | cases e), HM.out⟩
      ·cases ho
       cases (getBX hall 0 rfl : m0 = true)
       cases (getBX hall 7 rfl : m7 = true)
       simp at hun; subst hun
       clear hall hi
       go_simp
       exact hK.out _ _ ⟨true, m1, m2, m3, m4, m5, m6, true, true, rfl, rfl, by have h0 := HI.out; exact (fun e => by first | rfl | exact h0 e | cases e), HM.out⟩
     ·rintro l a W ⟨m0, m1, m2, m3, m4, m5, m6, m7, m8, rfl, rfl, _, hm⟩ hall
      cases (hall 0 (by decide) : m0 = true)
      cases (hall 1 (by decide) : m1 = true)
      cases (hall 2 (by decide) : m2 = true)
      cases (hall 3 (by decide) : m3 = true)
      cases (hall 4 (by decide) : m4 = true)
      cases (hall 5 (by decide) : m5 = true)
      cases (hall 6 (by decide) : m6 = true)
      cases (hall 7 (by decide) : m7 = true)
      cases (hall 8 (by decide) : m8 = true)
      clear hall
      have HN : Hid (Hp w [(w.heap.size, 26, plC n X d), (w.heap.size + 1, 26, plC n' X' d'), (g1, 33, cirL C), (g2, 33, cirL B)] _) := Lib.hid (hm.sub (by simp))
      clear hm
      dsimp only [cwX, cond_true]
      go_wp2_with fail
      go_roundw
      case rel => exact ⟨k + 1, by omega, by rw [HZ.out]; go_num, by rw [HRR.out], fun j hj => known_succ HLMK.out HLK.out HMK'.out j hj, HN.out⟩
      case measure => simp [intOf]; have := HZ.out; omega
   ·obtain rfl : k = 12 := by omega
    have HB := Lib.hid HMR.out.below
    rw [HAL.out]
    clear hk hlt
    go_wp2
    exact bodyPost_ret (v := .bool true) (by simp [results, Tryz.results8, go_sem]) rfl ⟨rfl, HB.out⟩
theorem lsize_ls {d : Int} {P S : Nat → Int} (h : PlnC d P S) {n : Nat} (hb : lnB d P S n = true) (w : World) :
  Calls Tryz.prog 16 #[ovn (lnV d P S n)] w fun e w' => e = .returned (szD (vN d P S n).1 (vN d P S n).2.1 (vN d P S n).2.2 d) ∧ Below w.heap.size w w' := by
 unfold lnV
 rw [if_pos hb]
 exact lsize_nrm w (pl_d h) (vN_Bx h n)
theorem lsamelaw_any (n d n' d' : Int) (X X' : Nat → Int × Int) (w : World) (ht : Tab w) (hn : 0 ≤ n ∧ n < 256) (hd : 0 ≤ d ∧ d < 256) (hX : ∀ i, i < 12 → (-128 ≤ (X i).1 ∧ (X i).1 ≤ 127) ∧ (-128 ≤ (X i).2 ∧ (X i).2 ≤ 127))
  (hn' : 0 ≤ n' ∧ n' < 256) (hd' : 0 ≤ d' ∧ d' < 256) (hX' : ∀ i, i < 12 → (-128 ≤ (X' i).1 ∧ (X' i).1 ≤ 127) ∧ (-128 ≤ (X' i).2 ∧ (X' i).2 ≤ 127)) :
  Calls Tryz.prog 8 #[.agg (plC n X d).toArray, .agg (plC n' X' d').toArray] w fun e w' => e = .returned (.bool true) ∧ Below w.heap.size w w' := by
 have h := pl_pln n d X
 have g := pl_pln n' d' X'
 have hMK := fun W => lMake_any n d X W hn hd hX
 have hML := fun W => lMake_any n' d' X' W hn' hd' hX'
 generalize plD n d = D at *
 generalize plP n X = P at *
 generalize plQ n X = S at *
 generalize plD n' d' = D' at *
 generalize plP n' X' = P' at *
 generalize plQ n' X' = S' at *
 refine lsame_gen n d n' d' X X' (cirP D P S) (cirP D' P' S') (fun k => (lnV D P S k).1) (fun k => (lnV D P S k).2.1) (fun k => (lnV D P S k).2.2.1) (fun k => (lnV D P S k).2.2.2) (fun k => (lnV D' P' S' k).1) (fun k => (lnV D' P' S' k).2.1) (fun k => (lnV D' P' S' k).2.2.1) (fun k => (lnV D' P' S' k).2.2.2)
  (fun k => lowN (vN D P S k).1 D) (fun k => lowD (vN D P S k).1 D) (fun k => lowN (vN D P S k).2.1 D) (fun k => lowD (vN D P S k).2.1 D) (fun k => lowN (vN D P S k).2.2 D) (fun k => lowD (vN D P S k).2.2 D)
  (fun k => lowN (vN D' P' S' k).1 D') (fun k => lowD (vN D' P' S' k).1 D') (fun k => lowN (vN D' P' S' k).2.1 D') (fun k => lowD (vN D' P' S' k).2.1 D') (fun k => lowN (vN D' P' S' k).2.2 D') (fun k => lowD (vN D' P' S' k).2.2 D')
  (fun k => lnB D P S k) (fun k => lnB D' P' S' k) _ w ht hMK hML
  (fun W hT => tSame_gen (cirP D P S) (cirP D' P' S') _ _ _ _ _ _ _ _ _ _ _ _ _ W hT (plan_tm h) (plan_tm g) (ckE_pl h) (ckE_pl g) (fun k V hk hV => tnote_any D P S k V hV h hk) (fun k V hk hV => tnote_any D' P' S' k V hV g hk) (fun k _ => rfl))
  (fun k W hk hT => lnote_pl h hk W hT) (fun k W hk hT => lnote_pl g hk W hT) (fun k W _ hq => lsize_ls h hq W) (fun k W _ hq => lsize_ls g hq W) (fun k _ => rfl)
end Go.Proofs.YtlmheeommpbimaaGreatDoor
