/- Part 35 of 37 of the proof of the law: contracts of the functions that it reaches, and plain facts. Conditions: those that each contract names. -/
import Derived.Test.YtlmheeommpbimaaGreatDoorNamedB34
namespace Go.Proofs.YtlmheeommpbimaaGreatDoor
open Go.RowKit
def nmS : Nat → ByteArray
  | 0 => ⟨#[101, 113, 117, 97, 108]⟩
  | 1 => ⟨#[112, 121, 116, 104, 97, 103, 111, 114, 101, 97, 110]⟩
  | 2 => ⟨#[109, 101, 97, 110, 116, 111, 110, 101]⟩
  | 3 => ⟨#[119, 101, 114, 99, 107, 109, 101, 105, 115, 116, 101, 114]⟩
  | 4 => ⟨#[118, 97, 108, 108, 111, 116, 116, 105]⟩
  | _ => ⟨#[107, 105, 114, 110, 98, 101, 114, 103, 101, 114]⟩
def nmD : Nat → Int
  | 0 => 12
  | 1 => 1
  | 2 => 4
  | 3 => 4
  | 4 => 6
  | _ => 4
def nmP : Nat → Nat → Int
  | 0 => fun _ => 1
  | 1 => fun i => if i = 8 then 1 else 0
  | 2 => fun i => if i = 8 then 4 else 0
  | 3 => fun i => if i = 0 ∨ i = 1 ∨ i = 2 ∨ i = 5 then 1 else 0
  | 4 => fun i => if i = 0 ∨ i = 1 ∨ i = 2 ∨ i = 3 ∨ i = 4 ∨ i = 11 then 1 else 0
  | _ => fun i => if i = 6 then 4 else 0
def nmQ : Nat → Nat → Int
  | 0 => fun _ => 0
  | 1 => fun _ => 0
  | 2 => fun i => if i = 8 then -11 else 1
  | 3 => fun _ => 0
  | 4 => fun _ => 0
  | _ => fun i => if i = 0 ∨ i = 1 ∨ i = 2 ∨ i = 3 then 1 else if i = 6 then -4 else 0
theorem nm_pln (k : Nat) : PlnC (nmD k) (nmP k) (nmQ k) := by
  match k with
  | 0 => exact ⟨(show (1 : Int) ≤ 12 ∧ (12 : Int) ≤ 12 by decide), fun i _ => by simp only [nmP]; (repeat' split) <;> decide, fun i _ => by simp only [nmQ]; (repeat' split) <;> decide⟩
  | 1 => exact ⟨(show (1 : Int) ≤ 1 ∧ (1 : Int) ≤ 12 by decide), fun i _ => by simp only [nmP]; (repeat' split) <;> decide, fun i _ => by simp only [nmQ]; (repeat' split) <;> decide⟩
  | 2 => exact ⟨(show (1 : Int) ≤ 4 ∧ (4 : Int) ≤ 12 by decide), fun i _ => by simp only [nmP]; (repeat' split) <;> decide, fun i _ => by simp only [nmQ]; (repeat' split) <;> decide⟩
  | 3 => exact ⟨(show (1 : Int) ≤ 4 ∧ (4 : Int) ≤ 12 by decide), fun i _ => by simp only [nmP]; (repeat' split) <;> decide, fun i _ => by simp only [nmQ]; (repeat' split) <;> decide⟩
  | 4 => exact ⟨(show (1 : Int) ≤ 6 ∧ (6 : Int) ≤ 12 by decide), fun i _ => by simp only [nmP]; (repeat' split) <;> decide, fun i _ => by simp only [nmQ]; (repeat' split) <;> decide⟩
  | _ + 5 => exact ⟨(show (1 : Int) ≤ 4 ∧ (4 : Int) ≤ 12 by decide), fun i _ => by simp only [nmP]; (repeat' split) <;> decide, fun i _ => by simp only [nmQ]; (repeat' split) <;> decide⟩
theorem cir12 {C C' : Nat → Tm} (h : (List.range 12).map C = (List.range 12).map C') : cirL C = cirL C' := cirL_ext fun i hi => by
  have := congrArg (fun l => l[i]?) h
  simpa [hi] using this
theorem tNamed_at (k : Nat) (hk : k < 6) (w : World) :
    Calls Tryz.prog 21 #[.string (nmS k)] w fun e w' => e = .returned (.tuple #[.agg (cirL (cirP (nmD k) (nmP k) (nmQ k))).toArray, .int .i64 0]) ∧ Below w.heap.size w w' := by
  match k, hk with
  | 0, _ =>
    have h := tNamed_equal w
    rw [cir12 (C := (temC (1, 12, 0, 1) [0, 1, 2, 3, 4, 5, 6, 7, 8, 9, 10, 11])) (C' := cirP (nmD 0) (nmP 0) (nmQ 0)) (by decide)] at h
    exact h
  | 1, _ =>
    have h := tNamed_pythagorean w
    rw [cir12 (C := (temC (1, 1, 0, 1) [8])) (C' := cirP (nmD 1) (nmP 1) (nmQ 1)) (by decide)] at h
    exact h
  | 2, _ =>
    have h := tNamed_meantone w
    rw [cir12 (C := (fun i => if i = 8 then (1, 1, -11, 4) else (0, 1, 1, 4))) (C' := cirP (nmD 2) (nmP 2) (nmQ 2)) (by decide)] at h
    exact h
  | 3, _ =>
    have h := tNamed_werckmeister w
    rw [cir12 (C := (temC (1, 4, 0, 1) [0, 1, 2, 5])) (C' := cirP (nmD 3) (nmP 3) (nmQ 3)) (by decide)] at h
    exact h
  | 4, _ =>
    have h := tNamed_vallotti w
    rw [cir12 (C := (temC (1, 6, 0, 1) [0, 1, 2, 3, 4, 11])) (C' := cirP (nmD 4) (nmP 4) (nmQ 4)) (by decide)] at h
    exact h
  | 5, _ =>
    have h := tNamed_kirnberger w
    rw [cir12 (C := (fun k => if k = 6 then (1, 1, -1, 1) else temC (0, 1, 1, 4) [0, 1, 2, 3] k)) (C' := cirP (nmD 5) (nmP 5) (nmQ 5)) (by decide)] at h
    exact h
set_option maxRecDepth 1000000 in
set_option maxHeartbeats 4000000 in
theorem lNames_any (w : World) : Calls Tryz.prog 27 #[] w fun e w' => e = .returned (.slice (some ⟨w.heap.size, 0, none⟩) 6 6) ∧ Blk w' w.heap.size 9 ((List.range 6).map fun k => .string (nmS k)) ∧ Below w.heap.size w w' := by
  go_enter Tryz.func27, Tryz.ntmps27
  go_wp2
  go_ret
  exact ⟨rfl, heap_alloc_new w _, bw_new (Below.refl _ _) _⟩
def ptL (X : Nat → Int × Int) : List Value := (List.range 12).flatMap fun i => [.int .i8 (X i).1, .int .i8 (X i).2]
def plC (n : Int) (X : Nat → Int × Int) (d : Int) : List Value := .int .u8 n :: (ptL X ++ [.int .u8 d])
end Go.Proofs.YtlmheeommpbimaaGreatDoor
namespace Go.Proofs.YtlmheeommpbimaaGreatDoor
open Go.RowKit
set_option maxRecDepth 1000000 in
set_option maxHeartbeats 4000000 in
theorem tBetween_gen (C : Nat → Tm) (m n : Nat) (s0 s1 s2 s3 s4 s5 : Int) (w : World) (ht : Tab w) (hC : ∀ i, i < 12 → Tm64 (C i)) (hk : ckE C = 0) (hm : m ≤ 127) (hn : n ≤ 127)
    (hB : ∀ W, Tab W → Calls Tryz.prog 59 #[.agg (cirL C).toArray, .int .i64 (m : Int), .int .i64 (n : Int)] W fun e w' => e = .returned (.tuple #[szv s0 s1 s2 s3 s4 s5, .int .i64 0]) ∧ Below W.heap.size W w') :
    Calls Tryz.prog 22 #[.agg (cirL C).toArray, .int .i64 (m : Int), .int .i64 (n : Int)] w fun e w' => e = .returned (.tuple #[szv s0 s1 s2 s3 s4 s5, .int .i64 0]) ∧ Below w.heap.size w w' := by
  have hck := fun W => tcheck_any C W hC
  rw [hk] at hck
  have HCK := Lib.hid hck
  have HB := Lib.hid hB
  have HT := Lib.hid ht
  have hm0 := ((Hp.start w).new 33 (cirL C)).new 36 [.int .i64 0, .int .i64 0, .int .i64 0, .int .i64 0, .int .i64 0, .int .i64 0]
  simp only [World.size_alloc, List.nil_append, List.cons_append] at hm0
  have HM0 := Lib.hid hm0
  clear hm0 ht hB hck hk
  obtain ⟨x, hx⟩ : ∃ x : Int, x = (m : Int) := ⟨_, rfl⟩
  obtain ⟨y, hy⟩ : ∃ y : Int, y = (n : Int) := ⟨_, rfl⟩
  rw [← hx, ← hy] at HB
  rw [← hx, ← hy]
  have x0 : ¬ x < 0 := by omega
  have x1 : ¬ 127 < x := by omega
  have y0 : ¬ y < 0 := by omega
  have y1 : ¬ 127 < y := by omega
  clear hx hy hm hn
  go_enter Tryz.func22, Tryz.ntmps22
  go_wp2_with (refine wpList_load_row rfl 33 _ rfl w.heap.size rfl 33 (cirL C).toArray (0, 0) _ (HM0.out.at_ 0 rfl) Tryz.underlying33 rfl (by rw [infoCircle, List.size_toArray, cirL_len]) ?_)
  refine (HCK.out _).mono ?_
  rintro e w1 ⟨rfl, hb1⟩
  have HM1 := Lib.hid (HM0.out.step hb1)
  clear hb1
  go_wp2_with (refine wpList_load_row rfl 33 _ rfl w.heap.size rfl 33 (cirL C).toArray (0, 0) _ (HM1.out.at_ 0 rfl) Tryz.underlying33 rfl (by rw [infoCircle, List.size_toArray, cirL_len]) ?_)
  refine (HB.out _ (HT.out.below HM1.out.below)).mono ?_
  rintro e w2 ⟨rfl, hb2⟩
  have hq := HM1.out.step hb2
  obtain ⟨z0, z1, z2, z3, z4, z5⟩ := six_of (hq.at_ 1 rfl)
  obtain ⟨f0, f1, f2, f3, f4, f5⟩ := six_free (hq.at_ 1 rfl)
  have HQ := Lib.hid (hq.put6s 1 rfl (.int .i64 s0) (.int .i64 s1) (.int .i64 s2) (.int .i64 s3) (.int .i64 s4) (.int .i64 s5))
  clear hb2 hq
  go_wp2
  exact bodyPost_ret (v := .tuple #[szv s0 s1 s2 s3 s4 s5, .int .i64 0]) (by simp [results, Tryz.results22, go_sem, z0, z1, z2, z3, z4, z5, f0, f1, f2, f3, f4, f5]) rfl ⟨rfl, HQ.out⟩
theorem tBetween_pl {d : Int} {P S : Nat → Int} (h : PlnC d P S) {m n : Nat} (hm : m ≤ 127) (hn : n ≤ 127) (w : World) (ht : Tab w) :
    Calls Tryz.prog 22 #[.agg (cirL (cirP d P S)).toArray, .int .i64 (m : Int), .int .i64 (n : Int)] w fun e w' => e = .returned (.tuple #[szD (vB d P S m n).1 (vB d P S m n).2.1 (vB d P S m n).2.2 d, .int .i64 0]) ∧ Below w.heap.size w w' :=
  tBetween_gen (cirP d P S) m n _ _ _ _ _ _ w ht (plan_tm h) (ckE_pl h) hm hn (fun W hT => tbetween_pl h (by omega) (by omega) W hT)
end Go.Proofs.YtlmheeommpbimaaGreatDoor
namespace Go.Proofs.YtlmheeommpbimaaGreatDoor
open Go.RowKit
theorem idxUu (a b c : Int) (W : World) :
    (Instr.index 63 (.agg #[.int .u8 a, .int .u8 b, .int .u8 c]) (.int .i64 0)).run Tryz.prog W = .ok (.int .u8 a) W ∧
    (Instr.index 63 (.agg #[.int .u8 a, .int .u8 b, .int .u8 c]) (.int .i64 1)).run Tryz.prog W = .ok (.int .u8 b) W ∧
    (Instr.index 63 (.agg #[.int .u8 a, .int .u8 b, .int .u8 c]) (.int .i64 2)).run Tryz.prog W = .ok (.int .u8 c) W := by
  refine ⟨?_, ?_, ?_⟩ <;> simp [Instr.index, run_underlying Tryz.underlying63, go_sem]
set_option maxRecDepth 1000000 in
set_option maxHeartbeats 4000000 in
theorem lnamed_gen (q wh : Int) (s : Nat) (m0 m1 m2 y0 y1 y2 : Int) (C : Nat → Tm) (k z : Nat) (a0 a1 a2 a3 a4 a5 b0 b1 b2 b3 b4 b5 d0 d1 d2 d3 d4 d5 x0 x1 x2 x3 x4 x5 : Int) (w : World) (ht : Tab w) (hw : 0 ≤ wh ∧ wh < 256) (hs : wh % 6 = (s : Int)) (hs6 : s < 6)
    (e0 : 0 ≤ y0 ∧ y0 < 256) (e1 : 0 ≤ y1 ∧ y1 < 256) (e2 : 0 ≤ y2 ∧ y2 < 256) (g0 : y0 % 128 = m0) (g1 : y1 % 128 = m1) (g2 : y2 % 128 = m2) (hk : m0 % 12 = (k : Int)) (hz : 7 * k % 12 = z)
    (hNM : ∀ W, Calls Tryz.prog 21 #[.string (nmS s)] W fun e w' => e = .returned (.tuple #[.agg (cirL C).toArray, .int .i64 0]) ∧ Below W.heap.size W w')
    (hCL : ∀ W, Calls Tryz.prog 13 #[.agg (cirL C).toArray] W fun e w' => e = .returned (.tuple #[.bool true, .int .i64 0]) ∧ Below W.heap.size W w')
    (hBA : ∀ W, Tab W → Calls Tryz.prog 22 #[.agg (cirL C).toArray, .int .i64 m0, .int .i64 m1] W fun e w' => e = .returned (.tuple #[szv a0 a1 a2 a3 a4 a5, .int .i64 0]) ∧ Below W.heap.size W w')
    (hBB : ∀ W, Tab W → Calls Tryz.prog 22 #[.agg (cirL C).toArray, .int .i64 m1, .int .i64 m2] W fun e w' => e = .returned (.tuple #[szv b0 b1 b2 b3 b4 b5, .int .i64 0]) ∧ Below W.heap.size W w')
    (hBD : ∀ W, Tab W → Calls Tryz.prog 22 #[.agg (cirL C).toArray, .int .i64 m0, .int .i64 m2] W fun e w' => e = .returned (.tuple #[szv d0 d1 d2 d3 d4 d5, .int .i64 0]) ∧ Below W.heap.size W w')
    (hAD : ∀ W, Calls Tryz.prog 28 #[szv a0 a1 a2 a3 a4 a5, szv b0 b1 b2 b3 b4 b5] W fun e w' => e = .returned (.tuple #[szv d0 d1 d2 d3 d4 d5, .int .i64 0]) ∧ Below W.heap.size W w')
    (hFI : ∀ W, Calls Tryz.prog 14 #[.agg (cirL C).toArray, .int .i64 (k : Int)] W fun e w' => e = .returned (.tuple #[szv x0 x1 x2 x3 x4 x5, .int .i64 0]) ∧ Below W.heap.size W w')
    (hBX : ∀ W, Tab W → Calls Tryz.prog 22 #[.agg (cirL C).toArray, .int .i64 (z : Int), .int .i64 ((z : Int) + 7)] W fun e w' => e = .returned (.tuple #[szv x0 x1 x2 x3 x4 x5, .int .i64 0]) ∧ Below W.heap.size W w') :
    Calls Tryz.prog 5 #[.int .u8 wh, .agg #[.int .u8 y0, .int .u8 y1, .int .u8 y2]] w fun e w' => e = .returned (.bool true) ∧ Below w.heap.size w w' := by
  have HKN := Lib.hid (fun W hT => tknown_any W hT)
  have HNM := Lib.hid hNM
  have HCL := Lib.hid hCL
  have HBA := Lib.hid hBA
  have HBB := Lib.hid hBB
  have HBD := Lib.hid hBD
  have HAD := Lib.hid hAD
  have HFI := Lib.hid hFI
  have HBX := Lib.hid hBX
  have HT := Lib.hid ht
  obtain ⟨c, hc⟩ : ∃ c : Int, c = (s : Int) := ⟨_, rfl⟩
  have hm6 : wh.tmod 6 = c := by rw [Int.tmod_eq_emod_of_nonneg hw.1, hs, hc]
  have hw6 : IntKind.u8.wrap c = c := by unfold IntKind.wrap; simp [IntKind.bits, IntKind.signed]; omega
  have hc0 : 0 ≤ c := by omega
  have hcl : c < 6 := by omega
  have htn : c.toNat = s := by omega
  have tm : ∀ y m : Int, 0 ≤ y → y % 128 = m → y.tmod 128 = m := fun y m h1 h2 => by rw [Int.tmod_eq_emod_of_nonneg h1, h2]
  have wm : ∀ m : Int, 0 ≤ m ∧ m < 128 → IntKind.u8.wrap m = m ∧ IntKind.i64.wrap m = m := fun m h => ⟨by unfold IntKind.wrap; simp [IntKind.bits, IntKind.signed]; omega, IntWalk.i64_in _ (by omega)⟩
  have t0 := tm y0 m0 e0.1 g0
  have t1 := tm y1 m1 e1.1 g1
  have t2 := tm y2 m2 e2.1 g2
  obtain ⟨p0, q0⟩ := wm m0 (by omega)
  obtain ⟨p1, q1⟩ := wm m1 (by omega)
  obtain ⟨p2, q2⟩ := wm m2 (by omega)
  have hm00 : 0 ≤ m0 := by omega
  obtain ⟨x, hx⟩ : ∃ x : Int, x = (k : Int) := ⟨_, rfl⟩
  obtain ⟨u, hu⟩ : ∃ u : Int, u = (z : Int) := ⟨_, rfl⟩
  have tk : m0.tmod 12 = x := by rw [Int.tmod_eq_emod_of_nonneg hm00, hk, hx]
  have hx12 : 0 ≤ x ∧ x < 12 := by omega
  have tz : (7 * x).tmod 12 = u := by rw [Int.tmod_eq_emod_of_nonneg (by omega)]; omega
  have hu12 : 0 ≤ u ∧ u < 12 := by omega
  have wx : IntKind.i64.wrap x = x := IntWalk.i64_in _ (by omega)
  have w7 : IntKind.i64.wrap (7 * x) = 7 * x := IntWalk.i64_in _ (by omega)
  have wu : IntKind.i64.wrap u = u := IntWalk.i64_in _ (by omega)
  have wu7 : IntKind.i64.wrap (u + 7) = u + 7 := IntWalk.i64_in _ (by omega)
  rw [← hx] at HFI
  rw [← hu] at HBX
  clear ht hNM hCL hBA hBB hBD hAD hFI hBX hw hs hc e0 e1 e2 g0 g1 g2 hk hz hx hu tm wm
  have hm0 := (Hp.start w).new 63 [.int .u8 y0, .int .u8 y1, .int .u8 y2]
  simp only [List.nil_append] at hm0
  have HM0 := Lib.hid hm0
  clear hm0
  go_enter Tryz.func5, Tryz.ntmps5
  go_wp2_with fail
  refine (HKN.out _ (HT.out.below HM0.out.below)).mono ?_
  rintro e w1 ⟨rfl, hb1⟩
  have HM1 := Lib.hid (HM0.out.step hb1)
  clear hb1
  go_wp2_with fail
  refine (lNames_any _).mono ?_
  rintro e w1' ⟨rfl, hbn, hb1⟩
  have HM1' := Lib.hid (HM1.out.step hb1)
  have r0 : w1'.cell? ⟨w1.heap.size, s, none⟩ = some (.string (nmS s)) := by
    rw [hbn.cell]
    simp [hs6]
  clear hb1 hbn
  go_wp2_with fail
  refine (HNM.out _).mono ?_
  rintro e w2 ⟨rfl, hb2⟩
  have hm2 := (HM1'.out.step hb2).new 33 (cirL (fun _ => (0, 0, 0, 0)))
  simp only [List.nil_append, List.cons_append] at hm2
  have HM2 := Lib.hid hm2
  have hm3 := (hm2.row 1 rfl (cirL C)).cast (L' := [(w.heap.size, 63, [.int .u8 y0, .int .u8 y1, .int .u8 y2]), (w2.heap.size, 33, cirL C)]) rfl
  have HM3 := Lib.hid hm3
  clear hb2 hm2 hm3 r0
  go_wp2_with (first | (refine wpList_store_rowTo rfl 33 _ _ rfl rfl (w2.heap.size) (cirL C).toArray rfl rfl 33 (cirL (fun _ => (0, 0, 0, 0))).toArray (HM2.out.at_ 1 rfl) (by rw [infoCircle, List.size_toArray, cirL_len]) (by rw [List.size_toArray, List.size_toArray, cirL_len, cirL_len]) (cir_one _) ?_) | (refine wpList_load_row rfl 33 _ rfl (w2.heap.size) rfl 33 (cirL C).toArray (0, 0) _ (HM3.out.at_ 1 rfl) Tryz.underlying33 rfl (by rw [infoCircle, List.size_toArray, cirL_len]) ?_))
  refine (HCL.out _).mono ?_
  rintro e w3 ⟨rfl, hb3⟩
  have hm4 := (HM3.out.step hb3).new 43 [.int .i64 0, .int .i64 0, .int .i64 0]
  simp only [List.nil_append, List.cons_append] at hm4
  have v0 := (hm4.at_ 0 rfl).cell 0
  have v1 := (hm4.at_ 0 rfl).cell 1
  have v2 := (hm4.at_ 0 rfl).cell 2
  simp only [List.getElem?_cons_succ, List.getElem?_cons_zero] at v0 v1 v2
  have HM4 := Lib.hid hm4
  clear hb3 hm4
  go_wp2_with fail
  clear v0 v1 v2
  go_loopw [42] (fun v W => ∃ j : Nat, v = .int .i64 (j : Int) ∧ j ≤ 3 ∧ Hp w [(w.heap.size, 63, [.int .u8 y0, .int .u8 y1, .int .u8 y2]), (w2.heap.size, 33, cirL C), (w3.heap.size, 43, [.int .i64 (if 0 < j then m0 else 0), .int .i64 (if 1 < j then m1 else 0), .int .i64 (if 2 < j then m2 else 0)])] W) (fun v _ => 3 - (intOf v).toNat)
  case atStart => exact ⟨0, rfl, by omega, HM4.out⟩
  case round =>
    obtain ⟨j, rfl, hj, hm⟩ := hrel
    have hidx := idxUu y0 y1 y2 wr
    rcases (show j = 0 ∨ j = 1 ∨ j = 2 ∨ j = 3 by omega) with rfl | rfl | rfl | rfl
    · have hi3 := hidx.1
      have hmx : Hp w [(w.heap.size, 63, [.int .u8 y0, .int .u8 y1, .int .u8 y2]), (w2.heap.size, 33, cirL C), (w3.heap.size, 43, [.int .i64 0, .int .i64 0, .int .i64 0])] wr := hm
      have z0 := (hmx.at_ 2 rfl).cell 0
      simp only [List.getElem?_cons_succ, List.getElem?_cons_zero] at z0
      have f0 := (hmx.at_ 2 rfl).frozen 0
      have HRL := Lib.hid ((hmx.put 2 rfl 0 (.int .i64 m0)).cast (L' := [(w.heap.size, 63, [.int .u8 y0, .int .u8 y1, .int .u8 y2]), (w2.heap.size, 33, cirL C), (w3.heap.size, 43, [.int .i64 m0, .int .i64 0, .int .i64 0])]) rfl)
      clear hm hmx hidx
      go_wp2
      go_roundw
      case rel => exact ⟨1, by first | rfl | go_num, by omega, HRL.out⟩
      case measure => simp [intOf]
    · have hi3 := hidx.2.1
      have hmx : Hp w [(w.heap.size, 63, [.int .u8 y0, .int .u8 y1, .int .u8 y2]), (w2.heap.size, 33, cirL C), (w3.heap.size, 43, [.int .i64 m0, .int .i64 0, .int .i64 0])] wr := hm
      have z0 := (hmx.at_ 2 rfl).cell 1
      simp only [List.getElem?_cons_succ, List.getElem?_cons_zero] at z0
      have f0 := (hmx.at_ 2 rfl).frozen 1
      have HRL := Lib.hid ((hmx.put 2 rfl 1 (.int .i64 m1)).cast (L' := [(w.heap.size, 63, [.int .u8 y0, .int .u8 y1, .int .u8 y2]), (w2.heap.size, 33, cirL C), (w3.heap.size, 43, [.int .i64 m0, .int .i64 m1, .int .i64 0])]) rfl)
      clear hm hmx hidx
      go_wp2
      go_roundw
      case rel => exact ⟨2, by first | rfl | go_num, by omega, HRL.out⟩
      case measure => simp [intOf]
    · have hi3 := hidx.2.2
      have hmx : Hp w [(w.heap.size, 63, [.int .u8 y0, .int .u8 y1, .int .u8 y2]), (w2.heap.size, 33, cirL C), (w3.heap.size, 43, [.int .i64 m0, .int .i64 m1, .int .i64 0])] wr := hm
      have z0 := (hmx.at_ 2 rfl).cell 2
      simp only [List.getElem?_cons_succ, List.getElem?_cons_zero] at z0
      have f0 := (hmx.at_ 2 rfl).frozen 2
      have HRL := Lib.hid ((hmx.put 2 rfl 2 (.int .i64 m2)).cast (L' := [(w.heap.size, 63, [.int .u8 y0, .int .u8 y1, .int .u8 y2]), (w2.heap.size, 33, cirL C), (w3.heap.size, 43, [.int .i64 m0, .int .i64 m1, .int .i64 m2])]) rfl)
      clear hm hmx hidx
      go_wp2
      go_roundw
      case rel => exact ⟨3, by first | rfl | go_num, by omega, HRL.out⟩
      case measure => simp [intOf]
    · have HM5 : Hid (Hp w [(w.heap.size, 63, [.int .u8 y0, .int .u8 y1, .int .u8 y2]), (w2.heap.size, 33, cirL C), (w3.heap.size, 43, [.int .i64 m0, .int .i64 m1, .int .i64 m2])] wr) := Lib.hid hm
      clear hm hidx
      have hp6 := HM5.out
      have v0 := (hp6.at_ 2 rfl).cell 0
      have v1 := (hp6.at_ 2 rfl).cell 1
      have v2 := (hp6.at_ 2 rfl).cell 2
      simp only [List.getElem?_cons_succ, List.getElem?_cons_zero] at v0 v1 v2
      clear hp6
      go_wp2_with (refine wpList_load_row rfl 33 _ rfl (w2.heap.size) rfl 33 (cirL C).toArray (0, 0) _ (HM5.out.at_ 1 rfl) Tryz.underlying33 rfl (by rw [infoCircle, List.size_toArray, cirL_len]) ?_)
      refine (HBA.out _ (HT.out.below HM5.out.below)).mono ?_
      rintro e w5 ⟨rfl, hb6⟩
      have hm6 := (HM5.out.step hb6).new 36 [.int .i64 a0, .int .i64 a1, .int .i64 a2, .int .i64 a3, .int .i64 a4, .int .i64 a5]
      simp only [List.nil_append, List.cons_append] at hm6
      have HM6 := Lib.hid hm6
      clear hb6 hm6 v0 v1 v2
      have hp7 := HM6.out
      have v0 := (hp7.at_ 2 rfl).cell 0
      have v1 := (hp7.at_ 2 rfl).cell 1
      have v2 := (hp7.at_ 2 rfl).cell 2
      simp only [List.getElem?_cons_succ, List.getElem?_cons_zero] at v0 v1 v2
      clear hp7
      go_wp2_with (refine wpList_load_row rfl 33 _ rfl (w2.heap.size) rfl 33 (cirL C).toArray (0, 0) _ (HM6.out.at_ 1 rfl) Tryz.underlying33 rfl (by rw [infoCircle, List.size_toArray, cirL_len]) ?_)
      refine (HBB.out _ (HT.out.below HM6.out.below)).mono ?_
      rintro e w6 ⟨rfl, hb7⟩
      have hm7 := (HM6.out.step hb7).new 36 [.int .i64 b0, .int .i64 b1, .int .i64 b2, .int .i64 b3, .int .i64 b4, .int .i64 b5]
      simp only [List.nil_append, List.cons_append] at hm7
      have HM7 := Lib.hid hm7
      clear hb7 hm7 v0 v1 v2
      have hp8 := HM7.out
      have v0 := (hp8.at_ 2 rfl).cell 0
      have v1 := (hp8.at_ 2 rfl).cell 1
      have v2 := (hp8.at_ 2 rfl).cell 2
      simp only [List.getElem?_cons_succ, List.getElem?_cons_zero] at v0 v1 v2
      clear hp8
      go_wp2_with (refine wpList_load_row rfl 33 _ rfl (w2.heap.size) rfl 33 (cirL C).toArray (0, 0) _ (HM7.out.at_ 1 rfl) Tryz.underlying33 rfl (by rw [infoCircle, List.size_toArray, cirL_len]) ?_)
      refine (HBD.out _ (HT.out.below HM7.out.below)).mono ?_
      rintro e w7 ⟨rfl, hb8⟩
      have hm8 := (HM7.out.step hb8).new 36 [.int .i64 d0, .int .i64 d1, .int .i64 d2, .int .i64 d3, .int .i64 d4, .int .i64 d5]
      simp only [List.nil_append, List.cons_append] at hm8
      have HM8 := Lib.hid hm8
      clear hb8 hm8 v0 v1 v2
      have hp9 := HM8.out
      obtain ⟨v0, v1, v2, v3, v4, v5⟩ := six_of (hp9.at_ 3 rfl)
      obtain ⟨w0', w1'', w2', w3', w4', w5'⟩ := six_of (hp9.at_ 4 rfl)
      clear hp9
      go_wp2_with fail
      refine (HAD.out _).mono ?_
      rintro e w8 ⟨rfl, hb9⟩
      have hm9 := (HM8.out.step hb9).new 36 [.int .i64 d0, .int .i64 d1, .int .i64 d2, .int .i64 d3, .int .i64 d4, .int .i64 d5]
      simp only [List.nil_append, List.cons_append] at hm9
      have HM9 := Lib.hid hm9
      clear v0 v1 v2 v3 v4 v5 w0' w1'' w2' w3' w4' w5'
      obtain ⟨v0, v1, v2, v3, v4, v5⟩ := six_of (hm9.at_ 5 rfl)
      obtain ⟨o0, o1, o2, o3, o4, o5⟩ := six_of (hm9.at_ 6 rfl)
      have n0 := (hm9.at_ 2 rfl).cell 0
      simp only [List.getElem?_cons_zero] at n0
      clear hb9 hm9
      go_wp2_with (refine wpList_load_row rfl 33 _ rfl (w2.heap.size) rfl 33 (cirL C).toArray (0, 0) _ (HM9.out.at_ 1 rfl) Tryz.underlying33 rfl (by rw [infoCircle, List.size_toArray, cirL_len]) ?_)
      refine (HFI.out _).mono ?_
      rintro e w9 ⟨rfl, hb10⟩
      have hm10 := (HM9.out.step hb10).new 36 [.int .i64 x0, .int .i64 x1, .int .i64 x2, .int .i64 x3, .int .i64 x4, .int .i64 x5]
      simp only [List.nil_append, List.cons_append] at hm10
      have HM10 := Lib.hid hm10
      clear hb10 hm10 v0 v1 v2 v3 v4 v5 o0 o1 o2 o3 o4 o5 n0
      go_wp2_with (refine wpList_load_row rfl 33 _ rfl (w2.heap.size) rfl 33 (cirL C).toArray (0, 0) _ (HM10.out.at_ 1 rfl) Tryz.underlying33 rfl (by rw [infoCircle, List.size_toArray, cirL_len]) ?_)
      refine (HBX.out _ (HT.out.below HM10.out.below)).mono ?_
      rintro e w10 ⟨rfl, hb11⟩
      have hm11 := (HM10.out.step hb11).new 36 [.int .i64 x0, .int .i64 x1, .int .i64 x2, .int .i64 x3, .int .i64 x4, .int .i64 x5]
      simp only [List.nil_append, List.cons_append] at hm11
      obtain ⟨v0, v1, v2, v3, v4, v5⟩ := six_of (hm11.at_ 7 rfl)
      obtain ⟨o0, o1, o2, o3, o4, o5⟩ := six_of (hm11.at_ 8 rfl)
      have HB := Lib.hid hm11.below
      clear hb11 hm11
      go_wp2
      exact bodyPost_ret (v := .bool true) (by simp [results, Tryz.results5, go_sem]) rfl ⟨rfl, HB.out⟩
theorem nm_close : ∀ k, k < 6 → eqZ (lowN (vR (nmD k) (nmP k) (nmQ k)).1 (nmD k)) (lowD (vR (nmD k) (nmP k) (nmQ k)).1 (nmD k)) (lowN (vR (nmD k) (nmP k) (nmQ k)).2.1 (nmD k)) (lowD (vR (nmD k) (nmP k) (nmQ k)).2.1 (nmD k)) (lowN (vR (nmD k) (nmP k) (nmQ k)).2.2 (nmD k)) (lowD (vR (nmD k) (nmP k) (nmQ k)).2.2 (nmD k)) 0 1 0 1 0 1 = true := by decide
theorem nm_fifths : ∀ k, k < 6 → ∀ i, i < 12 → vB (nmD k) (nmP k) (nmQ k) (7 * i % 12) (7 * i % 12 + 7) = stF (nmD k) (nmP k i) (nmQ k i) 2 := by decide
theorem lnamedlaw_any (wh y0 y1 y2 : Int) (w : World) (ht : Tab w) (hw : 0 ≤ wh ∧ wh < 256) (e0 : 0 ≤ y0 ∧ y0 < 256) (e1 : 0 ≤ y1 ∧ y1 < 256) (e2 : 0 ≤ y2 ∧ y2 < 256) :
    Calls Tryz.prog 5 #[.int .u8 wh, .agg #[.int .u8 y0, .int .u8 y1, .int .u8 y2]] w fun e w' => e = .returned (.bool true) ∧ Below w.heap.size w w' := by
  obtain ⟨s, hs⟩ : ∃ s : Nat, wh % 6 = (s : Int) := ⟨(wh % 6).toNat, by omega⟩
  obtain ⟨n0, h0⟩ : ∃ n : Nat, y0 % 128 = (n : Int) := ⟨(y0 % 128).toNat, by omega⟩
  obtain ⟨n1, h1⟩ : ∃ n : Nat, y1 % 128 = (n : Int) := ⟨(y1 % 128).toNat, by omega⟩
  obtain ⟨n2, h2⟩ : ∃ n : Nat, y2 % 128 = (n : Int) := ⟨(y2 % 128).toNat, by omega⟩
  have hs6 : s < 6 := by omega
  have h := nm_pln s
  have hcl := nm_close s hs6
  have hff := nm_fifths s hs6 (n0 % 12) (by omega)
  have hnm := fun W => tNamed_at s hs6 W
  generalize nmD s = D at *
  generalize nmP s = P at *
  generalize nmQ s = S at *
  have hD := h.d
  have hcls := fun W => tCloses_pl h W
  rw [hcl] at hcls
  refine lnamed_gen wh wh s (n0 : Int) (n1 : Int) (n2 : Int) y0 y1 y2 (cirP D P S) (n0 % 12) (7 * (n0 % 12) % 12) _ _ _ _ _ _ _ _ _ _ _ _ _ _ _ _ _ _ _ _ _ _ _ _ w ht hw hs hs6 e0 e1 e2 h0 h1 h2 (by omega) rfl hnm hcls
    (fun W hT => tBetween_pl h (m := n0) (n := n1) (by omega) (by omega) W hT) (fun W hT => tBetween_pl h (m := n1) (n := n2) (by omega) (by omega) W hT) (fun W hT => tBetween_pl h (m := n0) (n := n2) (by omega) (by omega) W hT)
    (fun W => ?_) (fun W => tFifth_pl D P S (n0 % 12) W h (plan_tm h) (ckE_pl h) (by omega)) (fun W hT => ?_)
  · have a := vB_Bx h (m := n0) (n := n1) (by omega) (by omega)
    have b := vB_Bx h (m := n1) (n := n2) (by omega) (by omega)
    have c := vB_Bx h (m := n0) (n := n2) (by omega) (by omega)
    have k0 : (vB D P S n0 n1).1 + (vB D P S n1 n2).1 = (vB D P S n0 n2).1 := by simp only [vB]; omega
    have k1 : (vB D P S n0 n1).2.1 + (vB D P S n1 n2).2.1 = (vB D P S n0 n2).2.1 := by simp only [vB]; omega
    have k2 : (vB D P S n0 n1).2.2 + (vB D P S n1 n2).2.2 = (vB D P S n0 n2).2.2 := by simp only [vB]; omega
    have := tadd_any _ _ _ _ _ _ D W (by omega) a b (by rw [k0, k1, k2]; exact c)
    rw [k0, k1, k2] at this
    exact this
  · have := tBetween_pl h (m := 7 * (n0 % 12) % 12) (n := 7 * (n0 % 12) % 12 + 7) (by omega) (by omega) W hT
    rw [hff, Int.natCast_add] at this
    exact this
end Go.Proofs.YtlmheeommpbimaaGreatDoor
