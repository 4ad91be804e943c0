/- Part 40 of 46 of the proof of the law: contracts of the functions that it reaches, and plain facts. Conditions: those that each contract names. -/
import Derived.Test.YtendjepcjmfmfaaGreatDoorErrB30
import Derived.Test.YtendjepcjmfmfaaGreatDoorErrB32
import Derived.RegionTactic
import Derived.Deep.DeepCutAuto
namespace Go.Proofs.YtendjepcjmfmfaaGreatDoor
open Go.RowKit
def SzE (e : Ending) : Prop := ∃ s0 s1 s2 s3 s4 s5 c : Int, (c = 0 → ivE [(s0, s1), (s2, s3), (s4, s5)] = 0) ∧ e = .returned (.tuple #[szv s0 s1 s2 s3 s4 s5, .int .i64 c])
theorem SzE.good {s0 s1 s2 s3 s4 s5 : Int} (h : ivE [(s0, s1), (s2, s3), (s4, s5)] = 0) : SzE (.returned (.tuple #[szv s0 s1 s2 s3 s4 s5, .int .i64 0])) := ⟨_, _, _, _, _, _, 0, fun _ => h, rfl⟩
theorem SzE.bad (s0 s1 s2 s3 s4 s5 c : Int) (h : c ≠ 0) : SzE (.returned (.tuple #[szv s0 s1 s2 s3 s4 s5, .int .i64 c])) := ⟨_, _, _, _, _, _, c, fun k => absurd k h, rfl⟩
theorem ivR_out (n0 d0 n1 d1 n2 d2 : Int) : ∃ s0 s1 s2 s3 s4 s5 q, (q = 0 → ivE [(s0, s1), (s2, s3), (s4, s5)] = 0) ∧ ivR n0 d0 n1 d1 n2 d2 = .tuple #[szv s0 s1 s2 s3 s4 s5, .int .i64 q] := by
 unfold ivR; split
 ·rename_i h; exact ⟨_, _, _, _, _, _, 0, fun _ => h, rfl⟩
 ·exact ⟨0, 0, 0, 0, 0, 0, 4, fun k => absurd k (by decide), rfl⟩
theorem limV_out (a0 b0 a1 b1 a2 b2 x : Int) (h : x = 0 → ivE [(a0, b0), (a1, b1), (a2, b2)] = 0) : ∃ s0 s1 s2 s3 s4 s5 q, (q = 0 → ivE [(s0, s1), (s2, s3), (s4, s5)] = 0) ∧ limV a0 b0 a1 b1 a2 b2 x = .tuple #[szv s0 s1 s2 s3 s4 s5, .int .i64 q] := by
 unfold limV; split
 ·rename_i k; exact ⟨_, _, _, _, _, _, 0, fun _ => h k, rfl⟩
 ·exact ⟨0, 0, 0, 0, 0, 0, 4, fun k => absurd k (by decide), rfl⟩
theorem iadd_tot {a0 a1 a2 a3 a4 a5 b0 b1 b2 b3 b4 b5 : Int} (ha : ivE [(a0, a1), (a2, a3), (a4, a5)] = 0) (hb : ivE [(b0, b1), (b2, b3), (b4, b5)] = 0) : ∃ s0 s1 s2 s3 s4 s5 q, (q = 0 → ivE [(s0, s1), (s2, s3), (s4, s5)] = 0) ∧ ∀ w, Calls Tryz.prog 123 #[szv a0 a1 a2 a3 a4 a5, szv b0 b1 b2 b3 b4 b5] w fun e w' => e = .returned (.tuple #[szv s0 s1 s2 s3 s4 s5, .int .i64 q]) ∧ Below w.heap.size w w' := by
 have h := fun w => iAdd_any a0 a1 a2 a3 a4 a5 b0 b1 b2 b3 b4 b5 w ha hb
 obtain ⟨s0, s1, s2, s3, s4, s5, q, hq, he⟩ := ivR_out (lowN (a0 * b1 + b0 * a1) (a1 * b1)) (lowD (a0 * b1 + b0 * a1) (a1 * b1)) (lowN (a2 * b3 + b2 * a3) (a3 * b3)) (lowD (a2 * b3 + b2 * a3) (a3 * b3)) (lowN (a4 * b5 + b4 * a5) (a5 * b5)) (lowD (a4 * b5 + b4 * a5) (a5 * b5))
 rw [he] at h
 exact ⟨s0, s1, s2, s3, s4, s5, q, hq, h⟩
theorem isub_tot {a0 a1 a2 a3 a4 a5 b0 b1 b2 b3 b4 b5 : Int} (ha : ivE [(a0, a1), (a2, a3), (a4, a5)] = 0) (hb : ivE [(b0, b1), (b2, b3), (b4, b5)] = 0) : ∃ s0 s1 s2 s3 s4 s5 q, (q = 0 → ivE [(s0, s1), (s2, s3), (s4, s5)] = 0) ∧ ∀ w, Calls Tryz.prog 102 #[szv a0 a1 a2 a3 a4 a5, szv b0 b1 b2 b3 b4 b5] w fun e w' => e = .returned (.tuple #[szv s0 s1 s2 s3 s4 s5, .int .i64 q]) ∧ Below w.heap.size w w' := by
 have h := fun w => iSub_any a0 a1 a2 a3 a4 a5 b0 b1 b2 b3 b4 b5 w ha hb
 obtain ⟨s0, s1, s2, s3, s4, s5, q, hq, he⟩ := ivR_out (lowN (a0 * b1 - b0 * a1) (a1 * b1)) (lowD (a0 * b1 - b0 * a1) (a1 * b1)) (lowN (a2 * b3 - b2 * a3) (a3 * b3)) (lowD (a2 * b3 - b2 * a3) (a3 * b3)) (lowN (a4 * b5 - b4 * a5) (a5 * b5)) (lowD (a4 * b5 - b4 * a5) (a5 * b5))
 rw [he] at h
 exact ⟨s0, s1, s2, s3, s4, s5, q, hq, h⟩
theorem iscale_tot {a0 a1 a2 a3 a4 a5 n d : Int} (ha : ivE [(a0, a1), (a2, a3), (a4, a5)] = 0) (hk : Right n d) : ∃ s0 s1 s2 s3 s4 s5 q, (q = 0 → ivE [(s0, s1), (s2, s3), (s4, s5)] = 0) ∧ ∀ w, Calls Tryz.prog 178 #[szv a0 a1 a2 a3 a4 a5, .agg #[.int .i64 n, .int .i64 d]] w fun e w' => e = .returned (.tuple #[szv s0 s1 s2 s3 s4 s5, .int .i64 q]) ∧ Below w.heap.size w w' := by
 have h := fun w => iScale_any a0 a1 a2 a3 a4 a5 n d w ha hk
 obtain ⟨s0, s1, s2, s3, s4, s5, q, hq, he⟩ := ivR_out (lowN (a0 * n) (a1 * d)) (lowD (a0 * n) (a1 * d)) (lowN (a2 * n) (a3 * d)) (lowD (a2 * n) (a3 * d)) (lowN (a4 * n) (a5 * d)) (lowD (a4 * n) (a5 * d))
 rw [he] at h
 exact ⟨s0, s1, s2, s3, s4, s5, q, hq, h⟩
theorem ivE_one {x y z : Int} (h : Bx x y z) : ivE [(x, 1), (y, 1), (z, 1)] = 0 := by
 have := szD_ok (d := 1) ⟨by decide, by decide⟩ h
 rwa [(t_low_one x).1, (t_low_one x).2, (t_low_one y).1, (t_low_one y).2, (t_low_one z).1, (t_low_one z).2] at this
def RtC (C : Nat → Tm) : Prop := ∀ i, i < 12 → Right (C i).1 (C i).2.1 ∧ Right (C i).2.2.1 (C i).2.2.2
def ToR (w : World) (C : Nat → Tm) (z : Nat) (p q r s : Int) (v : Value) (W : World) : Prop :=
 ∃ j : Nat, v = .int .i64 (j : Int) ∧ j ≤ 2 ∧ ∃ x0 x1 x2 x3 x4 x5 : Int, ivE [(x0, x1), (x2, x3), (x4, x5)] = 0 ∧ Hp w [(w.heap.size, 38, cirL C), (w.heap.size + 1, 49, [.int .i64 0, .int .i64 0, .int .i64 0, .int .i64 0, .int .i64 0, .int .i64 0]), (z, 49, [.int .i64 x0, .int .i64 x1, .int .i64 x2, .int .i64 x3, .int .i64 x4, .int .i64 x5]), (z + 1, 253, [.string bPyth, .int .i64 p, .int .i64 q, .string bSynt, .int .i64 r, .int .i64 s])] W
theorem ToR.of {w : World} {C : Nat → Tm} {z : Nat} {p q r s x0 x1 x2 x3 x4 x5 : Int} {j : Nat} {W : World} (hj : j ≤ 2) (he : ivE [(x0, x1), (x2, x3), (x4, x5)] = 0) (h : Hp w [(w.heap.size, 38, cirL C), (w.heap.size + 1, 49, [.int .i64 0, .int .i64 0, .int .i64 0, .int .i64 0, .int .i64 0, .int .i64 0]), (z, 49, [.int .i64 x0, .int .i64 x1, .int .i64 x2, .int .i64 x3, .int .i64 x4, .int .i64 x5]), (z + 1, 253, [.string bPyth, .int .i64 p, .int .i64 q, .string bSynt, .int .i64 r, .int .i64 s])] W) : ToR w C z p q r s (.int .i64 (j : Int)) W :=
 ⟨j, rfl, hj, _, _, _, _, _, _, he, h⟩
set_option maxRecDepth 1000000 in
set_option maxHeartbeats 8000000 in
theorem tfifth_tot (C : Nat → Tm) (i : Nat) (w : World) (h : RtC C) (hi : i < 12) :
  Calls Tryz.prog 168 #[.agg (cirL C).toArray, .int .i64 (i : Int)] w fun e w' => SzE e ∧ Below w.heap.size w w' := by
 have HF := Lib.hid (fun W => nm_fifth W)
 have HRC := Lib.hid (h i hi)
 have hm0 := ((Hp.start w).new 38 (cirL C)).new 49 [.int .i64 0, .int .i64 0, .int .i64 0, .int .i64 0, .int .i64 0, .int .i64 0]
 simp only [World.size_alloc, List.nil_append, List.cons_append] at hm0
 have HM0 := Lib.hid hm0
 have hi0 : (0 : Int) ≤ (i : Int) := by omega
 have hi1 : (i : Int) < 12 := by omega
 clear hm0 h
 go_enter Tryz.func168, Tryz.ntmps168
 go_wp2_with fail
 refine (HF.out _).mono ?_
 rintro e w1 ⟨rfl, hb1⟩
 have hm1 := (HM0.out.step hb1).new 49 [.int .i64 (-1), .int .i64 1, .int .i64 1, .int .i64 1, .int .i64 0, .int .i64 1]
 simp only [List.nil_append, List.cons_append] at hm1
 have HM1 := Lib.hid hm1
 obtain ⟨x, hx⟩ : ∃ x, x = C i := ⟨_, rfl⟩
 have HX := Lib.hid hx
 obtain ⟨p, q, r, s⟩ := x
 have HRT : Hid (Right p q ∧ Right r s) := Lib.hid (by have := HRC.out; rw [← hx] at this; exact this)
 have hc : ∀ j, j < 4 → (w1.alloc (.cells #[.int .i64 (-1), .int .i64 1, .int .i64 1, .int .i64 1, .int .i64 0, .int .i64 1] 49)).cell? ⟨w.heap.size, i * 4 + j, none⟩ = ([.int .i64 p, .int .i64 q, .int .i64 r, .int .i64 s] : List Value)[j]? := fun j hj => by
  rw [(hm1.at_ 0 rfl).cell (i * 4 + j), cirL_get _ hi hj, ← hx]
  rfl
 have c0 : (w1.alloc (.cells #[.int .i64 (-1), .int .i64 1, .int .i64 1, .int .i64 1, .int .i64 0, .int .i64 1] 49)).cell? ⟨w.heap.size, i * 4, none⟩ = some (.int .i64 p) := hc 0 (by decide)
 have c1 : (w1.alloc (.cells #[.int .i64 (-1), .int .i64 1, .int .i64 1, .int .i64 1, .int .i64 0, .int .i64 1] 49)).cell? ⟨w.heap.size, i * 4 + 1, none⟩ = some (.int .i64 q) := hc 1 (by decide)
 have c2 : (w1.alloc (.cells #[.int .i64 (-1), .int .i64 1, .int .i64 1, .int .i64 1, .int .i64 0, .int .i64 1] 49)).cell? ⟨w.heap.size, i * 4 + 2, none⟩ = some (.int .i64 r) := hc 2 (by decide)
 have c3 : (w1.alloc (.cells #[.int .i64 (-1), .int .i64 1, .int .i64 1, .int .i64 1, .int .i64 0, .int .i64 1] 49)).cell? ⟨w.heap.size, i * 4 + 3, none⟩ = some (.int .i64 s) := hc 3 (by decide)
 have hm2 := (hm1.new 253 [.string bPyth, .int .i64 p, .int .i64 q, .string bSynt, .int .i64 r, .int .i64 s]).drew
 clear hb1 hm1 hx hc
 go_wp2_with fail
 go_region
 clear c0 c1 c2 c3
 simp only [List.nil_append, List.cons_append, World.size_alloc] at hm2
 obtain ⟨W2, hW2⟩ : ∃ W, W = ((w1.alloc (Obj.cells #[.int .i64 (-1), .int .i64 1, .int .i64 1, .int .i64 1, .int .i64 0, .int .i64 1] 49)).alloc (Obj.cells #[.string bPyth, .int .i64 p, .int .i64 q, .string bSynt, .int .i64 r, .int .i64 s] 253)).drew := ⟨_, rfl⟩
 rw [← hW2] at hm2 ⊢
 have HM2 := Lib.hid hm2
 clear hW2 hm2
 go_wp2_with fail
 go_loopw [24] (fun v W => ToR w C w1.heap.size p q r s v W) (fun v _ => 2 - (intOf v).toNat)
 case atStart => exact ⟨0, rfl, by omega, -1, 1, 1, 1, 0, 1, ivE_one (by unfold Bx; omega), HM2.out⟩
 case round =>
  obtain ⟨j, rfl, hj, x0, x1, x2, x3, x4, x5, hxE, hm⟩ := hrel
  have HXE := Lib.hid hxE
  clear hxE
  by_cases hjl : j < 2
  ·rcases (show j = 0 ∨ j = 1 by omega) with rfl | rfl
   ·have HNM := Lib.hid (fun W => nm_pyth W)
    obtain ⟨l0, l1, l2, l3, l4, l5, cl, hlE, hsc⟩ := iscale_tot (ivE_one (x := -19) (y := 12) (z := 0) (by unfold Bx; omega)) HRT.out.1
    have HSC := Lib.hid hsc
    have HLE := Lib.hid hlE
    clear hsc hlE
    have z0 : wr.cell? ⟨w1.heap.size + 1, 0, none⟩ = some (.string bPyth) := (hm.at_ 3 rfl).cell 0
    have z1 : wr.cell? ⟨w1.heap.size + 1, 1, none⟩ = some (.int .i64 p) := (hm.at_ 3 rfl).cell 1
    have z2 : wr.cell? ⟨w1.heap.size + 1, 2, none⟩ = some (.int .i64 q) := (hm.at_ 3 rfl).cell 2
    have hmx := hm.new 253 [.string bPyth, .int .i64 p, .int .i64 q]
    simp only [List.nil_append, List.cons_append] at hmx
    have HMX : Hid (Hp w [(w.heap.size, 38, cirL C), (w.heap.size + 1, 49, [.int .i64 0, .int .i64 0, .int .i64 0, .int .i64 0, .int .i64 0, .int .i64 0]), (w1.heap.size, 49, [.int .i64 x0, .int .i64 x1, .int .i64 x2, .int .i64 x3, .int .i64 x4, .int .i64 x5]), (w1.heap.size + 1, 253, [.string bPyth, .int .i64 p, .int .i64 q, .string bSynt, .int .i64 r, .int .i64 s]), (wr.heap.size, 253, [.string bPyth, .int .i64 p, .int .i64 q])] (wr.alloc (.cells #[.string bPyth, .int .i64 p, .int .i64 q] 253))) := Lib.hid hmx
    clear hm hmx
    go_upto_region 5 with fail
    clear z0 z1 z2
    refine wp_regionJ 12 #[false, false, false, false, false, false, false, false, false, false, false, false] (fun l a W => ∃ (m0 m1 m2 m3 m4 m5 m6 m7 m8 m9 m10 m11 : Bool) (gq : Nat), l = #[m0, m1, m2, m3, m4, m5, m6, m7, m8, m9, m10, m11] ∧ a = ({ tmps := #[Value.agg (cirL C).toArray, Value.int IntKind.i64 (i : Int), Value.pointer (some { block := w.heap.size, off := 0 }), undef, Value.pointer (some { block := w.heap.size + 1, off := 0 }), u5, Value.pointer (some { block := w1.heap.size, off := 0 }), undef, Value.pointer (some { block := wr.heap.size, off := 0 }), cwX m9 (Value.pointer (some { block := gq, off := 0 })) (u9), cwX m11 (.int .i64 cl) (u10), szv (-1) 1 1 1 0 1, Value.int IntKind.i64 (i : Int), Value.pointer (some { block := w.heap.size, off := i * 4 }), Value.pointer (some { block := w.heap.size, off := i * 4 }), Value.agg #[Value.int IntKind.i64 p, Value.int IntKind.i64 q], Value.agg #[Value.string bPyth, Value.int IntKind.i64 p, Value.int IntKind.i64 q], Value.int IntKind.i64 (i : Int), Value.pointer (some { block := w.heap.size, off := i * 4 }), Value.pointer (some { block := w.heap.size, off := i * 4 + 2 }), Value.agg #[Value.int IntKind.i64 r, Value.int IntKind.i64 s], Value.agg #[Value.string bSynt, Value.int IntKind.i64 r, Value.int IntKind.i64 s], Value.slice (some { block := w1.heap.size + 1, off := 0 }) 2 2, Value.int IntKind.i64 2, Value.int IntKind.i64 0, Value.bool true, Value.pointer (some { block := w1.heap.size + 1, off := 0 }), Value.agg #[Value.string bPyth, Value.int IntKind.i64 p, Value.int IntKind.i64 q], cwX m6 (.tuple #[szv l0 l1 l2 l3 l4 l5, .int .i64 cl]) (u28), cwX m0 (Value.pointer (some { block := wr.heap.size, off := 0 })) (u29), cwX m1 (.string bPyth) (u30), cwX m2 (szv (-19) 1 12 1 (0) 1) (u31), cwX m3 (Value.pointer (some { block := wr.heap.size, off := 1 })) (u32), cwX m4 (.agg #[.int .i64 p, .int .i64 q]) (u33), cwX m5 (.tuple #[szv l0 l1 l2 l3 l4 l5, .int .i64 cl]) (u34), cwX m7 (szv l0 l1 l2 l3 l4 l5) (u35), cwX m8 (.int .i64 cl) (u36), u37, u38, u39, u40, u41, u42, u43, u44, u45, u46, u47, u48, u49, undef], defers := [] } : Act) ∧ (m10 = true → m9 = true) ∧ BxP w ([(w.heap.size, 38, cirL C), (w.heap.size + 1, 49, [.int .i64 0, .int .i64 0, .int .i64 0, .int .i64 0, .int .i64 0, .int .i64 0]), (w1.heap.size, 49, [.int .i64 x0, .int .i64 x1, .int .i64 x2, .int .i64 x3, .int .i64 x4, .int .i64 x5]), (w1.heap.size + 1, 253, [.string bPyth, .int .i64 p, .int .i64 q, .string bSynt, .int .i64 r, .int .i64 s]), (wr.heap.size, 253, [.string bPyth, .int .i64 p, .int .i64 q])]) (wr.alloc (.cells #[.string bPyth, .int .i64 p, .int .i64 q] 253)).heap.size 49 [.int .i64 0, .int .i64 0, .int .i64 0, .int .i64 0, .int .i64 0, .int .i64 0] [.int .i64 l0, .int .i64 l1, .int .i64 l2, .int .i64 l3, .int .i64 l4, .int .i64 l5] m9 m10 gq W) (by kernel_rfl) (by kernel_rfl) (by kernel_rfl) (by kernel_rfl) ?_ ?_ ?_ ?_
    ·rintro l a W ⟨m0, m1, m2, m3, m4, m5, m6, m7, m8, m9, m10, m11, gq, rfl, _⟩
     rfl
    ·exact ⟨false, false, false, false, false, false, false, false, false, false, false, false, 0, rfl, rfl, fun h => absurd h (by simp), ((BxP.start HMX.out).step (bw_drew (Below.refl _ _)))⟩
    ·rintro l a W i o ⟨m0, m1, m2, m3, m4, m5, m6, m7, m8, m9, m10, m11, gq, rfl, rfl, hi0, hm⟩ ho hun hall K hK
     have hi : i < 12 := (Array.getElem?_eq_some_iff.1 ho).1
     have HM := Lib.hid hm
     have HI := Lib.hid hi0
     clear hm hi0
     rcases (show i = 0 ∨ i = 1 ∨ i = 2 ∨ i = 3 ∨ i = 4 ∨ i = 5 ∨ i = 6 ∨ i = 7 ∨ i = 8 ∨ i = 9 ∨ i = 10 ∨ i = 11 by omega) with rfl | rfl | rfl | rfl | rfl | rfl | rfl | rfl | rfl | rfl | rfl | rfl
     ·cases ho
      simp at hun; subst hun
      clear hall hi
      go_simp
      exact hK.out _ _ ⟨true, m1, m2, m3, m4, m5, m6, m7, m8, m9, m10, m11, gq, rfl, rfl, by have h0 := HI.out; exact fun e => by first | rfl | exact h0 e, HM.out⟩
     ·cases ho
      cases (getBX hall 0 rfl : m0 = true)
      simp at hun; subst hun
      clear hall hi
      have q0 : W.cell? ⟨wr.heap.size, 0, none⟩ = some (.string bPyth) := (HM.out.hp.at_ 4 rfl).cell 0
      go_simp
      exact hK.out _ _ ⟨true, true, m2, m3, m4, m5, m6, m7, m8, m9, m10, m11, gq, rfl, rfl, by have h0 := HI.out; exact fun e => by first | rfl | exact h0 e, HM.out⟩
     ·cases ho
      cases (getBX hall 1 rfl : m1 = true)
      simp at hun; subst hun
      clear hall hi
      go_simp
      refine (HNM.out _).mono ?_
      rintro e W' ⟨rfl, hb⟩
      exact hK.out _ _ ⟨m0, true, true, m3, m4, m5, m6, m7, m8, m9, m10, m11, gq, rfl, rfl, by have h0 := HI.out; exact fun e => by first | rfl | exact h0 e, HM.out.step hb⟩
     ·cases ho
      simp at hun; subst hun
      clear hall hi
      go_simp
      exact hK.out _ _ ⟨m0, m1, m2, true, m4, m5, m6, m7, m8, m9, m10, m11, gq, rfl, rfl, by have h0 := HI.out; exact fun e => by first | rfl | exact h0 e, HM.out⟩
     ·cases ho
      cases (getBX hall 3 rfl : m3 = true)
      simp at hun; subst hun
      clear hall hi
      have q1 : W.cell? ⟨wr.heap.size, 1, none⟩ = some (.int .i64 p) := (HM.out.hp.at_ 4 rfl).cell 1
      have q2 : W.cell? ⟨wr.heap.size, 2, none⟩ = some (.int .i64 q) := (HM.out.hp.at_ 4 rfl).cell 2
      go_simp
      exact hK.out _ _ ⟨m0, m1, m2, true, true, m5, m6, m7, m8, m9, m10, m11, gq, rfl, rfl, by have h0 := HI.out; exact fun e => by first | rfl | exact h0 e, HM.out⟩
     ·cases ho
      cases (getBX hall 2 rfl : m2 = true)
      cases (getBX hall 4 rfl : m4 = true)
      simp at hun; subst hun
      clear hall hi
      go_simp
      refine (HSC.out _).mono ?_
      rintro e W' ⟨rfl, hb⟩
      exact hK.out _ _ ⟨m0, m1, true, m3, true, true, m6, m7, m8, m9, m10, m11, gq, rfl, rfl, by have h0 := HI.out; exact fun e => by first | rfl | exact h0 e, HM.out.step hb⟩
     ·cases ho
      cases (getBX hall 5 rfl : m5 = true)
      simp at hun; subst hun
      clear hall hi
      go_simp
      exact hK.out _ _ ⟨m0, m1, m2, m3, m4, true, true, m7, m8, m9, m10, m11, gq, rfl, rfl, by have h0 := HI.out; exact fun e => by first | rfl | exact h0 e, HM.out⟩
     ·cases ho
      cases (getBX hall 6 rfl : m6 = true)
      simp at hun; subst hun
      clear hall hi
      go_simp
      exact hK.out _ _ ⟨m0, m1, m2, m3, m4, m5, true, true, m8, m9, m10, m11, gq, rfl, rfl, by have h0 := HI.out; exact fun e => by first | rfl | exact h0 e, HM.out⟩
     ·cases ho
      cases (getBX hall 6 rfl : m6 = true)
      simp at hun; subst hun
      clear hall hi
      go_simp
      exact hK.out _ _ ⟨m0, m1, m2, m3, m4, m5, true, m7, true, m9, m10, m11, gq, rfl, rfl, by have h0 := HI.out; exact fun e => by first | rfl | exact h0 e, HM.out⟩
     ·cases ho
      simp at hun; subst hun
      clear hall hi
      obtain rfl : m10 = false := by
       cases m10
       ·rfl
       ·exact absurd (HI.out rfl) (by simp)
      have HN := Lib.hid HM.out.new
      go_simp
      exact hK.out _ _ ⟨m0, m1, m2, m3, m4, m5, m6, m7, m8, true, false, m11, W.heap.size, rfl, rfl, by have h0 := HI.out; exact fun e => by first | rfl | exact h0 e, HN.out⟩
     ·cases ho
      cases (getBX hall 5 rfl : m5 = true)
      cases (getBX hall 7 rfl : m7 = true)
      cases (getBX hall 9 rfl : m9 = true)
      simp at hun; subst hun
      clear hall hi
      have z0 := (HM.out.b rfl rfl).cell 0
      have f0 := (HM.out.b rfl rfl).frozen 0
      have z1 := (HM.out.b rfl rfl).cell 1
      have f1 := (HM.out.b rfl rfl).frozen 1
      have z2 := (HM.out.b rfl rfl).cell 2
      have f2 := (HM.out.b rfl rfl).frozen 2
      have z3 := (HM.out.b rfl rfl).cell 3
      have f3 := (HM.out.b rfl rfl).frozen 3
      have z4 := (HM.out.b rfl rfl).cell 4
      have f4 := (HM.out.b rfl rfl).frozen 4
      have z5 := (HM.out.b rfl rfl).cell 5
      have f5 := (HM.out.b rfl rfl).frozen 5
      simp only [List.getElem?_cons_succ, List.getElem?_cons_zero] at z0 z1 z2 z3 z4 z5
      have HN := Lib.hid (HM.out.put6 (by rw [World.size_alloc]; have := HMX.out.below.size; rw [World.size_alloc] at this; omega))
      go_simp
      exact hK.out _ _ ⟨m0, m1, m2, m3, m4, true, m6, true, m8, true, true, m11, gq, rfl, rfl, by have h0 := HI.out; exact fun e => by first | rfl | exact h0 e, HN.out⟩
     ·cases ho
      cases (getBX hall 8 rfl : m8 = true)
      cases (getBX hall 10 rfl : m10 = true)
      simp at hun; subst hun
      clear hall hi
      go_simp
      exact hK.out _ _ ⟨m0, m1, m2, m3, m4, m5, m6, m7, true, m9, true, true, gq, rfl, rfl, by have h0 := HI.out; exact fun e => by first | rfl | exact h0 e, HM.out⟩
    ·rintro l a W ⟨m0, m1, m2, m3, m4, m5, m6, m7, m8, m9, m10, m11, gq, rfl, rfl, _, hm⟩ hall
     cases (hall 0 (by decide) : m0 = true)
     cases (hall 1 (by decide) : m1 = true)
     cases (hall 2 (by decide) : m2 = true)
     cases (hall 3 (by decide) : m3 = true)
     cases (hall 4 (by decide) : m4 = true)
     cases (hall 5 (by decide) : m5 = true)
     cases (hall 6 (by decide) : m6 = true)
     cases (hall 7 (by decide) : m7 = true)
     cases (hall 8 (by decide) : m8 = true)
     cases (hall 9 (by decide) : m9 = true)
     cases (hall 10 (by decide) : m10 = true)
     cases (hall 11 (by decide) : m11 = true)
     clear hall
     have HQ := Lib.hid (hm.done (by rw [World.size_alloc]; have := HMX.out.below.size; rw [World.size_alloc] at this; omega))
     simp only [List.nil_append, List.cons_append] at HQ
     clear hm
     dsimp only [cwX, cond_true]
     by_cases hcl : cl = 0
     ·subst hcl
      obtain ⟨n0, n1, n2, n3, n4, n5, cn, hnE, hsb⟩ := isub_tot HXE.out (HLE.out (by simp))
      have HSB := Lib.hid hsb
      have HNE := Lib.hid hnE
      clear hsb hnE
      have hq := HQ.out
      obtain ⟨a0, a1, a2, a3, a4, a5⟩ := six_of (hq.at_ 2 rfl)
      obtain ⟨b0, b1, b2, b3, b4, b5⟩ := six_of (hq.at_ 5 rfl)
      clear hq
      go_wp2_with fail
      refine (HSB.out _).mono ?_
      rintro e w5 ⟨rfl, hb5⟩
      have hq5 := HQ.out.step hb5
      clear a0 a1 a2 a3 a4 a5
      obtain ⟨a0, a1, a2, a3, a4, a5⟩ := six_of (hq5.at_ 2 rfl)
      obtain ⟨f0, f1, f2, f3, f4, f5⟩ := six_free (hq5.at_ 2 rfl)
      by_cases hcn : cn = 0
      ·subst hcn
       have hq6 := (hq5.put6 2 rfl (.int .i64 n0) (.int .i64 n1) (.int .i64 n2) (.int .i64 n3) (.int .i64 n4) (.int .i64 n5)).sub (L' := [(w.heap.size, 38, cirL C), (w.heap.size + 1, 49, [.int .i64 0, .int .i64 0, .int .i64 0, .int .i64 0, .int .i64 0, .int .i64 0]), (w1.heap.size, 49, [.int .i64 n0, .int .i64 n1, .int .i64 n2, .int .i64 n3, .int .i64 n4, .int .i64 n5]), (w1.heap.size + 1, 253, [.string bPyth, .int .i64 p, .int .i64 q, .string bSynt, .int .i64 r, .int .i64 s])]) (by simp)
       have HRL := Lib.hid (ToR.of (j := 0 + 1) (by omega) (HNE.out (by simp)) hq6)
       clear hb5 hq5 hq6
       go_wp2
       go_roundw
       case rel => first | exact HRL.out | ((repeat apply Exists.intro); exact ⟨HRL.out, rfl⟩)
       case measure => simp [intOf]
      ·have hz : (cn != 0) = true := by simpa using hcn
       have HQ6 := Lib.hid (hq5.put6 2 rfl (.int .i64 n0) (.int .i64 n1) (.int .i64 n2) (.int .i64 n3) (.int .i64 n4) (.int .i64 n5))
       obtain ⟨z0, z1, z2, z3, z4, z5⟩ := six_of (HQ6.out.at_ 1 rfl)
       obtain ⟨y0, y1, y2, y3, y4, y5⟩ := six_free (HQ6.out.at_ 1 rfl)
       have HB := Lib.hid (HQ6.out.put6s 1 rfl (.int .i64 0) (.int .i64 0) (.int .i64 0) (.int .i64 0) (.int .i64 0) (.int .i64 0))
       clear hb5 hq5 hcn
       go_wp2
       exact bodyPost_ret (v := .tuple #[szv 0 0 0 0 0 0, .int .i64 4]) (by simp [results, Tryz.results168, go_sem, z0, z1, z2, z3, z4, z5, y0, y1, y2, y3, y4, y5]) rfl ⟨SzE.bad _ _ _ _ _ _ _ (by decide), HB.out⟩
     ·have hz : (cl != 0) = true := by simpa using hcl
      have hq5 := HQ.out
      obtain ⟨z0, z1, z2, z3, z4, z5⟩ := six_of (hq5.at_ 1 rfl)
      obtain ⟨f0, f1, f2, f3, f4, f5⟩ := six_free (hq5.at_ 1 rfl)
      have HB := Lib.hid (hq5.put6s 1 rfl (.int .i64 0) (.int .i64 0) (.int .i64 0) (.int .i64 0) (.int .i64 0) (.int .i64 0))
      clear hq5
      go_wp2
      exact bodyPost_ret (v := .tuple #[szv 0 0 0 0 0 0, .int .i64 4]) (by simp [results, Tryz.results168, go_sem, z0, z1, z2, z3, z4, z5, f0, f1, f2, f3, f4, f5]) rfl ⟨SzE.bad _ _ _ _ _ _ _ (by decide), HB.out⟩
   ·have HNM := Lib.hid (fun W => nm_synt W)
    obtain ⟨l0, l1, l2, l3, l4, l5, cl, hlE, hsc⟩ := iscale_tot (ivE_one (x := -4) (y := 4) (z := -1) (by unfold Bx; omega)) HRT.out.2
    have HSC := Lib.hid hsc
    have HLE := Lib.hid hlE
    clear hsc hlE
    have z0 : wr.cell? ⟨w1.heap.size + 1, 3, none⟩ = some (.string bSynt) := (hm.at_ 3 rfl).cell 3
    have z1 : wr.cell? ⟨w1.heap.size + 1, 4, none⟩ = some (.int .i64 r) := (hm.at_ 3 rfl).cell 4
    have z2 : wr.cell? ⟨w1.heap.size + 1, 5, none⟩ = some (.int .i64 s) := (hm.at_ 3 rfl).cell 5
    have hmx := hm.new 253 [.string bSynt, .int .i64 r, .int .i64 s]
    simp only [List.nil_append, List.cons_append] at hmx
    have HMX : Hid (Hp w [(w.heap.size, 38, cirL C), (w.heap.size + 1, 49, [.int .i64 0, .int .i64 0, .int .i64 0, .int .i64 0, .int .i64 0, .int .i64 0]), (w1.heap.size, 49, [.int .i64 x0, .int .i64 x1, .int .i64 x2, .int .i64 x3, .int .i64 x4, .int .i64 x5]), (w1.heap.size + 1, 253, [.string bPyth, .int .i64 p, .int .i64 q, .string bSynt, .int .i64 r, .int .i64 s]), (wr.heap.size, 253, [.string bSynt, .int .i64 r, .int .i64 s])] (wr.alloc (.cells #[.string bSynt, .int .i64 r, .int .i64 s] 253))) := Lib.hid hmx
    clear hm hmx
    go_upto_region 5 with fail
    clear z0 z1 z2
    refine wp_regionJ 12 #[false, false, false, false, false, false, false, false, false, false, false, false] (fun l a W => ∃ (m0 m1 m2 m3 m4 m5 m6 m7 m8 m9 m10 m11 : Bool) (gq : Nat), l = #[m0, m1, m2, m3, m4, m5, m6, m7, m8, m9, m10, m11] ∧ a = ({ tmps := #[Value.agg (cirL C).toArray, Value.int IntKind.i64 (i : Int), Value.pointer (some { block := w.heap.size, off := 0 }), undef, Value.pointer (some { block := w.heap.size + 1, off := 0 }), u5, Value.pointer (some { block := w1.heap.size, off := 0 }), undef, Value.pointer (some { block := wr.heap.size, off := 0 }), cwX m9 (Value.pointer (some { block := gq, off := 0 })) (u9), cwX m11 (.int .i64 cl) (u10), szv (-1) 1 1 1 0 1, Value.int IntKind.i64 (i : Int), Value.pointer (some { block := w.heap.size, off := i * 4 }), Value.pointer (some { block := w.heap.size, off := i * 4 }), Value.agg #[Value.int IntKind.i64 p, Value.int IntKind.i64 q], Value.agg #[Value.string bPyth, Value.int IntKind.i64 p, Value.int IntKind.i64 q], Value.int IntKind.i64 (i : Int), Value.pointer (some { block := w.heap.size, off := i * 4 }), Value.pointer (some { block := w.heap.size, off := i * 4 + 2 }), Value.agg #[Value.int IntKind.i64 r, Value.int IntKind.i64 s], Value.agg #[Value.string bSynt, Value.int IntKind.i64 r, Value.int IntKind.i64 s], Value.slice (some { block := w1.heap.size + 1, off := 0 }) 2 2, Value.int IntKind.i64 2, Value.int IntKind.i64 1, Value.bool true, Value.pointer (some { block := w1.heap.size + 1, off := 3 }), Value.agg #[Value.string bSynt, Value.int IntKind.i64 r, Value.int IntKind.i64 s], cwX m6 (.tuple #[szv l0 l1 l2 l3 l4 l5, .int .i64 cl]) (u28), cwX m0 (Value.pointer (some { block := wr.heap.size, off := 0 })) (u29), cwX m1 (.string bSynt) (u30), cwX m2 (szv (-4) 1 4 1 (-1) 1) (u31), cwX m3 (Value.pointer (some { block := wr.heap.size, off := 1 })) (u32), cwX m4 (.agg #[.int .i64 r, .int .i64 s]) (u33), cwX m5 (.tuple #[szv l0 l1 l2 l3 l4 l5, .int .i64 cl]) (u34), cwX m7 (szv l0 l1 l2 l3 l4 l5) (u35), cwX m8 (.int .i64 cl) (u36), u37, u38, u39, u40, u41, u42, u43, u44, u45, u46, u47, u48, u49, undef], defers := [] } : Act) ∧ (m10 = true → m9 = true) ∧ BxP w ([(w.heap.size, 38, cirL C), (w.heap.size + 1, 49, [.int .i64 0, .int .i64 0, .int .i64 0, .int .i64 0, .int .i64 0, .int .i64 0]), (w1.heap.size, 49, [.int .i64 x0, .int .i64 x1, .int .i64 x2, .int .i64 x3, .int .i64 x4, .int .i64 x5]), (w1.heap.size + 1, 253, [.string bPyth, .int .i64 p, .int .i64 q, .string bSynt, .int .i64 r, .int .i64 s]), (wr.heap.size, 253, [.string bSynt, .int .i64 r, .int .i64 s])]) (wr.alloc (.cells #[.string bSynt, .int .i64 r, .int .i64 s] 253)).heap.size 49 [.int .i64 0, .int .i64 0, .int .i64 0, .int .i64 0, .int .i64 0, .int .i64 0] [.int .i64 l0, .int .i64 l1, .int .i64 l2, .int .i64 l3, .int .i64 l4, .int .i64 l5] m9 m10 gq W) (by kernel_rfl) (by kernel_rfl) (by kernel_rfl) (by kernel_rfl) ?_ ?_ ?_ ?_
    ·rintro l a W ⟨m0, m1, m2, m3, m4, m5, m6, m7, m8, m9, m10, m11, gq, rfl, _⟩
     rfl
    ·exact ⟨false, false, false, false, false, false, false, false, false, false, false, false, 0, rfl, rfl, fun h => absurd h (by simp), ((BxP.start HMX.out).step (bw_drew (Below.refl _ _)))⟩
    ·rintro l a W i o ⟨m0, m1, m2, m3, m4, m5, m6, m7, m8, m9, m10, m11, gq, rfl, rfl, hi0, hm⟩ ho hun hall K hK
     have hi : i < 12 := (Array.getElem?_eq_some_iff.1 ho).1
     have HM := Lib.hid hm
     have HI := Lib.hid hi0
     clear hm hi0
     rcases (show i = 0 ∨ i = 1 ∨ i = 2 ∨ i = 3 ∨ i = 4 ∨ i = 5 ∨ i = 6 ∨ i = 7 ∨ i = 8 ∨ i = 9 ∨ i = 10 ∨ i = 11 by omega) with rfl | rfl | rfl | rfl | rfl | rfl | rfl | rfl | rfl | rfl | rfl | rfl
     ·cases ho
      simp at hun; subst hun
      clear hall hi
      go_simp
      exact hK.out _ _ ⟨true, m1, m2, m3, m4, m5, m6, m7, m8, m9, m10, m11, gq, rfl, rfl, by have h0 := HI.out; exact fun e => by first | rfl | exact h0 e, HM.out⟩
     ·cases ho
      cases (getBX hall 0 rfl : m0 = true)
      simp at hun; subst hun
      clear hall hi
      have q0 : W.cell? ⟨wr.heap.size, 0, none⟩ = some (.string bSynt) := (HM.out.hp.at_ 4 rfl).cell 0
      go_simp
      exact hK.out _ _ ⟨true, true, m2, m3, m4, m5, m6, m7, m8, m9, m10, m11, gq, rfl, rfl, by have h0 := HI.out; exact fun e => by first | rfl | exact h0 e, HM.out⟩
     ·cases ho
      cases (getBX hall 1 rfl : m1 = true)
      simp at hun; subst hun
      clear hall hi
      go_simp
      refine (HNM.out _).mono ?_
      rintro e W' ⟨rfl, hb⟩
      exact hK.out _ _ ⟨m0, true, true, m3, m4, m5, m6, m7, m8, m9, m10, m11, gq, rfl, rfl, by have h0 := HI.out; exact fun e => by first | rfl | exact h0 e, HM.out.step hb⟩
     ·cases ho
      simp at hun; subst hun
      clear hall hi
      go_simp
      exact hK.out _ _ ⟨m0, m1, m2, true, m4, m5, m6, m7, m8, m9, m10, m11, gq, rfl, rfl, by have h0 := HI.out; exact fun e => by first | rfl | exact h0 e, HM.out⟩
     ·cases ho
      cases (getBX hall 3 rfl : m3 = true)
      simp at hun; subst hun
      clear hall hi
      have q1 : W.cell? ⟨wr.heap.size, 1, none⟩ = some (.int .i64 r) := (HM.out.hp.at_ 4 rfl).cell 1
      have q2 : W.cell? ⟨wr.heap.size, 2, none⟩ = some (.int .i64 s) := (HM.out.hp.at_ 4 rfl).cell 2
      go_simp
      exact hK.out _ _ ⟨m0, m1, m2, true, true, m5, m6, m7, m8, m9, m10, m11, gq, rfl, rfl, by have h0 := HI.out; exact fun e => by first | rfl | exact h0 e, HM.out⟩
     ·cases ho
      cases (getBX hall 2 rfl : m2 = true)
      cases (getBX hall 4 rfl : m4 = true)
      simp at hun; subst hun
      clear hall hi
      go_simp
      refine (HSC.out _).mono ?_
      rintro e W' ⟨rfl, hb⟩
      exact hK.out _ _ ⟨m0, m1, true, m3, true, true, m6, m7, m8, m9, m10, m11, gq, rfl, rfl, by have h0 := HI.out; exact fun e => by first | rfl | exact h0 e, HM.out.step hb⟩
     ·cases ho
      cases (getBX hall 5 rfl : m5 = true)
      simp at hun; subst hun
      clear hall hi
      go_simp
      exact hK.out _ _ ⟨m0, m1, m2, m3, m4, true, true, m7, m8, m9, m10, m11, gq, rfl, rfl, by have h0 := HI.out; exact fun e => by first | rfl | exact h0 e, HM.out⟩
     ·cases ho
      cases (getBX hall 6 rfl : m6 = true)
      simp at hun; subst hun
      clear hall hi
      go_simp
      exact hK.out _ _ ⟨m0, m1, m2, m3, m4, m5, true, true, m8, m9, m10, m11, gq, rfl, rfl, by have h0 := HI.out; exact fun e => by first | rfl | exact h0 e, HM.out⟩
     ·cases ho
      cases (getBX hall 6 rfl : m6 = true)
      simp at hun; subst hun
      clear hall hi
      go_simp
      exact hK.out _ _ ⟨m0, m1, m2, m3, m4, m5, true, m7, true, m9, m10, m11, gq, rfl, rfl, by have h0 := HI.out; exact fun e => by first | rfl | exact h0 e, HM.out⟩
     ·cases ho
      simp at hun; subst hun
      clear hall hi
      obtain rfl : m10 = false := by
       cases m10
       ·rfl
       ·exact absurd (HI.out rfl) (by simp)
      have HN := Lib.hid HM.out.new
      go_simp
      exact hK.out _ _ ⟨m0, m1, m2, m3, m4, m5, m6, m7, m8, true, false, m11, W.heap.size, rfl, rfl, by have h0 := HI.out; exact fun e => by first | rfl | exact h0 e, HN.out⟩
     ·cases ho
      cases (getBX hall 5 rfl : m5 = true)
      cases (getBX hall 7 rfl : m7 = true)
      cases (getBX hall 9 rfl : m9 = true)
      simp at hun; subst hun
      clear hall hi
      have z0 := (HM.out.b rfl rfl).cell 0
      have f0 := (HM.out.b rfl rfl).frozen 0
      have z1 := (HM.out.b rfl rfl).cell 1
      have f1 := (HM.out.b rfl rfl).frozen 1
      have z2 := (HM.out.b rfl rfl).cell 2
      have f2 := (HM.out.b rfl rfl).frozen 2
      have z3 := (HM.out.b rfl rfl).cell 3
      have f3 := (HM.out.b rfl rfl).frozen 3
      have z4 := (HM.out.b rfl rfl).cell 4
      have f4 := (HM.out.b rfl rfl).frozen 4
      have z5 := (HM.out.b rfl rfl).cell 5
      have f5 := (HM.out.b rfl rfl).frozen 5
      simp only [List.getElem?_cons_succ, List.getElem?_cons_zero] at z0 z1 z2 z3 z4 z5
      have HN := Lib.hid (HM.out.put6 (by rw [World.size_alloc]; have := HMX.out.below.size; rw [World.size_alloc] at this; omega))
      go_simp
      exact hK.out _ _ ⟨m0, m1, m2, m3, m4, true, m6, true, m8, true, true, m11, gq, rfl, rfl, by have h0 := HI.out; exact fun e => by first | rfl | exact h0 e, HN.out⟩
     ·cases ho
      cases (getBX hall 8 rfl : m8 = true)
      cases (getBX hall 10 rfl : m10 = true)
      simp at hun; subst hun
      clear hall hi
      go_simp
      exact hK.out _ _ ⟨m0, m1, m2, m3, m4, m5, m6, m7, true, m9, true, true, gq, rfl, rfl, by have h0 := HI.out; exact fun e => by first | rfl | exact h0 e, HM.out⟩
    ·rintro l a W ⟨m0, m1, m2, m3, m4, m5, m6, m7, m8, m9, m10, m11, gq, rfl, rfl, _, hm⟩ hall
     cases (hall 0 (by decide) : m0 = true)
     cases (hall 1 (by decide) : m1 = true)
     cases (hall 2 (by decide) : m2 = true)
     cases (hall 3 (by decide) : m3 = true)
     cases (hall 4 (by decide) : m4 = true)
     cases (hall 5 (by decide) : m5 = true)
     cases (hall 6 (by decide) : m6 = true)
     cases (hall 7 (by decide) : m7 = true)
     cases (hall 8 (by decide) : m8 = true)
     cases (hall 9 (by decide) : m9 = true)
     cases (hall 10 (by decide) : m10 = true)
     cases (hall 11 (by decide) : m11 = true)
     clear hall
     have HQ := Lib.hid (hm.done (by rw [World.size_alloc]; have := HMX.out.below.size; rw [World.size_alloc] at this; omega))
     simp only [List.nil_append, List.cons_append] at HQ
     clear hm
     dsimp only [cwX, cond_true]
     by_cases hcl : cl = 0
     ·subst hcl
      obtain ⟨n0, n1, n2, n3, n4, n5, cn, hnE, hsb⟩ := isub_tot HXE.out (HLE.out (by simp))
      have HSB := Lib.hid hsb
      have HNE := Lib.hid hnE
      clear hsb hnE
      have hq := HQ.out
      obtain ⟨a0, a1, a2, a3, a4, a5⟩ := six_of (hq.at_ 2 rfl)
      obtain ⟨b0, b1, b2, b3, b4, b5⟩ := six_of (hq.at_ 5 rfl)
      clear hq
      go_wp2_with fail
      refine (HSB.out _).mono ?_
      rintro e w5 ⟨rfl, hb5⟩
      have hq5 := HQ.out.step hb5
      clear a0 a1 a2 a3 a4 a5
      obtain ⟨a0, a1, a2, a3, a4, a5⟩ := six_of (hq5.at_ 2 rfl)
      obtain ⟨f0, f1, f2, f3, f4, f5⟩ := six_free (hq5.at_ 2 rfl)
      by_cases hcn : cn = 0
      ·subst hcn
       have hq6 := (hq5.put6 2 rfl (.int .i64 n0) (.int .i64 n1) (.int .i64 n2) (.int .i64 n3) (.int .i64 n4) (.int .i64 n5)).sub (L' := [(w.heap.size, 38, cirL C), (w.heap.size + 1, 49, [.int .i64 0, .int .i64 0, .int .i64 0, .int .i64 0, .int .i64 0, .int .i64 0]), (w1.heap.size, 49, [.int .i64 n0, .int .i64 n1, .int .i64 n2, .int .i64 n3, .int .i64 n4, .int .i64 n5]), (w1.heap.size + 1, 253, [.string bPyth, .int .i64 p, .int .i64 q, .string bSynt, .int .i64 r, .int .i64 s])]) (by simp)
       have HRL := Lib.hid (ToR.of (j := 1 + 1) (by omega) (HNE.out (by simp)) hq6)
       clear hb5 hq5 hq6
       go_wp2
       go_roundw
       case rel => first | exact HRL.out | ((repeat apply Exists.intro); exact ⟨HRL.out, rfl⟩)
       case measure => simp [intOf]
      ·have hz : (cn != 0) = true := by simpa using hcn
       have HQ6 := Lib.hid (hq5.put6 2 rfl (.int .i64 n0) (.int .i64 n1) (.int .i64 n2) (.int .i64 n3) (.int .i64 n4) (.int .i64 n5))
       obtain ⟨z0, z1, z2, z3, z4, z5⟩ := six_of (HQ6.out.at_ 1 rfl)
       obtain ⟨y0, y1, y2, y3, y4, y5⟩ := six_free (HQ6.out.at_ 1 rfl)
       have HB := Lib.hid (HQ6.out.put6s 1 rfl (.int .i64 0) (.int .i64 0) (.int .i64 0) (.int .i64 0) (.int .i64 0) (.int .i64 0))
       clear hb5 hq5 hcn
       go_wp2
       exact bodyPost_ret (v := .tuple #[szv 0 0 0 0 0 0, .int .i64 4]) (by simp [results, Tryz.results168, go_sem, z0, z1, z2, z3, z4, z5, y0, y1, y2, y3, y4, y5]) rfl ⟨SzE.bad _ _ _ _ _ _ _ (by decide), HB.out⟩
     ·have hz : (cl != 0) = true := by simpa using hcl
      have hq5 := HQ.out
      obtain ⟨z0, z1, z2, z3, z4, z5⟩ := six_of (hq5.at_ 1 rfl)
      obtain ⟨f0, f1, f2, f3, f4, f5⟩ := six_free (hq5.at_ 1 rfl)
      have HB := Lib.hid (hq5.put6s 1 rfl (.int .i64 0) (.int .i64 0) (.int .i64 0) (.int .i64 0) (.int .i64 0) (.int .i64 0))
      clear hq5
      go_wp2
      exact bodyPost_ret (v := .tuple #[szv 0 0 0 0 0 0, .int .i64 4]) (by simp [results, Tryz.results168, go_sem, z0, z1, z2, z3, z4, z5, f0, f1, f2, f3, f4, f5]) rfl ⟨SzE.bad _ _ _ _ _ _ _ (by decide), HB.out⟩
  ·obtain rfl : j = 2 := by omega
   obtain ⟨a0, a1, a2, a3, a4, a5⟩ := six_of (hm.at_ 2 rfl)
   obtain ⟨z0, z1, z2, z3, z4, z5⟩ := six_of (hm.at_ 1 rfl)
   obtain ⟨f0, f1, f2, f3, f4, f5⟩ := six_free (hm.at_ 1 rfl)
   have HB := Lib.hid (hm.put6s 1 rfl (.int .i64 x0) (.int .i64 x1) (.int .i64 x2) (.int .i64 x3) (.int .i64 x4) (.int .i64 x5))
   clear hm
   go_wp2
   exact bodyPost_ret (v := .tuple #[szv x0 x1 x2 x3 x4 x5, .int .i64 0]) (by simp [results, Tryz.results168, go_sem, z0, z1, z2, z3, z4, z5, f0, f1, f2, f3, f4, f5]) rfl ⟨SzE.good HXE.out, HB.out⟩
def TsO (w : World) (C : Nat → Tm) (k z : Nat) (v : Value) (W : World) : Prop :=
 ∃ j : Nat, v = .int .i64 (j : Int) ∧ j ≤ k ∧ ∃ x0 x1 x2 x3 x4 x5 : Int, ivE [(x0, x1), (x2, x3), (x4, x5)] = 0 ∧ Hp w [(w.heap.size, 38, cirL C), (w.heap.size + 1, 49, [.int .i64 0, .int .i64 0, .int .i64 0, .int .i64 0, .int .i64 0, .int .i64 0]), (z, 49, [.int .i64 x0, .int .i64 x1, .int .i64 x2, .int .i64 x3, .int .i64 x4, .int .i64 x5])] W
theorem TsO.of {w : World} {C : Nat → Tm} {k z j : Nat} {x0 x1 x2 x3 x4 x5 : Int} {W : World} (hj : j ≤ k) (he : ivE [(x0, x1), (x2, x3), (x4, x5)] = 0) (h : Hp w [(w.heap.size, 38, cirL C), (w.heap.size + 1, 49, [.int .i64 0, .int .i64 0, .int .i64 0, .int .i64 0, .int .i64 0, .int .i64 0]), (z, 49, [.int .i64 x0, .int .i64 x1, .int .i64 x2, .int .i64 x3, .int .i64 x4, .int .i64 x5])] W) : TsO w C k z (.int .i64 (j : Int)) W := ⟨j, rfl, hj, _, _, _, _, _, _, he, h⟩
def TnO (w : World) (C : Nat → Tm) (K : Nat) (v : Value) (W : World) : Prop :=
 ∃ j : Nat, v = .int .i64 (j : Int) ∧ j ≤ K ∧ Hp w [(w.heap.size, 38, cirL C), (w.heap.size + 1, 49, [.int .i64 0, .int .i64 0, .int .i64 0, .int .i64 0, .int .i64 0, .int .i64 0])] W
theorem TnO.of {w : World} {C : Nat → Tm} {K j : Nat} {W : World} (hj : j ≤ K) (h : Hp w [(w.heap.size, 38, cirL C), (w.heap.size + 1, 49, [.int .i64 0, .int .i64 0, .int .i64 0, .int .i64 0, .int .i64 0, .int .i64 0])] W) : TnO w C K (.int .i64 (j : Int)) W := ⟨j, rfl, hj, h⟩
theorem ired_tot {a0 a1 a2 a3 a4 a5 : Int} (ha : ivE [(a0, a1), (a2, a3), (a4, a5)] = 0) : ∃ s0 s1 s2 s3 s4 s5 oc q, (q = 0 → ivE [(s0, s1), (s2, s3), (s4, s5)] = 0) ∧ ∀ w, Tab w → Calls Tryz.prog 149 #[szv a0 a1 a2 a3 a4 a5] w fun e w' => e = .returned (.tuple #[szv s0 s1 s2 s3 s4 s5, .int .i64 oc, .int .i64 q]) ∧ Below w.heap.size w w' := by
 obtain ⟨x, y, z, D, hp⟩ : ∃ x y z D, prt [(a0, a1), (a2, a3), (a4, a5)] = some ([x, y, z], D) := by
  obtain ⟨_, h2⟩ := ivE_cases ha
  obtain ⟨r, hr⟩ : ∃ r, prt [(a0, a1), (a2, a3), (a4, a5)] = some r := by
   cases hc : prt [(a0, a1), (a2, a3), (a4, a5)] with
   | none => exact absurd hc h2
   | some r => exact ⟨r, rfl⟩
  obtain ⟨l, D⟩ := r
  have hl : l.length = 3 := by
   unfold prt at hr
   split at hr
   ·exact absurd hr (by simp)
   ·rename_i D' _
    cases hn : prN [(a0, a1), (a2, a3), (a4, a5)] D' with
    | none => rw [hn] at hr; exact absurd hr (by simp)
    | some m =>
     rw [hn] at hr
     simp only [Option.map_some, Option.some.injEq, Prod.mk.injEq] at hr
     rw [← hr.1, prN_len hn]; rfl
  match l, hl with
  | [x, y, z], _ => exact ⟨x, y, z, D, hr⟩
 have h := fun w (ht : Tab w) => ireduce_any a0 a1 a2 a3 a4 a5 x y z D w ht ha hp
 by_cases he : ivE [(lowN (a0 * 1 - ocZ x y z D * a1) (a1 * 1), lowD (a0 * 1 - ocZ x y z D * a1) (a1 * 1)), (a2, a3), (a4, a5)] = 0
 ·refine ⟨lowN (a0 * 1 - ocZ x y z D * a1) (a1 * 1), lowD (a0 * 1 - ocZ x y z D * a1) (a1 * 1), a2, a3, a4, a5, ocZ x y z D, 0, fun _ => he, fun w ht => (h w ht).mono ?_⟩
  rintro e w' ⟨rfl, hb⟩
  exact ⟨by unfold rdR; rw [if_pos he], hb⟩
 ·refine ⟨0, 0, 0, 0, 0, 0, 0, 4, fun k => absurd k (by decide), fun w ht => (h w ht).mono ?_⟩
  rintro e w' ⟨rfl, hb⟩
  exact ⟨by unfold rdR; rw [if_neg he], hb⟩
set_option maxRecDepth 1000000 in
set_option maxHeartbeats 8000000 in
theorem tsum_tot (C : Nat → Tm) (k : Nat) (w : World) (h : RtC C) (hk : k ≤ 12) :
  Calls Tryz.prog 148 #[.agg (cirL C).toArray, .int .i64 (k : Int)] w fun e w' => SzE e ∧ Below w.heap.size w w' := by
 have HU := Lib.hid (fun W => nm_uni W)
 have HPL := Lib.hid h
 have hm0 := ((Hp.start w).new 38 (cirL C)).new 49 [.int .i64 0, .int .i64 0, .int .i64 0, .int .i64 0, .int .i64 0, .int .i64 0]
 simp only [World.size_alloc, List.nil_append, List.cons_append] at hm0
 have HM0 := Lib.hid hm0
 clear hm0 h
 go_enter Tryz.func148, Tryz.ntmps148
 go_wp2_with fail
 refine (HU.out _).mono ?_
 rintro e w1 ⟨rfl, hb1⟩
 have hm1 := (HM0.out.step hb1).new 49 [.int .i64 0, .int .i64 1, .int .i64 0, .int .i64 1, .int .i64 0, .int .i64 1]
 simp only [List.nil_append, List.cons_append] at hm1
 have HM1 := Lib.hid hm1
 clear hb1 hm1
 go_wp2_with fail
 go_loopw [12] (fun v W => TsO w C k w1.heap.size v W) (fun v _ => k - (intOf v).toNat)
 case atStart => exact ⟨0, rfl, by omega, 0, 1, 0, 1, 0, 1, ivE_one (by unfold Bx; omega), HM1.out⟩
 case round =>
  obtain ⟨j, rfl, hj, x0, x1, x2, x3, x4, x5, hxE, hm⟩ := hrel
  have HXE := Lib.hid hxE
  clear hxE
  by_cases hjl : j < k
  ·have hj12 : j < 12 := by omega
   have HFI := Lib.hid (fun W => tfifth_tot C j W HPL.out hj12)
   have HMR := Lib.hid hm
   clear hm
   go_wp2_with (refine wpList_load_row rfl 38 _ rfl w.heap.size rfl 38 (cirL C).toArray (0, 0) _ (HMR.out.at_ 0 rfl) Tryz.underlying38 rfl (by rw [infoCircle, List.size_toArray, cirL_len]) ?_)
   refine (HFI.out _).mono ?_
   rintro e w3 ⟨⟨g0, g1, g2, g3, g4, g5, cg, hgE, rfl⟩, hb3⟩
   have HGE := Lib.hid hgE
   have hm3 := (HMR.out.step hb3).new 49 [.int .i64 g0, .int .i64 g1, .int .i64 g2, .int .i64 g3, .int .i64 g4, .int .i64 g5]
   simp only [List.nil_append, List.cons_append] at hm3
   have HM3 := Lib.hid hm3
   obtain ⟨a0, a1, a2, a3, a4, a5⟩ := six_of (hm3.at_ 2 rfl)
   clear hb3 hm3 hgE
   by_cases hcg : cg = 0
   ·subst hcg
    obtain ⟨n0, n1, n2, n3, n4, n5, cn, hnE, hsb⟩ := iadd_tot HXE.out (HGE.out (by simp))
    have HAD := Lib.hid hsb
    have HNE := Lib.hid hnE
    clear hsb hnE
    go_wp2_with fail
    refine (HAD.out _).mono ?_
    rintro e w4 ⟨rfl, hb4⟩
    have hq5 := HM3.out.step hb4
    clear a0 a1 a2 a3 a4 a5
    obtain ⟨a0, a1, a2, a3, a4, a5⟩ := six_of (hq5.at_ 2 rfl)
    obtain ⟨f0, f1, f2, f3, f4, f5⟩ := six_free (hq5.at_ 2 rfl)
    by_cases hcn : cn = 0
    ·subst hcn
     have hq6 := (hq5.put6 2 rfl (.int .i64 n0) (.int .i64 n1) (.int .i64 n2) (.int .i64 n3) (.int .i64 n4) (.int .i64 n5)).sub (L' := [(w.heap.size, 38, cirL C), (w.heap.size + 1, 49, [.int .i64 0, .int .i64 0, .int .i64 0, .int .i64 0, .int .i64 0, .int .i64 0]), (w1.heap.size, 49, [.int .i64 n0, .int .i64 n1, .int .i64 n2, .int .i64 n3, .int .i64 n4, .int .i64 n5])]) (by simp)
     have HRL := Lib.hid (TsO.of (k := k) (j := j + 1) (by omega) (HNE.out (by simp)) hq6)
     clear hb4 hq5 hq6
     go_wp2
     go_roundw
     case rel => first | exact HRL.out | ((repeat apply Exists.intro); exact ⟨HRL.out, rfl⟩)
     case measure => simp [intOf]; omega
    ·have hz : (cn != 0) = true := by simpa using hcn
     have HQ6 := Lib.hid (hq5.put6 2 rfl (.int .i64 n0) (.int .i64 n1) (.int .i64 n2) (.int .i64 n3) (.int .i64 n4) (.int .i64 n5))
     obtain ⟨z0, z1, z2, z3, z4, z5⟩ := six_of (HQ6.out.at_ 1 rfl)
     obtain ⟨y0, y1, y2, y3, y4, y5⟩ := six_free (HQ6.out.at_ 1 rfl)
     have HB := Lib.hid (HQ6.out.put6s 1 rfl (.int .i64 0) (.int .i64 0) (.int .i64 0) (.int .i64 0) (.int .i64 0) (.int .i64 0))
     clear hb4 hq5 hcn
     go_wp2
     exact bodyPost_ret (v := .tuple #[szv 0 0 0 0 0 0, .int .i64 4]) (by simp [results, Tryz.results148, go_sem, z0, z1, z2, z3, z4, z5, y0, y1, y2, y3, y4, y5]) rfl ⟨SzE.bad _ _ _ _ _ _ _ (by decide), HB.out⟩
   ·have hz : (cg != 0) = true := by simpa using hcg
    have HNZ := Lib.hid hcg
    have hq5 := HM3.out
    obtain ⟨z0, z1, z2, z3, z4, z5⟩ := six_of (hq5.at_ 1 rfl)
    obtain ⟨f0, f1, f2, f3, f4, f5⟩ := six_free (hq5.at_ 1 rfl)
    have HB := Lib.hid (hq5.put6s 1 rfl (.int .i64 0) (.int .i64 0) (.int .i64 0) (.int .i64 0) (.int .i64 0) (.int .i64 0))
    clear hq5
    go_wp2
    exact bodyPost_ret (v := .tuple #[szv 0 0 0 0 0 0, .int .i64 cg]) (by simp [results, Tryz.results148, go_sem, z0, z1, z2, z3, z4, z5, f0, f1, f2, f3, f4, f5]) rfl ⟨SzE.bad _ _ _ _ _ _ _ HNZ.out, HB.out⟩
  ·obtain rfl : j = k := by omega
   obtain ⟨a0, a1, a2, a3, a4, a5⟩ := six_of (hm.at_ 2 rfl)
   obtain ⟨z0, z1, z2, z3, z4, z5⟩ := six_of (hm.at_ 1 rfl)
   obtain ⟨f0, f1, f2, f3, f4, f5⟩ := six_free (hm.at_ 1 rfl)
   have HB := Lib.hid (hm.put6s 1 rfl (.int .i64 x0) (.int .i64 x1) (.int .i64 x2) (.int .i64 x3) (.int .i64 x4) (.int .i64 x5))
   clear hm
   go_wp2
   exact bodyPost_ret (v := .tuple #[szv x0 x1 x2 x3 x4 x5, .int .i64 0]) (by simp [results, Tryz.results148, go_sem, z0, z1, z2, z3, z4, z5, f0, f1, f2, f3, f4, f5]) rfl ⟨SzE.good HXE.out, HB.out⟩
set_option maxRecDepth 1000000 in
set_option maxHeartbeats 8000000 in
theorem tnote_tot (C : Nat → Tm) (n : Nat) (w : World) (ht : Tab w) (h : RtC C) (hn : n < 12) :
  Calls Tryz.prog 122 #[.agg (cirL C).toArray, .int .i64 (n : Int)] w fun e w' => SzE e ∧ Below w.heap.size w w' := by
 obtain ⟨K, hK⟩ : ∃ K, K = 7 * n % 12 := ⟨_, rfl⟩
 have hK2 : K < 12 ∧ 7 * K % 12 = n := by omega
 have HSU := Lib.hid (fun W => tsum_tot C K W h (by omega))
 have HT := Lib.hid ht
 have HK := Lib.hid hK2
 clear hK hK2 hn h
 have hm0 := ((Hp.start w).new 38 (cirL C)).new 49 [.int .i64 0, .int .i64 0, .int .i64 0, .int .i64 0, .int .i64 0, .int .i64 0]
 simp only [World.size_alloc, List.nil_append, List.cons_append] at hm0
 have HM0 := Lib.hid hm0
 clear hm0 ht
 go_enter Tryz.func122, Tryz.ntmps122
 go_wp2_with fail
 go_loopw [6] (fun v W => TnO w C K v W) (fun v _ => K - (intOf v).toNat)
 case atStart => exact ⟨0, rfl, by omega, HM0.out⟩
 case round =>
  obtain ⟨j, rfl, hj, hm⟩ := hrel
  have hj12 : j < 12 := by have := HK.out; omega
  by_cases hjl : j < K
  ·have hne : (7 * (j : Int) % 12 != (n : Int)) = true := by
    simp only [bne_iff_ne, ne_eq]
    have := HK.out
    omega
   have HRL := Lib.hid (TnO.of (K := K) (j := j + 1) (by omega) hm)
   clear hm
   go_wp2
   go_roundw
   case rel => first | exact HRL.out | ((repeat apply Exists.intro); exact ⟨HRL.out, rfl⟩)
   case measure => simp [intOf]; omega
  ·obtain rfl : j = K := by omega
   have hne : (7 * (j : Int) % 12 != (n : Int)) = false := by
    simp only [bne_eq_false_iff_eq]
    have := HK.out
    omega
   have HMR := Lib.hid hm
   clear hm
   go_wp2_with (refine wpList_load_row rfl 38 _ rfl w.heap.size rfl 38 (cirL (C)).toArray (0, 0) _ (HMR.out.at_ 0 rfl) Tryz.underlying38 rfl (by rw [infoCircle, List.size_toArray, cirL_len]) ?_)
   refine (HSU.out _).mono ?_
   rintro e w3 ⟨⟨x0, x1, x2, x3, x4, x5, cx, hxE, rfl⟩, hb3⟩
   have HXE := Lib.hid hxE
   have hm3 := (HMR.out.step hb3).new 49 [.int .i64 x0, .int .i64 x1, .int .i64 x2, .int .i64 x3, .int .i64 x4, .int .i64 x5]
   simp only [List.nil_append, List.cons_append] at hm3
   have HM3 := Lib.hid hm3
   obtain ⟨a0, a1, a2, a3, a4, a5⟩ := six_of (hm3.at_ 2 rfl)
   clear hb3 hm3 hxE
   by_cases hcx : cx = 0
   ·subst hcx
    obtain ⟨n0, n1, n2, n3, n4, n5, oc, cn, hnE, hrd⟩ := ired_tot (HXE.out rfl)
    obtain ⟨u0, u1, u2, u3, u4, u5, cu, huE, hue⟩ := limV_out n0 n1 n2 n3 n4 n5 cn hnE
    have hl := fun W => tlimited_any n0 n1 n2 n3 n4 n5 cn W
    rw [hue] at hl
    have HL := Lib.hid hl
    have HRD := Lib.hid hrd
    have HUE := Lib.hid huE
    clear hrd hnE hl hue huE
    go_wp2_with fail
    refine (HRD.out _ (HT.out.below HM3.out.below)).mono ?_
    rintro e w4 ⟨rfl, hb4⟩
    clear a0 a1 a2 a3 a4 a5
    have hm4 := (HM3.out.step hb4).new 49 [.int .i64 n0, .int .i64 n1, .int .i64 n2, .int .i64 n3, .int .i64 n4, .int .i64 n5]
    simp only [List.nil_append, List.cons_append] at hm4
    have HM4 := Lib.hid hm4
    obtain ⟨a0, a1, a2, a3, a4, a5⟩ := six_of (hm4.at_ 3 rfl)
    clear hb4 hm4
    go_wp2_with fail
    refine (HL.out _).mono ?_
    rintro e w5 ⟨rfl, hb5⟩
    have hq5 := HM4.out.step hb5
    clear a0 a1 a2 a3 a4 a5
    obtain ⟨z0, z1, z2, z3, z4, z5⟩ := six_of (hq5.at_ 1 rfl)
    obtain ⟨f0, f1, f2, f3, f4, f5⟩ := six_free (hq5.at_ 1 rfl)
    have HB := Lib.hid (hq5.put6s 1 rfl (.int .i64 u0) (.int .i64 u1) (.int .i64 u2) (.int .i64 u3) (.int .i64 u4) (.int .i64 u5))
    clear hq5
    go_wp2
    exact bodyPost_ret (v := .tuple #[szv u0 u1 u2 u3 u4 u5, .int .i64 cu]) (by simp [results, Tryz.results122, go_sem, z0, z1, z2, z3, z4, z5, f0, f1, f2, f3, f4, f5]) rfl ⟨⟨u0, u1, u2, u3, u4, u5, cu, HUE.out, rfl⟩, HB.out⟩
   ·have hz : (cx != 0) = true := by simpa using hcx
    have HNZ := Lib.hid hcx
    have hq5 := HM3.out
    obtain ⟨z0, z1, z2, z3, z4, z5⟩ := six_of (hq5.at_ 1 rfl)
    obtain ⟨f0, f1, f2, f3, f4, f5⟩ := six_free (hq5.at_ 1 rfl)
    have HB := Lib.hid (hq5.put6s 1 rfl (.int .i64 0) (.int .i64 0) (.int .i64 0) (.int .i64 0) (.int .i64 0) (.int .i64 0))
    clear hq5
    go_wp2
    exact bodyPost_ret (v := .tuple #[szv 0 0 0 0 0 0, .int .i64 cx]) (by simp [results, Tryz.results122, go_sem, z0, z1, z2, z3, z4, z5, f0, f1, f2, f3, f4, f5]) rfl ⟨SzE.bad _ _ _ _ _ _ _ HNZ.out, HB.out⟩
end Go.Proofs.YtendjepcjmfmfaaGreatDoor
