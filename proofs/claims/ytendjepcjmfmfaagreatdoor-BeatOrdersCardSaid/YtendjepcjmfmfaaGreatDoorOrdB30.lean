/- Part 30 of 47 of the proof of the law: contracts of the functions that it reaches, and plain facts. Conditions: those that each contract names. -/
import Derived.Test.YtendjepcjmfmfaaGreatDoorOrdB28
import Derived.Test.YtendjepcjmfmfaaGreatDoorOrdB29
import Derived.Test.YtendjepcjmfmfaaGreatDoorOrdB06
import Derived.RegionTactic
import Derived.Deep.DeepCutAuto
namespace Go.Proofs.YtendjepcjmfmfaaGreatDoor
open Go.RowKit
def cirP (d : Int) (P S : Nat → Int) (i : Nat) : Tm := (lowN (P i) d, lowD (P i) d, lowN (S i) d, lowD (S i) d)
structure PlnC (d : Int) (P S : Nat → Int) : Prop where
 d : 1 ≤ d ∧ d ≤ 12
 p : ∀ i, i < 12 → -4 ≤ P i ∧ P i ≤ 4
 s : ∀ i, i < 12 → -11 ≤ S i ∧ S i ≤ 11
def stF (d p s : Int) : Nat → Int × Int × Int
 | 0 => (-d, d, 0)
 | 1 => (-d + 19 * p, d - 12 * p, 0)
 | _ => (-d + 19 * p + 4 * s, d - 12 * p - 4 * s, s)
theorem Hp.cast {w W : World} {L L' : List (Nat × TypeId × List Value)} (h : Hp w L W) (e : L = L') : Hp w L' W := by subst e; exact h
abbrev bPyth : ByteArray := ⟨#[112, 121, 116, 104, 97, 103, 111, 114, 101, 97, 110]⟩
abbrev bSynt : ByteArray := ⟨#[115, 121, 110, 116, 111, 110, 105, 99]⟩
abbrev bFifth : ByteArray := ⟨#[102, 105, 102, 116, 104]⟩
abbrev bUni : ByteArray := ⟨#[117, 110, 105, 115, 111, 110]⟩
theorem nm_fifth (w : World) : Calls Tryz.prog 167 #[.string bFifth] w fun e w' => e = .returned (szv (-1) 1 1 1 0 1) ∧ Below w.heap.size w w' :=
 tnamed_any _ _ _ _ _ _ _ 0 w (fun W => tnamed_at (-1) 1 0 W (by decide) (⟨by decide⟩ : Fac 3 0 1 0 1) (⟨by decide⟩ : Fac 2 1 0 0 1) rfl rfl rfl (by unfold Bx; omega))
theorem nm_pyth (w : World) : Calls Tryz.prog 167 #[.string bPyth] w fun e w' => e = .returned (szv (-19) 1 12 1 0 1) ∧ Below w.heap.size w w' :=
 tnamed_any _ _ _ _ _ _ _ 0 w (fun W => tnamed_at (-19) 12 0 W (by decide) (⟨by decide⟩ : Fac 531441 0 12 0 1) (⟨by decide⟩ : Fac 524288 19 0 0 1) rfl rfl rfl (by unfold Bx; omega))
theorem nm_synt (w : World) : Calls Tryz.prog 167 #[.string bSynt] w fun e w' => e = .returned (szv (-4) 1 4 1 (-1) 1) ∧ Below w.heap.size w w' :=
 tnamed_any _ _ _ _ _ _ _ 0 w (fun W => tnamed_at (-4) 4 (-1) W (by decide) (⟨by decide⟩ : Fac 81 0 4 0 1) (⟨by decide⟩ : Fac 80 4 0 1 1) rfl rfl rfl (by unfold Bx; omega))
theorem nm_uni (w : World) : Calls Tryz.prog 167 #[.string bUni] w fun e w' => e = .returned (szv 0 1 0 1 0 1) ∧ Below w.heap.size w w' :=
 tnamed_any _ _ _ _ _ _ _ 0 w (fun W => tnamed_at 0 0 0 W (by decide) (⟨by decide⟩ : Fac 1 0 0 0 1) (⟨by decide⟩ : Fac 1 0 0 0 1) rfl rfl rfl (by unfold Bx; omega))
theorem one_low {d : Int} (hd : 1 ≤ d ∧ d ≤ 240) : ([.int .i64 (-1), .int .i64 1, .int .i64 1, .int .i64 1, .int .i64 0, .int .i64 1] : List Value) = [.int .i64 (lowN (stF d 0 0 0).1 d), .int .i64 (lowD (stF d 0 0 0).1 d), .int .i64 (lowN (stF d 0 0 0).2.1 d), .int .i64 (lowD (stF d 0 0 0).2.1 d), .int .i64 (lowN (stF d 0 0 0).2.2 d), .int .i64 (lowD (stF d 0 0 0).2.2 d)] := by
 have e := fun (n m : Int) (h : n = m * d) => low_cross (n := n) (d := d) (m := m) (e := 1) (by omega) (by decide) (by rw [Int.mul_one]; exact h)
 have e1 := e (-d) (-1) (by omega)
 have e2 := e d 1 (by omega)
 have e3 := e 0 0 (by omega)
 simp only [stF]
 rw [e1.1, e1.2, e2.1, e2.2, e3.1, e3.2, (t_low_one _).1, (t_low_one _).2, (t_low_one _).1, (t_low_one _).2, (t_low_one _).1, (t_low_one _).2]
theorem t_right_low {n d : Int} (hd : 1 ≤ d ∧ d ≤ 240) (hn : -6000 ≤ n ∧ n ≤ 6000) : Right (lowN n d) (lowD n d) := (plan_prt hd hn hn hn).1 (lowN n d, lowD n d) (by simp)
abbrev TfM (w : World) (d : Int) (P S : Nat → Int) (z : Nat) (p q r s x y u : Int) (W : World) : Prop :=
 Hp w [(w.heap.size, 38, cirL (cirP d P S)), (w.heap.size + 1, 49, [.int .i64 0, .int .i64 0, .int .i64 0, .int .i64 0, .int .i64 0, .int .i64 0]),
  (z, 49, [.int .i64 (lowN x d), .int .i64 (lowD x d), .int .i64 (lowN y d), .int .i64 (lowD y d), .int .i64 (lowN u d), .int .i64 (lowD u d)]), (z + 1, 253, [.string bPyth, .int .i64 p, .int .i64 q, .string bSynt, .int .i64 r, .int .i64 s])] W
def TfR (w : World) (d : Int) (P S : Nat → Int) (i z : Nat) (p q r s : Int) (v : Value) (W : World) : Prop :=
 ∃ j : Nat, v = .int .i64 (j : Int) ∧ j ≤ 2 ∧ TfM w d P S z p q r s (stF d (P i) (S i) j).1 (stF d (P i) (S i) j).2.1 (stF d (P i) (S i) j).2.2 W
theorem TfR.of {w : World} {d : Int} {P S : Nat → Int} {i z : Nat} {p q r s x y u : Int} {j : Nat} {W : World} (hj : j ≤ 2) (h : TfM w d P S z p q r s x y u W) (e : stF d (P i) (S i) j = (x, y, u)) : TfR w d P S i z p q r s (.int .i64 (j : Int)) W :=
 ⟨j, rfl, hj, by rw [e]; exact h⟩
set_option maxRecDepth 1000000 in
set_option maxHeartbeats 8000000 in
theorem tfifth_any (d : Int) (P S : Nat → Int) (i : Nat) (w : World) (h : PlnC d P S) (hi : i < 12) :
  Calls Tryz.prog 168 #[.agg (cirL (cirP d P S)).toArray, .int .i64 (i : Int)] w fun e w' => e = .returned (.tuple #[szD (stF d (P i) (S i) 2).1 (stF d (P i) (S i) 2).2.1 (stF d (P i) (S i) 2).2.2 d, .int .i64 0]) ∧ Below w.heap.size w w' := by
 have HF := Lib.hid (fun W => nm_fifth W)
 have hm0 := ((Hp.start w).new 38 (cirL (cirP d P S))).new 49 [.int .i64 0, .int .i64 0, .int .i64 0, .int .i64 0, .int .i64 0, .int .i64 0]
 simp only [World.size_alloc, List.nil_append, List.cons_append] at hm0
 have HM0 := Lib.hid hm0
 have HDB : Hid (1 ≤ d ∧ d ≤ 240) := Lib.hid ⟨h.d.1, by have := h.d.2; omega⟩
 have HD12 := Lib.hid h.d
 have HPD := Lib.hid (h.p i hi)
 have HSD := Lib.hid (h.s i hi)
 have hi0 : (0 : Int) ≤ (i : Int) := by omega
 have hi1 : (i : Int) < 12 := by omega
 clear hm0
 go_enter Tryz.func168, Tryz.ntmps168
 go_wp2_with fail
 refine (HF.out _).mono ?_
 rintro e w1 ⟨rfl, hb1⟩
 have hm1 := (HM0.out.step hb1).new 49 [.int .i64 (-1), .int .i64 1, .int .i64 1, .int .i64 1, .int .i64 0, .int .i64 1]
 simp only [List.nil_append, List.cons_append] at hm1
 have HM1 := Lib.hid hm1
 obtain ⟨x, hx⟩ : ∃ x, x = cirP d P S i := ⟨_, rfl⟩
 have HX := Lib.hid hx
 obtain ⟨p, q, r, s⟩ := x
 have hc : ∀ j, j < 4 → (w1.alloc (.cells #[.int .i64 (-1), .int .i64 1, .int .i64 1, .int .i64 1, .int .i64 0, .int .i64 1] 49)).cell? ⟨w.heap.size, i * 4 + j, none⟩ = ([.int .i64 p, .int .i64 q, .int .i64 r, .int .i64 s] : List Value)[j]? := fun j hj => by
  rw [(hm1.at_ 0 rfl).cell (i * 4 + j), cirL_get _ hi hj, ← hx]
  rfl
 have c0 : (w1.alloc (.cells #[.int .i64 (-1), .int .i64 1, .int .i64 1, .int .i64 1, .int .i64 0, .int .i64 1] 49)).cell? ⟨w.heap.size, i * 4, none⟩ = some (.int .i64 p) := hc 0 (by decide)
 have c1 : (w1.alloc (.cells #[.int .i64 (-1), .int .i64 1, .int .i64 1, .int .i64 1, .int .i64 0, .int .i64 1] 49)).cell? ⟨w.heap.size, i * 4 + 1, none⟩ = some (.int .i64 q) := hc 1 (by decide)
 have c2 : (w1.alloc (.cells #[.int .i64 (-1), .int .i64 1, .int .i64 1, .int .i64 1, .int .i64 0, .int .i64 1] 49)).cell? ⟨w.heap.size, i * 4 + 2, none⟩ = some (.int .i64 r) := hc 2 (by decide)
 have c3 : (w1.alloc (.cells #[.int .i64 (-1), .int .i64 1, .int .i64 1, .int .i64 1, .int .i64 0, .int .i64 1] 49)).cell? ⟨w.heap.size, i * 4 + 3, none⟩ = some (.int .i64 s) := hc 3 (by decide)
 have hm2 := (hm1.new 253 [.string bPyth, .int .i64 p, .int .i64 q, .string bSynt, .int .i64 r, .int .i64 s]).drew
 clear hb1 hm1 hx hc
 go_wp2_with fail
 go_region
 clear c0 c1 c2 c3
 simp only [List.nil_append, List.cons_append, World.size_alloc] at hm2
 obtain ⟨W2, hW2⟩ : ∃ W, W = ((w1.alloc (Obj.cells #[.int .i64 (-1), .int .i64 1, .int .i64 1, .int .i64 1, .int .i64 0, .int .i64 1] 49)).alloc (Obj.cells #[.string bPyth, .int .i64 p, .int .i64 q, .string bSynt, .int .i64 r, .int .i64 s] 253)).drew := ⟨_, rfl⟩
 rw [← hW2] at hm2 ⊢
 have HM2 := Lib.hid hm2
 clear hW2 hm2
 go_wp2_with fail
 go_loopw [24] (fun v W => TfR w d P S i w1.heap.size p q r s v W) (fun v _ => 2 - (intOf v).toNat)
 case atStart => exact ⟨0, rfl, by omega, by rw [one_low HDB.out] at HM2; exact HM2.out⟩
 case round =>
  obtain ⟨j, rfl, hj, hm⟩ := hrel
  by_cases hjl : j < 2
  ·rcases (show j = 0 ∨ j = 1 by omega) with rfl | rfl
   ·have hpt := HPD.out
    have HNM := Lib.hid (fun W => nm_pyth W)
    have HSC := Lib.hid (fun W => tscale_any d W HDB.out (-19) 12 (0) (P i) (by unfold Bx; omega) (by unfold Bx; omega) (t_right_low HDB.out (by omega)))
    have HSB := Lib.hid (fun W => by
     have := tsub_any (-d) (d) (0) ((-19) * P i) ((12) * P i) ((0) * P i) d W HDB.out (by unfold Bx; have := HPD.out; have := HDB.out; omega) (by unfold Bx; omega) (by unfold Bx; have := HPD.out; have := HD12.out; omega)
     rw [show (-d) - ((-19) * P i) = -d + 19 * P i by omega, show (d) - ((12) * P i) = d - 12 * P i by omega, show (0) - ((0) * P i) = 0 by omega] at this
     exact this)
    rw [show lowN (P i) d = p from (congrArg Prod.fst HX.out).symm, show lowD (P i) d = q from (congrArg (fun x : Tm => x.2.1) HX.out).symm] at HSC
    dsimp only [szD] at HSC HSB
    change TfM w d P S w1.heap.size p q r s (-d) (d) (0) wr at hm
    unfold TfM at hm
    obtain ⟨l0, hl0⟩ : ∃ y : Int, y = lowN ((-19) * P i) d := ⟨_, rfl⟩
    obtain ⟨l1, hl1⟩ : ∃ y : Int, y = lowD ((-19) * P i) d := ⟨_, rfl⟩
    obtain ⟨l2, hl2⟩ : ∃ y : Int, y = lowN ((12) * P i) d := ⟨_, rfl⟩
    obtain ⟨l3, hl3⟩ : ∃ y : Int, y = lowD ((12) * P i) d := ⟨_, rfl⟩
    obtain ⟨l4, hl4⟩ : ∃ y : Int, y = lowN ((0) * P i) d := ⟨_, rfl⟩
    obtain ⟨l5, hl5⟩ : ∃ y : Int, y = lowD ((0) * P i) d := ⟨_, rfl⟩
    try rw [← hl0] at HSC
    try rw [← hl1] at HSC
    try rw [← hl2] at HSC
    try rw [← hl3] at HSC
    try rw [← hl4] at HSC
    try rw [← hl5] at HSC
    try rw [← hl0] at HSB
    try rw [← hl1] at HSB
    try rw [← hl2] at HSB
    try rw [← hl3] at HSB
    try rw [← hl4] at HSB
    try rw [← hl5] at HSB
    obtain ⟨x0, hx0⟩ : ∃ y : Int, y = lowN (-d) d := ⟨_, rfl⟩
    obtain ⟨x1, hx1⟩ : ∃ y : Int, y = lowD (-d) d := ⟨_, rfl⟩
    obtain ⟨x2, hx2⟩ : ∃ y : Int, y = lowN (d) d := ⟨_, rfl⟩
    obtain ⟨x3, hx3⟩ : ∃ y : Int, y = lowD (d) d := ⟨_, rfl⟩
    obtain ⟨x4, hx4⟩ : ∃ y : Int, y = lowN (0) d := ⟨_, rfl⟩
    obtain ⟨x5, hx5⟩ : ∃ y : Int, y = lowD (0) d := ⟨_, rfl⟩
    try rw [← hx0] at HSB
    try rw [← hx1] at HSB
    try rw [← hx2] at HSB
    try rw [← hx3] at HSB
    try rw [← hx4] at HSB
    try rw [← hx5] at HSB
    rw [← hx0] at hm
    rw [← hx1] at hm
    rw [← hx2] at hm
    rw [← hx3] at hm
    rw [← hx4] at hm
    rw [← hx5] at hm
    obtain ⟨n0, hn0⟩ : ∃ y : Int, y = lowN (-d + 19 * P i) d := ⟨_, rfl⟩
    obtain ⟨n1, hn1⟩ : ∃ y : Int, y = lowD (-d + 19 * P i) d := ⟨_, rfl⟩
    obtain ⟨n2, hn2⟩ : ∃ y : Int, y = lowN (d - 12 * P i) d := ⟨_, rfl⟩
    obtain ⟨n3, hn3⟩ : ∃ y : Int, y = lowD (d - 12 * P i) d := ⟨_, rfl⟩
    obtain ⟨n4, hn4⟩ : ∃ y : Int, y = lowN (0) d := ⟨_, rfl⟩
    obtain ⟨n5, hn5⟩ : ∃ y : Int, y = lowD (0) d := ⟨_, rfl⟩
    try rw [← hn0] at HSB
    try rw [← hn1] at HSB
    try rw [← hn2] at HSB
    try rw [← hn3] at HSB
    try rw [← hn4] at HSB
    try rw [← hn5] at HSB
    have HN0 : Hid (n0 = lowN (-d + 19 * P i) d) := Lib.hid hn0
    have HN1 : Hid (n1 = lowD (-d + 19 * P i) d) := Lib.hid hn1
    have HN2 : Hid (n2 = lowN (d - 12 * P i) d) := Lib.hid hn2
    have HN3 : Hid (n3 = lowD (d - 12 * P i) d) := Lib.hid hn3
    have HN4 : Hid (x4 = lowN (0) d) := Lib.hid hx4
    have HN5 : Hid (x5 = lowD (0) d) := Lib.hid hx5
    clear hl0 hl1 hl2 hl3 hl4 hl5 hx0 hx1 hx2 hx3 hx4 hx5 hn0 hn1 hn2 hn3 hn4 hn5
    have z0 : wr.cell? ⟨w1.heap.size + 1, 0, none⟩ = some (.string bPyth) := (hm.at_ 3 rfl).cell 0
    have z1 : wr.cell? ⟨w1.heap.size + 1, 1, none⟩ = some (.int .i64 p) := (hm.at_ 3 rfl).cell 1
    have z2 : wr.cell? ⟨w1.heap.size + 1, 2, none⟩ = some (.int .i64 q) := (hm.at_ 3 rfl).cell 2
    have hmx := hm.new 253 [.string bPyth, .int .i64 p, .int .i64 q]
    simp only [List.nil_append, List.cons_append] at hmx
    have HMX : Hid (Hp w [(w.heap.size, 38, cirL (cirP d P S)), (w.heap.size + 1, 49, [.int .i64 0, .int .i64 0, .int .i64 0, .int .i64 0, .int .i64 0, .int .i64 0]), (w1.heap.size, 49, [.int .i64 x0, .int .i64 x1, .int .i64 x2, .int .i64 x3, .int .i64 x4, .int .i64 x5]), (w1.heap.size + 1, 253, [.string bPyth, .int .i64 p, .int .i64 q, .string bSynt, .int .i64 r, .int .i64 s]), (wr.heap.size, 253, [.string bPyth, .int .i64 p, .int .i64 q])] (wr.alloc (.cells #[.string bPyth, .int .i64 p, .int .i64 q] 253))) := Lib.hid hmx
    clear hm hmx hpt
    go_upto_region 5 with fail
    clear z0 z1 z2
    refine wp_regionJ 12 #[false, false, false, false, false, false, false, false, false, false, false, false] (fun l a W => ∃ (m0 m1 m2 m3 m4 m5 m6 m7 m8 m9 m10 m11 : Bool) (gq : Nat), l = #[m0, m1, m2, m3, m4, m5, m6, m7, m8, m9, m10, m11] ∧ a = ({ tmps := #[Value.agg (cirL (cirP d P S)).toArray, Value.int IntKind.i64 (i : Int), Value.pointer (some { block := w.heap.size, off := 0 }), undef, Value.pointer (some { block := w.heap.size + 1, off := 0 }), u5, Value.pointer (some { block := w1.heap.size, off := 0 }), undef, Value.pointer (some { block := wr.heap.size, off := 0 }), cwX m9 (Value.pointer (some { block := gq, off := 0 })) (u9), cwX m11 (.int .i64 0) (u10), szv (-1) 1 1 1 0 1, Value.int IntKind.i64 (i : Int), Value.pointer (some { block := w.heap.size, off := i * 4 }), Value.pointer (some { block := w.heap.size, off := i * 4 }), Value.agg #[Value.int IntKind.i64 p, Value.int IntKind.i64 q], Value.agg #[Value.string bPyth, Value.int IntKind.i64 p, Value.int IntKind.i64 q], Value.int IntKind.i64 (i : Int), Value.pointer (some { block := w.heap.size, off := i * 4 }), Value.pointer (some { block := w.heap.size, off := i * 4 + 2 }), Value.agg #[Value.int IntKind.i64 r, Value.int IntKind.i64 s], Value.agg #[Value.string bSynt, Value.int IntKind.i64 r, Value.int IntKind.i64 s], Value.slice (some { block := w1.heap.size + 1, off := 0 }) 2 2, Value.int IntKind.i64 2, Value.int IntKind.i64 0, Value.bool true, Value.pointer (some { block := w1.heap.size + 1, off := 0 }), Value.agg #[Value.string bPyth, Value.int IntKind.i64 p, Value.int IntKind.i64 q], cwX m6 (.tuple #[szv l0 l1 l2 l3 l4 l5, .int .i64 0]) (u28), cwX m0 (Value.pointer (some { block := wr.heap.size, off := 0 })) (u29), cwX m1 (.string bPyth) (u30), cwX m2 (szv (-19) 1 12 1 (0) 1) (u31), cwX m3 (Value.pointer (some { block := wr.heap.size, off := 1 })) (u32), cwX m4 (.agg #[.int .i64 p, .int .i64 q]) (u33), cwX m5 (.tuple #[szv l0 l1 l2 l3 l4 l5, .int .i64 0]) (u34), cwX m7 (szv l0 l1 l2 l3 l4 l5) (u35), cwX m8 (.int .i64 0) (u36), u37, u38, u39, u40, u41, u42, u43, u44, u45, u46, u47, u48, u49, undef], defers := [] } : Act) ∧ (m10 = true → m9 = true) ∧ BxP w ([(w.heap.size, 38, cirL (cirP d P S)), (w.heap.size + 1, 49, [.int .i64 0, .int .i64 0, .int .i64 0, .int .i64 0, .int .i64 0, .int .i64 0]), (w1.heap.size, 49, [.int .i64 x0, .int .i64 x1, .int .i64 x2, .int .i64 x3, .int .i64 x4, .int .i64 x5]), (w1.heap.size + 1, 253, [.string bPyth, .int .i64 p, .int .i64 q, .string bSynt, .int .i64 r, .int .i64 s]), (wr.heap.size, 253, [.string bPyth, .int .i64 p, .int .i64 q])]) (wr.alloc (.cells #[.string bPyth, .int .i64 p, .int .i64 q] 253)).heap.size 49 [.int .i64 0, .int .i64 0, .int .i64 0, .int .i64 0, .int .i64 0, .int .i64 0] [.int .i64 l0, .int .i64 l1, .int .i64 l2, .int .i64 l3, .int .i64 l4, .int .i64 l5] m9 m10 gq W) (by kernel_rfl) (by kernel_rfl) (by kernel_rfl) (by kernel_rfl) ?_ ?_ ?_ ?_
    ·rintro l a W ⟨m0, m1, m2, m3, m4, m5, m6, m7, m8, m9, m10, m11, gq, rfl, _⟩
     rfl
    ·exact ⟨false, false, false, false, false, false, false, false, false, false, false, false, 0, rfl, rfl, fun h => absurd h (by simp), ((BxP.start HMX.out).step (bw_drew (Below.refl _ _)))⟩
    ·rintro l a W i o ⟨m0, m1, m2, m3, m4, m5, m6, m7, m8, m9, m10, m11, gq, rfl, rfl, hi0, hm⟩ ho hun hall K hK
     have hi : i < 12 := (Array.getElem?_eq_some_iff.1 ho).1
     have HM := Lib.hid hm
     have HI := Lib.hid hi0
     clear hm hi0
     rcases (show i = 0 ∨ i = 1 ∨ i = 2 ∨ i = 3 ∨ i = 4 ∨ i = 5 ∨ i = 6 ∨ i = 7 ∨ i = 8 ∨ i = 9 ∨ i = 10 ∨ i = 11 by omega) with rfl | rfl | rfl | rfl | rfl | rfl | rfl | rfl | rfl | rfl | rfl | rfl
     ·cases ho
      simp at hun; subst hun
      clear hall hi
      go_simp
      exact hK.out _ _ ⟨true, m1, m2, m3, m4, m5, m6, m7, m8, m9, m10, m11, gq, rfl, rfl, by have h0 := HI.out; exact fun e => by first | rfl | exact h0 e, HM.out⟩
     ·cases ho
      cases (getBX hall 0 rfl : m0 = true)
      simp at hun; subst hun
      clear hall hi
      have q0 : W.cell? ⟨wr.heap.size, 0, none⟩ = some (.string bPyth) := (HM.out.hp.at_ 4 rfl).cell 0
      go_simp
      exact hK.out _ _ ⟨true, true, m2, m3, m4, m5, m6, m7, m8, m9, m10, m11, gq, rfl, rfl, by have h0 := HI.out; exact fun e => by first | rfl | exact h0 e, HM.out⟩
     ·cases ho
      cases (getBX hall 1 rfl : m1 = true)
      simp at hun; subst hun
      clear hall hi
      go_simp
      refine (HNM.out _).mono ?_
      rintro e W' ⟨rfl, hb⟩
      exact hK.out _ _ ⟨m0, true, true, m3, m4, m5, m6, m7, m8, m9, m10, m11, gq, rfl, rfl, by have h0 := HI.out; exact fun e => by first | rfl | exact h0 e, HM.out.step hb⟩
     ·cases ho
      simp at hun; subst hun
      clear hall hi
      go_simp
      exact hK.out _ _ ⟨m0, m1, m2, true, m4, m5, m6, m7, m8, m9, m10, m11, gq, rfl, rfl, by have h0 := HI.out; exact fun e => by first | rfl | exact h0 e, HM.out⟩
     ·cases ho
      cases (getBX hall 3 rfl : m3 = true)
      simp at hun; subst hun
      clear hall hi
      have q1 : W.cell? ⟨wr.heap.size, 1, none⟩ = some (.int .i64 p) := (HM.out.hp.at_ 4 rfl).cell 1
      have q2 : W.cell? ⟨wr.heap.size, 2, none⟩ = some (.int .i64 q) := (HM.out.hp.at_ 4 rfl).cell 2
      go_simp
      exact hK.out _ _ ⟨m0, m1, m2, true, true, m5, m6, m7, m8, m9, m10, m11, gq, rfl, rfl, by have h0 := HI.out; exact fun e => by first | rfl | exact h0 e, HM.out⟩
     ·cases ho
      cases (getBX hall 2 rfl : m2 = true)
      cases (getBX hall 4 rfl : m4 = true)
      simp at hun; subst hun
      clear hall hi
      go_simp
      refine (HSC.out _).mono ?_
      rintro e W' ⟨rfl, hb⟩
      exact hK.out _ _ ⟨m0, m1, true, m3, true, true, m6, m7, m8, m9, m10, m11, gq, rfl, rfl, by have h0 := HI.out; exact fun e => by first | rfl | exact h0 e, HM.out.step hb⟩
     ·cases ho
      cases (getBX hall 5 rfl : m5 = true)
      simp at hun; subst hun
      clear hall hi
      go_simp
      exact hK.out _ _ ⟨m0, m1, m2, m3, m4, true, true, m7, m8, m9, m10, m11, gq, rfl, rfl, by have h0 := HI.out; exact fun e => by first | rfl | exact h0 e, HM.out⟩
     ·cases ho
      cases (getBX hall 6 rfl : m6 = true)
      simp at hun; subst hun
      clear hall hi
      go_simp
      exact hK.out _ _ ⟨m0, m1, m2, m3, m4, m5, true, true, m8, m9, m10, m11, gq, rfl, rfl, by have h0 := HI.out; exact fun e => by first | rfl | exact h0 e, HM.out⟩
     ·cases ho
      cases (getBX hall 6 rfl : m6 = true)
      simp at hun; subst hun
      clear hall hi
      go_simp
      exact hK.out _ _ ⟨m0, m1, m2, m3, m4, m5, true, m7, true, m9, m10, m11, gq, rfl, rfl, by have h0 := HI.out; exact fun e => by first | rfl | exact h0 e, HM.out⟩
     ·cases ho
      simp at hun; subst hun
      clear hall hi
      obtain rfl : m10 = false := by
       cases m10
       ·rfl
       ·exact absurd (HI.out rfl) (by simp)
      have HN := Lib.hid HM.out.new
      go_simp
      exact hK.out _ _ ⟨m0, m1, m2, m3, m4, m5, m6, m7, m8, true, false, m11, W.heap.size, rfl, rfl, by have h0 := HI.out; exact fun e => by first | rfl | exact h0 e, HN.out⟩
     ·cases ho
      cases (getBX hall 5 rfl : m5 = true)
      cases (getBX hall 7 rfl : m7 = true)
      cases (getBX hall 9 rfl : m9 = true)
      simp at hun; subst hun
      clear hall hi
      have z0 := (HM.out.b rfl rfl).cell 0
      have f0 := (HM.out.b rfl rfl).frozen 0
      have z1 := (HM.out.b rfl rfl).cell 1
      have f1 := (HM.out.b rfl rfl).frozen 1
      have z2 := (HM.out.b rfl rfl).cell 2
      have f2 := (HM.out.b rfl rfl).frozen 2
      have z3 := (HM.out.b rfl rfl).cell 3
      have f3 := (HM.out.b rfl rfl).frozen 3
      have z4 := (HM.out.b rfl rfl).cell 4
      have f4 := (HM.out.b rfl rfl).frozen 4
      have z5 := (HM.out.b rfl rfl).cell 5
      have f5 := (HM.out.b rfl rfl).frozen 5
      simp only [List.getElem?_cons_succ, List.getElem?_cons_zero] at z0 z1 z2 z3 z4 z5
      have HN := Lib.hid (HM.out.put6 (by rw [World.size_alloc]; have := HMX.out.below.size; rw [World.size_alloc] at this; omega))
      go_simp
      exact hK.out _ _ ⟨m0, m1, m2, m3, m4, true, m6, true, m8, true, true, m11, gq, rfl, rfl, by have h0 := HI.out; exact fun e => by first | rfl | exact h0 e, HN.out⟩
     ·cases ho
      cases (getBX hall 8 rfl : m8 = true)
      cases (getBX hall 10 rfl : m10 = true)
      simp at hun; subst hun
      clear hall hi
      go_simp
      exact hK.out _ _ ⟨m0, m1, m2, m3, m4, m5, m6, m7, true, m9, true, true, gq, rfl, rfl, by have h0 := HI.out; exact fun e => by first | rfl | exact h0 e, HM.out⟩
    ·rintro l a W ⟨m0, m1, m2, m3, m4, m5, m6, m7, m8, m9, m10, m11, gq, rfl, rfl, _, hm⟩ hall
     cases (hall 0 (by decide) : m0 = true)
     cases (hall 1 (by decide) : m1 = true)
     cases (hall 2 (by decide) : m2 = true)
     cases (hall 3 (by decide) : m3 = true)
     cases (hall 4 (by decide) : m4 = true)
     cases (hall 5 (by decide) : m5 = true)
     cases (hall 6 (by decide) : m6 = true)
     cases (hall 7 (by decide) : m7 = true)
     cases (hall 8 (by decide) : m8 = true)
     cases (hall 9 (by decide) : m9 = true)
     cases (hall 10 (by decide) : m10 = true)
     cases (hall 11 (by decide) : m11 = true)
     clear hall
     have HQ := Lib.hid (hm.done (by rw [World.size_alloc]; have := HMX.out.below.size; rw [World.size_alloc] at this; omega))
     simp only [List.nil_append, List.cons_append] at HQ
     clear hm
     dsimp only [cwX, cond_true]
     have hq := HQ.out
     obtain ⟨a0, a1, a2, a3, a4, a5⟩ := six_of (hq.at_ 2 rfl)
     obtain ⟨b0, b1, b2, b3, b4, b5⟩ := six_of (hq.at_ 5 rfl)
     clear hq
     go_wp2_with fail
     refine (HSB.out _).mono ?_
     rintro e w5 ⟨rfl, hb5⟩
     have hq5 := HQ.out.step hb5
     obtain ⟨a0, a1, a2, a3, a4, a5⟩ := six_of (hq5.at_ 2 rfl)
     obtain ⟨f0, f1, f2, f3, f4, f5⟩ := six_free (hq5.at_ 2 rfl)
     have hq6 := (hq5.put6 2 rfl (.int .i64 n0) (.int .i64 n1) (.int .i64 n2) (.int .i64 n3) (.int .i64 x4) (.int .i64 x5)).sub (L' := [(w.heap.size, 38, cirL (cirP d P S)), (w.heap.size + 1, 49, [.int .i64 0, .int .i64 0, .int .i64 0, .int .i64 0, .int .i64 0, .int .i64 0]), (w1.heap.size, 49, [.int .i64 n0, .int .i64 n1, .int .i64 n2, .int .i64 n3, .int .i64 x4, .int .i64 x5]), (w1.heap.size + 1, 253, [.string bPyth, .int .i64 p, .int .i64 q, .string bSynt, .int .i64 r, .int .i64 s])]) (by simp)
     have HRL := Lib.hid (TfR.of (i := i) (S := S) (P := P) (j := 0 + 1) (by omega) (hq6.cast (L' := [(w.heap.size, 38, cirL (cirP d P S)), (w.heap.size + 1, 49, [.int .i64 0, .int .i64 0, .int .i64 0, .int .i64 0, .int .i64 0, .int .i64 0]), (w1.heap.size, 49, [.int .i64 (lowN (-d + 19 * P i) d), .int .i64 (lowD (-d + 19 * P i) d), .int .i64 (lowN (d - 12 * P i) d), .int .i64 (lowD (d - 12 * P i) d), .int .i64 (lowN (0) d), .int .i64 (lowD (0) d)]), (w1.heap.size + 1, 253, [.string bPyth, .int .i64 p, .int .i64 q, .string bSynt, .int .i64 r, .int .i64 s])]) (by rw [HN0.out, HN1.out, HN2.out, HN3.out, HN4.out, HN5.out])) rfl)
     clear hb5 hq5 hq6
     go_wp2
     go_roundw
     case rel => first | exact HRL.out | ((repeat apply Exists.intro); exact ⟨HRL.out, rfl⟩)
     case measure => simp [intOf]
   ·have hpt := HSD.out
    have HNM := Lib.hid (fun W => nm_synt W)
    have HSC := Lib.hid (fun W => tscale_any d W HDB.out (-4) 4 (-1) (S i) (by unfold Bx; omega) (by unfold Bx; omega) (t_right_low HDB.out (by omega)))
    have HSB := Lib.hid (fun W => by
     have := tsub_any (-d + 19 * P i) (d - 12 * P i) (0) ((-4) * S i) ((4) * S i) ((-1) * S i) d W HDB.out (by unfold Bx; have := HPD.out; have := HDB.out; omega) (by unfold Bx; omega) (by unfold Bx; have := HPD.out; have := HD12.out; omega)
     rw [show (-d + 19 * P i) - ((-4) * S i) = -d + 19 * P i + 4 * S i by omega, show (d - 12 * P i) - ((4) * S i) = d - 12 * P i - 4 * S i by omega, show (0) - ((-1) * S i) = S i by omega] at this
     exact this)
    rw [show lowN (S i) d = r from (congrArg (fun x : Tm => x.2.2.1) HX.out).symm, show lowD (S i) d = s from (congrArg (fun x : Tm => x.2.2.2) HX.out).symm] at HSC
    dsimp only [szD] at HSC HSB
    change TfM w d P S w1.heap.size p q r s (-d + 19 * P i) (d - 12 * P i) (0) wr at hm
    unfold TfM at hm
    obtain ⟨l0, hl0⟩ : ∃ y : Int, y = lowN ((-4) * S i) d := ⟨_, rfl⟩
    obtain ⟨l1, hl1⟩ : ∃ y : Int, y = lowD ((-4) * S i) d := ⟨_, rfl⟩
    obtain ⟨l2, hl2⟩ : ∃ y : Int, y = lowN ((4) * S i) d := ⟨_, rfl⟩
    obtain ⟨l3, hl3⟩ : ∃ y : Int, y = lowD ((4) * S i) d := ⟨_, rfl⟩
    obtain ⟨l4, hl4⟩ : ∃ y : Int, y = lowN ((-1) * S i) d := ⟨_, rfl⟩
    obtain ⟨l5, hl5⟩ : ∃ y : Int, y = lowD ((-1) * S i) d := ⟨_, rfl⟩
    try rw [← hl0] at HSC
    try rw [← hl1] at HSC
    try rw [← hl2] at HSC
    try rw [← hl3] at HSC
    try rw [← hl4] at HSC
    try rw [← hl5] at HSC
    try rw [← hl0] at HSB
    try rw [← hl1] at HSB
    try rw [← hl2] at HSB
    try rw [← hl3] at HSB
    try rw [← hl4] at HSB
    try rw [← hl5] at HSB
    obtain ⟨x0, hx0⟩ : ∃ y : Int, y = lowN (-d + 19 * P i) d := ⟨_, rfl⟩
    obtain ⟨x1, hx1⟩ : ∃ y : Int, y = lowD (-d + 19 * P i) d := ⟨_, rfl⟩
    obtain ⟨x2, hx2⟩ : ∃ y : Int, y = lowN (d - 12 * P i) d := ⟨_, rfl⟩
    obtain ⟨x3, hx3⟩ : ∃ y : Int, y = lowD (d - 12 * P i) d := ⟨_, rfl⟩
    obtain ⟨x4, hx4⟩ : ∃ y : Int, y = lowN (0) d := ⟨_, rfl⟩
    obtain ⟨x5, hx5⟩ : ∃ y : Int, y = lowD (0) d := ⟨_, rfl⟩
    try rw [← hx0] at HSB
    try rw [← hx1] at HSB
    try rw [← hx2] at HSB
    try rw [← hx3] at HSB
    try rw [← hx4] at HSB
    try rw [← hx5] at HSB
    rw [← hx0] at hm
    rw [← hx1] at hm
    rw [← hx2] at hm
    rw [← hx3] at hm
    rw [← hx4] at hm
    rw [← hx5] at hm
    obtain ⟨n0, hn0⟩ : ∃ y : Int, y = lowN (-d + 19 * P i + 4 * S i) d := ⟨_, rfl⟩
    obtain ⟨n1, hn1⟩ : ∃ y : Int, y = lowD (-d + 19 * P i + 4 * S i) d := ⟨_, rfl⟩
    obtain ⟨n2, hn2⟩ : ∃ y : Int, y = lowN (d - 12 * P i - 4 * S i) d := ⟨_, rfl⟩
    obtain ⟨n3, hn3⟩ : ∃ y : Int, y = lowD (d - 12 * P i - 4 * S i) d := ⟨_, rfl⟩
    obtain ⟨n4, hn4⟩ : ∃ y : Int, y = lowN (S i) d := ⟨_, rfl⟩
    obtain ⟨n5, hn5⟩ : ∃ y : Int, y = lowD (S i) d := ⟨_, rfl⟩
    try rw [← hn0] at HSB
    try rw [← hn1] at HSB
    try rw [← hn2] at HSB
    try rw [← hn3] at HSB
    try rw [← hn4] at HSB
    try rw [← hn5] at HSB
    have HN0 : Hid (n0 = lowN (-d + 19 * P i + 4 * S i) d) := Lib.hid hn0
    have HN1 : Hid (n1 = lowD (-d + 19 * P i + 4 * S i) d) := Lib.hid hn1
    have HN2 : Hid (n2 = lowN (d - 12 * P i - 4 * S i) d) := Lib.hid hn2
    have HN3 : Hid (n3 = lowD (d - 12 * P i - 4 * S i) d) := Lib.hid hn3
    have HN4 : Hid (n4 = lowN (S i) d) := Lib.hid hn4
    have HN5 : Hid (n5 = lowD (S i) d) := Lib.hid hn5
    clear hl0 hl1 hl2 hl3 hl4 hl5 hx0 hx1 hx2 hx3 hx4 hx5 hn0 hn1 hn2 hn3 hn4 hn5
    have z0 : wr.cell? ⟨w1.heap.size + 1, 3, none⟩ = some (.string bSynt) := (hm.at_ 3 rfl).cell 3
    have z1 : wr.cell? ⟨w1.heap.size + 1, 4, none⟩ = some (.int .i64 r) := (hm.at_ 3 rfl).cell 4
    have z2 : wr.cell? ⟨w1.heap.size + 1, 5, none⟩ = some (.int .i64 s) := (hm.at_ 3 rfl).cell 5
    have hmx := hm.new 253 [.string bSynt, .int .i64 r, .int .i64 s]
    simp only [List.nil_append, List.cons_append] at hmx
    have HMX : Hid (Hp w [(w.heap.size, 38, cirL (cirP d P S)), (w.heap.size + 1, 49, [.int .i64 0, .int .i64 0, .int .i64 0, .int .i64 0, .int .i64 0, .int .i64 0]), (w1.heap.size, 49, [.int .i64 x0, .int .i64 x1, .int .i64 x2, .int .i64 x3, .int .i64 x4, .int .i64 x5]), (w1.heap.size + 1, 253, [.string bPyth, .int .i64 p, .int .i64 q, .string bSynt, .int .i64 r, .int .i64 s]), (wr.heap.size, 253, [.string bSynt, .int .i64 r, .int .i64 s])] (wr.alloc (.cells #[.string bSynt, .int .i64 r, .int .i64 s] 253))) := Lib.hid hmx
    clear hm hmx hpt
    go_upto_region 5 with fail
    clear z0 z1 z2
    refine wp_regionJ 12 #[false, false, false, false, false, false, false, false, false, false, false, false] (fun l a W => ∃ (m0 m1 m2 m3 m4 m5 m6 m7 m8 m9 m10 m11 : Bool) (gq : Nat), l = #[m0, m1, m2, m3, m4, m5, m6, m7, m8, m9, m10, m11] ∧ a = ({ tmps := #[Value.agg (cirL (cirP d P S)).toArray, Value.int IntKind.i64 (i : Int), Value.pointer (some { block := w.heap.size, off := 0 }), undef, Value.pointer (some { block := w.heap.size + 1, off := 0 }), u5, Value.pointer (some { block := w1.heap.size, off := 0 }), undef, Value.pointer (some { block := wr.heap.size, off := 0 }), cwX m9 (Value.pointer (some { block := gq, off := 0 })) (u9), cwX m11 (.int .i64 0) (u10), szv (-1) 1 1 1 0 1, Value.int IntKind.i64 (i : Int), Value.pointer (some { block := w.heap.size, off := i * 4 }), Value.pointer (some { block := w.heap.size, off := i * 4 }), Value.agg #[Value.int IntKind.i64 p, Value.int IntKind.i64 q], Value.agg #[Value.string bPyth, Value.int IntKind.i64 p, Value.int IntKind.i64 q], Value.int IntKind.i64 (i : Int), Value.pointer (some { block := w.heap.size, off := i * 4 }), Value.pointer (some { block := w.heap.size, off := i * 4 + 2 }), Value.agg #[Value.int IntKind.i64 r, Value.int IntKind.i64 s], Value.agg #[Value.string bSynt, Value.int IntKind.i64 r, Value.int IntKind.i64 s], Value.slice (some { block := w1.heap.size + 1, off := 0 }) 2 2, Value.int IntKind.i64 2, Value.int IntKind.i64 1, Value.bool true, Value.pointer (some { block := w1.heap.size + 1, off := 3 }), Value.agg #[Value.string bSynt, Value.int IntKind.i64 r, Value.int IntKind.i64 s], cwX m6 (.tuple #[szv l0 l1 l2 l3 l4 l5, .int .i64 0]) (u28), cwX m0 (Value.pointer (some { block := wr.heap.size, off := 0 })) (u29), cwX m1 (.string bSynt) (u30), cwX m2 (szv (-4) 1 4 1 (-1) 1) (u31), cwX m3 (Value.pointer (some { block := wr.heap.size, off := 1 })) (u32), cwX m4 (.agg #[.int .i64 r, .int .i64 s]) (u33), cwX m5 (.tuple #[szv l0 l1 l2 l3 l4 l5, .int .i64 0]) (u34), cwX m7 (szv l0 l1 l2 l3 l4 l5) (u35), cwX m8 (.int .i64 0) (u36), u37, u38, u39, u40, u41, u42, u43, u44, u45, u46, u47, u48, u49, undef], defers := [] } : Act) ∧ (m10 = true → m9 = true) ∧ BxP w ([(w.heap.size, 38, cirL (cirP d P S)), (w.heap.size + 1, 49, [.int .i64 0, .int .i64 0, .int .i64 0, .int .i64 0, .int .i64 0, .int .i64 0]), (w1.heap.size, 49, [.int .i64 x0, .int .i64 x1, .int .i64 x2, .int .i64 x3, .int .i64 x4, .int .i64 x5]), (w1.heap.size + 1, 253, [.string bPyth, .int .i64 p, .int .i64 q, .string bSynt, .int .i64 r, .int .i64 s]), (wr.heap.size, 253, [.string bSynt, .int .i64 r, .int .i64 s])]) (wr.alloc (.cells #[.string bSynt, .int .i64 r, .int .i64 s] 253)).heap.size 49 [.int .i64 0, .int .i64 0, .int .i64 0, .int .i64 0, .int .i64 0, .int .i64 0] [.int .i64 l0, .int .i64 l1, .int .i64 l2, .int .i64 l3, .int .i64 l4, .int .i64 l5] m9 m10 gq W) (by kernel_rfl) (by kernel_rfl) (by kernel_rfl) (by kernel_rfl) ?_ ?_ ?_ ?_
    ·rintro l a W ⟨m0, m1, m2, m3, m4, m5, m6, m7, m8, m9, m10, m11, gq, rfl, _⟩
     rfl
    ·exact ⟨false, false, false, false, false, false, false, false, false, false, false, false, 0, rfl, rfl, fun h => absurd h (by simp), ((BxP.start HMX.out).step (bw_drew (Below.refl _ _)))⟩
    ·rintro l a W i o ⟨m0, m1, m2, m3, m4, m5, m6, m7, m8, m9, m10, m11, gq, rfl, rfl, hi0, hm⟩ ho hun hall K hK
     have hi : i < 12 := (Array.getElem?_eq_some_iff.1 ho).1
     have HM := Lib.hid hm
     have HI := Lib.hid hi0
     clear hm hi0
     rcases (show i = 0 ∨ i = 1 ∨ i = 2 ∨ i = 3 ∨ i = 4 ∨ i = 5 ∨ i = 6 ∨ i = 7 ∨ i = 8 ∨ i = 9 ∨ i = 10 ∨ i = 11 by omega) with rfl | rfl | rfl | rfl | rfl | rfl | rfl | rfl | rfl | rfl | rfl | rfl
     ·cases ho
      simp at hun; subst hun
      clear hall hi
      go_simp
      exact hK.out _ _ ⟨true, m1, m2, m3, m4, m5, m6, m7, m8, m9, m10, m11, gq, rfl, rfl, by have h0 := HI.out; exact fun e => by first | rfl | exact h0 e, HM.out⟩
     ·cases ho
      cases (getBX hall 0 rfl : m0 = true)
      simp at hun; subst hun
      clear hall hi
      have q0 : W.cell? ⟨wr.heap.size, 0, none⟩ = some (.string bSynt) := (HM.out.hp.at_ 4 rfl).cell 0
      go_simp
      exact hK.out _ _ ⟨true, true, m2, m3, m4, m5, m6, m7, m8, m9, m10, m11, gq, rfl, rfl, by have h0 := HI.out; exact fun e => by first | rfl | exact h0 e, HM.out⟩
     ·cases ho
      cases (getBX hall 1 rfl : m1 = true)
      simp at hun; subst hun
      clear hall hi
      go_simp
      refine (HNM.out _).mono ?_
      rintro e W' ⟨rfl, hb⟩
      exact hK.out _ _ ⟨m0, true, true, m3, m4, m5, m6, m7, m8, m9, m10, m11, gq, rfl, rfl, by have h0 := HI.out; exact fun e => by first | rfl | exact h0 e, HM.out.step hb⟩
     ·cases ho
      simp at hun; subst hun
      clear hall hi
      go_simp
      exact hK.out _ _ ⟨m0, m1, m2, true, m4, m5, m6, m7, m8, m9, m10, m11, gq, rfl, rfl, by have h0 := HI.out; exact fun e => by first | rfl | exact h0 e, HM.out⟩
     ·cases ho
      cases (getBX hall 3 rfl : m3 = true)
      simp at hun; subst hun
      clear hall hi
      have q1 : W.cell? ⟨wr.heap.size, 1, none⟩ = some (.int .i64 r) := (HM.out.hp.at_ 4 rfl).cell 1
      have q2 : W.cell? ⟨wr.heap.size, 2, none⟩ = some (.int .i64 s) := (HM.out.hp.at_ 4 rfl).cell 2
      go_simp
      exact hK.out _ _ ⟨m0, m1, m2, true, true, m5, m6, m7, m8, m9, m10, m11, gq, rfl, rfl, by have h0 := HI.out; exact fun e => by first | rfl | exact h0 e, HM.out⟩
     ·cases ho
      cases (getBX hall 2 rfl : m2 = true)
      cases (getBX hall 4 rfl : m4 = true)
      simp at hun; subst hun
      clear hall hi
      go_simp
      refine (HSC.out _).mono ?_
      rintro e W' ⟨rfl, hb⟩
      exact hK.out _ _ ⟨m0, m1, true, m3, true, true, m6, m7, m8, m9, m10, m11, gq, rfl, rfl, by have h0 := HI.out; exact fun e => by first | rfl | exact h0 e, HM.out.step hb⟩
     ·cases ho
      cases (getBX hall 5 rfl : m5 = true)
      simp at hun; subst hun
      clear hall hi
      go_simp
      exact hK.out _ _ ⟨m0, m1, m2, m3, m4, true, true, m7, m8, m9, m10, m11, gq, rfl, rfl, by have h0 := HI.out; exact fun e => by first | rfl | exact h0 e, HM.out⟩
     ·cases ho
      cases (getBX hall 6 rfl : m6 = true)
      simp at hun; subst hun
      clear hall hi
      go_simp
      exact hK.out _ _ ⟨m0, m1, m2, m3, m4, m5, true, true, m8, m9, m10, m11, gq, rfl, rfl, by have h0 := HI.out; exact fun e => by first | rfl | exact h0 e, HM.out⟩
     ·cases ho
      cases (getBX hall 6 rfl : m6 = true)
      simp at hun; subst hun
      clear hall hi
      go_simp
      exact hK.out _ _ ⟨m0, m1, m2, m3, m4, m5, true, m7, true, m9, m10, m11, gq, rfl, rfl, by have h0 := HI.out; exact fun e => by first | rfl | exact h0 e, HM.out⟩
     ·cases ho
      simp at hun; subst hun
      clear hall hi
      obtain rfl : m10 = false := by
       cases m10
       ·rfl
       ·exact absurd (HI.out rfl) (by simp)
      have HN := Lib.hid HM.out.new
      go_simp
      exact hK.out _ _ ⟨m0, m1, m2, m3, m4, m5, m6, m7, m8, true, false, m11, W.heap.size, rfl, rfl, by have h0 := HI.out; exact fun e => by first | rfl | exact h0 e, HN.out⟩
     ·cases ho
      cases (getBX hall 5 rfl : m5 = true)
      cases (getBX hall 7 rfl : m7 = true)
      cases (getBX hall 9 rfl : m9 = true)
      simp at hun; subst hun
      clear hall hi
      have z0 := (HM.out.b rfl rfl).cell 0
      have f0 := (HM.out.b rfl rfl).frozen 0
      have z1 := (HM.out.b rfl rfl).cell 1
      have f1 := (HM.out.b rfl rfl).frozen 1
      have z2 := (HM.out.b rfl rfl).cell 2
      have f2 := (HM.out.b rfl rfl).frozen 2
      have z3 := (HM.out.b rfl rfl).cell 3
      have f3 := (HM.out.b rfl rfl).frozen 3
      have z4 := (HM.out.b rfl rfl).cell 4
      have f4 := (HM.out.b rfl rfl).frozen 4
      have z5 := (HM.out.b rfl rfl).cell 5
      have f5 := (HM.out.b rfl rfl).frozen 5
      simp only [List.getElem?_cons_succ, List.getElem?_cons_zero] at z0 z1 z2 z3 z4 z5
      have HN := Lib.hid (HM.out.put6 (by rw [World.size_alloc]; have := HMX.out.below.size; rw [World.size_alloc] at this; omega))
      go_simp
      exact hK.out _ _ ⟨m0, m1, m2, m3, m4, true, m6, true, m8, true, true, m11, gq, rfl, rfl, by have h0 := HI.out; exact fun e => by first | rfl | exact h0 e, HN.out⟩
     ·cases ho
      cases (getBX hall 8 rfl : m8 = true)
      cases (getBX hall 10 rfl : m10 = true)
      simp at hun; subst hun
      clear hall hi
      go_simp
      exact hK.out _ _ ⟨m0, m1, m2, m3, m4, m5, m6, m7, true, m9, true, true, gq, rfl, rfl, by have h0 := HI.out; exact fun e => by first | rfl | exact h0 e, HM.out⟩
    ·rintro l a W ⟨m0, m1, m2, m3, m4, m5, m6, m7, m8, m9, m10, m11, gq, rfl, rfl, _, hm⟩ hall
     cases (hall 0 (by decide) : m0 = true)
     cases (hall 1 (by decide) : m1 = true)
     cases (hall 2 (by decide) : m2 = true)
     cases (hall 3 (by decide) : m3 = true)
     cases (hall 4 (by decide) : m4 = true)
     cases (hall 5 (by decide) : m5 = true)
     cases (hall 6 (by decide) : m6 = true)
     cases (hall 7 (by decide) : m7 = true)
     cases (hall 8 (by decide) : m8 = true)
     cases (hall 9 (by decide) : m9 = true)
     cases (hall 10 (by decide) : m10 = true)
     cases (hall 11 (by decide) : m11 = true)
     clear hall
     have HQ := Lib.hid (hm.done (by rw [World.size_alloc]; have := HMX.out.below.size; rw [World.size_alloc] at this; omega))
     simp only [List.nil_append, List.cons_append] at HQ
     clear hm
     dsimp only [cwX, cond_true]
     have hq := HQ.out
     obtain ⟨a0, a1, a2, a3, a4, a5⟩ := six_of (hq.at_ 2 rfl)
     obtain ⟨b0, b1, b2, b3, b4, b5⟩ := six_of (hq.at_ 5 rfl)
     clear hq
     go_wp2_with fail
     refine (HSB.out _).mono ?_
     rintro e w5 ⟨rfl, hb5⟩
     have hq5 := HQ.out.step hb5
     obtain ⟨a0, a1, a2, a3, a4, a5⟩ := six_of (hq5.at_ 2 rfl)
     obtain ⟨f0, f1, f2, f3, f4, f5⟩ := six_free (hq5.at_ 2 rfl)
     have hq6 := (hq5.put6 2 rfl (.int .i64 n0) (.int .i64 n1) (.int .i64 n2) (.int .i64 n3) (.int .i64 n4) (.int .i64 n5)).sub (L' := [(w.heap.size, 38, cirL (cirP d P S)), (w.heap.size + 1, 49, [.int .i64 0, .int .i64 0, .int .i64 0, .int .i64 0, .int .i64 0, .int .i64 0]), (w1.heap.size, 49, [.int .i64 n0, .int .i64 n1, .int .i64 n2, .int .i64 n3, .int .i64 n4, .int .i64 n5]), (w1.heap.size + 1, 253, [.string bPyth, .int .i64 p, .int .i64 q, .string bSynt, .int .i64 r, .int .i64 s])]) (by simp)
     have HRL := Lib.hid (TfR.of (i := i) (S := S) (P := P) (j := 1 + 1) (by omega) (hq6.cast (L' := [(w.heap.size, 38, cirL (cirP d P S)), (w.heap.size + 1, 49, [.int .i64 0, .int .i64 0, .int .i64 0, .int .i64 0, .int .i64 0, .int .i64 0]), (w1.heap.size, 49, [.int .i64 (lowN (-d + 19 * P i + 4 * S i) d), .int .i64 (lowD (-d + 19 * P i + 4 * S i) d), .int .i64 (lowN (d - 12 * P i - 4 * S i) d), .int .i64 (lowD (d - 12 * P i - 4 * S i) d), .int .i64 (lowN (S i) d), .int .i64 (lowD (S i) d)]), (w1.heap.size + 1, 253, [.string bPyth, .int .i64 p, .int .i64 q, .string bSynt, .int .i64 r, .int .i64 s])]) (by rw [HN0.out, HN1.out, HN2.out, HN3.out, HN4.out, HN5.out])) rfl)
     clear hb5 hq5 hq6
     go_wp2
     go_roundw
     case rel => first | exact HRL.out | ((repeat apply Exists.intro); exact ⟨HRL.out, rfl⟩)
     case measure => simp [intOf]
  ·obtain rfl : j = 2 := by omega
   obtain ⟨a0, a1, a2, a3, a4, a5⟩ := six_of (hm.at_ 2 rfl)
   obtain ⟨z0, z1, z2, z3, z4, z5⟩ := six_of (hm.at_ 1 rfl)
   obtain ⟨f0, f1, f2, f3, f4, f5⟩ := six_free (hm.at_ 1 rfl)
   have HB := Lib.hid (fun a' b' c' d' x' y' => hm.put6s 1 rfl a' b' c' d' x' y')
   clear hm
   go_wp2
   exact bodyPost_ret (v := .tuple #[szD (stF d (P i) (S i) 2).1 (stF d (P i) (S i) 2).2.1 (stF d (P i) (S i) 2).2.2 d, .int .i64 0]) (by simp [results, Tryz.results168, go_sem, z0, z1, z2, z3, z4, z5, f0, f1, f2, f3, f4, f5]) rfl ⟨rfl, HB.out _ _ _ _ _ _⟩
def vS (d : Int) (P S : Nat → Int) : Nat → Int × Int × Int
 | 0 => (0, 0, 0)
 | k + 1 => ((vS d P S k).1 + (stF d (P k) (S k) 2).1, (vS d P S k).2.1 + (stF d (P k) (S k) 2).2.1, (vS d P S k).2.2 + (stF d (P k) (S k) 2).2.2)
theorem stF_bd {d : Int} {P S : Nat → Int} (h : PlnC d P S) {i : Nat} (hi : i < 12) : (-132 ≤ (stF d (P i) (S i) 2).1 ∧ (stF d (P i) (S i) 2).1 ≤ 132) ∧ (-104 ≤ (stF d (P i) (S i) 2).2.1 ∧ (stF d (P i) (S i) 2).2.1 ≤ 104) ∧ (-11 ≤ (stF d (P i) (S i) 2).2.2 ∧ (stF d (P i) (S i) 2).2.2 ≤ 11) := by
 have h1 := h.d
 have h2 := h.p i hi
 have h3 := h.s i hi
 simp only [stF]
 omega
theorem vS_bd {d : Int} {P S : Nat → Int} (h : PlnC d P S) : ∀ k : Nat, k ≤ 12 → (-(132 * (k : Int)) ≤ (vS d P S k).1 ∧ (vS d P S k).1 ≤ 132 * k) ∧ (-(104 * (k : Int)) ≤ (vS d P S k).2.1 ∧ (vS d P S k).2.1 ≤ 104 * k) ∧ (-(11 * (k : Int)) ≤ (vS d P S k).2.2 ∧ (vS d P S k).2.2 ≤ 11 * k)
 | 0, _ => by simp only [vS]; omega
 | k + 1, hk => by
  have ih := vS_bd h k (by omega)
  have := stF_bd h (i := k) (by omega)
  simp only [vS]
  omega
theorem vS_Bx {d : Int} {P S : Nat → Int} (h : PlnC d P S) {k : Nat} (hk : k ≤ 12) : Bx (vS d P S k).1 (vS d P S k).2.1 (vS d P S k).2.2 := by
 have := vS_bd h k hk
 unfold Bx
 omega
abbrev TsM (w : World) (d : Int) (P S : Nat → Int) (z : Nat) (x y u : Int) (W : World) : Prop :=
 Hp w [(w.heap.size, 38, cirL (cirP d P S)), (w.heap.size + 1, 49, [.int .i64 0, .int .i64 0, .int .i64 0, .int .i64 0, .int .i64 0, .int .i64 0]), (z, 49, [.int .i64 (lowN (x) d), .int .i64 (lowD (x) d), .int .i64 (lowN (y) d), .int .i64 (lowD (y) d), .int .i64 (lowN (u) d), .int .i64 (lowD (u) d)])] W
def TsR (w : World) (d : Int) (P S : Nat → Int) (k z : Nat) (v : Value) (W : World) : Prop :=
 ∃ j : Nat, v = .int .i64 (j : Int) ∧ j ≤ k ∧ TsM w d P S z (vS d P S j).1 (vS d P S j).2.1 (vS d P S j).2.2 W
theorem TsR.of {w : World} {d : Int} {P S : Nat → Int} {k z j : Nat} {W : World} (hj : j ≤ k) (h : TsM w d P S z (vS d P S j).1 (vS d P S j).2.1 (vS d P S j).2.2 W) : TsR w d P S k z (.int .i64 (j : Int)) W := ⟨j, rfl, hj, h⟩
theorem zero_low {d : Int} (hd : 1 ≤ d ∧ d ≤ 240) : ([.int .i64 0, .int .i64 1, .int .i64 0, .int .i64 1, .int .i64 0, .int .i64 1] : List Value) = [.int .i64 (lowN (0) d), .int .i64 (lowD (0) d), .int .i64 (lowN (0) d), .int .i64 (lowD (0) d), .int .i64 (lowN (0) d), .int .i64 (lowD (0) d)] := by
 have e3 := low_cross (n := 0) (d := d) (m := 0) (e := 1) (by omega) (by decide) (by rw [Int.zero_mul, Int.zero_mul])
 rw [e3.1, e3.2, (t_low_one _).1, (t_low_one _).2]
set_option maxRecDepth 1000000 in
set_option maxHeartbeats 8000000 in
theorem tsum_any (d : Int) (P S : Nat → Int) (k : Nat) (w : World) (h : PlnC d P S) (hk : k ≤ 12) :
  Calls Tryz.prog 148 #[.agg (cirL (cirP d P S)).toArray, .int .i64 (k : Int)] w fun e w' => e = .returned (.tuple #[szD (vS d P S k).1 (vS d P S k).2.1 (vS d P S k).2.2 d, .int .i64 0]) ∧ Below w.heap.size w w' := by
 have HU := Lib.hid (fun W => nm_uni W)
 have HDB : Hid (1 ≤ d ∧ d ≤ 240) := Lib.hid ⟨h.d.1, by have := h.d.2; omega⟩
 have HPL := Lib.hid h
 have hm0 := ((Hp.start w).new 38 (cirL (cirP d P S))).new 49 [.int .i64 0, .int .i64 0, .int .i64 0, .int .i64 0, .int .i64 0, .int .i64 0]
 simp only [World.size_alloc, List.nil_append, List.cons_append] at hm0
 have HM0 := Lib.hid hm0
 clear hm0 h
 go_enter Tryz.func148, Tryz.ntmps148
 go_wp2_with fail
 refine (HU.out _).mono ?_
 rintro e w1 ⟨rfl, hb1⟩
 have hm1 := (HM0.out.step hb1).new 49 [.int .i64 0, .int .i64 1, .int .i64 0, .int .i64 1, .int .i64 0, .int .i64 1]
 simp only [List.nil_append, List.cons_append] at hm1
 have HM1 := Lib.hid hm1
 clear hb1 hm1
 go_wp2_with fail
 go_loopw [12] (fun v W => TsR w d P S k w1.heap.size v W) (fun v _ => k - (intOf v).toNat)
 case atStart => exact ⟨0, rfl, by omega, HM1.out.cast (by rw [zero_low HDB.out]; rfl)⟩
 case round =>
  obtain ⟨j, rfl, hj, hm⟩ := hrel
  by_cases hjl : j < k
  ·have hj12 : j < 12 := by omega
   have HFI := Lib.hid (fun W => tfifth_any d P S j W HPL.out hj12)
   have HAD := Lib.hid (fun W => by
    have := tadd_any (vS d P S j).1 (vS d P S j).2.1 (vS d P S j).2.2 (stF d (P j) (S j) 2).1 (stF d (P j) (S j) 2).2.1 (stF d (P j) (S j) 2).2.2 d W HDB.out (vS_Bx HPL.out (by omega)) (by have := stF_bd HPL.out hj12; unfold Bx; omega) (vS_Bx HPL.out (k := j + 1) (by omega))
    exact this)
   have HAD2 := HAD
   rw [show (vS d P S j).1 + (stF d (P j) (S j) 2).1 = (vS d P S (j + 1)).1 from rfl, show (vS d P S j).2.1 + (stF d (P j) (S j) 2).2.1 = (vS d P S (j + 1)).2.1 from rfl, show (vS d P S j).2.2 + (stF d (P j) (S j) 2).2.2 = (vS d P S (j + 1)).2.2 from rfl] at HAD
   dsimp only [szD] at HAD HFI
   unfold TsM at hm
   clear HAD2
   obtain ⟨x0, hx0⟩ : ∃ y : Int, y = lowN ((vS d P S j).1) d := ⟨_, rfl⟩
   obtain ⟨x1, hx1⟩ : ∃ y : Int, y = lowD ((vS d P S j).1) d := ⟨_, rfl⟩
   obtain ⟨x2, hx2⟩ : ∃ y : Int, y = lowN ((vS d P S j).2.1) d := ⟨_, rfl⟩
   obtain ⟨x3, hx3⟩ : ∃ y : Int, y = lowD ((vS d P S j).2.1) d := ⟨_, rfl⟩
   obtain ⟨x4, hx4⟩ : ∃ y : Int, y = lowN ((vS d P S j).2.2) d := ⟨_, rfl⟩
   obtain ⟨x5, hx5⟩ : ∃ y : Int, y = lowD ((vS d P S j).2.2) d := ⟨_, rfl⟩
   obtain ⟨g0, hg0⟩ : ∃ y : Int, y = lowN ((stF d (P j) (S j) 2).1) d := ⟨_, rfl⟩
   obtain ⟨g1, hg1⟩ : ∃ y : Int, y = lowD ((stF d (P j) (S j) 2).1) d := ⟨_, rfl⟩
   obtain ⟨g2, hg2⟩ : ∃ y : Int, y = lowN ((stF d (P j) (S j) 2).2.1) d := ⟨_, rfl⟩
   obtain ⟨g3, hg3⟩ : ∃ y : Int, y = lowD ((stF d (P j) (S j) 2).2.1) d := ⟨_, rfl⟩
   obtain ⟨g4, hg4⟩ : ∃ y : Int, y = lowN ((stF d (P j) (S j) 2).2.2) d := ⟨_, rfl⟩
   obtain ⟨g5, hg5⟩ : ∃ y : Int, y = lowD ((stF d (P j) (S j) 2).2.2) d := ⟨_, rfl⟩
   obtain ⟨n0, hn0⟩ : ∃ y : Int, y = lowN ((vS d P S (j + 1)).1) d := ⟨_, rfl⟩
   obtain ⟨n1, hn1⟩ : ∃ y : Int, y = lowD ((vS d P S (j + 1)).1) d := ⟨_, rfl⟩
   obtain ⟨n2, hn2⟩ : ∃ y : Int, y = lowN ((vS d P S (j + 1)).2.1) d := ⟨_, rfl⟩
   obtain ⟨n3, hn3⟩ : ∃ y : Int, y = lowD ((vS d P S (j + 1)).2.1) d := ⟨_, rfl⟩
   obtain ⟨n4, hn4⟩ : ∃ y : Int, y = lowN ((vS d P S (j + 1)).2.2) d := ⟨_, rfl⟩
   obtain ⟨n5, hn5⟩ : ∃ y : Int, y = lowD ((vS d P S (j + 1)).2.2) d := ⟨_, rfl⟩
   rw [← hx0] at hm HAD
   rw [← hx1] at hm HAD
   rw [← hx2] at hm HAD
   rw [← hx3] at hm HAD
   rw [← hx4] at hm HAD
   rw [← hx5] at hm HAD
   rw [← hg0] at HFI HAD
   rw [← hg1] at HFI HAD
   rw [← hg2] at HFI HAD
   rw [← hg3] at HFI HAD
   rw [← hg4] at HFI HAD
   rw [← hg5] at HFI HAD
   rw [← hn0] at HAD
   rw [← hn1] at HAD
   rw [← hn2] at HAD
   rw [← hn3] at HAD
   rw [← hn4] at HAD
   rw [← hn5] at HAD
   have HN0 := Lib.hid hn0
   have HN1 := Lib.hid hn1
   have HN2 := Lib.hid hn2
   have HN3 := Lib.hid hn3
   have HN4 := Lib.hid hn4
   have HN5 := Lib.hid hn5
   clear hx0 hx1 hx2 hx3 hx4 hx5 hg0 hg1 hg2 hg3 hg4 hg5 hn0 hn1 hn2 hn3 hn4 hn5
   have HMR := Lib.hid hm
   clear hm
   go_wp2_with (refine wpList_load_row rfl 38 _ rfl w.heap.size rfl 38 (cirL (cirP d P S)).toArray (0, 0) _ (HMR.out.at_ 0 rfl) Tryz.underlying38 rfl (by rw [infoCircle, List.size_toArray, cirL_len]) ?_)
   refine (HFI.out _).mono ?_
   rintro e w3 ⟨rfl, hb3⟩
   have hm3 := (HMR.out.step hb3).new 49 [.int .i64 g0, .int .i64 g1, .int .i64 g2, .int .i64 g3, .int .i64 g4, .int .i64 g5]
   simp only [List.nil_append, List.cons_append] at hm3
   have HM3 := Lib.hid hm3
   obtain ⟨a0, a1, a2, a3, a4, a5⟩ := six_of (hm3.at_ 2 rfl)
   clear hb3 hm3
   go_wp2_with fail
   refine (HAD.out _).mono ?_
   rintro e w4 ⟨rfl, hb4⟩
   have hq5 := HM3.out.step hb4
   clear a0 a1 a2 a3 a4 a5
   obtain ⟨a0, a1, a2, a3, a4, a5⟩ := six_of (hq5.at_ 2 rfl)
   obtain ⟨f0, f1, f2, f3, f4, f5⟩ := six_free (hq5.at_ 2 rfl)
   have hq6 := (hq5.put6 2 rfl (.int .i64 n0) (.int .i64 n1) (.int .i64 n2) (.int .i64 n3) (.int .i64 n4) (.int .i64 n5)).sub (L' := [(w.heap.size, 38, cirL (cirP d P S)), (w.heap.size + 1, 49, [.int .i64 0, .int .i64 0, .int .i64 0, .int .i64 0, .int .i64 0, .int .i64 0]), (w1.heap.size, 49, [.int .i64 n0, .int .i64 n1, .int .i64 n2, .int .i64 n3, .int .i64 n4, .int .i64 n5])]) (by simp)
   have HRL := Lib.hid (TsR.of (k := k) (S := S) (P := P) (d := d) (j := j + 1) (by omega) (hq6.cast (L' := [(w.heap.size, 38, cirL (cirP d P S)), (w.heap.size + 1, 49, [.int .i64 0, .int .i64 0, .int .i64 0, .int .i64 0, .int .i64 0, .int .i64 0]), (w1.heap.size, 49, [.int .i64 (lowN ((vS d P S (j + 1)).1) d), .int .i64 (lowD ((vS d P S (j + 1)).1) d), .int .i64 (lowN ((vS d P S (j + 1)).2.1) d), .int .i64 (lowD ((vS d P S (j + 1)).2.1) d), .int .i64 (lowN ((vS d P S (j + 1)).2.2) d), .int .i64 (lowD ((vS d P S (j + 1)).2.2) d)])]) (by rw [HN0.out, HN1.out, HN2.out, HN3.out, HN4.out, HN5.out])))
   clear hb4 hq5 hq6
   go_wp2
   go_roundw
   case rel => first | exact HRL.out | ((repeat apply Exists.intro); exact ⟨HRL.out, rfl⟩)
   case measure => simp [intOf]; omega
  ·obtain rfl : j = k := by omega
   obtain ⟨a0, a1, a2, a3, a4, a5⟩ := six_of (hm.at_ 2 rfl)
   obtain ⟨z0, z1, z2, z3, z4, z5⟩ := six_of (hm.at_ 1 rfl)
   obtain ⟨f0, f1, f2, f3, f4, f5⟩ := six_free (hm.at_ 1 rfl)
   have HB := Lib.hid (fun a' b' c' d' x' y' => hm.put6s 1 rfl a' b' c' d' x' y')
   clear hm
   go_wp2
   exact bodyPost_ret (v := .tuple #[szD (vS d P S j).1 (vS d P S j).2.1 (vS d P S j).2.2 d, .int .i64 0]) (by simp [results, Tryz.results148, go_sem, z0, z1, z2, z3, z4, z5, f0, f1, f2, f3, f4, f5]) rfl ⟨rfl, HB.out _ _ _ _ _ _⟩
end Go.Proofs.YtendjepcjmfmfaaGreatDoor
