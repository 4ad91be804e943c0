/- Part 10 of 33 of the proof of the law: contracts of the functions that it reaches, and plain facts. Conditions: those that each contract names. -/
import Derived.Test.YtaegjpancbmppaaGreatDoorTabB06
import Derived.Test.YtaegjpancbmppaaGreatDoorTabB09
import Derived.Test.YtaegjpancbmppaaGreatDoorTabB02
import Derived.Deep.DeepCutAuto
import Derived.Sort.Grow
import Derived.Test.YtaegjpancbmppaaGreatDoorTabB07
set_option linter.unusedVariables false
set_option linter.unusedSimpArgs false
namespace Go.Proofs.YtaegjpancbmppaaGreatDoor
open Go.RowKit Go.Sort
theorem three_ofI {W : World} {g : Nat} {t : TypeId} {a b c : Value} (h : Blk W g t [a, b, c]) : W.cell? ⟨g, 0, none⟩ = some a ∧ W.cell? ⟨g, 1, none⟩ = some b ∧ W.cell? ⟨g, 2, none⟩ = some c := ⟨h.cell 0, h.cell 1, h.cell 2⟩
theorem grow_of_below {X W : World} (hb : Below X.heap.size X W) (hd : X.drawn ≤ W.drawn) : ∃ q os', W = grow (X.drewN q) os' := by
 refine ⟨W.drawn - X.drawn, W.heap.extract X.heap.size W.heap.size, ?_⟩
 have hh : W.heap = X.heap ++ W.heap.extract X.heap.size W.heap.size := by
  apply Array.ext_getElem?
  intro k
  by_cases hk : k < X.heap.size
  ·rw [Array.getElem?_append_left hk, hb.block k hk]
  ·have hs := hb.size
   rw [Array.getElem?_append_right (by omega), Array.getElem?_extract]
   by_cases hk2 : k < W.heap.size
   ·rw [if_pos (by omega)]
    congr 1
    omega
   ·rw [if_neg (by omega), Array.getElem?_eq_none (by omega)]
 obtain ⟨h1, h2, h3, h4, h5⟩ := hb
 have hdr : W.drawn = X.drawn + (W.drawn - X.drawn) := by omega
 cases W
 cases X
 simp only [grow, World.drewN] at *
 subst h1 h2 h3
 rw [← hh, ← hdr]
def or3 (x y z : Int) : Int := if x ≠ 0 then x else if y ≠ 0 then y else z
set_option maxRecDepth 100000 in
set_option maxHeartbeats 1000000 in
theorem cmpOr3_any (a b d : Int) (g : Nat) (w : World) (h : Blk w g 3 [.int .i64 a, .int .i64 b, .int .i64 d]) :
  Calls Tryz.prog 85 #[.slice (some ⟨g, 0, none⟩) 3 3] w fun e w' => e = .returned (.int .i64 (or3 a b d)) ∧ w = w' := by
 obtain ⟨c0, c1, c2⟩ := three_ofI h
 clear h
 go_enter Tryz.func85, Tryz.ntmps85
 go_wp2
 go_loop [8] (fun v => ∃ k : Nat, k ≤ 3 ∧ v = .int .i64 (k : Int) ∧ (1 ≤ k → a = 0) ∧ (2 ≤ k → b = 0) ∧ (3 ≤ k → d = 0)) (fun v => 3 - (intOf v).toNat)
 case atStart => exact ⟨0, by omega, rfl, fun h => by omega, fun h => by omega, fun h => by omega⟩
 case round =>
  obtain ⟨k, hk, rfl, h1, h2, h3⟩ := hrel
  have H1 := Lib.hid h1
  have H2 := Lib.hid h2
  have H3 := Lib.hid h3
  clear h1 h2 h3
  have hkk : k = 0 ∨ k = 1 ∨ k = 2 ∨ k = 3 := by omega
  rcases hkk with rfl | rfl | rfl | rfl
  ·by_cases ha : a = 0
   ·subst ha
    have ht : ((0 : Int) != 0) = false := by decide
    go_wp2
    go_round
    case rel => exact ⟨1, by omega, rfl, by simp, by simp, by simp⟩
    case measure => simp [intOf]
   ·have ht : (a != 0) = true := by simpa using ha
    have HO := Lib.hid (show or3 a b d = a from if_pos ha)
    clear ha
    go_wp2
    go_ret
    exact ⟨by rw [HO.out]; rfl, rfl⟩
  ·have HA := Lib.hid (H1.out (Nat.le_refl _))
   by_cases hb : b = 0
   ·subst hb
    have ht : ((0 : Int) != 0) = false := by decide
    go_wp2
    go_round
    case rel => exact ⟨2, by omega, rfl, fun _ => HA.out, by simp, by simp⟩
    case measure => simp [intOf]
   ·have ht : (b != 0) = true := by simpa using hb
    have HO := Lib.hid (show or3 a b d = b by unfold or3; rw [if_neg (fun e => e HA.out), if_pos hb])
    clear hb
    go_wp2
    go_ret
    exact ⟨by rw [HO.out]; rfl, rfl⟩
  ·have HA := Lib.hid (H1.out (by omega))
   have HB := Lib.hid (H2.out (Nat.le_refl _))
   by_cases hb : d = 0
   ·subst hb
    have ht : ((0 : Int) != 0) = false := by decide
    go_wp2
    go_round
    case rel => exact ⟨3, by omega, rfl, fun _ => HA.out, fun _ => HB.out, by simp⟩
    case measure => simp [intOf]
   ·have ht : (d != 0) = true := by simpa using hb
    have HO := Lib.hid (show or3 a b d = d by unfold or3; rw [if_neg (fun e => e HA.out), if_neg (fun e => e HB.out)])
    clear hb
    go_wp2
    go_ret
    exact ⟨by rw [HO.out]; rfl, rfl⟩
  ·have HO := Lib.hid (show or3 a b d = 0 by unfold or3; rw [if_neg (fun e => e (H1.out (by omega))), if_neg (fun e => e (H2.out (by omega))), H3.out (Nat.le_refl _)])
   go_wp2
   go_ret
   exact ⟨by rw [HO.out]; rfl, rfl⟩
def HpD (X : World) (L : List (Nat × TypeId × List Value)) (W : World) : Prop := Hp X L W ∧ X.drawn ≤ W.drawn
def ordZ (a b : Nat × Nat) : Int := or3 (Lib.compareInt (popc a.1 : Nat) (popc b.1 : Nat)) (Lib.compareInt (a.1 : Int) (b.1 : Int)) (Lib.compareInt (a.2 : Int) (b.2 : Int))
set_option maxRecDepth 1000000 in
set_option maxHeartbeats 4000000 in
theorem iorder_any (c v d u : Nat) (w : World) (hc : c < 256) (hd : d < 256) :
  Calls Tryz.prog 68 #[.agg #[nv c, nv v], .agg #[nv d, nv u]] w fun e w' => e = .returned (.int .i64 (ordZ (c, v) (d, u))) ∧ ∃ q os', w' = grow (w.drewN q) os' := by
 have hl1 := fun W => iliterals_any c (nv v) W hc
 have hl2 := fun W => iliterals_any d (nv u) W hd
 obtain ⟨p1, hp1⟩ : ∃ p : Int, p = (popc c : Nat) := ⟨_, rfl⟩
 obtain ⟨p2, hp2⟩ : ∃ p : Int, p = (popc d : Nat) := ⟨_, rfl⟩
 obtain ⟨r1, hr1⟩ : ∃ r, r = Lib.compareInt p1 p2 := ⟨_, rfl⟩
 obtain ⟨r2, hr2⟩ : ∃ r, r = Lib.compareInt (c : Int) (d : Int) := ⟨_, rfl⟩
 obtain ⟨r3, hr3⟩ : ∃ r, r = Lib.compareInt (v : Int) (u : Int) := ⟨_, rfl⟩
 obtain ⟨r, hr⟩ : ∃ r, r = or3 r1 r2 r3 := ⟨_, rfl⟩
 have hcf : ordZ (c, v) (d, u) = r := by unfold ordZ; dsimp only; rw [← hp1, ← hp2, ← hr1, ← hr2, ← hr3, ← hr]
 rw [hcf]
 rw [← hp1] at hl1
 rw [← hp2] at hl2
 have HL1 := Lib.hid hl1
 have HL2 := Lib.hid hl2
 have hC1 := fun W => Tryz.cmp_Compare_int p1 p2 W
 have hC2 := fun W => Tryz.cmp_Compare_int (c : Int) (d : Int) W
 have hC3 := fun W => Tryz.cmp_Compare_int (v : Int) (u : Int) W
 rw [← hr1] at hC1
 rw [← hr2] at hC2
 rw [← hr3] at hC3
 have HC1 := Lib.hid hC1
 have HC2 := Lib.hid hC2
 have HC3 := Lib.hid hC3
 have hO := fun g W h => cmpOr3_any r1 r2 r3 g W h
 rw [← hr] at hO
 have HO := Lib.hid hO
 have hm0 := ((Hp.start w).new 37 [nv c, nv v]).new 37 [nv d, nv u]
 simp only [World.size_alloc, List.nil_append, List.cons_append] at hm0
 have HM0 := Lib.hid (show HpD w _ _ from ⟨hm0, Nat.le_refl _⟩)
 clear hm0 hl1 hl2 hC1 hC2 hC3 hO hp1 hp2 hr1 hr2 hr3 hr hcf hc hd
 go_enter Tryz.func68, Tryz.ntmps68
 go_upto_region 1 with fail
 refine wp_regionJ 18 #[false, false, false, false, false, false, false, false, false, false, false, false, false, false, false, false, false, false] (fun l a W => ∃ (m0 m1 m2 m3 m4 m5 m6 m7 m8 m9 m10 m11 m12 m13 m14 m15 m16 m17 : Bool) (g3 : Nat), l = #[m0, m1, m2, m3, m4, m5, m6, m7, m8, m9, m10, m11, m12, m13, m14, m15, m16, m17] ∧ a = ({ tmps := #[.agg #[nv c, nv v], .agg #[nv d, nv u], .pointer (some ⟨w.heap.size, 0, none⟩), .pointer (some ⟨w.heap.size + 1, 0, none⟩), cwX m17 (.int .i64 r) (.int .i64 0), cwX m0 (.agg #[nv c, nv v]) (undef), cwX m1 (.int .i64 p1) (undef), cwX m2 (.agg #[nv d, nv u]) (undef), cwX m3 (.int .i64 p2) (undef), cwX m4 (.int .i64 r1) (undef), cwX m5 (.pointer (some ⟨w.heap.size, 0, none⟩)) (undef), cwX m6 (.int .i64 (c : Int)) (undef), cwX m7 (.pointer (some ⟨w.heap.size + 1, 0, none⟩)) (undef), cwX m8 (.int .i64 (d : Int)) (undef), cwX m9 (.int .i64 r2) (undef), cwX m10 (.pointer (some ⟨w.heap.size, 1, none⟩)) (undef), cwX m11 (.int .i64 (v : Int)) (undef), cwX m12 (.pointer (some ⟨w.heap.size + 1, 1, none⟩)) (undef), cwX m13 (.int .i64 (u : Int)) (undef), cwX m14 (.int .i64 r3) (undef), cwX m15 (.slice (some ⟨g3, 0, none⟩) 3 3) (undef), cwX m16 (.int .i64 r) (undef)], defers := [] } : Act) ∧ (True) ∧ HpD w (bif m15 then [(w.heap.size, 37, [nv c, nv v]), (w.heap.size + 1, 37, [nv d, nv u])] ++ [(g3, 3, [.int .i64 r1, .int .i64 r2, .int .i64 r3])] else [(w.heap.size, 37, [nv c, nv v]), (w.heap.size + 1, 37, [nv d, nv u])]) W) (by kernel_rfl) (by kernel_rfl) (by kernel_rfl) (by kernel_rfl) ?_ ?_ ?_ ?_
 ·rintro l a W ⟨m0, m1, m2, m3, m4, m5, m6, m7, m8, m9, m10, m11, m12, m13, m14, m15, m16, m17, g3, rfl, _⟩
  rfl
 ·exact ⟨false, false, false, false, false, false, false, false, false, false, false, false, false, false, false, false, false, false, 0, rfl, rfl, trivial, ⟨HM0.out.1.drew, Nat.le_succ_of_le HM0.out.2⟩⟩
 ·rintro l a W i o ⟨m0, m1, m2, m3, m4, m5, m6, m7, m8, m9, m10, m11, m12, m13, m14, m15, m16, m17, g3, rfl, rfl, hi0, hm⟩ ho hun hall K hK
  have hi : i < 18 := (Array.getElem?_eq_some_iff.1 ho).1
  have HM := Lib.hid hm
  have HI := Lib.hid hi0
  clear hm hi0
  rcases (show i = 0 ∨ i = 1 ∨ i = 2 ∨ i = 3 ∨ i = 4 ∨ i = 5 ∨ i = 6 ∨ i = 7 ∨ i = 8 ∨ i = 9 ∨ i = 10 ∨ i = 11 ∨ i = 12 ∨ i = 13 ∨ i = 14 ∨ i = 15 ∨ i = 16 ∨ i = 17 by omega) with rfl | rfl | rfl | rfl | rfl | rfl | rfl | rfl | rfl | rfl | rfl | rfl | rfl | rfl | rfl | rfl | rfl | rfl
  ·cases ho
   simp at hun; subst hun
   clear hall hi
   have q0 := (show Blk W (w.heap.size) 37 [nv c, nv v] by cases m15 <;> exact HM.out.1.at_ 0 rfl).cell 0
   have q1 := (show Blk W (w.heap.size) 37 [nv c, nv v] by cases m15 <;> exact HM.out.1.at_ 0 rfl).cell 1
   simp only [List.getElem?_cons_succ, List.getElem?_cons_zero] at q0 q1
   go_simp
   exact hK.out _ _ ⟨true, m1, m2, m3, m4, m5, m6, m7, m8, m9, m10, m11, m12, m13, m14, m15, m16, m17, g3, rfl, rfl, trivial, HM.out⟩
  ·cases ho
   cases (getBX hall 0 rfl : m0 = true)
   simp at hun; subst hun
   clear hall hi
   go_simp
   refine (HL1.out _).mono ?_
   rintro e W' ⟨rfl, rfl⟩
   exact hK.out _ _ ⟨true, true, m2, m3, m4, m5, m6, m7, m8, m9, m10, m11, m12, m13, m14, m15, m16, m17, g3, rfl, rfl, trivial, ⟨HM.out.1.step (bw_new (Below.refl _ _) _), HM.out.2⟩⟩
  ·cases ho
   simp at hun; subst hun
   clear hall hi
   have q0 := (show Blk W (w.heap.size + 1) 37 [nv d, nv u] by cases m15 <;> exact HM.out.1.at_ 1 rfl).cell 0
   have q1 := (show Blk W (w.heap.size + 1) 37 [nv d, nv u] by cases m15 <;> exact HM.out.1.at_ 1 rfl).cell 1
   simp only [List.getElem?_cons_succ, List.getElem?_cons_zero] at q0 q1
   go_simp
   exact hK.out _ _ ⟨m0, m1, true, m3, m4, m5, m6, m7, m8, m9, m10, m11, m12, m13, m14, m15, m16, m17, g3, rfl, rfl, trivial, HM.out⟩
  ·cases ho
   cases (getBX hall 2 rfl : m2 = true)
   simp at hun; subst hun
   clear hall hi
   go_simp
   refine (HL2.out _).mono ?_
   rintro e W' ⟨rfl, rfl⟩
   exact hK.out _ _ ⟨m0, m1, true, true, m4, m5, m6, m7, m8, m9, m10, m11, m12, m13, m14, m15, m16, m17, g3, rfl, rfl, trivial, ⟨HM.out.1.step (bw_new (Below.refl _ _) _), HM.out.2⟩⟩
  ·cases ho
   cases (getBX hall 1 rfl : m1 = true)
   cases (getBX hall 3 rfl : m3 = true)
   simp at hun; subst hun
   clear hall hi
   go_simp
   refine (HC1.out _).mono ?_
   rintro e W' ⟨rfl, rfl⟩
   exact hK.out _ _ ⟨m0, true, m2, true, true, m5, m6, m7, m8, m9, m10, m11, m12, m13, m14, m15, m16, m17, g3, rfl, rfl, trivial, HM.out⟩
  ·cases ho
   simp at hun; subst hun
   clear hall hi
   go_simp
   exact hK.out _ _ ⟨m0, m1, m2, m3, m4, true, m6, m7, m8, m9, m10, m11, m12, m13, m14, m15, m16, m17, g3, rfl, rfl, trivial, HM.out⟩
  ·cases ho
   cases (getBX hall 5 rfl : m5 = true)
   simp at hun; subst hun
   clear hall hi
   have q0 := (show Blk W (w.heap.size) 37 [nv c, nv v] by cases m15 <;> exact HM.out.1.at_ 0 rfl).cell 0
   have q1 := (show Blk W (w.heap.size) 37 [nv c, nv v] by cases m15 <;> exact HM.out.1.at_ 0 rfl).cell 1
   simp only [List.getElem?_cons_succ, List.getElem?_cons_zero] at q0 q1
   go_simp
   exact hK.out _ _ ⟨m0, m1, m2, m3, m4, true, true, m7, m8, m9, m10, m11, m12, m13, m14, m15, m16, m17, g3, rfl, rfl, trivial, HM.out⟩
  ·cases ho
   simp at hun; subst hun
   clear hall hi
   go_simp
   exact hK.out _ _ ⟨m0, m1, m2, m3, m4, m5, m6, true, m8, m9, m10, m11, m12, m13, m14, m15, m16, m17, g3, rfl, rfl, trivial, HM.out⟩
  ·cases ho
   cases (getBX hall 7 rfl : m7 = true)
   simp at hun; subst hun
   clear hall hi
   have q0 := (show Blk W (w.heap.size + 1) 37 [nv d, nv u] by cases m15 <;> exact HM.out.1.at_ 1 rfl).cell 0
   have q1 := (show Blk W (w.heap.size + 1) 37 [nv d, nv u] by cases m15 <;> exact HM.out.1.at_ 1 rfl).cell 1
   simp only [List.getElem?_cons_succ, List.getElem?_cons_zero] at q0 q1
   go_simp
   exact hK.out _ _ ⟨m0, m1, m2, m3, m4, m5, m6, true, true, m9, m10, m11, m12, m13, m14, m15, m16, m17, g3, rfl, rfl, trivial, HM.out⟩
  ·cases ho
   cases (getBX hall 6 rfl : m6 = true)
   cases (getBX hall 8 rfl : m8 = true)
   simp at hun; subst hun
   clear hall hi
   go_simp
   refine (HC2.out _).mono ?_
   rintro e W' ⟨rfl, rfl⟩
   exact hK.out _ _ ⟨m0, m1, m2, m3, m4, m5, true, m7, true, true, m10, m11, m12, m13, m14, m15, m16, m17, g3, rfl, rfl, trivial, HM.out⟩
  ·cases ho
   simp at hun; subst hun
   clear hall hi
   go_simp
   exact hK.out _ _ ⟨m0, m1, m2, m3, m4, m5, m6, m7, m8, m9, true, m11, m12, m13, m14, m15, m16, m17, g3, rfl, rfl, trivial, HM.out⟩
  ·cases ho
   cases (getBX hall 10 rfl : m10 = true)
   simp at hun; subst hun
   clear hall hi
   have q0 := (show Blk W (w.heap.size) 37 [nv c, nv v] by cases m15 <;> exact HM.out.1.at_ 0 rfl).cell 0
   have q1 := (show Blk W (w.heap.size) 37 [nv c, nv v] by cases m15 <;> exact HM.out.1.at_ 0 rfl).cell 1
   simp only [List.getElem?_cons_succ, List.getElem?_cons_zero] at q0 q1
   go_simp
   exact hK.out _ _ ⟨m0, m1, m2, m3, m4, m5, m6, m7, m8, m9, true, true, m12, m13, m14, m15, m16, m17, g3, rfl, rfl, trivial, HM.out⟩
  ·cases ho
   simp at hun; subst hun
   clear hall hi
   go_simp
   exact hK.out _ _ ⟨m0, m1, m2, m3, m4, m5, m6, m7, m8, m9, m10, m11, true, m13, m14, m15, m16, m17, g3, rfl, rfl, trivial, HM.out⟩
  ·cases ho
   cases (getBX hall 12 rfl : m12 = true)
   simp at hun; subst hun
   clear hall hi
   have q0 := (show Blk W (w.heap.size + 1) 37 [nv d, nv u] by cases m15 <;> exact HM.out.1.at_ 1 rfl).cell 0
   have q1 := (show Blk W (w.heap.size + 1) 37 [nv d, nv u] by cases m15 <;> exact HM.out.1.at_ 1 rfl).cell 1
   simp only [List.getElem?_cons_succ, List.getElem?_cons_zero] at q0 q1
   go_simp
   exact hK.out _ _ ⟨m0, m1, m2, m3, m4, m5, m6, m7, m8, m9, m10, m11, true, true, m14, m15, m16, m17, g3, rfl, rfl, trivial, HM.out⟩
  ·cases ho
   cases (getBX hall 11 rfl : m11 = true)
   cases (getBX hall 13 rfl : m13 = true)
   simp at hun; subst hun
   clear hall hi
   go_simp
   refine (HC3.out _).mono ?_
   rintro e W' ⟨rfl, rfl⟩
   exact hK.out _ _ ⟨m0, m1, m2, m3, m4, m5, m6, m7, m8, m9, m10, true, m12, true, true, m15, m16, m17, g3, rfl, rfl, trivial, HM.out⟩
  ·cases ho
   cases (getBX hall 4 rfl : m4 = true)
   cases (getBX hall 9 rfl : m9 = true)
   cases (getBX hall 14 rfl : m14 = true)
   simp at hun; subst hun
   clear hall hi
   go_simp
   exact hK.out _ _ ⟨m0, m1, m2, m3, true, m5, m6, m7, m8, true, m10, m11, m12, m13, true, true, m16, m17, W.heap.size, rfl, rfl, trivial, ⟨HM.out.1.new _ _, HM.out.2⟩⟩
  ·cases ho
   cases (getBX hall 15 rfl : m15 = true)
   simp at hun; subst hun
   clear hall hi
   go_simp
   refine (HO.out _ _ (HM.out.1.at_ 2 rfl)).mono ?_
   rintro e W' ⟨rfl, rfl⟩
   exact hK.out _ _ ⟨m0, m1, m2, m3, m4, m5, m6, m7, m8, m9, m10, m11, m12, m13, m14, true, true, m17, g3, rfl, rfl, trivial, HM.out⟩
  ·cases ho
   cases (getBX hall 16 rfl : m16 = true)
   simp at hun; subst hun
   clear hall hi
   go_simp
   exact hK.out _ _ ⟨m0, m1, m2, m3, m4, m5, m6, m7, m8, m9, m10, m11, m12, m13, m14, m15, true, true, g3, rfl, rfl, trivial, HM.out⟩
 ·rintro l a W ⟨m0, m1, m2, m3, m4, m5, m6, m7, m8, m9, m10, m11, m12, m13, m14, m15, m16, m17, g3, rfl, rfl, _, hm⟩ hall
  cases (hall 0 (by decide) : m0 = true)
  cases (hall 1 (by decide) : m1 = true)
  cases (hall 2 (by decide) : m2 = true)
  cases (hall 3 (by decide) : m3 = true)
  cases (hall 4 (by decide) : m4 = true)
  cases (hall 5 (by decide) : m5 = true)
  cases (hall 6 (by decide) : m6 = true)
  cases (hall 7 (by decide) : m7 = true)
  cases (hall 8 (by decide) : m8 = true)
  cases (hall 9 (by decide) : m9 = true)
  cases (hall 10 (by decide) : m10 = true)
  cases (hall 11 (by decide) : m11 = true)
  cases (hall 12 (by decide) : m12 = true)
  cases (hall 13 (by decide) : m13 = true)
  cases (hall 14 (by decide) : m14 = true)
  cases (hall 15 (by decide) : m15 = true)
  cases (hall 16 (by decide) : m16 = true)
  cases (hall 17 (by decide) : m17 = true)
  clear hall
  have HZ := Lib.hid (grow_of_below hm.1.below hm.2)
  clear hm HM0
  dsimp only [cwX, cond_true]
  go_wp2_with fail
  exact bodyPost_ret (v := .int .i64 r) (by simp [results, Tryz.results68, go_sem]) rfl ⟨rfl, HZ.out⟩
end Go.Proofs.YtaegjpancbmppaaGreatDoor
namespace Go.Proofs.YtaegjpancbmppaaGreatDoor
open Go.RowKit Go.Sort
def GdP (X : World) (n c v : Nat) (b : Bool) (A : Option Addr) (W : World) : Prop := Hp X [(X.heap.size, 37, [nv c, nv v])] W ∧ (b = true → Rd nv W W.heap.size A (cRows n c v))
theorem GdP.step {X W W' : World} {n c v : Nat} {b : Bool} {A : Option Addr} (h : GdP X n c v b A W) (hb : Below W.heap.size W W') : GdP X n c v b A W' :=
 ⟨h.1.step hb, fun e => ((h.2 e).below hb).more hb.size⟩
set_option maxRecDepth 1000000 in
set_option maxHeartbeats 4000000 in
theorem igood_any (n c v M tb mb : Nat) (X : World) (hn : n ≤ 8) (hc : c < 256) (hv : v < 256) (hT : tb < X.heap.size ∧ X.cell? ⟨tb, 0, none⟩ = some (.int .i64 (n : Int))) (hM : Blk X mb 84 (setL M)) :
  Calls Tryz.prog 65 #[.agg #[nv c, nv v], .pointer (some ⟨tb, 0, none⟩), .pointer (some ⟨mb, 0, none⟩)] X fun e w' => e = .returned (.bool (impB n M c v)) ∧ Below X.heap.size X w' := by
 have HRW := Lib.hid (fun W => irows_any n c v W hn hc hv)
 have HOF := Lib.hid (fun W A cp h => iof_any A cp (cRows n c v).length (cRows n c v) W h (fun r hr => Nat.lt_of_lt_of_le (cRows_mem.1 hr).1 (pow_le8 hn)) rfl (by
  have h1 := lsN_len (fun r => r &&& c == v) (2 ^ n)
  have h2 := pow_le8 hn
  rw [lsN_cRows] at h1
  omega))
 have HWI := Lib.hid (fun W => iwithin_any (cM n c v) M W (cM_lt hn))
 have HTB := Lib.hid (fun W (h : Below X.heap.size X W) => (h.cell (p := ⟨tb, 0, none⟩) hT.1).trans hT.2)
 have HMB := Lib.hid (fun W (h : Below X.heap.size X W) => (h.block mb hM.lt).trans hM)
 have hm0 := (Hp.start X).new 37 [nv c, nv v]
 simp only [List.nil_append] at hm0
 have HM0 := Lib.hid (show GdP X n c v false none _ from ⟨hm0, fun e => by cases e⟩)
 clear hm0 hn hc hv hT hM
 go_enter Tryz.func65, Tryz.ntmps65
 go_upto_region 1 with fail
 refine wp_regionJ 8 #[false, false, false, false, false, false, false, false] (fun l a W => ∃ (m0 m1 m2 m3 m4 m5 m6 m7 : Bool) (gA : Option Addr) (gc : Nat), l = #[m0, m1, m2, m3, m4, m5, m6, m7] ∧ a = ({ tmps := #[.agg #[nv c, nv v], .pointer (some ⟨tb, 0, none⟩), .pointer (some ⟨mb, 0, none⟩), .pointer (some ⟨X.heap.size, 0, none⟩), cwX m7 (.bool (impB n M c v)) (.bool false), cwX m0 (.agg #[nv c, nv v]) (undef), cwX m1 (.pointer (some ⟨tb, 0, none⟩)) (undef), cwX m2 (.int .i64 (n : Int)) (undef), cwX m3 (.slice gA (cRows n c v).length gc) (undef), cwX m4 (.agg (setL (cM n c v)).toArray) (undef), cwX m5 (.agg (setL M).toArray) (undef), cwX m6 (.bool (impB n M c v)) (undef)], defers := [] } : Act) ∧ (True) ∧ GdP X n c v m3 gA W) (by kernel_rfl) (by kernel_rfl) (by kernel_rfl) (by kernel_rfl) ?_ ?_ ?_ ?_
 ·rintro l a W ⟨m0, m1, m2, m3, m4, m5, m6, m7, gA, gc, rfl, _⟩
  rfl
 ·exact ⟨false, false, false, false, false, false, false, false, none, 0, rfl, rfl, trivial, HM0.out.step (bw_drew (Below.refl _ _))⟩
 ·rintro l a W i o ⟨m0, m1, m2, m3, m4, m5, m6, m7, gA, gc, rfl, rfl, hi0, hm⟩ ho hun hall K hK
  have hi : i < 8 := (Array.getElem?_eq_some_iff.1 ho).1
  have HM := Lib.hid hm
  have HI := Lib.hid hi0
  clear hm hi0
  rcases (show i = 0 ∨ i = 1 ∨ i = 2 ∨ i = 3 ∨ i = 4 ∨ i = 5 ∨ i = 6 ∨ i = 7 by omega) with rfl | rfl | rfl | rfl | rfl | rfl | rfl | rfl
  ·cases ho
   simp at hun; subst hun
   clear hall hi
   have q0 : W.cell? ⟨X.heap.size, 0, none⟩ = some (.int .i64 (c : Int)) := (HM.out.1.at_ 0 rfl).cell 0
   have q1 : W.cell? ⟨X.heap.size, 1, none⟩ = some (.int .i64 (v : Int)) := (HM.out.1.at_ 0 rfl).cell 1
   go_simp
   exact hK.out _ _ ⟨true, m1, m2, m3, m4, m5, m6, m7, gA, gc, rfl, rfl, trivial, HM.out⟩
  ·cases ho
   simp at hun; subst hun
   clear hall hi
   go_simp
   exact hK.out _ _ ⟨m0, true, m2, m3, m4, m5, m6, m7, gA, gc, rfl, rfl, trivial, HM.out⟩
  ·cases ho
   cases (getBX hall 1 rfl : m1 = true)
   simp at hun; subst hun
   clear hall hi
   have q0 := HTB.out W HM.out.1.below
   go_simp
   exact hK.out _ _ ⟨m0, true, true, m3, m4, m5, m6, m7, gA, gc, rfl, rfl, trivial, HM.out⟩
  ·cases ho
   cases (getBX hall 0 rfl : m0 = true)
   cases (getBX hall 2 rfl : m2 = true)
   simp at hun; subst hun
   clear hall hi
   go_simp
   refine (HRW.out _).mono ?_
   rintro e W' ⟨A', cp', rfl, hown, hb⟩
   exact hK.out _ _ ⟨true, m1, true, true, m4, m5, m6, m7, A', cp', rfl, rfl, trivial, ⟨HM.out.1.step hb, fun _ => Rd.of_own hown rfl⟩⟩
  ·cases ho
   cases (getBX hall 3 rfl : m3 = true)
   simp at hun; subst hun
   clear hall hi
   go_simp
   refine (HOF.out _ _ _ (HM.out.2 rfl)).mono ?_
   rintro e W' ⟨rfl, hb⟩
   exact hK.out _ _ ⟨m0, m1, m2, true, true, m5, m6, m7, gA, gc, rfl, rfl, trivial, HM.out.step hb⟩
  ·cases ho
   simp at hun; subst hun
   clear hall hi
   obtain ⟨q0, q1, q2, q3⟩ := set_of (HMB.out W HM.out.1.below)
   go_simp
   exact hK.out _ _ ⟨m0, m1, m2, m3, m4, true, m6, m7, gA, gc, rfl, rfl, trivial, HM.out⟩
  ·cases ho
   cases (getBX hall 4 rfl : m4 = true)
   cases (getBX hall 5 rfl : m5 = true)
   simp at hun; subst hun
   clear hall hi
   go_simp
   refine (HWI.out _).mono ?_
   rintro e W' ⟨rfl, hb⟩
   exact hK.out _ _ ⟨m0, m1, m2, m3, true, true, true, m7, gA, gc, rfl, rfl, trivial, HM.out.step hb⟩
  ·cases ho
   cases (getBX hall 6 rfl : m6 = true)
   simp at hun; subst hun
   clear hall hi
   go_simp
   exact hK.out _ _ ⟨m0, m1, m2, m3, m4, m5, true, true, gA, gc, rfl, rfl, trivial, HM.out⟩
 ·rintro l a W ⟨m0, m1, m2, m3, m4, m5, m6, m7, gA, gc, rfl, rfl, _, hm⟩ hall
  cases (hall 0 (by decide) : m0 = true)
  cases (hall 1 (by decide) : m1 = true)
  cases (hall 2 (by decide) : m2 = true)
  cases (hall 3 (by decide) : m3 = true)
  cases (hall 4 (by decide) : m4 = true)
  cases (hall 5 (by decide) : m5 = true)
  cases (hall 6 (by decide) : m6 = true)
  cases (hall 7 (by decide) : m7 = true)
  clear hall
  have HZ := Lib.hid hm.1
  clear hm HM0
  dsimp only [cwX, cond_true]
  go_wp2_with fail
  exact bodyPost_ret (v := .bool (impB n M c v)) (by simp [results, Tryz.results65, go_sem]) rfl ⟨rfl, HZ.out.below⟩
abbrev pmL (n : Nat) (x : Nat × Nat) : List Value := nv x.1 :: nv x.2 :: setL (cM n x.1 x.2)
set_option maxRecDepth 1000000 in
set_option maxHeartbeats 4000000 in
theorem iprcmp_any (n : Nat) (x y : Nat × Nat) (w : World) (hx : x.1 < 256) (hy : y.1 < 256) :
  Calls Tryz.prog 67 #[.agg (pmL n x).toArray, .agg (pmL n y).toArray] w fun e w' => e = .returned (.int .i64 (ordZ x y)) ∧ ∃ q os', w' = grow (w.drewN q) os' := by
 obtain ⟨c, v⟩ := x
 obtain ⟨d, u⟩ := y
 have HOR := Lib.hid (fun W => iorder_any c v d u W hx hy)
 have hm0 := ((Hp.start w).new 86 (pmL n (c, v))).new 86 (pmL n (d, u))
 simp only [World.size_alloc, List.nil_append, List.cons_append] at hm0
 have c0 : ((w.alloc (.cells (pmL n (c, v)).toArray 86)).alloc (.cells (pmL n (d, u)).toArray 86)).cell? ⟨w.heap.size, 0, none⟩ = some (.int .i64 (c : Int)) := (hm0.at_ 0 rfl).cell 0
 have c1 : ((w.alloc (.cells (pmL n (c, v)).toArray 86)).alloc (.cells (pmL n (d, u)).toArray 86)).cell? ⟨w.heap.size, 1, none⟩ = some (.int .i64 (v : Int)) := (hm0.at_ 0 rfl).cell 1
 have c2 : ((w.alloc (.cells (pmL n (c, v)).toArray 86)).alloc (.cells (pmL n (d, u)).toArray 86)).cell? ⟨w.heap.size + 1, 0, none⟩ = some (.int .i64 (d : Int)) := (hm0.at_ 1 rfl).cell 0
 have c3 : ((w.alloc (.cells (pmL n (c, v)).toArray 86)).alloc (.cells (pmL n (d, u)).toArray 86)).cell? ⟨w.heap.size + 1, 1, none⟩ = some (.int .i64 (u : Int)) := (hm0.at_ 1 rfl).cell 1
 have HM0 := Lib.hid hm0
 clear hm0 hx hy
 go_enter Tryz.func67, Tryz.ntmps67
 go_wp2_with fail
 refine (HOR.out _).mono ?_
 rintro e w1 ⟨rfl, q, os', rfl⟩
 have hz : ∃ os'', grow (((w.alloc (.cells (pmL n (c, v)).toArray 86)).alloc (.cells (pmL n (d, u)).toArray 86)).drewN q) os' = grow (w.drewN q) os'' := by
  refine ⟨#[.cells (pmL n (c, v)).toArray 86] ++ #[.cells (pmL n (d, u)).toArray 86] ++ os', ?_⟩
  rw [alloc_eq_grow, alloc_eq_grow, grow_grow]
  show grow (grow (w.drewN q) _) os' = _
  rw [grow_grow]
 have HZ := Lib.hid hz
 clear hz c0 c1 c2 c3
 go_wp2_with fail
 exact bodyPost_ret (v := .int .i64 (ordZ (c, v) (d, u))) (by simp [results, Tryz.results67, go_sem]) rfl ⟨rfl, q, HZ.out⟩
end Go.Proofs.YtaegjpancbmppaaGreatDoor
