/- Part 40 of 47 of the proof of the law: contracts of the functions that it reaches, and plain facts. Conditions: those that each contract names. -/
import Derived.Test.YtendjepcjmfmfaaGreatDoorOrdB39
import Derived.Test.YtendjepcjmfmfaaGreatDoorOrdB06
import Derived.Sort.Grow
namespace Go.Proofs.YtendjepcjmfmfaaGreatDoor
open Go.RowKit Go.Sort
theorem grow_of_below {X W : World} (hb : Below X.heap.size X W) (hd : X.drawn ≤ W.drawn) : ∃ q os', W = grow (X.drewN q) os' := by
 refine ⟨W.drawn - X.drawn, W.heap.extract X.heap.size W.heap.size, ?_⟩
 have hh : W.heap = X.heap ++ W.heap.extract X.heap.size W.heap.size := by
  apply Array.ext_getElem?
  intro k
  by_cases hk : k < X.heap.size
  ·rw [Array.getElem?_append_left hk, hb.block k hk]
  ·have hs := hb.size
   rw [Array.getElem?_append_right (by omega), Array.getElem?_extract]
   by_cases hk2 : k < W.heap.size
   ·rw [if_pos (by omega)]
    congr 1
    omega
   ·rw [if_neg (by omega), Array.getElem?_eq_none (by omega)]
 obtain ⟨h1, h2, h3, h4, h5⟩ := hb
 have hdr : W.drawn = X.drawn + (W.drawn - X.drawn) := by omega
 cases W
 cases X
 simp only [grow, World.drewN] at *
 subst h1 h2 h3
 rw [← hh, ← hdr]
def or3 (x y z : Int) : Int := if x ≠ 0 then x else if y ≠ 0 then y else z
set_option maxRecDepth 100000 in
set_option maxHeartbeats 1000000 in
theorem cmpOr3_any (a b d : Int) (g : Nat) (w : World) (h : Blk w g 3 [.int .i64 a, .int .i64 b, .int .i64 d]) :
  Calls Tryz.prog 73 #[.slice (some ⟨g, 0, none⟩) 3 3] w fun e w' => e = .returned (.int .i64 (or3 a b d)) ∧ w = w' := by
 obtain ⟨c0, c1, c2⟩ := three_of h
 clear h
 go_enter Tryz.func73, Tryz.ntmps73
 go_wp2
 go_loop [8] (fun v => ∃ k : Nat, k ≤ 3 ∧ v = .int .i64 (k : Int) ∧ (1 ≤ k → a = 0) ∧ (2 ≤ k → b = 0) ∧ (3 ≤ k → d = 0)) (fun v => 3 - (intOf v).toNat)
 case atStart => exact ⟨0, by omega, rfl, fun h => by omega, fun h => by omega, fun h => by omega⟩
 case round =>
  obtain ⟨k, hk, rfl, h1, h2, h3⟩ := hrel
  have H1 := Lib.hid h1
  have H2 := Lib.hid h2
  have H3 := Lib.hid h3
  clear h1 h2 h3
  have hkk : k = 0 ∨ k = 1 ∨ k = 2 ∨ k = 3 := by omega
  rcases hkk with rfl | rfl | rfl | rfl
  ·by_cases ha : a = 0
   ·subst ha
    have ht : ((0 : Int) != 0) = false := by decide
    go_wp2
    go_round
    case rel => exact ⟨1, by omega, rfl, by simp, by simp, by simp⟩
    case measure => simp [intOf]
   ·have ht : (a != 0) = true := by simpa using ha
    have HO := Lib.hid (show or3 a b d = a from if_pos ha)
    clear ha
    go_wp2
    go_ret
    exact ⟨by rw [HO.out]; rfl, rfl⟩
  ·have HA := Lib.hid (H1.out (Nat.le_refl _))
   by_cases hb : b = 0
   ·subst hb
    have ht : ((0 : Int) != 0) = false := by decide
    go_wp2
    go_round
    case rel => exact ⟨2, by omega, rfl, fun _ => HA.out, by simp, by simp⟩
    case measure => simp [intOf]
   ·have ht : (b != 0) = true := by simpa using hb
    have HO := Lib.hid (show or3 a b d = b by unfold or3; rw [if_neg (fun e => e HA.out), if_pos hb])
    clear hb
    go_wp2
    go_ret
    exact ⟨by rw [HO.out]; rfl, rfl⟩
  ·have HA := Lib.hid (H1.out (by omega))
   have HB := Lib.hid (H2.out (Nat.le_refl _))
   by_cases hb : d = 0
   ·subst hb
    have ht : ((0 : Int) != 0) = false := by decide
    go_wp2
    go_round
    case rel => exact ⟨3, by omega, rfl, fun _ => HA.out, fun _ => HB.out, by simp⟩
    case measure => simp [intOf]
   ·have ht : (d != 0) = true := by simpa using hb
    have HO := Lib.hid (show or3 a b d = d by unfold or3; rw [if_neg (fun e => e HA.out), if_neg (fun e => e HB.out)])
    clear hb
    go_wp2
    go_ret
    exact ⟨by rw [HO.out]; rfl, rfl⟩
  ·have HO := Lib.hid (show or3 a b d = 0 by unfold or3; rw [if_neg (fun e => e (H1.out (by omega))), if_neg (fun e => e (H2.out (by omega))), H3.out (Nat.le_refl _)])
   go_wp2
   go_ret
   exact ⟨by rw [HO.out]; rfl, rfl⟩
def cfB (v0 v1 : Nat → Int) (lo a b : Int) : Int := or3 (Lib.compareInt (v0 (a - lo).toNat) (v0 (b - lo).toNat)) (Lib.compareInt (v1 (a - lo).toNat) (v1 (b - lo).toNat)) (Lib.compareInt a b)
def HpD (X : World) (L : List (Nat × TypeId × List Value)) (W : World) : Prop := Hp X L W ∧ X.drawn ≤ W.drawn
set_option maxRecDepth 1000000 in
set_option maxHeartbeats 8000000 in
theorem clo42 (lo hi : Int) (n c g tb kb : Nat) (v0 v1 : Nat → Int) (sa sb : Int) (X : World) (h0 : 0 ≤ lo ∧ lo ≤ 127) (hn : n ≤ 128) (ha : lo ≤ sa ∧ sa < lo + n) (hb : lo ≤ sb ∧ sb < lo + n)
  (hT : Blk X tb 91 [.slice (some ⟨g, 0, none⟩) n c]) (hK : Blk X kb 80 [.int .i64 lo, .int .i64 hi]) (hI : IvsAt X g (bdL v0 v1 n)) :
  Calls Tryz.prog 72 #[.int .i64 sa, .int .i64 sb, .pointer (some ⟨tb, 0, none⟩), .pointer (some ⟨kb, 0, none⟩)] X fun e w' => e = .returned (.int .i64 (cfB v0 v1 lo sa sb)) ∧ ∃ q os', w' = grow (X.drewN q) os' := by
 obtain ⟨ia, hia⟩ : ∃ i, i = sa - lo := ⟨_, rfl⟩
 obtain ⟨ib, hib⟩ : ∃ i, i = sb - lo := ⟨_, rfl⟩
 have wa : IntKind.i64.wrap (sa - lo) = ia := by rw [hia]; exact IntWalk.i64_in _ (by omega)
 have wb : IntKind.i64.wrap (sb - lo) = ib := by rw [hib]; exact IntWalk.i64_in _ (by omega)
 obtain ⟨x0, hx0⟩ : ∃ x, x = v0 ia.toNat := ⟨_, rfl⟩
 obtain ⟨x1, hx1⟩ : ∃ x, x = v1 ia.toNat := ⟨_, rfl⟩
 obtain ⟨z0, hz0⟩ : ∃ x, x = v0 ib.toNat := ⟨_, rfl⟩
 obtain ⟨z1, hz1⟩ : ∃ x, x = v1 ib.toNat := ⟨_, rfl⟩
 obtain ⟨r1, hr1⟩ : ∃ r, r = Lib.compareInt x0 z0 := ⟨_, rfl⟩
 obtain ⟨r2, hr2⟩ : ∃ r, r = Lib.compareInt x1 z1 := ⟨_, rfl⟩
 obtain ⟨r3, hr3⟩ : ∃ r, r = Lib.compareInt sa sb := ⟨_, rfl⟩
 obtain ⟨r, hr⟩ : ∃ r, r = or3 r1 r2 r3 := ⟨_, rfl⟩
 have hcf : cfB v0 v1 lo sa sb = r := by unfold cfB; rw [← hia, ← hib, ← hx0, ← hx1, ← hz0, ← hz1, ← hr1, ← hr2, ← hr3, ← hr]
 rw [hcf]
 have hC1 := fun W => Tryz.cmp_Compare_int x0 z0 W
 have hC2 := fun W => Tryz.cmp_Compare_int x1 z1 W
 have hC3 := fun W => Tryz.cmp_Compare_int sa sb W
 rw [← hr1] at hC1
 rw [← hr2] at hC2
 rw [← hr3] at hC3
 have HC1 := Lib.hid hC1
 have HC2 := Lib.hid hC2
 have HC3 := Lib.hid hC3
 have hO := fun g W h => cmpOr3_any r1 r2 r3 g W h
 rw [← hr] at hO
 have HO := Lib.hid hO
 have hF : ∀ W, Below X.heap.size X W → (W.cell? ⟨tb, 0, none⟩ = some (.slice (some ⟨g, 0, none⟩) n c)) ∧ (W.cell? ⟨kb, 0, none⟩ = some (.int .i64 lo)) ∧ (W.cell? ⟨g, ia.toNat * 2, none⟩ = some (.int .i64 x0) ∧ W.cell? ⟨g, ia.toNat * 2 + 1, none⟩ = some (.int .i64 x1)) ∧ (W.cell? ⟨g, ib.toNat * 2, none⟩ = some (.int .i64 z0) ∧ W.cell? ⟨g, ib.toNat * 2 + 1, none⟩ = some (.int .i64 z1)) := fun W hW => by
  obtain ⟨-, hc⟩ := hI.below hW
  have ca := hc ia.toNat (by rw [bdL_len]; omega)
  have cb := hc ib.toNat (by rw [bdL_len]; omega)
  rw [bdL_get] at ca cb
  dsimp only at ca cb
  rw [← hx0, ← hx1] at ca
  rw [← hz0, ← hz1] at cb
  exact ⟨(hT.below hW hT.lt).cell 0, (hK.below hW hK.lt).cell 0, ca, cb⟩
 have HF := Lib.hid hF
 have HIN := Lib.hid (show (0 ≤ ia ∧ ia < (n : Int)) ∧ (0 ≤ ib ∧ ib < (n : Int)) by omega)
 have HWR := Lib.hid (And.intro wa wb)
 have HM0 := Lib.hid (show HpD X [] X from ⟨Hp.start X, Nat.le_refl _⟩)
 clear hia hib wa wb hx0 hx1 hz0 hz1 hr1 hr2 hr3 hr hcf hC1 hC2 hC3 hO hF h0 hn ha hb hT hK hI
 go_enter Tryz.func72, Tryz.ntmps72
 go_upto_region 1 with fail
 refine wp_regionJ 18 #[false, false, false, false, false, false, false, false, false, false, false, false, false, false, false, false, false, false] (fun l a W => ∃ (m0 m1 m2 m3 m4 m5 m6 m7 m8 m9 m10 m11 m12 m13 m14 m15 m16 m17 : Bool) (g1 : Nat) (g2 : Nat), l = #[m0, m1, m2, m3, m4, m5, m6, m7, m8, m9, m10, m11, m12, m13, m14, m15, m16, m17] ∧ a = ({ tmps := #[.int .i64 sa, .int .i64 sb, .pointer (some ⟨tb, 0, none⟩), .pointer (some ⟨kb, 0, none⟩), undef, undef, .int .i64 0, cwX m14 (.pointer (some ⟨g1, 0, none⟩)) (undef), cwX m15 (.pointer (some ⟨g2, 0, none⟩)) (undef), cwX m0 (.slice (some ⟨g, 0, none⟩) n c) (undef), cwX m1 (.int .i64 sa) (undef), cwX m2 (.pointer (some ⟨kb, 0, none⟩)) (undef), cwX m3 (.int .i64 lo) (undef), cwX m4 (.int .i64 ia) (undef), cwX m5 (.pointer (some ⟨g, ia.toNat * 2, none⟩)) (undef), cwX m6 (.agg #[.int .i64 x0, .int .i64 x1]) (undef), cwX m7 (.slice (some ⟨g, 0, none⟩) n c) (undef), cwX m8 (.int .i64 sb) (undef), cwX m9 (.pointer (some ⟨kb, 0, none⟩)) (undef), cwX m10 (.int .i64 lo) (undef), cwX m11 (.int .i64 ib) (undef), cwX m12 (.pointer (some ⟨g, ib.toNat * 2, none⟩)) (undef), cwX m13 (.agg #[.int .i64 z0, .int .i64 z1]) (undef), undef, undef, undef, undef, undef, undef, undef, undef, undef, undef, undef, undef, undef, undef, undef], defers := [] } : Act) ∧ ((m16 = true → m14 = true) ∧ (m17 = true → m15 = true)) ∧ HpD X (([] ++ cl m14 (g1, 53, bif m16 then [.int .i64 x0, .int .i64 x1] else [.int .i64 0, .int .i64 0])) ++ cl m15 (g2, 53, bif m17 then [.int .i64 z0, .int .i64 z1] else [.int .i64 0, .int .i64 0])) W) (by kernel_rfl) (by kernel_rfl) (by kernel_rfl) (by kernel_rfl) ?_ ?_ ?_ ?_
 ·rintro l a W ⟨m0, m1, m2, m3, m4, m5, m6, m7, m8, m9, m10, m11, m12, m13, m14, m15, m16, m17, g1, g2, rfl, _⟩
  rfl
 ·exact ⟨false, false, false, false, false, false, false, false, false, false, false, false, false, false, false, false, false, false, 0, 0, rfl, rfl, ⟨fun h => absurd h (by simp), fun h => absurd h (by simp)⟩, ⟨HM0.out.1.drew, Nat.le_succ_of_le HM0.out.2⟩⟩
 ·rintro l a W i o ⟨m0, m1, m2, m3, m4, m5, m6, m7, m8, m9, m10, m11, m12, m13, m14, m15, m16, m17, g1, g2, rfl, rfl, hi0, hm⟩ ho hun hall K hK
  have hi : i < 18 := (Array.getElem?_eq_some_iff.1 ho).1
  have HM := Lib.hid hm
  have HI := Lib.hid hi0
  clear hm hi0
  rcases (show i = 0 ∨ i = 1 ∨ i = 2 ∨ i = 3 ∨ i = 4 ∨ i = 5 ∨ i = 6 ∨ i = 7 ∨ i = 8 ∨ i = 9 ∨ i = 10 ∨ i = 11 ∨ i = 12 ∨ i = 13 ∨ i = 14 ∨ i = 15 ∨ i = 16 ∨ i = 17 by omega) with rfl | rfl | rfl | rfl | rfl | rfl | rfl | rfl | rfl | rfl | rfl | rfl | rfl | rfl | rfl | rfl | rfl | rfl
  ·cases ho
   simp at hun; subst hun
   clear hall hi
   obtain ⟨d0, d1, ⟨d2, d3⟩, d4, d5⟩ := HF.out W HM.out.1.below
   go_simp
   exact hK.out _ _ ⟨true, m1, m2, m3, m4, m5, m6, m7, m8, m9, m10, m11, m12, m13, m14, m15, m16, m17, g1, g2, rfl, rfl, by obtain ⟨h0, h1⟩ := HI.out; exact ⟨(fun e => by first | rfl | exact h0 e | cases e), (fun e => by first | rfl | exact h1 e | cases e)⟩, HM.out⟩
  ·cases ho
   simp at hun; subst hun
   clear hall hi
   go_simp
   exact hK.out _ _ ⟨m0, true, m2, m3, m4, m5, m6, m7, m8, m9, m10, m11, m12, m13, m14, m15, m16, m17, g1, g2, rfl, rfl, by obtain ⟨h0, h1⟩ := HI.out; exact ⟨(fun e => by first | rfl | exact h0 e | cases e), (fun e => by first | rfl | exact h1 e | cases e)⟩, HM.out⟩
  ·cases ho
   simp at hun; subst hun
   clear hall hi
   go_simp
   exact hK.out _ _ ⟨m0, m1, true, m3, m4, m5, m6, m7, m8, m9, m10, m11, m12, m13, m14, m15, m16, m17, g1, g2, rfl, rfl, by obtain ⟨h0, h1⟩ := HI.out; exact ⟨(fun e => by first | rfl | exact h0 e | cases e), (fun e => by first | rfl | exact h1 e | cases e)⟩, HM.out⟩
  ·cases ho
   cases (getBX hall 2 rfl : m2 = true)
   simp at hun; subst hun
   clear hall hi
   obtain ⟨d0, d1, ⟨d2, d3⟩, d4, d5⟩ := HF.out W HM.out.1.below
   go_simp
   exact hK.out _ _ ⟨m0, m1, true, true, m4, m5, m6, m7, m8, m9, m10, m11, m12, m13, m14, m15, m16, m17, g1, g2, rfl, rfl, by obtain ⟨h0, h1⟩ := HI.out; exact ⟨(fun e => by first | rfl | exact h0 e | cases e), (fun e => by first | rfl | exact h1 e | cases e)⟩, HM.out⟩
  ·cases ho
   cases (getBX hall 1 rfl : m1 = true)
   cases (getBX hall 3 rfl : m3 = true)
   simp at hun; subst hun
   clear hall hi
   obtain ⟨wa, wb⟩ := HWR.out
   go_simp
   exact hK.out _ _ ⟨m0, true, m2, true, true, m5, m6, m7, m8, m9, m10, m11, m12, m13, m14, m15, m16, m17, g1, g2, rfl, rfl, by obtain ⟨h0, h1⟩ := HI.out; exact ⟨(fun e => by first | rfl | exact h0 e | cases e), (fun e => by first | rfl | exact h1 e | cases e)⟩, HM.out⟩
  ·cases ho
   cases (getBX hall 0 rfl : m0 = true)
   cases (getBX hall 4 rfl : m4 = true)
   simp at hun; subst hun
   clear hall hi
   obtain ⟨⟨n0, n1⟩, n2, n3⟩ := HIN.out
   go_simp
   exact hK.out _ _ ⟨true, m1, m2, m3, true, true, m6, m7, m8, m9, m10, m11, m12, m13, m14, m15, m16, m17, g1, g2, rfl, rfl, by obtain ⟨h0, h1⟩ := HI.out; exact ⟨(fun e => by first | rfl | exact h0 e | cases e), (fun e => by first | rfl | exact h1 e | cases e)⟩, HM.out⟩
  ·cases ho
   cases (getBX hall 5 rfl : m5 = true)
   simp at hun; subst hun
   clear hall hi
   obtain ⟨d0, d1, ⟨d2, d3⟩, d4, d5⟩ := HF.out W HM.out.1.below
   go_simp
   exact hK.out _ _ ⟨m0, m1, m2, m3, m4, true, true, m7, m8, m9, m10, m11, m12, m13, m14, m15, m16, m17, g1, g2, rfl, rfl, by obtain ⟨h0, h1⟩ := HI.out; exact ⟨(fun e => by first | rfl | exact h0 e | cases e), (fun e => by first | rfl | exact h1 e | cases e)⟩, HM.out⟩
  ·cases ho
   simp at hun; subst hun
   clear hall hi
   obtain ⟨d0, d1, ⟨d2, d3⟩, d4, d5⟩ := HF.out W HM.out.1.below
   go_simp
   exact hK.out _ _ ⟨m0, m1, m2, m3, m4, m5, m6, true, m8, m9, m10, m11, m12, m13, m14, m15, m16, m17, g1, g2, rfl, rfl, by obtain ⟨h0, h1⟩ := HI.out; exact ⟨(fun e => by first | rfl | exact h0 e | cases e), (fun e => by first | rfl | exact h1 e | cases e)⟩, HM.out⟩
  ·cases ho
   simp at hun; subst hun
   clear hall hi
   go_simp
   exact hK.out _ _ ⟨m0, m1, m2, m3, m4, m5, m6, m7, true, m9, m10, m11, m12, m13, m14, m15, m16, m17, g1, g2, rfl, rfl, by obtain ⟨h0, h1⟩ := HI.out; exact ⟨(fun e => by first | rfl | exact h0 e | cases e), (fun e => by first | rfl | exact h1 e | cases e)⟩, HM.out⟩
  ·cases ho
   simp at hun; subst hun
   clear hall hi
   go_simp
   exact hK.out _ _ ⟨m0, m1, m2, m3, m4, m5, m6, m7, m8, true, m10, m11, m12, m13, m14, m15, m16, m17, g1, g2, rfl, rfl, by obtain ⟨h0, h1⟩ := HI.out; exact ⟨(fun e => by first | rfl | exact h0 e | cases e), (fun e => by first | rfl | exact h1 e | cases e)⟩, HM.out⟩
  ·cases ho
   cases (getBX hall 9 rfl : m9 = true)
   simp at hun; subst hun
   clear hall hi
   obtain ⟨d0, d1, ⟨d2, d3⟩, d4, d5⟩ := HF.out W HM.out.1.below
   go_simp
   exact hK.out _ _ ⟨m0, m1, m2, m3, m4, m5, m6, m7, m8, true, true, m11, m12, m13, m14, m15, m16, m17, g1, g2, rfl, rfl, by obtain ⟨h0, h1⟩ := HI.out; exact ⟨(fun e => by first | rfl | exact h0 e | cases e), (fun e => by first | rfl | exact h1 e | cases e)⟩, HM.out⟩
  ·cases ho
   cases (getBX hall 8 rfl : m8 = true)
   cases (getBX hall 10 rfl : m10 = true)
   simp at hun; subst hun
   clear hall hi
   obtain ⟨wa, wb⟩ := HWR.out
   go_simp
   exact hK.out _ _ ⟨m0, m1, m2, m3, m4, m5, m6, m7, true, m9, true, true, m12, m13, m14, m15, m16, m17, g1, g2, rfl, rfl, by obtain ⟨h0, h1⟩ := HI.out; exact ⟨(fun e => by first | rfl | exact h0 e | cases e), (fun e => by first | rfl | exact h1 e | cases e)⟩, HM.out⟩
  ·cases ho
   cases (getBX hall 7 rfl : m7 = true)
   cases (getBX hall 11 rfl : m11 = true)
   simp at hun; subst hun
   clear hall hi
   obtain ⟨⟨n0, n1⟩, n2, n3⟩ := HIN.out
   go_simp
   exact hK.out _ _ ⟨m0, m1, m2, m3, m4, m5, m6, true, m8, m9, m10, true, true, m13, m14, m15, m16, m17, g1, g2, rfl, rfl, by obtain ⟨h0, h1⟩ := HI.out; exact ⟨(fun e => by first | rfl | exact h0 e | cases e), (fun e => by first | rfl | exact h1 e | cases e)⟩, HM.out⟩
  ·cases ho
   cases (getBX hall 12 rfl : m12 = true)
   simp at hun; subst hun
   clear hall hi
   obtain ⟨d0, d1, ⟨d2, d3⟩, d4, d5⟩ := HF.out W HM.out.1.below
   go_simp
   exact hK.out _ _ ⟨m0, m1, m2, m3, m4, m5, m6, m7, m8, m9, m10, m11, true, true, m14, m15, m16, m17, g1, g2, rfl, rfl, by obtain ⟨h0, h1⟩ := HI.out; exact ⟨(fun e => by first | rfl | exact h0 e | cases e), (fun e => by first | rfl | exact h1 e | cases e)⟩, HM.out⟩
  ·cases ho
   simp at hun; subst hun
   clear hall hi
   obtain rfl : m16 = false := by
    cases m16
    ·rfl
    ·exact absurd (HI.out.1 rfl) (by simp)
   have HN := Lib.hid (HM.out.1.boxA)
   go_simp
   exact hK.out _ _ ⟨m0, m1, m2, m3, m4, m5, m6, m7, m8, m9, m10, m11, m12, m13, true, m15, false, m17, W.heap.size, g2, rfl, rfl, by obtain ⟨h0, h1⟩ := HI.out; exact ⟨(fun e => by first | rfl | exact h0 e | cases e), (fun e => by first | rfl | exact h1 e | cases e)⟩, ⟨HN.out, HM.out.2⟩⟩
  ·cases ho
   simp at hun; subst hun
   clear hall hi
   obtain rfl : m17 = false := by
    cases m17
    ·rfl
    ·exact absurd (HI.out.2 rfl) (by simp)
   have HN := Lib.hid (HM.out.1.boxB)
   go_simp
   exact hK.out _ _ ⟨m0, m1, m2, m3, m4, m5, m6, m7, m8, m9, m10, m11, m12, m13, m14, true, m16, false, g1, W.heap.size, rfl, rfl, by obtain ⟨h0, h1⟩ := HI.out; exact ⟨(fun e => by first | rfl | exact h0 e | cases e), (fun e => by first | rfl | exact h1 e | cases e)⟩, ⟨HN.out, HM.out.2⟩⟩
  ·cases ho
   cases (getBX hall 6 rfl : m6 = true)
   cases (getBX hall 14 rfl : m14 = true)
   simp at hun; subst hun
   clear hall hi
   obtain ⟨q0, q1⟩ := two_of (HM.out.1.at_ 0 rfl)
   have f0 := (HM.out.1.at_ 0 rfl).frozen 0
   have f1 := (HM.out.1.at_ 0 rfl).frozen 1
   have HN := Lib.hid (HM.out.1.put2 0 rfl (.int .i64 x0) (.int .i64 x1))
   go_simp
   exact hK.out _ _ ⟨m0, m1, m2, m3, m4, m5, true, m7, m8, m9, m10, m11, m12, m13, true, m15, true, m17, g1, g2, rfl, rfl, by obtain ⟨h0, h1⟩ := HI.out; exact ⟨(fun e => by first | rfl | exact h0 e | cases e), (fun e => by first | rfl | exact h1 e | cases e)⟩, ⟨HN.out, HM.out.2⟩⟩
  ·cases ho
   cases (getBX hall 13 rfl : m13 = true)
   cases (getBX hall 15 rfl : m15 = true)
   cases (getBX hall 16 rfl : m16 = true)
   obtain rfl : m14 = true := HI.out.1 rfl
   simp at hun; subst hun
   clear hall hi
   obtain ⟨q0, q1⟩ := two_of (HM.out.1.at_ 1 rfl)
   have f0 := (HM.out.1.at_ 1 rfl).frozen 0
   have f1 := (HM.out.1.at_ 1 rfl).frozen 1
   have HN := Lib.hid (HM.out.1.put2 1 rfl (.int .i64 z0) (.int .i64 z1))
   go_simp
   exact hK.out _ _ ⟨m0, m1, m2, m3, m4, m5, m6, m7, m8, m9, m10, m11, m12, true, true, true, true, true, g1, g2, rfl, rfl, by obtain ⟨h0, h1⟩ := HI.out; exact ⟨(fun e => by first | rfl | exact h0 e | cases e), (fun e => by first | rfl | exact h1 e | cases e)⟩, ⟨HN.out, HM.out.2⟩⟩
 ·rintro l a W ⟨m0, m1, m2, m3, m4, m5, m6, m7, m8, m9, m10, m11, m12, m13, m14, m15, m16, m17, g1, g2, rfl, rfl, _, hm⟩ hall
  cases (hall 0 (by decide) : m0 = true)
  cases (hall 1 (by decide) : m1 = true)
  cases (hall 2 (by decide) : m2 = true)
  cases (hall 3 (by decide) : m3 = true)
  cases (hall 4 (by decide) : m4 = true)
  cases (hall 5 (by decide) : m5 = true)
  cases (hall 6 (by decide) : m6 = true)
  cases (hall 7 (by decide) : m7 = true)
  cases (hall 8 (by decide) : m8 = true)
  cases (hall 9 (by decide) : m9 = true)
  cases (hall 10 (by decide) : m10 = true)
  cases (hall 11 (by decide) : m11 = true)
  cases (hall 12 (by decide) : m12 = true)
  cases (hall 13 (by decide) : m13 = true)
  cases (hall 14 (by decide) : m14 = true)
  cases (hall 15 (by decide) : m15 = true)
  cases (hall 16 (by decide) : m16 = true)
  cases (hall 17 (by decide) : m17 = true)
  clear hall
  have HM1 : Hid (HpD X [(g1, 53, [.int .i64 x0, .int .i64 x1]), (g2, 53, [.int .i64 z0, .int .i64 z1])] _) := Lib.hid hm
  clear hm HM0
  dsimp only [cwX, cond_true]
  go_upto_region 2 with fail
  refine wp_regionJ 16 #[false, false, false, false, false, false, false, false, false, false, false, false, false, false, false, false] (fun l a W => ∃ (m0 m1 m2 m3 m4 m5 m6 m7 m8 m9 m10 m11 m12 m13 m14 m15 : Bool) (g3 : Nat), l = #[m0, m1, m2, m3, m4, m5, m6, m7, m8, m9, m10, m11, m12, m13, m14, m15] ∧ a = ({ tmps := #[.int .i64 sa, .int .i64 sb, .pointer (some ⟨tb, 0, none⟩), .pointer (some ⟨kb, 0, none⟩), undef, undef, cwX m15 (.int .i64 r) (.int .i64 0), .pointer (some ⟨g1, 0, none⟩), .pointer (some ⟨g2, 0, none⟩), .slice (some ⟨g, 0, none⟩) n c, .int .i64 sa, .pointer (some ⟨kb, 0, none⟩), .int .i64 lo, .int .i64 ia, .pointer (some ⟨g, ia.toNat * 2, none⟩), .agg #[.int .i64 x0, .int .i64 x1], .slice (some ⟨g, 0, none⟩) n c, .int .i64 sb, .pointer (some ⟨kb, 0, none⟩), .int .i64 lo, .int .i64 ib, .pointer (some ⟨g, ib.toNat * 2, none⟩), .agg #[.int .i64 z0, .int .i64 z1], cwX m0 (.pointer (some ⟨g1, 0, none⟩)) (undef), cwX m1 (.int .i64 x0) (undef), cwX m2 (.pointer (some ⟨g2, 0, none⟩)) (undef), cwX m3 (.int .i64 z0) (undef), cwX m4 (.int .i64 r1) (undef), cwX m5 (.pointer (some ⟨g1, 1, none⟩)) (undef), cwX m6 (.int .i64 x1) (undef), cwX m7 (.pointer (some ⟨g2, 1, none⟩)) (undef), cwX m8 (.int .i64 z1) (undef), cwX m9 (.int .i64 r2) (undef), cwX m10 (.int .i64 sa) (undef), cwX m11 (.int .i64 sb) (undef), cwX m12 (.int .i64 r3) (undef), cwX m13 (.slice (some ⟨g3, 0, none⟩) 3 3) (undef), cwX m14 (.int .i64 r) (undef)], defers := [] } : Act) ∧ (True) ∧ HpD X (bif m13 then [(g1, 53, [.int .i64 x0, .int .i64 x1]), (g2, 53, [.int .i64 z0, .int .i64 z1])] ++ [(g3, 3, [.int .i64 r1, .int .i64 r2, .int .i64 r3])] else [(g1, 53, [.int .i64 x0, .int .i64 x1]), (g2, 53, [.int .i64 z0, .int .i64 z1])]) W) (by kernel_rfl) (by kernel_rfl) (by kernel_rfl) (by kernel_rfl) ?_ ?_ ?_ ?_
  ·rintro l a W ⟨m0, m1, m2, m3, m4, m5, m6, m7, m8, m9, m10, m11, m12, m13, m14, m15, g3, rfl, _⟩
   rfl
  ·exact ⟨false, false, false, false, false, false, false, false, false, false, false, false, false, false, false, false, 0, rfl, rfl, trivial, ⟨HM1.out.1.drew, Nat.le_succ_of_le HM1.out.2⟩⟩
  ·rintro l a W i o ⟨m0, m1, m2, m3, m4, m5, m6, m7, m8, m9, m10, m11, m12, m13, m14, m15, g3, rfl, rfl, hi0, hm⟩ ho hun hall K hK
   have hi : i < 16 := (Array.getElem?_eq_some_iff.1 ho).1
   have HM := Lib.hid hm
   have HI := Lib.hid hi0
   clear hm hi0
   rcases (show i = 0 ∨ i = 1 ∨ i = 2 ∨ i = 3 ∨ i = 4 ∨ i = 5 ∨ i = 6 ∨ i = 7 ∨ i = 8 ∨ i = 9 ∨ i = 10 ∨ i = 11 ∨ i = 12 ∨ i = 13 ∨ i = 14 ∨ i = 15 by omega) with rfl | rfl | rfl | rfl | rfl | rfl | rfl | rfl | rfl | rfl | rfl | rfl | rfl | rfl | rfl | rfl
   ·cases ho
    simp at hun; subst hun
    clear hall hi
    go_simp
    exact hK.out _ _ ⟨true, m1, m2, m3, m4, m5, m6, m7, m8, m9, m10, m11, m12, m13, m14, m15, g3, rfl, rfl, trivial, HM.out⟩
   ·cases ho
    cases (getBX hall 0 rfl : m0 = true)
    simp at hun; subst hun
    clear hall hi
    obtain ⟨q0, q1⟩ := two_of (show Blk W g1 53 [.int .i64 x0, .int .i64 x1] by cases m13 <;> exact HM.out.1.at_ 0 rfl)
    go_simp
    exact hK.out _ _ ⟨true, true, m2, m3, m4, m5, m6, m7, m8, m9, m10, m11, m12, m13, m14, m15, g3, rfl, rfl, trivial, HM.out⟩
   ·cases ho
    simp at hun; subst hun
    clear hall hi
    go_simp
    exact hK.out _ _ ⟨m0, m1, true, m3, m4, m5, m6, m7, m8, m9, m10, m11, m12, m13, m14, m15, g3, rfl, rfl, trivial, HM.out⟩
   ·cases ho
    cases (getBX hall 2 rfl : m2 = true)
    simp at hun; subst hun
    clear hall hi
    obtain ⟨q0, q1⟩ := two_of (show Blk W g2 53 [.int .i64 z0, .int .i64 z1] by cases m13 <;> exact HM.out.1.at_ 1 rfl)
    go_simp
    exact hK.out _ _ ⟨m0, m1, true, true, m4, m5, m6, m7, m8, m9, m10, m11, m12, m13, m14, m15, g3, rfl, rfl, trivial, HM.out⟩
   ·cases ho
    cases (getBX hall 1 rfl : m1 = true)
    cases (getBX hall 3 rfl : m3 = true)
    simp at hun; subst hun
    clear hall hi
    go_simp
    refine (HC1.out _).mono ?_
    rintro e W' ⟨rfl, rfl⟩
    exact hK.out _ _ ⟨m0, true, m2, true, true, m5, m6, m7, m8, m9, m10, m11, m12, m13, m14, m15, g3, rfl, rfl, trivial, HM.out⟩
   ·cases ho
    simp at hun; subst hun
    clear hall hi
    go_simp
    exact hK.out _ _ ⟨m0, m1, m2, m3, m4, true, m6, m7, m8, m9, m10, m11, m12, m13, m14, m15, g3, rfl, rfl, trivial, HM.out⟩
   ·cases ho
    cases (getBX hall 5 rfl : m5 = true)
    simp at hun; subst hun
    clear hall hi
    obtain ⟨q0, q1⟩ := two_of (show Blk W g1 53 [.int .i64 x0, .int .i64 x1] by cases m13 <;> exact HM.out.1.at_ 0 rfl)
    go_simp
    exact hK.out _ _ ⟨m0, m1, m2, m3, m4, true, true, m7, m8, m9, m10, m11, m12, m13, m14, m15, g3, rfl, rfl, trivial, HM.out⟩
   ·cases ho
    simp at hun; subst hun
    clear hall hi
    go_simp
    exact hK.out _ _ ⟨m0, m1, m2, m3, m4, m5, m6, true, m8, m9, m10, m11, m12, m13, m14, m15, g3, rfl, rfl, trivial, HM.out⟩
   ·cases ho
    cases (getBX hall 7 rfl : m7 = true)
    simp at hun; subst hun
    clear hall hi
    obtain ⟨q0, q1⟩ := two_of (show Blk W g2 53 [.int .i64 z0, .int .i64 z1] by cases m13 <;> exact HM.out.1.at_ 1 rfl)
    go_simp
    exact hK.out _ _ ⟨m0, m1, m2, m3, m4, m5, m6, true, true, m9, m10, m11, m12, m13, m14, m15, g3, rfl, rfl, trivial, HM.out⟩
   ·cases ho
    cases (getBX hall 6 rfl : m6 = true)
    cases (getBX hall 8 rfl : m8 = true)
    simp at hun; subst hun
    clear hall hi
    go_simp
    refine (HC2.out _).mono ?_
    rintro e W' ⟨rfl, rfl⟩
    exact hK.out _ _ ⟨m0, m1, m2, m3, m4, m5, true, m7, true, true, m10, m11, m12, m13, m14, m15, g3, rfl, rfl, trivial, HM.out⟩
   ·cases ho
    simp at hun; subst hun
    clear hall hi
    go_simp
    exact hK.out _ _ ⟨m0, m1, m2, m3, m4, m5, m6, m7, m8, m9, true, m11, m12, m13, m14, m15, g3, rfl, rfl, trivial, HM.out⟩
   ·cases ho
    simp at hun; subst hun
    clear hall hi
    go_simp
    exact hK.out _ _ ⟨m0, m1, m2, m3, m4, m5, m6, m7, m8, m9, m10, true, m12, m13, m14, m15, g3, rfl, rfl, trivial, HM.out⟩
   ·cases ho
    cases (getBX hall 10 rfl : m10 = true)
    cases (getBX hall 11 rfl : m11 = true)
    simp at hun; subst hun
    clear hall hi
    go_simp
    refine (HC3.out _).mono ?_
    rintro e W' ⟨rfl, rfl⟩
    exact hK.out _ _ ⟨m0, m1, m2, m3, m4, m5, m6, m7, m8, m9, true, true, true, m13, m14, m15, g3, rfl, rfl, trivial, HM.out⟩
   ·cases ho
    cases (getBX hall 4 rfl : m4 = true)
    cases (getBX hall 9 rfl : m9 = true)
    cases (getBX hall 12 rfl : m12 = true)
    simp at hun; subst hun
    clear hall hi
    go_simp
    exact hK.out _ _ ⟨m0, m1, m2, m3, true, m5, m6, m7, m8, true, m10, m11, true, true, m14, m15, W.heap.size, rfl, rfl, trivial, ⟨HM.out.1.new _ _, HM.out.2⟩⟩
   ·cases ho
    cases (getBX hall 13 rfl : m13 = true)
    simp at hun; subst hun
    clear hall hi
    go_simp
    refine (HO.out _ _ (HM.out.1.at_ 2 rfl)).mono ?_
    rintro e W' ⟨rfl, rfl⟩
    exact hK.out _ _ ⟨m0, m1, m2, m3, m4, m5, m6, m7, m8, m9, m10, m11, m12, true, true, m15, g3, rfl, rfl, trivial, HM.out⟩
   ·cases ho
    cases (getBX hall 14 rfl : m14 = true)
    simp at hun; subst hun
    clear hall hi
    go_simp
    exact hK.out _ _ ⟨m0, m1, m2, m3, m4, m5, m6, m7, m8, m9, m10, m11, m12, m13, true, true, g3, rfl, rfl, trivial, HM.out⟩
  ·rintro l a W ⟨m0, m1, m2, m3, m4, m5, m6, m7, m8, m9, m10, m11, m12, m13, m14, m15, g3, rfl, rfl, _, hm⟩ hall
   cases (hall 0 (by decide) : m0 = true)
   cases (hall 1 (by decide) : m1 = true)
   cases (hall 2 (by decide) : m2 = true)
   cases (hall 3 (by decide) : m3 = true)
   cases (hall 4 (by decide) : m4 = true)
   cases (hall 5 (by decide) : m5 = true)
   cases (hall 6 (by decide) : m6 = true)
   cases (hall 7 (by decide) : m7 = true)
   cases (hall 8 (by decide) : m8 = true)
   cases (hall 9 (by decide) : m9 = true)
   cases (hall 10 (by decide) : m10 = true)
   cases (hall 11 (by decide) : m11 = true)
   cases (hall 12 (by decide) : m12 = true)
   cases (hall 13 (by decide) : m13 = true)
   cases (hall 14 (by decide) : m14 = true)
   cases (hall 15 (by decide) : m15 = true)
   clear hall
   have HZ := Lib.hid (grow_of_below hm.1.below hm.2)
   clear hm HM1
   dsimp only [cwX, cond_true]
   go_wp2_with fail
   exact bodyPost_ret (v := .int .i64 r) (by simp [results, Tryz.results72, go_sem]) rfl ⟨rfl, HZ.out⟩
end Go.Proofs.YtendjepcjmfmfaaGreatDoor
namespace Go.Proofs.YtendjepcjmfmfaaGreatDoor
open Go.RowKit
def riT (v0 v1 : Nat → Int) (lo : Int) : Nat → Nat → Int × Bool
 | 0, _ => (0, true)
 | m + 1, j => if v0 (j + 1) ≤ v1 j then (lo + j, false) else riT v0 v1 lo m (j + 1)
def RiRel (w : World) (C : Nat → Tm) (p lo hi : Int) (v0 v1 : Nat → Int) (n : Nat) (T : Int × Bool) (i : Value) (W : World) : Prop :=
 ∃ j : Nat, j < n ∧ i = .int .i64 ((j + 1 : Nat) : Int) ∧ T = riT v0 v1 lo (n - 1 - j) j ∧ Hp w [(w.heap.size, 41, tuL C p), (w.heap.size + 1, 80, [.int .i64 lo, .int .i64 hi])] W
set_option maxRecDepth 1000000 in
set_option maxHeartbeats 8000000 in
theorem brising_ok (C : Nat → Tm) (p s lo hi : Int) (n : Nat) (v0 v1 : Nat → Int) (w : World) (ht : Tab w) (h0 : 0 ≤ lo ∧ lo ≤ 127) (hn : 0 < n ∧ n ≤ 128)
  (hA : ∀ W, Tab W → Calls Tryz.prog 67 #[.agg (tuL C p).toArray, .int .i64 s, .agg #[.int .i64 lo, .int .i64 hi]] W fun e w' => ∃ (A : Option Addr) (c : Nat), e = .returned (.tuple #[.slice A n c, .int .i64 0]) ∧ w'.ownsRow W.heap.size 53 2 (.slice A n c) n (prs42 (bdL v0 v1 n)) ∧ Below W.heap.size W w') :
  Calls Tryz.prog 32 #[.agg (tuL C p).toArray, .int .i64 s, .agg #[.int .i64 lo, .int .i64 hi]] w fun e w' => e = .returned (.tuple #[.int .i64 (riT v0 v1 lo (n - 1) 0).1, .bool (riT v0 v1 lo (n - 1) 0).2, .int .i64 0]) ∧ Below w.heap.size w w' := by
 obtain ⟨T, hT0⟩ : ∃ T, T = riT v0 v1 lo (n - 1) 0 := ⟨_, rfl⟩
 rw [← hT0]
 have HTT := Lib.hid hT0
 have HA := Lib.hid hA
 have HT := Lib.hid ht
 have HR := Lib.hid (And.intro h0 hn)
 have hm0 := ((Hp.start w).new 41 (tuL C p)).new 80 [.int .i64 lo, .int .i64 hi]
 simp only [World.size_alloc, List.nil_append, List.cons_append] at hm0
 have HM0 := Lib.hid hm0
 obtain ⟨y0, y1⟩ := two_of (hm0.at_ 1 rfl)
 clear hm0 hA ht h0 hn hT0
 go_enter Tryz.func32, Tryz.ntmps32
 go_wp2_with (refine wpList_load_row rfl 41 _ rfl w.heap.size rfl 41 (tuL C p).toArray (0, 0) _ (HM0.out.at_ 0 rfl) Tryz.underlying41 rfl (by rw [infoTun, List.size_toArray, tuL_len]) ?_)
 refine (HA.out _ (HT.out.below HM0.out.below)).mono ?_
 rintro e W0 ⟨A, c, rfl, hown, hb1⟩
 obtain ⟨g, c2, hv, hc2⟩ := own_form hown HR.out.2.1
 injection hv with e1 e2 e3
 subst e1 e3
 have HIV := Lib.hid (ivs_own hown (bdL_len v0 v1 n).symm)
 have HM1 := Lib.hid (HM0.out.step hb1)
 clear hown hb1 HM0 y0 y1 e2 hc2
 go_wp2_with fail
 go_loopw [10] (fun i wr => RiRel w C p lo hi v0 v1 n T i wr ∧ Hp W0 [] wr) (fun i _ => n + 1 - (intOf i).toNat)
 case atStart => exact ⟨⟨0, HR.out.2.1, rfl, HTT.out, HM1.out⟩, Hp.start W0⟩
 case round =>
  obtain ⟨⟨j, hj, rfl, hTj, hm⟩, hw0⟩ := hrel
  have HM := Lib.hid hm
  have HW0 := Lib.hid hw0
  have HTJ := Lib.hid hTj
  obtain ⟨k, hk⟩ : ∃ k : Nat, k = j + 1 := ⟨_, rfl⟩
  rw [← hk]
  have HK := Lib.hid hk
  clear hm hw0 hTj HM1
  by_cases hlt : k < n
  ·have hiv := (HIV.out.below HW0.out.below).2
   obtain ⟨-, c1⟩ := hiv j (by rw [bdL_len]; omega)
   obtain ⟨c2', -⟩ := hiv k (by rw [bdL_len]; omega)
   rw [bdL_get] at c1 c2'
   dsimp only at c1 c2'
   obtain ⟨x, hx⟩ : ∃ x, x = v1 j := ⟨_, rfl⟩
   obtain ⟨y, hy⟩ : ∃ x, x = v0 k := ⟨_, rfl⟩
   rw [← hx] at c1
   rw [← hy] at c2'
   obtain ⟨z, hz⟩ : ∃ z : Int, z = (j : Int) := ⟨_, rfl⟩
   have hwz : IntKind.i64.wrap ((k : Int) - 1) = z := by rw [hz, hk]; exact (IntWalk.i64_in _ (by have := HR.out; omega)).trans (by omega)
   have hz0 : 0 ≤ z := by omega
   have hzn : z < (n : Int) := by omega
   have hkn : (k : Int) < (n : Int) := by omega
   rw [show j * 2 + 1 = z.toNat * 2 + 1 by omega] at c1
   have HXY := Lib.hid (And.intro hx (And.intro hy hz))
   have hst : T = if y ≤ x then (lo + z, false) else riT v0 v1 lo (n - 1 - k) k := by
    rw [HTJ.out, show n - 1 - j = (n - 1 - k) + 1 by omega]
    show (if v0 (j + 1) ≤ v1 j then (lo + (j : Int), false) else riT v0 v1 lo (n - 1 - k) (j + 1)) = _
    rw [← hk, ← hx, ← hy, ← hz]
   have HST := Lib.hid hst
   obtain ⟨q1, hq1⟩ : ∃ q, q = lo + (k : Int) := ⟨_, rfl⟩
   obtain ⟨q2, hq2⟩ : ∃ q, q = lo + z := ⟨_, rfl⟩
   have hw1 : IntKind.i64.wrap (lo + (k : Int)) = q1 := by rw [hq1]; exact IntWalk.i64_in _ (by have := HR.out; omega)
   have hw2 : IntKind.i64.wrap (q1 - 1) = q2 := by rw [hq1, hq2, hz, hk]; exact (IntWalk.i64_in _ (by have := HR.out; omega)).trans (by omega)
   have HQ2 := Lib.hid hq2
   have HLT := Lib.hid (And.intro hlt hj)
   obtain ⟨k2, hk2⟩ : ∃ k2 : Int, k2 = (k : Int) + 1 := ⟨_, rfl⟩
   have hwk : IntKind.i64.wrap ((k : Int) + 1) = k2 := by rw [hk2]; exact IntWalk.i64_in _ (by have := HR.out; omega)
   have HK2 := Lib.hid hk2
   obtain ⟨p0, p1⟩ := two_of (HM.out.at_ 1 rfl)
   clear hx hy hz hst hq1 hq2 hk2 hk hlt hj hiv
   by_cases hxy : y ≤ x
   ·have HE := Lib.hid (HST.out.trans (if_pos hxy))
    go_wp2_with fail
    go_quiet (fail)
    have HN := Lib.hid (HM.out.drewN nq)
    obtain ⟨s0, s1⟩ := two_of (HN.out.at_ 1 rfl)
    clear p0 p1 c1 c2'
    go_wp2_with fail
    exact bodyPost_ret (v := .tuple #[.int .i64 q2, .bool false, .int .i64 0]) (by simp [results, Tryz.results32, go_sem]) rfl ⟨by rw [HE.out, HQ2.out], HN.out.below⟩
   ·have HE := Lib.hid (HST.out.trans (if_neg hxy))
    go_wp2_with fail
    go_quiet (fail)
    have HN := Lib.hid (HM.out.drewN nq)
    have HN0 := Lib.hid (HW0.out.drewN nq)
    clear p0 p1 c1 c2'
    go_wp2_with fail
    go_roundw
    case rel => exact ⟨⟨k, HLT.out.1, by rw [HK2.out]; rfl, HE.out, HN.out⟩, HN0.out⟩
    case measure => have := HK2.out; have := HLT.out; simp only [intOf]; omega
  ·have HE := Lib.hid (show T = (0, true) by rw [HTJ.out, show n - 1 - j = 0 by omega]; rfl)
   have hkn : ¬ (k : Int) < (n : Int) := by omega
   clear hlt hk hj
   go_wp2_with fail
   exact bodyPost_ret (v := .tuple #[.int .i64 0, .bool true, .int .i64 0]) (by simp [results, Tryz.results32, go_sem]) rfl ⟨by rw [HE.out], HM.out.below⟩
end Go.Proofs.YtendjepcjmfmfaaGreatDoor
