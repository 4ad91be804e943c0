/- Part 22 of 47 of the proof of the law: contracts of the functions that it reaches, and plain facts. Conditions: those that each contract names. -/
import Derived.Test.YtendjepcjmfmfaaGreatDoorOrdB20
import Derived.Laws.StructEq
import Derived.Test.YtendjepcjmfmfaaGreatDoorOrdB06
import Derived.Test.YtendjepcjmfmfaaGreatDoorOrdB21
namespace Go.Proofs.YtendjepcjmfmfaaGreatDoor
section
section
open Go.RowKit Go.Op
theorem part_three (w : World) (x y z : Int) : ((part 3 #[.int .i64 x, .int .i64 y, .int .i64 z] (0 * 1)).run Tryz.prog w = .ok (.int .i64 x) w) ∧ ((part 3 #[.int .i64 x, .int .i64 y, .int .i64 z] (1 * 1)).run Tryz.prog w = .ok (.int .i64 y) w) ∧ ((part 3 #[.int .i64 x, .int .i64 y, .int .i64 z] (2 * 1)).run Tryz.prog w = .ok (.int .i64 z) w) := by
 refine ⟨?_, ?_, ?_⟩ <;> simp [go_sem]
theorem eqlIn_three (w : World) (a b c d e f : Int) (n : Nat) :
  (Op.equalIn (n + 2) 57 (.agg #[.int .i64 a, .int .i64 b, .int .i64 c]) (.agg #[.int .i64 d, .int .i64 e, .int .i64 f])).run Tryz.prog w = .ok (a == d && b == e && c == f) w := by
 have hs : (sizeOf 3).run Tryz.prog w = .ok 1 w := by simp [go_sem]
 have hi : ∀ (x y : Int), (Op.equalIn (n + 1) 3 (.int .i64 x) (.int .i64 y)).run Tryz.prog w = .ok (x == y) w := fun x y => run_equalIn_int w n _ _ _ _ _ Tryz.underlying3
 obtain ⟨h0, h1, h2⟩ := part_three w a b c
 obtain ⟨h3, h4, h5⟩ := part_three w d e f
 rw [show n + 2 = (n + 1) + 1 from rfl]
 unfold Op.equalIn
 simp only [Sem.run_bind, run_underlying Tryz.underlying57, Result.andThen_ok, hs]
 rw [Std.Legacy.Range.forIn_eq_forIn_range']
 simp [List.range', h0, h1, h2, h3, h4, h5, hi, Sem.run_bind, Result.andThen_ok]
 by_cases e1 : a = d <;> by_cases e2 : b = e <;> by_cases e3 : c = f <;> simp [e1, e2, e3]
theorem eql_three (w : World) (a b c d e f : Int) :
  (binOp .eql 57 (.agg #[.int .i64 a, .int .i64 b, .int .i64 c]) (.agg #[.int .i64 d, .int .i64 e, .int .i64 f])).run Tryz.prog w = .ok (.bool (a == d && b == e && c == f)) w := by
 rw [run_eql_struct]
 rw [eqlIn_three w a b c d e f 9998]
 rfl
end
open Go.RowKit
set_option maxRecDepth 100000 in
set_option maxHeartbeats 4000000 in
theorem isign_zero (w : World) : Calls Tryz.prog 86 #[.agg #[.int .i64 0, .int .i64 0, .int .i64 0]] w fun e w' => e = .returned (.int .i64 0) ∧ Below w.heap.size w w' := by
 have heq := fun W => eql_three W 0 0 0 0 0 0
 go_enter Tryz.func86, Tryz.ntmps86
 go_wp2
 go_ret
 exact ⟨rfl, bw_new (Below.refl _ _) _⟩
set_option maxRecDepth 100000 in
set_option maxHeartbeats 4000000 in
theorem isign_dec (x y z s : Int) (w : World) (ht : Tab w) (hx : M12 x) (hy : M12 y) (hz : M12 z) (hn : ¬ (x = 0 ∧ y = 0 ∧ z = 0)) (h1 : sgn (loZ x y z) = s) (h2 : sgn (hiZ x y z) = s) (hs : s ≠ 0) :
  Calls Tryz.prog 86 #[.agg #[.int .i64 x, .int .i64 y, .int .i64 z]] w fun e w' => e = .returned (.int .i64 s) ∧ Below w.heap.size w w' := by
 have hbn := fun W hW => bounds_any x y z W hW hx hy hz
 have heq := fun W => eql_three W x y z 0 0 0
 have hf : (x == 0 && y == 0 && z == 0) = false := by
  by_cases e1 : x = 0 <;> by_cases e2 : y = 0 <;> by_cases e3 : z = 0 <;> simp [e1, e2, e3]
  exact hn ⟨e1, e2, e3⟩
 simp only [hf] at heq
 have hsa := fun W => sign_any (loZ x y z) W
 have hsb := fun W => sign_any (hiZ x y z) W
 rw [h1] at hsa
 rw [h2] at hsb
 obtain ⟨lo, hlo⟩ : ∃ a, a = dec (loZ x y z) := ⟨_, rfl⟩
 obtain ⟨hi, hhi⟩ : ∃ a, a = dec (hiZ x y z) := ⟨_, rfl⟩
 rw [← hlo, ← hhi] at hbn
 rw [← hlo] at hsa
 rw [← hhi] at hsb
 have hss : (s == 0) = false := by simpa using hs
 have hss2 : (s != 0) = true := by simpa using hs
 have HBN := Lib.hid hbn
 have HSA := Lib.hid hsa
 have HSB := Lib.hid hsb
 have HT := Lib.hid (ht.below (bw_new (Below.refl w.heap.size w) (.cells #[.int .i64 x, .int .i64 y, .int .i64 z] 57)))
 clear hbn hsa hsb hlo hhi hx hy hz hn h1 h2 hf ht
 go_enter Tryz.func86, Tryz.ntmps86
 go_wp2_with fail
 refine (HBN.out _ HT.out).mono ?_
 rintro e w1 ⟨rfl, hb⟩
 have HB := Lib.hid ((bw_new (Below.refl w.heap.size w) (.cells #[.int .i64 x, .int .i64 y, .int .i64 z] 57)).trans (hb.mono (by simp)))
 clear hb heq
 go_wp2_with fail
 refine (HSA.out _).mono ?_
 rintro e w2 ⟨rfl, rfl⟩
 go_wp2_with fail
 refine (HSB.out _).mono ?_
 rintro e w3 ⟨rfl, rfl⟩
 go_wp2
 go_ret
 exact ⟨rfl, HB.out⟩
set_option maxRecDepth 100000 in
set_option maxHeartbeats 4000000 in
theorem iboth_any (a0 b0 a1 b1 a2 b2 c0 d0 c1 d1 c2 d2 : Int) (w : World) (k1 : I64 a0) (k2 : I64 b0) (k3 : I64 a1) (k4 : I64 b1) (k5 : I64 a2) (k6 : I64 b2) (l1 : I64 c0) (l2 : I64 d0) (l3 : I64 c1) (l4 : I64 d1) (l5 : I64 c2) (l6 : I64 d2) :
  Calls Tryz.prog 83 #[szv a0 b0 a1 b1 a2 b2, szv c0 d0 c1 d1 c2 d2] w fun e w' =>
   e = .returned (.int .i64 (if ivE [(a0, b0), (a1, b1), (a2, b2)] ≠ 0 then ivE [(a0, b0), (a1, b1), (a2, b2)] else ivE [(c0, d0), (c1, d1), (c2, d2)])) ∧ Below w.heap.size w w' := by
 have hc := fun W => icheck_any a0 b0 a1 b1 a2 b2 W k1 k2 k3 k4 k5 k6
 have hd := fun W => icheck_any c0 d0 c1 d1 c2 d2 W l1 l2 l3 l4 l5 l6
 obtain ⟨r, hr⟩ : ∃ r, r = ivE [(a0, b0), (a1, b1), (a2, b2)] := ⟨_, rfl⟩
 obtain ⟨q, hq⟩ : ∃ q, q = ivE [(c0, d0), (c1, d1), (c2, d2)] := ⟨_, rfl⟩
 rw [← hr] at hc ⊢
 rw [← hq] at hd ⊢
 have HC := Lib.hid hc
 have HD := Lib.hid hd
 clear hc hd hr hq k1 k2 k3 k4 k5 k6 l1 l2 l3 l4 l5 l6
 have hx : Blk ((w.alloc (.cells #[.int .i64 a0, .int .i64 b0, .int .i64 a1, .int .i64 b1, .int .i64 a2, .int .i64 b2] 49)).alloc (.cells #[.int .i64 c0, .int .i64 d0, .int .i64 c1, .int .i64 d1, .int .i64 c2, .int .i64 d2] 49)) (w.heap.size + 1) 49 [.int .i64 c0, .int .i64 d0, .int .i64 c1, .int .i64 d1, .int .i64 c2, .int .i64 d2] := by
  have := heap_alloc_new (w.alloc (.cells #[.int .i64 a0, .int .i64 b0, .int .i64 a1, .int .i64 b1, .int .i64 a2, .int .i64 b2] 49)) (.cells #[.int .i64 c0, .int .i64 d0, .int .i64 c1, .int .i64 d1, .int .i64 c2, .int .i64 d2] 49)
  rw [World.size_alloc] at this
  exact this
 have HX := Lib.hid hx
 have HB0 := Lib.hid (bw_new (bw_new (Below.refl w.heap.size w) (.cells #[.int .i64 a0, .int .i64 b0, .int .i64 a1, .int .i64 b1, .int .i64 a2, .int .i64 b2] 49)) (.cells #[.int .i64 c0, .int .i64 d0, .int .i64 c1, .int .i64 d1, .int .i64 c2, .int .i64 d2] 49))
 clear hx
 by_cases h0 : r = 0
 ·have hz1 : (r == 0) = true := by simpa using h0
  have hz2 : (r != 0) = false := by simpa using h0
  rw [if_neg (fun h => h h0)]
  clear h0
  go_enter Tryz.func83, Tryz.ntmps83
  go_wp2_with fail
  refine (HC.out _).mono ?_
  rintro e w1 ⟨rfl, hb⟩
  have HX1 := Lib.hid (HX.out.below hb HX.out.lt)
  have HB1 := Lib.hid (HB0.out.trans (hb.mono HB0.out.size))
  obtain ⟨e0, e1, e2, e3, e4, e5⟩ := six_of HX1.out
  clear hb
  go_wp2_with fail
  refine (HD.out _).mono ?_
  rintro e w2 ⟨rfl, hb⟩
  have HB2 := Lib.hid (HB1.out.trans (hb.mono HB1.out.size))
  clear hb e0 e1 e2 e3 e4 e5
  go_wp2
  go_ret
  exact ⟨rfl, HB2.out⟩
 ·have hz1 : (r == 0) = false := by simpa using h0
  have hz2 : (r != 0) = true := by simpa using h0
  rw [if_pos h0]
  clear h0
  go_enter Tryz.func83, Tryz.ntmps83
  go_wp2_with fail
  refine (HC.out _).mono ?_
  rintro e w1 ⟨rfl, hb⟩
  have HB1 := Lib.hid (HB0.out.trans (hb.mono HB0.out.size))
  clear hb
  go_wp2
  go_ret
  exact ⟨rfl, HB1.out⟩
end
section
open Go.RowKit Go.Op
def szB (a0 b0 a1 b1 a2 b2 c0 d0 c1 d1 c2 d2 : Int) : Bool := (a0 == c0 && b0 == d0) && ((a1 == c1 && b1 == d1) && (a2 == c2 && b2 == d2))
end
end Go.Proofs.YtendjepcjmfmfaaGreatDoor
namespace Go.Proofs.YtendjepcjmfmfaaGreatDoor
open Go.RowKit
def OvMem (w : World) (g : Nat) (x y z : Int) (W : World) : Prop :=
 Blk W (w.heap.size + 1) 57 [.int .i64 0, .int .i64 0, .int .i64 0] ∧ Blk W g 57 [.int .i64 x, .int .i64 y, .int .i64 z] ∧ Below w.heap.size w W
theorem OvMem.below {w W W' : World} {g : Nat} {x y z : Int} (h : OvMem w g x y z W) (hb : Below W.heap.size W W') : OvMem w g x y z W' := ⟨h.1.below hb h.1.lt, h.2.1.below hb h.2.1.lt, h.2.2.trans (hb.mono h.2.2.size)⟩
theorem OvMem.put {w W : World} {g : Nat} {x y z : Int} (h : OvMem w g x y z W) (hg : w.heap.size + 1 < g) (u : Int) : OvMem w g u y z (W.setCell ⟨g, 0, none⟩ (.int .i64 u)) ∧ OvMem w g x u z (W.setCell ⟨g, 1, none⟩ (.int .i64 u)) ∧ OvMem w g x y u (W.setCell ⟨g, 2, none⟩ (.int .i64 u)) := by
 have e1 : w.heap.size + 1 ≠ g := by omega
 exact ⟨⟨h.1.far e1 _, h.2.1.put 0 _, bw_set h.2.2 (by omega) _⟩, ⟨h.1.far e1 _, h.2.1.put 1 _, bw_set h.2.2 (by omega) _⟩, ⟨h.1.far e1 _, h.2.1.put 2 _, bw_set h.2.2 (by omega) _⟩⟩
def OvRel (w : World) (g : Nat) (x y z q : Int) (v : Value) (W : World) : Prop :=
 ∃ k : Nat, k ≤ 3 ∧ v = .int .i64 (k : Int) ∧ OvMem w g (if 0 < k then x * q else x) (if 1 < k then y * q else y) (if 2 < k then z * q else z) W
set_option maxRecDepth 100000 in
set_option maxHeartbeats 8000000 in
theorem iover_any (n0 d0 n1 d1 n2 d2 x y z D q : Int) (w : World) (hr : ∀ p ∈ [(n0, d0), (n1, d1), (n2, d2)], Right p.1 p.2) (hpr : prt [(n0, d0), (n1, d1), (n2, d2)] = some ([x, y, z], D)) (hq0 : 1 ≤ q) (hq1 : q ≤ 240) :
  Calls Tryz.prog 85 #[szv n0 d0 n1 d1 n2 d2, .int .i64 (D * q)] w fun e w' => e = .returned (.agg #[.int .i64 (x * q), .int .i64 (y * q), .int .i64 (z * q)]) ∧ Below w.heap.size w w' := by
 have hp := fun W => parts_any n0 d0 n1 d1 n2 d2 W (right_mild hr)
 unfold PaRet at hp
 rw [hpr] at hp
 obtain ⟨⟨hD0, hD1⟩, hl⟩ := prt_num hpr (right_mild hr)
 have hx := hl x (by simp)
 have hy := hl y (by simp)
 have hz := hl z (by simp)
 have hM0 : Blk ((w.alloc (.cells #[.int .i64 n0, .int .i64 d0, .int .i64 n1, .int .i64 d1, .int .i64 n2, .int .i64 d2] 49)).alloc (.cells #[.int .i64 0, .int .i64 0, .int .i64 0] 57)) (w.heap.size + 1) 57 [.int .i64 0, .int .i64 0, .int .i64 0] := by
  have := heap_alloc_new (w.alloc (.cells #[.int .i64 n0, .int .i64 d0, .int .i64 n1, .int .i64 d1, .int .i64 n2, .int .i64 d2] 49)) (.cells #[.int .i64 0, .int .i64 0, .int .i64 0] 57)
  rw [World.size_alloc] at this
  exact this
 have HB0 := Lib.hid (bw_new (bw_new (Below.refl w.heap.size w) (.cells #[.int .i64 n0, .int .i64 d0, .int .i64 n1, .int .i64 d1, .int .i64 n2, .int .i64 d2] 49)) (.cells #[.int .i64 0, .int .i64 0, .int .i64 0] 57))
 have HM0 := Lib.hid hM0
 have HP := Lib.hid hp
 have hdq : (D * q) / D = q := Int.mul_ediv_cancel_left _ (by omega)
 have hb : 1 ≤ D * q ∧ D * q ≤ 57600 := by
  have h1 := Int.mul_le_mul hD0 hq0 (by decide) (by omega)
  have h2 := Int.mul_le_mul hD1 hq1 (by omega) (by decide)
  omega
 have hxq : ∀ u : Int, -6000 ≤ u ∧ u ≤ 6000 → IntKind.i64.wrap (u * q) = u * q := fun u hu => by
  have h2 : (u * q).natAbs ≤ 6000 * 240 := by rw [Int.natAbs_mul]; exact Nat.mul_le_mul (by omega) (by omega)
  exact IntWalk.i64_in _ (by omega)
 have w0 := hxq x hx
 have w1 := hxq y hy
 have w2 := hxq z hz
 obtain ⟨E, hE⟩ : ∃ E, E = D * q := ⟨_, rfl⟩
 rw [← hE] at hdq hb ⊢
 have hw : IntKind.i64.wrap (E.tdiv D) = q := by rw [Int.tdiv_eq_ediv_of_nonneg (by omega), hdq]; exact IntWalk.i64_in _ (by omega)
 have hDz : (D == 0) = false := by rw [beq_eq_false_iff_ne]; omega
 have HW := Lib.hid (And.intro hdq (And.intro hw (And.intro w0 (And.intro w1 w2))))
 obtain ⟨hE0, hE1⟩ := hb
 obtain ⟨hx0, hx1⟩ := hx
 obtain ⟨hy0, hy1⟩ := hy
 obtain ⟨hz0, hz1⟩ := hz
 clear hp hr hpr hl hM0 hdq hw w0 w1 w2 hxq hE
 go_enter Tryz.func85, Tryz.ntmps85
 go_wp2_with fail
 refine (HP.out _).mono ?_
 rintro e w1 ⟨rfl, hb⟩
 have hm : OvMem w w1.heap.size x y z (w1.alloc (.cells #[.int .i64 x, .int .i64 y, .int .i64 z] 57)) := ⟨(HM0.out.below hb HM0.out.lt).alloc _, heap_alloc_new w1 _, bw_new (HB0.out.trans (hb.mono HB0.out.size)) _⟩
 have hgg : w.heap.size + 1 < w1.heap.size := (HM0.out.below hb HM0.out.lt).lt
 have HM := Lib.hid hm
 obtain ⟨g, hg⟩ : ∃ g, g = w1.heap.size := ⟨_, rfl⟩
 rw [← hg] at HM hgg
 clear hb hm
 go_wp2_with fail
 rw [← hg]
 clear hg
 go_loopw [15] (fun v wr => OvRel w g x y z q v wr) (fun v _ => 3 - (intOf v).toNat)
 case atStart => exact ⟨0, by omega, rfl, HM.out⟩
 case round =>
  clear HM
  obtain ⟨k, hk, rfl, hmem⟩ := hrel
  have HM := Lib.hid hmem
  have hsz : g < wr.heap.size := hmem.2.1.lt
  clear hmem
  by_cases hlt : k < 3
  ·rcases (show k = 0 ∨ k = 1 ∨ k = 2 by omega) with rfl | rfl | rfl
   ·have HM2 : Hid (OvMem w g (x) (y) (z) wr) := HM.out
    obtain ⟨c0, c1, c2⟩ := three_of HM2.out.2.1
    have f0 := HM2.out.2.1.frozen 0
    obtain ⟨hdq, hw, w0, w1', w2⟩ := HW.out
    go_upto_region 5 with fail
    go_region
    all_goals
     clear hdq hw w0 w1' w2
     go_wp2
     go_roundw
     case rel =>
      have hrl : OvRel w g x y z q (.int .i64 ((0 + 1 : Nat) : Int)) _ := ⟨0 + 1, by omega, rfl, show OvMem w g (x * q) (y) (z) _ from ((HM2.out.put hgg (x * q)).1).below (bw_drew (Below.refl _ _))⟩
      first | exact hrl | exact ⟨_, _, hrl, rfl, rfl⟩
     case measure => simp [intOf]
   ·have HM2 : Hid (OvMem w g (x * q) (y) (z) wr) := HM.out
    obtain ⟨c0, c1, c2⟩ := three_of HM2.out.2.1
    have f0 := HM2.out.2.1.frozen 1
    obtain ⟨hdq, hw, w0, w1', w2⟩ := HW.out
    go_upto_region 5 with fail
    go_region
    all_goals
     clear hdq hw w0 w1' w2
     go_wp2
     go_roundw
     case rel =>
      have hrl : OvRel w g x y z q (.int .i64 ((1 + 1 : Nat) : Int)) _ := ⟨1 + 1, by omega, rfl, show OvMem w g (x * q) (y * q) (z) _ from ((HM2.out.put hgg (y * q)).2.1).below (bw_drew (Below.refl _ _))⟩
      first | exact hrl | exact ⟨_, _, hrl, rfl, rfl⟩
     case measure => simp [intOf]
   ·have HM2 : Hid (OvMem w g (x * q) (y * q) (z) wr) := HM.out
    obtain ⟨c0, c1, c2⟩ := three_of HM2.out.2.1
    have f0 := HM2.out.2.1.frozen 2
    obtain ⟨hdq, hw, w0, w1', w2⟩ := HW.out
    go_upto_region 5 with fail
    go_region
    all_goals
     clear hdq hw w0 w1' w2
     go_wp2
     go_roundw
     case rel =>
      have hrl : OvRel w g x y z q (.int .i64 ((2 + 1 : Nat) : Int)) _ := ⟨2 + 1, by omega, rfl, show OvMem w g (x * q) (y * q) (z * q) _ from ((HM2.out.put hgg (z * q)).2.2).below (bw_drew (Below.refl _ _))⟩
      first | exact hrl | exact ⟨_, _, hrl, rfl, rfl⟩
     case measure => simp [intOf]
  ·obtain rfl : k = 3 := by omega
   have HM2 : Hid (OvMem w g (x * q) (y * q) (z * q) wr) := HM.out
   obtain ⟨c0, c1, c2⟩ := three_of HM2.out.2.1
   obtain ⟨e0, e1, e2⟩ := three_of HM2.out.1
   have f0 := HM2.out.1.frozen 0
   have f1 := HM2.out.1.frozen 1
   have f2 := HM2.out.1.frozen 2
   go_wp2
   obtain ⟨WZ, hWZ⟩ : ∃ WZ, WZ = (((wr.setCell ⟨w.heap.size + 1, 0, none⟩ (.int .i64 (x * q))).setCell ⟨w.heap.size + 1, 1, none⟩ (.int .i64 (y * q))).setCell ⟨w.heap.size + 1, 2, none⟩ (.int .i64 (z * q))) := ⟨_, rfl⟩
   have hbz : Blk WZ (w.heap.size + 1) 57 [.int .i64 (x * q), .int .i64 (y * q), .int .i64 (z * q)] := by rw [hWZ]; exact (((HM2.out.1.put 0 (.int .i64 (x * q))).put 1 (.int .i64 (y * q))).put 2 (.int .i64 (z * q)))
   have hww : Below w.heap.size w WZ := by rw [hWZ]; exact bw_set (bw_set (bw_set HM2.out.2.2 (by omega) _) (by omega) _) (by omega) _
   rw [← hWZ]
   obtain ⟨g0, g1, g2⟩ := three_of hbz
   exact bodyPost_ret (v := .agg #[.int .i64 (x * q), .int .i64 (y * q), .int .i64 (z * q)]) (by simp [g0, g1, g2, results, Tryz.results85, go_sem]) rfl ⟨rfl, hww⟩
end Go.Proofs.YtendjepcjmfmfaaGreatDoor
namespace Go.Proofs.YtendjepcjmfmfaaGreatDoor
open Go.RowKit
theorem lcm_parts {c d : Int} (hc : 1 ≤ c ∧ c ≤ 240) (hd : 1 ≤ d ∧ d ≤ 240) : ∃ g p q : Int, g = (Nat.gcd c.natAbs d.natAbs : Int) ∧ 0 < g ∧ c / g = q ∧ q * d = lcmA c d ∧ lcmA c d = c * p ∧ lcmA c d = d * q ∧ (1 ≤ p ∧ p ≤ 240) ∧ (1 ≤ q ∧ q ≤ 240) ∧ p = d / g ∧ lcmA c d ≤ 57600 := by
 obtain ⟨⟨hg0, hg1⟩, ⟨hq0, hq1⟩, hl0, hl1⟩ := lcmA_bd hc hd
 have h1 : ((Nat.gcd c.natAbs d.natAbs : Nat) : Int) ∣ c := by rw [← Int.dvd_natAbs]; exact Int.natCast_dvd_natCast.2 (Nat.gcd_dvd_left _ _)
 have h2 : ((Nat.gcd c.natAbs d.natAbs : Nat) : Int) ∣ d := by rw [← Int.dvd_natAbs]; exact Int.natCast_dvd_natCast.2 (Nat.gcd_dvd_right _ _)
 obtain ⟨g, hg⟩ : ∃ g : Int, g = (Nat.gcd c.natAbs d.natAbs : Int) := ⟨_, rfl⟩
 have hl : lcmA c d = c / g * d := by rw [hg]; rfl
 rw [← hg] at hq0 hq1 h1 h2
 have hgp : 0 < g := by omega
 obtain ⟨a, ha⟩ := h1
 obtain ⟨b, hb⟩ := h2
 have ea : c / g = a := by rw [ha]; exact Int.mul_ediv_cancel_left _ (by omega)
 have eb : d / g = b := by rw [hb]; exact Int.mul_ediv_cancel_left _ (by omega)
 have hb1 : 1 ≤ b := by
  rcases Int.lt_or_le b 1 with h | h
  ·have h3 := Int.mul_le_mul_of_nonneg_left (show b ≤ 0 by omega) (Int.le_of_lt hgp)
   omega
  ·exact h
 have hb2 : b ≤ 240 := by rw [← eb]; exact Int.le_trans (Int.ediv_le_self _ (by omega)) hd.2
 refine ⟨g, b, a, hg, hgp, ea, by rw [hl, ea], ?_, by rw [hl, ea, Int.mul_comm], ⟨hb1, hb2⟩, ⟨by rw [← ea]; exact hq0, by rw [← ea]; exact hq1⟩, eb.symm, hl1⟩
 rw [hl, ea]
 conv => lhs; rw [hb]
 conv => rhs; rw [ha]
 rw [Int.mul_comm g a, Int.mul_assoc]
def redV (a b c : Int) : Int × Int × Int :=
 if 1 < Nat.gcd (Nat.gcd a.natAbs b.natAbs) c.natAbs then (a.tdiv (Nat.gcd (Nat.gcd a.natAbs b.natAbs) c.natAbs : Int), b.tdiv (Nat.gcd (Nat.gcd a.natAbs b.natAbs) c.natAbs : Int), c.tdiv (Nat.gcd (Nat.gcd a.natAbs b.natAbs) c.natAbs : Int)) else (a, b, c)
theorem tdiv_wrap {a g : Int} (ha : -4000000 ≤ a ∧ a ≤ 4000000) (_hg : 1 < g) : IntKind.i64.wrap (a.tdiv g) = a.tdiv g ∧ -4000000 ≤ a.tdiv g ∧ a.tdiv g ≤ 4000000 := by
 have h : (a.tdiv g).natAbs ≤ a.natAbs := by rw [Int.natAbs_tdiv]; exact Nat.div_le_self _ _
 exact ⟨IntWalk.i64_in _ (by omega), by omega, by omega⟩
def CmMem (w : World) (a b : List Int) (W : World) : Prop :=
 Blk W w.heap.size 49 (a.map fun x => .int .i64 x) ∧ Blk W (w.heap.size + 1) 49 (b.map fun x => .int .i64 x) ∧ Tab W ∧ Below w.heap.size w W
theorem CmMem.below {w W W' : World} {a b : List Int} (h : CmMem w a b W) (hb : Below W.heap.size W W') : CmMem w a b W' := ⟨h.1.below hb h.1.lt, h.2.1.below hb h.2.1.lt, h.2.2.1.below hb, h.2.2.2.trans (hb.mono h.2.2.2.size)⟩
def CvMem (w : World) (g h : Nat) (x y z u v t : Int) (W : World) : Prop :=
 Blk W g 57 [.int .i64 x, .int .i64 y, .int .i64 z] ∧ Blk W h 57 [.int .i64 u, .int .i64 v, .int .i64 t] ∧ g ≠ h ∧ (w.heap.size ≤ g ∧ w.heap.size ≤ h) ∧ Tab w ∧ Below w.heap.size w W
def CvRel (w : World) (x y z u v t : Int) (s14 s15 : Value) (W : World) : Prop := ∃ g h, s14 = .pointer (some ⟨g, 0, none⟩) ∧ s15 = .pointer (some ⟨h, 0, none⟩) ∧ CvMem w g h x y z u v t W
def CmHeld (w : World) (a0 b0 a1 b1 a2 b2 c0 d0 c1 d1 c2 d2 : Int) (w' : World) : Prop := w'.cell? ⟨w.heap.size, 0, none⟩ = some (.int .i64 a0) ∧ w'.cell? ⟨w.heap.size, 1, none⟩ = some (.int .i64 b0) ∧ w'.cell? ⟨w.heap.size, 2, none⟩ = some (.int .i64 a1) ∧ w'.cell? ⟨w.heap.size, 3, none⟩ = some (.int .i64 b1) ∧ w'.cell? ⟨w.heap.size, 4, none⟩ = some (.int .i64 a2) ∧ w'.cell? ⟨w.heap.size, 5, none⟩ = some (.int .i64 b2) ∧ w'.cell? ⟨w.heap.size + 1, 0, none⟩ = some (.int .i64 c0) ∧ w'.cell? ⟨w.heap.size + 1, 1, none⟩ = some (.int .i64 d0) ∧ w'.cell? ⟨w.heap.size + 1, 2, none⟩ = some (.int .i64 c1) ∧ w'.cell? ⟨w.heap.size + 1, 3, none⟩ = some (.int .i64 d1) ∧ w'.cell? ⟨w.heap.size + 1, 4, none⟩ = some (.int .i64 c2) ∧ w'.cell? ⟨w.heap.size + 1, 5, none⟩ = some (.int .i64 d2) ∧ CmMem w [a0, b0, a1, b1, a2, b2] [c0, d0, c1, d1, c2, d2] w'
section
variable {w W W' : World} {a0 b0 a1 b1 a2 b2 c0 d0 c1 d1 c2 d2 : Int}
end
theorem CvMem.below {w W W' : World} {g h : Nat} {x y z u v t : Int} (hm : CvMem w g h x y z u v t W) (hb : Below W.heap.size W W') : CvMem w g h x y z u v t W' := ⟨hm.1.below hb hm.1.lt, hm.2.1.below hb hm.2.1.lt, hm.2.2.1, hm.2.2.2.1, hm.2.2.2.2.1, hm.2.2.2.2.2.trans (hb.mono hm.2.2.2.2.2.size)⟩
theorem CvMem.drew {w W : World} {g h : Nat} {x y z u v t : Int} (hm : CvMem w g h x y z u v t W) : CvMem w g h x y z u v t W.drew := hm.below (bw_drew (Below.refl _ _))
theorem CvMem.put {w W : World} {g h : Nat} {x y z u v t : Int} (hm : CvMem w g h x y z u v t W) (k : Int) : CvMem w g h k y z u v t (W.setCell ⟨g, 0, none⟩ (.int .i64 k)) ∧ CvMem w g h x k z u v t (W.setCell ⟨g, 1, none⟩ (.int .i64 k)) ∧ CvMem w g h x y k u v t (W.setCell ⟨g, 2, none⟩ (.int .i64 k)) := by
 obtain ⟨h1, h2, h3, h4, h5, h6⟩ := hm
 exact ⟨⟨h1.put 0 _, h2.far (p := ⟨g, 0, none⟩) (Ne.symm h3) _, h3, h4, h5, bw_set h6 h4.1 _⟩, ⟨h1.put 1 _, h2.far (p := ⟨g, 1, none⟩) (Ne.symm h3) _, h3, h4, h5, bw_set h6 h4.1 _⟩, ⟨h1.put 2 _, h2.far (p := ⟨g, 2, none⟩) (Ne.symm h3) _, h3, h4, h5, bw_set h6 h4.1 _⟩⟩
def CwRel (w : World) (g h : Nat) (x y z u v t : Int) (i : Value) (W : World) : Prop :=
 ∃ k : Nat, k ≤ 3 ∧ i = .int .i64 (k : Int) ∧ CvMem w g h (if 0 < k then x - u else x) (if 1 < k then y - v else y) (if 2 < k then z - t else z) u v t W
def CdRel (w : World) (g h : Nat) (x y z a b c u v t : Int) (i : Value) (W : World) : Prop :=
 ∃ k : Nat, k ≤ 3 ∧ i = .int .i64 (k : Int) ∧ CvMem w g h (if 0 < k then a else x) (if 1 < k then b else y) (if 2 < k then c else z) u v t W
theorem CdRel.one {w W : World} {g h : Nat} {x y z a b c u v t : Int} (hm : CvMem w g h a y z u v t W) : CdRel w g h x y z a b c u v t (.int .i64 1) W := ⟨1, by decide, rfl, hm⟩
theorem CdRel.two {w W : World} {g h : Nat} {x y z a b c u v t : Int} (hm : CvMem w g h a b z u v t W) : CdRel w g h x y z a b c u v t (.int .i64 2) W := ⟨2, by decide, rfl, hm⟩
theorem CdRel.three {w W : World} {g h : Nat} {x y z a b c u v t : Int} (hm : CvMem w g h a b c u v t W) : CdRel w g h x y z a b c u v t (.int .i64 3) W := ⟨3, by decide, rfl, hm⟩
theorem CwRel.one {w W : World} {g h : Nat} {x y z u v t : Int} (hm : CvMem w g h (x - u) y z u v t W) : CwRel w g h x y z u v t (.int .i64 1) W := ⟨1, by decide, rfl, hm⟩
theorem CwRel.two {w W : World} {g h : Nat} {x y z u v t : Int} (hm : CvMem w g h (x - u) (y - v) z u v t W) : CwRel w g h x y z u v t (.int .i64 2) W := ⟨2, by decide, rfl, hm⟩
theorem CwRel.three {w W : World} {g h : Nat} {x y z u v t : Int} (hm : CvMem w g h (x - u) (y - v) (z - t) u v t W) : CwRel w g h x y z u v t (.int .i64 3) W := ⟨3, by decide, rfl, hm⟩
set_option maxRecDepth 100000 in
set_option maxHeartbeats 16000000 in
theorem icompare_any (a0 b0 a1 b1 a2 b2 c0 d0 c1 d1 c2 d2 x y z D u v t E p q r0 r1 r2 s : Int) (w : World) (ht : Tab w) (hn : ∀ q ∈ [(a0, b0), (a1, b1), (a2, b2)], Right q.1 q.2) (hm : ∀ q ∈ [(c0, d0), (c1, d1), (c2, d2)], Right q.1 q.2)
  (h1 : prt [(a0, b0), (a1, b1), (a2, b2)] = some ([x, y, z], D)) (h2 : prt [(c0, d0), (c1, d1), (c2, d2)] = some ([u, v, t], E)) (hi : ∀ k ∈ [a0, b0, a1, b1, a2, b2, c0, d0, c1, d1, c2, d2], I64 k)
  (hp : p = E / (Nat.gcd D.natAbs E.natAbs : Int)) (hqq : q = D / (Nat.gcd D.natAbs E.natAbs : Int)) (hrd : redV (x * p - u * q) (y * p - v * q) (z * p - t * q) = (r0, r1, r2))
  (hs : ∀ W, Tab W → Calls Tryz.prog 86 #[.agg #[.int .i64 r0, .int .i64 r1, .int .i64 r2]] W fun e W' => e = .returned (.int .i64 s) ∧ Below W.heap.size W W') :
  Calls Tryz.prog 46 #[szv a0 b0 a1 b1 a2 b2, szv c0 d0 c1 d1 c2 d2] w fun e w' => e = .returned (.tuple #[.int .i64 s, .int .i64 0]) ∧ Below w.heap.size w w' := by
 have hbo := fun W => iboth_any a0 b0 a1 b1 a2 b2 c0 d0 c1 d1 c2 d2 W (hi _ (by simp)) (hi _ (by simp)) (hi _ (by simp)) (hi _ (by simp)) (hi _ (by simp)) (hi _ (by simp)) (hi _ (by simp)) (hi _ (by simp)) (hi _ (by simp)) (hi _ (by simp)) (hi _ (by simp)) (hi _ (by simp))
 simp only [ivE_ok hn (by rw [h1]; exact fun h => by cases h), ivE_ok hm (by rw [h2]; exact fun h => by cases h), ne_eq, not_true_eq_false, if_false] at hbo
 have hp1 := fun W => parts_any a0 b0 a1 b1 a2 b2 W (right_mild hn)
 have hp2 := fun W => parts_any c0 d0 c1 d1 c2 d2 W (right_mild hm)
 unfold PaRet at hp1 hp2
 rw [h1] at hp1
 rw [h2] at hp2
 obtain ⟨⟨hD0, hD1⟩, hl1⟩ := prt_num h1 (right_mild hn)
 obtain ⟨⟨hE0, hE1⟩, hl2⟩ := prt_num h2 (right_mild hm)
 obtain ⟨g, p', q', hg, hgp, hq, hqm, hm1, hm2, ⟨hp0, hp1'⟩, ⟨hq0, hq1⟩, hpd, hM⟩ := lcm_parts ⟨hD0, hD1⟩ ⟨hE0, hE1⟩
 rw [← hg] at hp hqq
 obtain rfl : p = p' := by rw [hp, hpd]
 obtain rfl : q = q' := by rw [hqq, hq]
 have hbx : ∀ (l k : Int), -6000 ≤ l ∧ l ≤ 6000 → 1 ≤ k ∧ k ≤ 240 → -1440000 ≤ l * k ∧ l * k ≤ 1440000 := fun l k h h' => by
  have : (l * k).natAbs ≤ 6000 * 240 := by rw [Int.natAbs_mul]; exact Nat.mul_le_mul (by omega) (by omega)
  omega
 have HBX := Lib.hid (And.intro (hbx x p (hl1 x (by simp)) ⟨hp0, hp1'⟩) (And.intro (hbx y p (hl1 y (by simp)) ⟨hp0, hp1'⟩) (And.intro (hbx z p (hl1 z (by simp)) ⟨hp0, hp1'⟩) (And.intro (hbx u q (hl2 u (by simp)) ⟨hq0, hq1⟩) (And.intro (hbx v q (hl2 v (by simp)) ⟨hq0, hq1⟩) (hbx t q (hl2 t (by simp)) ⟨hq0, hq1⟩))))))
 have HRD := Lib.hid hrd
 have HS := Lib.hid hs
 clear hrd hs hp hqq hbx
 have hgc := fun W => igcd_any D E W (by omega) (by omega) (by omega) (by omega)
 rw [← hg] at hgc
 have ho1 := fun W => iover_any a0 b0 a1 b1 a2 b2 x y z D p W hn h1 hp0 hp1'
 have ho2 := fun W => iover_any c0 d0 c1 d1 c2 d2 u v t E q W hm h2 hq0 hq1
 obtain ⟨M, hMM⟩ : ∃ M, M = lcmA D E := ⟨_, rfl⟩
 rw [← hMM] at hqm hm1 hm2 hM
 rw [← hm1] at ho1
 rw [← hm2] at ho2
 have HBO := Lib.hid hbo
 have HP1 := Lib.hid hp1
 have HP2 := Lib.hid hp2
 have HGC := Lib.hid hgc
 have HO1 := Lib.hid ho1
 have HO2 := Lib.hid ho2
 have hgz : (g == 0) = false := by rw [beq_eq_false_iff_ne]; omega
 have hwm : IntKind.i64.wrap (q * E) = M := by rw [hqm]; exact IntWalk.i64_in _ (by have := Int.mul_le_mul hq0 hE0 (by decide) (by omega); omega)
 have hM0 : CmMem w [a0, b0, a1, b1, a2, b2] [c0, d0, c1, d1, c2, d2] ((w.alloc (.cells #[.int .i64 a0, .int .i64 b0, .int .i64 a1, .int .i64 b1, .int .i64 a2, .int .i64 b2] 49)).alloc (.cells #[.int .i64 c0, .int .i64 d0, .int .i64 c1, .int .i64 d1, .int .i64 c2, .int .i64 d2] 49)) := by
  refine ⟨Blk.alloc (t := 49) (cs := [.int .i64 a0, .int .i64 b0, .int .i64 a1, .int .i64 b1, .int .i64 a2, .int .i64 b2]) (heap_alloc_new w _) _, ?_, ht.below (bw_new (bw_new (Below.refl _ _) _) _), bw_new (bw_new (Below.refl _ _) _) _⟩
  have := heap_alloc_new (w.alloc (.cells #[.int .i64 a0, .int .i64 b0, .int .i64 a1, .int .i64 b1, .int .i64 a2, .int .i64 b2] 49)) (.cells #[.int .i64 c0, .int .i64 d0, .int .i64 c1, .int .i64 d1, .int .i64 c2, .int .i64 d2] 49)
  rw [World.size_alloc] at this
  exact this
 have HM0 := Lib.hid hM0
 have HQ := Lib.hid (And.intro hq hwm)
 have HL := Lib.hid (And.intro hl1 hl2)
 clear hbo hp1 hp2 hgc ho1 ho2 hM0 hn hm h1 h2 hi hg hqm hm1 hm2 hMM hq hwm hpd hl1 hl2
 go_enter Tryz.func46, Tryz.ntmps46
 go_wp2_with fail
 refine (HBO.out _).mono ?_
 rintro e w1 ⟨rfl, hb⟩
 have HM1 := Lib.hid (HM0.out.below hb)
 obtain ⟨e0, e1, e2, e3, e4, e5⟩ := six_of HM1.out.1
 clear hb
 go_wp2_with fail
 refine (HP1.out _).mono ?_
 rintro e w2 ⟨rfl, hb⟩
 have HM2 := Lib.hid ((HM1.out.below hb).below (bw_new (Below.refl _ _) (.cells #[.int .i64 x, .int .i64 y, .int .i64 z] 57)))
 obtain ⟨f0, f1, f2, f3, f4, f5⟩ := six_of (HM1.out.below hb).2.1
 have hs2 : w.heap.size + 1 < w2.heap.size := (HM1.out.below hb).2.1.lt
 clear hb e0 e1 e2 e3 e4 e5
 go_wp2_with fail
 refine (HP2.out _).mono ?_
 rintro e w3 ⟨rfl, hb⟩
 have HM3 := Lib.hid ((HM2.out.below hb).below (bw_new (Below.refl _ _) (.cells #[.int .i64 u, .int .i64 v, .int .i64 t] 57)))
 clear hb f0 f1 f2 f3 f4 f5
 go_wp2_with fail
 refine (HGC.out _).mono ?_
 rintro e w4 ⟨rfl, kk, rfl⟩
 have HM4 := Lib.hid (HM3.out.below (below_drewN _ _ kk))
 obtain ⟨hq, hwm⟩ := HQ.out
 go_upto_region 7 with fail
 clear hq hwm
 go_cut [14, 15] (fun s14 s15 wx => CvRel w (x * p) (y * p) (z * p) (u * q) (v * q) (t * q) s14 s15 wx)
 case first =>
  obtain ⟨W4, hW4⟩ : ∃ W4, W4 = (w3.alloc (.cells #[.int .i64 u, .int .i64 v, .int .i64 t] 57)).drewN kk := ⟨_, rfl⟩
  rw [← hW4] at HM4 ⊢
  clear hW4 HM3 HM2 HM1
  -- {
  have hp0 : Hp w [(w.heap.size, 49, [.int .i64 a0, .int .i64 b0, .int .i64 a1, .int .i64 b1, .int .i64 a2, .int .i64 b2]), (w.heap.size + 1, 49, [.int .i64 c0, .int .i64 d0, .int .i64 c1, .int .i64 d1, .int .i64 c2, .int .i64 d2])] W4 := ⟨HM4.out.2.2.2, fun r hr => by
   simp only [List.mem_cons, List.not_mem_nil, or_false] at hr
   rcases hr with rfl | rfl
   ·exact ⟨HM4.out.1, Nat.le_refl _⟩
   ·exact ⟨HM4.out.2.1, Nat.le_succ _⟩, by simp⟩
  have HP0 := Lib.hid hp0
  clear hp0 HM4
  refine wp_regionJ 10 #[false, false, false, false, false, false, false, false, false, false] (fun l a W => ∃ (m0 m1 m2 m3 m4 m5 m6 m7 m8 m9 : Bool) (g1 : Nat) (g2 : Nat), l = #[m0, m1, m2, m3, m4, m5, m6, m7, m8, m9] ∧ a = ({ tmps := #[szv a0 b0 a1 b1 a2 b2, szv c0 d0 c1 d1 c2 d2, .pointer (some ⟨w.heap.size, 0, none⟩), .pointer (some ⟨w.heap.size + 1, 0, none⟩), .int .i64 0, .int .i64 0, .int .i64 0, .pointer (some ⟨w2.heap.size, 0, none⟩), .int .i64 D, .bool true, .pointer (some ⟨w3.heap.size, 0, none⟩), .int .i64 E, .bool true, .int .i64 M, cwX m6 (.pointer (some ⟨g1, 0, none⟩)) (undef), cwX m7 (.pointer (some ⟨g2, 0, none⟩)) (undef), undef, undef, undef, .agg #[.int .i64 a0, .int .i64 b0, .int .i64 a1, .int .i64 b1, .int .i64 a2, .int .i64 b2], .agg #[.int .i64 c0, .int .i64 d0, .int .i64 c1, .int .i64 d1, .int .i64 c2, .int .i64 d2], .int .i64 0, .int .i64 0, .bool false, undef, .tuple #[.agg #[.int .i64 x, .int .i64 y, .int .i64 z], .int .i64 D, .bool true], .agg #[.int .i64 a0, .int .i64 b0, .int .i64 a1, .int .i64 b1, .int .i64 a2, .int .i64 b2], .tuple #[.agg #[.int .i64 x, .int .i64 y, .int .i64 z], .int .i64 D, .bool true], .agg #[.int .i64 x, .int .i64 y, .int .i64 z], .int .i64 D, .bool true, .tuple #[.agg #[.int .i64 u, .int .i64 v, .int .i64 t], .int .i64 E, .bool true], .agg #[.int .i64 c0, .int .i64 d0, .int .i64 c1, .int .i64 d1, .int .i64 c2, .int .i64 d2], .tuple #[.agg #[.int .i64 u, .int .i64 v, .int .i64 t], .int .i64 E, .bool true], .agg #[.int .i64 u, .int .i64 v, .int .i64 t], .int .i64 E, .bool true, .int .i64 D, .int .i64 D, .int .i64 E, .int .i64 g, .int .i64 (D / g), .int .i64 E, .int .i64 M, cwX m0 (szv a0 b0 a1 b1 a2 b2) (undef), cwX m1 (.int .i64 M) (undef), cwX m2 (.agg #[.int .i64 (x * p), .int .i64 (y * p), .int .i64 (z * p)]) (undef), cwX m3 (szv c0 d0 c1 d1 c2 d2) (undef), cwX m4 (.int .i64 M) (undef), cwX m5 (.agg #[.int .i64 (u * q), .int .i64 (v * q), .int .i64 (t * q)]) (undef), undef, undef, undef, undef, undef, undef, undef, undef, undef, undef, undef, undef, undef, undef, undef, undef, undef, undef, undef, undef, undef, undef, undef, undef, undef, undef, undef, undef, undef, undef, undef, undef, undef, undef], defers := [] } : Act) ∧ ((m8 = true → m6 = true) ∧ (m9 = true → m7 = true)) ∧ Hp w (([(w.heap.size, 49, [.int .i64 a0, .int .i64 b0, .int .i64 a1, .int .i64 b1, .int .i64 a2, .int .i64 b2]), (w.heap.size + 1, 49, [.int .i64 c0, .int .i64 d0, .int .i64 c1, .int .i64 d1, .int .i64 c2, .int .i64 d2])] ++ cl m6 (g1, 57, bif m8 then [.int .i64 (x * p), .int .i64 (y * p), .int .i64 (z * p)] else [.int .i64 0, .int .i64 0, .int .i64 0])) ++ cl m7 (g2, 57, bif m9 then [.int .i64 (u * q), .int .i64 (v * q), .int .i64 (t * q)] else [.int .i64 0, .int .i64 0, .int .i64 0])) W) (by kernel_rfl) (by kernel_rfl) (by kernel_rfl) (by kernel_rfl) ?_ ?_ ?_ ?_
  ·rintro l a W ⟨m0, m1, m2, m3, m4, m5, m6, m7, m8, m9, g1, g2, rfl, _⟩
   rfl
  ·exact ⟨false, false, false, false, false, false, false, false, false, false, 0, 0, rfl, rfl, ⟨fun h => absurd h (by simp), fun h => absurd h (by simp)⟩, HP0.out.drew⟩
  ·rintro l a W i o ⟨m0, m1, m2, m3, m4, m5, m6, m7, m8, m9, g1, g2, rfl, rfl, hi0, hm⟩ ho hun hall K hK
   have hi : i < 10 := (Array.getElem?_eq_some_iff.1 ho).1
   have HM := Lib.hid hm
   have HI := Lib.hid hi0
   clear hm hi0
   rcases (show i = 0 ∨ i = 1 ∨ i = 2 ∨ i = 3 ∨ i = 4 ∨ i = 5 ∨ i = 6 ∨ i = 7 ∨ i = 8 ∨ i = 9 by omega) with rfl | rfl | rfl | rfl | rfl | rfl | rfl | rfl | rfl | rfl
   ·cases ho
    simp at hun; subst hun
    clear hall hi
    obtain ⟨e0, e1, e2, e3, e4, e5⟩ := six_of (HM.out.at_ 0 rfl)
    go_simp
    exact hK.out _ _ ⟨true, m1, m2, m3, m4, m5, m6, m7, m8, m9, g1, g2, rfl, rfl, by obtain ⟨h0, h1⟩ := HI.out; exact ⟨(fun e => by first | rfl | exact h0 e | cases e), (fun e => by first | rfl | exact h1 e | cases e)⟩, HM.out⟩
   ·cases ho
    simp at hun; subst hun
    clear hall hi
    go_simp
    exact hK.out _ _ ⟨m0, true, m2, m3, m4, m5, m6, m7, m8, m9, g1, g2, rfl, rfl, by obtain ⟨h0, h1⟩ := HI.out; exact ⟨(fun e => by first | rfl | exact h0 e | cases e), (fun e => by first | rfl | exact h1 e | cases e)⟩, HM.out⟩
   ·cases ho
    cases (getBX hall 0 rfl : m0 = true)
    cases (getBX hall 1 rfl : m1 = true)
    simp at hun; subst hun
    clear hall hi
    go_simp
    refine (HO1.out _).mono ?_
    rintro e W' ⟨rfl, hb⟩
    exact hK.out _ _ ⟨true, true, true, m3, m4, m5, m6, m7, m8, m9, g1, g2, rfl, rfl, by obtain ⟨h0, h1⟩ := HI.out; exact ⟨(fun e => by first | rfl | exact h0 e | cases e), (fun e => by first | rfl | exact h1 e | cases e)⟩, HM.out.step hb⟩
   ·cases ho
    simp at hun; subst hun
    clear hall hi
    obtain ⟨e0, e1, e2, e3, e4, e5⟩ := six_of (HM.out.at_ 1 rfl)
    go_simp
    exact hK.out _ _ ⟨m0, m1, m2, true, m4, m5, m6, m7, m8, m9, g1, g2, rfl, rfl, by obtain ⟨h0, h1⟩ := HI.out; exact ⟨(fun e => by first | rfl | exact h0 e | cases e), (fun e => by first | rfl | exact h1 e | cases e)⟩, HM.out⟩
   ·cases ho
    simp at hun; subst hun
    clear hall hi
    go_simp
    exact hK.out _ _ ⟨m0, m1, m2, m3, true, m5, m6, m7, m8, m9, g1, g2, rfl, rfl, by obtain ⟨h0, h1⟩ := HI.out; exact ⟨(fun e => by first | rfl | exact h0 e | cases e), (fun e => by first | rfl | exact h1 e | cases e)⟩, HM.out⟩
   ·cases ho
    cases (getBX hall 3 rfl : m3 = true)
    cases (getBX hall 4 rfl : m4 = true)
    simp at hun; subst hun
    clear hall hi
    go_simp
    refine (HO2.out _).mono ?_
    rintro e W' ⟨rfl, hb⟩
    exact hK.out _ _ ⟨m0, m1, m2, true, true, true, m6, m7, m8, m9, g1, g2, rfl, rfl, by obtain ⟨h0, h1⟩ := HI.out; exact ⟨(fun e => by first | rfl | exact h0 e | cases e), (fun e => by first | rfl | exact h1 e | cases e)⟩, HM.out.step hb⟩
   ·cases ho
    simp at hun; subst hun
    clear hall hi
    obtain rfl : m8 = false := by
     cases m8
     ·rfl
     ·exact absurd (HI.out.1 rfl) (by simp)
    have HN := Lib.hid HM.out.boxA
    go_simp
    exact hK.out _ _ ⟨m0, m1, m2, m3, m4, m5, true, m7, false, m9, W.heap.size, g2, rfl, rfl, by obtain ⟨h0, h1⟩ := HI.out; exact ⟨(fun e => by first | rfl | exact h0 e | cases e), (fun e => by first | rfl | exact h1 e | cases e)⟩, HN.out⟩
   ·cases ho
    simp at hun; subst hun
    clear hall hi
    obtain rfl : m9 = false := by
     cases m9
     ·rfl
     ·exact absurd (HI.out.2 rfl) (by simp)
    have HN := Lib.hid HM.out.boxB
    go_simp
    exact hK.out _ _ ⟨m0, m1, m2, m3, m4, m5, m6, true, m8, false, g1, W.heap.size, rfl, rfl, by obtain ⟨h0, h1⟩ := HI.out; exact ⟨(fun e => by first | rfl | exact h0 e | cases e), (fun e => by first | rfl | exact h1 e | cases e)⟩, HN.out⟩
   ·cases ho
    cases (getBX hall 2 rfl : m2 = true)
    cases (getBX hall 6 rfl : m6 = true)
    simp at hun; subst hun
    clear hall hi
    obtain ⟨p0, p1, p2⟩ := three_of (HM.out.at_ 2 rfl)
    have f0 := (HM.out.at_ 2 rfl).frozen 0
    have f1 := (HM.out.at_ 2 rfl).frozen 1
    have f2 := (HM.out.at_ 2 rfl).frozen 2
    have HN := Lib.hid (HM.out.put3 2 rfl (.int .i64 (x * p)) (.int .i64 (y * p)) (.int .i64 (z * p)))
    go_simp
    exact hK.out _ _ ⟨m0, m1, true, m3, m4, m5, true, m7, true, m9, g1, g2, rfl, rfl, by obtain ⟨h0, h1⟩ := HI.out; exact ⟨(fun e => by first | rfl | exact h0 e | cases e), (fun e => by first | rfl | exact h1 e | cases e)⟩, HN.out⟩
   ·cases ho
    cases (getBX hall 5 rfl : m5 = true)
    cases (getBX hall 7 rfl : m7 = true)
    cases (getBX hall 8 rfl : m8 = true)
    obtain rfl : m6 = true := HI.out.1 rfl
    simp at hun; subst hun
    clear hall hi
    obtain ⟨p0, p1, p2⟩ := three_of (HM.out.at_ 3 rfl)
    have f0 := (HM.out.at_ 3 rfl).frozen 0
    have f1 := (HM.out.at_ 3 rfl).frozen 1
    have f2 := (HM.out.at_ 3 rfl).frozen 2
    have HN := Lib.hid (HM.out.put3 3 rfl (.int .i64 (u * q)) (.int .i64 (v * q)) (.int .i64 (t * q)))
    go_simp
    exact hK.out _ _ ⟨m0, m1, m2, m3, m4, true, true, true, true, true, g1, g2, rfl, rfl, by obtain ⟨h0, h1⟩ := HI.out; exact ⟨(fun e => by first | rfl | exact h0 e | cases e), (fun e => by first | rfl | exact h1 e | cases e)⟩, HN.out⟩
  ·rintro l a W ⟨m0, m1, m2, m3, m4, m5, m6, m7, m8, m9, g1, g2, rfl, rfl, _, hm⟩ hall
   cases (hall 0 (by decide) : m0 = true)
   cases (hall 1 (by decide) : m1 = true)
   cases (hall 2 (by decide) : m2 = true)
   cases (hall 3 (by decide) : m3 = true)
   cases (hall 4 (by decide) : m4 = true)
   cases (hall 5 (by decide) : m5 = true)
   cases (hall 6 (by decide) : m6 = true)
   cases (hall 7 (by decide) : m7 = true)
   cases (hall 8 (by decide) : m8 = true)
   cases (hall 9 (by decide) : m9 = true)
   clear hall
   have HFIN := Lib.hid (show CvMem w g1 g2 (x * p) (y * p) (z * p) (u * q) (v * q) (t * q) W from ⟨hm.at_ 2 rfl, hm.at_ 3 rfl, hm.ne 2 3 rfl rfl (by decide), ⟨hm.ge 2 rfl, hm.ge 3 rfl⟩, ht, hm.below⟩)
   clear hm
   dsimp only [cwX, cond_true]
   go_wp2_with fail
   go_meet
   exact ⟨g1, g2, rfl, rfl, HFIN.out⟩
  -- }
 case rest =>
  clear HM1 HM2 HM3 HM4 HBO HP1 HP2 HGC HO1 HO2 HQ hgz hs2
  obtain ⟨ga, gb, rfl, rfl, hcv⟩ := hcut
  have HV := Lib.hid hcv
  obtain ⟨bx, by_, bz, bu, bv, bt⟩ := HBX.out
  obtain ⟨xp, hxp⟩ : ∃ k, k = x * p := ⟨_, rfl⟩
  obtain ⟨yp, hyp⟩ : ∃ k, k = y * p := ⟨_, rfl⟩
  obtain ⟨zp, hzp⟩ : ∃ k, k = z * p := ⟨_, rfl⟩
  obtain ⟨uq, huq⟩ : ∃ k, k = u * q := ⟨_, rfl⟩
  obtain ⟨vq, hvq⟩ : ∃ k, k = v * q := ⟨_, rfl⟩
  obtain ⟨tq, htq⟩ : ∃ k, k = t * q := ⟨_, rfl⟩
  rw [← hxp, ← hyp, ← hzp, ← huq, ← hvq, ← htq] at HRD HV
  rw [← hxp] at bx
  rw [← hyp] at by_
  rw [← hzp] at bz
  rw [← huq] at bu
  rw [← hvq] at bv
  rw [← htq] at bt
  clear hxp hyp hzp huq hvq htq hcv HBX HL
  obtain ⟨bx0, bx1⟩ := bx
  obtain ⟨by0, by1⟩ := by_
  obtain ⟨bz0, bz1⟩ := bz
  obtain ⟨bu0, bu1⟩ := bu
  obtain ⟨bv0, bv1⟩ := bv
  obtain ⟨bt0, bt1⟩ := bt
  have hw0 : IntKind.i64.wrap (xp - uq) = xp - uq := IntWalk.i64_in _ (by omega)
  have hw1 : IntKind.i64.wrap (yp - vq) = yp - vq := IntWalk.i64_in _ (by omega)
  have hw2 : IntKind.i64.wrap (zp - tq) = zp - tq := IntWalk.i64_in _ (by omega)
  have HW := Lib.hid (And.intro hw0 (And.intro hw1 hw2))
  clear hw0 hw1 hw2
  go_wp2_with fail
  go_loopw [50] (fun v wr => CwRel w ga gb xp yp zp uq vq tq v wr) (fun v _ => 3 - (intOf v).toNat)
  case atStart => exact ⟨0, by omega, rfl, HV.out⟩
  case round =>
   clear HV
   obtain ⟨k, hk, rfl, hmem⟩ := hrel
   have HM := Lib.hid hmem
   have hsg : ga < wr.heap.size := hmem.1.lt
   have hsh : gb < wr.heap.size := hmem.2.1.lt
   have hgh : ga ≠ gb := hmem.2.2.1
   clear hmem
   by_cases hlt : k < 3
   ·rcases (show k = 0 ∨ k = 1 ∨ k = 2 by omega) with rfl | rfl | rfl
    ·have HM2 : Hid (CvMem w ga gb (xp) (yp) (zp) uq vq tq wr) := HM.out
     obtain ⟨c0, c1, c2⟩ := three_of HM2.out.1
     obtain ⟨e0, e1, e2⟩ := three_of HM2.out.2.1
     have f0 := HM2.out.1.frozen 0
     obtain ⟨hw0, hw1, hw2⟩ := HW.out
     go_upto_region 11 with fail
     go_region
     all_goals
      clear hw0 hw1 hw2 c0 c1 c2 e0 e1 e2
      go_wp2
      go_roundw
      case rel =>
       exact CwRel.one ((HM2.out.put (xp - uq)).1.drew)
      case measure => simp [intOf]
    ·have HM2 : Hid (CvMem w ga gb (xp - uq) (yp) (zp) uq vq tq wr) := HM.out
     obtain ⟨c0, c1, c2⟩ := three_of HM2.out.1
     obtain ⟨e0, e1, e2⟩ := three_of HM2.out.2.1
     have f0 := HM2.out.1.frozen 1
     obtain ⟨hw0, hw1, hw2⟩ := HW.out
     go_upto_region 11 with fail
     go_region
     all_goals
      clear hw0 hw1 hw2 c0 c1 c2 e0 e1 e2
      go_wp2
      go_roundw
      case rel =>
       exact CwRel.two ((HM2.out.put (yp - vq)).2.1.drew)
      case measure => simp [intOf]
    ·have HM2 : Hid (CvMem w ga gb (xp - uq) (yp - vq) (zp) uq vq tq wr) := HM.out
     obtain ⟨c0, c1, c2⟩ := three_of HM2.out.1
     obtain ⟨e0, e1, e2⟩ := three_of HM2.out.2.1
     have f0 := HM2.out.1.frozen 2
     obtain ⟨hw0, hw1, hw2⟩ := HW.out
     go_upto_region 11 with fail
     go_region
     all_goals
      clear hw0 hw1 hw2 c0 c1 c2 e0 e1 e2
      go_wp2
      go_roundw
      case rel =>
       exact CwRel.three ((HM2.out.put (zp - tq)).2.2.drew)
      case measure => simp [intOf]
   ·obtain rfl : k = 3 := by omega
    have HM2 : Hid (CvMem w ga gb (xp - uq) (yp - vq) (zp - tq) uq vq tq wr) := HM.out
    obtain ⟨A0, hA0⟩ : ∃ k, k = xp - uq := ⟨_, rfl⟩
    obtain ⟨A1, hA1⟩ : ∃ k, k = yp - vq := ⟨_, rfl⟩
    obtain ⟨A2, hA2⟩ : ∃ k, k = zp - tq := ⟨_, rfl⟩
    rw [← hA0, ← hA1, ← hA2] at HM2 HRD
    have bA0 : -4000000 ≤ A0 ∧ A0 ≤ 4000000 := by omega
    have bA1 : -4000000 ≤ A1 ∧ A1 ≤ 4000000 := by omega
    have bA2 : -4000000 ≤ A2 ∧ A2 ≤ 4000000 := by omega
    clear hA0 hA1 hA2 HM HW bx0 bx1 by0 by1 bz0 bz1 bu0 bu1 bv0 bv1 bt0 bt1
    have hg1 := fun W => igcd_any A0 A1 W (by omega) (by omega) (by omega) (by omega)
    have hb1 : Nat.gcd A0.natAbs A1.natAbs ≤ 4000000 ∨ A0 = 0 := by
     rcases Nat.eq_zero_or_pos A0.natAbs with h | h
     ·exact .inr (by omega)
     ·exact .inl (Nat.le_trans (Nat.le_of_dvd h (Nat.gcd_dvd_left _ _)) (by omega))
    have hb1' : Nat.gcd A0.natAbs A1.natAbs ≤ 4000000 := by
     rcases hb1 with h | h
     ·exact h
     ·rw [h, Int.natAbs_zero, Nat.gcd_zero_left]; omega
    have hg2 := fun W => igcd_any (Nat.gcd A0.natAbs A1.natAbs : Int) A2 W (by omega) (by omega) (by omega) (by omega)
    rw [Int.natAbs_natCast] at hg2
    unfold redV at HRD
    obtain ⟨G1, hG1⟩ : ∃ G, G = Nat.gcd A0.natAbs A1.natAbs := ⟨_, rfl⟩
    rw [← hG1] at hg1 hg2 hb1' HRD
    obtain ⟨G, hG⟩ : ∃ G, G = Nat.gcd G1 A2.natAbs := ⟨_, rfl⟩
    rw [← hG] at hg2 HRD
    have HG1 := Lib.hid hg1
    have HG2 := Lib.hid hg2
    clear hg1 hg2 hG1 hG hb1 hb1'
    obtain ⟨c0, c1, c2⟩ := three_of HM2.out.1
    go_upto_region 13 with fail
    go_quiet ((go_at_call 84; first | (go_at_call_of 84 A0; exact Calls.quiet_of (HG1.out _)) | exact Calls.quiet_of (HG2.out _)))
    clear c0 c1 c2 HG1 HG2
    obtain ⟨W9, hW9⟩ : ∃ W9, W9 = wr.drewN nq := ⟨_, rfl⟩
    have HM9 : Hid (CvMem w ga gb A0 A1 A2 uq vq tq W9) := by rw [hW9]; exact HM2.out.below (below_drewN _ _ _)
    rw [← hW9]
    clear hW9 HM2
    by_cases hG1 : 1 < G
    ·have hGi : (1 : Int) < (G : Int) := by omega
     obtain ⟨t0, t01, t02⟩ := tdiv_wrap bA0 hGi
     obtain ⟨t1, t11, t12⟩ := tdiv_wrap bA1 hGi
     obtain ⟨t2, t21, t22⟩ := tdiv_wrap bA2 hGi
     rw [if_pos hG1] at HRD
     obtain ⟨e1, e2, e3⟩ : A0.tdiv (G : Int) = r0 ∧ A1.tdiv (G : Int) = r1 ∧ A2.tdiv (G : Int) = r2 := by
      have h := HRD.out
      injection h with h1 h2
      injection h2 with h2 h3
      exact ⟨h1, h2, h3⟩
     rw [e1] at t0 t01 t02
     rw [e2] at t1 t11 t12
     rw [e3] at t2 t21 t22
     have HT := Lib.hid (And.intro t0 (And.intro t1 (And.intro t2 (And.intro e1 (And.intro e2 e3)))))
     have hGz : ((G : Int) == 0) = false := by rw [beq_eq_false_iff_ne]; omega
     clear t0 t1 t2 e1 e2 e3 t01 t02 t11 t12 t21 t22 hG1 HRD
     go_wp2_with fail
     go_loopw [72] (fun v wr => CdRel w ga gb A0 A1 A2 r0 r1 r2 uq vq tq v wr) (fun v _ => 3 - (intOf v).toNat)
     case atStart => exact ⟨0, by omega, rfl, HM9.out⟩
     case round =>
      clear HM9
      obtain ⟨k, hk, rfl, hmem⟩ := hrel
      have HM := Lib.hid hmem
      have hsg : ga < wr.heap.size := hmem.1.lt
      clear hmem
      by_cases hlt : k < 3
      ·rcases (show k = 0 ∨ k = 1 ∨ k = 2 by omega) with rfl | rfl | rfl
       ·have HM3 : Hid (CvMem w ga gb A0 A1 A2 uq vq tq wr) := HM.out
        obtain ⟨c0, c1, c2⟩ := three_of HM3.out.1
        have f0 := HM3.out.1.frozen 0
        obtain ⟨t0, t1, t2, e1, e2, e3⟩ := HT.out
        go_upto_region 19 with fail
        clear t0 t1 t2 e1 e2 e3 c0 c1 c2 f0
        go_wp2
        go_roundw
        case rel => exact CdRel.one ((HM3.out.put r0).1)
        case measure => simp [intOf]
       ·have HM3 : Hid (CvMem w ga gb r0 A1 A2 uq vq tq wr) := HM.out
        obtain ⟨c0, c1, c2⟩ := three_of HM3.out.1
        have f0 := HM3.out.1.frozen 1
        obtain ⟨t0, t1, t2, e1, e2, e3⟩ := HT.out
        go_upto_region 19 with fail
        clear t0 t1 t2 e1 e2 e3 c0 c1 c2 f0
        go_wp2
        go_roundw
        case rel => exact CdRel.two ((HM3.out.put r1).2.1)
        case measure => simp [intOf]
       ·have HM3 : Hid (CvMem w ga gb r0 r1 A2 uq vq tq wr) := HM.out
        obtain ⟨c0, c1, c2⟩ := three_of HM3.out.1
        have f0 := HM3.out.1.frozen 2
        obtain ⟨t0, t1, t2, e1, e2, e3⟩ := HT.out
        go_upto_region 19 with fail
        clear t0 t1 t2 e1 e2 e3 c0 c1 c2 f0
        go_wp2
        go_roundw
        case rel => exact CdRel.three ((HM3.out.put r2).2.2)
        case measure => simp [intOf]
      ·obtain rfl : k = 3 := by omega
       have HM3 : Hid (CvMem w ga gb r0 r1 r2 uq vq tq wr) := HM.out
       obtain ⟨c0, c1, c2⟩ := three_of HM3.out.1
       clear HT HM
       go_wp2_with fail
       refine (HS.out _ (HM3.out.2.2.2.2.1.below HM3.out.2.2.2.2.2)).mono ?_
       rintro e w9 ⟨rfl, hb⟩
       have HB := Lib.hid (HM3.out.below hb).2.2.2.2.2
       clear hb c0 c1 c2
       go_wp2
       go_ret2
       exact ⟨rfl, HB.out⟩
    ·have hGi : (G : Int) ≤ 1 := by omega
     rw [if_neg hG1] at HRD
     obtain ⟨e1, e2, e3⟩ : A0 = r0 ∧ A1 = r1 ∧ A2 = r2 := by
      have h := HRD.out
      injection h with h1 h2
      injection h2 with h2 h3
      exact ⟨h1, h2, h3⟩
     subst e1
     subst e2
     subst e3
     obtain ⟨c0, c1, c2⟩ := three_of HM9.out.1
     clear hG1 HRD
     go_wp2_with fail
     refine (HS.out _ (HM9.out.2.2.2.2.1.below HM9.out.2.2.2.2.2)).mono ?_
     rintro e w9 ⟨rfl, hb⟩
     have HB := Lib.hid (HM9.out.below hb).2.2.2.2.2
     clear hb c0 c1 c2
     go_wp2
     go_ret2
     exact ⟨rfl, HB.out⟩
end Go.Proofs.YtendjepcjmfmfaaGreatDoor
namespace Go.Proofs.YtendjepcjmfmfaaGreatDoor
open Go.RowKit
theorem lg_eq (x y z : Int) : lgZ x y z = x * lgU + y * lgT + z * lgF := by
 show x * lgU + (y * lgT + (z * lgF + 0)) = _
 omega
theorem lg_far {x y z : Int} (hy : -3000000 ≤ y ∧ y ≤ 3000000) (hz : -3000000 ≤ z ∧ z ≤ 3000000) (hn : ¬ (x = 0 ∧ y = 0 ∧ z = 0)) : lgZ x y z < -10000000 ∨ 10000000 < lgZ x y z := by
 rcases Int.lt_or_le (lgZ x y z) (-10000000) with h | h
 ·exact .inl h
 ·rcases Int.lt_or_le 10000000 (lgZ x y z) with h' | h'
  ·exact .inr h'
  ·rw [lg_eq] at h h'
   exact absurd (log_far hy hz ⟨h, h'⟩) hn
theorem sgn_lo_hi {x y z : Int} (hy : -3000000 ≤ y ∧ y ≤ 3000000) (hz : -3000000 ≤ z ∧ z ≤ 3000000) (hn : ¬ (x = 0 ∧ y = 0 ∧ z = 0)) : sgn (loZ x y z) = sgn (lgZ x y z) ∧ sgn (hiZ x y z) = sgn (lgZ x y z) ∧ sgn (lgZ x y z) ≠ 0 := by
 have h := lg_far hy hz hn
 unfold loZ hiZ
 obtain ⟨m, hm⟩ : ∃ m, m = lgZ x y z := ⟨_, rfl⟩
 rw [← hm] at h ⊢
 have hs : ∀ {k : Int}, k < 0 → sgn k = -1 := fun h => sgn_neg h
 have hp : ∀ {k : Int}, 0 < k → sgn k = 1 := fun h => by unfold sgn; rw [if_neg (by omega), if_neg (by omega)]
 have b1 : -3000000 ≤ (if 0 < y then 0 else y) ∧ (if 0 < y then 0 else y) ≤ 3000000 := by split <;> omega
 have b2 : -3000000 ≤ (if 0 < z then 0 else z) ∧ (if 0 < z then 0 else z) ≤ 3000000 := by split <;> omega
 have b3 : -3000000 ≤ (if 0 < y then y else 0) ∧ (if 0 < y then y else 0) ≤ 3000000 := by split <;> omega
 have b4 : -3000000 ≤ (if 0 < z then z else 0) ∧ (if 0 < z then z else 0) ≤ 3000000 := by split <;> omega
 rcases h with h | h
 ·rw [hs (show m < 0 by omega), hs (by omega), hs (by omega)]; decide
 ·rw [hp (show 0 < m by omega), hp (by omega), hp (by omega)]; decide
theorem isign_all (x y z : Int) (w : World) (ht : Tab w) (hx : -3000000 ≤ x ∧ x ≤ 3000000) (hy : -3000000 ≤ y ∧ y ≤ 3000000) (hz : -3000000 ≤ z ∧ z ≤ 3000000) :
  Calls Tryz.prog 86 #[.agg #[.int .i64 x, .int .i64 y, .int .i64 z]] w fun e w' => e = .returned (.int .i64 (sgn (lgZ x y z))) ∧ Below w.heap.size w w' := by
 by_cases h : x = 0 ∧ y = 0 ∧ z = 0
 ·obtain ⟨rfl, rfl, rfl⟩ := h
  rw [show sgn (lgZ 0 0 0) = 0 by decide]
  exact isign_zero w
 ·obtain ⟨h1, h2, h3⟩ := sgn_lo_hi hy hz h
  exact isign_dec x y z _ w ht ⟨by omega, by omega⟩ ⟨by omega, by omega⟩ ⟨by omega, by omega⟩ h h1 h2 h3
theorem lg_mul (g x y z : Int) : lgZ (g * x) (g * y) (g * z) = g * lgZ x y z := by
 simp only [lg_eq, Int.mul_add, Int.mul_assoc]
theorem sgn_mul_pos {g k : Int} (hg : 0 < g) : sgn (g * k) = sgn k := by
 unfold sgn
 rcases Int.lt_trichotomy k 0 with h | h | h
 ·have : g * k < 0 := Int.mul_neg_of_pos_of_neg hg h
  rw [if_pos this, if_pos h]
 ·subst h; simp
 ·have : 0 < g * k := Int.mul_pos hg h
  rw [if_neg (by omega), if_neg (by omega), if_neg (by omega), if_neg (by omega)]
theorem tdiv_exact {a : Int} {g : Nat} (h : (g : Nat) ∣ a.natAbs) : (g : Int) * a.tdiv (g : Int) = a := by
 have h1 : (g : Int) ∣ a := by rw [← Int.dvd_natAbs]; exact Int.natCast_dvd_natCast.2 h
 exact Int.mul_tdiv_cancel' h1
theorem redV_sgn (a b c : Int) : sgn (lgZ (redV a b c).1 (redV a b c).2.1 (redV a b c).2.2) = sgn (lgZ a b c) := by
 unfold redV
 split
 ·rename_i hg
  obtain ⟨g, hgg⟩ : ∃ g, g = Nat.gcd (Nat.gcd a.natAbs b.natAbs) c.natAbs := ⟨_, rfl⟩
  have d1 : g ∣ a.natAbs := by rw [hgg]; exact Nat.dvd_trans (Nat.gcd_dvd_left _ _) (Nat.gcd_dvd_left _ _)
  have d2 : g ∣ b.natAbs := by rw [hgg]; exact Nat.dvd_trans (Nat.gcd_dvd_left _ _) (Nat.gcd_dvd_right _ _)
  have d3 : g ∣ c.natAbs := by rw [hgg]; exact Nat.gcd_dvd_right _ _
  rw [← hgg] at hg ⊢
  dsimp only
  rw [← sgn_mul_pos (show (0 : Int) < (g : Int) by omega), ← lg_mul, tdiv_exact d1, tdiv_exact d2, tdiv_exact d3]
 ·rfl
theorem redV_bd {a b c m : Int} (ha : -m ≤ a ∧ a ≤ m) (hb : -m ≤ b ∧ b ≤ m) (hc : -m ≤ c ∧ c ≤ m) : (-m ≤ (redV a b c).1 ∧ (redV a b c).1 ≤ m) ∧ (-m ≤ (redV a b c).2.1 ∧ (redV a b c).2.1 ≤ m) ∧ (-m ≤ (redV a b c).2.2 ∧ (redV a b c).2.2 ≤ m) := by
 have key : ∀ (k : Int) (g : Nat), -m ≤ k ∧ k ≤ m → -m ≤ k.tdiv (g : Int) ∧ k.tdiv (g : Int) ≤ m := fun k g hk => by
  have h : (k.tdiv (g : Int)).natAbs ≤ k.natAbs := by rw [Int.natAbs_tdiv]; exact Nat.div_le_self _ _
  omega
 unfold redV
 split
 ·exact ⟨key _ _ ha, key _ _ hb, key _ _ hc⟩
 ·exact ⟨ha, hb, hc⟩
theorem lg_sub (x y z u v t p q : Int) : lgZ (x * p - u * q) (y * p - v * q) (z * p - t * q) = p * lgZ x y z - q * lgZ u v t := by
 simp only [lg_eq, Int.sub_mul, Int.mul_add]
 have e : ∀ a b c : Int, a * b * c = b * (a * c) := fun a b c => by rw [Int.mul_comm a b, Int.mul_assoc]
 rw [e x p, e u q, e y p, e v q, e z p, e t q]
 omega
theorem icompare_all (a0 b0 a1 b1 a2 b2 c0 d0 c1 d1 c2 d2 x y z D u v t E : Int) (w : World) (ht : Tab w) (hn : ∀ q ∈ [(a0, b0), (a1, b1), (a2, b2)], Right q.1 q.2) (hm : ∀ q ∈ [(c0, d0), (c1, d1), (c2, d2)], Right q.1 q.2)
  (h1 : prt [(a0, b0), (a1, b1), (a2, b2)] = some ([x, y, z], D)) (h2 : prt [(c0, d0), (c1, d1), (c2, d2)] = some ([u, v, t], E)) :
  Calls Tryz.prog 46 #[szv a0 b0 a1 b1 a2 b2, szv c0 d0 c1 d1 c2 d2] w fun e w' => e = .returned (.tuple #[.int .i64 (sgn (E * lgZ x y z - D * lgZ u v t)), .int .i64 0]) ∧ Below w.heap.size w w' := by
 have hi : ∀ {n d : Int}, Right n d → I64 n ∧ I64 d := fun h => by
  obtain ⟨h1, h2, h3, h4, _⟩ := h
  exact ⟨⟨by omega, by omega⟩, ⟨by omega, by omega⟩⟩
 obtain ⟨i0, i1⟩ := hi (hn (a0, b0) (by simp))
 obtain ⟨i2, i3⟩ := hi (hn (a1, b1) (by simp))
 obtain ⟨i4, i5⟩ := hi (hn (a2, b2) (by simp))
 obtain ⟨i6, i7⟩ := hi (hm (c0, d0) (by simp))
 obtain ⟨i8, i9⟩ := hi (hm (c1, d1) (by simp))
 obtain ⟨j0, j1⟩ := hi (hm (c2, d2) (by simp))
 obtain ⟨⟨hD0, hD1⟩, hl1⟩ := prt_num h1 (right_mild hn)
 obtain ⟨⟨hE0, hE1⟩, hl2⟩ := prt_num h2 (right_mild hm)
 obtain ⟨g, p, q, hg, hgp, hq, hqm, hm1, hm2, ⟨hp0, hp1⟩, ⟨hq0, hq1⟩, hpd, hM⟩ := lcm_parts ⟨hD0, hD1⟩ ⟨hE0, hE1⟩
 have hbx : ∀ (l k : Int), -6000 ≤ l ∧ l ≤ 6000 → 1 ≤ k ∧ k ≤ 240 → -1440000 ≤ l * k ∧ l * k ≤ 1440000 := fun l k h h' => by
  have : (l * k).natAbs ≤ 6000 * 240 := by rw [Int.natAbs_mul]; exact Nat.mul_le_mul (by omega) (by omega)
  omega
 have bx := hbx x p (hl1 x (by simp)) ⟨hp0, hp1⟩
 have by_ := hbx y p (hl1 y (by simp)) ⟨hp0, hp1⟩
 have bz := hbx z p (hl1 z (by simp)) ⟨hp0, hp1⟩
 have bu := hbx u q (hl2 u (by simp)) ⟨hq0, hq1⟩
 have bv := hbx v q (hl2 v (by simp)) ⟨hq0, hq1⟩
 have bt := hbx t q (hl2 t (by simp)) ⟨hq0, hq1⟩
 obtain ⟨r1, r2, r3⟩ := redV_bd (m := 3000000) (a := x * p - u * q) (b := y * p - v * q) (c := z * p - t * q) (by omega) (by omega) (by omega)
 have hs := icompare_any a0 b0 a1 b1 a2 b2 c0 d0 c1 d1 c2 d2 x y z D u v t E p q _ _ _ (sgn (lgZ (redV (x * p - u * q) (y * p - v * q) (z * p - t * q)).1 (redV (x * p - u * q) (y * p - v * q) (z * p - t * q)).2.1 (redV (x * p - u * q) (y * p - v * q) (z * p - t * q)).2.2)) w ht hn hm h1 h2
  (by intro k hk; simp only [List.mem_cons, List.not_mem_nil, or_false] at hk; rcases hk with rfl | rfl | rfl | rfl | rfl | rfl | rfl | rfl | rfl | rfl | rfl | rfl <;> assumption) (by rw [hpd, hg]) (by rw [← hq, hg]) rfl (fun W hW => isign_all _ _ _ W hW r1 r2 r3)
 rw [redV_sgn, lg_sub] at hs
 have e : E * lgZ x y z - D * lgZ u v t = g * (p * lgZ x y z - q * lgZ u v t) := by
  have e1 : E = g * p := by
   rw [hpd]; refine (Int.mul_ediv_cancel' ?_).symm
   rw [hg, ← Int.dvd_natAbs]; exact Int.natCast_dvd_natCast.2 (Nat.gcd_dvd_right _ _)
  have e2 : D = g * q := by
   rw [← hq]; refine (Int.mul_ediv_cancel' ?_).symm
   rw [hg, ← Int.dvd_natAbs]; exact Int.natCast_dvd_natCast.2 (Nat.gcd_dvd_left _ _)
  rw [Int.mul_sub, ← Int.mul_assoc, ← Int.mul_assoc, ← e1, ← e2]
 rw [e, sgn_mul_pos hgp]
 exact hs
end Go.Proofs.YtendjepcjmfmfaaGreatDoor
