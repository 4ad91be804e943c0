/- Package interval: over, the exponents over a multiple of the denominator. Conditions: the size is right, the denominator goes into the multiple at most 240 times. -/
import Derived.Test.YtplonkeipdbchaaGreatDoorIvSign
namespace Go.Proofs.YtplonkeipdbchaaGreatDoor
open Go.RowKit

/-- What over carries: the result's block, the exponents. -/
def OvMem (w : World) (g : Nat) (x y z : Int) (W : World) : Prop :=
  Blk W (w.heap.size + 1) 26 [.int .i64 0, .int .i64 0, .int .i64 0] ∧ Blk W g 26 [.int .i64 x, .int .i64 y, .int .i64 z] ∧ Below w.heap.size w W
theorem OvMem.below {w W W' : World} {g : Nat} {x y z : Int} (h : OvMem w g x y z W) (hb : Below W.heap.size W W') : OvMem w g x y z W' := ⟨h.1.below hb h.1.lt, h.2.1.below hb h.2.1.lt, h.2.2.trans (hb.mono h.2.2.size)⟩
theorem OvMem.put {w W : World} {g : Nat} {x y z : Int} (h : OvMem w g x y z W) (hg : w.heap.size + 1 < g) (u : Int) : OvMem w g u y z (W.setCell ⟨g, 0, none⟩ (.int .i64 u)) ∧ OvMem w g x u z (W.setCell ⟨g, 1, none⟩ (.int .i64 u)) ∧ OvMem w g x y u (W.setCell ⟨g, 2, none⟩ (.int .i64 u)) := by
  have e1 : w.heap.size + 1 ≠ g := by omega
  exact ⟨⟨h.1.far e1 _, h.2.1.put 0 _, bw_set h.2.2 (by omega) _⟩, ⟨h.1.far e1 _, h.2.1.put 1 _, bw_set h.2.2 (by omega) _⟩, ⟨h.1.far e1 _, h.2.1.put 2 _, bw_set h.2.2 (by omega) _⟩⟩
def OvRel (w : World) (g : Nat) (x y z q : Int) (v : Value) (W : World) : Prop :=
  ∃ k : Nat, k ≤ 3 ∧ v = .int .i64 (k : Int) ∧ OvMem w g (if 0 < k then x * q else x) (if 1 < k then y * q else y) (if 2 < k then z * q else z) W

set_option maxRecDepth 100000 in
set_option maxHeartbeats 8000000 in
theorem iover_any (n0 d0 n1 d1 n2 d2 x y z D q : Int) (w : World) (hr : ∀ p ∈ [(n0, d0), (n1, d1), (n2, d2)], Right p.1 p.2) (hpr : prt [(n0, d0), (n1, d1), (n2, d2)] = some ([x, y, z], D)) (hq0 : 1 ≤ q) (hq1 : q ≤ 240) :
    Calls Tryz.prog 44 #[szv n0 d0 n1 d1 n2 d2, .int .i64 (D * q)] w fun e w' => e = .returned (.agg #[.int .i64 (x * q), .int .i64 (y * q), .int .i64 (z * q)]) ∧ Below w.heap.size w w' := by
  have hp := fun W => parts_any n0 d0 n1 d1 n2 d2 W (right_mild hr)
  unfold PaRet at hp
  rw [hpr] at hp
  obtain ⟨⟨hD0, hD1⟩, hl⟩ := prt_num hpr (right_mild hr)
  have hx := hl x (by simp)
  have hy := hl y (by simp)
  have hz := hl z (by simp)
  have hM0 : Blk ((w.alloc (.cells #[.int .i64 n0, .int .i64 d0, .int .i64 n1, .int .i64 d1, .int .i64 n2, .int .i64 d2] 25)).alloc (.cells #[.int .i64 0, .int .i64 0, .int .i64 0] 26)) (w.heap.size + 1) 26 [.int .i64 0, .int .i64 0, .int .i64 0] := by
    have := heap_alloc_new (w.alloc (.cells #[.int .i64 n0, .int .i64 d0, .int .i64 n1, .int .i64 d1, .int .i64 n2, .int .i64 d2] 25)) (.cells #[.int .i64 0, .int .i64 0, .int .i64 0] 26)
    rw [World.size_alloc] at this
    exact this
  have HB0 := Lib.hid (bw_new (bw_new (Below.refl w.heap.size w) (.cells #[.int .i64 n0, .int .i64 d0, .int .i64 n1, .int .i64 d1, .int .i64 n2, .int .i64 d2] 25)) (.cells #[.int .i64 0, .int .i64 0, .int .i64 0] 26))
  have HM0 := Lib.hid hM0
  have HP := Lib.hid hp
  have hdq : (D * q) / D = q := Int.mul_ediv_cancel_left _ (by omega)
  have hb : 1 ≤ D * q ∧ D * q ≤ 57600 := by
    have h1 := Int.mul_le_mul hD0 hq0 (by decide) (by omega)
    have h2 := Int.mul_le_mul hD1 hq1 (by omega) (by decide)
    omega
  have hxq : ∀ u : Int, -6000 ≤ u ∧ u ≤ 6000 → IntKind.i64.wrap (u * q) = u * q := fun u hu => by
    have h2 : (u * q).natAbs ≤ 6000 * 240 := by rw [Int.natAbs_mul]; exact Nat.mul_le_mul (by omega) (by omega)
    exact IntWalk.i64_in _ (by omega)
  have w0 := hxq x hx
  have w1 := hxq y hy
  have w2 := hxq z hz
  obtain ⟨E, hE⟩ : ∃ E, E = D * q := ⟨_, rfl⟩
  rw [← hE] at hdq hb ⊢
  have hw : IntKind.i64.wrap (E.tdiv D) = q := by rw [Int.tdiv_eq_ediv_of_nonneg (by omega), hdq]; exact IntWalk.i64_in _ (by omega)
  have hDz : (D == 0) = false := by rw [beq_eq_false_iff_ne]; omega
  have HW := Lib.hid (And.intro hdq (And.intro hw (And.intro w0 (And.intro w1 w2))))
  obtain ⟨hE0, hE1⟩ := hb
  obtain ⟨hx0, hx1⟩ := hx
  obtain ⟨hy0, hy1⟩ := hy
  obtain ⟨hz0, hz1⟩ := hz
  clear hp hr hpr hl hM0 hdq hw w0 w1 w2 hxq hE
  go_enter Tryz.func44, Tryz.ntmps44
  go_wp2_with fail
  refine (HP.out _).mono ?_
  rintro e w1 ⟨rfl, hb⟩
  have hm : OvMem w w1.heap.size x y z (w1.alloc (.cells #[.int .i64 x, .int .i64 y, .int .i64 z] 26)) := ⟨(HM0.out.below hb HM0.out.lt).alloc _, heap_alloc_new w1 _, bw_new (HB0.out.trans (hb.mono HB0.out.size)) _⟩
  have hgg : w.heap.size + 1 < w1.heap.size := (HM0.out.below hb HM0.out.lt).lt
  have HM := Lib.hid hm
  obtain ⟨g, hg⟩ : ∃ g, g = w1.heap.size := ⟨_, rfl⟩
  rw [← hg] at HM hgg
  clear hb hm
  go_wp2_with fail
  rw [← hg]
  clear hg
  go_loopw [15] (fun v wr => OvRel w g x y z q v wr) (fun v _ => 3 - (intOf v).toNat)
  case atStart => exact ⟨0, by omega, rfl, HM.out⟩
  case round =>
    clear HM
    obtain ⟨k, hk, rfl, hmem⟩ := hrel
    have HM := Lib.hid hmem
    have hsz : g < wr.heap.size := hmem.2.1.lt
    clear hmem
    by_cases hlt : k < 3
    · rcases (show k = 0 ∨ k = 1 ∨ k = 2 by omega) with rfl | rfl | rfl
      · have HM2 : Hid (OvMem w g (x) (y) (z) wr) := HM.out
        obtain ⟨c0, c1, c2⟩ := three_of HM2.out.2.1
        have f0 := HM2.out.2.1.frozen 0
        obtain ⟨hdq, hw, w0, w1', w2⟩ := HW.out
        go_upto_region 5 with fail
        go_region
        all_goals
          clear hdq hw w0 w1' w2
          go_wp2
          go_roundw
          case rel =>
            have hrl : OvRel w g x y z q (.int .i64 ((0 + 1 : Nat) : Int)) _ := ⟨0 + 1, by omega, rfl, show OvMem w g (x * q) (y) (z) _ from ((HM2.out.put hgg (x * q)).1).below (bw_drew (Below.refl _ _))⟩
            first | exact hrl | exact ⟨_, _, hrl, rfl, rfl⟩
          case measure => simp [intOf]
      · have HM2 : Hid (OvMem w g (x * q) (y) (z) wr) := HM.out
        obtain ⟨c0, c1, c2⟩ := three_of HM2.out.2.1
        have f0 := HM2.out.2.1.frozen 1
        obtain ⟨hdq, hw, w0, w1', w2⟩ := HW.out
        go_upto_region 5 with fail
        go_region
        all_goals
          clear hdq hw w0 w1' w2
          go_wp2
          go_roundw
          case rel =>
            have hrl : OvRel w g x y z q (.int .i64 ((1 + 1 : Nat) : Int)) _ := ⟨1 + 1, by omega, rfl, show OvMem w g (x * q) (y * q) (z) _ from ((HM2.out.put hgg (y * q)).2.1).below (bw_drew (Below.refl _ _))⟩
            first | exact hrl | exact ⟨_, _, hrl, rfl, rfl⟩
          case measure => simp [intOf]
      · have HM2 : Hid (OvMem w g (x * q) (y * q) (z) wr) := HM.out
        obtain ⟨c0, c1, c2⟩ := three_of HM2.out.2.1
        have f0 := HM2.out.2.1.frozen 2
        obtain ⟨hdq, hw, w0, w1', w2⟩ := HW.out
        go_upto_region 5 with fail
        go_region
        all_goals
          clear hdq hw w0 w1' w2
          go_wp2
          go_roundw
          case rel =>
            have hrl : OvRel w g x y z q (.int .i64 ((2 + 1 : Nat) : Int)) _ := ⟨2 + 1, by omega, rfl, show OvMem w g (x * q) (y * q) (z * q) _ from ((HM2.out.put hgg (z * q)).2.2).below (bw_drew (Below.refl _ _))⟩
            first | exact hrl | exact ⟨_, _, hrl, rfl, rfl⟩
          case measure => simp [intOf]
    · obtain rfl : k = 3 := by omega
      have HM2 : Hid (OvMem w g (x * q) (y * q) (z * q) wr) := HM.out
      obtain ⟨c0, c1, c2⟩ := three_of HM2.out.2.1
      obtain ⟨e0, e1, e2⟩ := three_of HM2.out.1
      have f0 := HM2.out.1.frozen 0
      have f1 := HM2.out.1.frozen 1
      have f2 := HM2.out.1.frozen 2
      go_wp2
      obtain ⟨WZ, hWZ⟩ : ∃ WZ, WZ = (((wr.setCell ⟨w.heap.size + 1, 0, none⟩ (.int .i64 (x * q))).setCell ⟨w.heap.size + 1, 1, none⟩ (.int .i64 (y * q))).setCell ⟨w.heap.size + 1, 2, none⟩ (.int .i64 (z * q))) := ⟨_, rfl⟩
      have hbz : Blk WZ (w.heap.size + 1) 26 [.int .i64 (x * q), .int .i64 (y * q), .int .i64 (z * q)] := by rw [hWZ]; exact (((HM2.out.1.put 0 (.int .i64 (x * q))).put 1 (.int .i64 (y * q))).put 2 (.int .i64 (z * q)))
      have hww : Below w.heap.size w WZ := by rw [hWZ]; exact bw_set (bw_set (bw_set HM2.out.2.2 (by omega) _) (by omega) _) (by omega) _
      rw [← hWZ]
      obtain ⟨g0, g1, g2⟩ := three_of hbz
      exact bodyPost_ret (v := .agg #[.int .i64 (x * q), .int .i64 (y * q), .int .i64 (z * q)]) (by simp [g0, g1, g2, results, Tryz.results44, go_sem]) rfl ⟨rfl, hww⟩
end Go.Proofs.YtplonkeipdbchaaGreatDoor
