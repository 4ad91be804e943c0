/- Law IntervalGroup: the walk. Conditions: the plans' numerators are int8, their denominators uint8; the library's table of powers of ten reads as its text lays it. Printed by gengrouplaw.py. -/
import Derived.Test.YtplonkeipdbchaaDoorIvPlan
import Derived.Test.YtplonkeipdbchaaDoorRegI
import Derived.Test.YtplonkeipdbchaaDoorKnown05
namespace Go.Proofs.YtplonkeipdbchaaDoor
open Go.RowKit

theorem four_of' {W : World} {g : Nat} {t : TypeId} {a b c d : Value} (h : Blk W g t [a, b, c, d]) : W.cell? ⟨g, 0, none⟩ = some a ∧ W.cell? ⟨g, 1, none⟩ = some b ∧ W.cell? ⟨g, 2, none⟩ = some c ∧ W.cell? ⟨g, 3, none⟩ = some d := ⟨h.cell 0, h.cell 1, h.cell 2, h.cell 3⟩
theorem getB {md : Region.Mode} {l : Array Bool} {es : Array Edge} {x : Bool} (h : ∀ e ∈ es, Region.binds md e = true → l.getD e.on false = true) (j : Nat) (hx : l.getD j false = x) (hm : (es.any fun e => e.on == j && Region.binds md e) = true := by kernel_rfl) : x = true := by
  obtain ⟨e, he, h2⟩ := Array.any_eq_true'.1 hm
  rw [Bool.and_eq_true, beq_iff_eq] at h2
  rw [← hx, ← h2.1]
  exact h e he h2.2
/-- The frame while the three sizes are made. -/
def grF (h : Nat) (vp vq vr x7 x8 x9 x30 x31 x32 x33 x34 x35 : Value) : Act := { tmps := #[vp, vq, vr, .pointer (some ⟨h, 0, none⟩), .pointer (some ⟨h + 1, 0, none⟩), .pointer (some ⟨h + 2, 0, none⟩), .bool false, x7, x8, x9, undef, undef, undef, undef, undef, undef, undef, undef, undef, undef, undef, undef, undef, undef, undef, undef, undef, undef, .bool true, .bool false, x30, x31, x32, x33, x34, x35, undef, undef, undef, undef, undef, undef, undef, undef, undef, undef, undef, undef, undef, undef, undef, undef, undef, undef, undef, undef, undef, undef, undef, undef, undef, undef, undef, undef, undef, undef, undef, undef, undef, undef, undef, undef, undef, undef, undef, undef, undef, undef, undef, undef, undef, undef, undef, undef, undef, undef, undef, undef, undef, undef, undef, undef, undef, undef, undef, undef, undef, undef, undef, undef, undef, undef, undef, undef, undef, undef, undef, undef, undef, undef, undef, undef, undef, undef, undef, undef, undef, undef, undef, undef, undef, undef, undef, undef, undef, undef, undef, undef, undef, undef, undef, undef, undef, undef, undef, undef, undef, undef, undef, undef, undef, undef, undef, undef], defers := [] }
/-- What each operation of this statement keeps, wherever it comes up. -/
def GrRel (w : World) (n0 n1 n2 dp m0 m1 m2 dq l0 l1 l2 dr : Int) (A B C : List Value) (sA sB sC : Value) (l : Array Bool) (a : Act) (W : World) : Prop :=
  ∃ (u0 u1 u2 u3 u4 u5 u6 u7 u8 u9 u10 u11 : Bool) (g7 g8 g9 : Nat), l = #[u0, u1, u2, u3, u4, u5, u6, u7, u8, u9, u10, u11] ∧
    a = grF w.heap.size (plv n0 n1 n2 dp) (plv m0 m1 m2 dq) (plv l0 l1 l2 dr) (cv u6 (.pointer (some ⟨g7, 0, none⟩))) (cv u7 (.pointer (some ⟨g8, 0, none⟩))) (cv u8 (.pointer (some ⟨g9, 0, none⟩))) (cv u0 (plv n0 n1 n2 dp)) (cv u1 sA) (cv u2 (plv m0 m1 m2 dq)) (cv u3 sB) (cv u4 (plv l0 l1 l2 dr)) (cv u5 sC) ∧
    (u9 = true → u6 = true) ∧ (u10 = true → u7 = true) ∧ (u11 = true → u8 = true) ∧
    Hp w ((([(w.heap.size, 55, [.int .i8 n0, .int .i8 n1, .int .i8 n2, .int .u8 dp]), (w.heap.size + 1, 55, [.int .i8 m0, .int .i8 m1, .int .i8 m2, .int .u8 dq]), (w.heap.size + 2, 55, [.int .i8 l0, .int .i8 l1, .int .i8 l2, .int .u8 dr])] ++ cl u6 (g7, 28, bif u9 then A else [.int .i64 0, .int .i64 0, .int .i64 0, .int .i64 0, .int .i64 0, .int .i64 0])) ++ cl u7 (g8, 28, bif u10 then B else [.int .i64 0, .int .i64 0, .int .i64 0, .int .i64 0, .int .i64 0, .int .i64 0])) ++ cl u8 (g9, 28, bif u11 then C else [.int .i64 0, .int .i64 0, .int .i64 0, .int .i64 0, .int .i64 0, .int .i64 0])) W

set_option maxRecDepth 100000 in
set_option maxHeartbeats 16000000 in
theorem lgroup_any (n0 n1 n2 dp m0 m1 m2 dq l0 l1 l2 dr : Int) (w : World) (ht : Tab w) (h0 : -128 ≤ n0 ∧ n0 ≤ 127) (h1 : -128 ≤ n1 ∧ n1 ≤ 127) (h2 : -128 ≤ n2 ∧ n2 ≤ 127) (hdp : 0 ≤ dp ∧ dp ≤ 255)
    (k0 : -128 ≤ m0 ∧ m0 ≤ 127) (k1 : -128 ≤ m1 ∧ m1 ≤ 127) (k2 : -128 ≤ m2 ∧ m2 ≤ 127) (hdq : 0 ≤ dq ∧ dq ≤ 255) (j0 : -128 ≤ l0 ∧ l0 ≤ 127) (j1 : -128 ≤ l1 ∧ l1 ≤ 127) (j2 : -128 ≤ l2 ∧ l2 ≤ 127) (hdr : 0 ≤ dr ∧ dr ≤ 255) :
    Calls Tryd.prog 7 #[plv n0 n1 n2 dp, plv m0 m1 m2 dq, plv l0 l1 l2 dr] w fun e w' => e = .returned (.bool true) ∧ Below w.heap.size w w' := by
  have hmp := fun W => lmake_any n0 n1 n2 dp W h0 h1 h2 hdp
  have hmq := fun W => lmake_any m0 m1 m2 dq W k0 k1 k2 hdq
  have hmr := fun W => lmake_any l0 l1 l2 dr W j0 j1 j2 hdr
  obtain ⟨D, hD⟩ : ∃ D, D = 1 + dp % 12 := ⟨_, rfl⟩
  obtain ⟨E, hE⟩ : ∃ D, D = 1 + dq % 12 := ⟨_, rfl⟩
  obtain ⟨F, hF⟩ : ∃ D, D = 1 + dr % 12 := ⟨_, rfl⟩
  rw [← hD] at hmp
  rw [← hE] at hmq
  rw [← hF] at hmr
  have bD : 1 ≤ D ∧ D ≤ 12 := by omega
  have bE : 1 ≤ E ∧ E ≤ 12 := by omega
  have bF : 1 ≤ F ∧ F ≤ 12 := by omega
  clear hD hE hF hdp hdq hdr
  have mb : ∀ {x K : Int}, -128 ≤ x ∧ x ≤ 127 → 1 ≤ K ∧ K ≤ 12 → -1536 ≤ x * K ∧ x * K ≤ 1536 := fun {x K} hx hK => by
    have u1 := Int.mul_le_mul_of_nonneg_right hx.1 (show 0 ≤ K by omega)
    have u2 := Int.mul_le_mul_of_nonneg_right hx.2 (show 0 ≤ K by omega)
    omega
  have db : ∀ {x K : Int}, 1 ≤ x ∧ x ≤ 12 → 1 ≤ K ∧ K ≤ 12 → 1 ≤ x * K ∧ x * K ≤ 240 := fun {x K} hx hK => by
    have u1 := Int.mul_le_mul (a := x) (b := K) (c := 12) (d := 12) hx.2 hK.2 (by omega) (by decide)
    have u2 := Int.mul_pos (a := x) (b := K) (by omega) (by omega)
    omega
  have zA : PzB n0 n1 n2 D := ⟨⟨by omega, by omega⟩, ⟨by omega, by omega⟩, ⟨by omega, by omega⟩, by omega, by omega⟩
  have zB : PzB m0 m1 m2 E := ⟨⟨by omega, by omega⟩, ⟨by omega, by omega⟩, ⟨by omega, by omega⟩, by omega, by omega⟩
  have zC : PzB l0 l1 l2 F := ⟨⟨by omega, by omega⟩, ⟨by omega, by omega⟩, ⟨by omega, by omega⟩, by omega, by omega⟩
  have zS : PzB (n0 * E + m0 * D) (n1 * E + m1 * D) (n2 * E + m2 * D) (D * E) := by
    have u0 := mb h0 bE
    have v0 := mb k0 bD
    have u1 := mb h1 bE
    have v1 := mb k1 bD
    have u2 := mb h2 bE
    have v2 := mb k2 bD
    exact ⟨db bD bE, ⟨by omega, by omega⟩, ⟨by omega, by omega⟩, by omega, by omega⟩
  have zD : PzB (n0 * E - m0 * D) (n1 * E - m1 * D) (n2 * E - m2 * D) (D * E) := by
    have u0 := mb h0 bE
    have v0 := mb k0 bD
    have u1 := mb h1 bE
    have v1 := mb k1 bD
    have u2 := mb h2 bE
    have v2 := mb k2 bD
    exact ⟨db bD bE, ⟨by omega, by omega⟩, ⟨by omega, by omega⟩, by omega, by omega⟩
  have zX : PzB (n0 * F + l0 * D) (n1 * F + l1 * D) (n2 * F + l2 * D) (D * F) := by
    have u0 := mb h0 bF
    have v0 := mb j0 bD
    have u1 := mb h1 bF
    have v1 := mb j1 bD
    have u2 := mb h2 bF
    have v2 := mb j2 bD
    exact ⟨db bD bF, ⟨by omega, by omega⟩, ⟨by omega, by omega⟩, by omega, by omega⟩
  have zY : PzB (m0 * F + l0 * E) (m1 * F + l1 * E) (m2 * F + l2 * E) (E * F) := by
    have u0 := mb k0 bF
    have v0 := mb j0 bE
    have u1 := mb k1 bF
    have v1 := mb j1 bE
    have u2 := mb k2 bF
    have v2 := mb j2 bE
    exact ⟨db bE bF, ⟨by omega, by omega⟩, ⟨by omega, by omega⟩, by omega, by omega⟩
  have had := fun W => iadd_plan zA zB zS rfl rfl rfl W
  have comm : ∀ x y : Int, (y * D + x * E) * (D * E) = (x * E + y * D) * (E * D) := fun x y => by rw [Int.add_comm, Int.mul_comm D E]
  have hda := fun W => iadd_plan zB zA zS (comm _ _) (comm _ _) (comm _ _) W
  have cb : ∀ x y : Int, ((x * E + y * D) * E - y * (D * E)) * D = x * (D * E * E) := fun x y => by
    have e : (x * E + y * D) * E - y * (D * E) = x * (E * E) := by rw [Int.add_mul, Int.mul_assoc, Int.mul_assoc, Int.add_sub_cancel]
    rw [e]
    simp only [Int.mul_assoc, Int.mul_comm, Int.mul_left_comm]
  have hbk := fun W => isub_plan zS zB zA (cb _ _) (cb _ _) (cb _ _) W
  have hdf := fun W => isub_plan zA zB zD rfl rfl rfl W
  have hcp := fun W hW => icmp_plan zA zB W hW
  have hsg := fun W hW => isgn_plan zD W hW
  have hax := fun W => iadd_plan zA zC zX rfl rfl rfl W
  have hay := fun W => iadd_plan zB zC zY rfl rfl rfl W
  have hcx := fun W hW => icmp_plan zX zY W hW
  obtain ⟨s, hs⟩ : ∃ s, s = sgn (E * lgZ n0 n1 n2 - D * lgZ m0 m1 m2) := ⟨_, rfl⟩
  have e1 : sgn (lgZ (n0 * E - m0 * D) (n1 * E - m1 * D) (n2 * E - m2 * D)) = s := by rw [lg_sub, hs]
  have e2 : sgn (E * F * lgZ (n0 * F + l0 * D) (n1 * F + l1 * D) (n2 * F + l2 * D) - D * F * lgZ (m0 * F + l0 * E) (m1 * F + l1 * E) (m2 * F + l2 * E)) = s := by
    have q : E * F * lgZ (n0 * F + l0 * D) (n1 * F + l1 * D) (n2 * F + l2 * D) - D * F * lgZ (m0 * F + l0 * E) (m1 * F + l1 * E) (m2 * F + l2 * E) = (F * F) * (E * lgZ n0 n1 n2 - D * lgZ m0 m1 m2) := by
      have r1 := lg_sub n0 n1 n2 (-l0) (-l1) (-l2) F D
      have r2 := lg_sub m0 m1 m2 (-l0) (-l1) (-l2) F E
      simp only [Int.neg_mul, Int.sub_neg] at r1 r2
      rw [r1, r2, Int.mul_sub, Int.mul_sub, Int.mul_sub]
      have t1 : E * F * (F * lgZ n0 n1 n2) = F * F * (E * lgZ n0 n1 n2) := by simp only [Int.mul_assoc, Int.mul_comm, Int.mul_left_comm]
      have t2 : D * F * (F * lgZ m0 m1 m2) = F * F * (D * lgZ m0 m1 m2) := by simp only [Int.mul_assoc, Int.mul_comm, Int.mul_left_comm]
      have t3 : E * F * (D * lgZ (-l0) (-l1) (-l2)) = D * F * (E * lgZ (-l0) (-l1) (-l2)) := by simp only [Int.mul_assoc, Int.mul_comm, Int.mul_left_comm]
      rw [t1, t2, t3]
      omega
    rw [q, sgn_mul_pos (Int.mul_pos (by omega) (by omega)), hs]
  rw [← hs] at hcp
  rw [e1] at hsg
  rw [e2] at hcx
  simp only [pz] at had hda hbk hdf hcp hsg hax hay hcx
  clear zA zB zC zS zD zX zY mb db comm cb e1 e2 hs bD bE bF h0 h1 h2 k0 k1 k2 j0 j1 j2
  obtain ⟨a0, hq⟩ : ∃ p, p = lowN n0 D := ⟨_, rfl⟩
  rw [← hq] at hmp had hda hbk hdf hcp hax
  clear hq
  obtain ⟨a1, hq⟩ : ∃ p, p = lowD n0 D := ⟨_, rfl⟩
  rw [← hq] at hmp had hda hbk hdf hcp hax
  clear hq
  obtain ⟨a2, hq⟩ : ∃ p, p = lowN n1 D := ⟨_, rfl⟩
  rw [← hq] at hmp had hda hbk hdf hcp hax
  clear hq
  obtain ⟨a3, hq⟩ : ∃ p, p = lowD n1 D := ⟨_, rfl⟩
  rw [← hq] at hmp had hda hbk hdf hcp hax
  clear hq
  obtain ⟨a4, hq⟩ : ∃ p, p = lowN n2 D := ⟨_, rfl⟩
  rw [← hq] at hmp had hda hbk hdf hcp hax
  clear hq
  obtain ⟨a5, hq⟩ : ∃ p, p = lowD n2 D := ⟨_, rfl⟩
  rw [← hq] at hmp had hda hbk hdf hcp hax
  clear hq
  obtain ⟨b0, hq⟩ : ∃ p, p = lowN m0 E := ⟨_, rfl⟩
  rw [← hq] at hmq had hda hbk hdf hcp hay
  clear hq
  obtain ⟨b1, hq⟩ : ∃ p, p = lowD m0 E := ⟨_, rfl⟩
  rw [← hq] at hmq had hda hbk hdf hcp hay
  clear hq
  obtain ⟨b2, hq⟩ : ∃ p, p = lowN m1 E := ⟨_, rfl⟩
  rw [← hq] at hmq had hda hbk hdf hcp hay
  clear hq
  obtain ⟨b3, hq⟩ : ∃ p, p = lowD m1 E := ⟨_, rfl⟩
  rw [← hq] at hmq had hda hbk hdf hcp hay
  clear hq
  obtain ⟨b4, hq⟩ : ∃ p, p = lowN m2 E := ⟨_, rfl⟩
  rw [← hq] at hmq had hda hbk hdf hcp hay
  clear hq
  obtain ⟨b5, hq⟩ : ∃ p, p = lowD m2 E := ⟨_, rfl⟩
  rw [← hq] at hmq had hda hbk hdf hcp hay
  clear hq
  obtain ⟨c0, hq⟩ : ∃ p, p = lowN l0 F := ⟨_, rfl⟩
  rw [← hq] at hmr hax hay
  clear hq
  obtain ⟨c1, hq⟩ : ∃ p, p = lowD l0 F := ⟨_, rfl⟩
  rw [← hq] at hmr hax hay
  clear hq
  obtain ⟨c2, hq⟩ : ∃ p, p = lowN l1 F := ⟨_, rfl⟩
  rw [← hq] at hmr hax hay
  clear hq
  obtain ⟨c3, hq⟩ : ∃ p, p = lowD l1 F := ⟨_, rfl⟩
  rw [← hq] at hmr hax hay
  clear hq
  obtain ⟨c4, hq⟩ : ∃ p, p = lowN l2 F := ⟨_, rfl⟩
  rw [← hq] at hmr hax hay
  clear hq
  obtain ⟨c5, hq⟩ : ∃ p, p = lowD l2 F := ⟨_, rfl⟩
  rw [← hq] at hmr hax hay
  clear hq
  obtain ⟨s0, hq⟩ : ∃ p, p = lowN (n0 * E + m0 * D) (D * E) := ⟨_, rfl⟩
  rw [← hq] at had hda hbk
  clear hq
  obtain ⟨s1, hq⟩ : ∃ p, p = lowD (n0 * E + m0 * D) (D * E) := ⟨_, rfl⟩
  rw [← hq] at had hda hbk
  clear hq
  obtain ⟨s2, hq⟩ : ∃ p, p = lowN (n1 * E + m1 * D) (D * E) := ⟨_, rfl⟩
  rw [← hq] at had hda hbk
  clear hq
  obtain ⟨s3, hq⟩ : ∃ p, p = lowD (n1 * E + m1 * D) (D * E) := ⟨_, rfl⟩
  rw [← hq] at had hda hbk
  clear hq
  obtain ⟨s4, hq⟩ : ∃ p, p = lowN (n2 * E + m2 * D) (D * E) := ⟨_, rfl⟩
  rw [← hq] at had hda hbk
  clear hq
  obtain ⟨s5, hq⟩ : ∃ p, p = lowD (n2 * E + m2 * D) (D * E) := ⟨_, rfl⟩
  rw [← hq] at had hda hbk
  clear hq
  obtain ⟨d0, hq⟩ : ∃ p, p = lowN (n0 * E - m0 * D) (D * E) := ⟨_, rfl⟩
  rw [← hq] at hdf hsg
  clear hq
  obtain ⟨d1, hq⟩ : ∃ p, p = lowD (n0 * E - m0 * D) (D * E) := ⟨_, rfl⟩
  rw [← hq] at hdf hsg
  clear hq
  obtain ⟨d2, hq⟩ : ∃ p, p = lowN (n1 * E - m1 * D) (D * E) := ⟨_, rfl⟩
  rw [← hq] at hdf hsg
  clear hq
  obtain ⟨d3, hq⟩ : ∃ p, p = lowD (n1 * E - m1 * D) (D * E) := ⟨_, rfl⟩
  rw [← hq] at hdf hsg
  clear hq
  obtain ⟨d4, hq⟩ : ∃ p, p = lowN (n2 * E - m2 * D) (D * E) := ⟨_, rfl⟩
  rw [← hq] at hdf hsg
  clear hq
  obtain ⟨d5, hq⟩ : ∃ p, p = lowD (n2 * E - m2 * D) (D * E) := ⟨_, rfl⟩
  rw [← hq] at hdf hsg
  clear hq
  obtain ⟨x0, hq⟩ : ∃ p, p = lowN (n0 * F + l0 * D) (D * F) := ⟨_, rfl⟩
  rw [← hq] at hax hcx
  clear hq
  obtain ⟨x1, hq⟩ : ∃ p, p = lowD (n0 * F + l0 * D) (D * F) := ⟨_, rfl⟩
  rw [← hq] at hax hcx
  clear hq
  obtain ⟨x2, hq⟩ : ∃ p, p = lowN (n1 * F + l1 * D) (D * F) := ⟨_, rfl⟩
  rw [← hq] at hax hcx
  clear hq
  obtain ⟨x3, hq⟩ : ∃ p, p = lowD (n1 * F + l1 * D) (D * F) := ⟨_, rfl⟩
  rw [← hq] at hax hcx
  clear hq
  obtain ⟨x4, hq⟩ : ∃ p, p = lowN (n2 * F + l2 * D) (D * F) := ⟨_, rfl⟩
  rw [← hq] at hax hcx
  clear hq
  obtain ⟨x5, hq⟩ : ∃ p, p = lowD (n2 * F + l2 * D) (D * F) := ⟨_, rfl⟩
  rw [← hq] at hax hcx
  clear hq
  obtain ⟨y0, hq⟩ : ∃ p, p = lowN (m0 * F + l0 * E) (E * F) := ⟨_, rfl⟩
  rw [← hq] at hay hcx
  clear hq
  obtain ⟨y1, hq⟩ : ∃ p, p = lowD (m0 * F + l0 * E) (E * F) := ⟨_, rfl⟩
  rw [← hq] at hay hcx
  clear hq
  obtain ⟨y2, hq⟩ : ∃ p, p = lowN (m1 * F + l1 * E) (E * F) := ⟨_, rfl⟩
  rw [← hq] at hay hcx
  clear hq
  obtain ⟨y3, hq⟩ : ∃ p, p = lowD (m1 * F + l1 * E) (E * F) := ⟨_, rfl⟩
  rw [← hq] at hay hcx
  clear hq
  obtain ⟨y4, hq⟩ : ∃ p, p = lowN (m2 * F + l2 * E) (E * F) := ⟨_, rfl⟩
  rw [← hq] at hay hcx
  clear hq
  obtain ⟨y5, hq⟩ : ∃ p, p = lowD (m2 * F + l2 * E) (E * F) := ⟨_, rfl⟩
  rw [← hq] at hay hcx
  clear hq
  have heq1 := fun W => neq_size W s0 s1 s2 s3 s4 s5 s0 s1 s2 s3 s4 s5
  have heq2 := fun W => neq_size W a0 a1 a2 a3 a4 a5 a0 a1 a2 a3 a4 a5
  simp only [szB_self, Bool.not_true] at heq1 heq2
  have HEQ1 := Lib.hid heq1
  have HEQ2 := Lib.hid heq2
  have HMP := Lib.hid hmp
  have HMQ := Lib.hid hmq
  have HMR := Lib.hid hmr
  have HAD := Lib.hid had
  have HDA := Lib.hid hda
  have HBK := Lib.hid hbk
  have HDF := Lib.hid hdf
  have HCP := Lib.hid hcp
  have HSG := Lib.hid hsg
  have HAX := Lib.hid hax
  have HAY := Lib.hid hay
  have HCX := Lib.hid hcx
  have HT := Lib.hid ht
  have hM0 : Hp w [(w.heap.size, 55, [.int .i8 n0, .int .i8 n1, .int .i8 n2, .int .u8 dp]), (w.heap.size + 1, 55, [.int .i8 m0, .int .i8 m1, .int .i8 m2, .int .u8 dq]), (w.heap.size + 2, 55, [.int .i8 l0, .int .i8 l1, .int .i8 l2, .int .u8 dr])] (((w.alloc (.cells #[.int .i8 n0, .int .i8 n1, .int .i8 n2, .int .u8 dp] 55)).alloc (.cells #[.int .i8 m0, .int .i8 m1, .int .i8 m2, .int .u8 dq] 55)).alloc (.cells #[.int .i8 l0, .int .i8 l1, .int .i8 l2, .int .u8 dr] 55)) := by
    have h := (((Hp.start w).new 55 [.int .i8 n0, .int .i8 n1, .int .i8 n2, .int .u8 dp]).new 55 [.int .i8 m0, .int .i8 m1, .int .i8 m2, .int .u8 dq]).new 55 [.int .i8 l0, .int .i8 l1, .int .i8 l2, .int .u8 dr]
    simp only [World.size_alloc] at h
    exact h
  have HM0 := Lib.hid hM0
  clear ht heq1 heq2 hmp hmq hmr had hda hbk hdf hcp hsg hax hay hcx hM0
  go_enter Tryd.func7, Tryd.ntmps7
  go_wp2_with fail
  refine (lknown_any _ (HT.out.below HM0.out.below)).mono ?_
  rintro e w1 ⟨rfl, hb⟩
  have HM1 := Lib.hid (HM0.out.step hb)
  clear hb HM0
  go_upto_region 3 with fail
  refine wp_regionI 12 #[false, false, false, false, false, false, false, false, false, false, false, false] (fun l a W => GrRel w n0 n1 n2 dp m0 m1 m2 dq l0 l1 l2 dr [.int .i64 a0, .int .i64 a1, .int .i64 a2, .int .i64 a3, .int .i64 a4, .int .i64 a5] [.int .i64 b0, .int .i64 b1, .int .i64 b2, .int .i64 b3, .int .i64 b4, .int .i64 b5] [.int .i64 c0, .int .i64 c1, .int .i64 c2, .int .i64 c3, .int .i64 c4, .int .i64 c5] (szv a0 a1 a2 a3 a4 a5) (szv b0 b1 b2 b3 b4 b5) (szv c0 c1 c2 c3 c4 c5) l a W) (by kernel_rfl) (by kernel_rfl) (by kernel_rfl) (by kernel_rfl) ?_ ?_ ?_ ?_
  · rintro l a W ⟨u0, u1, u2, u3, u4, u5, u6, u7, u8, u9, u10, u11, g7, g8, g9, rfl, _⟩
    rfl
  · exact ⟨false, false, false, false, false, false, false, false, false, false, false, false, 0, 0, 0, rfl, rfl, fun h => h, fun h => h, fun h => h, HM1.out.drew⟩
  · clear HM1
    rintro l a W i o ⟨u0, u1, u2, u3, u4, u5, u6, u7, u8, u9, u10, u11, g7, g8, g9, rfl, rfl, i9, i10, i11, hm⟩ ho hun hall K hK
    have hi : i < 12 := (Array.getElem?_eq_some_iff.1 ho).1
    have HM := Lib.hid hm
    have HI := Lib.hid (show (u9 = true → u6 = true) ∧ (u10 = true → u7 = true) ∧ (u11 = true → u8 = true) from ⟨i9, i10, i11⟩)
    clear hm i9 i10 i11
    rcases (show i = 0 ∨ i = 1 ∨ i = 2 ∨ i = 3 ∨ i = 4 ∨ i = 5 ∨ i = 6 ∨ i = 7 ∨ i = 8 ∨ i = 9 ∨ i = 10 ∨ i = 11 by omega) with rfl | rfl | rfl | rfl | rfl | rfl | rfl | rfl | rfl | rfl | rfl | rfl
    · obtain rfl := Option.some.inj (show some _ = some o from ho)
      clear hall hun hi ho
      obtain ⟨z0, z1, z2, z3⟩ := four_of' (HM.out.at_ 0 rfl)
      unfold grF
      go_simp
      exact hK.out _ _ ⟨true, u1, u2, u3, u4, u5, u6, u7, u8, u9, u10, u11, g7, g8, g9, rfl, rfl, HI.out.1, HI.out.2.1, HI.out.2.2, HM.out⟩
    · obtain rfl := Option.some.inj (show some _ = some o from ho)
      obtain rfl : u0 = true := getB hall 0 rfl
      clear hall hun hi ho
      unfold grF
      go_simp
      refine (HMP.out _).mono ?_
      rintro e W' ⟨rfl, hb⟩
      exact hK.out _ _ ⟨true, true, u2, u3, u4, u5, u6, u7, u8, u9, u10, u11, g7, g8, g9, rfl, rfl, HI.out.1, HI.out.2.1, HI.out.2.2, HM.out.step hb⟩
    · obtain rfl := Option.some.inj (show some _ = some o from ho)
      clear hall hun hi ho
      obtain ⟨z0, z1, z2, z3⟩ := four_of' (HM.out.at_ 1 rfl)
      unfold grF
      go_simp
      exact hK.out _ _ ⟨u0, u1, true, u3, u4, u5, u6, u7, u8, u9, u10, u11, g7, g8, g9, rfl, rfl, HI.out.1, HI.out.2.1, HI.out.2.2, HM.out⟩
    · obtain rfl := Option.some.inj (show some _ = some o from ho)
      obtain rfl : u2 = true := getB hall 2 rfl
      clear hall hun hi ho
      unfold grF
      go_simp
      refine (HMQ.out _).mono ?_
      rintro e W' ⟨rfl, hb⟩
      exact hK.out _ _ ⟨u0, u1, true, true, u4, u5, u6, u7, u8, u9, u10, u11, g7, g8, g9, rfl, rfl, HI.out.1, HI.out.2.1, HI.out.2.2, HM.out.step hb⟩
    · obtain rfl := Option.some.inj (show some _ = some o from ho)
      clear hall hun hi ho
      obtain ⟨z0, z1, z2, z3⟩ := four_of' (HM.out.at_ 2 rfl)
      unfold grF
      go_simp
      exact hK.out _ _ ⟨u0, u1, u2, u3, true, u5, u6, u7, u8, u9, u10, u11, g7, g8, g9, rfl, rfl, HI.out.1, HI.out.2.1, HI.out.2.2, HM.out⟩
    · obtain rfl := Option.some.inj (show some _ = some o from ho)
      obtain rfl : u4 = true := getB hall 4 rfl
      clear hall hun hi ho
      unfold grF
      go_simp
      refine (HMR.out _).mono ?_
      rintro e W' ⟨rfl, hb⟩
      exact hK.out _ _ ⟨u0, u1, u2, u3, true, true, u6, u7, u8, u9, u10, u11, g7, g8, g9, rfl, rfl, HI.out.1, HI.out.2.1, HI.out.2.2, HM.out.step hb⟩
    · obtain rfl := Option.some.inj (show some _ = some o from ho)
      obtain rfl : u6 = false := by simpa using hun
      clear hall hun hi ho
      obtain rfl : u9 = false := by
        have := HI.out.1
        cases u9
        · rfl
        · exact absurd (this rfl) (by simp)
      have hm : Hp w ((([(w.heap.size, 55, [.int .i8 n0, .int .i8 n1, .int .i8 n2, .int .u8 dp]), (w.heap.size + 1, 55, [.int .i8 m0, .int .i8 m1, .int .i8 m2, .int .u8 dq]), (w.heap.size + 2, 55, [.int .i8 l0, .int .i8 l1, .int .i8 l2, .int .u8 dr])] ++ [(W.heap.size, 28, [.int .i64 0, .int .i64 0, .int .i64 0, .int .i64 0, .int .i64 0, .int .i64 0])]) ++ cl u7 (g8, 28, bif u10 then [.int .i64 b0, .int .i64 b1, .int .i64 b2, .int .i64 b3, .int .i64 b4, .int .i64 b5] else [.int .i64 0, .int .i64 0, .int .i64 0, .int .i64 0, .int .i64 0, .int .i64 0])) ++ cl u8 (g9, 28, bif u11 then [.int .i64 c0, .int .i64 c1, .int .i64 c2, .int .i64 c3, .int .i64 c4, .int .i64 c5] else [.int .i64 0, .int .i64 0, .int .i64 0, .int .i64 0, .int .i64 0, .int .i64 0])) (W.alloc (.cells #[.int .i64 0, .int .i64 0, .int .i64 0, .int .i64 0, .int .i64 0, .int .i64 0] 28)) := by
        have h := HM.out
        simp only [cl, cond_false, List.append_nil, List.append_assoc] at h ⊢
        exact h.ins 28 [.int .i64 0, .int .i64 0, .int .i64 0, .int .i64 0, .int .i64 0, .int .i64 0]
      have HN := Lib.hid hm
      clear hm
      unfold grF
      go_simp
      exact hK.out _ _ ⟨u0, u1, u2, u3, u4, u5, true, u7, u8, false, u10, u11, W.heap.size, g8, g9, rfl, rfl, fun _ => rfl, HI.out.2.1, HI.out.2.2, HN.out⟩
    · obtain rfl := Option.some.inj (show some _ = some o from ho)
      obtain rfl : u7 = false := by simpa using hun
      clear hall hun hi ho
      obtain rfl : u10 = false := by
        have := HI.out.2.1
        cases u10
        · rfl
        · exact absurd (this rfl) (by simp)
      have hm : Hp w ((([(w.heap.size, 55, [.int .i8 n0, .int .i8 n1, .int .i8 n2, .int .u8 dp]), (w.heap.size + 1, 55, [.int .i8 m0, .int .i8 m1, .int .i8 m2, .int .u8 dq]), (w.heap.size + 2, 55, [.int .i8 l0, .int .i8 l1, .int .i8 l2, .int .u8 dr])] ++ cl u6 (g7, 28, bif u9 then [.int .i64 a0, .int .i64 a1, .int .i64 a2, .int .i64 a3, .int .i64 a4, .int .i64 a5] else [.int .i64 0, .int .i64 0, .int .i64 0, .int .i64 0, .int .i64 0, .int .i64 0])) ++ [(W.heap.size, 28, [.int .i64 0, .int .i64 0, .int .i64 0, .int .i64 0, .int .i64 0, .int .i64 0])]) ++ cl u8 (g9, 28, bif u11 then [.int .i64 c0, .int .i64 c1, .int .i64 c2, .int .i64 c3, .int .i64 c4, .int .i64 c5] else [.int .i64 0, .int .i64 0, .int .i64 0, .int .i64 0, .int .i64 0, .int .i64 0])) (W.alloc (.cells #[.int .i64 0, .int .i64 0, .int .i64 0, .int .i64 0, .int .i64 0, .int .i64 0] 28)) := by
        have h := HM.out
        simp only [cl, cond_false, List.append_nil, List.append_assoc] at h ⊢
        rw [← List.append_assoc] at h ⊢
        exact h.ins 28 [.int .i64 0, .int .i64 0, .int .i64 0, .int .i64 0, .int .i64 0, .int .i64 0]
      have HN := Lib.hid hm
      clear hm
      unfold grF
      go_simp
      exact hK.out _ _ ⟨u0, u1, u2, u3, u4, u5, u6, true, u8, u9, false, u11, g7, W.heap.size, g9, rfl, rfl, HI.out.1, fun _ => rfl, HI.out.2.2, HN.out⟩
    · obtain rfl := Option.some.inj (show some _ = some o from ho)
      obtain rfl : u8 = false := by simpa using hun
      clear hall hun hi ho
      obtain rfl : u11 = false := by
        have := HI.out.2.2
        cases u11
        · rfl
        · exact absurd (this rfl) (by simp)
      have hm : Hp w ((([(w.heap.size, 55, [.int .i8 n0, .int .i8 n1, .int .i8 n2, .int .u8 dp]), (w.heap.size + 1, 55, [.int .i8 m0, .int .i8 m1, .int .i8 m2, .int .u8 dq]), (w.heap.size + 2, 55, [.int .i8 l0, .int .i8 l1, .int .i8 l2, .int .u8 dr])] ++ cl u6 (g7, 28, bif u9 then [.int .i64 a0, .int .i64 a1, .int .i64 a2, .int .i64 a3, .int .i64 a4, .int .i64 a5] else [.int .i64 0, .int .i64 0, .int .i64 0, .int .i64 0, .int .i64 0, .int .i64 0])) ++ cl u7 (g8, 28, bif u10 then [.int .i64 b0, .int .i64 b1, .int .i64 b2, .int .i64 b3, .int .i64 b4, .int .i64 b5] else [.int .i64 0, .int .i64 0, .int .i64 0, .int .i64 0, .int .i64 0, .int .i64 0])) ++ [(W.heap.size, 28, [.int .i64 0, .int .i64 0, .int .i64 0, .int .i64 0, .int .i64 0, .int .i64 0])]) (W.alloc (.cells #[.int .i64 0, .int .i64 0, .int .i64 0, .int .i64 0, .int .i64 0, .int .i64 0] 28)) := by
        have h := HM.out
        simp only [cl, cond_false, List.append_nil, List.append_assoc] at h ⊢
        rw [← List.append_assoc, ← List.append_assoc]
        rw [← List.append_assoc] at h
        exact h.new 28 [.int .i64 0, .int .i64 0, .int .i64 0, .int .i64 0, .int .i64 0, .int .i64 0]
      have HN := Lib.hid hm
      clear hm
      unfold grF
      go_simp
      exact hK.out _ _ ⟨u0, u1, u2, u3, u4, u5, u6, u7, true, u9, u10, false, g7, g8, W.heap.size, rfl, rfl, HI.out.1, HI.out.2.1, fun _ => rfl, HN.out⟩
    · obtain rfl := Option.some.inj (show some _ = some o from ho)
      obtain rfl : u1 = true := getB hall 1 rfl
      obtain rfl : u6 = true := getB hall 6 rfl
      obtain rfl : u7 = true := getB hall 7 rfl
      obtain rfl : u8 = true := getB hall 8 rfl
      have hun' := hun
      clear hall hun hi ho
      have h3 := HM.out.at_ 3 (g := g7) (t := 28) (cs := bif u9 then [.int .i64 a0, .int .i64 a1, .int .i64 a2, .int .i64 a3, .int .i64 a4, .int .i64 a5] else [.int .i64 0, .int .i64 0, .int .i64 0, .int .i64 0, .int .i64 0, .int .i64 0]) rfl
      obtain rfl : u9 = false := by simpa using hun'
      have h3' : Blk W g7 28 [.int .i64 0, .int .i64 0, .int .i64 0, .int .i64 0, .int .i64 0, .int .i64 0] := h3
      obtain ⟨z0, z1, z2, z3, z4, z5⟩ := six_of h3'
      obtain ⟨f0, f1, f2, f3, f4, f5⟩ := six_free h3'
      clear h3 h3'
      have HN := Lib.hid (HM.out.put6 3 (g := g7) (t := 28) (a := (.int .i64 0)) (b := (.int .i64 0)) (c := (.int .i64 0)) (d := (.int .i64 0)) (x := (.int .i64 0)) (y := (.int .i64 0)) rfl (.int .i64 a0) (.int .i64 a1) (.int .i64 a2) (.int .i64 a3) (.int .i64 a4) (.int .i64 a5))
      unfold grF
      go_simp
      exact hK.out _ _ ⟨u0, true, u2, u3, u4, u5, true, true, true, true, u10, u11, g7, g8, g9, rfl, rfl, fun _ => rfl, HI.out.2.1, HI.out.2.2, HN.out⟩
    · obtain rfl := Option.some.inj (show some _ = some o from ho)
      obtain rfl : u3 = true := getB hall 3 rfl
      obtain rfl : u6 = true := getB hall 6 rfl
      obtain rfl : u7 = true := getB hall 7 rfl
      obtain rfl : u8 = true := getB hall 8 rfl
      obtain rfl : u9 = true := getB hall 9 rfl
      have hun' := hun
      clear hall hun hi ho
      have h3 := HM.out.at_ 4 (g := g8) (t := 28) (cs := bif u10 then [.int .i64 b0, .int .i64 b1, .int .i64 b2, .int .i64 b3, .int .i64 b4, .int .i64 b5] else [.int .i64 0, .int .i64 0, .int .i64 0, .int .i64 0, .int .i64 0, .int .i64 0]) rfl
      obtain rfl : u10 = false := by simpa using hun'
      have h3' : Blk W g8 28 [.int .i64 0, .int .i64 0, .int .i64 0, .int .i64 0, .int .i64 0, .int .i64 0] := h3
      obtain ⟨z0, z1, z2, z3, z4, z5⟩ := six_of h3'
      obtain ⟨f0, f1, f2, f3, f4, f5⟩ := six_free h3'
      clear h3 h3'
      have HN := Lib.hid (HM.out.put6 4 (g := g8) (t := 28) (a := (.int .i64 0)) (b := (.int .i64 0)) (c := (.int .i64 0)) (d := (.int .i64 0)) (x := (.int .i64 0)) (y := (.int .i64 0)) rfl (.int .i64 b0) (.int .i64 b1) (.int .i64 b2) (.int .i64 b3) (.int .i64 b4) (.int .i64 b5))
      unfold grF
      go_simp
      exact hK.out _ _ ⟨u0, u1, u2, true, u4, u5, true, true, true, true, true, u11, g7, g8, g9, rfl, rfl, HI.out.1, fun _ => rfl, HI.out.2.2, HN.out⟩
    · obtain rfl := Option.some.inj (show some _ = some o from ho)
      obtain rfl : u5 = true := getB hall 5 rfl
      obtain rfl : u6 = true := getB hall 6 rfl
      obtain rfl : u7 = true := getB hall 7 rfl
      obtain rfl : u8 = true := getB hall 8 rfl
      obtain rfl : u9 = true := getB hall 9 rfl
      obtain rfl : u10 = true := getB hall 10 rfl
      have hun' := hun
      clear hall hun hi ho
      have h3 := HM.out.at_ 5 (g := g9) (t := 28) (cs := bif u11 then [.int .i64 c0, .int .i64 c1, .int .i64 c2, .int .i64 c3, .int .i64 c4, .int .i64 c5] else [.int .i64 0, .int .i64 0, .int .i64 0, .int .i64 0, .int .i64 0, .int .i64 0]) rfl
      obtain rfl : u11 = false := by simpa using hun'
      have h3' : Blk W g9 28 [.int .i64 0, .int .i64 0, .int .i64 0, .int .i64 0, .int .i64 0, .int .i64 0] := h3
      obtain ⟨z0, z1, z2, z3, z4, z5⟩ := six_of h3'
      obtain ⟨f0, f1, f2, f3, f4, f5⟩ := six_free h3'
      clear h3 h3'
      have HN := Lib.hid (HM.out.put6 5 (g := g9) (t := 28) (a := (.int .i64 0)) (b := (.int .i64 0)) (c := (.int .i64 0)) (d := (.int .i64 0)) (x := (.int .i64 0)) (y := (.int .i64 0)) rfl (.int .i64 c0) (.int .i64 c1) (.int .i64 c2) (.int .i64 c3) (.int .i64 c4) (.int .i64 c5))
      unfold grF
      go_simp
      exact hK.out _ _ ⟨u0, u1, u2, u3, u4, true, true, true, true, true, true, true, g7, g8, g9, rfl, rfl, HI.out.1, HI.out.2.1, fun _ => rfl, HN.out⟩
  · clear HM1
    rintro l a W ⟨u0, u1, u2, u3, u4, u5, u6, u7, u8, u9, u10, u11, g7, g8, g9, rfl, rfl, _, _, _, hm⟩ hall
    obtain rfl : u0 = true := hall 0 (by decide)
    obtain rfl : u1 = true := hall 1 (by decide)
    obtain rfl : u2 = true := hall 2 (by decide)
    obtain rfl : u3 = true := hall 3 (by decide)
    obtain rfl : u4 = true := hall 4 (by decide)
    obtain rfl : u5 = true := hall 5 (by decide)
    obtain rfl : u6 = true := hall 6 (by decide)
    obtain rfl : u7 = true := hall 7 (by decide)
    obtain rfl : u8 = true := hall 8 (by decide)
    obtain rfl : u9 = true := hall 9 (by decide)
    obtain rfl : u10 = true := hall 10 (by decide)
    obtain rfl : u11 = true := hall 11 (by decide)
    clear hall
    have HM2 := Lib.hid (show Hp w [(w.heap.size, 55, [.int .i8 n0, .int .i8 n1, .int .i8 n2, .int .u8 dp]), (w.heap.size + 1, 55, [.int .i8 m0, .int .i8 m1, .int .i8 m2, .int .u8 dq]), (w.heap.size + 2, 55, [.int .i8 l0, .int .i8 l1, .int .i8 l2, .int .u8 dr]), (g7, 28, [.int .i64 a0, .int .i64 a1, .int .i64 a2, .int .i64 a3, .int .i64 a4, .int .i64 a5]), (g8, 28, [.int .i64 b0, .int .i64 b1, .int .i64 b2, .int .i64 b3, .int .i64 b4, .int .i64 b5]), (g9, 28, [.int .i64 c0, .int .i64 c1, .int .i64 c2, .int .i64 c3, .int .i64 c4, .int .i64 c5])] W from hm)
    clear hm
    unfold grF
    dsimp only [cv, cond_true]
    obtain ⟨k93_0, k93_1, k93_2, k93_3, k93_4, k93_5⟩ := six_of (HM2.out.at_ 3 rfl)
    obtain ⟨k94_0, k94_1, k94_2, k94_3, k94_4, k94_5⟩ := six_of (HM2.out.at_ 4 rfl)
    go_wp2_with fail
    refine (HAD.out _).mono ?_
    rintro e w3 ⟨rfl, hb⟩
    obtain ⟨k0_0, k0_1, k0_2, k0_3, k0_4, k0_5⟩ := six_of ((HM2.out.step hb).at_ 3 rfl)
    have lt1 := ((HM2.out.step hb).at_ 3 rfl).lt
    obtain ⟨k1_0, k1_1, k1_2, k1_3, k1_4, k1_5⟩ := six_of ((HM2.out.step hb).at_ 4 rfl)
    have lt2 := ((HM2.out.step hb).at_ 4 rfl).lt
    have HM3 := Lib.hid (show Hp w [(w.heap.size, 55, [.int .i8 n0, .int .i8 n1, .int .i8 n2, .int .u8 dp]), (w.heap.size + 1, 55, [.int .i8 m0, .int .i8 m1, .int .i8 m2, .int .u8 dq]), (w.heap.size + 2, 55, [.int .i8 l0, .int .i8 l1, .int .i8 l2, .int .u8 dr]), (g7, 28, [.int .i64 a0, .int .i64 a1, .int .i64 a2, .int .i64 a3, .int .i64 a4, .int .i64 a5]), (g8, 28, [.int .i64 b0, .int .i64 b1, .int .i64 b2, .int .i64 b3, .int .i64 b4, .int .i64 b5]), (g9, 28, [.int .i64 c0, .int .i64 c1, .int .i64 c2, .int .i64 c3, .int .i64 c4, .int .i64 c5]), (w3.heap.size, 28, [.int .i64 s0, .int .i64 s1, .int .i64 s2, .int .i64 s3, .int .i64 s4, .int .i64 s5])] _ from (HM2.out.step hb).new 28 [.int .i64 s0, .int .i64 s1, .int .i64 s2, .int .i64 s3, .int .i64 s4, .int .i64 s5])
    clear hb HM2 k93_0 k93_1 k93_2 k93_3 k93_4 k93_5 k94_0 k94_1 k94_2 k94_3 k94_4 k94_5
    go_wp2_with fail
    refine (HDA.out _).mono ?_
    rintro e w4 ⟨rfl, hb⟩
    obtain ⟨k2_0, k2_1, k2_2, k2_3, k2_4, k2_5⟩ := six_of ((HM3.out.step hb).at_ 4 rfl)
    have lt3 := ((HM3.out.step hb).at_ 4 rfl).lt
    obtain ⟨k3_0, k3_1, k3_2, k3_3, k3_4, k3_5⟩ := six_of ((HM3.out.step hb).at_ 6 rfl)
    have lt4 := ((HM3.out.step hb).at_ 6 rfl).lt
    have HM4 := Lib.hid (show Hp w [(w.heap.size, 55, [.int .i8 n0, .int .i8 n1, .int .i8 n2, .int .u8 dp]), (w.heap.size + 1, 55, [.int .i8 m0, .int .i8 m1, .int .i8 m2, .int .u8 dq]), (w.heap.size + 2, 55, [.int .i8 l0, .int .i8 l1, .int .i8 l2, .int .u8 dr]), (g7, 28, [.int .i64 a0, .int .i64 a1, .int .i64 a2, .int .i64 a3, .int .i64 a4, .int .i64 a5]), (g8, 28, [.int .i64 b0, .int .i64 b1, .int .i64 b2, .int .i64 b3, .int .i64 b4, .int .i64 b5]), (g9, 28, [.int .i64 c0, .int .i64 c1, .int .i64 c2, .int .i64 c3, .int .i64 c4, .int .i64 c5]), (w3.heap.size, 28, [.int .i64 s0, .int .i64 s1, .int .i64 s2, .int .i64 s3, .int .i64 s4, .int .i64 s5]), (w4.heap.size, 28, [.int .i64 s0, .int .i64 s1, .int .i64 s2, .int .i64 s3, .int .i64 s4, .int .i64 s5])] _ from (HM3.out.step hb).new 28 [.int .i64 s0, .int .i64 s1, .int .i64 s2, .int .i64 s3, .int .i64 s4, .int .i64 s5])
    clear hb HM3 k0_0 k0_1 k0_2 k0_3 k0_4 k0_5 lt1 k1_0 k1_1 k1_2 k1_3 k1_4 k1_5 lt2
    go_wp2_with fail
    refine (HBK.out _).mono ?_
    rintro e w5 ⟨rfl, hb⟩
    obtain ⟨k4_0, k4_1, k4_2, k4_3, k4_4, k4_5⟩ := six_of ((HM4.out.step hb).at_ 3 rfl)
    have lt5 := ((HM4.out.step hb).at_ 3 rfl).lt
    obtain ⟨k5_0, k5_1, k5_2, k5_3, k5_4, k5_5⟩ := six_of ((HM4.out.step hb).at_ 4 rfl)
    have lt6 := ((HM4.out.step hb).at_ 4 rfl).lt
    have HM5 := Lib.hid (show Hp w [(w.heap.size, 55, [.int .i8 n0, .int .i8 n1, .int .i8 n2, .int .u8 dp]), (w.heap.size + 1, 55, [.int .i8 m0, .int .i8 m1, .int .i8 m2, .int .u8 dq]), (w.heap.size + 2, 55, [.int .i8 l0, .int .i8 l1, .int .i8 l2, .int .u8 dr]), (g7, 28, [.int .i64 a0, .int .i64 a1, .int .i64 a2, .int .i64 a3, .int .i64 a4, .int .i64 a5]), (g8, 28, [.int .i64 b0, .int .i64 b1, .int .i64 b2, .int .i64 b3, .int .i64 b4, .int .i64 b5]), (g9, 28, [.int .i64 c0, .int .i64 c1, .int .i64 c2, .int .i64 c3, .int .i64 c4, .int .i64 c5]), (w3.heap.size, 28, [.int .i64 s0, .int .i64 s1, .int .i64 s2, .int .i64 s3, .int .i64 s4, .int .i64 s5]), (w4.heap.size, 28, [.int .i64 s0, .int .i64 s1, .int .i64 s2, .int .i64 s3, .int .i64 s4, .int .i64 s5]), (w5.heap.size, 28, [.int .i64 a0, .int .i64 a1, .int .i64 a2, .int .i64 a3, .int .i64 a4, .int .i64 a5])] _ from (HM4.out.step hb).new 28 [.int .i64 a0, .int .i64 a1, .int .i64 a2, .int .i64 a3, .int .i64 a4, .int .i64 a5])
    clear hb HM4 k2_0 k2_1 k2_2 k2_3 k2_4 k2_5 lt3 k3_0 k3_1 k3_2 k3_3 k3_4 k3_5 lt4
    go_wp2_with fail
    refine (HDF.out _).mono ?_
    rintro e w6 ⟨rfl, hb⟩
    obtain ⟨k6_0, k6_1, k6_2, k6_3, k6_4, k6_5⟩ := six_of ((HM5.out.step hb).at_ 3 rfl)
    have lt7 := ((HM5.out.step hb).at_ 3 rfl).lt
    obtain ⟨k7_0, k7_1, k7_2, k7_3, k7_4, k7_5⟩ := six_of ((HM5.out.step hb).at_ 4 rfl)
    have lt8 := ((HM5.out.step hb).at_ 4 rfl).lt
    have HM6 := Lib.hid (show Hp w [(w.heap.size, 55, [.int .i8 n0, .int .i8 n1, .int .i8 n2, .int .u8 dp]), (w.heap.size + 1, 55, [.int .i8 m0, .int .i8 m1, .int .i8 m2, .int .u8 dq]), (w.heap.size + 2, 55, [.int .i8 l0, .int .i8 l1, .int .i8 l2, .int .u8 dr]), (g7, 28, [.int .i64 a0, .int .i64 a1, .int .i64 a2, .int .i64 a3, .int .i64 a4, .int .i64 a5]), (g8, 28, [.int .i64 b0, .int .i64 b1, .int .i64 b2, .int .i64 b3, .int .i64 b4, .int .i64 b5]), (g9, 28, [.int .i64 c0, .int .i64 c1, .int .i64 c2, .int .i64 c3, .int .i64 c4, .int .i64 c5]), (w3.heap.size, 28, [.int .i64 s0, .int .i64 s1, .int .i64 s2, .int .i64 s3, .int .i64 s4, .int .i64 s5]), (w4.heap.size, 28, [.int .i64 s0, .int .i64 s1, .int .i64 s2, .int .i64 s3, .int .i64 s4, .int .i64 s5]), (w5.heap.size, 28, [.int .i64 a0, .int .i64 a1, .int .i64 a2, .int .i64 a3, .int .i64 a4, .int .i64 a5]), (w6.heap.size, 28, [.int .i64 d0, .int .i64 d1, .int .i64 d2, .int .i64 d3, .int .i64 d4, .int .i64 d5])] _ from (HM5.out.step hb).new 28 [.int .i64 d0, .int .i64 d1, .int .i64 d2, .int .i64 d3, .int .i64 d4, .int .i64 d5])
    clear hb HM5 k4_0 k4_1 k4_2 k4_3 k4_4 k4_5 lt5 k5_0 k5_1 k5_2 k5_3 k5_4 k5_5 lt6
    go_wp2_with fail
    refine (HCP.out _ (HT.out.below HM6.out.below)).mono ?_
    rintro e w7 ⟨rfl, hb⟩
    have HM7 := Lib.hid (show Hp w [(w.heap.size, 55, [.int .i8 n0, .int .i8 n1, .int .i8 n2, .int .u8 dp]), (w.heap.size + 1, 55, [.int .i8 m0, .int .i8 m1, .int .i8 m2, .int .u8 dq]), (w.heap.size + 2, 55, [.int .i8 l0, .int .i8 l1, .int .i8 l2, .int .u8 dr]), (g7, 28, [.int .i64 a0, .int .i64 a1, .int .i64 a2, .int .i64 a3, .int .i64 a4, .int .i64 a5]), (g8, 28, [.int .i64 b0, .int .i64 b1, .int .i64 b2, .int .i64 b3, .int .i64 b4, .int .i64 b5]), (g9, 28, [.int .i64 c0, .int .i64 c1, .int .i64 c2, .int .i64 c3, .int .i64 c4, .int .i64 c5]), (w3.heap.size, 28, [.int .i64 s0, .int .i64 s1, .int .i64 s2, .int .i64 s3, .int .i64 s4, .int .i64 s5]), (w4.heap.size, 28, [.int .i64 s0, .int .i64 s1, .int .i64 s2, .int .i64 s3, .int .i64 s4, .int .i64 s5]), (w5.heap.size, 28, [.int .i64 a0, .int .i64 a1, .int .i64 a2, .int .i64 a3, .int .i64 a4, .int .i64 a5]), (w6.heap.size, 28, [.int .i64 d0, .int .i64 d1, .int .i64 d2, .int .i64 d3, .int .i64 d4, .int .i64 d5])] _ from (HM6.out.step hb))
    obtain ⟨k8_0, k8_1, k8_2, k8_3, k8_4, k8_5⟩ := six_of (HM7.out.at_ 9 rfl)
    clear hb HM6 k6_0 k6_1 k6_2 k6_3 k6_4 k6_5 lt7 k7_0 k7_1 k7_2 k7_3 k7_4 k7_5 lt8
    go_wp2_with fail
    refine (HSG.out _ (HT.out.below HM7.out.below)).mono ?_
    rintro e w8 ⟨rfl, hb⟩
    have HM8 := Lib.hid (show Hp w [(w.heap.size, 55, [.int .i8 n0, .int .i8 n1, .int .i8 n2, .int .u8 dp]), (w.heap.size + 1, 55, [.int .i8 m0, .int .i8 m1, .int .i8 m2, .int .u8 dq]), (w.heap.size + 2, 55, [.int .i8 l0, .int .i8 l1, .int .i8 l2, .int .u8 dr]), (g7, 28, [.int .i64 a0, .int .i64 a1, .int .i64 a2, .int .i64 a3, .int .i64 a4, .int .i64 a5]), (g8, 28, [.int .i64 b0, .int .i64 b1, .int .i64 b2, .int .i64 b3, .int .i64 b4, .int .i64 b5]), (g9, 28, [.int .i64 c0, .int .i64 c1, .int .i64 c2, .int .i64 c3, .int .i64 c4, .int .i64 c5]), (w3.heap.size, 28, [.int .i64 s0, .int .i64 s1, .int .i64 s2, .int .i64 s3, .int .i64 s4, .int .i64 s5]), (w4.heap.size, 28, [.int .i64 s0, .int .i64 s1, .int .i64 s2, .int .i64 s3, .int .i64 s4, .int .i64 s5]), (w5.heap.size, 28, [.int .i64 a0, .int .i64 a1, .int .i64 a2, .int .i64 a3, .int .i64 a4, .int .i64 a5]), (w6.heap.size, 28, [.int .i64 d0, .int .i64 d1, .int .i64 d2, .int .i64 d3, .int .i64 d4, .int .i64 d5])] _ from (HM7.out.step hb))
    obtain ⟨k9_0, k9_1, k9_2, k9_3, k9_4, k9_5⟩ := six_of (HM8.out.at_ 3 rfl)
    obtain ⟨k10_0, k10_1, k10_2, k10_3, k10_4, k10_5⟩ := six_of (HM8.out.at_ 6 rfl)
    obtain ⟨k11_0, k11_1, k11_2, k11_3, k11_4, k11_5⟩ := six_of (HM8.out.at_ 7 rfl)
    obtain ⟨k12_0, k12_1, k12_2, k12_3, k12_4, k12_5⟩ := six_of (HM8.out.at_ 8 rfl)
    obtain ⟨k13_0, k13_1, k13_2, k13_3, k13_4, k13_5⟩ := six_of (HM8.out.at_ 5 rfl)
    clear hb HM7 k8_0 k8_1 k8_2 k8_3 k8_4 k8_5
    have heq1 := HEQ1.out
    have heq2 := HEQ2.out
    go_wp2_with fail
    clear heq1 heq2
    refine (HAX.out _).mono ?_
    rintro e w9 ⟨rfl, hb⟩
    obtain ⟨k14_0, k14_1, k14_2, k14_3, k14_4, k14_5⟩ := six_of ((HM8.out.step hb).at_ 4 rfl)
    have lt15 := ((HM8.out.step hb).at_ 4 rfl).lt
    obtain ⟨k15_0, k15_1, k15_2, k15_3, k15_4, k15_5⟩ := six_of ((HM8.out.step hb).at_ 5 rfl)
    have lt16 := ((HM8.out.step hb).at_ 5 rfl).lt
    have HM9 := Lib.hid (show Hp w [(w.heap.size, 55, [.int .i8 n0, .int .i8 n1, .int .i8 n2, .int .u8 dp]), (w.heap.size + 1, 55, [.int .i8 m0, .int .i8 m1, .int .i8 m2, .int .u8 dq]), (w.heap.size + 2, 55, [.int .i8 l0, .int .i8 l1, .int .i8 l2, .int .u8 dr]), (g7, 28, [.int .i64 a0, .int .i64 a1, .int .i64 a2, .int .i64 a3, .int .i64 a4, .int .i64 a5]), (g8, 28, [.int .i64 b0, .int .i64 b1, .int .i64 b2, .int .i64 b3, .int .i64 b4, .int .i64 b5]), (g9, 28, [.int .i64 c0, .int .i64 c1, .int .i64 c2, .int .i64 c3, .int .i64 c4, .int .i64 c5]), (w3.heap.size, 28, [.int .i64 s0, .int .i64 s1, .int .i64 s2, .int .i64 s3, .int .i64 s4, .int .i64 s5]), (w4.heap.size, 28, [.int .i64 s0, .int .i64 s1, .int .i64 s2, .int .i64 s3, .int .i64 s4, .int .i64 s5]), (w5.heap.size, 28, [.int .i64 a0, .int .i64 a1, .int .i64 a2, .int .i64 a3, .int .i64 a4, .int .i64 a5]), (w6.heap.size, 28, [.int .i64 d0, .int .i64 d1, .int .i64 d2, .int .i64 d3, .int .i64 d4, .int .i64 d5]), (w9.heap.size, 28, [.int .i64 x0, .int .i64 x1, .int .i64 x2, .int .i64 x3, .int .i64 x4, .int .i64 x5])] _ from (HM8.out.step hb).new 28 [.int .i64 x0, .int .i64 x1, .int .i64 x2, .int .i64 x3, .int .i64 x4, .int .i64 x5])
    clear hb HM8 k9_0 k9_1 k9_2 k9_3 k9_4 k9_5 k10_0 k10_1 k10_2 k10_3 k10_4 k10_5 k11_0 k11_1 k11_2 k11_3 k11_4 k11_5 k12_0 k12_1 k12_2 k12_3 k12_4 k12_5 k13_0 k13_1 k13_2 k13_3 k13_4 k13_5
    go_wp2_with fail
    refine (HAY.out _).mono ?_
    rintro e w10 ⟨rfl, hb⟩
    obtain ⟨k16_0, k16_1, k16_2, k16_3, k16_4, k16_5⟩ := six_of ((HM9.out.step hb).at_ 10 rfl)
    have lt17 := ((HM9.out.step hb).at_ 10 rfl).lt
    have HM10 := Lib.hid (show Hp w [(w.heap.size, 55, [.int .i8 n0, .int .i8 n1, .int .i8 n2, .int .u8 dp]), (w.heap.size + 1, 55, [.int .i8 m0, .int .i8 m1, .int .i8 m2, .int .u8 dq]), (w.heap.size + 2, 55, [.int .i8 l0, .int .i8 l1, .int .i8 l2, .int .u8 dr]), (g7, 28, [.int .i64 a0, .int .i64 a1, .int .i64 a2, .int .i64 a3, .int .i64 a4, .int .i64 a5]), (g8, 28, [.int .i64 b0, .int .i64 b1, .int .i64 b2, .int .i64 b3, .int .i64 b4, .int .i64 b5]), (g9, 28, [.int .i64 c0, .int .i64 c1, .int .i64 c2, .int .i64 c3, .int .i64 c4, .int .i64 c5]), (w3.heap.size, 28, [.int .i64 s0, .int .i64 s1, .int .i64 s2, .int .i64 s3, .int .i64 s4, .int .i64 s5]), (w4.heap.size, 28, [.int .i64 s0, .int .i64 s1, .int .i64 s2, .int .i64 s3, .int .i64 s4, .int .i64 s5]), (w5.heap.size, 28, [.int .i64 a0, .int .i64 a1, .int .i64 a2, .int .i64 a3, .int .i64 a4, .int .i64 a5]), (w6.heap.size, 28, [.int .i64 d0, .int .i64 d1, .int .i64 d2, .int .i64 d3, .int .i64 d4, .int .i64 d5]), (w9.heap.size, 28, [.int .i64 x0, .int .i64 x1, .int .i64 x2, .int .i64 x3, .int .i64 x4, .int .i64 x5]), (w10.heap.size, 28, [.int .i64 y0, .int .i64 y1, .int .i64 y2, .int .i64 y3, .int .i64 y4, .int .i64 y5])] _ from (HM9.out.step hb).new 28 [.int .i64 y0, .int .i64 y1, .int .i64 y2, .int .i64 y3, .int .i64 y4, .int .i64 y5])
    clear hb HM9 k14_0 k14_1 k14_2 k14_3 k14_4 k14_5 lt15 k15_0 k15_1 k15_2 k15_3 k15_4 k15_5 lt16
    go_wp2_with fail
    refine (HCX.out _ (HT.out.below HM10.out.below)).mono ?_
    rintro e w11 ⟨rfl, hb⟩
    have HM11 := Lib.hid (show Hp w [(w.heap.size, 55, [.int .i8 n0, .int .i8 n1, .int .i8 n2, .int .u8 dp]), (w.heap.size + 1, 55, [.int .i8 m0, .int .i8 m1, .int .i8 m2, .int .u8 dq]), (w.heap.size + 2, 55, [.int .i8 l0, .int .i8 l1, .int .i8 l2, .int .u8 dr]), (g7, 28, [.int .i64 a0, .int .i64 a1, .int .i64 a2, .int .i64 a3, .int .i64 a4, .int .i64 a5]), (g8, 28, [.int .i64 b0, .int .i64 b1, .int .i64 b2, .int .i64 b3, .int .i64 b4, .int .i64 b5]), (g9, 28, [.int .i64 c0, .int .i64 c1, .int .i64 c2, .int .i64 c3, .int .i64 c4, .int .i64 c5]), (w3.heap.size, 28, [.int .i64 s0, .int .i64 s1, .int .i64 s2, .int .i64 s3, .int .i64 s4, .int .i64 s5]), (w4.heap.size, 28, [.int .i64 s0, .int .i64 s1, .int .i64 s2, .int .i64 s3, .int .i64 s4, .int .i64 s5]), (w5.heap.size, 28, [.int .i64 a0, .int .i64 a1, .int .i64 a2, .int .i64 a3, .int .i64 a4, .int .i64 a5]), (w6.heap.size, 28, [.int .i64 d0, .int .i64 d1, .int .i64 d2, .int .i64 d3, .int .i64 d4, .int .i64 d5]), (w9.heap.size, 28, [.int .i64 x0, .int .i64 x1, .int .i64 x2, .int .i64 x3, .int .i64 x4, .int .i64 x5]), (w10.heap.size, 28, [.int .i64 y0, .int .i64 y1, .int .i64 y2, .int .i64 y3, .int .i64 y4, .int .i64 y5])] _ from (HM10.out.step hb))
    clear hb HM10 k16_0 k16_1 k16_2 k16_3 k16_4 k16_5 lt17
    go_wp2
    go_ret
    exact ⟨rfl, HM11.out.below⟩
end Go.Proofs.YtplonkeipdbchaaDoor
