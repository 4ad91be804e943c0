/- Package interval: Compare, out of what sign returns for the reduced difference. Conditions: both sizes are right; the library's table of powers of ten reads as its text lays it. -/
import Derived.Test.YtplonkeipdbchaaGreatDoorIvOver
import Derived.Test.YtplonkeipdbchaaGreatDoorRegE
namespace Go.Proofs.YtplonkeipdbchaaGreatDoor
open Go.RowKit

/-- The factors that bring two denominators together. -/
theorem lcm_parts {c d : Int} (hc : 1 ≤ c ∧ c ≤ 240) (hd : 1 ≤ d ∧ d ≤ 240) : ∃ g p q : Int, g = (Nat.gcd c.natAbs d.natAbs : Int) ∧ 0 < g ∧ c / g = q ∧ q * d = lcmA c d ∧ lcmA c d = c * p ∧ lcmA c d = d * q ∧ (1 ≤ p ∧ p ≤ 240) ∧ (1 ≤ q ∧ q ≤ 240) ∧ p = d / g ∧ lcmA c d ≤ 57600 := by
  obtain ⟨⟨hg0, hg1⟩, ⟨hq0, hq1⟩, hl0, hl1⟩ := lcmA_bd hc hd
  have h1 : ((Nat.gcd c.natAbs d.natAbs : Nat) : Int) ∣ c := by rw [← Int.dvd_natAbs]; exact Int.natCast_dvd_natCast.2 (Nat.gcd_dvd_left _ _)
  have h2 : ((Nat.gcd c.natAbs d.natAbs : Nat) : Int) ∣ d := by rw [← Int.dvd_natAbs]; exact Int.natCast_dvd_natCast.2 (Nat.gcd_dvd_right _ _)
  obtain ⟨g, hg⟩ : ∃ g : Int, g = (Nat.gcd c.natAbs d.natAbs : Int) := ⟨_, rfl⟩
  have hl : lcmA c d = c / g * d := by rw [hg]; rfl
  rw [← hg] at hq0 hq1 h1 h2
  have hgp : 0 < g := by omega
  obtain ⟨a, ha⟩ := h1
  obtain ⟨b, hb⟩ := h2
  have ea : c / g = a := by rw [ha]; exact Int.mul_ediv_cancel_left _ (by omega)
  have eb : d / g = b := by rw [hb]; exact Int.mul_ediv_cancel_left _ (by omega)
  have hb1 : 1 ≤ b := by
    rcases Int.lt_or_le b 1 with h | h
    · have h3 := Int.mul_le_mul_of_nonneg_left (show b ≤ 0 by omega) (Int.le_of_lt hgp)
      omega
    · exact h
  have hb2 : b ≤ 240 := by rw [← eb]; exact Int.le_trans (Int.ediv_le_self _ (by omega)) hd.2
  refine ⟨g, b, a, hg, hgp, ea, by rw [hl, ea], ?_, by rw [hl, ea, Int.mul_comm], ⟨hb1, hb2⟩, ⟨by rw [← ea]; exact hq0, by rw [← ea]; exact hq1⟩, eb.symm, hl1⟩
  rw [hl, ea]
  conv => lhs; rw [hb]
  conv => rhs; rw [ha]
  rw [Int.mul_comm g a, Int.mul_assoc]

/-- Exponents without their greatest common divisor. -/
def redV (a b c : Int) : Int × Int × Int :=
  if 1 < Nat.gcd (Nat.gcd a.natAbs b.natAbs) c.natAbs then (a.tdiv (Nat.gcd (Nat.gcd a.natAbs b.natAbs) c.natAbs : Int), b.tdiv (Nat.gcd (Nat.gcd a.natAbs b.natAbs) c.natAbs : Int), c.tdiv (Nat.gcd (Nat.gcd a.natAbs b.natAbs) c.natAbs : Int)) else (a, b, c)
theorem tdiv_wrap {a g : Int} (ha : -4000000 ≤ a ∧ a ≤ 4000000) (_hg : 1 < g) : IntKind.i64.wrap (a.tdiv g) = a.tdiv g ∧ -4000000 ≤ a.tdiv g ∧ a.tdiv g ≤ 4000000 := by
  have h : (a.tdiv g).natAbs ≤ a.natAbs := by rw [Int.natAbs_tdiv]; exact Nat.div_le_self _ _
  exact ⟨IntWalk.i64_in _ (by omega), by omega, by omega⟩
/-- What Compare carries first: the two boxes. -/
def CmMem (w : World) (a b : List Int) (W : World) : Prop :=
  Blk W w.heap.size 25 (a.map fun x => .int .i64 x) ∧ Blk W (w.heap.size + 1) 25 (b.map fun x => .int .i64 x) ∧ Tab W ∧ Below w.heap.size w W
theorem CmMem.below {w W W' : World} {a b : List Int} (h : CmMem w a b W) (hb : Below W.heap.size W W') : CmMem w a b W' := ⟨h.1.below hb h.1.lt, h.2.1.below hb h.2.1.lt, h.2.2.1.below hb, h.2.2.2.trans (hb.mono h.2.2.2.size)⟩
/-- Behind the region: the two vectors in blocks of their own. -/
def CvMem (w : World) (g h : Nat) (x y z u v t : Int) (W : World) : Prop :=
  Blk W g 26 [.int .i64 x, .int .i64 y, .int .i64 z] ∧ Blk W h 26 [.int .i64 u, .int .i64 v, .int .i64 t] ∧ g ≠ h ∧ (w.heap.size ≤ g ∧ w.heap.size ≤ h) ∧ Tab w ∧ Below w.heap.size w W

def CvRel (w : World) (x y z u v t : Int) (s14 s15 : Value) (W : World) : Prop := ∃ g h, s14 = .pointer (some ⟨g, 0, none⟩) ∧ s15 = .pointer (some ⟨h, 0, none⟩) ∧ CvMem w g h x y z u v t W
def CmHeld (w : World) (a0 b0 a1 b1 a2 b2 c0 d0 c1 d1 c2 d2 : Int) (w' : World) : Prop := w'.cell? ⟨w.heap.size, 0, none⟩ = some (.int .i64 a0) ∧ w'.cell? ⟨w.heap.size, 1, none⟩ = some (.int .i64 b0) ∧ w'.cell? ⟨w.heap.size, 2, none⟩ = some (.int .i64 a1) ∧ w'.cell? ⟨w.heap.size, 3, none⟩ = some (.int .i64 b1) ∧ w'.cell? ⟨w.heap.size, 4, none⟩ = some (.int .i64 a2) ∧ w'.cell? ⟨w.heap.size, 5, none⟩ = some (.int .i64 b2) ∧ w'.cell? ⟨w.heap.size + 1, 0, none⟩ = some (.int .i64 c0) ∧ w'.cell? ⟨w.heap.size + 1, 1, none⟩ = some (.int .i64 d0) ∧ w'.cell? ⟨w.heap.size + 1, 2, none⟩ = some (.int .i64 c1) ∧ w'.cell? ⟨w.heap.size + 1, 3, none⟩ = some (.int .i64 d1) ∧ w'.cell? ⟨w.heap.size + 1, 4, none⟩ = some (.int .i64 c2) ∧ w'.cell? ⟨w.heap.size + 1, 5, none⟩ = some (.int .i64 d2) ∧ CmMem w [a0, b0, a1, b1, a2, b2] [c0, d0, c1, d1, c2, d2] w'
section
variable {w W W' : World} {a0 b0 a1 b1 a2 b2 c0 d0 c1 d1 c2 d2 : Int}
theorem CmHeld.of (h : CmMem w [a0, b0, a1, b1, a2, b2] [c0, d0, c1, d1, c2, d2] W) : CmHeld w a0 b0 a1 b1 a2 b2 c0 d0 c1 d1 c2 d2 W :=
  ⟨h.1.cell 0, h.1.cell 1, h.1.cell 2, h.1.cell 3, h.1.cell 4, h.1.cell 5, h.2.1.cell 0, h.2.1.cell 1, h.2.1.cell 2, h.2.1.cell 3, h.2.1.cell 4, h.2.1.cell 5, h⟩
theorem CmHeld.mem (h : CmHeld w a0 b0 a1 b1 a2 b2 c0 d0 c1 d1 c2 d2 W) : CmMem w [a0, b0, a1, b1, a2, b2] [c0, d0, c1, d1, c2, d2] W := h.2.2.2.2.2.2.2.2.2.2.2.2
theorem CmHeld.below (h : CmHeld w a0 b0 a1 b1 a2 b2 c0 d0 c1 d1 c2 d2 W) (hb : Below W.heap.size W W') : CmHeld w a0 b0 a1 b1 a2 b2 c0 d0 c1 d1 c2 d2 W' := .of (h.mem.below hb)
theorem CmHeld.drew (h : CmHeld w a0 b0 a1 b1 a2 b2 c0 d0 c1 d1 c2 d2 W) : CmHeld w a0 b0 a1 b1 a2 b2 c0 d0 c1 d1 c2 d2 W.drew := h.below (bw_drew (Below.refl _ _))
theorem CmHeld.set3 (h : CmHeld w a0 b0 a1 b1 a2 b2 c0 d0 c1 d1 c2 d2 W) (ht : Tab w) {g : Nat} (hg : w.heap.size + 1 < g) (a b c : Value) : CmHeld w a0 b0 a1 b1 a2 b2 c0 d0 c1 d1 c2 d2 (((W.setCell ⟨g, 0, none⟩ a).setCell ⟨g, 1, none⟩ b).setCell ⟨g, 2, none⟩ c) := by
  obtain ⟨h1, h2, h3, h4⟩ := h.mem
  have e1 : w.heap.size ≠ g := by omega
  have e2 : w.heap.size + 1 ≠ g := by omega
  have hb := bw_set (bw_set (bw_set h4 (show w.heap.size ≤ g by omega) a (o := 0)) (show w.heap.size ≤ g by omega) b (o := 1)) (show w.heap.size ≤ g by omega) c (o := 2)
  exact .of ⟨((h1.far (p := ⟨g, 0, none⟩) e1 _).far (p := ⟨g, 1, none⟩) e1 _).far (p := ⟨g, 2, none⟩) e1 _, ((h2.far (p := ⟨g, 0, none⟩) e2 _).far (p := ⟨g, 1, none⟩) e2 _).far (p := ⟨g, 2, none⟩) e2 _, ht.below hb, hb⟩
theorem CmHeld.new (h : CmHeld w a0 b0 a1 b1 a2 b2 c0 d0 c1 d1 c2 d2 W) (o : Obj) : CmHeld w a0 b0 a1 b1 a2 b2 c0 d0 c1 d1 c2 d2 (W.alloc o) := h.below (bw_new (Below.refl _ _) o)
end

theorem CvMem.below {w W W' : World} {g h : Nat} {x y z u v t : Int} (hm : CvMem w g h x y z u v t W) (hb : Below W.heap.size W W') : CvMem w g h x y z u v t W' := ⟨hm.1.below hb hm.1.lt, hm.2.1.below hb hm.2.1.lt, hm.2.2.1, hm.2.2.2.1, hm.2.2.2.2.1, hm.2.2.2.2.2.trans (hb.mono hm.2.2.2.2.2.size)⟩
theorem CvMem.drew {w W : World} {g h : Nat} {x y z u v t : Int} (hm : CvMem w g h x y z u v t W) : CvMem w g h x y z u v t W.drew := hm.below (bw_drew (Below.refl _ _))
theorem CvMem.put {w W : World} {g h : Nat} {x y z u v t : Int} (hm : CvMem w g h x y z u v t W) (k : Int) : CvMem w g h k y z u v t (W.setCell ⟨g, 0, none⟩ (.int .i64 k)) ∧ CvMem w g h x k z u v t (W.setCell ⟨g, 1, none⟩ (.int .i64 k)) ∧ CvMem w g h x y k u v t (W.setCell ⟨g, 2, none⟩ (.int .i64 k)) := by
  obtain ⟨h1, h2, h3, h4, h5, h6⟩ := hm
  exact ⟨⟨h1.put 0 _, h2.far (p := ⟨g, 0, none⟩) (Ne.symm h3) _, h3, h4, h5, bw_set h6 h4.1 _⟩, ⟨h1.put 1 _, h2.far (p := ⟨g, 1, none⟩) (Ne.symm h3) _, h3, h4, h5, bw_set h6 h4.1 _⟩, ⟨h1.put 2 _, h2.far (p := ⟨g, 2, none⟩) (Ne.symm h3) _, h3, h4, h5, bw_set h6 h4.1 _⟩⟩
/-- What the first loop of Compare carries. -/
def CwRel (w : World) (g h : Nat) (x y z u v t : Int) (i : Value) (W : World) : Prop :=
  ∃ k : Nat, k ≤ 3 ∧ i = .int .i64 (k : Int) ∧ CvMem w g h (if 0 < k then x - u else x) (if 1 < k then y - v else y) (if 2 < k then z - t else z) u v t W

/-- What the second loop of Compare carries. -/
def CdRel (w : World) (g h : Nat) (x y z a b c u v t : Int) (i : Value) (W : World) : Prop :=
  ∃ k : Nat, k ≤ 3 ∧ i = .int .i64 (k : Int) ∧ CvMem w g h (if 0 < k then a else x) (if 1 < k then b else y) (if 2 < k then c else z) u v t W
theorem CdRel.one {w W : World} {g h : Nat} {x y z a b c u v t : Int} (hm : CvMem w g h a y z u v t W) : CdRel w g h x y z a b c u v t (.int .i64 1) W := ⟨1, by decide, rfl, hm⟩
theorem CdRel.two {w W : World} {g h : Nat} {x y z a b c u v t : Int} (hm : CvMem w g h a b z u v t W) : CdRel w g h x y z a b c u v t (.int .i64 2) W := ⟨2, by decide, rfl, hm⟩
theorem CdRel.three {w W : World} {g h : Nat} {x y z a b c u v t : Int} (hm : CvMem w g h a b c u v t W) : CdRel w g h x y z a b c u v t (.int .i64 3) W := ⟨3, by decide, rfl, hm⟩
theorem CwRel.one {w W : World} {g h : Nat} {x y z u v t : Int} (hm : CvMem w g h (x - u) y z u v t W) : CwRel w g h x y z u v t (.int .i64 1) W := ⟨1, by decide, rfl, hm⟩
theorem CwRel.two {w W : World} {g h : Nat} {x y z u v t : Int} (hm : CvMem w g h (x - u) (y - v) z u v t W) : CwRel w g h x y z u v t (.int .i64 2) W := ⟨2, by decide, rfl, hm⟩
theorem CwRel.three {w W : World} {g h : Nat} {x y z u v t : Int} (hm : CvMem w g h (x - u) (y - v) (z - t) u v t W) : CwRel w g h x y z u v t (.int .i64 3) W := ⟨3, by decide, rfl, hm⟩

set_option maxRecDepth 100000 in
set_option maxHeartbeats 16000000 in
theorem icompare_any (a0 b0 a1 b1 a2 b2 c0 d0 c1 d1 c2 d2 x y z D u v t E p q r0 r1 r2 s : Int) (w : World) (ht : Tab w) (hn : ∀ q ∈ [(a0, b0), (a1, b1), (a2, b2)], Right q.1 q.2) (hm : ∀ q ∈ [(c0, d0), (c1, d1), (c2, d2)], Right q.1 q.2)
    (h1 : prt [(a0, b0), (a1, b1), (a2, b2)] = some ([x, y, z], D)) (h2 : prt [(c0, d0), (c1, d1), (c2, d2)] = some ([u, v, t], E)) (hi : ∀ k ∈ [a0, b0, a1, b1, a2, b2, c0, d0, c1, d1, c2, d2], I64 k)
    (hp : p = E / (Nat.gcd D.natAbs E.natAbs : Int)) (hqq : q = D / (Nat.gcd D.natAbs E.natAbs : Int)) (hrd : redV (x * p - u * q) (y * p - v * q) (z * p - t * q) = (r0, r1, r2))
    (hs : ∀ W, Tab W → Calls Tryz.prog 41 #[.agg #[.int .i64 r0, .int .i64 r1, .int .i64 r2]] W fun e W' => e = .returned (.int .i64 s) ∧ Below W.heap.size W W') :
    Calls Tryz.prog 15 #[szv a0 b0 a1 b1 a2 b2, szv c0 d0 c1 d1 c2 d2] w fun e w' => e = .returned (.tuple #[.int .i64 s, .int .i64 0]) ∧ Below w.heap.size w w' := by
  have hbo := fun W => iboth_any a0 b0 a1 b1 a2 b2 c0 d0 c1 d1 c2 d2 W (hi _ (by simp)) (hi _ (by simp)) (hi _ (by simp)) (hi _ (by simp)) (hi _ (by simp)) (hi _ (by simp)) (hi _ (by simp)) (hi _ (by simp)) (hi _ (by simp)) (hi _ (by simp)) (hi _ (by simp)) (hi _ (by simp))
  simp only [ivE_ok hn (by rw [h1]; exact fun h => by cases h), ivE_ok hm (by rw [h2]; exact fun h => by cases h), ne_eq, not_true_eq_false, if_false] at hbo
  have hp1 := fun W => parts_any a0 b0 a1 b1 a2 b2 W (right_mild hn)
  have hp2 := fun W => parts_any c0 d0 c1 d1 c2 d2 W (right_mild hm)
  unfold PaRet at hp1 hp2
  rw [h1] at hp1
  rw [h2] at hp2
  obtain ⟨⟨hD0, hD1⟩, hl1⟩ := prt_num h1 (right_mild hn)
  obtain ⟨⟨hE0, hE1⟩, hl2⟩ := prt_num h2 (right_mild hm)
  obtain ⟨g, p', q', hg, hgp, hq, hqm, hm1, hm2, ⟨hp0, hp1'⟩, ⟨hq0, hq1⟩, hpd, hM⟩ := lcm_parts ⟨hD0, hD1⟩ ⟨hE0, hE1⟩
  rw [← hg] at hp hqq
  obtain rfl : p = p' := by rw [hp, hpd]
  obtain rfl : q = q' := by rw [hqq, hq]
  have hbx : ∀ (l k : Int), -6000 ≤ l ∧ l ≤ 6000 → 1 ≤ k ∧ k ≤ 240 → -1440000 ≤ l * k ∧ l * k ≤ 1440000 := fun l k h h' => by
    have : (l * k).natAbs ≤ 6000 * 240 := by rw [Int.natAbs_mul]; exact Nat.mul_le_mul (by omega) (by omega)
    omega
  have HBX := Lib.hid (And.intro (hbx x p (hl1 x (by simp)) ⟨hp0, hp1'⟩) (And.intro (hbx y p (hl1 y (by simp)) ⟨hp0, hp1'⟩) (And.intro (hbx z p (hl1 z (by simp)) ⟨hp0, hp1'⟩) (And.intro (hbx u q (hl2 u (by simp)) ⟨hq0, hq1⟩) (And.intro (hbx v q (hl2 v (by simp)) ⟨hq0, hq1⟩) (hbx t q (hl2 t (by simp)) ⟨hq0, hq1⟩))))))
  have HRD := Lib.hid hrd
  have HS := Lib.hid hs
  clear hrd hs hp hqq hbx
  have hgc := fun W => igcd_any D E W (by omega) (by omega) (by omega) (by omega)
  rw [← hg] at hgc
  have ho1 := fun W => iover_any a0 b0 a1 b1 a2 b2 x y z D p W hn h1 hp0 hp1'
  have ho2 := fun W => iover_any c0 d0 c1 d1 c2 d2 u v t E q W hm h2 hq0 hq1
  obtain ⟨M, hMM⟩ : ∃ M, M = lcmA D E := ⟨_, rfl⟩
  rw [← hMM] at hqm hm1 hm2 hM
  rw [← hm1] at ho1
  rw [← hm2] at ho2
  have HBO := Lib.hid hbo
  have HP1 := Lib.hid hp1
  have HP2 := Lib.hid hp2
  have HGC := Lib.hid hgc
  have HO1 := Lib.hid ho1
  have HO2 := Lib.hid ho2
  have hgz : (g == 0) = false := by rw [beq_eq_false_iff_ne]; omega
  have hwm : IntKind.i64.wrap (q * E) = M := by rw [hqm]; exact IntWalk.i64_in _ (by have := Int.mul_le_mul hq0 hE0 (by decide) (by omega); omega)
  have hM0 : CmMem w [a0, b0, a1, b1, a2, b2] [c0, d0, c1, d1, c2, d2] ((w.alloc (.cells #[.int .i64 a0, .int .i64 b0, .int .i64 a1, .int .i64 b1, .int .i64 a2, .int .i64 b2] 25)).alloc (.cells #[.int .i64 c0, .int .i64 d0, .int .i64 c1, .int .i64 d1, .int .i64 c2, .int .i64 d2] 25)) := by
    refine ⟨Blk.alloc (t := 25) (cs := [.int .i64 a0, .int .i64 b0, .int .i64 a1, .int .i64 b1, .int .i64 a2, .int .i64 b2]) (heap_alloc_new w _) _, ?_, ht.below (bw_new (bw_new (Below.refl _ _) _) _), bw_new (bw_new (Below.refl _ _) _) _⟩
    have := heap_alloc_new (w.alloc (.cells #[.int .i64 a0, .int .i64 b0, .int .i64 a1, .int .i64 b1, .int .i64 a2, .int .i64 b2] 25)) (.cells #[.int .i64 c0, .int .i64 d0, .int .i64 c1, .int .i64 d1, .int .i64 c2, .int .i64 d2] 25)
    rw [World.size_alloc] at this
    exact this
  have HM0 := Lib.hid hM0
  have HQ := Lib.hid (And.intro hq hwm)
  have HL := Lib.hid (And.intro hl1 hl2)
  clear hbo hp1 hp2 hgc ho1 ho2 hM0 hn hm h1 h2 hi hg hqm hm1 hm2 hMM hq hwm hpd hl1 hl2
  go_enter Tryz.func15, Tryz.ntmps15
  go_wp2_with fail
  refine (HBO.out _).mono ?_
  rintro e w1 ⟨rfl, hb⟩
  have HM1 := Lib.hid (HM0.out.below hb)
  obtain ⟨e0, e1, e2, e3, e4, e5⟩ := six_of HM1.out.1
  clear hb
  go_wp2_with fail
  refine (HP1.out _).mono ?_
  rintro e w2 ⟨rfl, hb⟩
  have HM2 := Lib.hid ((HM1.out.below hb).below (bw_new (Below.refl _ _) (.cells #[.int .i64 x, .int .i64 y, .int .i64 z] 26)))
  obtain ⟨f0, f1, f2, f3, f4, f5⟩ := six_of (HM1.out.below hb).2.1
  have hs2 : w.heap.size + 1 < w2.heap.size := (HM1.out.below hb).2.1.lt
  clear hb e0 e1 e2 e3 e4 e5
  go_wp2_with fail
  refine (HP2.out _).mono ?_
  rintro e w3 ⟨rfl, hb⟩
  have HM3 := Lib.hid ((HM2.out.below hb).below (bw_new (Below.refl _ _) (.cells #[.int .i64 u, .int .i64 v, .int .i64 t] 26)))
  clear hb f0 f1 f2 f3 f4 f5
  go_wp2_with fail
  refine (HGC.out _).mono ?_
  rintro e w4 ⟨rfl, kk, rfl⟩
  have HM4 := Lib.hid (HM3.out.below (below_drewN _ _ kk))
  obtain ⟨hq, hwm⟩ := HQ.out
  go_upto_region 7 with fail
  clear hq hwm
  go_cut [14, 15] (fun s14 s15 wx => CvRel w (x * p) (y * p) (z * p) (u * q) (v * q) (t * q) s14 s15 wx)
  case first =>
    obtain ⟨W4, hW4⟩ : ∃ W4, W4 = (w3.alloc (.cells #[.int .i64 u, .int .i64 v, .int .i64 t] 26)).drewN kk := ⟨_, rfl⟩
    rw [← hW4] at HM4 ⊢
    clear hW4 HM3 HM2 HM1
    -- {
    have hS : CmHeld w a0 b0 a1 b1 a2 b2 c0 d0 c1 d1 c2 d2 W4.drew := (CmHeld.of HM4.out).drew
    unfold CmHeld at hS
    refine wp_regionE' 9 (fun w' => w'.cell? ⟨w.heap.size, 0, none⟩ = some (.int .i64 a0) ∧ w'.cell? ⟨w.heap.size, 1, none⟩ = some (.int .i64 b0) ∧ w'.cell? ⟨w.heap.size, 2, none⟩ = some (.int .i64 a1) ∧ w'.cell? ⟨w.heap.size, 3, none⟩ = some (.int .i64 b1) ∧ w'.cell? ⟨w.heap.size, 4, none⟩ = some (.int .i64 a2) ∧ w'.cell? ⟨w.heap.size, 5, none⟩ = some (.int .i64 b2) ∧ w'.cell? ⟨w.heap.size + 1, 0, none⟩ = some (.int .i64 c0) ∧ w'.cell? ⟨w.heap.size + 1, 1, none⟩ = some (.int .i64 d0) ∧ w'.cell? ⟨w.heap.size + 1, 2, none⟩ = some (.int .i64 c1) ∧ w'.cell? ⟨w.heap.size + 1, 3, none⟩ = some (.int .i64 d1) ∧ w'.cell? ⟨w.heap.size + 1, 4, none⟩ = some (.int .i64 c2) ∧ w'.cell? ⟨w.heap.size + 1, 5, none⟩ = some (.int .i64 d2) ∧ CmMem w [a0, b0, a1, b1, a2, b2] [c0, d0, c1, d1, c2, d2] w') 10 #[false, false, false, false, false, false, false, false, false, false] (by kernel_rfl) (by kernel_rfl) (by kernel_rfl) ?_
    refine wpAnyE_tk (i := 0) (v := ?_) #[true, false, false, false, false, false, false, false, false, false] (some 44) rfl rfl (by kernel_rfl) (by kernel_rfl) (by kernel_rfl) (by kernel_rfl) (by kernel_rfl) (fun _ _ _ h => h) (Or.inl ⟨by rfl, ?_⟩) hS ?_
    rotate_left
    · (intro w hSw; (try dsimp only at hSw); go_simp; all_goals with_reducible rfl)
    simp only [Act.put]
    refine wpAnyE_tk (i := 1) (v := ?_) #[true, true, false, false, false, false, false, false, false, false] (some 45) rfl rfl (by kernel_rfl) (by kernel_rfl) (by kernel_rfl) (by kernel_rfl) (by kernel_rfl) (fun _ _ _ h => h) (Or.inl ⟨by rfl, ?_⟩) hS ?_
    rotate_left
    · (intro w hSw; (try dsimp only at hSw); go_simp; all_goals with_reducible rfl)
    simp only [Act.put]
    refine wpAnyE_tk (i := 3) (v := ?_) #[true, true, false, true, false, false, false, false, false, false] (some 47) rfl rfl (by kernel_rfl) (by kernel_rfl) (by kernel_rfl) (by kernel_rfl) (by kernel_rfl) (fun _ _ _ h => h) (Or.inl ⟨by rfl, ?_⟩) hS ?_
    rotate_left
    · (intro w hSw; (try dsimp only at hSw); go_simp; all_goals with_reducible rfl)
    simp only [Act.put]
    refine wpAnyE_tk (i := 4) (v := ?_) #[true, true, false, true, true, false, false, false, false, false] (some 48) rfl rfl (by kernel_rfl) (by kernel_rfl) (by kernel_rfl) (by kernel_rfl) (by kernel_rfl) (fun _ _ _ h => h) (Or.inl ⟨by rfl, ?_⟩) hS ?_
    rotate_left
    · (intro w hSw; (try dsimp only at hSw); go_simp; all_goals with_reducible rfl)
    simp only [Act.put]
    have HH0 : Hid (CmHeld w a0 b0 a1 b1 a2 b2 c0 d0 c1 d1 c2 d2 W4.drew) := hS
    clear hS
    obtain ⟨WD, hWD⟩ : ∃ X, X = W4.drew := ⟨_, rfl⟩
    rw [← hWD] at HH0 ⊢
    clear hWD
    refine wpAnyE_ready (rs := [2, 6, 7]) (by kernel_rfl) (by simp) ?_
    refine AllE.cons' (o := _) #[true, true, true, true, true, false, false, false, false, false] rfl (by kernel_rfl) (fun K hK => ?_) (AllE.cons' (o := _) #[true, true, false, true, true, false, true, false, false, false] rfl (by kernel_rfl) (fun K hK => ?_) (AllE.cons' (o := _) #[true, true, false, true, true, false, false, true, false, false] rfl (by kernel_rfl) (fun K hK => ?_) AllE.nil))
    · go_simp
      refine (HO1.out _).mono ?_
      rintro e W1' ⟨rfl, hk⟩
      dsimp only
      have H1 := Lib.hid (HH0.out.below hk)
      refine hK.out _ _ (fun _ => H1.out) ?_
      clear hK K hk
      try simp only [Act.put]
      refine wpAnyE_ready (rs := [5, 6, 7]) (by kernel_rfl) (by simp) ?_
      refine AllE.cons' (o := _) #[true, true, true, true, true, true, false, false, false, false] rfl (by kernel_rfl) (fun K hK => ?_) (AllE.cons' (o := _) #[true, true, true, true, true, false, true, false, false, false] rfl (by kernel_rfl) (fun K hK => ?_) (AllE.cons' (o := _) #[true, true, true, true, true, false, false, true, false, false] rfl (by kernel_rfl) (fun K hK => ?_) AllE.nil))
      · go_simp
        refine (HO2.out _).mono ?_
        rintro e W2' ⟨rfl, hk⟩
        dsimp only
        have H2 := Lib.hid (H1.out.below hk)
        refine hK.out _ _ (fun _ => H2.out) ?_
        clear hK K hk
        try simp only [Act.put]
        refine wpAnyE_ready (rs := [6, 7]) (by kernel_rfl) (by simp) ?_
        refine AllE.cons' (o := _) #[true, true, true, true, true, true, true, false, false, false] rfl (by kernel_rfl) (fun K hK => ?_) (AllE.cons' (o := _) #[true, true, true, true, true, true, false, true, false, false] rfl (by kernel_rfl) (fun K hK => ?_) AllE.nil)
        · go_simp
          obtain ⟨W3', hW⟩ : ∃ X, X = W2'.alloc (.cells #[.int .i64 0, .int .i64 0, .int .i64 0] 26) := ⟨_, rfl⟩
          obtain ⟨ga, hg⟩ : ∃ g, g = W2'.heap.size := ⟨_, rfl⟩
          rw [← hW, ← hg]
          have hk : Below W2'.heap.size W2' W3' := by rw [hW]; exact bw_new (Below.refl _ _) _
          have H3 := Lib.hid (H2.out.below hk)
          have B6 : Hid (Blk W3' ga 26 [.int .i64 0, .int .i64 0, .int .i64 0]) := by rw [hW, hg]; exact heap_alloc_new W2' _
          have L6 : w.heap.size + 1 < ga := by rw [hg]; exact H2.out.mem.2.1.lt
          refine hK.out _ _ (fun _ => H3.out) ?_
          clear hK K hk hW hg
          try simp only [Act.put]
          refine wpAnyE_ready (rs := [7]) (by kernel_rfl) (by simp) ?_
          refine AllE.cons' (o := _) #[true, true, true, true, true, true, true, true, false, false] rfl (by kernel_rfl) (fun K hK => ?_) AllE.nil
          go_simp
          obtain ⟨W4', hW⟩ : ∃ X, X = W3'.alloc (.cells #[.int .i64 0, .int .i64 0, .int .i64 0] 26) := ⟨_, rfl⟩
          obtain ⟨gb, hg⟩ : ∃ g, g = W3'.heap.size := ⟨_, rfl⟩
          rw [← hW, ← hg]
          have hk : Below W3'.heap.size W3' W4' := by rw [hW]; exact bw_new (Below.refl _ _) _
          have H4 := Lib.hid (H3.out.below hk)
          have B7 : Hid (Blk W4' gb 26 [.int .i64 0, .int .i64 0, .int .i64 0]) := by rw [hW, hg]; exact heap_alloc_new W3' _
          have L7 : w.heap.size + 1 < gb := by rw [hg]; exact H3.out.mem.2.1.lt
          have N6 : ga ≠ gb := by have := B6.out.lt; omega
          replace B6 := Lib.hid (B6.out.below hk B6.out.lt)
          refine hK.out _ _ (fun _ => H4.out) ?_
          clear hK K hk hW hg
          try simp only [Act.put]
          have hne : ga ≠ gb := N6
          obtain ⟨p0, p1, p2⟩ := three_of B6.out
          have f0 := B6.out.frozen 0
          have f1 := B6.out.frozen 1
          have f2 := B6.out.frozen 2
          refine wpAnyE_ready (rs := [8]) (by kernel_rfl) (by simp) ?_
          refine AllE.cons' (o := _) #[true, true, true, true, true, true, true, true, true, false] rfl (by kernel_rfl) (fun K hK => ?_) AllE.nil
          go_simp
          obtain ⟨X1, hX⟩ : ∃ X, X = (((W4'.setCell ⟨ga, 0, none⟩ (.int .i64 (x * p))).setCell ⟨ga, 1, none⟩ (.int .i64 (y * p))).setCell ⟨ga, 2, none⟩ (.int .i64 (z * p))) := ⟨_, rfl⟩
          rw [← hX]
          have HX1 : Hid (CmHeld w a0 b0 a1 b1 a2 b2 c0 d0 c1 d1 c2 d2 X1) := by rw [hX]; exact H4.out.set3 ht L6 _ _ _
          have BA : Hid (Blk X1 ga 26 [.int .i64 (x * p), .int .i64 (y * p), .int .i64 (z * p)]) := by rw [hX]; exact ((B6.out.put 0 (.int .i64 (x * p))).put 1 (.int .i64 (y * p))).put 2 (.int .i64 (z * p))
          have BB : Hid (Blk X1 gb 26 [.int .i64 0, .int .i64 0, .int .i64 0]) := by rw [hX]; exact ((B7.out.far (p := ⟨ga, 0, none⟩) (Ne.symm hne) _).far (p := ⟨ga, 1, none⟩) (Ne.symm hne) _).far (p := ⟨ga, 2, none⟩) (Ne.symm hne) _
          refine hK.out _ _ (fun _ => HX1.out) ?_
          clear hK K hX p0 p1 p2 f0 f1 f2
          try simp only [Act.put]
          obtain ⟨p0, p1, p2⟩ := three_of BB.out
          have f0 := BB.out.frozen 0
          have f1 := BB.out.frozen 1
          have f2 := BB.out.frozen 2
          refine wpAnyE_ready (rs := [9]) (by kernel_rfl) (by simp) ?_
          refine AllE.cons' (o := _) #[true, true, true, true, true, true, true, true, true, true] rfl (by kernel_rfl) (fun K hK => ?_) AllE.nil
          go_simp
          obtain ⟨X2, hX⟩ : ∃ X, X = (((X1.setCell ⟨gb, 0, none⟩ (.int .i64 (u * q))).setCell ⟨gb, 1, none⟩ (.int .i64 (v * q))).setCell ⟨gb, 2, none⟩ (.int .i64 (t * q))) := ⟨_, rfl⟩
          rw [← hX]
          have hfin : CvRel w (x * p) (y * p) (z * p) (u * q) (v * q) (t * q) (.pointer (some ⟨ga, 0, none⟩)) (.pointer (some ⟨gb, 0, none⟩)) X2 := by
            rw [hX]
            exact ⟨ga, gb, rfl, rfl, ((BA.out.far (p := ⟨gb, 0, none⟩) hne _).far (p := ⟨gb, 1, none⟩) hne _).far (p := ⟨gb, 2, none⟩) hne _, ((BB.out.put 0 (.int .i64 (u * q))).put 1 (.int .i64 (v * q))).put 2 (.int .i64 (t * q)), hne, ⟨by omega, by omega⟩, ht, bw_set (bw_set (bw_set HX1.out.mem.2.2.2 (by omega) _) (by omega) _) (by omega) _⟩
          have HFIN := Lib.hid hfin
          refine hK.out _ _ (fun h => absurd rfl h) ?_
          clear hK K hX p0 p1 p2 f0 f1 f2 hfin
          try simp only [Act.put]
          refine wpAnyE_done (by kernel_rfl) ?_ _
          go_wp2_with fail
          go_meet
          exact HFIN.out
        · go_simp
          obtain ⟨W5', hW⟩ : ∃ X, X = W2'.alloc (.cells #[.int .i64 0, .int .i64 0, .int .i64 0] 26) := ⟨_, rfl⟩
          obtain ⟨gb, hg⟩ : ∃ g, g = W2'.heap.size := ⟨_, rfl⟩
          rw [← hW, ← hg]
          have hk : Below W2'.heap.size W2' W5' := by rw [hW]; exact bw_new (Below.refl _ _) _
          have H5 := Lib.hid (H2.out.below hk)
          have B7 : Hid (Blk W5' gb 26 [.int .i64 0, .int .i64 0, .int .i64 0]) := by rw [hW, hg]; exact heap_alloc_new W2' _
          have L7 : w.heap.size + 1 < gb := by rw [hg]; exact H2.out.mem.2.1.lt
          refine hK.out _ _ (fun _ => H5.out) ?_
          clear hK K hk hW hg
          try simp only [Act.put]
          refine wpAnyE_ready (rs := [6]) (by kernel_rfl) (by simp) ?_
          refine AllE.cons' (o := _) #[true, true, true, true, true, true, true, true, false, false] rfl (by kernel_rfl) (fun K hK => ?_) AllE.nil
          go_simp
          obtain ⟨W6', hW⟩ : ∃ X, X = W5'.alloc (.cells #[.int .i64 0, .int .i64 0, .int .i64 0] 26) := ⟨_, rfl⟩
          obtain ⟨ga, hg⟩ : ∃ g, g = W5'.heap.size := ⟨_, rfl⟩
          rw [← hW, ← hg]
          have hk : Below W5'.heap.size W5' W6' := by rw [hW]; exact bw_new (Below.refl _ _) _
          have H6 := Lib.hid (H5.out.below hk)
          have B6 : Hid (Blk W6' ga 26 [.int .i64 0, .int .i64 0, .int .i64 0]) := by rw [hW, hg]; exact heap_alloc_new W5' _
          have L6 : w.heap.size + 1 < ga := by rw [hg]; exact H5.out.mem.2.1.lt
          have N7 : gb ≠ ga := by have := B7.out.lt; omega
          replace B7 := Lib.hid (B7.out.below hk B7.out.lt)
          refine hK.out _ _ (fun _ => H6.out) ?_
          clear hK K hk hW hg
          try simp only [Act.put]
          have hne : ga ≠ gb := N7.symm
          obtain ⟨p0, p1, p2⟩ := three_of B6.out
          have f0 := B6.out.frozen 0
          have f1 := B6.out.frozen 1
          have f2 := B6.out.frozen 2
          refine wpAnyE_ready (rs := [8]) (by kernel_rfl) (by simp) ?_
          refine AllE.cons' (o := _) #[true, true, true, true, true, true, true, true, true, false] rfl (by kernel_rfl) (fun K hK => ?_) AllE.nil
          go_simp
          obtain ⟨X1, hX⟩ : ∃ X, X = (((W6'.setCell ⟨ga, 0, none⟩ (.int .i64 (x * p))).setCell ⟨ga, 1, none⟩ (.int .i64 (y * p))).setCell ⟨ga, 2, none⟩ (.int .i64 (z * p))) := ⟨_, rfl⟩
          rw [← hX]
          have HX1 : Hid (CmHeld w a0 b0 a1 b1 a2 b2 c0 d0 c1 d1 c2 d2 X1) := by rw [hX]; exact H6.out.set3 ht L6 _ _ _
          have BA : Hid (Blk X1 ga 26 [.int .i64 (x * p), .int .i64 (y * p), .int .i64 (z * p)]) := by rw [hX]; exact ((B6.out.put 0 (.int .i64 (x * p))).put 1 (.int .i64 (y * p))).put 2 (.int .i64 (z * p))
          have BB : Hid (Blk X1 gb 26 [.int .i64 0, .int .i64 0, .int .i64 0]) := by rw [hX]; exact ((B7.out.far (p := ⟨ga, 0, none⟩) (Ne.symm hne) _).far (p := ⟨ga, 1, none⟩) (Ne.symm hne) _).far (p := ⟨ga, 2, none⟩) (Ne.symm hne) _
          refine hK.out _ _ (fun _ => HX1.out) ?_
          clear hK K hX p0 p1 p2 f0 f1 f2
          try simp only [Act.put]
          obtain ⟨p0, p1, p2⟩ := three_of BB.out
          have f0 := BB.out.frozen 0
          have f1 := BB.out.frozen 1
          have f2 := BB.out.frozen 2
          refine wpAnyE_ready (rs := [9]) (by kernel_rfl) (by simp) ?_
          refine AllE.cons' (o := _) #[true, true, true, true, true, true, true, true, true, true] rfl (by kernel_rfl) (fun K hK => ?_) AllE.nil
          go_simp
          obtain ⟨X2, hX⟩ : ∃ X, X = (((X1.setCell ⟨gb, 0, none⟩ (.int .i64 (u * q))).setCell ⟨gb, 1, none⟩ (.int .i64 (v * q))).setCell ⟨gb, 2, none⟩ (.int .i64 (t * q))) := ⟨_, rfl⟩
          rw [← hX]
          have hfin : CvRel w (x * p) (y * p) (z * p) (u * q) (v * q) (t * q) (.pointer (some ⟨ga, 0, none⟩)) (.pointer (some ⟨gb, 0, none⟩)) X2 := by
            rw [hX]
            exact ⟨ga, gb, rfl, rfl, ((BA.out.far (p := ⟨gb, 0, none⟩) hne _).far (p := ⟨gb, 1, none⟩) hne _).far (p := ⟨gb, 2, none⟩) hne _, ((BB.out.put 0 (.int .i64 (u * q))).put 1 (.int .i64 (v * q))).put 2 (.int .i64 (t * q)), hne, ⟨by omega, by omega⟩, ht, bw_set (bw_set (bw_set HX1.out.mem.2.2.2 (by omega) _) (by omega) _) (by omega) _⟩
          have HFIN := Lib.hid hfin
          refine hK.out _ _ (fun h => absurd rfl h) ?_
          clear hK K hX p0 p1 p2 f0 f1 f2 hfin
          try simp only [Act.put]
          refine wpAnyE_done (by kernel_rfl) ?_ _
          go_wp2_with fail
          go_meet
          exact HFIN.out
      · go_simp
        obtain ⟨W7', hW⟩ : ∃ X, X = W1'.alloc (.cells #[.int .i64 0, .int .i64 0, .int .i64 0] 26) := ⟨_, rfl⟩
        obtain ⟨ga, hg⟩ : ∃ g, g = W1'.heap.size := ⟨_, rfl⟩
        rw [← hW, ← hg]
        have hk : Below W1'.heap.size W1' W7' := by rw [hW]; exact bw_new (Below.refl _ _) _
        have H7 := Lib.hid (H1.out.below hk)
        have B6 : Hid (Blk W7' ga 26 [.int .i64 0, .int .i64 0, .int .i64 0]) := by rw [hW, hg]; exact heap_alloc_new W1' _
        have L6 : w.heap.size + 1 < ga := by rw [hg]; exact H1.out.mem.2.1.lt
        refine hK.out _ _ (fun _ => H7.out) ?_
        clear hK K hk hW hg
        try simp only [Act.put]
        refine wpAnyE_ready (rs := [5, 7]) (by kernel_rfl) (by simp) ?_
        refine AllE.cons' (o := _) #[true, true, true, true, true, true, true, false, false, false] rfl (by kernel_rfl) (fun K hK => ?_) (AllE.cons' (o := _) #[true, true, true, true, true, false, true, true, false, false] rfl (by kernel_rfl) (fun K hK => ?_) AllE.nil)
        · go_simp
          refine (HO2.out _).mono ?_
          rintro e W8' ⟨rfl, hk⟩
          dsimp only
          have H8 := Lib.hid (H7.out.below hk)
          replace B6 := Lib.hid (B6.out.below hk B6.out.lt)
          refine hK.out _ _ (fun _ => H8.out) ?_
          clear hK K hk
          try simp only [Act.put]
          refine wpAnyE_ready (rs := [7]) (by kernel_rfl) (by simp) ?_
          refine AllE.cons' (o := _) #[true, true, true, true, true, true, true, true, false, false] rfl (by kernel_rfl) (fun K hK => ?_) AllE.nil
          go_simp
          obtain ⟨W9', hW⟩ : ∃ X, X = W8'.alloc (.cells #[.int .i64 0, .int .i64 0, .int .i64 0] 26) := ⟨_, rfl⟩
          obtain ⟨gb, hg⟩ : ∃ g, g = W8'.heap.size := ⟨_, rfl⟩
          rw [← hW, ← hg]
          have hk : Below W8'.heap.size W8' W9' := by rw [hW]; exact bw_new (Below.refl _ _) _
          have H9 := Lib.hid (H8.out.below hk)
          have B7 : Hid (Blk W9' gb 26 [.int .i64 0, .int .i64 0, .int .i64 0]) := by rw [hW, hg]; exact heap_alloc_new W8' _
          have L7 : w.heap.size + 1 < gb := by rw [hg]; exact H8.out.mem.2.1.lt
          have N6 : ga ≠ gb := by have := B6.out.lt; omega
          replace B6 := Lib.hid (B6.out.below hk B6.out.lt)
          refine hK.out _ _ (fun _ => H9.out) ?_
          clear hK K hk hW hg
          try simp only [Act.put]
          have hne : ga ≠ gb := N6
          obtain ⟨p0, p1, p2⟩ := three_of B6.out
          have f0 := B6.out.frozen 0
          have f1 := B6.out.frozen 1
          have f2 := B6.out.frozen 2
          refine wpAnyE_ready (rs := [8]) (by kernel_rfl) (by simp) ?_
          refine AllE.cons' (o := _) #[true, true, true, true, true, true, true, true, true, false] rfl (by kernel_rfl) (fun K hK => ?_) AllE.nil
          go_simp
          obtain ⟨X1, hX⟩ : ∃ X, X = (((W9'.setCell ⟨ga, 0, none⟩ (.int .i64 (x * p))).setCell ⟨ga, 1, none⟩ (.int .i64 (y * p))).setCell ⟨ga, 2, none⟩ (.int .i64 (z * p))) := ⟨_, rfl⟩
          rw [← hX]
          have HX1 : Hid (CmHeld w a0 b0 a1 b1 a2 b2 c0 d0 c1 d1 c2 d2 X1) := by rw [hX]; exact H9.out.set3 ht L6 _ _ _
          have BA : Hid (Blk X1 ga 26 [.int .i64 (x * p), .int .i64 (y * p), .int .i64 (z * p)]) := by rw [hX]; exact ((B6.out.put 0 (.int .i64 (x * p))).put 1 (.int .i64 (y * p))).put 2 (.int .i64 (z * p))
          have BB : Hid (Blk X1 gb 26 [.int .i64 0, .int .i64 0, .int .i64 0]) := by rw [hX]; exact ((B7.out.far (p := ⟨ga, 0, none⟩) (Ne.symm hne) _).far (p := ⟨ga, 1, none⟩) (Ne.symm hne) _).far (p := ⟨ga, 2, none⟩) (Ne.symm hne) _
          refine hK.out _ _ (fun _ => HX1.out) ?_
          clear hK K hX p0 p1 p2 f0 f1 f2
          try simp only [Act.put]
          obtain ⟨p0, p1, p2⟩ := three_of BB.out
          have f0 := BB.out.frozen 0
          have f1 := BB.out.frozen 1
          have f2 := BB.out.frozen 2
          refine wpAnyE_ready (rs := [9]) (by kernel_rfl) (by simp) ?_
          refine AllE.cons' (o := _) #[true, true, true, true, true, true, true, true, true, true] rfl (by kernel_rfl) (fun K hK => ?_) AllE.nil
          go_simp
          obtain ⟨X2, hX⟩ : ∃ X, X = (((X1.setCell ⟨gb, 0, none⟩ (.int .i64 (u * q))).setCell ⟨gb, 1, none⟩ (.int .i64 (v * q))).setCell ⟨gb, 2, none⟩ (.int .i64 (t * q))) := ⟨_, rfl⟩
          rw [← hX]
          have hfin : CvRel w (x * p) (y * p) (z * p) (u * q) (v * q) (t * q) (.pointer (some ⟨ga, 0, none⟩)) (.pointer (some ⟨gb, 0, none⟩)) X2 := by
            rw [hX]
            exact ⟨ga, gb, rfl, rfl, ((BA.out.far (p := ⟨gb, 0, none⟩) hne _).far (p := ⟨gb, 1, none⟩) hne _).far (p := ⟨gb, 2, none⟩) hne _, ((BB.out.put 0 (.int .i64 (u * q))).put 1 (.int .i64 (v * q))).put 2 (.int .i64 (t * q)), hne, ⟨by omega, by omega⟩, ht, bw_set (bw_set (bw_set HX1.out.mem.2.2.2 (by omega) _) (by omega) _) (by omega) _⟩
          have HFIN := Lib.hid hfin
          refine hK.out _ _ (fun h => absurd rfl h) ?_
          clear hK K hX p0 p1 p2 f0 f1 f2 hfin
          try simp only [Act.put]
          refine wpAnyE_done (by kernel_rfl) ?_ _
          go_wp2_with fail
          go_meet
          exact HFIN.out
        · go_simp
          obtain ⟨W10', hW⟩ : ∃ X, X = W7'.alloc (.cells #[.int .i64 0, .int .i64 0, .int .i64 0] 26) := ⟨_, rfl⟩
          obtain ⟨gb, hg⟩ : ∃ g, g = W7'.heap.size := ⟨_, rfl⟩
          rw [← hW, ← hg]
          have hk : Below W7'.heap.size W7' W10' := by rw [hW]; exact bw_new (Below.refl _ _) _
          have H10 := Lib.hid (H7.out.below hk)
          have B7 : Hid (Blk W10' gb 26 [.int .i64 0, .int .i64 0, .int .i64 0]) := by rw [hW, hg]; exact heap_alloc_new W7' _
          have L7 : w.heap.size + 1 < gb := by rw [hg]; exact H7.out.mem.2.1.lt
          have N6 : ga ≠ gb := by have := B6.out.lt; omega
          replace B6 := Lib.hid (B6.out.below hk B6.out.lt)
          refine hK.out _ _ (fun _ => H10.out) ?_
          clear hK K hk hW hg
          try simp only [Act.put]
          refine wpAnyE_ready (rs := [5]) (by kernel_rfl) (by simp) ?_
          refine AllE.cons' (o := _) #[true, true, true, true, true, true, true, true, false, false] rfl (by kernel_rfl) (fun K hK => ?_) AllE.nil
          go_simp
          refine (HO2.out _).mono ?_
          rintro e W11' ⟨rfl, hk⟩
          dsimp only
          have H11 := Lib.hid (H10.out.below hk)
          replace B6 := Lib.hid (B6.out.below hk B6.out.lt)
          replace B7 := Lib.hid (B7.out.below hk B7.out.lt)
          refine hK.out _ _ (fun _ => H11.out) ?_
          clear hK K hk
          try simp only [Act.put]
          have hne : ga ≠ gb := N6
          obtain ⟨p0, p1, p2⟩ := three_of B6.out
          have f0 := B6.out.frozen 0
          have f1 := B6.out.frozen 1
          have f2 := B6.out.frozen 2
          refine wpAnyE_ready (rs := [8]) (by kernel_rfl) (by simp) ?_
          refine AllE.cons' (o := _) #[true, true, true, true, true, true, true, true, true, false] rfl (by kernel_rfl) (fun K hK => ?_) AllE.nil
          go_simp
          obtain ⟨X1, hX⟩ : ∃ X, X = (((W11'.setCell ⟨ga, 0, none⟩ (.int .i64 (x * p))).setCell ⟨ga, 1, none⟩ (.int .i64 (y * p))).setCell ⟨ga, 2, none⟩ (.int .i64 (z * p))) := ⟨_, rfl⟩
          rw [← hX]
          have HX1 : Hid (CmHeld w a0 b0 a1 b1 a2 b2 c0 d0 c1 d1 c2 d2 X1) := by rw [hX]; exact H11.out.set3 ht L6 _ _ _
          have BA : Hid (Blk X1 ga 26 [.int .i64 (x * p), .int .i64 (y * p), .int .i64 (z * p)]) := by rw [hX]; exact ((B6.out.put 0 (.int .i64 (x * p))).put 1 (.int .i64 (y * p))).put 2 (.int .i64 (z * p))
          have BB : Hid (Blk X1 gb 26 [.int .i64 0, .int .i64 0, .int .i64 0]) := by rw [hX]; exact ((B7.out.far (p := ⟨ga, 0, none⟩) (Ne.symm hne) _).far (p := ⟨ga, 1, none⟩) (Ne.symm hne) _).far (p := ⟨ga, 2, none⟩) (Ne.symm hne) _
          refine hK.out _ _ (fun _ => HX1.out) ?_
          clear hK K hX p0 p1 p2 f0 f1 f2
          try simp only [Act.put]
          obtain ⟨p0, p1, p2⟩ := three_of BB.out
          have f0 := BB.out.frozen 0
          have f1 := BB.out.frozen 1
          have f2 := BB.out.frozen 2
          refine wpAnyE_ready (rs := [9]) (by kernel_rfl) (by simp) ?_
          refine AllE.cons' (o := _) #[true, true, true, true, true, true, true, true, true, true] rfl (by kernel_rfl) (fun K hK => ?_) AllE.nil
          go_simp
          obtain ⟨X2, hX⟩ : ∃ X, X = (((X1.setCell ⟨gb, 0, none⟩ (.int .i64 (u * q))).setCell ⟨gb, 1, none⟩ (.int .i64 (v * q))).setCell ⟨gb, 2, none⟩ (.int .i64 (t * q))) := ⟨_, rfl⟩
          rw [← hX]
          have hfin : CvRel w (x * p) (y * p) (z * p) (u * q) (v * q) (t * q) (.pointer (some ⟨ga, 0, none⟩)) (.pointer (some ⟨gb, 0, none⟩)) X2 := by
            rw [hX]
            exact ⟨ga, gb, rfl, rfl, ((BA.out.far (p := ⟨gb, 0, none⟩) hne _).far (p := ⟨gb, 1, none⟩) hne _).far (p := ⟨gb, 2, none⟩) hne _, ((BB.out.put 0 (.int .i64 (u * q))).put 1 (.int .i64 (v * q))).put 2 (.int .i64 (t * q)), hne, ⟨by omega, by omega⟩, ht, bw_set (bw_set (bw_set HX1.out.mem.2.2.2 (by omega) _) (by omega) _) (by omega) _⟩
          have HFIN := Lib.hid hfin
          refine hK.out _ _ (fun h => absurd rfl h) ?_
          clear hK K hX p0 p1 p2 f0 f1 f2 hfin
          try simp only [Act.put]
          refine wpAnyE_done (by kernel_rfl) ?_ _
          go_wp2_with fail
          go_meet
          exact HFIN.out
      · go_simp
        obtain ⟨W12', hW⟩ : ∃ X, X = W1'.alloc (.cells #[.int .i64 0, .int .i64 0, .int .i64 0] 26) := ⟨_, rfl⟩
        obtain ⟨gb, hg⟩ : ∃ g, g = W1'.heap.size := ⟨_, rfl⟩
        rw [← hW, ← hg]
        have hk : Below W1'.heap.size W1' W12' := by rw [hW]; exact bw_new (Below.refl _ _) _
        have H12 := Lib.hid (H1.out.below hk)
        have B7 : Hid (Blk W12' gb 26 [.int .i64 0, .int .i64 0, .int .i64 0]) := by rw [hW, hg]; exact heap_alloc_new W1' _
        have L7 : w.heap.size + 1 < gb := by rw [hg]; exact H1.out.mem.2.1.lt
        refine hK.out _ _ (fun _ => H12.out) ?_
        clear hK K hk hW hg
        try simp only [Act.put]
        refine wpAnyE_ready (rs := [5, 6]) (by kernel_rfl) (by simp) ?_
        refine AllE.cons' (o := _) #[true, true, true, true, true, true, false, true, false, false] rfl (by kernel_rfl) (fun K hK => ?_) (AllE.cons' (o := _) #[true, true, true, true, true, false, true, true, false, false] rfl (by kernel_rfl) (fun K hK => ?_) AllE.nil)
        · go_simp
          refine (HO2.out _).mono ?_
          rintro e W13' ⟨rfl, hk⟩
          dsimp only
          have H13 := Lib.hid (H12.out.below hk)
          replace B7 := Lib.hid (B7.out.below hk B7.out.lt)
          refine hK.out _ _ (fun _ => H13.out) ?_
          clear hK K hk
          try simp only [Act.put]
          refine wpAnyE_ready (rs := [6]) (by kernel_rfl) (by simp) ?_
          refine AllE.cons' (o := _) #[true, true, true, true, true, true, true, true, false, false] rfl (by kernel_rfl) (fun K hK => ?_) AllE.nil
          go_simp
          obtain ⟨W14', hW⟩ : ∃ X, X = W13'.alloc (.cells #[.int .i64 0, .int .i64 0, .int .i64 0] 26) := ⟨_, rfl⟩
          obtain ⟨ga, hg⟩ : ∃ g, g = W13'.heap.size := ⟨_, rfl⟩
          rw [← hW, ← hg]
          have hk : Below W13'.heap.size W13' W14' := by rw [hW]; exact bw_new (Below.refl _ _) _
          have H14 := Lib.hid (H13.out.below hk)
          have B6 : Hid (Blk W14' ga 26 [.int .i64 0, .int .i64 0, .int .i64 0]) := by rw [hW, hg]; exact heap_alloc_new W13' _
          have L6 : w.heap.size + 1 < ga := by rw [hg]; exact H13.out.mem.2.1.lt
          have N7 : gb ≠ ga := by have := B7.out.lt; omega
          replace B7 := Lib.hid (B7.out.below hk B7.out.lt)
          refine hK.out _ _ (fun _ => H14.out) ?_
          clear hK K hk hW hg
          try simp only [Act.put]
          have hne : ga ≠ gb := N7.symm
          obtain ⟨p0, p1, p2⟩ := three_of B6.out
          have f0 := B6.out.frozen 0
          have f1 := B6.out.frozen 1
          have f2 := B6.out.frozen 2
          refine wpAnyE_ready (rs := [8]) (by kernel_rfl) (by simp) ?_
          refine AllE.cons' (o := _) #[true, true, true, true, true, true, true, true, true, false] rfl (by kernel_rfl) (fun K hK => ?_) AllE.nil
          go_simp
          obtain ⟨X1, hX⟩ : ∃ X, X = (((W14'.setCell ⟨ga, 0, none⟩ (.int .i64 (x * p))).setCell ⟨ga, 1, none⟩ (.int .i64 (y * p))).setCell ⟨ga, 2, none⟩ (.int .i64 (z * p))) := ⟨_, rfl⟩
          rw [← hX]
          have HX1 : Hid (CmHeld w a0 b0 a1 b1 a2 b2 c0 d0 c1 d1 c2 d2 X1) := by rw [hX]; exact H14.out.set3 ht L6 _ _ _
          have BA : Hid (Blk X1 ga 26 [.int .i64 (x * p), .int .i64 (y * p), .int .i64 (z * p)]) := by rw [hX]; exact ((B6.out.put 0 (.int .i64 (x * p))).put 1 (.int .i64 (y * p))).put 2 (.int .i64 (z * p))
          have BB : Hid (Blk X1 gb 26 [.int .i64 0, .int .i64 0, .int .i64 0]) := by rw [hX]; exact ((B7.out.far (p := ⟨ga, 0, none⟩) (Ne.symm hne) _).far (p := ⟨ga, 1, none⟩) (Ne.symm hne) _).far (p := ⟨ga, 2, none⟩) (Ne.symm hne) _
          refine hK.out _ _ (fun _ => HX1.out) ?_
          clear hK K hX p0 p1 p2 f0 f1 f2
          try simp only [Act.put]
          obtain ⟨p0, p1, p2⟩ := three_of BB.out
          have f0 := BB.out.frozen 0
          have f1 := BB.out.frozen 1
          have f2 := BB.out.frozen 2
          refine wpAnyE_ready (rs := [9]) (by kernel_rfl) (by simp) ?_
          refine AllE.cons' (o := _) #[true, true, true, true, true, true, true, true, true, true] rfl (by kernel_rfl) (fun K hK => ?_) AllE.nil
          go_simp
          obtain ⟨X2, hX⟩ : ∃ X, X = (((X1.setCell ⟨gb, 0, none⟩ (.int .i64 (u * q))).setCell ⟨gb, 1, none⟩ (.int .i64 (v * q))).setCell ⟨gb, 2, none⟩ (.int .i64 (t * q))) := ⟨_, rfl⟩
          rw [← hX]
          have hfin : CvRel w (x * p) (y * p) (z * p) (u * q) (v * q) (t * q) (.pointer (some ⟨ga, 0, none⟩)) (.pointer (some ⟨gb, 0, none⟩)) X2 := by
            rw [hX]
            exact ⟨ga, gb, rfl, rfl, ((BA.out.far (p := ⟨gb, 0, none⟩) hne _).far (p := ⟨gb, 1, none⟩) hne _).far (p := ⟨gb, 2, none⟩) hne _, ((BB.out.put 0 (.int .i64 (u * q))).put 1 (.int .i64 (v * q))).put 2 (.int .i64 (t * q)), hne, ⟨by omega, by omega⟩, ht, bw_set (bw_set (bw_set HX1.out.mem.2.2.2 (by omega) _) (by omega) _) (by omega) _⟩
          have HFIN := Lib.hid hfin
          refine hK.out _ _ (fun h => absurd rfl h) ?_
          clear hK K hX p0 p1 p2 f0 f1 f2 hfin
          try simp only [Act.put]
          refine wpAnyE_done (by kernel_rfl) ?_ _
          go_wp2_with fail
          go_meet
          exact HFIN.out
        · go_simp
          obtain ⟨W15', hW⟩ : ∃ X, X = W12'.alloc (.cells #[.int .i64 0, .int .i64 0, .int .i64 0] 26) := ⟨_, rfl⟩
          obtain ⟨ga, hg⟩ : ∃ g, g = W12'.heap.size := ⟨_, rfl⟩
          rw [← hW, ← hg]
          have hk : Below W12'.heap.size W12' W15' := by rw [hW]; exact bw_new (Below.refl _ _) _
          have H15 := Lib.hid (H12.out.below hk)
          have B6 : Hid (Blk W15' ga 26 [.int .i64 0, .int .i64 0, .int .i64 0]) := by rw [hW, hg]; exact heap_alloc_new W12' _
          have L6 : w.heap.size + 1 < ga := by rw [hg]; exact H12.out.mem.2.1.lt
          have N7 : gb ≠ ga := by have := B7.out.lt; omega
          replace B7 := Lib.hid (B7.out.below hk B7.out.lt)
          refine hK.out _ _ (fun _ => H15.out) ?_
          clear hK K hk hW hg
          try simp only [Act.put]
          refine wpAnyE_ready (rs := [5]) (by kernel_rfl) (by simp) ?_
          refine AllE.cons' (o := _) #[true, true, true, true, true, true, true, true, false, false] rfl (by kernel_rfl) (fun K hK => ?_) AllE.nil
          go_simp
          refine (HO2.out _).mono ?_
          rintro e W16' ⟨rfl, hk⟩
          dsimp only
          have H16 := Lib.hid (H15.out.below hk)
          replace B7 := Lib.hid (B7.out.below hk B7.out.lt)
          replace B6 := Lib.hid (B6.out.below hk B6.out.lt)
          refine hK.out _ _ (fun _ => H16.out) ?_
          clear hK K hk
          try simp only [Act.put]
          have hne : ga ≠ gb := N7.symm
          obtain ⟨p0, p1, p2⟩ := three_of B6.out
          have f0 := B6.out.frozen 0
          have f1 := B6.out.frozen 1
          have f2 := B6.out.frozen 2
          refine wpAnyE_ready (rs := [8]) (by kernel_rfl) (by simp) ?_
          refine AllE.cons' (o := _) #[true, true, true, true, true, true, true, true, true, false] rfl (by kernel_rfl) (fun K hK => ?_) AllE.nil
          go_simp
          obtain ⟨X1, hX⟩ : ∃ X, X = (((W16'.setCell ⟨ga, 0, none⟩ (.int .i64 (x * p))).setCell ⟨ga, 1, none⟩ (.int .i64 (y * p))).setCell ⟨ga, 2, none⟩ (.int .i64 (z * p))) := ⟨_, rfl⟩
          rw [← hX]
          have HX1 : Hid (CmHeld w a0 b0 a1 b1 a2 b2 c0 d0 c1 d1 c2 d2 X1) := by rw [hX]; exact H16.out.set3 ht L6 _ _ _
          have BA : Hid (Blk X1 ga 26 [.int .i64 (x * p), .int .i64 (y * p), .int .i64 (z * p)]) := by rw [hX]; exact ((B6.out.put 0 (.int .i64 (x * p))).put 1 (.int .i64 (y * p))).put 2 (.int .i64 (z * p))
          have BB : Hid (Blk X1 gb 26 [.int .i64 0, .int .i64 0, .int .i64 0]) := by rw [hX]; exact ((B7.out.far (p := ⟨ga, 0, none⟩) (Ne.symm hne) _).far (p := ⟨ga, 1, none⟩) (Ne.symm hne) _).far (p := ⟨ga, 2, none⟩) (Ne.symm hne) _
          refine hK.out _ _ (fun _ => HX1.out) ?_
          clear hK K hX p0 p1 p2 f0 f1 f2
          try simp only [Act.put]
          obtain ⟨p0, p1, p2⟩ := three_of BB.out
          have f0 := BB.out.frozen 0
          have f1 := BB.out.frozen 1
          have f2 := BB.out.frozen 2
          refine wpAnyE_ready (rs := [9]) (by kernel_rfl) (by simp) ?_
          refine AllE.cons' (o := _) #[true, true, true, true, true, true, true, true, true, true] rfl (by kernel_rfl) (fun K hK => ?_) AllE.nil
          go_simp
          obtain ⟨X2, hX⟩ : ∃ X, X = (((X1.setCell ⟨gb, 0, none⟩ (.int .i64 (u * q))).setCell ⟨gb, 1, none⟩ (.int .i64 (v * q))).setCell ⟨gb, 2, none⟩ (.int .i64 (t * q))) := ⟨_, rfl⟩
          rw [← hX]
          have hfin : CvRel w (x * p) (y * p) (z * p) (u * q) (v * q) (t * q) (.pointer (some ⟨ga, 0, none⟩)) (.pointer (some ⟨gb, 0, none⟩)) X2 := by
            rw [hX]
            exact ⟨ga, gb, rfl, rfl, ((BA.out.far (p := ⟨gb, 0, none⟩) hne _).far (p := ⟨gb, 1, none⟩) hne _).far (p := ⟨gb, 2, none⟩) hne _, ((BB.out.put 0 (.int .i64 (u * q))).put 1 (.int .i64 (v * q))).put 2 (.int .i64 (t * q)), hne, ⟨by omega, by omega⟩, ht, bw_set (bw_set (bw_set HX1.out.mem.2.2.2 (by omega) _) (by omega) _) (by omega) _⟩
          have HFIN := Lib.hid hfin
          refine hK.out _ _ (fun h => absurd rfl h) ?_
          clear hK K hX p0 p1 p2 f0 f1 f2 hfin
          try simp only [Act.put]
          refine wpAnyE_done (by kernel_rfl) ?_ _
          go_wp2_with fail
          go_meet
          exact HFIN.out
    · go_simp
      obtain ⟨W17', hW⟩ : ∃ X, X = WD.alloc (.cells #[.int .i64 0, .int .i64 0, .int .i64 0] 26) := ⟨_, rfl⟩
      obtain ⟨ga, hg⟩ : ∃ g, g = WD.heap.size := ⟨_, rfl⟩
      rw [← hW, ← hg]
      have hk : Below WD.heap.size WD W17' := by rw [hW]; exact bw_new (Below.refl _ _) _
      have H17 := Lib.hid (HH0.out.below hk)
      have B6 : Hid (Blk W17' ga 26 [.int .i64 0, .int .i64 0, .int .i64 0]) := by rw [hW, hg]; exact heap_alloc_new WD _
      have L6 : w.heap.size + 1 < ga := by rw [hg]; exact HH0.out.mem.2.1.lt
      refine hK.out _ _ (fun _ => H17.out) ?_
      clear hK K hk hW hg
      try simp only [Act.put]
      refine wpAnyE_ready (rs := [2, 7]) (by kernel_rfl) (by simp) ?_
      refine AllE.cons' (o := _) #[true, true, true, true, true, false, true, false, false, false] rfl (by kernel_rfl) (fun K hK => ?_) (AllE.cons' (o := _) #[true, true, false, true, true, false, true, true, false, false] rfl (by kernel_rfl) (fun K hK => ?_) AllE.nil)
      · go_simp
        refine (HO1.out _).mono ?_
        rintro e W18' ⟨rfl, hk⟩
        dsimp only
        have H18 := Lib.hid (H17.out.below hk)
        replace B6 := Lib.hid (B6.out.below hk B6.out.lt)
        refine hK.out _ _ (fun _ => H18.out) ?_
        clear hK K hk
        try simp only [Act.put]
        refine wpAnyE_ready (rs := [5, 7]) (by kernel_rfl) (by simp) ?_
        refine AllE.cons' (o := _) #[true, true, true, true, true, true, true, false, false, false] rfl (by kernel_rfl) (fun K hK => ?_) (AllE.cons' (o := _) #[true, true, true, true, true, false, true, true, false, false] rfl (by kernel_rfl) (fun K hK => ?_) AllE.nil)
        · go_simp
          refine (HO2.out _).mono ?_
          rintro e W19' ⟨rfl, hk⟩
          dsimp only
          have H19 := Lib.hid (H18.out.below hk)
          replace B6 := Lib.hid (B6.out.below hk B6.out.lt)
          refine hK.out _ _ (fun _ => H19.out) ?_
          clear hK K hk
          try simp only [Act.put]
          refine wpAnyE_ready (rs := [7]) (by kernel_rfl) (by simp) ?_
          refine AllE.cons' (o := _) #[true, true, true, true, true, true, true, true, false, false] rfl (by kernel_rfl) (fun K hK => ?_) AllE.nil
          go_simp
          obtain ⟨W20', hW⟩ : ∃ X, X = W19'.alloc (.cells #[.int .i64 0, .int .i64 0, .int .i64 0] 26) := ⟨_, rfl⟩
          obtain ⟨gb, hg⟩ : ∃ g, g = W19'.heap.size := ⟨_, rfl⟩
          rw [← hW, ← hg]
          have hk : Below W19'.heap.size W19' W20' := by rw [hW]; exact bw_new (Below.refl _ _) _
          have H20 := Lib.hid (H19.out.below hk)
          have B7 : Hid (Blk W20' gb 26 [.int .i64 0, .int .i64 0, .int .i64 0]) := by rw [hW, hg]; exact heap_alloc_new W19' _
          have L7 : w.heap.size + 1 < gb := by rw [hg]; exact H19.out.mem.2.1.lt
          have N6 : ga ≠ gb := by have := B6.out.lt; omega
          replace B6 := Lib.hid (B6.out.below hk B6.out.lt)
          refine hK.out _ _ (fun _ => H20.out) ?_
          clear hK K hk hW hg
          try simp only [Act.put]
          have hne : ga ≠ gb := N6
          obtain ⟨p0, p1, p2⟩ := three_of B6.out
          have f0 := B6.out.frozen 0
          have f1 := B6.out.frozen 1
          have f2 := B6.out.frozen 2
          refine wpAnyE_ready (rs := [8]) (by kernel_rfl) (by simp) ?_
          refine AllE.cons' (o := _) #[true, true, true, true, true, true, true, true, true, false] rfl (by kernel_rfl) (fun K hK => ?_) AllE.nil
          go_simp
          obtain ⟨X1, hX⟩ : ∃ X, X = (((W20'.setCell ⟨ga, 0, none⟩ (.int .i64 (x * p))).setCell ⟨ga, 1, none⟩ (.int .i64 (y * p))).setCell ⟨ga, 2, none⟩ (.int .i64 (z * p))) := ⟨_, rfl⟩
          rw [← hX]
          have HX1 : Hid (CmHeld w a0 b0 a1 b1 a2 b2 c0 d0 c1 d1 c2 d2 X1) := by rw [hX]; exact H20.out.set3 ht L6 _ _ _
          have BA : Hid (Blk X1 ga 26 [.int .i64 (x * p), .int .i64 (y * p), .int .i64 (z * p)]) := by rw [hX]; exact ((B6.out.put 0 (.int .i64 (x * p))).put 1 (.int .i64 (y * p))).put 2 (.int .i64 (z * p))
          have BB : Hid (Blk X1 gb 26 [.int .i64 0, .int .i64 0, .int .i64 0]) := by rw [hX]; exact ((B7.out.far (p := ⟨ga, 0, none⟩) (Ne.symm hne) _).far (p := ⟨ga, 1, none⟩) (Ne.symm hne) _).far (p := ⟨ga, 2, none⟩) (Ne.symm hne) _
          refine hK.out _ _ (fun _ => HX1.out) ?_
          clear hK K hX p0 p1 p2 f0 f1 f2
          try simp only [Act.put]
          obtain ⟨p0, p1, p2⟩ := three_of BB.out
          have f0 := BB.out.frozen 0
          have f1 := BB.out.frozen 1
          have f2 := BB.out.frozen 2
          refine wpAnyE_ready (rs := [9]) (by kernel_rfl) (by simp) ?_
          refine AllE.cons' (o := _) #[true, true, true, true, true, true, true, true, true, true] rfl (by kernel_rfl) (fun K hK => ?_) AllE.nil
          go_simp
          obtain ⟨X2, hX⟩ : ∃ X, X = (((X1.setCell ⟨gb, 0, none⟩ (.int .i64 (u * q))).setCell ⟨gb, 1, none⟩ (.int .i64 (v * q))).setCell ⟨gb, 2, none⟩ (.int .i64 (t * q))) := ⟨_, rfl⟩
          rw [← hX]
          have hfin : CvRel w (x * p) (y * p) (z * p) (u * q) (v * q) (t * q) (.pointer (some ⟨ga, 0, none⟩)) (.pointer (some ⟨gb, 0, none⟩)) X2 := by
            rw [hX]
            exact ⟨ga, gb, rfl, rfl, ((BA.out.far (p := ⟨gb, 0, none⟩) hne _).far (p := ⟨gb, 1, none⟩) hne _).far (p := ⟨gb, 2, none⟩) hne _, ((BB.out.put 0 (.int .i64 (u * q))).put 1 (.int .i64 (v * q))).put 2 (.int .i64 (t * q)), hne, ⟨by omega, by omega⟩, ht, bw_set (bw_set (bw_set HX1.out.mem.2.2.2 (by omega) _) (by omega) _) (by omega) _⟩
          have HFIN := Lib.hid hfin
          refine hK.out _ _ (fun h => absurd rfl h) ?_
          clear hK K hX p0 p1 p2 f0 f1 f2 hfin
          try simp only [Act.put]
          refine wpAnyE_done (by kernel_rfl) ?_ _
          go_wp2_with fail
          go_meet
          exact HFIN.out
        · go_simp
          obtain ⟨W21', hW⟩ : ∃ X, X = W18'.alloc (.cells #[.int .i64 0, .int .i64 0, .int .i64 0] 26) := ⟨_, rfl⟩
          obtain ⟨gb, hg⟩ : ∃ g, g = W18'.heap.size := ⟨_, rfl⟩
          rw [← hW, ← hg]
          have hk : Below W18'.heap.size W18' W21' := by rw [hW]; exact bw_new (Below.refl _ _) _
          have H21 := Lib.hid (H18.out.below hk)
          have B7 : Hid (Blk W21' gb 26 [.int .i64 0, .int .i64 0, .int .i64 0]) := by rw [hW, hg]; exact heap_alloc_new W18' _
          have L7 : w.heap.size + 1 < gb := by rw [hg]; exact H18.out.mem.2.1.lt
          have N6 : ga ≠ gb := by have := B6.out.lt; omega
          replace B6 := Lib.hid (B6.out.below hk B6.out.lt)
          refine hK.out _ _ (fun _ => H21.out) ?_
          clear hK K hk hW hg
          try simp only [Act.put]
          refine wpAnyE_ready (rs := [5]) (by kernel_rfl) (by simp) ?_
          refine AllE.cons' (o := _) #[true, true, true, true, true, true, true, true, false, false] rfl (by kernel_rfl) (fun K hK => ?_) AllE.nil
          go_simp
          refine (HO2.out _).mono ?_
          rintro e W22' ⟨rfl, hk⟩
          dsimp only
          have H22 := Lib.hid (H21.out.below hk)
          replace B6 := Lib.hid (B6.out.below hk B6.out.lt)
          replace B7 := Lib.hid (B7.out.below hk B7.out.lt)
          refine hK.out _ _ (fun _ => H22.out) ?_
          clear hK K hk
          try simp only [Act.put]
          have hne : ga ≠ gb := N6
          obtain ⟨p0, p1, p2⟩ := three_of B6.out
          have f0 := B6.out.frozen 0
          have f1 := B6.out.frozen 1
          have f2 := B6.out.frozen 2
          refine wpAnyE_ready (rs := [8]) (by kernel_rfl) (by simp) ?_
          refine AllE.cons' (o := _) #[true, true, true, true, true, true, true, true, true, false] rfl (by kernel_rfl) (fun K hK => ?_) AllE.nil
          go_simp
          obtain ⟨X1, hX⟩ : ∃ X, X = (((W22'.setCell ⟨ga, 0, none⟩ (.int .i64 (x * p))).setCell ⟨ga, 1, none⟩ (.int .i64 (y * p))).setCell ⟨ga, 2, none⟩ (.int .i64 (z * p))) := ⟨_, rfl⟩
          rw [← hX]
          have HX1 : Hid (CmHeld w a0 b0 a1 b1 a2 b2 c0 d0 c1 d1 c2 d2 X1) := by rw [hX]; exact H22.out.set3 ht L6 _ _ _
          have BA : Hid (Blk X1 ga 26 [.int .i64 (x * p), .int .i64 (y * p), .int .i64 (z * p)]) := by rw [hX]; exact ((B6.out.put 0 (.int .i64 (x * p))).put 1 (.int .i64 (y * p))).put 2 (.int .i64 (z * p))
          have BB : Hid (Blk X1 gb 26 [.int .i64 0, .int .i64 0, .int .i64 0]) := by rw [hX]; exact ((B7.out.far (p := ⟨ga, 0, none⟩) (Ne.symm hne) _).far (p := ⟨ga, 1, none⟩) (Ne.symm hne) _).far (p := ⟨ga, 2, none⟩) (Ne.symm hne) _
          refine hK.out _ _ (fun _ => HX1.out) ?_
          clear hK K hX p0 p1 p2 f0 f1 f2
          try simp only [Act.put]
          obtain ⟨p0, p1, p2⟩ := three_of BB.out
          have f0 := BB.out.frozen 0
          have f1 := BB.out.frozen 1
          have f2 := BB.out.frozen 2
          refine wpAnyE_ready (rs := [9]) (by kernel_rfl) (by simp) ?_
          refine AllE.cons' (o := _) #[true, true, true, true, true, true, true, true, true, true] rfl (by kernel_rfl) (fun K hK => ?_) AllE.nil
          go_simp
          obtain ⟨X2, hX⟩ : ∃ X, X = (((X1.setCell ⟨gb, 0, none⟩ (.int .i64 (u * q))).setCell ⟨gb, 1, none⟩ (.int .i64 (v * q))).setCell ⟨gb, 2, none⟩ (.int .i64 (t * q))) := ⟨_, rfl⟩
          rw [← hX]
          have hfin : CvRel w (x * p) (y * p) (z * p) (u * q) (v * q) (t * q) (.pointer (some ⟨ga, 0, none⟩)) (.pointer (some ⟨gb, 0, none⟩)) X2 := by
            rw [hX]
            exact ⟨ga, gb, rfl, rfl, ((BA.out.far (p := ⟨gb, 0, none⟩) hne _).far (p := ⟨gb, 1, none⟩) hne _).far (p := ⟨gb, 2, none⟩) hne _, ((BB.out.put 0 (.int .i64 (u * q))).put 1 (.int .i64 (v * q))).put 2 (.int .i64 (t * q)), hne, ⟨by omega, by omega⟩, ht, bw_set (bw_set (bw_set HX1.out.mem.2.2.2 (by omega) _) (by omega) _) (by omega) _⟩
          have HFIN := Lib.hid hfin
          refine hK.out _ _ (fun h => absurd rfl h) ?_
          clear hK K hX p0 p1 p2 f0 f1 f2 hfin
          try simp only [Act.put]
          refine wpAnyE_done (by kernel_rfl) ?_ _
          go_wp2_with fail
          go_meet
          exact HFIN.out
      · go_simp
        obtain ⟨W23', hW⟩ : ∃ X, X = W17'.alloc (.cells #[.int .i64 0, .int .i64 0, .int .i64 0] 26) := ⟨_, rfl⟩
        obtain ⟨gb, hg⟩ : ∃ g, g = W17'.heap.size := ⟨_, rfl⟩
        rw [← hW, ← hg]
        have hk : Below W17'.heap.size W17' W23' := by rw [hW]; exact bw_new (Below.refl _ _) _
        have H23 := Lib.hid (H17.out.below hk)
        have B7 : Hid (Blk W23' gb 26 [.int .i64 0, .int .i64 0, .int .i64 0]) := by rw [hW, hg]; exact heap_alloc_new W17' _
        have L7 : w.heap.size + 1 < gb := by rw [hg]; exact H17.out.mem.2.1.lt
        have N6 : ga ≠ gb := by have := B6.out.lt; omega
        replace B6 := Lib.hid (B6.out.below hk B6.out.lt)
        refine hK.out _ _ (fun _ => H23.out) ?_
        clear hK K hk hW hg
        try simp only [Act.put]
        refine wpAnyE_ready (rs := [2]) (by kernel_rfl) (by simp) ?_
        refine AllE.cons' (o := _) #[true, true, true, true, true, false, true, true, false, false] rfl (by kernel_rfl) (fun K hK => ?_) AllE.nil
        go_simp
        refine (HO1.out _).mono ?_
        rintro e W24' ⟨rfl, hk⟩
        dsimp only
        have H24 := Lib.hid (H23.out.below hk)
        replace B6 := Lib.hid (B6.out.below hk B6.out.lt)
        replace B7 := Lib.hid (B7.out.below hk B7.out.lt)
        refine hK.out _ _ (fun _ => H24.out) ?_
        clear hK K hk
        try simp only [Act.put]
        refine wpAnyE_ready (rs := [5]) (by kernel_rfl) (by simp) ?_
        refine AllE.cons' (o := _) #[true, true, true, true, true, true, true, true, false, false] rfl (by kernel_rfl) (fun K hK => ?_) AllE.nil
        go_simp
        refine (HO2.out _).mono ?_
        rintro e W25' ⟨rfl, hk⟩
        dsimp only
        have H25 := Lib.hid (H24.out.below hk)
        replace B6 := Lib.hid (B6.out.below hk B6.out.lt)
        replace B7 := Lib.hid (B7.out.below hk B7.out.lt)
        refine hK.out _ _ (fun _ => H25.out) ?_
        clear hK K hk
        try simp only [Act.put]
        have hne : ga ≠ gb := N6
        obtain ⟨p0, p1, p2⟩ := three_of B6.out
        have f0 := B6.out.frozen 0
        have f1 := B6.out.frozen 1
        have f2 := B6.out.frozen 2
        refine wpAnyE_ready (rs := [8]) (by kernel_rfl) (by simp) ?_
        refine AllE.cons' (o := _) #[true, true, true, true, true, true, true, true, true, false] rfl (by kernel_rfl) (fun K hK => ?_) AllE.nil
        go_simp
        obtain ⟨X1, hX⟩ : ∃ X, X = (((W25'.setCell ⟨ga, 0, none⟩ (.int .i64 (x * p))).setCell ⟨ga, 1, none⟩ (.int .i64 (y * p))).setCell ⟨ga, 2, none⟩ (.int .i64 (z * p))) := ⟨_, rfl⟩
        rw [← hX]
        have HX1 : Hid (CmHeld w a0 b0 a1 b1 a2 b2 c0 d0 c1 d1 c2 d2 X1) := by rw [hX]; exact H25.out.set3 ht L6 _ _ _
        have BA : Hid (Blk X1 ga 26 [.int .i64 (x * p), .int .i64 (y * p), .int .i64 (z * p)]) := by rw [hX]; exact ((B6.out.put 0 (.int .i64 (x * p))).put 1 (.int .i64 (y * p))).put 2 (.int .i64 (z * p))
        have BB : Hid (Blk X1 gb 26 [.int .i64 0, .int .i64 0, .int .i64 0]) := by rw [hX]; exact ((B7.out.far (p := ⟨ga, 0, none⟩) (Ne.symm hne) _).far (p := ⟨ga, 1, none⟩) (Ne.symm hne) _).far (p := ⟨ga, 2, none⟩) (Ne.symm hne) _
        refine hK.out _ _ (fun _ => HX1.out) ?_
        clear hK K hX p0 p1 p2 f0 f1 f2
        try simp only [Act.put]
        obtain ⟨p0, p1, p2⟩ := three_of BB.out
        have f0 := BB.out.frozen 0
        have f1 := BB.out.frozen 1
        have f2 := BB.out.frozen 2
        refine wpAnyE_ready (rs := [9]) (by kernel_rfl) (by simp) ?_
        refine AllE.cons' (o := _) #[true, true, true, true, true, true, true, true, true, true] rfl (by kernel_rfl) (fun K hK => ?_) AllE.nil
        go_simp
        obtain ⟨X2, hX⟩ : ∃ X, X = (((X1.setCell ⟨gb, 0, none⟩ (.int .i64 (u * q))).setCell ⟨gb, 1, none⟩ (.int .i64 (v * q))).setCell ⟨gb, 2, none⟩ (.int .i64 (t * q))) := ⟨_, rfl⟩
        rw [← hX]
        have hfin : CvRel w (x * p) (y * p) (z * p) (u * q) (v * q) (t * q) (.pointer (some ⟨ga, 0, none⟩)) (.pointer (some ⟨gb, 0, none⟩)) X2 := by
          rw [hX]
          exact ⟨ga, gb, rfl, rfl, ((BA.out.far (p := ⟨gb, 0, none⟩) hne _).far (p := ⟨gb, 1, none⟩) hne _).far (p := ⟨gb, 2, none⟩) hne _, ((BB.out.put 0 (.int .i64 (u * q))).put 1 (.int .i64 (v * q))).put 2 (.int .i64 (t * q)), hne, ⟨by omega, by omega⟩, ht, bw_set (bw_set (bw_set HX1.out.mem.2.2.2 (by omega) _) (by omega) _) (by omega) _⟩
        have HFIN := Lib.hid hfin
        refine hK.out _ _ (fun h => absurd rfl h) ?_
        clear hK K hX p0 p1 p2 f0 f1 f2 hfin
        try simp only [Act.put]
        refine wpAnyE_done (by kernel_rfl) ?_ _
        go_wp2_with fail
        go_meet
        exact HFIN.out
    · go_simp
      obtain ⟨W26', hW⟩ : ∃ X, X = WD.alloc (.cells #[.int .i64 0, .int .i64 0, .int .i64 0] 26) := ⟨_, rfl⟩
      obtain ⟨gb, hg⟩ : ∃ g, g = WD.heap.size := ⟨_, rfl⟩
      rw [← hW, ← hg]
      have hk : Below WD.heap.size WD W26' := by rw [hW]; exact bw_new (Below.refl _ _) _
      have H26 := Lib.hid (HH0.out.below hk)
      have B7 : Hid (Blk W26' gb 26 [.int .i64 0, .int .i64 0, .int .i64 0]) := by rw [hW, hg]; exact heap_alloc_new WD _
      have L7 : w.heap.size + 1 < gb := by rw [hg]; exact HH0.out.mem.2.1.lt
      refine hK.out _ _ (fun _ => H26.out) ?_
      clear hK K hk hW hg
      try simp only [Act.put]
      refine wpAnyE_ready (rs := [2, 6]) (by kernel_rfl) (by simp) ?_
      refine AllE.cons' (o := _) #[true, true, true, true, true, false, false, true, false, false] rfl (by kernel_rfl) (fun K hK => ?_) (AllE.cons' (o := _) #[true, true, false, true, true, false, true, true, false, false] rfl (by kernel_rfl) (fun K hK => ?_) AllE.nil)
      · go_simp
        refine (HO1.out _).mono ?_
        rintro e W27' ⟨rfl, hk⟩
        dsimp only
        have H27 := Lib.hid (H26.out.below hk)
        replace B7 := Lib.hid (B7.out.below hk B7.out.lt)
        refine hK.out _ _ (fun _ => H27.out) ?_
        clear hK K hk
        try simp only [Act.put]
        refine wpAnyE_ready (rs := [5, 6]) (by kernel_rfl) (by simp) ?_
        refine AllE.cons' (o := _) #[true, true, true, true, true, true, false, true, false, false] rfl (by kernel_rfl) (fun K hK => ?_) (AllE.cons' (o := _) #[true, true, true, true, true, false, true, true, false, false] rfl (by kernel_rfl) (fun K hK => ?_) AllE.nil)
        · go_simp
          refine (HO2.out _).mono ?_
          rintro e W28' ⟨rfl, hk⟩
          dsimp only
          have H28 := Lib.hid (H27.out.below hk)
          replace B7 := Lib.hid (B7.out.below hk B7.out.lt)
          refine hK.out _ _ (fun _ => H28.out) ?_
          clear hK K hk
          try simp only [Act.put]
          refine wpAnyE_ready (rs := [6]) (by kernel_rfl) (by simp) ?_
          refine AllE.cons' (o := _) #[true, true, true, true, true, true, true, true, false, false] rfl (by kernel_rfl) (fun K hK => ?_) AllE.nil
          go_simp
          obtain ⟨W29', hW⟩ : ∃ X, X = W28'.alloc (.cells #[.int .i64 0, .int .i64 0, .int .i64 0] 26) := ⟨_, rfl⟩
          obtain ⟨ga, hg⟩ : ∃ g, g = W28'.heap.size := ⟨_, rfl⟩
          rw [← hW, ← hg]
          have hk : Below W28'.heap.size W28' W29' := by rw [hW]; exact bw_new (Below.refl _ _) _
          have H29 := Lib.hid (H28.out.below hk)
          have B6 : Hid (Blk W29' ga 26 [.int .i64 0, .int .i64 0, .int .i64 0]) := by rw [hW, hg]; exact heap_alloc_new W28' _
          have L6 : w.heap.size + 1 < ga := by rw [hg]; exact H28.out.mem.2.1.lt
          have N7 : gb ≠ ga := by have := B7.out.lt; omega
          replace B7 := Lib.hid (B7.out.below hk B7.out.lt)
          refine hK.out _ _ (fun _ => H29.out) ?_
          clear hK K hk hW hg
          try simp only [Act.put]
          have hne : ga ≠ gb := N7.symm
          obtain ⟨p0, p1, p2⟩ := three_of B6.out
          have f0 := B6.out.frozen 0
          have f1 := B6.out.frozen 1
          have f2 := B6.out.frozen 2
          refine wpAnyE_ready (rs := [8]) (by kernel_rfl) (by simp) ?_
          refine AllE.cons' (o := _) #[true, true, true, true, true, true, true, true, true, false] rfl (by kernel_rfl) (fun K hK => ?_) AllE.nil
          go_simp
          obtain ⟨X1, hX⟩ : ∃ X, X = (((W29'.setCell ⟨ga, 0, none⟩ (.int .i64 (x * p))).setCell ⟨ga, 1, none⟩ (.int .i64 (y * p))).setCell ⟨ga, 2, none⟩ (.int .i64 (z * p))) := ⟨_, rfl⟩
          rw [← hX]
          have HX1 : Hid (CmHeld w a0 b0 a1 b1 a2 b2 c0 d0 c1 d1 c2 d2 X1) := by rw [hX]; exact H29.out.set3 ht L6 _ _ _
          have BA : Hid (Blk X1 ga 26 [.int .i64 (x * p), .int .i64 (y * p), .int .i64 (z * p)]) := by rw [hX]; exact ((B6.out.put 0 (.int .i64 (x * p))).put 1 (.int .i64 (y * p))).put 2 (.int .i64 (z * p))
          have BB : Hid (Blk X1 gb 26 [.int .i64 0, .int .i64 0, .int .i64 0]) := by rw [hX]; exact ((B7.out.far (p := ⟨ga, 0, none⟩) (Ne.symm hne) _).far (p := ⟨ga, 1, none⟩) (Ne.symm hne) _).far (p := ⟨ga, 2, none⟩) (Ne.symm hne) _
          refine hK.out _ _ (fun _ => HX1.out) ?_
          clear hK K hX p0 p1 p2 f0 f1 f2
          try simp only [Act.put]
          obtain ⟨p0, p1, p2⟩ := three_of BB.out
          have f0 := BB.out.frozen 0
          have f1 := BB.out.frozen 1
          have f2 := BB.out.frozen 2
          refine wpAnyE_ready (rs := [9]) (by kernel_rfl) (by simp) ?_
          refine AllE.cons' (o := _) #[true, true, true, true, true, true, true, true, true, true] rfl (by kernel_rfl) (fun K hK => ?_) AllE.nil
          go_simp
          obtain ⟨X2, hX⟩ : ∃ X, X = (((X1.setCell ⟨gb, 0, none⟩ (.int .i64 (u * q))).setCell ⟨gb, 1, none⟩ (.int .i64 (v * q))).setCell ⟨gb, 2, none⟩ (.int .i64 (t * q))) := ⟨_, rfl⟩
          rw [← hX]
          have hfin : CvRel w (x * p) (y * p) (z * p) (u * q) (v * q) (t * q) (.pointer (some ⟨ga, 0, none⟩)) (.pointer (some ⟨gb, 0, none⟩)) X2 := by
            rw [hX]
            exact ⟨ga, gb, rfl, rfl, ((BA.out.far (p := ⟨gb, 0, none⟩) hne _).far (p := ⟨gb, 1, none⟩) hne _).far (p := ⟨gb, 2, none⟩) hne _, ((BB.out.put 0 (.int .i64 (u * q))).put 1 (.int .i64 (v * q))).put 2 (.int .i64 (t * q)), hne, ⟨by omega, by omega⟩, ht, bw_set (bw_set (bw_set HX1.out.mem.2.2.2 (by omega) _) (by omega) _) (by omega) _⟩
          have HFIN := Lib.hid hfin
          refine hK.out _ _ (fun h => absurd rfl h) ?_
          clear hK K hX p0 p1 p2 f0 f1 f2 hfin
          try simp only [Act.put]
          refine wpAnyE_done (by kernel_rfl) ?_ _
          go_wp2_with fail
          go_meet
          exact HFIN.out
        · go_simp
          obtain ⟨W30', hW⟩ : ∃ X, X = W27'.alloc (.cells #[.int .i64 0, .int .i64 0, .int .i64 0] 26) := ⟨_, rfl⟩
          obtain ⟨ga, hg⟩ : ∃ g, g = W27'.heap.size := ⟨_, rfl⟩
          rw [← hW, ← hg]
          have hk : Below W27'.heap.size W27' W30' := by rw [hW]; exact bw_new (Below.refl _ _) _
          have H30 := Lib.hid (H27.out.below hk)
          have B6 : Hid (Blk W30' ga 26 [.int .i64 0, .int .i64 0, .int .i64 0]) := by rw [hW, hg]; exact heap_alloc_new W27' _
          have L6 : w.heap.size + 1 < ga := by rw [hg]; exact H27.out.mem.2.1.lt
          have N7 : gb ≠ ga := by have := B7.out.lt; omega
          replace B7 := Lib.hid (B7.out.below hk B7.out.lt)
          refine hK.out _ _ (fun _ => H30.out) ?_
          clear hK K hk hW hg
          try simp only [Act.put]
          refine wpAnyE_ready (rs := [5]) (by kernel_rfl) (by simp) ?_
          refine AllE.cons' (o := _) #[true, true, true, true, true, true, true, true, false, false] rfl (by kernel_rfl) (fun K hK => ?_) AllE.nil
          go_simp
          refine (HO2.out _).mono ?_
          rintro e W31' ⟨rfl, hk⟩
          dsimp only
          have H31 := Lib.hid (H30.out.below hk)
          replace B7 := Lib.hid (B7.out.below hk B7.out.lt)
          replace B6 := Lib.hid (B6.out.below hk B6.out.lt)
          refine hK.out _ _ (fun _ => H31.out) ?_
          clear hK K hk
          try simp only [Act.put]
          have hne : ga ≠ gb := N7.symm
          obtain ⟨p0, p1, p2⟩ := three_of B6.out
          have f0 := B6.out.frozen 0
          have f1 := B6.out.frozen 1
          have f2 := B6.out.frozen 2
          refine wpAnyE_ready (rs := [8]) (by kernel_rfl) (by simp) ?_
          refine AllE.cons' (o := _) #[true, true, true, true, true, true, true, true, true, false] rfl (by kernel_rfl) (fun K hK => ?_) AllE.nil
          go_simp
          obtain ⟨X1, hX⟩ : ∃ X, X = (((W31'.setCell ⟨ga, 0, none⟩ (.int .i64 (x * p))).setCell ⟨ga, 1, none⟩ (.int .i64 (y * p))).setCell ⟨ga, 2, none⟩ (.int .i64 (z * p))) := ⟨_, rfl⟩
          rw [← hX]
          have HX1 : Hid (CmHeld w a0 b0 a1 b1 a2 b2 c0 d0 c1 d1 c2 d2 X1) := by rw [hX]; exact H31.out.set3 ht L6 _ _ _
          have BA : Hid (Blk X1 ga 26 [.int .i64 (x * p), .int .i64 (y * p), .int .i64 (z * p)]) := by rw [hX]; exact ((B6.out.put 0 (.int .i64 (x * p))).put 1 (.int .i64 (y * p))).put 2 (.int .i64 (z * p))
          have BB : Hid (Blk X1 gb 26 [.int .i64 0, .int .i64 0, .int .i64 0]) := by rw [hX]; exact ((B7.out.far (p := ⟨ga, 0, none⟩) (Ne.symm hne) _).far (p := ⟨ga, 1, none⟩) (Ne.symm hne) _).far (p := ⟨ga, 2, none⟩) (Ne.symm hne) _
          refine hK.out _ _ (fun _ => HX1.out) ?_
          clear hK K hX p0 p1 p2 f0 f1 f2
          try simp only [Act.put]
          obtain ⟨p0, p1, p2⟩ := three_of BB.out
          have f0 := BB.out.frozen 0
          have f1 := BB.out.frozen 1
          have f2 := BB.out.frozen 2
          refine wpAnyE_ready (rs := [9]) (by kernel_rfl) (by simp) ?_
          refine AllE.cons' (o := _) #[true, true, true, true, true, true, true, true, true, true] rfl (by kernel_rfl) (fun K hK => ?_) AllE.nil
          go_simp
          obtain ⟨X2, hX⟩ : ∃ X, X = (((X1.setCell ⟨gb, 0, none⟩ (.int .i64 (u * q))).setCell ⟨gb, 1, none⟩ (.int .i64 (v * q))).setCell ⟨gb, 2, none⟩ (.int .i64 (t * q))) := ⟨_, rfl⟩
          rw [← hX]
          have hfin : CvRel w (x * p) (y * p) (z * p) (u * q) (v * q) (t * q) (.pointer (some ⟨ga, 0, none⟩)) (.pointer (some ⟨gb, 0, none⟩)) X2 := by
            rw [hX]
            exact ⟨ga, gb, rfl, rfl, ((BA.out.far (p := ⟨gb, 0, none⟩) hne _).far (p := ⟨gb, 1, none⟩) hne _).far (p := ⟨gb, 2, none⟩) hne _, ((BB.out.put 0 (.int .i64 (u * q))).put 1 (.int .i64 (v * q))).put 2 (.int .i64 (t * q)), hne, ⟨by omega, by omega⟩, ht, bw_set (bw_set (bw_set HX1.out.mem.2.2.2 (by omega) _) (by omega) _) (by omega) _⟩
          have HFIN := Lib.hid hfin
          refine hK.out _ _ (fun h => absurd rfl h) ?_
          clear hK K hX p0 p1 p2 f0 f1 f2 hfin
          try simp only [Act.put]
          refine wpAnyE_done (by kernel_rfl) ?_ _
          go_wp2_with fail
          go_meet
          exact HFIN.out
      · go_simp
        obtain ⟨W32', hW⟩ : ∃ X, X = W26'.alloc (.cells #[.int .i64 0, .int .i64 0, .int .i64 0] 26) := ⟨_, rfl⟩
        obtain ⟨ga, hg⟩ : ∃ g, g = W26'.heap.size := ⟨_, rfl⟩
        rw [← hW, ← hg]
        have hk : Below W26'.heap.size W26' W32' := by rw [hW]; exact bw_new (Below.refl _ _) _
        have H32 := Lib.hid (H26.out.below hk)
        have B6 : Hid (Blk W32' ga 26 [.int .i64 0, .int .i64 0, .int .i64 0]) := by rw [hW, hg]; exact heap_alloc_new W26' _
        have L6 : w.heap.size + 1 < ga := by rw [hg]; exact H26.out.mem.2.1.lt
        have N7 : gb ≠ ga := by have := B7.out.lt; omega
        replace B7 := Lib.hid (B7.out.below hk B7.out.lt)
        refine hK.out _ _ (fun _ => H32.out) ?_
        clear hK K hk hW hg
        try simp only [Act.put]
        refine wpAnyE_ready (rs := [2]) (by kernel_rfl) (by simp) ?_
        refine AllE.cons' (o := _) #[true, true, true, true, true, false, true, true, false, false] rfl (by kernel_rfl) (fun K hK => ?_) AllE.nil
        go_simp
        refine (HO1.out _).mono ?_
        rintro e W33' ⟨rfl, hk⟩
        dsimp only
        have H33 := Lib.hid (H32.out.below hk)
        replace B7 := Lib.hid (B7.out.below hk B7.out.lt)
        replace B6 := Lib.hid (B6.out.below hk B6.out.lt)
        refine hK.out _ _ (fun _ => H33.out) ?_
        clear hK K hk
        try simp only [Act.put]
        refine wpAnyE_ready (rs := [5]) (by kernel_rfl) (by simp) ?_
        refine AllE.cons' (o := _) #[true, true, true, true, true, true, true, true, false, false] rfl (by kernel_rfl) (fun K hK => ?_) AllE.nil
        go_simp
        refine (HO2.out _).mono ?_
        rintro e W34' ⟨rfl, hk⟩
        dsimp only
        have H34 := Lib.hid (H33.out.below hk)
        replace B7 := Lib.hid (B7.out.below hk B7.out.lt)
        replace B6 := Lib.hid (B6.out.below hk B6.out.lt)
        refine hK.out _ _ (fun _ => H34.out) ?_
        clear hK K hk
        try simp only [Act.put]
        have hne : ga ≠ gb := N7.symm
        obtain ⟨p0, p1, p2⟩ := three_of B6.out
        have f0 := B6.out.frozen 0
        have f1 := B6.out.frozen 1
        have f2 := B6.out.frozen 2
        refine wpAnyE_ready (rs := [8]) (by kernel_rfl) (by simp) ?_
        refine AllE.cons' (o := _) #[true, true, true, true, true, true, true, true, true, false] rfl (by kernel_rfl) (fun K hK => ?_) AllE.nil
        go_simp
        obtain ⟨X1, hX⟩ : ∃ X, X = (((W34'.setCell ⟨ga, 0, none⟩ (.int .i64 (x * p))).setCell ⟨ga, 1, none⟩ (.int .i64 (y * p))).setCell ⟨ga, 2, none⟩ (.int .i64 (z * p))) := ⟨_, rfl⟩
        rw [← hX]
        have HX1 : Hid (CmHeld w a0 b0 a1 b1 a2 b2 c0 d0 c1 d1 c2 d2 X1) := by rw [hX]; exact H34.out.set3 ht L6 _ _ _
        have BA : Hid (Blk X1 ga 26 [.int .i64 (x * p), .int .i64 (y * p), .int .i64 (z * p)]) := by rw [hX]; exact ((B6.out.put 0 (.int .i64 (x * p))).put 1 (.int .i64 (y * p))).put 2 (.int .i64 (z * p))
        have BB : Hid (Blk X1 gb 26 [.int .i64 0, .int .i64 0, .int .i64 0]) := by rw [hX]; exact ((B7.out.far (p := ⟨ga, 0, none⟩) (Ne.symm hne) _).far (p := ⟨ga, 1, none⟩) (Ne.symm hne) _).far (p := ⟨ga, 2, none⟩) (Ne.symm hne) _
        refine hK.out _ _ (fun _ => HX1.out) ?_
        clear hK K hX p0 p1 p2 f0 f1 f2
        try simp only [Act.put]
        obtain ⟨p0, p1, p2⟩ := three_of BB.out
        have f0 := BB.out.frozen 0
        have f1 := BB.out.frozen 1
        have f2 := BB.out.frozen 2
        refine wpAnyE_ready (rs := [9]) (by kernel_rfl) (by simp) ?_
        refine AllE.cons' (o := _) #[true, true, true, true, true, true, true, true, true, true] rfl (by kernel_rfl) (fun K hK => ?_) AllE.nil
        go_simp
        obtain ⟨X2, hX⟩ : ∃ X, X = (((X1.setCell ⟨gb, 0, none⟩ (.int .i64 (u * q))).setCell ⟨gb, 1, none⟩ (.int .i64 (v * q))).setCell ⟨gb, 2, none⟩ (.int .i64 (t * q))) := ⟨_, rfl⟩
        rw [← hX]
        have hfin : CvRel w (x * p) (y * p) (z * p) (u * q) (v * q) (t * q) (.pointer (some ⟨ga, 0, none⟩)) (.pointer (some ⟨gb, 0, none⟩)) X2 := by
          rw [hX]
          exact ⟨ga, gb, rfl, rfl, ((BA.out.far (p := ⟨gb, 0, none⟩) hne _).far (p := ⟨gb, 1, none⟩) hne _).far (p := ⟨gb, 2, none⟩) hne _, ((BB.out.put 0 (.int .i64 (u * q))).put 1 (.int .i64 (v * q))).put 2 (.int .i64 (t * q)), hne, ⟨by omega, by omega⟩, ht, bw_set (bw_set (bw_set HX1.out.mem.2.2.2 (by omega) _) (by omega) _) (by omega) _⟩
        have HFIN := Lib.hid hfin
        refine hK.out _ _ (fun h => absurd rfl h) ?_
        clear hK K hX p0 p1 p2 f0 f1 f2 hfin
        try simp only [Act.put]
        refine wpAnyE_done (by kernel_rfl) ?_ _
        go_wp2_with fail
        go_meet
        exact HFIN.out
    -- }
  case rest =>
    clear HM1 HM2 HM3 HM4 HBO HP1 HP2 HGC HO1 HO2 HQ hgz hs2
    obtain ⟨ga, gb, rfl, rfl, hcv⟩ := hcut
    have HV := Lib.hid hcv
    obtain ⟨bx, by_, bz, bu, bv, bt⟩ := HBX.out
    obtain ⟨xp, hxp⟩ : ∃ k, k = x * p := ⟨_, rfl⟩
    obtain ⟨yp, hyp⟩ : ∃ k, k = y * p := ⟨_, rfl⟩
    obtain ⟨zp, hzp⟩ : ∃ k, k = z * p := ⟨_, rfl⟩
    obtain ⟨uq, huq⟩ : ∃ k, k = u * q := ⟨_, rfl⟩
    obtain ⟨vq, hvq⟩ : ∃ k, k = v * q := ⟨_, rfl⟩
    obtain ⟨tq, htq⟩ : ∃ k, k = t * q := ⟨_, rfl⟩
    rw [← hxp, ← hyp, ← hzp, ← huq, ← hvq, ← htq] at HRD HV
    rw [← hxp] at bx
    rw [← hyp] at by_
    rw [← hzp] at bz
    rw [← huq] at bu
    rw [← hvq] at bv
    rw [← htq] at bt
    clear hxp hyp hzp huq hvq htq hcv HBX HL
    obtain ⟨bx0, bx1⟩ := bx
    obtain ⟨by0, by1⟩ := by_
    obtain ⟨bz0, bz1⟩ := bz
    obtain ⟨bu0, bu1⟩ := bu
    obtain ⟨bv0, bv1⟩ := bv
    obtain ⟨bt0, bt1⟩ := bt
    have hw0 : IntKind.i64.wrap (xp - uq) = xp - uq := IntWalk.i64_in _ (by omega)
    have hw1 : IntKind.i64.wrap (yp - vq) = yp - vq := IntWalk.i64_in _ (by omega)
    have hw2 : IntKind.i64.wrap (zp - tq) = zp - tq := IntWalk.i64_in _ (by omega)
    have HW := Lib.hid (And.intro hw0 (And.intro hw1 hw2))
    clear hw0 hw1 hw2
    go_wp2_with fail
    go_loopw [50] (fun v wr => CwRel w ga gb xp yp zp uq vq tq v wr) (fun v _ => 3 - (intOf v).toNat)
    case atStart => exact ⟨0, by omega, rfl, HV.out⟩
    case round =>
      clear HV
      obtain ⟨k, hk, rfl, hmem⟩ := hrel
      have HM := Lib.hid hmem
      have hsg : ga < wr.heap.size := hmem.1.lt
      have hsh : gb < wr.heap.size := hmem.2.1.lt
      have hgh : ga ≠ gb := hmem.2.2.1
      clear hmem
      by_cases hlt : k < 3
      · rcases (show k = 0 ∨ k = 1 ∨ k = 2 by omega) with rfl | rfl | rfl
        · have HM2 : Hid (CvMem w ga gb (xp) (yp) (zp) uq vq tq wr) := HM.out
          obtain ⟨c0, c1, c2⟩ := three_of HM2.out.1
          obtain ⟨e0, e1, e2⟩ := three_of HM2.out.2.1
          have f0 := HM2.out.1.frozen 0
          obtain ⟨hw0, hw1, hw2⟩ := HW.out
          go_upto_region 11 with fail
          go_region
          all_goals
            clear hw0 hw1 hw2 c0 c1 c2 e0 e1 e2
            go_wp2
            go_roundw
            case rel =>
              exact CwRel.one ((HM2.out.put (xp - uq)).1.drew)
            case measure => simp [intOf]
        · have HM2 : Hid (CvMem w ga gb (xp - uq) (yp) (zp) uq vq tq wr) := HM.out
          obtain ⟨c0, c1, c2⟩ := three_of HM2.out.1
          obtain ⟨e0, e1, e2⟩ := three_of HM2.out.2.1
          have f0 := HM2.out.1.frozen 1
          obtain ⟨hw0, hw1, hw2⟩ := HW.out
          go_upto_region 11 with fail
          go_region
          all_goals
            clear hw0 hw1 hw2 c0 c1 c2 e0 e1 e2
            go_wp2
            go_roundw
            case rel =>
              exact CwRel.two ((HM2.out.put (yp - vq)).2.1.drew)
            case measure => simp [intOf]
        · have HM2 : Hid (CvMem w ga gb (xp - uq) (yp - vq) (zp) uq vq tq wr) := HM.out
          obtain ⟨c0, c1, c2⟩ := three_of HM2.out.1
          obtain ⟨e0, e1, e2⟩ := three_of HM2.out.2.1
          have f0 := HM2.out.1.frozen 2
          obtain ⟨hw0, hw1, hw2⟩ := HW.out
          go_upto_region 11 with fail
          go_region
          all_goals
            clear hw0 hw1 hw2 c0 c1 c2 e0 e1 e2
            go_wp2
            go_roundw
            case rel =>
              exact CwRel.three ((HM2.out.put (zp - tq)).2.2.drew)
            case measure => simp [intOf]
      · obtain rfl : k = 3 := by omega
        have HM2 : Hid (CvMem w ga gb (xp - uq) (yp - vq) (zp - tq) uq vq tq wr) := HM.out
        obtain ⟨A0, hA0⟩ : ∃ k, k = xp - uq := ⟨_, rfl⟩
        obtain ⟨A1, hA1⟩ : ∃ k, k = yp - vq := ⟨_, rfl⟩
        obtain ⟨A2, hA2⟩ : ∃ k, k = zp - tq := ⟨_, rfl⟩
        rw [← hA0, ← hA1, ← hA2] at HM2 HRD
        have bA0 : -4000000 ≤ A0 ∧ A0 ≤ 4000000 := by omega
        have bA1 : -4000000 ≤ A1 ∧ A1 ≤ 4000000 := by omega
        have bA2 : -4000000 ≤ A2 ∧ A2 ≤ 4000000 := by omega
        clear hA0 hA1 hA2 HM HW bx0 bx1 by0 by1 bz0 bz1 bu0 bu1 bv0 bv1 bt0 bt1
        have hg1 := fun W => igcd_any A0 A1 W (by omega) (by omega) (by omega) (by omega)
        have hb1 : Nat.gcd A0.natAbs A1.natAbs ≤ 4000000 ∨ A0 = 0 := by
          rcases Nat.eq_zero_or_pos A0.natAbs with h | h
          · exact .inr (by omega)
          · exact .inl (Nat.le_trans (Nat.le_of_dvd h (Nat.gcd_dvd_left _ _)) (by omega))
        have hb1' : Nat.gcd A0.natAbs A1.natAbs ≤ 4000000 := by
          rcases hb1 with h | h
          · exact h
          · rw [h, Int.natAbs_zero, Nat.gcd_zero_left]; omega
        have hg2 := fun W => igcd_any (Nat.gcd A0.natAbs A1.natAbs : Int) A2 W (by omega) (by omega) (by omega) (by omega)
        rw [Int.natAbs_natCast] at hg2
        unfold redV at HRD
        obtain ⟨G1, hG1⟩ : ∃ G, G = Nat.gcd A0.natAbs A1.natAbs := ⟨_, rfl⟩
        rw [← hG1] at hg1 hg2 hb1' HRD
        obtain ⟨G, hG⟩ : ∃ G, G = Nat.gcd G1 A2.natAbs := ⟨_, rfl⟩
        rw [← hG] at hg2 HRD
        have HG1 := Lib.hid hg1
        have HG2 := Lib.hid hg2
        clear hg1 hg2 hG1 hG hb1 hb1'
        obtain ⟨c0, c1, c2⟩ := three_of HM2.out.1
        go_upto_region 13 with fail
        go_quiet ((go_at_call 43; first | (go_at_call_of 43 A0; exact Calls.quiet_of (HG1.out _)) | exact Calls.quiet_of (HG2.out _)))
        clear c0 c1 c2 HG1 HG2
        obtain ⟨W9, hW9⟩ : ∃ W9, W9 = wr.drewN nq := ⟨_, rfl⟩
        have HM9 : Hid (CvMem w ga gb A0 A1 A2 uq vq tq W9) := by rw [hW9]; exact HM2.out.below (below_drewN _ _ _)
        rw [← hW9]
        clear hW9 HM2
        by_cases hG1 : 1 < G
        · have hGi : (1 : Int) < (G : Int) := by omega
          obtain ⟨t0, t01, t02⟩ := tdiv_wrap bA0 hGi
          obtain ⟨t1, t11, t12⟩ := tdiv_wrap bA1 hGi
          obtain ⟨t2, t21, t22⟩ := tdiv_wrap bA2 hGi
          rw [if_pos hG1] at HRD
          obtain ⟨e1, e2, e3⟩ : A0.tdiv (G : Int) = r0 ∧ A1.tdiv (G : Int) = r1 ∧ A2.tdiv (G : Int) = r2 := by
            have h := HRD.out
            injection h with h1 h2
            injection h2 with h2 h3
            exact ⟨h1, h2, h3⟩
          rw [e1] at t0 t01 t02
          rw [e2] at t1 t11 t12
          rw [e3] at t2 t21 t22
          have HT := Lib.hid (And.intro t0 (And.intro t1 (And.intro t2 (And.intro e1 (And.intro e2 e3)))))
          have hGz : ((G : Int) == 0) = false := by rw [beq_eq_false_iff_ne]; omega
          clear t0 t1 t2 e1 e2 e3 t01 t02 t11 t12 t21 t22 hG1 HRD
          go_wp2_with fail
          go_loopw [72] (fun v wr => CdRel w ga gb A0 A1 A2 r0 r1 r2 uq vq tq v wr) (fun v _ => 3 - (intOf v).toNat)
          case atStart => exact ⟨0, by omega, rfl, HM9.out⟩
          case round =>
            clear HM9
            obtain ⟨k, hk, rfl, hmem⟩ := hrel
            have HM := Lib.hid hmem
            have hsg : ga < wr.heap.size := hmem.1.lt
            clear hmem
            by_cases hlt : k < 3
            · rcases (show k = 0 ∨ k = 1 ∨ k = 2 by omega) with rfl | rfl | rfl
              · have HM3 : Hid (CvMem w ga gb A0 A1 A2 uq vq tq wr) := HM.out
                obtain ⟨c0, c1, c2⟩ := three_of HM3.out.1
                have f0 := HM3.out.1.frozen 0
                obtain ⟨t0, t1, t2, e1, e2, e3⟩ := HT.out
                go_upto_region 19 with fail
                clear t0 t1 t2 e1 e2 e3 c0 c1 c2 f0
                go_wp2
                go_roundw
                case rel => exact CdRel.one ((HM3.out.put r0).1)
                case measure => simp [intOf]
              · have HM3 : Hid (CvMem w ga gb r0 A1 A2 uq vq tq wr) := HM.out
                obtain ⟨c0, c1, c2⟩ := three_of HM3.out.1
                have f0 := HM3.out.1.frozen 1
                obtain ⟨t0, t1, t2, e1, e2, e3⟩ := HT.out
                go_upto_region 19 with fail
                clear t0 t1 t2 e1 e2 e3 c0 c1 c2 f0
                go_wp2
                go_roundw
                case rel => exact CdRel.two ((HM3.out.put r1).2.1)
                case measure => simp [intOf]
              · have HM3 : Hid (CvMem w ga gb r0 r1 A2 uq vq tq wr) := HM.out
                obtain ⟨c0, c1, c2⟩ := three_of HM3.out.1
                have f0 := HM3.out.1.frozen 2
                obtain ⟨t0, t1, t2, e1, e2, e3⟩ := HT.out
                go_upto_region 19 with fail
                clear t0 t1 t2 e1 e2 e3 c0 c1 c2 f0
                go_wp2
                go_roundw
                case rel => exact CdRel.three ((HM3.out.put r2).2.2)
                case measure => simp [intOf]
            · obtain rfl : k = 3 := by omega
              have HM3 : Hid (CvMem w ga gb r0 r1 r2 uq vq tq wr) := HM.out
              obtain ⟨c0, c1, c2⟩ := three_of HM3.out.1
              clear HT HM
              go_wp2_with fail
              refine (HS.out _ (HM3.out.2.2.2.2.1.below HM3.out.2.2.2.2.2)).mono ?_
              rintro e w9 ⟨rfl, hb⟩
              have HB := Lib.hid (HM3.out.below hb).2.2.2.2.2
              clear hb c0 c1 c2
              go_wp2
              go_ret2
              exact ⟨rfl, HB.out⟩
        · have hGi : (G : Int) ≤ 1 := by omega
          rw [if_neg hG1] at HRD
          obtain ⟨e1, e2, e3⟩ : A0 = r0 ∧ A1 = r1 ∧ A2 = r2 := by
            have h := HRD.out
            injection h with h1 h2
            injection h2 with h2 h3
            exact ⟨h1, h2, h3⟩
          subst e1
          subst e2
          subst e3
          obtain ⟨c0, c1, c2⟩ := three_of HM9.out.1
          clear hG1 HRD
          go_wp2_with fail
          refine (HS.out _ (HM9.out.2.2.2.2.1.below HM9.out.2.2.2.2.2)).mono ?_
          rintro e w9 ⟨rfl, hb⟩
          have HB := Lib.hid (HM9.out.below hb).2.2.2.2.2
          clear hb c0 c1 c2
          go_wp2
          go_ret2
          exact ⟨rfl, HB.out⟩
end Go.Proofs.YtplonkeipdbchaaGreatDoor
