/- Part 39 of 42 of the proof of the law: contracts of the functions that it reaches, and plain facts. Conditions: those that each contract names. -/
import Derived.Test.YtendjepcjmfmfaaGreatDoorRatB38
import Derived.Deep.QuietTactic
import Derived.BigQuiet
namespace Go.Proofs.YtendjepcjmfmfaaGreatDoor
open Go.RowKit
theorem lcmA_nat (X B : Nat) : lcmA (X : Int) (B : Int) = ((Nat.lcm X B : Nat) : Int) := by
 unfold lcmA Nat.lcm
 rw [Int.natAbs_natCast, Int.natAbs_natCast, ← Nat.div_mul_right_comm (Nat.gcd_dvd_left X B) B]
 rfl
theorem lcmA_least {E b k : Int} (hE : 1 ≤ E) (hb : 1 ≤ b) (h1 : E ∣ k) (h2 : b ∣ k) : lcmA E b ∣ k := by
 obtain ⟨X, rfl⟩ : ∃ X : Nat, E = (X : Int) := ⟨E.toNat, by omega⟩
 obtain ⟨B, rfl⟩ : ∃ X : Nat, b = (X : Int) := ⟨b.toNat, by omega⟩
 rw [lcmA_nat]
 have h3 := Nat.lcm_dvd (Int.ofNat_dvd_left.1 h1) (Int.ofNat_dvd_left.1 h2)
 exact Int.ofNat_dvd_left.2 h3
theorem lcmA_left {E b : Int} (hE : 1 ≤ E) (hb : 1 ≤ b) : E ∣ lcmA E b ∧ b ∣ lcmA E b := by
 obtain ⟨X, rfl⟩ : ∃ X : Nat, E = (X : Int) := ⟨E.toNat, by omega⟩
 obtain ⟨B, rfl⟩ : ∃ X : Nat, b = (X : Int) := ⟨b.toNat, by omega⟩
 rw [lcmA_nat]
 exact ⟨Int.ofNat_dvd.2 (Nat.dvd_lcm_left X B), Int.ofNat_dvd.2 (Nat.dvd_lcm_right X B)⟩
theorem cop_dvd {a b k : Int} (h : Nat.gcd a.natAbs b.natAbs = 1) (hr : (a * k).tmod b = 0) : b ∣ k := by
 have h1 : b ∣ a * k := Int.dvd_of_tmod_eq_zero hr
 have h2 : b.natAbs ∣ a.natAbs * k.natAbs := by rw [← Int.natAbs_mul]; exact Int.natAbs_dvd_natAbs.2 h1
 have h3 : Nat.Coprime b.natAbs a.natAbs := by rw [Nat.coprime_comm]; exact h
 exact Int.natAbs_dvd_natAbs.1 (h3.dvd_of_dvd_mul_left h2)
theorem exps_fit {a0 b0 a1 b1 a2 b2 x y z D : Int} (hS : ∀ q ∈ [(a0, b0), (a1, b1), (a2, b2)], Right q.1 q.2) (hp : prt [(a0, b0), (a1, b1), (a2, b2)] = some ([x, y, z], D)) :
  ((a0 * D).tmod b0 = 0 ∧ (a1 * D).tmod b1 = 0 ∧ (a2 * D).tmod b2 = 0) ∧ ((a0 * D).tdiv b0 = x ∧ (a1 * D).tdiv b1 = y ∧ (a2 * D).tdiv b2 = z) ∧
  ∀ d : Int, 1 ≤ d → (a0 * d).tmod b0 = 0 → (a1 * d).tmod b1 = 0 → (a2 * d).tmod b2 = 0 → D ≤ d := by
 obtain ⟨E1, E2, e1, e2, e3, ⟨r1, r2, r3⟩, ⟨ex, ey, ez⟩, _⟩ := prt_inv hS hp
 obtain ⟨p0, _, _, _, c0⟩ := hS (a0, b0) (by simp)
 obtain ⟨p1, _, _, _, c1⟩ := hS (a1, b1) (by simp)
 obtain ⟨p2, _, _, _, c2⟩ := hS (a2, b2) (by simp)
 dsimp only at p0 p1 p2 c0 c1 c2
 have d0 : b0 ∣ D := by
  have h1 := (lcmA_left (E := 1) (b := b0) (by decide) (by omega)).2
  have h2 := (lcmA_left (E := E1) (b := b1) r1.1 (by omega)).1
  have h3 := (lcmA_left (E := E2) (b := b2) r2.1 (by omega)).1
  rw [e1] at h1; rw [e2] at h2; rw [e3] at h3
  exact Int.dvd_trans h1 (Int.dvd_trans h2 h3)
 have d1 : b1 ∣ D := by
  have h2 := (lcmA_left (E := E1) (b := b1) r1.1 (by omega)).2
  have h3 := (lcmA_left (E := E2) (b := b2) r2.1 (by omega)).1
  rw [e2] at h2; rw [e3] at h3
  exact Int.dvd_trans h2 h3
 have d2 : b2 ∣ D := by
  have h3 := (lcmA_left (E := E2) (b := b2) r2.1 (by omega)).2
  rwa [e3] at h3
 have one : ∀ {a b : Int}, 0 < b → b ∣ D → (a * D).tmod b = 0 ∧ (a * D).tdiv b = a * (D / b) := fun {a b} hb hd => by
  obtain ⟨k, rfl⟩ := hd
  rw [show a * (b * k) = b * (a * k) by rw [Int.mul_left_comm], Int.mul_ediv_cancel_left k (by omega)]
  exact ⟨Int.mul_tmod_right b (a * k), Int.mul_tdiv_cancel_left (a * k) (by omega)⟩
 refine ⟨⟨(one p0 d0).1, (one p1 d1).1, (one p2 d2).1⟩, ⟨by rw [ex]; exact (one p0 d0).2, by rw [ey]; exact (one p1 d1).2, by rw [ez]; exact (one p2 d2).2⟩, fun d hd h0 h1 h2 => ?_⟩
 have k0 := cop_dvd c0 h0
 have k1 := cop_dvd c1 h1
 have k2 := cop_dvd c2 h2
 have q1 : E1 ∣ d := by rw [← e1]; exact lcmA_least (by decide) (by omega) (Int.one_dvd d) k0
 have q2 : E2 ∣ d := by rw [← e2]; exact lcmA_least r1.1 (by omega) q1 k1
 have q3 : D ∣ d := by rw [← e3]; exact lcmA_least r2.1 (by omega) q2 k2
 exact Int.le_of_dvd (by omega) q3
def awB (p q r : Bool) : Nat → Bool
 | 0 => true
 | 1 => p
 | 2 => p && q
 | _ => p && (q && r)
theorem awB_yes {p q r : Bool} (h : true = awB p q r 3) : p = true ∧ q = true ∧ r = true := by
 cases p <;> cases q <;> cases r <;> first | exact ⟨rfl, rfl, rfl⟩ | exact absurd h (by decide)
def LeRel (w : World) (a0 b0 a1 b1 a2 b2 D : Int) (i : Value) (W : World) : Prop :=
 ∃ d : Int, i = .int .i64 d ∧ (1 ≤ d ∧ d ≤ D) ∧ Hp w [(w.heap.size, 49, [.int .i64 a0, .int .i64 b0, .int .i64 a1, .int .i64 b1, .int .i64 a2, .int .i64 b2]), (w.heap.size + 1, 57, [.int .i64 0, .int .i64 0, .int .i64 0]), (w.heap.size + 1 + 1, 120, [.int .i64 a0, .int .i64 b0, .int .i64 a1, .int .i64 b1, .int .i64 a2, .int .i64 b2])] W
def LiRel (w : World) (a0 b0 a1 b1 a2 b2 : Int) (p q r : Bool) (i v : Value) (W : World) : Prop :=
 ∃ k : Nat, k ≤ 3 ∧ i = .int .i64 (k : Int) ∧ v = .bool (awB p q r k) ∧ Hp w [(w.heap.size, 49, [.int .i64 a0, .int .i64 b0, .int .i64 a1, .int .i64 b1, .int .i64 a2, .int .i64 b2]), (w.heap.size + 1, 57, [.int .i64 0, .int .i64 0, .int .i64 0]), (w.heap.size + 1 + 1, 120, [.int .i64 a0, .int .i64 b0, .int .i64 a1, .int .i64 b1, .int .i64 a2, .int .i64 b2])] W
def LxC (x y z : Int) : Nat → List Value
 | 0 => [.int .i64 0, .int .i64 0, .int .i64 0]
 | 1 => [.int .i64 x, .int .i64 0, .int .i64 0]
 | 2 => [.int .i64 x, .int .i64 y, .int .i64 0]
 | _ => [.int .i64 x, .int .i64 y, .int .i64 z]
def LjRel (w : World) (a0 b0 a1 b1 a2 b2 x y z : Int) (i : Value) (W : World) : Prop :=
 ∃ k : Nat, k ≤ 3 ∧ i = .int .i64 (k : Int) ∧ Hp w [(w.heap.size, 49, [.int .i64 a0, .int .i64 b0, .int .i64 a1, .int .i64 b1, .int .i64 a2, .int .i64 b2]), (w.heap.size + 1, 57, (LxC x y z k)), (w.heap.size + 1 + 1, 120, [.int .i64 a0, .int .i64 b0, .int .i64 a1, .int .i64 b1, .int .i64 a2, .int .i64 b2])] W
set_option maxRecDepth 1000000 in
set_option maxHeartbeats 8000000 in
theorem lexp_any (a0 b0 a1 b1 a2 b2 x y z D : Int) (w : World) (hS : ∀ q ∈ [(a0, b0), (a1, b1), (a2, b2)], Right q.1 q.2) (hp : prt [(a0, b0), (a1, b1), (a2, b2)] = some ([x, y, z], D)) :
  Calls Tryz.prog 20 #[szv a0 b0 a1 b1 a2 b2] w fun e w' => e = .returned (.tuple #[.agg #[.int .i64 x, .int .i64 y, .int .i64 z], .int .i64 D]) ∧ Below w.heap.size w w' := by
 obtain ⟨⟨f0, f1, f2⟩, ⟨q0, q1, q2⟩, fl⟩ := exps_fit hS hp
 obtain ⟨_, _, -, -, -, ⟨-, -, hD⟩, -, bx, by_, bz⟩ := prt_inv hS hp
 obtain ⟨p0, p0', n0, n0', -⟩ := hS (a0, b0) (by simp)
 obtain ⟨p1, p1', n1, n1', -⟩ := hS (a1, b1) (by simp)
 obtain ⟨p2, p2', n2, n2', -⟩ := hS (a2, b2) (by simp)
 dsimp only at p0 p0' n0 n0' p1 p1' n1 n1' p2 p2' n2 n2'
 have mulb : ∀ {a d : Int}, -1000000 ≤ a → a ≤ 1000000 → 1 ≤ d → d ≤ 240 → -240000000 ≤ a * d ∧ a * d ≤ 240000000 := fun {a d} h1 h2 h3 h4 => by
  have := Int.mul_le_mul_of_nonneg_right h2 (show 0 ≤ d by omega)
  have := Int.mul_le_mul_of_nonneg_right h1 (show 0 ≤ d by omega)
  omega
 have hrb : ∀ {m b : Int}, -240000000 ≤ m ∧ m ≤ 240000000 → 0 < b → IntKind.i64.wrap (m.tmod b) = m.tmod b := fun {m b} hm hb => IntWalk.i64_in _ (by
  have h1 : (m.tmod b).natAbs ≤ m.natAbs := by rw [Int.natAbs_tmod]; exact Nat.mod_le _ _
  omega)
 have hne : (b0 == 0) = false ∧ (b1 == 0) = false ∧ (b2 == 0) = false := ⟨by rw [beq_eq_false_iff_ne]; omega, by rw [beq_eq_false_iff_ne]; omega, by rw [beq_eq_false_iff_ne]; omega⟩
 have hnz : ¬ b0 = 0 ∧ ¬ b1 = 0 ∧ ¬ b2 = 0 := ⟨by omega, by omega, by omega⟩
 have HNE := Lib.hid (And.intro hne hnz)
 have HF := Lib.hid (And.intro f0 (And.intro f1 f2))
 have HQ := Lib.hid (And.intro q0 (And.intro q1 q2))
 have HFL := Lib.hid fl
 have HD := Lib.hid hD
 have HB := Lib.hid (And.intro bx (And.intro by_ bz))
 -- what each number d shows of the three products
 have hstep : ∀ d : Int, 1 ≤ d ∧ d ≤ D → ∃ v0 v1 v2 r0 r1 r2 : Int, (v0 = a0 * d ∧ v1 = a1 * d ∧ v2 = a2 * d) ∧ (r0 = v0.tmod b0 ∧ r1 = v1.tmod b1 ∧ r2 = v2.tmod b2) ∧ (IntKind.i64.wrap (a0 * d) = v0 ∧ IntKind.i64.wrap (a1 * d) = v1 ∧ IntKind.i64.wrap (a2 * d) = v2) ∧ (IntKind.i64.wrap r0 = r0 ∧ IntKind.i64.wrap r1 = r1 ∧ IntKind.i64.wrap r2 = r2) := fun d hd => by
  have k0 := mulb n0 n0' hd.1 (by omega)
  have k1 := mulb n1 n1' hd.1 (by omega)
  have k2 := mulb n2 n2' hd.1 (by omega)
  exact ⟨_, _, _, _, _, _, ⟨rfl, rfl, rfl⟩, ⟨rfl, rfl, rfl⟩, ⟨IntWalk.i64_in _ (by omega), IntWalk.i64_in _ (by omega), IntWalk.i64_in _ (by omega)⟩, ⟨hrb k0 p0, hrb k1 p1, hrb k2 p2⟩⟩
 have HST := Lib.hid hstep
 have hm0 := (((Hp.start w).new 49 [.int .i64 a0, .int .i64 b0, .int .i64 a1, .int .i64 b1, .int .i64 a2, .int .i64 b2]).new 57 [.int .i64 0, .int .i64 0, .int .i64 0]).new 120 [.int .i64 a0, .int .i64 b0, .int .i64 a1, .int .i64 b1, .int .i64 a2, .int .i64 b2]
 simp only [World.size_alloc, List.nil_append, List.cons_append] at hm0
 have HM0 := Lib.hid hm0
 obtain ⟨y0, y1, y2, y3, y4, y5⟩ := six_of (hm0.at_ 0 rfl)
 clear hm0 hS hp f0 f1 f2 q0 q1 q2 fl hD bx by_ bz p0 p0' n0 n0' p1 p1' n1 n1' p2 p2' n2 n2' mulb hrb hne hnz hstep
 go_enter Tryz.func20, Tryz.ntmps20
 go_wp2_with fail
 go_loopw [3] (fun i wr => LeRel w a0 b0 a1 b1 a2 b2 D i wr) (fun i _ => (D - intOf i).toNat)
 case atStart => exact ⟨1, rfl, by have := HD.out; omega, HM0.out⟩
 case round =>
  obtain ⟨d, rfl, hd, hm⟩ := hrel
  have HM := Lib.hid hm
  obtain ⟨v0, v1, v2, r0, r1, r2, em, er, ew, ez⟩ := HST.out d hd
  have HEM := Lib.hid em
  have HER := Lib.hid er
  have HEW := Lib.hid ew
  have HEZ := Lib.hid ez
  have HDD := Lib.hid hd
  obtain ⟨t0, ht0⟩ : ∃ t, t = (r0 == 0) := ⟨_, rfl⟩
  obtain ⟨t1, ht1⟩ : ∃ t, t = (r1 == 0) := ⟨_, rfl⟩
  obtain ⟨t2, ht2⟩ : ∃ t, t = (r2 == 0) := ⟨_, rfl⟩
  have HT0 := Lib.hid ht0
  have HT1 := Lib.hid ht1
  have HT2 := Lib.hid ht2
  clear hm HM0 y0 y1 y2 y3 y4 y5 em er ew ez hd ht0 ht1 ht2
  go_wp2_with fail
  go_loopw [6, 5] (fun i v wx => LiRel w a0 b0 a1 b1 a2 b2 t0 t1 t2 i v wx) (fun i _ _ => 3 - (intOf i).toNat)
  case atStart => exact ⟨0, by omega, rfl, rfl, HM.out⟩
  case round =>
   obtain ⟨k, hk, rfl, rfl, hm⟩ := hrel
   have HN := Lib.hid hm
   obtain ⟨c0, c1, c2, c3, c4, c5⟩ := six_of (hm.at_ 2 rfl)
   clear hm HM
   rcases (show k = 0 ∨ k = 1 ∨ k = 2 ∨ k = 3 by omega) with rfl | rfl | rfl | rfl
   ·rw [show awB t0 t1 t2 0 = true from rfl]
    clear hk
    obtain ⟨w0', w1', w2'⟩ := HEW.out
    obtain ⟨x0', x1', x2'⟩ := HEZ.out
    obtain ⟨⟨b0', b1', b2'⟩, g0', g1', g2'⟩ := HNE.out
    have hr := HER.out.1.symm
    have ht := HT0.out.symm
    go_wp2_with fail
    go_quiet (fail)
    go_wp2_with fail
    go_roundw
    case rel => exact ⟨1, by omega, rfl, rfl, HN.out.drewN _⟩
    case measure => simp [intOf]
   ·rw [show awB t0 t1 t2 1 = t0 from rfl]
    clear hk
    cases t0
    ·go_wp2_with fail
     go_quiet (fail)
     go_wp2_with fail
     go_roundw
     case rel => exact ⟨2, by omega, rfl, by cases t1 <;> rfl, HN.out.drewN _⟩
     case measure => simp [intOf]
    ·obtain ⟨w0', w1', w2'⟩ := HEW.out
     obtain ⟨x0', x1', x2'⟩ := HEZ.out
     obtain ⟨⟨b0', b1', b2'⟩, g0', g1', g2'⟩ := HNE.out
     have hr := HER.out.2.1.symm
     have ht := HT1.out.symm
     go_wp2_with fail
     go_quiet (fail)
     go_wp2_with fail
     go_roundw
     case rel => exact ⟨2, by omega, rfl, rfl, HN.out.drewN _⟩
     case measure => simp [intOf]
   ·obtain ⟨u, hu⟩ : ∃ u, u = awB t0 t1 t2 2 := ⟨_, rfl⟩
    rw [← hu]
    have HU := Lib.hid hu
    clear hk hu
    cases u
    ·go_wp2_with fail
     go_quiet (fail)
     go_wp2_with fail
     go_roundw
     case rel => exact ⟨3, by omega, rfl, by
      have h := HU.out
      cases t0 <;> cases t1 <;> cases t2 <;> first | rfl | exact absurd h (by decide), HN.out.drewN _⟩
     case measure => simp [intOf]
    ·obtain ⟨w0', w1', w2'⟩ := HEW.out
     obtain ⟨x0', x1', x2'⟩ := HEZ.out
     obtain ⟨⟨b0', b1', b2'⟩, g0', g1', g2'⟩ := HNE.out
     have hr := HER.out.2.2.symm
     have ht := HT2.out.symm
     go_wp2_with fail
     go_quiet (fail)
     go_wp2_with fail
     go_roundw
     case rel => exact ⟨3, by omega, rfl, by
      have h := HU.out
      cases t0 <;> cases t1 <;> cases t2 <;> first | rfl | exact absurd h (by decide), HN.out.drewN _⟩
     case measure => simp [intOf]
   ·obtain ⟨u, hu⟩ : ∃ u, u = awB t0 t1 t2 3 := ⟨_, rfl⟩
    rw [← hu]
    have HU := Lib.hid hu
    clear hk hu c0 c1 c2 c3 c4 c5
    cases u
    ·have HNX := Lib.hid (show d ≠ D by
      rintro rfl
      obtain ⟨e0, e1, e2⟩ := HEM.out
      obtain ⟨s0, s1, s2⟩ := HER.out
      obtain ⟨z0, z1, z2⟩ := HF.out
      have h0 : t0 = true := by rw [HT0.out, s0, e0, z0]; rfl
      have h1 : t1 = true := by rw [HT1.out, s1, e1, z1]; rfl
      have h2 : t2 = true := by rw [HT2.out, s2, e2, z2]; rfl
      have h := HU.out
      rw [h0, h1, h2] at h
      exact absurd h (by decide))
     obtain ⟨d1, hd1⟩ : ∃ e, e = d + 1 := ⟨_, rfl⟩
     have hwd : IntKind.i64.wrap (d + 1) = d1 := by rw [hd1]; exact IntWalk.i64_in _ (by have := HDD.out; have := HD.out; omega)
     have HD1 := Lib.hid hd1
     clear hd1
     go_wp2_with fail
     go_roundw
     case rel => exact ⟨d1, rfl, by have := HDD.out; have := HNX.out; have := HD1.out; omega, HN.out⟩
     case measure =>
      have := HDD.out; have := HNX.out; have := HD1.out
      simp only [intOf]; omega
    ·obtain rfl : d = D := by
      obtain ⟨h0, h1, h2⟩ := awB_yes HU.out
      obtain ⟨e0, e1, e2⟩ := HEM.out
      obtain ⟨s0, s1, s2⟩ := HER.out
      have z0 : r0 = 0 := by have := HT0.out; rw [h0] at this; exact eq_of_beq this.symm
      have z1 : r1 = 0 := by have := HT1.out; rw [h1] at this; exact eq_of_beq this.symm
      have z2 : r2 = 0 := by have := HT2.out; rw [h2] at this; exact eq_of_beq this.symm
      have := HFL.out d HDD.out.1 (by rw [← e0, ← s0, z0]) (by rw [← e1, ← s1, z1]) (by rw [← e2, ← s2, z2])
      have := HDD.out.2
      omega
     clear HFL HU HT0 HT1 HT2 HST
     rw [show ((3 : Nat) : Int) = 3 from rfl]
     go_wp2_with fail
     go_loopw [7] (fun i wx => LjRel w a0 b0 a1 b1 a2 b2 x y z i wx) (fun i _ => 3 - (intOf i).toNat)
     case atStart => exact ⟨0, by omega, rfl, HN.out⟩
     case round =>
      obtain ⟨k, hk, rfl, hm⟩ := hrel
      have HJ := Lib.hid hm
      clear hm HN
      rcases (show k = 0 ∨ k = 1 ∨ k = 2 ∨ k = 3 by omega) with rfl | rfl | rfl | rfl
      ·rw [show LxC x y z 0 = [.int .i64 0, .int .i64 0, .int .i64 0] from rfl] at HJ
       have HO := Lib.hid (HEM.out.1.symm)
       clear hk
       go_upto_region 13 with fail
       refine wp_regionJ 14 #[false, false, false, false, false, false, false, false, false, false, false, false, false, false] (fun l a W => ∃ (m0 m1 m2 m3 m4 m5 m6 m7 m8 m9 m10 m11 m12 m13 : Bool), l = #[m0, m1, m2, m3, m4, m5, m6, m7, m8, m9, m10, m11, m12, m13] ∧ a = ({ tmps := #[szv a0 b0 a1 b1 a2 b2, .pointer (some ⟨w.heap.size, 0, none⟩), .pointer (some ⟨w.heap.size + 1, 0, none⟩), .int .i64 d, .pointer (some ⟨w.heap.size + 1 + 1, 0, none⟩), .bool true, .int .i64 3, .int .i64 0, .pointer (some ⟨w.heap.size, 0, none⟩), .agg #[.int .i64 a0, .int .i64 b0], .pointer (some ⟨w.heap.size, 2, none⟩), .agg #[.int .i64 a1, .int .i64 b1], .pointer (some ⟨w.heap.size, 4, none⟩), .agg #[.int .i64 a2, .int .i64 b2], .agg #[.int .i64 a0, .int .i64 b0, .int .i64 a1, .int .i64 b1, .int .i64 a2, .int .i64 b2], u15, u16, .int .i64 3, .bool false, u19, u20, u21, u22, u23, u24, u25, u26, u27, u28, u29, u30, u31, u32, u33, u34, u35, .bool true, .int .i64 0, .bool true, u39, u40, cwX m0 (.int .i64 0) (u41), cwX m1 (.int .i64 0) (u42), cwX m2 (.pointer (some ⟨w.heap.size + 1 + 1, 0, none⟩)) (u43), cwX m3 (.pointer (some ⟨w.heap.size + 1 + 1, 0, none⟩)) (u44), cwX m4 (.int .i64 a0) (u45), cwX m5 (.int .i64 d) (u46), cwX m6 (.int .i64 v0) (u47), cwX m7 (.int .i64 0) (u48), cwX m8 (.pointer (some ⟨w.heap.size + 1 + 1, 0, none⟩)) (u49), cwX m9 (.pointer (some ⟨w.heap.size + 1 + 1, 1, none⟩)) (u50), cwX m10 (.int .i64 b0) (u51), cwX m11 (.int .i64 x) (u52), cwX m12 (.pointer (some ⟨w.heap.size + 1, 0, none⟩)) (u53), undef, undef], defers := [] } : Act) ∧ (True) ∧ Hp w [(w.heap.size, 49, [.int .i64 a0, .int .i64 b0, .int .i64 a1, .int .i64 b1, .int .i64 a2, .int .i64 b2]), (w.heap.size + 1, 57, bif m13 then [.int .i64 x, .int .i64 0, .int .i64 0] else [.int .i64 0, .int .i64 0, .int .i64 0]), (w.heap.size + 1 + 1, 120, [.int .i64 a0, .int .i64 b0, .int .i64 a1, .int .i64 b1, .int .i64 a2, .int .i64 b2])] W) (by kernel_rfl) (by kernel_rfl) (by kernel_rfl) (by kernel_rfl) ?_ ?_ ?_ ?_
       ·rintro l a W ⟨m0, m1, m2, m3, m4, m5, m6, m7, m8, m9, m10, m11, m12, m13, rfl, _⟩
        rfl
       ·exact ⟨false, false, false, false, false, false, false, false, false, false, false, false, false, false, rfl, rfl, trivial, HJ.out.drew⟩
       ·rintro l a W i o ⟨m0, m1, m2, m3, m4, m5, m6, m7, m8, m9, m10, m11, m12, m13, rfl, rfl, hi0, hm⟩ ho hun hall K hK
        have hi : i < 14 := (Array.getElem?_eq_some_iff.1 ho).1
        have HM := Lib.hid hm
        have HI := Lib.hid hi0
        clear hm hi0
        rcases (show i = 0 ∨ i = 1 ∨ i = 2 ∨ i = 3 ∨ i = 4 ∨ i = 5 ∨ i = 6 ∨ i = 7 ∨ i = 8 ∨ i = 9 ∨ i = 10 ∨ i = 11 ∨ i = 12 ∨ i = 13 by omega) with rfl | rfl | rfl | rfl | rfl | rfl | rfl | rfl | rfl | rfl | rfl | rfl | rfl | rfl
        ·cases ho
         simp at hun; subst hun
         clear hall hi
         go_simp
         exact hK.out _ _ ⟨true, m1, m2, m3, m4, m5, m6, m7, m8, m9, m10, m11, m12, m13, rfl, rfl, trivial, HM.out⟩
        ·cases ho
         simp at hun; subst hun
         clear hall hi
         go_simp
         exact hK.out _ _ ⟨m0, true, m2, m3, m4, m5, m6, m7, m8, m9, m10, m11, m12, m13, rfl, rfl, trivial, HM.out⟩
        ·cases ho
         cases (getBX hall 1 rfl : m1 = true)
         simp at hun; subst hun
         clear hall hi
         go_simp
         exact hK.out _ _ ⟨m0, true, true, m3, m4, m5, m6, m7, m8, m9, m10, m11, m12, m13, rfl, rfl, trivial, HM.out⟩
        ·cases ho
         cases (getBX hall 2 rfl : m2 = true)
         simp at hun; subst hun
         clear hall hi
         go_simp
         exact hK.out _ _ ⟨m0, m1, true, true, m4, m5, m6, m7, m8, m9, m10, m11, m12, m13, rfl, rfl, trivial, HM.out⟩
        ·cases ho
         cases (getBX hall 3 rfl : m3 = true)
         simp at hun; subst hun
         clear hall hi
         obtain ⟨c0, c1, c2, c3, c4, c5⟩ := six_of (HM.out.at_ 2 rfl)
         go_simp
         exact hK.out _ _ ⟨m0, m1, m2, true, true, m5, m6, m7, m8, m9, m10, m11, m12, m13, rfl, rfl, trivial, HM.out⟩
        ·cases ho
         simp at hun; subst hun
         clear hall hi
         go_simp
         exact hK.out _ _ ⟨m0, m1, m2, m3, m4, true, m6, m7, m8, m9, m10, m11, m12, m13, rfl, rfl, trivial, HM.out⟩
        ·cases ho
         cases (getBX hall 4 rfl : m4 = true)
         cases (getBX hall 5 rfl : m5 = true)
         simp at hun; subst hun
         clear hall hi
         have hw := HEW.out.1
         go_simp
         exact hK.out _ _ ⟨m0, m1, m2, m3, true, true, true, m7, m8, m9, m10, m11, m12, m13, rfl, rfl, trivial, HM.out⟩
        ·cases ho
         simp at hun; subst hun
         clear hall hi
         go_simp
         exact hK.out _ _ ⟨m0, m1, m2, m3, m4, m5, m6, true, m8, m9, m10, m11, m12, m13, rfl, rfl, trivial, HM.out⟩
        ·cases ho
         cases (getBX hall 7 rfl : m7 = true)
         simp at hun; subst hun
         clear hall hi
         go_simp
         exact hK.out _ _ ⟨m0, m1, m2, m3, m4, m5, m6, true, true, m9, m10, m11, m12, m13, rfl, rfl, trivial, HM.out⟩
        ·cases ho
         cases (getBX hall 8 rfl : m8 = true)
         simp at hun; subst hun
         clear hall hi
         go_simp
         exact hK.out _ _ ⟨m0, m1, m2, m3, m4, m5, m6, m7, true, true, m10, m11, m12, m13, rfl, rfl, trivial, HM.out⟩
        ·cases ho
         cases (getBX hall 9 rfl : m9 = true)
         simp at hun; subst hun
         clear hall hi
         obtain ⟨c0, c1, c2, c3, c4, c5⟩ := six_of (HM.out.at_ 2 rfl)
         go_simp
         exact hK.out _ _ ⟨m0, m1, m2, m3, m4, m5, m6, m7, m8, true, true, m11, m12, m13, rfl, rfl, trivial, HM.out⟩
        ·cases ho
         cases (getBX hall 6 rfl : m6 = true)
         cases (getBX hall 10 rfl : m10 = true)
         simp at hun; subst hun
         clear hall hi
         have hq : Int.tdiv v0 b0 = x := by rw [HEM.out.1]; exact HQ.out.1
         have hwq : IntKind.i64.wrap x = x := IntWalk.i64_in _ (by have := HB.out.1; omega)
         have hb := HNE.out.1.1
         have hb' := HNE.out.2.1
         go_simp
         exact hK.out _ _ ⟨m0, m1, m2, m3, m4, m5, true, m7, m8, m9, true, true, m12, m13, rfl, rfl, trivial, HM.out⟩
        ·cases ho
         cases (getBX hall 0 rfl : m0 = true)
         simp at hun; subst hun
         clear hall hi
         go_simp
         exact hK.out _ _ ⟨true, m1, m2, m3, m4, m5, m6, m7, m8, m9, m10, m11, true, m13, rfl, rfl, trivial, HM.out⟩
        ·cases ho
         cases (getBX hall 11 rfl : m11 = true)
         cases (getBX hall 12 rfl : m12 = true)
         simp at hun; subst hun
         clear hall hi
         obtain ⟨z0, z1, z2⟩ := three_of (HM.out.at_ 1 rfl)
         have f0 := (HM.out.at_ 1 rfl).frozen 0
         have HNW := Lib.hid (HM.out.put 1 rfl 0 (.int .i64 x))
         go_simp
         exact hK.out _ _ ⟨m0, m1, m2, m3, m4, m5, m6, m7, m8, m9, m10, true, true, true, rfl, rfl, trivial, HNW.out⟩
       ·rintro l a W ⟨m0, m1, m2, m3, m4, m5, m6, m7, m8, m9, m10, m11, m12, m13, rfl, rfl, _, hm⟩ hall
        cases (hall 0 (by decide) : m0 = true)
        cases (hall 1 (by decide) : m1 = true)
        cases (hall 2 (by decide) : m2 = true)
        cases (hall 3 (by decide) : m3 = true)
        cases (hall 4 (by decide) : m4 = true)
        cases (hall 5 (by decide) : m5 = true)
        cases (hall 6 (by decide) : m6 = true)
        cases (hall 7 (by decide) : m7 = true)
        cases (hall 8 (by decide) : m8 = true)
        cases (hall 9 (by decide) : m9 = true)
        cases (hall 10 (by decide) : m10 = true)
        cases (hall 11 (by decide) : m11 = true)
        cases (hall 12 (by decide) : m12 = true)
        cases (hall 13 (by decide) : m13 = true)
        clear hall
        have HJ2 : Hid (Hp w [(w.heap.size, 49, [.int .i64 a0, .int .i64 b0, .int .i64 a1, .int .i64 b1, .int .i64 a2, .int .i64 b2]), (w.heap.size + 1, 57, [.int .i64 x, .int .i64 0, .int .i64 0]), (w.heap.size + 1 + 1, 120, [.int .i64 a0, .int .i64 b0, .int .i64 a1, .int .i64 b1, .int .i64 a2, .int .i64 b2])] _) := Lib.hid hm
        clear hm HJ HO
        dsimp only [cwX, cond_true]
        go_wp2_with fail
        go_roundw
        case rel => exact ⟨1, by omega, rfl, HJ2.out⟩
        case measure => simp [intOf]
      ·rw [show LxC x y z 1 = [.int .i64 x, .int .i64 0, .int .i64 0] from rfl] at HJ
       have HO := Lib.hid (HEM.out.2.1.symm)
       clear hk
       go_upto_region 13 with fail
       refine wp_regionJ 14 #[false, false, false, false, false, false, false, false, false, false, false, false, false, false] (fun l a W => ∃ (m0 m1 m2 m3 m4 m5 m6 m7 m8 m9 m10 m11 m12 m13 : Bool), l = #[m0, m1, m2, m3, m4, m5, m6, m7, m8, m9, m10, m11, m12, m13] ∧ a = ({ tmps := #[szv a0 b0 a1 b1 a2 b2, .pointer (some ⟨w.heap.size, 0, none⟩), .pointer (some ⟨w.heap.size + 1, 0, none⟩), .int .i64 d, .pointer (some ⟨w.heap.size + 1 + 1, 0, none⟩), .bool true, .int .i64 3, .int .i64 1, .pointer (some ⟨w.heap.size, 0, none⟩), .agg #[.int .i64 a0, .int .i64 b0], .pointer (some ⟨w.heap.size, 2, none⟩), .agg #[.int .i64 a1, .int .i64 b1], .pointer (some ⟨w.heap.size, 4, none⟩), .agg #[.int .i64 a2, .int .i64 b2], .agg #[.int .i64 a0, .int .i64 b0, .int .i64 a1, .int .i64 b1, .int .i64 a2, .int .i64 b2], u15, u16, .int .i64 3, .bool false, u19, u20, u21, u22, u23, u24, u25, u26, u27, u28, u29, u30, u31, u32, u33, u34, u35, .bool true, .int .i64 1, .bool true, u39, u40, cwX m0 (.int .i64 1) (u41), cwX m1 (.int .i64 1) (u42), cwX m2 (.pointer (some ⟨w.heap.size + 1 + 1, 2, none⟩)) (u43), cwX m3 (.pointer (some ⟨w.heap.size + 1 + 1, 2, none⟩)) (u44), cwX m4 (.int .i64 a1) (u45), cwX m5 (.int .i64 d) (u46), cwX m6 (.int .i64 v1) (u47), cwX m7 (.int .i64 1) (u48), cwX m8 (.pointer (some ⟨w.heap.size + 1 + 1, 2, none⟩)) (u49), cwX m9 (.pointer (some ⟨w.heap.size + 1 + 1, 3, none⟩)) (u50), cwX m10 (.int .i64 b1) (u51), cwX m11 (.int .i64 y) (u52), cwX m12 (.pointer (some ⟨w.heap.size + 1, 1, none⟩)) (u53), undef, undef], defers := [] } : Act) ∧ (True) ∧ Hp w [(w.heap.size, 49, [.int .i64 a0, .int .i64 b0, .int .i64 a1, .int .i64 b1, .int .i64 a2, .int .i64 b2]), (w.heap.size + 1, 57, bif m13 then [.int .i64 x, .int .i64 y, .int .i64 0] else [.int .i64 x, .int .i64 0, .int .i64 0]), (w.heap.size + 1 + 1, 120, [.int .i64 a0, .int .i64 b0, .int .i64 a1, .int .i64 b1, .int .i64 a2, .int .i64 b2])] W) (by kernel_rfl) (by kernel_rfl) (by kernel_rfl) (by kernel_rfl) ?_ ?_ ?_ ?_
       ·rintro l a W ⟨m0, m1, m2, m3, m4, m5, m6, m7, m8, m9, m10, m11, m12, m13, rfl, _⟩
        rfl
       ·exact ⟨false, false, false, false, false, false, false, false, false, false, false, false, false, false, rfl, rfl, trivial, HJ.out.drew⟩
       ·rintro l a W i o ⟨m0, m1, m2, m3, m4, m5, m6, m7, m8, m9, m10, m11, m12, m13, rfl, rfl, hi0, hm⟩ ho hun hall K hK
        have hi : i < 14 := (Array.getElem?_eq_some_iff.1 ho).1
        have HM := Lib.hid hm
        have HI := Lib.hid hi0
        clear hm hi0
        rcases (show i = 0 ∨ i = 1 ∨ i = 2 ∨ i = 3 ∨ i = 4 ∨ i = 5 ∨ i = 6 ∨ i = 7 ∨ i = 8 ∨ i = 9 ∨ i = 10 ∨ i = 11 ∨ i = 12 ∨ i = 13 by omega) with rfl | rfl | rfl | rfl | rfl | rfl | rfl | rfl | rfl | rfl | rfl | rfl | rfl | rfl
        ·cases ho
         simp at hun; subst hun
         clear hall hi
         go_simp
         exact hK.out _ _ ⟨true, m1, m2, m3, m4, m5, m6, m7, m8, m9, m10, m11, m12, m13, rfl, rfl, trivial, HM.out⟩
        ·cases ho
         simp at hun; subst hun
         clear hall hi
         go_simp
         exact hK.out _ _ ⟨m0, true, m2, m3, m4, m5, m6, m7, m8, m9, m10, m11, m12, m13, rfl, rfl, trivial, HM.out⟩
        ·cases ho
         cases (getBX hall 1 rfl : m1 = true)
         simp at hun; subst hun
         clear hall hi
         go_simp
         exact hK.out _ _ ⟨m0, true, true, m3, m4, m5, m6, m7, m8, m9, m10, m11, m12, m13, rfl, rfl, trivial, HM.out⟩
        ·cases ho
         cases (getBX hall 2 rfl : m2 = true)
         simp at hun; subst hun
         clear hall hi
         go_simp
         exact hK.out _ _ ⟨m0, m1, true, true, m4, m5, m6, m7, m8, m9, m10, m11, m12, m13, rfl, rfl, trivial, HM.out⟩
        ·cases ho
         cases (getBX hall 3 rfl : m3 = true)
         simp at hun; subst hun
         clear hall hi
         obtain ⟨c0, c1, c2, c3, c4, c5⟩ := six_of (HM.out.at_ 2 rfl)
         go_simp
         exact hK.out _ _ ⟨m0, m1, m2, true, true, m5, m6, m7, m8, m9, m10, m11, m12, m13, rfl, rfl, trivial, HM.out⟩
        ·cases ho
         simp at hun; subst hun
         clear hall hi
         go_simp
         exact hK.out _ _ ⟨m0, m1, m2, m3, m4, true, m6, m7, m8, m9, m10, m11, m12, m13, rfl, rfl, trivial, HM.out⟩
        ·cases ho
         cases (getBX hall 4 rfl : m4 = true)
         cases (getBX hall 5 rfl : m5 = true)
         simp at hun; subst hun
         clear hall hi
         have hw := HEW.out.2.1
         go_simp
         exact hK.out _ _ ⟨m0, m1, m2, m3, true, true, true, m7, m8, m9, m10, m11, m12, m13, rfl, rfl, trivial, HM.out⟩
        ·cases ho
         simp at hun; subst hun
         clear hall hi
         go_simp
         exact hK.out _ _ ⟨m0, m1, m2, m3, m4, m5, m6, true, m8, m9, m10, m11, m12, m13, rfl, rfl, trivial, HM.out⟩
        ·cases ho
         cases (getBX hall 7 rfl : m7 = true)
         simp at hun; subst hun
         clear hall hi
         go_simp
         exact hK.out _ _ ⟨m0, m1, m2, m3, m4, m5, m6, true, true, m9, m10, m11, m12, m13, rfl, rfl, trivial, HM.out⟩
        ·cases ho
         cases (getBX hall 8 rfl : m8 = true)
         simp at hun; subst hun
         clear hall hi
         go_simp
         exact hK.out _ _ ⟨m0, m1, m2, m3, m4, m5, m6, m7, true, true, m10, m11, m12, m13, rfl, rfl, trivial, HM.out⟩
        ·cases ho
         cases (getBX hall 9 rfl : m9 = true)
         simp at hun; subst hun
         clear hall hi
         obtain ⟨c0, c1, c2, c3, c4, c5⟩ := six_of (HM.out.at_ 2 rfl)
         go_simp
         exact hK.out _ _ ⟨m0, m1, m2, m3, m4, m5, m6, m7, m8, true, true, m11, m12, m13, rfl, rfl, trivial, HM.out⟩
        ·cases ho
         cases (getBX hall 6 rfl : m6 = true)
         cases (getBX hall 10 rfl : m10 = true)
         simp at hun; subst hun
         clear hall hi
         have hq : Int.tdiv v1 b1 = y := by rw [HEM.out.2.1]; exact HQ.out.2.1
         have hwq : IntKind.i64.wrap y = y := IntWalk.i64_in _ (by have := HB.out.2.1; omega)
         have hb := HNE.out.1.2.1
         have hb' := HNE.out.2.2.1
         go_simp
         exact hK.out _ _ ⟨m0, m1, m2, m3, m4, m5, true, m7, m8, m9, true, true, m12, m13, rfl, rfl, trivial, HM.out⟩
        ·cases ho
         cases (getBX hall 0 rfl : m0 = true)
         simp at hun; subst hun
         clear hall hi
         go_simp
         exact hK.out _ _ ⟨true, m1, m2, m3, m4, m5, m6, m7, m8, m9, m10, m11, true, m13, rfl, rfl, trivial, HM.out⟩
        ·cases ho
         cases (getBX hall 11 rfl : m11 = true)
         cases (getBX hall 12 rfl : m12 = true)
         simp at hun; subst hun
         clear hall hi
         obtain ⟨z0, z1, z2⟩ := three_of (HM.out.at_ 1 rfl)
         have f0 := (HM.out.at_ 1 rfl).frozen 1
         have HNW := Lib.hid (HM.out.put 1 rfl 1 (.int .i64 y))
         go_simp
         exact hK.out _ _ ⟨m0, m1, m2, m3, m4, m5, m6, m7, m8, m9, m10, true, true, true, rfl, rfl, trivial, HNW.out⟩
       ·rintro l a W ⟨m0, m1, m2, m3, m4, m5, m6, m7, m8, m9, m10, m11, m12, m13, rfl, rfl, _, hm⟩ hall
        cases (hall 0 (by decide) : m0 = true)
        cases (hall 1 (by decide) : m1 = true)
        cases (hall 2 (by decide) : m2 = true)
        cases (hall 3 (by decide) : m3 = true)
        cases (hall 4 (by decide) : m4 = true)
        cases (hall 5 (by decide) : m5 = true)
        cases (hall 6 (by decide) : m6 = true)
        cases (hall 7 (by decide) : m7 = true)
        cases (hall 8 (by decide) : m8 = true)
        cases (hall 9 (by decide) : m9 = true)
        cases (hall 10 (by decide) : m10 = true)
        cases (hall 11 (by decide) : m11 = true)
        cases (hall 12 (by decide) : m12 = true)
        cases (hall 13 (by decide) : m13 = true)
        clear hall
        have HJ2 : Hid (Hp w [(w.heap.size, 49, [.int .i64 a0, .int .i64 b0, .int .i64 a1, .int .i64 b1, .int .i64 a2, .int .i64 b2]), (w.heap.size + 1, 57, [.int .i64 x, .int .i64 y, .int .i64 0]), (w.heap.size + 1 + 1, 120, [.int .i64 a0, .int .i64 b0, .int .i64 a1, .int .i64 b1, .int .i64 a2, .int .i64 b2])] _) := Lib.hid hm
        clear hm HJ HO
        dsimp only [cwX, cond_true]
        go_wp2_with fail
        go_roundw
        case rel => exact ⟨2, by omega, rfl, HJ2.out⟩
        case measure => simp [intOf]
      ·rw [show LxC x y z 2 = [.int .i64 x, .int .i64 y, .int .i64 0] from rfl] at HJ
       have HO := Lib.hid (HEM.out.2.2.symm)
       clear hk
       go_upto_region 13 with fail
       refine wp_regionJ 14 #[false, false, false, false, false, false, false, false, false, false, false, false, false, false] (fun l a W => ∃ (m0 m1 m2 m3 m4 m5 m6 m7 m8 m9 m10 m11 m12 m13 : Bool), l = #[m0, m1, m2, m3, m4, m5, m6, m7, m8, m9, m10, m11, m12, m13] ∧ a = ({ tmps := #[szv a0 b0 a1 b1 a2 b2, .pointer (some ⟨w.heap.size, 0, none⟩), .pointer (some ⟨w.heap.size + 1, 0, none⟩), .int .i64 d, .pointer (some ⟨w.heap.size + 1 + 1, 0, none⟩), .bool true, .int .i64 3, .int .i64 2, .pointer (some ⟨w.heap.size, 0, none⟩), .agg #[.int .i64 a0, .int .i64 b0], .pointer (some ⟨w.heap.size, 2, none⟩), .agg #[.int .i64 a1, .int .i64 b1], .pointer (some ⟨w.heap.size, 4, none⟩), .agg #[.int .i64 a2, .int .i64 b2], .agg #[.int .i64 a0, .int .i64 b0, .int .i64 a1, .int .i64 b1, .int .i64 a2, .int .i64 b2], u15, u16, .int .i64 3, .bool false, u19, u20, u21, u22, u23, u24, u25, u26, u27, u28, u29, u30, u31, u32, u33, u34, u35, .bool true, .int .i64 2, .bool true, u39, u40, cwX m0 (.int .i64 2) (u41), cwX m1 (.int .i64 2) (u42), cwX m2 (.pointer (some ⟨w.heap.size + 1 + 1, 4, none⟩)) (u43), cwX m3 (.pointer (some ⟨w.heap.size + 1 + 1, 4, none⟩)) (u44), cwX m4 (.int .i64 a2) (u45), cwX m5 (.int .i64 d) (u46), cwX m6 (.int .i64 v2) (u47), cwX m7 (.int .i64 2) (u48), cwX m8 (.pointer (some ⟨w.heap.size + 1 + 1, 4, none⟩)) (u49), cwX m9 (.pointer (some ⟨w.heap.size + 1 + 1, 5, none⟩)) (u50), cwX m10 (.int .i64 b2) (u51), cwX m11 (.int .i64 z) (u52), cwX m12 (.pointer (some ⟨w.heap.size + 1, 2, none⟩)) (u53), undef, undef], defers := [] } : Act) ∧ (True) ∧ Hp w [(w.heap.size, 49, [.int .i64 a0, .int .i64 b0, .int .i64 a1, .int .i64 b1, .int .i64 a2, .int .i64 b2]), (w.heap.size + 1, 57, bif m13 then [.int .i64 x, .int .i64 y, .int .i64 z] else [.int .i64 x, .int .i64 y, .int .i64 0]), (w.heap.size + 1 + 1, 120, [.int .i64 a0, .int .i64 b0, .int .i64 a1, .int .i64 b1, .int .i64 a2, .int .i64 b2])] W) (by kernel_rfl) (by kernel_rfl) (by kernel_rfl) (by kernel_rfl) ?_ ?_ ?_ ?_
       ·rintro l a W ⟨m0, m1, m2, m3, m4, m5, m6, m7, m8, m9, m10, m11, m12, m13, rfl, _⟩
        rfl
       ·exact ⟨false, false, false, false, false, false, false, false, false, false, false, false, false, false, rfl, rfl, trivial, HJ.out.drew⟩
       ·rintro l a W i o ⟨m0, m1, m2, m3, m4, m5, m6, m7, m8, m9, m10, m11, m12, m13, rfl, rfl, hi0, hm⟩ ho hun hall K hK
        have hi : i < 14 := (Array.getElem?_eq_some_iff.1 ho).1
        have HM := Lib.hid hm
        have HI := Lib.hid hi0
        clear hm hi0
        rcases (show i = 0 ∨ i = 1 ∨ i = 2 ∨ i = 3 ∨ i = 4 ∨ i = 5 ∨ i = 6 ∨ i = 7 ∨ i = 8 ∨ i = 9 ∨ i = 10 ∨ i = 11 ∨ i = 12 ∨ i = 13 by omega) with rfl | rfl | rfl | rfl | rfl | rfl | rfl | rfl | rfl | rfl | rfl | rfl | rfl | rfl
        ·cases ho
         simp at hun; subst hun
         clear hall hi
         go_simp
         exact hK.out _ _ ⟨true, m1, m2, m3, m4, m5, m6, m7, m8, m9, m10, m11, m12, m13, rfl, rfl, trivial, HM.out⟩
        ·cases ho
         simp at hun; subst hun
         clear hall hi
         go_simp
         exact hK.out _ _ ⟨m0, true, m2, m3, m4, m5, m6, m7, m8, m9, m10, m11, m12, m13, rfl, rfl, trivial, HM.out⟩
        ·cases ho
         cases (getBX hall 1 rfl : m1 = true)
         simp at hun; subst hun
         clear hall hi
         go_simp
         exact hK.out _ _ ⟨m0, true, true, m3, m4, m5, m6, m7, m8, m9, m10, m11, m12, m13, rfl, rfl, trivial, HM.out⟩
        ·cases ho
         cases (getBX hall 2 rfl : m2 = true)
         simp at hun; subst hun
         clear hall hi
         go_simp
         exact hK.out _ _ ⟨m0, m1, true, true, m4, m5, m6, m7, m8, m9, m10, m11, m12, m13, rfl, rfl, trivial, HM.out⟩
        ·cases ho
         cases (getBX hall 3 rfl : m3 = true)
         simp at hun; subst hun
         clear hall hi
         obtain ⟨c0, c1, c2, c3, c4, c5⟩ := six_of (HM.out.at_ 2 rfl)
         go_simp
         exact hK.out _ _ ⟨m0, m1, m2, true, true, m5, m6, m7, m8, m9, m10, m11, m12, m13, rfl, rfl, trivial, HM.out⟩
        ·cases ho
         simp at hun; subst hun
         clear hall hi
         go_simp
         exact hK.out _ _ ⟨m0, m1, m2, m3, m4, true, m6, m7, m8, m9, m10, m11, m12, m13, rfl, rfl, trivial, HM.out⟩
        ·cases ho
         cases (getBX hall 4 rfl : m4 = true)
         cases (getBX hall 5 rfl : m5 = true)
         simp at hun; subst hun
         clear hall hi
         have hw := HEW.out.2.2
         go_simp
         exact hK.out _ _ ⟨m0, m1, m2, m3, true, true, true, m7, m8, m9, m10, m11, m12, m13, rfl, rfl, trivial, HM.out⟩
        ·cases ho
         simp at hun; subst hun
         clear hall hi
         go_simp
         exact hK.out _ _ ⟨m0, m1, m2, m3, m4, m5, m6, true, m8, m9, m10, m11, m12, m13, rfl, rfl, trivial, HM.out⟩
        ·cases ho
         cases (getBX hall 7 rfl : m7 = true)
         simp at hun; subst hun
         clear hall hi
         go_simp
         exact hK.out _ _ ⟨m0, m1, m2, m3, m4, m5, m6, true, true, m9, m10, m11, m12, m13, rfl, rfl, trivial, HM.out⟩
        ·cases ho
         cases (getBX hall 8 rfl : m8 = true)
         simp at hun; subst hun
         clear hall hi
         go_simp
         exact hK.out _ _ ⟨m0, m1, m2, m3, m4, m5, m6, m7, true, true, m10, m11, m12, m13, rfl, rfl, trivial, HM.out⟩
        ·cases ho
         cases (getBX hall 9 rfl : m9 = true)
         simp at hun; subst hun
         clear hall hi
         obtain ⟨c0, c1, c2, c3, c4, c5⟩ := six_of (HM.out.at_ 2 rfl)
         go_simp
         exact hK.out _ _ ⟨m0, m1, m2, m3, m4, m5, m6, m7, m8, true, true, m11, m12, m13, rfl, rfl, trivial, HM.out⟩
        ·cases ho
         cases (getBX hall 6 rfl : m6 = true)
         cases (getBX hall 10 rfl : m10 = true)
         simp at hun; subst hun
         clear hall hi
         have hq : Int.tdiv v2 b2 = z := by rw [HEM.out.2.2]; exact HQ.out.2.2
         have hwq : IntKind.i64.wrap z = z := IntWalk.i64_in _ (by have := HB.out.2.2; omega)
         have hb := HNE.out.1.2.2
         have hb' := HNE.out.2.2.2
         go_simp
         exact hK.out _ _ ⟨m0, m1, m2, m3, m4, m5, true, m7, m8, m9, true, true, m12, m13, rfl, rfl, trivial, HM.out⟩
        ·cases ho
         cases (getBX hall 0 rfl : m0 = true)
         simp at hun; subst hun
         clear hall hi
         go_simp
         exact hK.out _ _ ⟨true, m1, m2, m3, m4, m5, m6, m7, m8, m9, m10, m11, true, m13, rfl, rfl, trivial, HM.out⟩
        ·cases ho
         cases (getBX hall 11 rfl : m11 = true)
         cases (getBX hall 12 rfl : m12 = true)
         simp at hun; subst hun
         clear hall hi
         obtain ⟨z0, z1, z2⟩ := three_of (HM.out.at_ 1 rfl)
         have f0 := (HM.out.at_ 1 rfl).frozen 2
         have HNW := Lib.hid (HM.out.put 1 rfl 2 (.int .i64 z))
         go_simp
         exact hK.out _ _ ⟨m0, m1, m2, m3, m4, m5, m6, m7, m8, m9, m10, true, true, true, rfl, rfl, trivial, HNW.out⟩
       ·rintro l a W ⟨m0, m1, m2, m3, m4, m5, m6, m7, m8, m9, m10, m11, m12, m13, rfl, rfl, _, hm⟩ hall
        cases (hall 0 (by decide) : m0 = true)
        cases (hall 1 (by decide) : m1 = true)
        cases (hall 2 (by decide) : m2 = true)
        cases (hall 3 (by decide) : m3 = true)
        cases (hall 4 (by decide) : m4 = true)
        cases (hall 5 (by decide) : m5 = true)
        cases (hall 6 (by decide) : m6 = true)
        cases (hall 7 (by decide) : m7 = true)
        cases (hall 8 (by decide) : m8 = true)
        cases (hall 9 (by decide) : m9 = true)
        cases (hall 10 (by decide) : m10 = true)
        cases (hall 11 (by decide) : m11 = true)
        cases (hall 12 (by decide) : m12 = true)
        cases (hall 13 (by decide) : m13 = true)
        clear hall
        have HJ2 : Hid (Hp w [(w.heap.size, 49, [.int .i64 a0, .int .i64 b0, .int .i64 a1, .int .i64 b1, .int .i64 a2, .int .i64 b2]), (w.heap.size + 1, 57, [.int .i64 x, .int .i64 y, .int .i64 z]), (w.heap.size + 1 + 1, 120, [.int .i64 a0, .int .i64 b0, .int .i64 a1, .int .i64 b1, .int .i64 a2, .int .i64 b2])] _) := Lib.hid hm
        clear hm HJ HO
        dsimp only [cwX, cond_true]
        go_wp2_with fail
        go_roundw
        case rel => exact ⟨3, by omega, rfl, HJ2.out⟩
        case measure => simp [intOf]
      ·rw [show LxC x y z 3 = [.int .i64 x, .int .i64 y, .int .i64 z] from rfl] at HJ
       obtain ⟨z0, z1, z2⟩ := three_of (HJ.out.at_ 1 rfl)
       have f0 := (HJ.out.at_ 1 rfl).frozen 0
       have f1 := (HJ.out.at_ 1 rfl).frozen 1
       have f2 := (HJ.out.at_ 1 rfl).frozen 2
       have HZ := Lib.hid (HJ.out.put3 1 rfl (.int .i64 x) (.int .i64 y) (.int .i64 z))
       clear hk
       go_wp2_with fail
       obtain ⟨WZ, hWZ⟩ : ∃ WZ, WZ = ((wr.setCell ⟨w.heap.size + 1, 0, none⟩ (.int .i64 x)).setCell ⟨w.heap.size + 1, 1, none⟩ (.int .i64 y)).setCell ⟨w.heap.size + 1, 2, none⟩ (.int .i64 z) := ⟨_, rfl⟩
       rw [← hWZ] at HZ ⊢
       obtain ⟨j0, j1, j2⟩ := three_of (HZ.out.at_ 1 rfl)
       exact bodyPost_ret (v := .tuple #[.agg #[.int .i64 x, .int .i64 y, .int .i64 z], .int .i64 d]) (by simp [results, Tryz.results20, go_sem, j0, j1, j2]) rfl ⟨rfl, HZ.out.below⟩
end Go.Proofs.YtendjepcjmfmfaaGreatDoor
