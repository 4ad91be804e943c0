/- Part 26 of 46 of the proof of the law: contracts of the functions that it reaches, and plain facts. Conditions: those that each contract names. -/
import Derived.Test.YtlmheeommpbimaaGreatDoorIntB19
import Derived.Test.YtlmheeommpbimaaGreatDoorIntB07
import Derived.Test.YtlmheeommpbimaaGreatDoorIntB06
import Derived.Deep.QuietTactic
import Derived.Deep.DeepCutAuto
namespace Go.Proofs.YtlmheeommpbimaaGreatDoor
open Go.RowKit
theorem four_of {W : World} {g : Nat} {t : TypeId} {a b c d : Value} (h : Blk W g t [a, b, c, d]) : W.cell? ⟨g, 0, none⟩ = some a ∧ W.cell? ⟨g, 1, none⟩ = some b ∧ W.cell? ⟨g, 2, none⟩ = some c ∧ W.cell? ⟨g, 3, none⟩ = some d := ⟨h.cell 0, h.cell 1, h.cell 2, h.cell 3⟩
theorem four_free {W : World} {g : Nat} {t : TypeId} {cs : List Value} (h : Blk W g t cs) : W.frozen? ⟨g, 0, none⟩ = false ∧ W.frozen? ⟨g, 1, none⟩ = false ∧ W.frozen? ⟨g, 2, none⟩ = false ∧ W.frozen? ⟨g, 3, none⟩ = false := ⟨h.frozen 0, h.frozen 1, h.frozen 2, h.frozen 3⟩
open Classical in
noncomputable def rdV (S : List (Int × Int)) : Value := if ∀ q ∈ S, Right q.1 q.2 then (match prt S with | some ([x, y, z], D) => .tuple #[ovv x y z D, .int .i64 0] | _ => .tuple #[ovv 0 0 0 0, .int .i64 4]) else .tuple #[ovv 0 0 0 0, .int .i64 2]
theorem rdV_num {S : List (Int × Int)} {q : Int × Int} (hq : q ∈ S) (h : ¬ Right q.1 q.2) : rdV S = .tuple #[ovv 0 0 0 0, .int .i64 2] := if_neg fun k => h (k q hq)
theorem rdV_lim {S : List (Int × Int)} (h : ∀ q ∈ S, Right q.1 q.2) (h2 : prt S = none) : rdV S = .tuple #[ovv 0 0 0 0, .int .i64 4] := by unfold rdV; rw [if_pos h, h2]
theorem rdV_ok {S : List (Int × Int)} {x y z D : Int} (h : ∀ q ∈ S, Right q.1 q.2) (h2 : prt S = some ([x, y, z], D)) : rdV S = .tuple #[ovv x y z D, .int .i64 0] := by unfold rdV; rw [if_pos h, h2]
theorem lcmA_ge {x d : Int} (hx : 1 ≤ x) (hd : 1 ≤ d) : d ≤ lcmA x d := by
 have hg : 0 < Nat.gcd x.natAbs d.natAbs := Nat.gcd_pos_of_pos_left _ (by omega)
 have hgl : Nat.gcd x.natAbs d.natAbs ≤ x.natAbs := Nat.le_of_dvd (by omega) (Nat.gcd_dvd_left _ _)
 have hq : 1 ≤ x / (Nat.gcd x.natAbs d.natAbs : Int) := by rw [Int.le_ediv_iff_mul_le (by omega)]; omega
 unfold lcmA
 have := Int.mul_le_mul_of_nonneg_right hq (show 0 ≤ d by omega)
 omega
theorem prD_cons {n d x : Int} {r : List (Int × Int)} (hx : 1 ≤ x) (hd : 1 ≤ d) : prD ((n, d) :: r) x = if 240 < lcmA x d then none else prD r (lcmA x d) := by
 have := lcmA_ge hx hd
 show (if 240 < d then none else if 240 < lcmA x d then none else prD r (lcmA x d)) = _
 by_cases h : 240 < d
 ·rw [if_pos h, if_pos (by omega)]
 ·rw [if_neg h]
theorem lcmB {x d : Int} (hx : 1 ≤ x ∧ x ≤ 240) (hd : 1 ≤ d ∧ d ≤ 1000000) : (0 < Nat.gcd x.natAbs d.natAbs ∧ Nat.gcd x.natAbs d.natAbs ≤ 240) ∧ (1 ≤ x / (Nat.gcd x.natAbs d.natAbs : Int) ∧ x / (Nat.gcd x.natAbs d.natAbs : Int) ≤ 240) ∧ 1 ≤ lcmA x d ∧ lcmA x d ≤ 240000000 := by
 have hg : 0 < Nat.gcd x.natAbs d.natAbs := Nat.gcd_pos_of_pos_left _ (by omega)
 have hgl : Nat.gcd x.natAbs d.natAbs ≤ x.natAbs := Nat.le_of_dvd (by omega) (Nat.gcd_dvd_left _ _)
 have hq : 1 ≤ x / (Nat.gcd x.natAbs d.natAbs : Int) := by rw [Int.le_ediv_iff_mul_le (by omega)]; omega
 have hq2 : x / (Nat.gcd x.natAbs d.natAbs : Int) ≤ 240 := Int.le_trans (Int.ediv_le_self _ (by omega)) hx.2
 have := lcmA_ge hx.1 hd.1
 refine ⟨⟨hg, by omega⟩, ⟨hq, hq2⟩, by omega, ?_⟩
 unfold lcmA
 have := Int.mul_le_mul hq2 hd.2 (by omega) (by decide)
 omega
def Rd1 (w : World) (n0 d0 n1 d1 n2 d2 : Int) (i : Value) (W : World) : Prop :=
 ∃ k : Nat, k ≤ 3 ∧ i = .int .i64 (k : Int) ∧ ((0 < k → Right n0 d0) ∧ (1 < k → Right n1 d1) ∧ (2 < k → Right n2 d2)) ∧ Hp w [(w.heap.size, 94, [.int .i64 n0, .int .i64 d0, .int .i64 n1, .int .i64 d1, .int .i64 n2, .int .i64 d2]), (w.heap.size + 1, 45, [.int .i64 0, .int .i64 0, .int .i64 0, .int .i64 0])] W
def Rd2 (w : World) (S : List (Int × Int)) (n0 d0 n1 d1 n2 d2 : Int) (c i : Value) (W : World) : Prop :=
 ∃ (k : Nat) (D : Int), k ≤ 3 ∧ i = .int .i64 (k : Int) ∧ c = .int .i64 D ∧ 1 ≤ D ∧ D ≤ 240 ∧ prD S 1 = prD (S.drop k) D ∧ Hp w [(w.heap.size, 94, [.int .i64 n0, .int .i64 d0, .int .i64 n1, .int .i64 d1, .int .i64 n2, .int .i64 d2]), (w.heap.size + 1, 45, [.int .i64 0, .int .i64 0, .int .i64 0, .int .i64 0])] W
def Rd3 (w : World) (G : Nat) (n0 d0 n1 d1 n2 d2 D x0 x1 x2 : Int) (i : Value) (W : World) : Prop :=
 ∃ (k : Nat) (e0 e1 e2 : Int), k ≤ 3 ∧ i = .int .i64 (k : Int) ∧ ((0 < k → e0 = x0 ∧ ¬ (x0 < -6000 ∨ 6000 < x0)) ∧ (1 < k → e1 = x1 ∧ ¬ (x1 < -6000 ∨ 6000 < x1)) ∧ (2 < k → e2 = x2 ∧ ¬ (x2 < -6000 ∨ 6000 < x2))) ∧ Hp w [(w.heap.size, 94, [.int .i64 n0, .int .i64 d0, .int .i64 n1, .int .i64 d1, .int .i64 n2, .int .i64 d2]), (w.heap.size + 1, 45, [.int .i64 0, .int .i64 0, .int .i64 0, .int .i64 0]), (G, 45, [.int .i64 e0, .int .i64 e1, .int .i64 e2, .int .i64 D])] W
set_option maxRecDepth 100000 in
set_option maxHeartbeats 8000000 in
theorem read_any (n0 d0 n1 d1 n2 d2 : Int) (w : World) :
  Calls Tryz.prog 54 #[szv n0 d0 n1 d1 n2 d2] w fun e w' => e = .returned (rdV [(n0, d0), (n1, d1), (n2, d2)]) ∧ Below w.heap.size w w' := by
 have hM0 : Hp w [(w.heap.size, 94, [.int .i64 n0, .int .i64 d0, .int .i64 n1, .int .i64 d1, .int .i64 n2, .int .i64 d2]), (w.heap.size + 1, 45, [.int .i64 0, .int .i64 0, .int .i64 0, .int .i64 0])] ((w.alloc (.cells #[.int .i64 n0, .int .i64 d0, .int .i64 n1, .int .i64 d1, .int .i64 n2, .int .i64 d2] 94)).alloc (.cells #[.int .i64 0, .int .i64 0, .int .i64 0, .int .i64 0] 45)) := by
  have h := ((Hp.start w).new 94 [.int .i64 n0, .int .i64 d0, .int .i64 n1, .int .i64 d1, .int .i64 n2, .int .i64 d2]).new 45 [.int .i64 0, .int .i64 0, .int .i64 0, .int .i64 0]
  simp only [World.size_alloc] at h
  exact h
 have HM0 := Lib.hid hM0
 clear hM0
 obtain ⟨S, hS⟩ : ∃ S, S = [(n0, d0), (n1, d1), (n2, d2)] := ⟨_, rfl⟩
 have HQ0 := Lib.hid (fun h => @rdV_num S (n0, d0) (by rw [hS]; simp) h)
 have HQ1 := Lib.hid (fun h => @rdV_num S (n1, d1) (by rw [hS]; simp) h)
 have HQ2 := Lib.hid (fun h => @rdV_num S (n2, d2) (by rw [hS]; simp) h)
 rw [← hS]
 have HS := Lib.hid hS
 obtain ⟨R, hR⟩ : ∃ R, R = rdV S := ⟨_, rfl⟩
 rw [← hR] at HQ0 HQ1 HQ2 ⊢
 have HR := Lib.hid hR
 clear hS hR
 go_enter Tryz.func54, Tryz.ntmps54
 go_wp2_with fail
 go_loopw [4] (fun i wr => Rd1 w n0 d0 n1 d1 n2 d2 i wr) (fun i _ => 3 - (intOf i).toNat)
 case atStart => exact ⟨0, by omega, rfl, ⟨fun h => absurd h (by decide), fun h => absurd h (by decide), fun h => absurd h (by decide)⟩, HM0.out⟩
 case round =>
  clear HM0
  obtain ⟨k, hk, rfl, hg, hm⟩ := hrel
  have HM := Lib.hid hm
  have HG := Lib.hid hg
  clear hm hg
  by_cases hlt : k < 3
  ·rcases (show k = 0 ∨ k = 1 ∨ k = 2 by omega) with rfl | rfl | rfl
   ·obtain ⟨c0, c1, c2, c3, c4, c5⟩ := six_of (HM.out.at_ 0 rfl)
    have hc := fun W => rightFraction_any n0 d0 W
    by_cases hr : Right n0 d0
    ·simp only [rightB_ok hr] at hc
     have HC := Lib.hid hc
     have HRT := Lib.hid hr
     clear hc hr
     go_wp2_with fail
     refine (HC.out _).mono ?_
     rintro e w2 ⟨rfl, hb⟩
     have HM2 := Lib.hid (HM.out.step hb)
     clear hb c0 c1 c2 c3 c4 c5
     go_wp2
     go_roundw
     case rel =>
      have hrl : Rd1 w n0 d0 n1 d1 n2 d2 (.int .i64 ((0 + 1 : Nat) : Int)) w2 := ⟨0 + 1, by omega, rfl, ⟨fun _ => HRT.out, fun h => absurd h (by decide), fun h => absurd h (by decide)⟩, HM2.out⟩
      exact hrl
     case measure => simp [intOf]
    ·simp only [rightB_no hr] at hc
     have HC := Lib.hid hc
     have HN := Lib.hid (HQ0.out hr)
     clear hc hr
     go_wp2_with fail
     refine (HC.out _).mono ?_
     rintro e w2 ⟨rfl, hb⟩
     have HM2 := Lib.hid (HM.out.step hb)
     clear hb c0 c1 c2 c3 c4 c5
     obtain ⟨e0, e1, e2, e3⟩ := four_of (HM2.out.at_ 1 rfl)
     obtain ⟨f0, f1, f2, f3⟩ := four_free (HM2.out.at_ 1 rfl)
     go_wp2
     obtain ⟨WZ, hWZ⟩ : ∃ WZ, WZ = ((((w2.setCell ⟨w.heap.size + 1, 0, none⟩ (.int .i64 0)).setCell ⟨w.heap.size + 1, 1, none⟩ (.int .i64 0)).setCell ⟨w.heap.size + 1, 2, none⟩ (.int .i64 0)).setCell ⟨w.heap.size + 1, 3, none⟩ (.int .i64 0)) := ⟨_, rfl⟩
     have hz := (HM2.out.put4 1 rfl (.int .i64 0) (.int .i64 0) (.int .i64 0) (.int .i64 0))
     rw [← hWZ] at hz ⊢
     obtain ⟨g0, g1, g2, g3⟩ := four_of (hz.at_ 1 rfl)
     exact bodyPost_ret (v := .tuple #[ovv 0 0 0 0, .int .i64 2]) (by simp [g0, g1, g2, g3, results, Tryz.results54, go_sem]) rfl ⟨by rw [HN.out], hz.below⟩
   ·obtain ⟨c0, c1, c2, c3, c4, c5⟩ := six_of (HM.out.at_ 0 rfl)
    have hc := fun W => rightFraction_any n1 d1 W
    by_cases hr : Right n1 d1
    ·simp only [rightB_ok hr] at hc
     have HC := Lib.hid hc
     have HRT := Lib.hid hr
     clear hc hr
     go_wp2_with fail
     refine (HC.out _).mono ?_
     rintro e w2 ⟨rfl, hb⟩
     have HM2 := Lib.hid (HM.out.step hb)
     clear hb c0 c1 c2 c3 c4 c5
     go_wp2
     go_roundw
     case rel =>
      have hrl : Rd1 w n0 d0 n1 d1 n2 d2 (.int .i64 ((1 + 1 : Nat) : Int)) w2 := ⟨1 + 1, by omega, rfl, ⟨fun _ => HG.out.1 (by decide), fun _ => HRT.out, fun h => absurd h (by decide)⟩, HM2.out⟩
      exact hrl
     case measure => simp [intOf]
    ·simp only [rightB_no hr] at hc
     have HC := Lib.hid hc
     have HN := Lib.hid (HQ1.out hr)
     clear hc hr
     go_wp2_with fail
     refine (HC.out _).mono ?_
     rintro e w2 ⟨rfl, hb⟩
     have HM2 := Lib.hid (HM.out.step hb)
     clear hb c0 c1 c2 c3 c4 c5
     obtain ⟨e0, e1, e2, e3⟩ := four_of (HM2.out.at_ 1 rfl)
     obtain ⟨f0, f1, f2, f3⟩ := four_free (HM2.out.at_ 1 rfl)
     go_wp2
     obtain ⟨WZ, hWZ⟩ : ∃ WZ, WZ = ((((w2.setCell ⟨w.heap.size + 1, 0, none⟩ (.int .i64 0)).setCell ⟨w.heap.size + 1, 1, none⟩ (.int .i64 0)).setCell ⟨w.heap.size + 1, 2, none⟩ (.int .i64 0)).setCell ⟨w.heap.size + 1, 3, none⟩ (.int .i64 0)) := ⟨_, rfl⟩
     have hz := (HM2.out.put4 1 rfl (.int .i64 0) (.int .i64 0) (.int .i64 0) (.int .i64 0))
     rw [← hWZ] at hz ⊢
     obtain ⟨g0, g1, g2, g3⟩ := four_of (hz.at_ 1 rfl)
     exact bodyPost_ret (v := .tuple #[ovv 0 0 0 0, .int .i64 2]) (by simp [g0, g1, g2, g3, results, Tryz.results54, go_sem]) rfl ⟨by rw [HN.out], hz.below⟩
   ·obtain ⟨c0, c1, c2, c3, c4, c5⟩ := six_of (HM.out.at_ 0 rfl)
    have hc := fun W => rightFraction_any n2 d2 W
    by_cases hr : Right n2 d2
    ·simp only [rightB_ok hr] at hc
     have HC := Lib.hid hc
     have HRT := Lib.hid hr
     clear hc hr
     go_wp2_with fail
     refine (HC.out _).mono ?_
     rintro e w2 ⟨rfl, hb⟩
     have HM2 := Lib.hid (HM.out.step hb)
     clear hb c0 c1 c2 c3 c4 c5
     go_wp2
     go_roundw
     case rel =>
      have hrl : Rd1 w n0 d0 n1 d1 n2 d2 (.int .i64 ((2 + 1 : Nat) : Int)) w2 := ⟨2 + 1, by omega, rfl, ⟨fun _ => HG.out.1 (by decide), fun _ => HG.out.2.1 (by decide), fun _ => HRT.out⟩, HM2.out⟩
      exact hrl
     case measure => simp [intOf]
    ·simp only [rightB_no hr] at hc
     have HC := Lib.hid hc
     have HN := Lib.hid (HQ2.out hr)
     clear hc hr
     go_wp2_with fail
     refine (HC.out _).mono ?_
     rintro e w2 ⟨rfl, hb⟩
     have HM2 := Lib.hid (HM.out.step hb)
     clear hb c0 c1 c2 c3 c4 c5
     obtain ⟨e0, e1, e2, e3⟩ := four_of (HM2.out.at_ 1 rfl)
     obtain ⟨f0, f1, f2, f3⟩ := four_free (HM2.out.at_ 1 rfl)
     go_wp2
     obtain ⟨WZ, hWZ⟩ : ∃ WZ, WZ = ((((w2.setCell ⟨w.heap.size + 1, 0, none⟩ (.int .i64 0)).setCell ⟨w.heap.size + 1, 1, none⟩ (.int .i64 0)).setCell ⟨w.heap.size + 1, 2, none⟩ (.int .i64 0)).setCell ⟨w.heap.size + 1, 3, none⟩ (.int .i64 0)) := ⟨_, rfl⟩
     have hz := (HM2.out.put4 1 rfl (.int .i64 0) (.int .i64 0) (.int .i64 0) (.int .i64 0))
     rw [← hWZ] at hz ⊢
     obtain ⟨g0, g1, g2, g3⟩ := four_of (hz.at_ 1 rfl)
     exact bodyPost_ret (v := .tuple #[ovv 0 0 0 0, .int .i64 2]) (by simp [g0, g1, g2, g3, results, Tryz.results54, go_sem]) rfl ⟨by rw [HN.out], hz.below⟩
  ·obtain rfl : k = 3 := by omega
   have hall : ∀ q ∈ S, Right q.1 q.2 := by
    intro q hq
    rw [HS.out] at hq
    simp only [List.mem_cons, List.not_mem_nil, or_false] at hq
    rcases hq with rfl | rfl | rfl
    ·exact HG.out.1 (by decide)
    ·exact HG.out.2.1 (by decide)
    ·exact HG.out.2.2 (by decide)
   have HALL := Lib.hid hall
   have HLI := Lib.hid (fun h2 => HR.out.trans (rdV_lim hall h2))
   have HOK := Lib.hid (fun (x y z D : Int) h2 => HR.out.trans (@rdV_ok S x y z D hall h2))
   obtain ⟨b00, b01, a00, a01, _⟩ := HG.out.1 (by decide)
   obtain ⟨b10, b11, a10, a11, _⟩ := HG.out.2.1 (by decide)
   obtain ⟨b20, b21, a20, a21, _⟩ := HG.out.2.2 (by decide)
   clear hall hlt hk HG HQ0 HQ1 HQ2
   go_wp2_with fail
   go_loopw [5, 6] (fun c i wx => Rd2 w S n0 d0 n1 d1 n2 d2 c i wx) (fun _ i _ => 3 - (intOf i).toNat)
   case atStart => exact ⟨0, 1, by omega, rfl, rfl, by omega, by omega, rfl, HM.out⟩
   case round =>
    clear HM
    obtain ⟨k, D, hk, rfl, rfl, hD0, hD1, hp, hm⟩ := hrel
    have HM := Lib.hid hm
    have HP := Lib.hid hp
    clear hm hp
    by_cases hlt : k < 3
    ·rcases (show k = 0 ∨ k = 1 ∨ k = 2 by omega) with rfl | rfl | rfl
     ·have hst : prD S 1 = if 240 < lcmA D d0 then none else prD [(n1, d1), (n2, d2)] (lcmA D d0) := by
       have hs := HS.out
       have h1 : prD S 1 = prD (S.drop 0) D := HP.out
       rw [h1, hs]
       exact prD_cons hD0 b00
      obtain ⟨⟨hg0, hg1⟩, ⟨hq0, hq1⟩, hl0, hl1⟩ := lcmB ⟨hD0, hD1⟩ ⟨b00, b01⟩
      have hgc := fun W => divisor_any D d0 W (by omega) (by omega) (by omega) (by omega)
      obtain ⟨g, hg⟩ : ∃ g : Int, g = (Nat.gcd D.natAbs d0.natAbs : Int) := ⟨_, rfl⟩
      obtain ⟨l, hl⟩ : ∃ l, l = lcmA D d0 := ⟨_, rfl⟩
      obtain ⟨q, hq⟩ : ∃ q, q = D / g := ⟨_, rfl⟩
      have hlm : q * d0 = l := by rw [hl, hq, hg]; rfl
      rw [← hl] at hst hl0 hl1
      rw [← hg] at hq0 hq1 hgc
      rw [← hq] at hq0 hq1
      have hgp : 0 < g := by omega
      have hgz : (g == 0) = false := by rw [beq_eq_false_iff_ne]; omega
      have HGC := Lib.hid hgc
      have HST := Lib.hid hst
      have hw1 : IntKind.i64.wrap (D.tdiv g) = q := by rw [Int.tdiv_eq_ediv_of_nonneg (by omega), ← hq]; exact IntWalk.i64_in _ (by omega)
      have hw2 : IntKind.i64.wrap (q * d0) = l := by rw [hlm]; exact IntWalk.i64_in _ (by omega)
      have HW := Lib.hid (And.intro hw1 (And.intro hw2 hq.symm))
      clear hst hgc hw1 hw2 hq hlm hg hl hg0 hg1
      go_upto_region 10 with fail
      obtain ⟨hw1, hw2, hw3⟩ := HW.out
      obtain ⟨c0, c1, c2, c3, c4, c5⟩ := six_of (HM.out.at_ 0 rfl)
      go_quiet ((go_at_call 68; exact Calls.quiet_of (HGC.out _)))
      clear hw1 hw2 hw3 hgz c0 c1 c2 c3 c4 c5
      obtain ⟨W8, hW8⟩ : ∃ W8, W8 = wr.drewN nq := ⟨_, rfl⟩
      have hm8 : Hp w [(w.heap.size, 94, [.int .i64 n0, .int .i64 d0, .int .i64 n1, .int .i64 d1, .int .i64 n2, .int .i64 d2]), (w.heap.size + 1, 45, [.int .i64 0, .int .i64 0, .int .i64 0, .int .i64 0])] W8 := by rw [hW8]; exact HM.out.drewN _
      rw [← hW8]
      have HM8 := Lib.hid hm8
      clear hW8 hm8
      by_cases hl2 : 240 < l
      ·have HN := Lib.hid (HLI.out (prt_den (show prD S 1 = none by rw [HST.out, if_pos hl2])))
       obtain ⟨e0, e1, e2, e3⟩ := four_of (HM8.out.at_ 1 rfl)
       obtain ⟨f0, f1, f2, f3⟩ := four_free (HM8.out.at_ 1 rfl)
       go_wp2
       obtain ⟨WZ, hWZ⟩ : ∃ WZ, WZ = ((((W8.setCell ⟨w.heap.size + 1, 0, none⟩ (.int .i64 0)).setCell ⟨w.heap.size + 1, 1, none⟩ (.int .i64 0)).setCell ⟨w.heap.size + 1, 2, none⟩ (.int .i64 0)).setCell ⟨w.heap.size + 1, 3, none⟩ (.int .i64 0)) := ⟨_, rfl⟩
       have hz := (HM8.out.put4 1 rfl (.int .i64 0) (.int .i64 0) (.int .i64 0) (.int .i64 0))
       rw [← hWZ] at hz ⊢
       obtain ⟨g0, g1, g2, g3⟩ := four_of (hz.at_ 1 rfl)
       exact bodyPost_ret (v := .tuple #[ovv 0 0 0 0, .int .i64 4]) (by simp [g0, g1, g2, g3, results, Tryz.results54, go_sem]) rfl ⟨by rw [HN.out], hz.below⟩
      ·have HN := Lib.hid (show prD S 1 = prD (S.drop (0 + 1)) l by
        have hs := HS.out
        rw [HST.out, if_neg hl2, hs]; rfl)
       go_wp2
       go_roundw
       case rel =>
        have hrl : Rd2 w S n0 d0 n1 d1 n2 d2 (.int .i64 l) (.int .i64 ((0 + 1 : Nat) : Int)) W8 := ⟨0 + 1, l, by omega, rfl, rfl, hl0, by omega, HN.out, HM8.out⟩
        exact hrl
       case measure => simp [intOf]
     ·have hst : prD S 1 = if 240 < lcmA D d1 then none else prD [(n2, d2)] (lcmA D d1) := by
       have hs := HS.out
       have h1 : prD S 1 = prD (S.drop 1) D := HP.out
       rw [h1, hs]
       exact prD_cons hD0 b10
      obtain ⟨⟨hg0, hg1⟩, ⟨hq0, hq1⟩, hl0, hl1⟩ := lcmB ⟨hD0, hD1⟩ ⟨b10, b11⟩
      have hgc := fun W => divisor_any D d1 W (by omega) (by omega) (by omega) (by omega)
      obtain ⟨g, hg⟩ : ∃ g : Int, g = (Nat.gcd D.natAbs d1.natAbs : Int) := ⟨_, rfl⟩
      obtain ⟨l, hl⟩ : ∃ l, l = lcmA D d1 := ⟨_, rfl⟩
      obtain ⟨q, hq⟩ : ∃ q, q = D / g := ⟨_, rfl⟩
      have hlm : q * d1 = l := by rw [hl, hq, hg]; rfl
      rw [← hl] at hst hl0 hl1
      rw [← hg] at hq0 hq1 hgc
      rw [← hq] at hq0 hq1
      have hgp : 0 < g := by omega
      have hgz : (g == 0) = false := by rw [beq_eq_false_iff_ne]; omega
      have HGC := Lib.hid hgc
      have HST := Lib.hid hst
      have hw1 : IntKind.i64.wrap (D.tdiv g) = q := by rw [Int.tdiv_eq_ediv_of_nonneg (by omega), ← hq]; exact IntWalk.i64_in _ (by omega)
      have hw2 : IntKind.i64.wrap (q * d1) = l := by rw [hlm]; exact IntWalk.i64_in _ (by omega)
      have HW := Lib.hid (And.intro hw1 (And.intro hw2 hq.symm))
      clear hst hgc hw1 hw2 hq hlm hg hl hg0 hg1
      go_upto_region 10 with fail
      obtain ⟨hw1, hw2, hw3⟩ := HW.out
      obtain ⟨c0, c1, c2, c3, c4, c5⟩ := six_of (HM.out.at_ 0 rfl)
      go_quiet ((go_at_call 68; exact Calls.quiet_of (HGC.out _)))
      clear hw1 hw2 hw3 hgz c0 c1 c2 c3 c4 c5
      obtain ⟨W8, hW8⟩ : ∃ W8, W8 = wr.drewN nq := ⟨_, rfl⟩
      have hm8 : Hp w [(w.heap.size, 94, [.int .i64 n0, .int .i64 d0, .int .i64 n1, .int .i64 d1, .int .i64 n2, .int .i64 d2]), (w.heap.size + 1, 45, [.int .i64 0, .int .i64 0, .int .i64 0, .int .i64 0])] W8 := by rw [hW8]; exact HM.out.drewN _
      rw [← hW8]
      have HM8 := Lib.hid hm8
      clear hW8 hm8
      by_cases hl2 : 240 < l
      ·have HN := Lib.hid (HLI.out (prt_den (show prD S 1 = none by rw [HST.out, if_pos hl2])))
       obtain ⟨e0, e1, e2, e3⟩ := four_of (HM8.out.at_ 1 rfl)
       obtain ⟨f0, f1, f2, f3⟩ := four_free (HM8.out.at_ 1 rfl)
       go_wp2
       obtain ⟨WZ, hWZ⟩ : ∃ WZ, WZ = ((((W8.setCell ⟨w.heap.size + 1, 0, none⟩ (.int .i64 0)).setCell ⟨w.heap.size + 1, 1, none⟩ (.int .i64 0)).setCell ⟨w.heap.size + 1, 2, none⟩ (.int .i64 0)).setCell ⟨w.heap.size + 1, 3, none⟩ (.int .i64 0)) := ⟨_, rfl⟩
       have hz := (HM8.out.put4 1 rfl (.int .i64 0) (.int .i64 0) (.int .i64 0) (.int .i64 0))
       rw [← hWZ] at hz ⊢
       obtain ⟨g0, g1, g2, g3⟩ := four_of (hz.at_ 1 rfl)
       exact bodyPost_ret (v := .tuple #[ovv 0 0 0 0, .int .i64 4]) (by simp [g0, g1, g2, g3, results, Tryz.results54, go_sem]) rfl ⟨by rw [HN.out], hz.below⟩
      ·have HN := Lib.hid (show prD S 1 = prD (S.drop (1 + 1)) l by
        have hs := HS.out
        rw [HST.out, if_neg hl2, hs]; rfl)
       go_wp2
       go_roundw
       case rel =>
        have hrl : Rd2 w S n0 d0 n1 d1 n2 d2 (.int .i64 l) (.int .i64 ((1 + 1 : Nat) : Int)) W8 := ⟨1 + 1, l, by omega, rfl, rfl, hl0, by omega, HN.out, HM8.out⟩
        exact hrl
       case measure => simp [intOf]
     ·have hst : prD S 1 = if 240 < lcmA D d2 then none else prD [] (lcmA D d2) := by
       have hs := HS.out
       have h1 : prD S 1 = prD (S.drop 2) D := HP.out
       rw [h1, hs]
       exact prD_cons hD0 b20
      obtain ⟨⟨hg0, hg1⟩, ⟨hq0, hq1⟩, hl0, hl1⟩ := lcmB ⟨hD0, hD1⟩ ⟨b20, b21⟩
      have hgc := fun W => divisor_any D d2 W (by omega) (by omega) (by omega) (by omega)
      obtain ⟨g, hg⟩ : ∃ g : Int, g = (Nat.gcd D.natAbs d2.natAbs : Int) := ⟨_, rfl⟩
      obtain ⟨l, hl⟩ : ∃ l, l = lcmA D d2 := ⟨_, rfl⟩
      obtain ⟨q, hq⟩ : ∃ q, q = D / g := ⟨_, rfl⟩
      have hlm : q * d2 = l := by rw [hl, hq, hg]; rfl
      rw [← hl] at hst hl0 hl1
      rw [← hg] at hq0 hq1 hgc
      rw [← hq] at hq0 hq1
      have hgp : 0 < g := by omega
      have hgz : (g == 0) = false := by rw [beq_eq_false_iff_ne]; omega
      have HGC := Lib.hid hgc
      have HST := Lib.hid hst
      have hw1 : IntKind.i64.wrap (D.tdiv g) = q := by rw [Int.tdiv_eq_ediv_of_nonneg (by omega), ← hq]; exact IntWalk.i64_in _ (by omega)
      have hw2 : IntKind.i64.wrap (q * d2) = l := by rw [hlm]; exact IntWalk.i64_in _ (by omega)
      have HW := Lib.hid (And.intro hw1 (And.intro hw2 hq.symm))
      clear hst hgc hw1 hw2 hq hlm hg hl hg0 hg1
      go_upto_region 10 with fail
      obtain ⟨hw1, hw2, hw3⟩ := HW.out
      obtain ⟨c0, c1, c2, c3, c4, c5⟩ := six_of (HM.out.at_ 0 rfl)
      go_quiet ((go_at_call 68; exact Calls.quiet_of (HGC.out _)))
      clear hw1 hw2 hw3 hgz c0 c1 c2 c3 c4 c5
      obtain ⟨W8, hW8⟩ : ∃ W8, W8 = wr.drewN nq := ⟨_, rfl⟩
      have hm8 : Hp w [(w.heap.size, 94, [.int .i64 n0, .int .i64 d0, .int .i64 n1, .int .i64 d1, .int .i64 n2, .int .i64 d2]), (w.heap.size + 1, 45, [.int .i64 0, .int .i64 0, .int .i64 0, .int .i64 0])] W8 := by rw [hW8]; exact HM.out.drewN _
      rw [← hW8]
      have HM8 := Lib.hid hm8
      clear hW8 hm8
      by_cases hl2 : 240 < l
      ·have HN := Lib.hid (HLI.out (prt_den (show prD S 1 = none by rw [HST.out, if_pos hl2])))
       obtain ⟨e0, e1, e2, e3⟩ := four_of (HM8.out.at_ 1 rfl)
       obtain ⟨f0, f1, f2, f3⟩ := four_free (HM8.out.at_ 1 rfl)
       go_wp2
       obtain ⟨WZ, hWZ⟩ : ∃ WZ, WZ = ((((W8.setCell ⟨w.heap.size + 1, 0, none⟩ (.int .i64 0)).setCell ⟨w.heap.size + 1, 1, none⟩ (.int .i64 0)).setCell ⟨w.heap.size + 1, 2, none⟩ (.int .i64 0)).setCell ⟨w.heap.size + 1, 3, none⟩ (.int .i64 0)) := ⟨_, rfl⟩
       have hz := (HM8.out.put4 1 rfl (.int .i64 0) (.int .i64 0) (.int .i64 0) (.int .i64 0))
       rw [← hWZ] at hz ⊢
       obtain ⟨g0, g1, g2, g3⟩ := four_of (hz.at_ 1 rfl)
       exact bodyPost_ret (v := .tuple #[ovv 0 0 0 0, .int .i64 4]) (by simp [g0, g1, g2, g3, results, Tryz.results54, go_sem]) rfl ⟨by rw [HN.out], hz.below⟩
      ·have HN := Lib.hid (show prD S 1 = prD (S.drop (2 + 1)) l by
        have hs := HS.out
        rw [HST.out, if_neg hl2, hs]; rfl)
       go_wp2
       go_roundw
       case rel =>
        have hrl : Rd2 w S n0 d0 n1 d1 n2 d2 (.int .i64 l) (.int .i64 ((2 + 1 : Nat) : Int)) W8 := ⟨2 + 1, l, by omega, rfl, rfl, hl0, by omega, HN.out, HM8.out⟩
        exact hrl
       case measure => simp [intOf]
    ·obtain rfl : k = 3 := by omega
     have HP3 := Lib.hid (show prD S 1 = some D by
      have hh : prD S 1 = prD (S.drop 3) D := HP.out
      have hs := HS.out
      rw [hh, hs]; rfl)
     obtain ⟨q0, hq0⟩ : ∃ q, q = D / d0 := ⟨_, rfl⟩
     obtain ⟨q1, hq1⟩ : ∃ q, q = D / d1 := ⟨_, rfl⟩
     obtain ⟨q2, hq2⟩ : ∃ q, q = D / d2 := ⟨_, rfl⟩
     obtain ⟨x0, hx0'⟩ : ∃ x, x = n0 * q0 := ⟨_, rfl⟩
     obtain ⟨x1, hx1'⟩ : ∃ x, x = n1 * q1 := ⟨_, rfl⟩
     obtain ⟨x2, hx2'⟩ : ∃ x, x = n2 * q2 := ⟨_, rfl⟩
     have hN := (show prN S D = if x0 < -6000 ∨ 6000 < x0 then none else (if x1 < -6000 ∨ 6000 < x1 then none else (if x2 < -6000 ∨ 6000 < x2 then none else some [x2]).map (x1 :: ·)).map (x0 :: ·) by
      have hs := HS.out
      rw [hs, hx0', hx1', hx2', hq0, hq1, hq2]; rfl)
     have hPN : prt S = (prN S D).map (·, D) := by unfold prt; rw [HP3.out]
     obtain ⟨y00, y01, hw00, hw01⟩ := frac_bd ⟨hD0, hD1⟩ ⟨b00, b01⟩ ⟨a00, a01⟩ hq0 hx0'
     obtain ⟨y10, y11, hw10, hw11⟩ := frac_bd ⟨hD0, hD1⟩ ⟨b10, b11⟩ ⟨a10, a11⟩ hq1 hx1'
     obtain ⟨y20, y21, hw20, hw21⟩ := frac_bd ⟨hD0, hD1⟩ ⟨b20, b21⟩ ⟨a20, a21⟩ hq2 hx2'
     have HW0 := Lib.hid (And.intro hw00 (And.intro hw01 hq0))
     have HW1 := Lib.hid (And.intro hw10 (And.intro hw11 hq1))
     have HW2 := Lib.hid (And.intro hw20 (And.intro hw21 hq2))
     have HN := Lib.hid hN
     have HPN := Lib.hid hPN
     have hM1 : Hp w [(w.heap.size, 94, [.int .i64 n0, .int .i64 d0, .int .i64 n1, .int .i64 d1, .int .i64 n2, .int .i64 d2]), (w.heap.size + 1, 45, [.int .i64 0, .int .i64 0, .int .i64 0, .int .i64 0]), (wr.heap.size, 45, [.int .i64 0, .int .i64 0, .int .i64 0, .int .i64 D])] (wr.alloc (.cells #[.int .i64 0, .int .i64 0, .int .i64 0, .int .i64 D] 45)) := HM.out.new 45 [.int .i64 0, .int .i64 0, .int .i64 0, .int .i64 D]
     have HM1 := Lib.hid hM1
     obtain ⟨wo, rfl⟩ : ∃ wo : World, wo = wr := ⟨_, rfl⟩
     clear hw00 hw01 hw10 hw11 hw20 hw21 hq0 hq1 hq2 hx0' hx1' hx2' hN hPN hM1 hlt hk HM
     go_wp2_with fail
     go_loopw [8] (fun i wx => Rd3 w wo.heap.size n0 d0 n1 d1 n2 d2 D x0 x1 x2 i wx) (fun i _ => 3 - (intOf i).toNat)
     case atStart => exact ⟨0, 0, 0, 0, by omega, rfl, ⟨fun h => absurd h (by decide), fun h => absurd h (by decide), fun h => absurd h (by decide)⟩, HM1.out⟩
     case round =>
      clear HM1
      obtain ⟨k, e0, e1, e2, hk, rfl, hpr, hm⟩ := hrel
      have HM := Lib.hid hm
      have HPR := Lib.hid hpr
      clear hm hpr
      by_cases hlt : k < 3
      ·rcases (show k = 0 ∨ k = 1 ∨ k = 2 by omega) with rfl | rfl | rfl
       ·obtain ⟨hw1, hw2, hq⟩ := HW0.out
        have hq3 := hq.symm
        obtain ⟨c0, c1, c2, c3, c4, c5⟩ := six_of (HM.out.at_ 0 rfl)
        obtain ⟨u0, u1, u2, u3⟩ := four_of (HM.out.at_ 2 rfl)
        have f0 := (HM.out.at_ 2 rfl).frozen 0
        have hdz : (d0 == 0) = false := by rw [beq_eq_false_iff_ne]; omega
        clear hq
        go_upto_region 17 with fail
        go_cut [] (fun wx => Hp w [(w.heap.size, 94, [.int .i64 n0, .int .i64 d0, .int .i64 n1, .int .i64 d1, .int .i64 n2, .int .i64 d2]), (w.heap.size + 1, 45, [.int .i64 0, .int .i64 0, .int .i64 0, .int .i64 0]), (wo.heap.size, 45, [.int .i64 x0, .int .i64 e1, .int .i64 e2, .int .i64 D])] wx)
        case first =>
         go_region
         all_goals
          go_wp2_with fail
          go_meet
          exact (show Hp w [(w.heap.size, 94, [.int .i64 n0, .int .i64 d0, .int .i64 n1, .int .i64 d1, .int .i64 n2, .int .i64 d2]), (w.heap.size + 1, 45, [.int .i64 0, .int .i64 0, .int .i64 0, .int .i64 0]), (wo.heap.size, 45, [.int .i64 x0, .int .i64 e1, .int .i64 e2, .int .i64 D])] _ from (HM.out.put 2 rfl 0 (.int .i64 x0)).drew)
        case rest =>
         have HM9 := Lib.hid hcut
         clear hcut hw1 hw2 hq3 c0 c1 c2 c3 c4 c5 u0 u1 u2 u3 f0 hdz
         obtain ⟨u0, u1, u2, u3⟩ := four_of (HM9.out.at_ 2 rfl)
         by_cases hbad : x0 < -6000 ∨ 6000 < x0
         ·have HNO := Lib.hid (HLI.out (show prt S = none by rw [HPN.out, HN.out, if_pos hbad]; rfl))
          rcases hbad with hbad | hbad
          ·have hbad2 : ¬ (6000 < x0) := by omega
           obtain ⟨e0, e1, e2, e3⟩ := four_of (HM9.out.at_ 1 rfl)
           obtain ⟨f0, f1, f2, f3⟩ := four_free (HM9.out.at_ 1 rfl)
           go_wp2
           obtain ⟨WZ, hWZ⟩ : ∃ WZ, WZ = ((((wc.setCell ⟨w.heap.size + 1, 0, none⟩ (.int .i64 0)).setCell ⟨w.heap.size + 1, 1, none⟩ (.int .i64 0)).setCell ⟨w.heap.size + 1, 2, none⟩ (.int .i64 0)).setCell ⟨w.heap.size + 1, 3, none⟩ (.int .i64 0)) := ⟨_, rfl⟩
           have hz := (HM9.out.put4 1 rfl (.int .i64 0) (.int .i64 0) (.int .i64 0) (.int .i64 0))
           rw [← hWZ] at hz ⊢
           obtain ⟨g0, g1, g2, g3⟩ := four_of (hz.at_ 1 rfl)
           exact bodyPost_ret (v := .tuple #[ovv 0 0 0 0, .int .i64 4]) (by simp [g0, g1, g2, g3, results, Tryz.results54, go_sem]) rfl ⟨by rw [HNO.out], hz.below⟩
          ·skip
           obtain ⟨e0, e1, e2, e3⟩ := four_of (HM9.out.at_ 1 rfl)
           obtain ⟨f0, f1, f2, f3⟩ := four_free (HM9.out.at_ 1 rfl)
           go_wp2
           obtain ⟨WZ, hWZ⟩ : ∃ WZ, WZ = ((((wc.setCell ⟨w.heap.size + 1, 0, none⟩ (.int .i64 0)).setCell ⟨w.heap.size + 1, 1, none⟩ (.int .i64 0)).setCell ⟨w.heap.size + 1, 2, none⟩ (.int .i64 0)).setCell ⟨w.heap.size + 1, 3, none⟩ (.int .i64 0)) := ⟨_, rfl⟩
           have hz := (HM9.out.put4 1 rfl (.int .i64 0) (.int .i64 0) (.int .i64 0) (.int .i64 0))
           rw [← hWZ] at hz ⊢
           obtain ⟨g0, g1, g2, g3⟩ := four_of (hz.at_ 1 rfl)
           exact bodyPost_ret (v := .tuple #[ovv 0 0 0 0, .int .i64 4]) (by simp [g0, g1, g2, g3, results, Tryz.results54, go_sem]) rfl ⟨by rw [HNO.out], hz.below⟩
         ·have HB := Lib.hid hbad
          have hb1 : -6000 ≤ x0 := by omega
          have hb2 : x0 ≤ 6000 := by omega
          clear hbad
          go_wp2
          go_roundw
          case rel =>
           have hrl : Rd3 w wo.heap.size n0 d0 n1 d1 n2 d2 D x0 x1 x2 (.int .i64 ((0 + 1 : Nat) : Int)) wc := ⟨0 + 1, x0, e1, e2, by omega, rfl, ⟨fun _ => ⟨rfl, HB.out⟩, fun h => absurd h (by decide), fun h => absurd h (by decide)⟩, HM9.out⟩
           first | exact hrl | ((repeat apply Exists.intro); exact ⟨hrl, rfl⟩)
          case measure => simp [intOf]
       ·obtain ⟨hw1, hw2, hq⟩ := HW1.out
        have hq3 := hq.symm
        obtain ⟨c0, c1, c2, c3, c4, c5⟩ := six_of (HM.out.at_ 0 rfl)
        obtain ⟨u0, u1, u2, u3⟩ := four_of (HM.out.at_ 2 rfl)
        have f0 := (HM.out.at_ 2 rfl).frozen 1
        have hdz : (d1 == 0) = false := by rw [beq_eq_false_iff_ne]; omega
        clear hq
        go_upto_region 17 with fail
        go_cut [] (fun wx => Hp w [(w.heap.size, 94, [.int .i64 n0, .int .i64 d0, .int .i64 n1, .int .i64 d1, .int .i64 n2, .int .i64 d2]), (w.heap.size + 1, 45, [.int .i64 0, .int .i64 0, .int .i64 0, .int .i64 0]), (wo.heap.size, 45, [.int .i64 e0, .int .i64 x1, .int .i64 e2, .int .i64 D])] wx)
        case first =>
         go_region
         all_goals
          go_wp2_with fail
          go_meet
          exact (show Hp w [(w.heap.size, 94, [.int .i64 n0, .int .i64 d0, .int .i64 n1, .int .i64 d1, .int .i64 n2, .int .i64 d2]), (w.heap.size + 1, 45, [.int .i64 0, .int .i64 0, .int .i64 0, .int .i64 0]), (wo.heap.size, 45, [.int .i64 e0, .int .i64 x1, .int .i64 e2, .int .i64 D])] _ from (HM.out.put 2 rfl 1 (.int .i64 x1)).drew)
        case rest =>
         have HM9 := Lib.hid hcut
         clear hcut hw1 hw2 hq3 c0 c1 c2 c3 c4 c5 u0 u1 u2 u3 f0 hdz
         obtain ⟨u0, u1, u2, u3⟩ := four_of (HM9.out.at_ 2 rfl)
         by_cases hbad : x1 < -6000 ∨ 6000 < x1
         ·have HNO := Lib.hid (HLI.out (show prt S = none by rw [HPN.out, HN.out, if_neg (HPR.out.1 (by decide)).2, if_pos hbad]; rfl))
          rcases hbad with hbad | hbad
          ·have hbad2 : ¬ (6000 < x1) := by omega
           obtain ⟨e0, e1, e2, e3⟩ := four_of (HM9.out.at_ 1 rfl)
           obtain ⟨f0, f1, f2, f3⟩ := four_free (HM9.out.at_ 1 rfl)
           go_wp2
           obtain ⟨WZ, hWZ⟩ : ∃ WZ, WZ = ((((wc.setCell ⟨w.heap.size + 1, 0, none⟩ (.int .i64 0)).setCell ⟨w.heap.size + 1, 1, none⟩ (.int .i64 0)).setCell ⟨w.heap.size + 1, 2, none⟩ (.int .i64 0)).setCell ⟨w.heap.size + 1, 3, none⟩ (.int .i64 0)) := ⟨_, rfl⟩
           have hz := (HM9.out.put4 1 rfl (.int .i64 0) (.int .i64 0) (.int .i64 0) (.int .i64 0))
           rw [← hWZ] at hz ⊢
           obtain ⟨g0, g1, g2, g3⟩ := four_of (hz.at_ 1 rfl)
           exact bodyPost_ret (v := .tuple #[ovv 0 0 0 0, .int .i64 4]) (by simp [g0, g1, g2, g3, results, Tryz.results54, go_sem]) rfl ⟨by rw [HNO.out], hz.below⟩
          ·skip
           obtain ⟨e0, e1, e2, e3⟩ := four_of (HM9.out.at_ 1 rfl)
           obtain ⟨f0, f1, f2, f3⟩ := four_free (HM9.out.at_ 1 rfl)
           go_wp2
           obtain ⟨WZ, hWZ⟩ : ∃ WZ, WZ = ((((wc.setCell ⟨w.heap.size + 1, 0, none⟩ (.int .i64 0)).setCell ⟨w.heap.size + 1, 1, none⟩ (.int .i64 0)).setCell ⟨w.heap.size + 1, 2, none⟩ (.int .i64 0)).setCell ⟨w.heap.size + 1, 3, none⟩ (.int .i64 0)) := ⟨_, rfl⟩
           have hz := (HM9.out.put4 1 rfl (.int .i64 0) (.int .i64 0) (.int .i64 0) (.int .i64 0))
           rw [← hWZ] at hz ⊢
           obtain ⟨g0, g1, g2, g3⟩ := four_of (hz.at_ 1 rfl)
           exact bodyPost_ret (v := .tuple #[ovv 0 0 0 0, .int .i64 4]) (by simp [g0, g1, g2, g3, results, Tryz.results54, go_sem]) rfl ⟨by rw [HNO.out], hz.below⟩
         ·have HB := Lib.hid hbad
          have hb1 : -6000 ≤ x1 := by omega
          have hb2 : x1 ≤ 6000 := by omega
          clear hbad
          go_wp2
          go_roundw
          case rel =>
           have hrl : Rd3 w wo.heap.size n0 d0 n1 d1 n2 d2 D x0 x1 x2 (.int .i64 ((1 + 1 : Nat) : Int)) wc := ⟨1 + 1, e0, x1, e2, by omega, rfl, ⟨fun _ => HPR.out.1 (by decide), fun _ => ⟨rfl, HB.out⟩, fun h => absurd h (by decide)⟩, HM9.out⟩
           first | exact hrl | ((repeat apply Exists.intro); exact ⟨hrl, rfl⟩)
          case measure => simp [intOf]
       ·obtain ⟨hw1, hw2, hq⟩ := HW2.out
        have hq3 := hq.symm
        obtain ⟨c0, c1, c2, c3, c4, c5⟩ := six_of (HM.out.at_ 0 rfl)
        obtain ⟨u0, u1, u2, u3⟩ := four_of (HM.out.at_ 2 rfl)
        have f0 := (HM.out.at_ 2 rfl).frozen 2
        have hdz : (d2 == 0) = false := by rw [beq_eq_false_iff_ne]; omega
        clear hq
        go_upto_region 17 with fail
        go_cut [] (fun wx => Hp w [(w.heap.size, 94, [.int .i64 n0, .int .i64 d0, .int .i64 n1, .int .i64 d1, .int .i64 n2, .int .i64 d2]), (w.heap.size + 1, 45, [.int .i64 0, .int .i64 0, .int .i64 0, .int .i64 0]), (wo.heap.size, 45, [.int .i64 e0, .int .i64 e1, .int .i64 x2, .int .i64 D])] wx)
        case first =>
         go_region
         all_goals
          go_wp2_with fail
          go_meet
          exact (show Hp w [(w.heap.size, 94, [.int .i64 n0, .int .i64 d0, .int .i64 n1, .int .i64 d1, .int .i64 n2, .int .i64 d2]), (w.heap.size + 1, 45, [.int .i64 0, .int .i64 0, .int .i64 0, .int .i64 0]), (wo.heap.size, 45, [.int .i64 e0, .int .i64 e1, .int .i64 x2, .int .i64 D])] _ from (HM.out.put 2 rfl 2 (.int .i64 x2)).drew)
        case rest =>
         have HM9 := Lib.hid hcut
         clear hcut hw1 hw2 hq3 c0 c1 c2 c3 c4 c5 u0 u1 u2 u3 f0 hdz
         obtain ⟨u0, u1, u2, u3⟩ := four_of (HM9.out.at_ 2 rfl)
         by_cases hbad : x2 < -6000 ∨ 6000 < x2
         ·have HNO := Lib.hid (HLI.out (show prt S = none by rw [HPN.out, HN.out, if_neg (HPR.out.1 (by decide)).2, if_neg (HPR.out.2.1 (by decide)).2, if_pos hbad]; rfl))
          rcases hbad with hbad | hbad
          ·have hbad2 : ¬ (6000 < x2) := by omega
           obtain ⟨e0, e1, e2, e3⟩ := four_of (HM9.out.at_ 1 rfl)
           obtain ⟨f0, f1, f2, f3⟩ := four_free (HM9.out.at_ 1 rfl)
           go_wp2
           obtain ⟨WZ, hWZ⟩ : ∃ WZ, WZ = ((((wc.setCell ⟨w.heap.size + 1, 0, none⟩ (.int .i64 0)).setCell ⟨w.heap.size + 1, 1, none⟩ (.int .i64 0)).setCell ⟨w.heap.size + 1, 2, none⟩ (.int .i64 0)).setCell ⟨w.heap.size + 1, 3, none⟩ (.int .i64 0)) := ⟨_, rfl⟩
           have hz := (HM9.out.put4 1 rfl (.int .i64 0) (.int .i64 0) (.int .i64 0) (.int .i64 0))
           rw [← hWZ] at hz ⊢
           obtain ⟨g0, g1, g2, g3⟩ := four_of (hz.at_ 1 rfl)
           exact bodyPost_ret (v := .tuple #[ovv 0 0 0 0, .int .i64 4]) (by simp [g0, g1, g2, g3, results, Tryz.results54, go_sem]) rfl ⟨by rw [HNO.out], hz.below⟩
          ·skip
           obtain ⟨e0, e1, e2, e3⟩ := four_of (HM9.out.at_ 1 rfl)
           obtain ⟨f0, f1, f2, f3⟩ := four_free (HM9.out.at_ 1 rfl)
           go_wp2
           obtain ⟨WZ, hWZ⟩ : ∃ WZ, WZ = ((((wc.setCell ⟨w.heap.size + 1, 0, none⟩ (.int .i64 0)).setCell ⟨w.heap.size + 1, 1, none⟩ (.int .i64 0)).setCell ⟨w.heap.size + 1, 2, none⟩ (.int .i64 0)).setCell ⟨w.heap.size + 1, 3, none⟩ (.int .i64 0)) := ⟨_, rfl⟩
           have hz := (HM9.out.put4 1 rfl (.int .i64 0) (.int .i64 0) (.int .i64 0) (.int .i64 0))
           rw [← hWZ] at hz ⊢
           obtain ⟨g0, g1, g2, g3⟩ := four_of (hz.at_ 1 rfl)
           exact bodyPost_ret (v := .tuple #[ovv 0 0 0 0, .int .i64 4]) (by simp [g0, g1, g2, g3, results, Tryz.results54, go_sem]) rfl ⟨by rw [HNO.out], hz.below⟩
         ·have HB := Lib.hid hbad
          have hb1 : -6000 ≤ x2 := by omega
          have hb2 : x2 ≤ 6000 := by omega
          clear hbad
          go_wp2
          go_roundw
          case rel =>
           have hrl : Rd3 w wo.heap.size n0 d0 n1 d1 n2 d2 D x0 x1 x2 (.int .i64 ((2 + 1 : Nat) : Int)) wc := ⟨2 + 1, e0, e1, x2, by omega, rfl, ⟨fun _ => HPR.out.1 (by decide), fun _ => HPR.out.2.1 (by decide), fun _ => ⟨rfl, HB.out⟩⟩, HM9.out⟩
           first | exact hrl | ((repeat apply Exists.intro); exact ⟨hrl, rfl⟩)
          case measure => simp [intOf]
      ·obtain rfl : k = 3 := by omega
       obtain ⟨⟨r0, k0⟩, ⟨r1, k1⟩, ⟨r2, k2⟩⟩ : (e0 = x0 ∧ ¬ (x0 < -6000 ∨ 6000 < x0)) ∧ (e1 = x1 ∧ ¬ (x1 < -6000 ∨ 6000 < x1)) ∧ (e2 = x2 ∧ ¬ (x2 < -6000 ∨ 6000 < x2)) := ⟨HPR.out.1 (by decide), HPR.out.2.1 (by decide), HPR.out.2.2 (by decide)⟩
       subst r0
       subst r1
       subst r2
       have HYES := Lib.hid (HOK.out e0 e1 e2 D (show prt S = some ([e0, e1, e2], D) by rw [HPN.out, HN.out, if_neg k0, if_neg k1, if_neg k2]; rfl))
       clear k0 k1 k2
       obtain ⟨u0, u1, u2, u3⟩ := four_of (HM.out.at_ 2 rfl)
       obtain ⟨z0, z1, z2, z3⟩ := four_of (HM.out.at_ 1 rfl)
       obtain ⟨f0, f1, f2, f3⟩ := four_free (HM.out.at_ 1 rfl)
       go_wp2
       obtain ⟨WZ, hWZ⟩ : ∃ WZ, WZ = ((((wr.setCell ⟨w.heap.size + 1, 0, none⟩ (.int .i64 e0)).setCell ⟨w.heap.size + 1, 1, none⟩ (.int .i64 e1)).setCell ⟨w.heap.size + 1, 2, none⟩ (.int .i64 e2)).setCell ⟨w.heap.size + 1, 3, none⟩ (.int .i64 D)) := ⟨_, rfl⟩
       have hz := (HM.out.put4 1 rfl (.int .i64 e0) (.int .i64 e1) (.int .i64 e2) (.int .i64 D))
       rw [← hWZ] at hz ⊢
       obtain ⟨g0, g1, g2, g3⟩ := four_of (hz.at_ 1 rfl)
       exact bodyPost_ret (v := .tuple #[ovv e0 e1 e2 D, .int .i64 0]) (by simp [g0, g1, g2, g3, results, Tryz.results54, go_sem]) rfl ⟨by rw [HYES.out], hz.below⟩
end Go.Proofs.YtlmheeommpbimaaGreatDoor
