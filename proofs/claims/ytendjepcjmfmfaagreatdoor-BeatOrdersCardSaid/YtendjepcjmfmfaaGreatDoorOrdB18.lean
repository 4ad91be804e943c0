/- Part 18 of 47 of the proof of the law: contracts of the functions that it reaches, and plain facts. Conditions: those that each contract names. -/
import Derived.Test.YtendjepcjmfmfaaGreatDoorOrdB07
import Derived.Deep.QuietTactic
import Derived.Deep.DeepCutAuto
import Derived.Lib.TrimByte
import Derived.WalkKit
namespace Go.Proofs.YtendjepcjmfmfaaGreatDoor
open Go.RowKit
set_option maxRecDepth 100000 in
set_option maxHeartbeats 1000000 in
theorem igcd_any (a b : Int) (w : World) (ha : -4611686018427387904 ≤ a) (ha' : a ≤ 4611686018427387904) (hb : -4611686018427387904 ≤ b) (hb' : b ≤ 4611686018427387904) :
  Calls Tryz.prog 84 #[.int .i64 a, .int .i64 b] w fun e w' => e = .returned (.int .i64 (Nat.gcd a.natAbs b.natAbs : Int)) ∧ ∃ k, w' = w.drewN k := by
 go_enter Tryz.func84, Tryz.ntmps84
 go_wp2
 go_loopw [0, 1] (fun u v wr => ∃ (x y : Int) (k : Nat), -4611686018427387904 ≤ x ∧ x ≤ 4611686018427387904 ∧ -4611686018427387904 ≤ y ∧ y ≤ 4611686018427387904 ∧ u = .int .i64 x ∧ v = .int .i64 y ∧ Nat.gcd x.natAbs y.natAbs = Nat.gcd a.natAbs b.natAbs ∧ wr = w.drewN k) (fun _ v _ => (intOf v).natAbs)
 case atStart => exact ⟨a, b, 0, ha, ha', hb, hb', rfl, rfl, rfl, rfl⟩
 case round =>
  obtain ⟨x, y, k, hx0, hx1, hy0, hy1, rfl, rfl, hg, rfl⟩ := hrel
  have HG := Lib.hid hg
  clear hg
  by_cases h0 : y = 0
  ·subst h0
   have hG := HG.out
   rw [Int.natAbs_zero, Nat.gcd_zero_right] at hG
   have hm : max x (-x) = (Nat.gcd a.natAbs b.natAbs : Int) := by rw [← hG]; omega
   have HM := Lib.hid hm
   clear hG hm
   by_cases hneg : x < -x
   ·go_wp2
    go_ret
    exact ⟨ret_int (by rw [← HM.out]; omega), k, rfl⟩
   ·go_wp2
    go_ret
    exact ⟨ret_int (by rw [← HM.out]; omega), k, rfl⟩
  ·have hyz : (y == 0) = false := by simpa using h0
   have hyz2 : (y != 0) = true := by simpa using h0
   obtain ⟨r, hr⟩ : ∃ r, r = x.tmod y := ⟨_, rfl⟩
   have hrn : r.natAbs = x.natAbs % y.natAbs := by rw [hr, Int.natAbs_tmod]
   have hrl : r.natAbs < y.natAbs := by rw [hrn]; exact Nat.mod_lt _ (by omega)
   have HN := Lib.hid hrn
   have HL := Lib.hid hrl
   have HR := Lib.hid hr
   clear hr hrn hrl
   go_wp2
   go_quiet (fail)
   go_wp2
   rw [← HR.out]
   go_roundw
   case rel => exact ⟨y, r, k + nq, hy0, hy1, by have := HL.out; omega, by have := HL.out; omega, rfl, rfl, by rw [← HG.out, HN.out, Nat.gcd_comm y.natAbs, ← Nat.gcd_rec, Nat.gcd_comm], by rw [World.drewN_drewN]⟩
   case measure => simp only [intOf]; exact HL.out
def lcmA (x d : Int) : Int := x / (Nat.gcd x.natAbs d.natAbs : Int) * d
def prD : List (Int × Int) → Int → Option Int
 | [], x => some x
 | (_, d) :: r, x => if 240 < d then none else if 240 < lcmA x d then none else prD r (lcmA x d)
def prN : List (Int × Int) → Int → Option (List Int)
 | [], _ => some []
 | (n, d) :: r, D => if n * (D / d) < -6000 ∨ 6000 < n * (D / d) then none else (prN r D).map (n * (D / d) :: ·)
def prt (S : List (Int × Int)) : Option (List Int × Int) := match prD S 1 with | none => none | some D => (prN S D).map (·, D)
def Mild (S : List (Int × Int)) : Prop := ∀ p ∈ S, (1 ≤ p.2 ∧ p.2 ≤ 1000000) ∧ -1000000 ≤ p.1 ∧ p.1 ≤ 1000000
theorem lcmA_bd {x d : Int} (hx : 1 ≤ x ∧ x ≤ 240) (hd : 1 ≤ d ∧ d ≤ 240) : (0 < Nat.gcd x.natAbs d.natAbs ∧ Nat.gcd x.natAbs d.natAbs ≤ 240) ∧ (1 ≤ x / (Nat.gcd x.natAbs d.natAbs : Int) ∧ x / (Nat.gcd x.natAbs d.natAbs : Int) ≤ 240) ∧ 1 ≤ lcmA x d ∧ lcmA x d ≤ 57600 := by
 have hg : 0 < Nat.gcd x.natAbs d.natAbs := Nat.gcd_pos_of_pos_left _ (by omega)
 have hgd : Nat.gcd x.natAbs d.natAbs ∣ x.natAbs := Nat.gcd_dvd_left _ _
 have hgl : Nat.gcd x.natAbs d.natAbs ≤ x.natAbs := Nat.le_of_dvd (by omega) hgd
 have hq : 1 ≤ x / (Nat.gcd x.natAbs d.natAbs : Int) := by
  rw [Int.le_ediv_iff_mul_le (by omega)]; omega
 have hq2 : x / (Nat.gcd x.natAbs d.natAbs : Int) ≤ 240 := Int.le_trans (Int.ediv_le_self _ (by omega)) hx.2
 refine ⟨⟨hg, by omega⟩, ⟨hq, hq2⟩, ?_, ?_⟩
 ·unfold lcmA
  have := Int.mul_le_mul hq hd.1 (by decide) (by omega)
  omega
 ·unfold lcmA
  have := Int.mul_le_mul hq2 hd.2 (by omega) (by decide)
  omega
def PaMem (w : World) (S : List (Int × Int)) (E : List Int) (W : World) : Prop :=
 Blk W (w.heap.size + 1) 57 (E.map fun x => .int .i64 x) ∧ Blk W (w.heap.size + 1 + 1) 120 (S.flatMap fun p => [.int .i64 p.1, .int .i64 p.2]) ∧ Below w.heap.size w W
theorem PaMem.below {w W W' : World} {S : List (Int × Int)} {E : List Int} (h : PaMem w S E W) (hb : Below W.heap.size W W') : PaMem w S E W' := ⟨h.1.below hb h.1.lt, h.2.1.below hb h.2.1.lt, h.2.2.trans (hb.mono h.2.2.size)⟩
theorem three_of {W : World} {g : Nat} {t : TypeId} {x y z : Value} (h : Blk W g t [x, y, z]) : W.cell? ⟨g, 0, none⟩ = some x ∧ W.cell? ⟨g, 1, none⟩ = some y ∧ W.cell? ⟨g, 2, none⟩ = some z := ⟨h.cell 0, h.cell 1, h.cell 2⟩
section
open Go.Op
theorem index_frac (a b c d e f : Int) (W : World) :
  (Instr.index 120 (.agg #[.int .i64 a, .int .i64 b, .int .i64 c, .int .i64 d, .int .i64 e, .int .i64 f]) (.int .i64 0)).run Tryz.prog W = .ok (.agg #[.int .i64 a, .int .i64 b]) W ∧
  (Instr.index 120 (.agg #[.int .i64 a, .int .i64 b, .int .i64 c, .int .i64 d, .int .i64 e, .int .i64 f]) (.int .i64 1)).run Tryz.prog W = .ok (.agg #[.int .i64 c, .int .i64 d]) W ∧
  (Instr.index 120 (.agg #[.int .i64 a, .int .i64 b, .int .i64 c, .int .i64 d, .int .i64 e, .int .i64 f]) (.int .i64 2)).run Tryz.prog W = .ok (.agg #[.int .i64 e, .int .i64 f]) W := by
 refine ⟨?_, ?_, ?_⟩ <;> simp [Instr.index, run_underlying Tryz.underlying120, go_sem]
end
theorem frac_bd {D d n q x : Int} (hD : 1 ≤ D ∧ D ≤ 240) (hd : 1 ≤ d ∧ d ≤ 1000000) (hn : -1000000 ≤ n ∧ n ≤ 1000000) (hq : q = D / d) (hx : x = n * q) :
  -240000000 ≤ x ∧ x ≤ 240000000 ∧ IntKind.i64.wrap (D.tdiv d) = q ∧ IntKind.i64.wrap (n * q) = x := by
 have h0 : 0 ≤ q := by rw [hq]; exact Int.ediv_nonneg (by omega) (by omega)
 have h1 : q ≤ 240 := by rw [hq]; exact Int.le_trans (Int.ediv_le_self _ (by omega)) hD.2
 have h2 : (n * q).natAbs ≤ 1000000 * 240 := by rw [Int.natAbs_mul]; exact Nat.mul_le_mul (by omega) (by omega)
 refine ⟨by omega, by omega, ?_, ?_⟩
 ·rw [Int.tdiv_eq_ediv_of_nonneg (by omega), ← hq]; exact IntWalk.i64_in _ (by omega)
 ·rw [← hx]; exact IntWalk.i64_in _ (by omega)
def PaRel (w : World) (S : List (Int × Int)) (D x0 x1 x2 : Int) (c v : Value) (wx : World) : Prop :=
 ∃ (k : Nat) (e0 e1 e2 : Int), k ≤ 3 ∧ v = .int .i64 k ∧ c = .int .i64 D ∧ ((0 < k → e0 = x0 ∧ ¬ (x0 < -6000 ∨ 6000 < x0)) ∧ (1 < k → e1 = x1 ∧ ¬ (x1 < -6000 ∨ 6000 < x1)) ∧ (2 < k → e2 = x2 ∧ ¬ (x2 < -6000 ∨ 6000 < x2))) ∧ PaMem w S [e0, e1, e2] wx
def PaRet (S : List (Int × Int)) (w : World) (e : Ending) (w' : World) : Prop :=
 (match prt S with
  | some ([x, y, z], D) => e = .returned (.tuple #[.agg #[.int .i64 x, .int .i64 y, .int .i64 z], .int .i64 D, .bool true])
  | _ => ∃ x y z : Int, e = .returned (.tuple #[.agg #[.int .i64 x, .int .i64 y, .int .i64 z], .int .i64 0, .bool false])) ∧ Below w.heap.size w w'
theorem PaRet.no {S : List (Int × Int)} {w w' : World} (h : prt S = none) (x y z : Int) (hb : Below w.heap.size w w') : PaRet S w (.returned (.tuple #[.agg #[.int .i64 x, .int .i64 y, .int .i64 z], .int .i64 0, .bool false])) w' := by
 unfold PaRet; rw [h]; exact ⟨⟨x, y, z, rfl⟩, hb⟩
theorem PaRet.yes {S : List (Int × Int)} {w w' : World} {x y z D : Int} (h : prt S = some ([x, y, z], D)) (hb : Below w.heap.size w w') : PaRet S w (.returned (.tuple #[.agg #[.int .i64 x, .int .i64 y, .int .i64 z], .int .i64 D, .bool true])) w' := by
 unfold PaRet; rw [h]; exact ⟨rfl, hb⟩
theorem prt_den {S : List (Int × Int)} (h : prD S 1 = none) : prt S = none := by unfold prt; rw [h]
set_option maxRecDepth 100000 in
set_option maxHeartbeats 8000000 in
theorem parts_any (n0 d0 n1 d1 n2 d2 : Int) (w : World) (hm : Mild [(n0, d0), (n1, d1), (n2, d2)]) :
  Calls Tryz.prog 81 #[.agg #[.int .i64 n0, .int .i64 d0, .int .i64 n1, .int .i64 d1, .int .i64 n2, .int .i64 d2]] w (PaRet [(n0, d0), (n1, d1), (n2, d2)] w) := by
 have hM0 : PaMem w [(n0, d0), (n1, d1), (n2, d2)] [0, 0, 0] (((w.alloc (.cells #[.int .i64 n0, .int .i64 d0, .int .i64 n1, .int .i64 d1, .int .i64 n2, .int .i64 d2] 49)).alloc (.cells #[.int .i64 0, .int .i64 0, .int .i64 0] 57)).alloc (.cells #[.int .i64 n0, .int .i64 d0, .int .i64 n1, .int .i64 d1, .int .i64 n2, .int .i64 d2] 120)) := by
  refine ⟨?_, ?_, bw_new (bw_new (bw_new (Below.refl _ _) _) _) _⟩
  ·have := heap_alloc_new (w.alloc (.cells #[.int .i64 n0, .int .i64 d0, .int .i64 n1, .int .i64 d1, .int .i64 n2, .int .i64 d2] 49)) (.cells #[.int .i64 0, .int .i64 0, .int .i64 0] 57)
   rw [World.size_alloc] at this
   exact Blk.alloc (t := 57) (cs := [.int .i64 0, .int .i64 0, .int .i64 0]) this _
  ·have := heap_alloc_new ((w.alloc (.cells #[.int .i64 n0, .int .i64 d0, .int .i64 n1, .int .i64 d1, .int .i64 n2, .int .i64 d2] 49)).alloc (.cells #[.int .i64 0, .int .i64 0, .int .i64 0] 57)) (.cells #[.int .i64 n0, .int .i64 d0, .int .i64 n1, .int .i64 d1, .int .i64 n2, .int .i64 d2] 120)
   rw [World.size_alloc, World.size_alloc] at this
   exact this
 obtain ⟨⟨b00, b01⟩, a00, a01⟩ := hm (n0, d0) (by simp)
 obtain ⟨⟨b10, b11⟩, a10, a11⟩ := hm (n1, d1) (by simp)
 obtain ⟨⟨b20, b21⟩, a20, a21⟩ := hm (n2, d2) (by simp)
 dsimp only at b00 b01 a00 a01 b10 b11 a10 a11 b20 b21 a20 a21
 obtain ⟨S, hS⟩ : ∃ S, S = [(n0, d0), (n1, d1), (n2, d2)] := ⟨_, rfl⟩
 rw [← hS] at hM0 ⊢
 have HM0 := Lib.hid hM0
 have HS := Lib.hid hS
 have hx0 := fun W => (index_frac n0 d0 n1 d1 n2 d2 W).1
 have hx1 := fun W => (index_frac n0 d0 n1 d1 n2 d2 W).2.1
 have hx2 := fun W => (index_frac n0 d0 n1 d1 n2 d2 W).2.2
 clear hM0 hm hS
 go_enter Tryz.func81, Tryz.ntmps81
 go_wp2_with fail
 go_loopw [3, 18] (fun c v wr => ∃ (k : Nat) (D : Int), k ≤ 3 ∧ v = .int .i64 k ∧ c = .int .i64 D ∧ 1 ≤ D ∧ D ≤ 240 ∧ Lib.Kept (prD S 1 = prD (S.drop k) D) ∧ PaMem w S [0, 0, 0] wr) (fun _ v _ => 3 - (intOf v).toNat)
 case atStart => exact ⟨0, 1, by omega, rfl, rfl, by omega, by omega, rfl, HM0.out⟩
 case round =>
  clear HM0
  obtain ⟨k, D, hk, rfl, rfl, hD0, hD1, hp, hmem⟩ := hrel
  have HP := Lib.hid hp
  have HM := Lib.hid hmem
  have hsz : w.heap.size + 1 < wr.heap.size := hmem.1.lt
  clear hp hmem
  by_cases hlt : k < 3
  ·rcases (show k = 0 ∨ k = 1 ∨ k = 2 by omega) with rfl | rfl | rfl
   ·have hst := Lib.hid (show prD S 1 = if 240 < d0 then none else if 240 < lcmA D d0 then none else prD [(n1, d1), (n2, d2)] (lcmA D d0) by
     have hh : prD S 1 = prD (S.drop 0) D := HP.out
     have hs := HS.out
     rw [hh, hs]; rfl)
    by_cases hd : 240 < d0
    ·have HN := Lib.hid (prt_den (show prD S 1 = none by rw [hst.out, if_pos hd]))
     obtain ⟨e0, e1, e2⟩ : wr.cell? ⟨w.heap.size + 1, 0, none⟩ = some (.int .i64 0) ∧ wr.cell? ⟨w.heap.size + 1, 1, none⟩ = some (.int .i64 0) ∧ wr.cell? ⟨w.heap.size + 1, 2, none⟩ = some (.int .i64 0) := ⟨HM.out.1.cell 0, HM.out.1.cell 1, HM.out.1.cell 2⟩
     have f0 := HM.out.1.frozen 0
     have f1 := HM.out.1.frozen 1
     have f2 := HM.out.1.frozen 2
     go_wp2
     obtain ⟨WZ, hWZ⟩ : ∃ WZ, WZ = (((wr.setCell ⟨w.heap.size + 1, 0, none⟩ (.int .i64 0)).setCell ⟨w.heap.size + 1, 1, none⟩ (.int .i64 0)).setCell ⟨w.heap.size + 1, 2, none⟩ (.int .i64 0)).alloc (.cells #[.int .i64 n0, .int .i64 d0] 34) := ⟨_, rfl⟩
     have hbz : Blk WZ (w.heap.size + 1) 57 [.int .i64 0, .int .i64 0, .int .i64 0] := by rw [hWZ]; exact (((HM.out.1.put 0 (.int .i64 0)).put 1 (.int .i64 0)).put 2 (.int .i64 0)).alloc _
     have hww : Below w.heap.size w WZ := by rw [hWZ]; exact bw_new (bw_set (bw_set (bw_set HM.out.2.2 (by omega) _) (by omega) _) (by omega) _) _
     rw [← hWZ]
     obtain ⟨c0, c1, c2⟩ := three_of hbz
     refine bodyPost_ret (v := .tuple #[.agg #[.int .i64 0, .int .i64 0, .int .i64 0], .int .i64 0, .bool false]) (by simp [c0, c1, c2, results, Tryz.results81, go_sem]) rfl (PaRet.no HN.out 0 0 0 hww)
    ·obtain ⟨⟨hg0, hg1⟩, ⟨hq0, hq1⟩, hl0, hl1⟩ := lcmA_bd ⟨hD0, hD1⟩ (d := d0) ⟨b00, by omega⟩
     have hgc := fun W => igcd_any D d0 W (by omega) (by omega) (by omega) (by omega)
     have hlm : lcmA D d0 = D / (Nat.gcd D.natAbs (d0).natAbs : Int) * d0 := rfl
     obtain ⟨g, hg⟩ : ∃ g : Int, g = (Nat.gcd D.natAbs (d0).natAbs : Int) := ⟨_, rfl⟩
     obtain ⟨l, hl⟩ : ∃ l, l = lcmA D d0 := ⟨_, rfl⟩
     rw [← hg] at hgc hq0 hq1 hlm
     rw [← hl] at hlm hl0 hl1 hst
     obtain ⟨q, hq⟩ : ∃ q, q = D / g := ⟨_, rfl⟩
     rw [← hq] at hlm hq0 hq1
     have hgp : 0 < g := by omega
     have hgz : (g == 0) = false := by rw [beq_eq_false_iff_ne]; omega
     have HGC := Lib.hid hgc
     have HQ := Lib.hid hq
     have HLM := Lib.hid hlm
     have HL := Lib.hid hl
     clear hgc hg hq hlm hl hg0 hg1
     have hw1 : IntKind.i64.wrap (D.tdiv g) = q := by rw [Int.tdiv_eq_ediv_of_nonneg (by omega), ← HQ.out]; exact IntWalk.i64_in _ (by omega)
     have hw2 : IntKind.i64.wrap (q * d0) = l := by rw [← HLM.out]; exact IntWalk.i64_in _ (by omega)
     have hw3 : D / g = q := HQ.out.symm
     have HW := Lib.hid (And.intro hw1 (And.intro hw2 hw3))
     clear hw1 hw2 hw3
     go_upto_region 8 with fail
     obtain ⟨hw1, hw2, hw3⟩ := HW.out
     go_quiet ((go_at_call 84; exact Calls.quiet_of (HGC.out _)))
     clear hw1 hw2 hw3 hgz
     obtain ⟨W8, hW8⟩ : ∃ W8, W8 = (wr.alloc (.cells #[.int .i64 n0, .int .i64 d0] 34)).drewN nq := ⟨_, rfl⟩
     have hm8 : PaMem w S [0, 0, 0] W8 := by rw [hW8]; exact HM.out.below ((bw_new (Below.refl _ _) _).trans (below_drewN _ _ _))
     rw [← hW8]
     have HM8 := Lib.hid hm8
     have hsz8 : w.heap.size + 1 < W8.heap.size := hm8.1.lt
     clear hW8 hm8
     by_cases hl2 : 240 < l
     ·have HN := Lib.hid (prt_den (show prD S 1 = none by rw [hst.out, if_neg hd, if_pos hl2]))
      obtain ⟨e0, e1, e2⟩ := three_of HM8.out.1
      have f0 := HM8.out.1.frozen 0
      have f1 := HM8.out.1.frozen 1
      have f2 := HM8.out.1.frozen 2
      go_wp2
      obtain ⟨WZ, hWZ⟩ : ∃ WZ, WZ = (((W8.setCell ⟨w.heap.size + 1, 0, none⟩ (.int .i64 0)).setCell ⟨w.heap.size + 1, 1, none⟩ (.int .i64 0)).setCell ⟨w.heap.size + 1, 2, none⟩ (.int .i64 0)) := ⟨_, rfl⟩
      have hbz : Blk WZ (w.heap.size + 1) 57 [.int .i64 0, .int .i64 0, .int .i64 0] := by rw [hWZ]; exact (((HM8.out.1.put 0 (.int .i64 0)).put 1 (.int .i64 0)).put 2 (.int .i64 0))
      have hww : Below w.heap.size w WZ := by rw [hWZ]; exact bw_set (bw_set (bw_set HM8.out.2.2 (by omega) _) (by omega) _) (by omega) _
      rw [← hWZ]
      obtain ⟨c0, c1, c2⟩ := three_of hbz
      refine bodyPost_ret (v := .tuple #[.agg #[.int .i64 0, .int .i64 0, .int .i64 0], .int .i64 0, .bool false]) (by simp [c0, c1, c2, results, Tryz.results81, go_sem]) rfl (PaRet.no HN.out 0 0 0 hww)
     ·have HN := Lib.hid (show prD S 1 = prD (S.drop (0 + 1)) l by
       have hs := HS.out
       rw [hst.out, if_neg hd, if_neg hl2, hs]; rfl)
      go_wp2
      go_roundw
      case rel => exact ⟨0 + 1, l, by omega, by go_num, rfl, hl0, by omega, HN.out, HM8.out⟩
      case measure => simp [intOf]
   ·have hst := Lib.hid (show prD S 1 = if 240 < d1 then none else if 240 < lcmA D d1 then none else prD [(n2, d2)] (lcmA D d1) by
     have hh : prD S 1 = prD (S.drop 1) D := HP.out
     have hs := HS.out
     rw [hh, hs]; rfl)
    by_cases hd : 240 < d1
    ·have HN := Lib.hid (prt_den (show prD S 1 = none by rw [hst.out, if_pos hd]))
     obtain ⟨e0, e1, e2⟩ : wr.cell? ⟨w.heap.size + 1, 0, none⟩ = some (.int .i64 0) ∧ wr.cell? ⟨w.heap.size + 1, 1, none⟩ = some (.int .i64 0) ∧ wr.cell? ⟨w.heap.size + 1, 2, none⟩ = some (.int .i64 0) := ⟨HM.out.1.cell 0, HM.out.1.cell 1, HM.out.1.cell 2⟩
     have f0 := HM.out.1.frozen 0
     have f1 := HM.out.1.frozen 1
     have f2 := HM.out.1.frozen 2
     go_wp2
     obtain ⟨WZ, hWZ⟩ : ∃ WZ, WZ = (((wr.setCell ⟨w.heap.size + 1, 0, none⟩ (.int .i64 0)).setCell ⟨w.heap.size + 1, 1, none⟩ (.int .i64 0)).setCell ⟨w.heap.size + 1, 2, none⟩ (.int .i64 0)).alloc (.cells #[.int .i64 n1, .int .i64 d1] 34) := ⟨_, rfl⟩
     have hbz : Blk WZ (w.heap.size + 1) 57 [.int .i64 0, .int .i64 0, .int .i64 0] := by rw [hWZ]; exact (((HM.out.1.put 0 (.int .i64 0)).put 1 (.int .i64 0)).put 2 (.int .i64 0)).alloc _
     have hww : Below w.heap.size w WZ := by rw [hWZ]; exact bw_new (bw_set (bw_set (bw_set HM.out.2.2 (by omega) _) (by omega) _) (by omega) _) _
     rw [← hWZ]
     obtain ⟨c0, c1, c2⟩ := three_of hbz
     refine bodyPost_ret (v := .tuple #[.agg #[.int .i64 0, .int .i64 0, .int .i64 0], .int .i64 0, .bool false]) (by simp [c0, c1, c2, results, Tryz.results81, go_sem]) rfl (PaRet.no HN.out 0 0 0 hww)
    ·obtain ⟨⟨hg0, hg1⟩, ⟨hq0, hq1⟩, hl0, hl1⟩ := lcmA_bd ⟨hD0, hD1⟩ (d := d1) ⟨b10, by omega⟩
     have hgc := fun W => igcd_any D d1 W (by omega) (by omega) (by omega) (by omega)
     have hlm : lcmA D d1 = D / (Nat.gcd D.natAbs (d1).natAbs : Int) * d1 := rfl
     obtain ⟨g, hg⟩ : ∃ g : Int, g = (Nat.gcd D.natAbs (d1).natAbs : Int) := ⟨_, rfl⟩
     obtain ⟨l, hl⟩ : ∃ l, l = lcmA D d1 := ⟨_, rfl⟩
     rw [← hg] at hgc hq0 hq1 hlm
     rw [← hl] at hlm hl0 hl1 hst
     obtain ⟨q, hq⟩ : ∃ q, q = D / g := ⟨_, rfl⟩
     rw [← hq] at hlm hq0 hq1
     have hgp : 0 < g := by omega
     have hgz : (g == 0) = false := by rw [beq_eq_false_iff_ne]; omega
     have HGC := Lib.hid hgc
     have HQ := Lib.hid hq
     have HLM := Lib.hid hlm
     have HL := Lib.hid hl
     clear hgc hg hq hlm hl hg0 hg1
     have hw1 : IntKind.i64.wrap (D.tdiv g) = q := by rw [Int.tdiv_eq_ediv_of_nonneg (by omega), ← HQ.out]; exact IntWalk.i64_in _ (by omega)
     have hw2 : IntKind.i64.wrap (q * d1) = l := by rw [← HLM.out]; exact IntWalk.i64_in _ (by omega)
     have hw3 : D / g = q := HQ.out.symm
     have HW := Lib.hid (And.intro hw1 (And.intro hw2 hw3))
     clear hw1 hw2 hw3
     go_upto_region 8 with fail
     obtain ⟨hw1, hw2, hw3⟩ := HW.out
     go_quiet ((go_at_call 84; exact Calls.quiet_of (HGC.out _)))
     clear hw1 hw2 hw3 hgz
     obtain ⟨W8, hW8⟩ : ∃ W8, W8 = (wr.alloc (.cells #[.int .i64 n1, .int .i64 d1] 34)).drewN nq := ⟨_, rfl⟩
     have hm8 : PaMem w S [0, 0, 0] W8 := by rw [hW8]; exact HM.out.below ((bw_new (Below.refl _ _) _).trans (below_drewN _ _ _))
     rw [← hW8]
     have HM8 := Lib.hid hm8
     have hsz8 : w.heap.size + 1 < W8.heap.size := hm8.1.lt
     clear hW8 hm8
     by_cases hl2 : 240 < l
     ·have HN := Lib.hid (prt_den (show prD S 1 = none by rw [hst.out, if_neg hd, if_pos hl2]))
      obtain ⟨e0, e1, e2⟩ := three_of HM8.out.1
      have f0 := HM8.out.1.frozen 0
      have f1 := HM8.out.1.frozen 1
      have f2 := HM8.out.1.frozen 2
      go_wp2
      obtain ⟨WZ, hWZ⟩ : ∃ WZ, WZ = (((W8.setCell ⟨w.heap.size + 1, 0, none⟩ (.int .i64 0)).setCell ⟨w.heap.size + 1, 1, none⟩ (.int .i64 0)).setCell ⟨w.heap.size + 1, 2, none⟩ (.int .i64 0)) := ⟨_, rfl⟩
      have hbz : Blk WZ (w.heap.size + 1) 57 [.int .i64 0, .int .i64 0, .int .i64 0] := by rw [hWZ]; exact (((HM8.out.1.put 0 (.int .i64 0)).put 1 (.int .i64 0)).put 2 (.int .i64 0))
      have hww : Below w.heap.size w WZ := by rw [hWZ]; exact bw_set (bw_set (bw_set HM8.out.2.2 (by omega) _) (by omega) _) (by omega) _
      rw [← hWZ]
      obtain ⟨c0, c1, c2⟩ := three_of hbz
      refine bodyPost_ret (v := .tuple #[.agg #[.int .i64 0, .int .i64 0, .int .i64 0], .int .i64 0, .bool false]) (by simp [c0, c1, c2, results, Tryz.results81, go_sem]) rfl (PaRet.no HN.out 0 0 0 hww)
     ·have HN := Lib.hid (show prD S 1 = prD (S.drop (1 + 1)) l by
       have hs := HS.out
       rw [hst.out, if_neg hd, if_neg hl2, hs]; rfl)
      go_wp2
      go_roundw
      case rel => exact ⟨1 + 1, l, by omega, by go_num, rfl, hl0, by omega, HN.out, HM8.out⟩
      case measure => simp [intOf]
   ·have hst := Lib.hid (show prD S 1 = if 240 < d2 then none else if 240 < lcmA D d2 then none else prD [] (lcmA D d2) by
     have hh : prD S 1 = prD (S.drop 2) D := HP.out
     have hs := HS.out
     rw [hh, hs]; rfl)
    by_cases hd : 240 < d2
    ·have HN := Lib.hid (prt_den (show prD S 1 = none by rw [hst.out, if_pos hd]))
     obtain ⟨e0, e1, e2⟩ : wr.cell? ⟨w.heap.size + 1, 0, none⟩ = some (.int .i64 0) ∧ wr.cell? ⟨w.heap.size + 1, 1, none⟩ = some (.int .i64 0) ∧ wr.cell? ⟨w.heap.size + 1, 2, none⟩ = some (.int .i64 0) := ⟨HM.out.1.cell 0, HM.out.1.cell 1, HM.out.1.cell 2⟩
     have f0 := HM.out.1.frozen 0
     have f1 := HM.out.1.frozen 1
     have f2 := HM.out.1.frozen 2
     go_wp2
     obtain ⟨WZ, hWZ⟩ : ∃ WZ, WZ = (((wr.setCell ⟨w.heap.size + 1, 0, none⟩ (.int .i64 0)).setCell ⟨w.heap.size + 1, 1, none⟩ (.int .i64 0)).setCell ⟨w.heap.size + 1, 2, none⟩ (.int .i64 0)).alloc (.cells #[.int .i64 n2, .int .i64 d2] 34) := ⟨_, rfl⟩
     have hbz : Blk WZ (w.heap.size + 1) 57 [.int .i64 0, .int .i64 0, .int .i64 0] := by rw [hWZ]; exact (((HM.out.1.put 0 (.int .i64 0)).put 1 (.int .i64 0)).put 2 (.int .i64 0)).alloc _
     have hww : Below w.heap.size w WZ := by rw [hWZ]; exact bw_new (bw_set (bw_set (bw_set HM.out.2.2 (by omega) _) (by omega) _) (by omega) _) _
     rw [← hWZ]
     obtain ⟨c0, c1, c2⟩ := three_of hbz
     refine bodyPost_ret (v := .tuple #[.agg #[.int .i64 0, .int .i64 0, .int .i64 0], .int .i64 0, .bool false]) (by simp [c0, c1, c2, results, Tryz.results81, go_sem]) rfl (PaRet.no HN.out 0 0 0 hww)
    ·obtain ⟨⟨hg0, hg1⟩, ⟨hq0, hq1⟩, hl0, hl1⟩ := lcmA_bd ⟨hD0, hD1⟩ (d := d2) ⟨b20, by omega⟩
     have hgc := fun W => igcd_any D d2 W (by omega) (by omega) (by omega) (by omega)
     have hlm : lcmA D d2 = D / (Nat.gcd D.natAbs (d2).natAbs : Int) * d2 := rfl
     obtain ⟨g, hg⟩ : ∃ g : Int, g = (Nat.gcd D.natAbs (d2).natAbs : Int) := ⟨_, rfl⟩
     obtain ⟨l, hl⟩ : ∃ l, l = lcmA D d2 := ⟨_, rfl⟩
     rw [← hg] at hgc hq0 hq1 hlm
     rw [← hl] at hlm hl0 hl1 hst
     obtain ⟨q, hq⟩ : ∃ q, q = D / g := ⟨_, rfl⟩
     rw [← hq] at hlm hq0 hq1
     have hgp : 0 < g := by omega
     have hgz : (g == 0) = false := by rw [beq_eq_false_iff_ne]; omega
     have HGC := Lib.hid hgc
     have HQ := Lib.hid hq
     have HLM := Lib.hid hlm
     have HL := Lib.hid hl
     clear hgc hg hq hlm hl hg0 hg1
     have hw1 : IntKind.i64.wrap (D.tdiv g) = q := by rw [Int.tdiv_eq_ediv_of_nonneg (by omega), ← HQ.out]; exact IntWalk.i64_in _ (by omega)
     have hw2 : IntKind.i64.wrap (q * d2) = l := by rw [← HLM.out]; exact IntWalk.i64_in _ (by omega)
     have hw3 : D / g = q := HQ.out.symm
     have HW := Lib.hid (And.intro hw1 (And.intro hw2 hw3))
     clear hw1 hw2 hw3
     go_upto_region 8 with fail
     obtain ⟨hw1, hw2, hw3⟩ := HW.out
     go_quiet ((go_at_call 84; exact Calls.quiet_of (HGC.out _)))
     clear hw1 hw2 hw3 hgz
     obtain ⟨W8, hW8⟩ : ∃ W8, W8 = (wr.alloc (.cells #[.int .i64 n2, .int .i64 d2] 34)).drewN nq := ⟨_, rfl⟩
     have hm8 : PaMem w S [0, 0, 0] W8 := by rw [hW8]; exact HM.out.below ((bw_new (Below.refl _ _) _).trans (below_drewN _ _ _))
     rw [← hW8]
     have HM8 := Lib.hid hm8
     have hsz8 : w.heap.size + 1 < W8.heap.size := hm8.1.lt
     clear hW8 hm8
     by_cases hl2 : 240 < l
     ·have HN := Lib.hid (prt_den (show prD S 1 = none by rw [hst.out, if_neg hd, if_pos hl2]))
      obtain ⟨e0, e1, e2⟩ := three_of HM8.out.1
      have f0 := HM8.out.1.frozen 0
      have f1 := HM8.out.1.frozen 1
      have f2 := HM8.out.1.frozen 2
      go_wp2
      obtain ⟨WZ, hWZ⟩ : ∃ WZ, WZ = (((W8.setCell ⟨w.heap.size + 1, 0, none⟩ (.int .i64 0)).setCell ⟨w.heap.size + 1, 1, none⟩ (.int .i64 0)).setCell ⟨w.heap.size + 1, 2, none⟩ (.int .i64 0)) := ⟨_, rfl⟩
      have hbz : Blk WZ (w.heap.size + 1) 57 [.int .i64 0, .int .i64 0, .int .i64 0] := by rw [hWZ]; exact (((HM8.out.1.put 0 (.int .i64 0)).put 1 (.int .i64 0)).put 2 (.int .i64 0))
      have hww : Below w.heap.size w WZ := by rw [hWZ]; exact bw_set (bw_set (bw_set HM8.out.2.2 (by omega) _) (by omega) _) (by omega) _
      rw [← hWZ]
      obtain ⟨c0, c1, c2⟩ := three_of hbz
      refine bodyPost_ret (v := .tuple #[.agg #[.int .i64 0, .int .i64 0, .int .i64 0], .int .i64 0, .bool false]) (by simp [c0, c1, c2, results, Tryz.results81, go_sem]) rfl (PaRet.no HN.out 0 0 0 hww)
     ·have HN := Lib.hid (show prD S 1 = prD (S.drop (2 + 1)) l by
       have hs := HS.out
       rw [hst.out, if_neg hd, if_neg hl2, hs]; rfl)
      go_wp2
      go_roundw
      case rel => exact ⟨2 + 1, l, by omega, by go_num, rfl, hl0, by omega, HN.out, HM8.out⟩
      case measure => simp [intOf]
  ·obtain rfl : k = 3 := by omega
   have HP3 := Lib.hid (show prD S 1 = some D by
    have hh : prD S 1 = prD (S.drop 3) D := HP.out
    have hs := HS.out
    rw [hh, hs]; rfl)
   obtain ⟨q0, hq0⟩ : ∃ q, q = D / d0 := ⟨_, rfl⟩
   obtain ⟨q1, hq1⟩ : ∃ q, q = D / d1 := ⟨_, rfl⟩
   obtain ⟨q2, hq2⟩ : ∃ q, q = D / d2 := ⟨_, rfl⟩
   obtain ⟨x0, hx0'⟩ : ∃ x, x = n0 * q0 := ⟨_, rfl⟩
   obtain ⟨x1, hx1'⟩ : ∃ x, x = n1 * q1 := ⟨_, rfl⟩
   obtain ⟨x2, hx2'⟩ : ∃ x, x = n2 * q2 := ⟨_, rfl⟩
   have hN := (show prN S D = if x0 < -6000 ∨ 6000 < x0 then none else (if x1 < -6000 ∨ 6000 < x1 then none else (if x2 < -6000 ∨ 6000 < x2 then none else some [x2]).map (x1 :: ·)).map (x0 :: ·) by
    have hs := HS.out
    rw [hs, hx0', hx1', hx2', hq0, hq1, hq2]; rfl)
   have hPN : prt S = (prN S D).map (·, D) := by unfold prt; rw [HP3.out]
   obtain ⟨y00, y01, hw00, hw01⟩ := frac_bd ⟨hD0, hD1⟩ ⟨b00, b01⟩ ⟨a00, a01⟩ hq0 hx0'
   obtain ⟨y10, y11, hw10, hw11⟩ := frac_bd ⟨hD0, hD1⟩ ⟨b10, b11⟩ ⟨a10, a11⟩ hq1 hx1'
   obtain ⟨y20, y21, hw20, hw21⟩ := frac_bd ⟨hD0, hD1⟩ ⟨b20, b21⟩ ⟨a20, a21⟩ hq2 hx2'
   have HW0 := Lib.hid (And.intro hw00 (And.intro hw01 hq0))
   have HW1 := Lib.hid (And.intro hw10 (And.intro hw11 hq1))
   have HW2 := Lib.hid (And.intro hw20 (And.intro hw21 hq2))
   have HN := Lib.hid hN
   have HPN := Lib.hid hPN
   clear hw00 hw01 hw10 hw11 hw20 hw21 hq0 hq1 hq2 hx0' hx1' hx2' hN hPN
   have hb6 : Blk wr (w.heap.size + 1 + 1) 120 [.int .i64 n0, .int .i64 d0, .int .i64 n1, .int .i64 d1, .int .i64 n2, .int .i64 d2] := by
    have h1 := HM.out.2.1
    have hs := HS.out
    rw [hs] at h1; exact h1
   have l0 := hb6.cell 0
   have l1 := hb6.cell 1
   have l2 := hb6.cell 2
   have l3 := hb6.cell 3
   have l4 := hb6.cell 4
   have l5 := hb6.cell 5
   clear hb6
   go_wp2_with fail
   clear l0 l1 l2 l3 l4 l5
   go_loopw [3, 39] (fun c v wx => PaRel w S D x0 x1 x2 c v wx) (fun _ v _ => 3 - (intOf v).toNat)
   case atStart => exact ⟨0, 0, 0, 0, by omega, rfl, rfl, ⟨fun h => absurd h (by decide), fun h => absurd h (by decide), fun h => absurd h (by decide)⟩, HM.out⟩
   case round =>
    clear HM
    obtain ⟨k, e0, e1, e2, hk, rfl, rfl, hpr, hmem⟩ := hrel
    have HPR := Lib.hid hpr
    have HM := Lib.hid hmem
    have hsz : w.heap.size + 1 < wr.heap.size := hmem.1.lt
    clear hpr hmem
    by_cases hlt : k < 3
    ·rcases (show k = 0 ∨ k = 1 ∨ k = 2 by omega) with rfl | rfl | rfl
     ·obtain ⟨hw1, hw2, hq⟩ := HW0.out
      have hq3 := hq.symm
      obtain ⟨c0, c1, c2⟩ := three_of HM.out.1
      have f0 := HM.out.1.frozen 0
      have hdz : (d0 == 0) = false := by rw [beq_eq_false_iff_ne]; omega
      clear hq
      go_upto_region 15 with fail
      go_cut [] (fun wx => PaMem w S [x0, e1, e2] wx)
      case first =>
       go_region
       all_goals
        go_wp2_with fail
        go_meet
        exact (show PaMem w S [x0, e1, e2] _ from ⟨((HM.out.1.put 0 (.int .i64 x0)).alloc _).drew, ((HM.out.2.1.far (p := ⟨w.heap.size + 1, 0, none⟩) (by show w.heap.size + 1 + 1 ≠ w.heap.size + 1; omega) _).alloc _).drew, bw_drew (bw_new (bw_set HM.out.2.2 (by omega) _) _)⟩)
      case rest =>
       have HM9 := Lib.hid hcut
       clear hcut hw1 hw2 hq3 c0 c1 c2 f0 hdz
       obtain ⟨c0, c1, c2⟩ := three_of HM9.out.1
       have hsz9 : w.heap.size + 1 < wc.heap.size := HM9.out.1.lt
       by_cases hbad : x0 < -6000 ∨ 6000 < x0
       ·have HNO := Lib.hid (show prt S = none by rw [HPN.out, HN.out, if_pos hbad]; rfl)
        have f0 := HM9.out.1.frozen 0
        have f1 := HM9.out.1.frozen 1
        have f2 := HM9.out.1.frozen 2
        rcases hbad with hbad | hbad
        ·go_wp2
         obtain ⟨WZ, hWZ⟩ : ∃ WZ, WZ = (((wc.setCell ⟨w.heap.size + 1, 0, none⟩ (.int .i64 x0)).setCell ⟨w.heap.size + 1, 1, none⟩ (.int .i64 e1)).setCell ⟨w.heap.size + 1, 2, none⟩ (.int .i64 e2)) := ⟨_, rfl⟩
         have hbz : Blk WZ (w.heap.size + 1) 57 [.int .i64 x0, .int .i64 e1, .int .i64 e2] := by rw [hWZ]; exact (((HM9.out.1.put 0 (.int .i64 x0)).put 1 (.int .i64 e1)).put 2 (.int .i64 e2))
         have hww : Below w.heap.size w WZ := by rw [hWZ]; exact bw_set (bw_set (bw_set HM9.out.2.2 (by omega) _) (by omega) _) (by omega) _
         rw [← hWZ]
         obtain ⟨g0, g1, g2⟩ := three_of hbz
         refine bodyPost_ret (v := .tuple #[.agg #[.int .i64 x0, .int .i64 e1, .int .i64 e2], .int .i64 0, .bool false]) (by simp [g0, g1, g2, results, Tryz.results81, go_sem]) rfl (PaRet.no HNO.out _ _ _ hww)
        ·have hbad2 : -6000 ≤ x0 := by omega
         go_wp2
         obtain ⟨WZ, hWZ⟩ : ∃ WZ, WZ = (((wc.setCell ⟨w.heap.size + 1, 0, none⟩ (.int .i64 x0)).setCell ⟨w.heap.size + 1, 1, none⟩ (.int .i64 e1)).setCell ⟨w.heap.size + 1, 2, none⟩ (.int .i64 e2)) := ⟨_, rfl⟩
         have hbz : Blk WZ (w.heap.size + 1) 57 [.int .i64 x0, .int .i64 e1, .int .i64 e2] := by rw [hWZ]; exact (((HM9.out.1.put 0 (.int .i64 x0)).put 1 (.int .i64 e1)).put 2 (.int .i64 e2))
         have hww : Below w.heap.size w WZ := by rw [hWZ]; exact bw_set (bw_set (bw_set HM9.out.2.2 (by omega) _) (by omega) _) (by omega) _
         rw [← hWZ]
         obtain ⟨g0, g1, g2⟩ := three_of hbz
         refine bodyPost_ret (v := .tuple #[.agg #[.int .i64 x0, .int .i64 e1, .int .i64 e2], .int .i64 0, .bool false]) (by simp [g0, g1, g2, results, Tryz.results81, go_sem]) rfl (PaRet.no HNO.out _ _ _ hww)
       ·have HB := Lib.hid hbad
        have hb1 : -6000 ≤ x0 := by omega
        have hb2 : x0 ≤ 6000 := by omega
        clear hbad
        go_wp2
        go_roundw
        case rel =>
         have hrl : PaRel w S D x0 x1 x2 (.int .i64 D) (.int .i64 ((0 + 1 : Nat) : Int)) wc := ⟨0 + 1, x0, e1, e2, by omega, rfl, rfl, ⟨fun _ => ⟨rfl, HB.out⟩, fun h => absurd h (by decide), fun h => absurd h (by decide)⟩, HM9.out⟩
         first | exact hrl | exact ⟨_, _, _, _, _, hrl, rfl, rfl, rfl, rfl, rfl⟩
        case measure => simp [intOf]
     ·obtain ⟨hw1, hw2, hq⟩ := HW1.out
      have hq3 := hq.symm
      obtain ⟨c0, c1, c2⟩ := three_of HM.out.1
      have f0 := HM.out.1.frozen 1
      have hdz : (d1 == 0) = false := by rw [beq_eq_false_iff_ne]; omega
      clear hq
      go_upto_region 15 with fail
      go_cut [] (fun wx => PaMem w S [e0, x1, e2] wx)
      case first =>
       go_region
       all_goals
        go_wp2_with fail
        go_meet
        exact (show PaMem w S [e0, x1, e2] _ from ⟨((HM.out.1.put 1 (.int .i64 x1)).alloc _).drew, ((HM.out.2.1.far (p := ⟨w.heap.size + 1, 1, none⟩) (by show w.heap.size + 1 + 1 ≠ w.heap.size + 1; omega) _).alloc _).drew, bw_drew (bw_new (bw_set HM.out.2.2 (by omega) _) _)⟩)
      case rest =>
       have HM9 := Lib.hid hcut
       clear hcut hw1 hw2 hq3 c0 c1 c2 f0 hdz
       obtain ⟨c0, c1, c2⟩ := three_of HM9.out.1
       have hsz9 : w.heap.size + 1 < wc.heap.size := HM9.out.1.lt
       by_cases hbad : x1 < -6000 ∨ 6000 < x1
       ·have HNO := Lib.hid (show prt S = none by rw [HPN.out, HN.out, if_neg (HPR.out.1 (by decide)).2, if_pos hbad]; rfl)
        have f0 := HM9.out.1.frozen 0
        have f1 := HM9.out.1.frozen 1
        have f2 := HM9.out.1.frozen 2
        rcases hbad with hbad | hbad
        ·go_wp2
         obtain ⟨WZ, hWZ⟩ : ∃ WZ, WZ = (((wc.setCell ⟨w.heap.size + 1, 0, none⟩ (.int .i64 e0)).setCell ⟨w.heap.size + 1, 1, none⟩ (.int .i64 x1)).setCell ⟨w.heap.size + 1, 2, none⟩ (.int .i64 e2)) := ⟨_, rfl⟩
         have hbz : Blk WZ (w.heap.size + 1) 57 [.int .i64 e0, .int .i64 x1, .int .i64 e2] := by rw [hWZ]; exact (((HM9.out.1.put 0 (.int .i64 e0)).put 1 (.int .i64 x1)).put 2 (.int .i64 e2))
         have hww : Below w.heap.size w WZ := by rw [hWZ]; exact bw_set (bw_set (bw_set HM9.out.2.2 (by omega) _) (by omega) _) (by omega) _
         rw [← hWZ]
         obtain ⟨g0, g1, g2⟩ := three_of hbz
         refine bodyPost_ret (v := .tuple #[.agg #[.int .i64 e0, .int .i64 x1, .int .i64 e2], .int .i64 0, .bool false]) (by simp [g0, g1, g2, results, Tryz.results81, go_sem]) rfl (PaRet.no HNO.out _ _ _ hww)
        ·have hbad2 : -6000 ≤ x1 := by omega
         go_wp2
         obtain ⟨WZ, hWZ⟩ : ∃ WZ, WZ = (((wc.setCell ⟨w.heap.size + 1, 0, none⟩ (.int .i64 e0)).setCell ⟨w.heap.size + 1, 1, none⟩ (.int .i64 x1)).setCell ⟨w.heap.size + 1, 2, none⟩ (.int .i64 e2)) := ⟨_, rfl⟩
         have hbz : Blk WZ (w.heap.size + 1) 57 [.int .i64 e0, .int .i64 x1, .int .i64 e2] := by rw [hWZ]; exact (((HM9.out.1.put 0 (.int .i64 e0)).put 1 (.int .i64 x1)).put 2 (.int .i64 e2))
         have hww : Below w.heap.size w WZ := by rw [hWZ]; exact bw_set (bw_set (bw_set HM9.out.2.2 (by omega) _) (by omega) _) (by omega) _
         rw [← hWZ]
         obtain ⟨g0, g1, g2⟩ := three_of hbz
         refine bodyPost_ret (v := .tuple #[.agg #[.int .i64 e0, .int .i64 x1, .int .i64 e2], .int .i64 0, .bool false]) (by simp [g0, g1, g2, results, Tryz.results81, go_sem]) rfl (PaRet.no HNO.out _ _ _ hww)
       ·have HB := Lib.hid hbad
        have hb1 : -6000 ≤ x1 := by omega
        have hb2 : x1 ≤ 6000 := by omega
        clear hbad
        go_wp2
        go_roundw
        case rel =>
         have hrl : PaRel w S D x0 x1 x2 (.int .i64 D) (.int .i64 ((1 + 1 : Nat) : Int)) wc := ⟨1 + 1, e0, x1, e2, by omega, rfl, rfl, ⟨fun _ => HPR.out.1 (by decide), fun _ => ⟨rfl, HB.out⟩, fun h => absurd h (by decide)⟩, HM9.out⟩
         first | exact hrl | exact ⟨_, _, _, _, _, hrl, rfl, rfl, rfl, rfl, rfl⟩
        case measure => simp [intOf]
     ·obtain ⟨hw1, hw2, hq⟩ := HW2.out
      have hq3 := hq.symm
      obtain ⟨c0, c1, c2⟩ := three_of HM.out.1
      have f0 := HM.out.1.frozen 2
      have hdz : (d2 == 0) = false := by rw [beq_eq_false_iff_ne]; omega
      clear hq
      go_upto_region 15 with fail
      go_cut [] (fun wx => PaMem w S [e0, e1, x2] wx)
      case first =>
       go_region
       all_goals
        go_wp2_with fail
        go_meet
        exact (show PaMem w S [e0, e1, x2] _ from ⟨((HM.out.1.put 2 (.int .i64 x2)).alloc _).drew, ((HM.out.2.1.far (p := ⟨w.heap.size + 1, 2, none⟩) (by show w.heap.size + 1 + 1 ≠ w.heap.size + 1; omega) _).alloc _).drew, bw_drew (bw_new (bw_set HM.out.2.2 (by omega) _) _)⟩)
      case rest =>
       have HM9 := Lib.hid hcut
       clear hcut hw1 hw2 hq3 c0 c1 c2 f0 hdz
       obtain ⟨c0, c1, c2⟩ := three_of HM9.out.1
       have hsz9 : w.heap.size + 1 < wc.heap.size := HM9.out.1.lt
       by_cases hbad : x2 < -6000 ∨ 6000 < x2
       ·have HNO := Lib.hid (show prt S = none by rw [HPN.out, HN.out, if_neg (HPR.out.1 (by decide)).2, if_neg (HPR.out.2.1 (by decide)).2, if_pos hbad]; rfl)
        have f0 := HM9.out.1.frozen 0
        have f1 := HM9.out.1.frozen 1
        have f2 := HM9.out.1.frozen 2
        rcases hbad with hbad | hbad
        ·go_wp2
         obtain ⟨WZ, hWZ⟩ : ∃ WZ, WZ = (((wc.setCell ⟨w.heap.size + 1, 0, none⟩ (.int .i64 e0)).setCell ⟨w.heap.size + 1, 1, none⟩ (.int .i64 e1)).setCell ⟨w.heap.size + 1, 2, none⟩ (.int .i64 x2)) := ⟨_, rfl⟩
         have hbz : Blk WZ (w.heap.size + 1) 57 [.int .i64 e0, .int .i64 e1, .int .i64 x2] := by rw [hWZ]; exact (((HM9.out.1.put 0 (.int .i64 e0)).put 1 (.int .i64 e1)).put 2 (.int .i64 x2))
         have hww : Below w.heap.size w WZ := by rw [hWZ]; exact bw_set (bw_set (bw_set HM9.out.2.2 (by omega) _) (by omega) _) (by omega) _
         rw [← hWZ]
         obtain ⟨g0, g1, g2⟩ := three_of hbz
         refine bodyPost_ret (v := .tuple #[.agg #[.int .i64 e0, .int .i64 e1, .int .i64 x2], .int .i64 0, .bool false]) (by simp [g0, g1, g2, results, Tryz.results81, go_sem]) rfl (PaRet.no HNO.out _ _ _ hww)
        ·have hbad2 : -6000 ≤ x2 := by omega
         go_wp2
         obtain ⟨WZ, hWZ⟩ : ∃ WZ, WZ = (((wc.setCell ⟨w.heap.size + 1, 0, none⟩ (.int .i64 e0)).setCell ⟨w.heap.size + 1, 1, none⟩ (.int .i64 e1)).setCell ⟨w.heap.size + 1, 2, none⟩ (.int .i64 x2)) := ⟨_, rfl⟩
         have hbz : Blk WZ (w.heap.size + 1) 57 [.int .i64 e0, .int .i64 e1, .int .i64 x2] := by rw [hWZ]; exact (((HM9.out.1.put 0 (.int .i64 e0)).put 1 (.int .i64 e1)).put 2 (.int .i64 x2))
         have hww : Below w.heap.size w WZ := by rw [hWZ]; exact bw_set (bw_set (bw_set HM9.out.2.2 (by omega) _) (by omega) _) (by omega) _
         rw [← hWZ]
         obtain ⟨g0, g1, g2⟩ := three_of hbz
         refine bodyPost_ret (v := .tuple #[.agg #[.int .i64 e0, .int .i64 e1, .int .i64 x2], .int .i64 0, .bool false]) (by simp [g0, g1, g2, results, Tryz.results81, go_sem]) rfl (PaRet.no HNO.out _ _ _ hww)
       ·have HB := Lib.hid hbad
        have hb1 : -6000 ≤ x2 := by omega
        have hb2 : x2 ≤ 6000 := by omega
        clear hbad
        go_wp2
        go_roundw
        case rel =>
         have hrl : PaRel w S D x0 x1 x2 (.int .i64 D) (.int .i64 ((2 + 1 : Nat) : Int)) wc := ⟨2 + 1, e0, e1, x2, by omega, rfl, rfl, ⟨fun _ => HPR.out.1 (by decide), fun _ => HPR.out.2.1 (by decide), fun _ => ⟨rfl, HB.out⟩⟩, HM9.out⟩
         first | exact hrl | exact ⟨_, _, _, _, _, hrl, rfl, rfl, rfl, rfl, rfl⟩
        case measure => simp [intOf]
    ·obtain rfl : k = 3 := by omega
     obtain ⟨⟨r0, k0⟩, ⟨r1, k1⟩, ⟨r2, k2⟩⟩ : (e0 = x0 ∧ ¬ (x0 < -6000 ∨ 6000 < x0)) ∧ (e1 = x1 ∧ ¬ (x1 < -6000 ∨ 6000 < x1)) ∧ (e2 = x2 ∧ ¬ (x2 < -6000 ∨ 6000 < x2)) := ⟨HPR.out.1 (by decide), HPR.out.2.1 (by decide), HPR.out.2.2 (by decide)⟩
     subst r0
     subst r1
     subst r2
     have HYES := Lib.hid (show prt S = some ([e0, e1, e2], D) by rw [HPN.out, HN.out, if_neg k0, if_neg k1, if_neg k2]; rfl)
     clear k0 k1 k2
     obtain ⟨c0, c1, c2⟩ := three_of HM.out.1
     have f0 := HM.out.1.frozen 0
     have f1 := HM.out.1.frozen 1
     have f2 := HM.out.1.frozen 2
     go_wp2
     obtain ⟨WZ, hWZ⟩ : ∃ WZ, WZ = (((wr.setCell ⟨w.heap.size + 1, 0, none⟩ (.int .i64 e0)).setCell ⟨w.heap.size + 1, 1, none⟩ (.int .i64 e1)).setCell ⟨w.heap.size + 1, 2, none⟩ (.int .i64 e2)) := ⟨_, rfl⟩
     have hbz : Blk WZ (w.heap.size + 1) 57 [.int .i64 e0, .int .i64 e1, .int .i64 e2] := by rw [hWZ]; exact (((HM.out.1.put 0 (.int .i64 e0)).put 1 (.int .i64 e1)).put 2 (.int .i64 e2))
     have hww : Below w.heap.size w WZ := by rw [hWZ]; exact bw_set (bw_set (bw_set HM.out.2.2 (by omega) _) (by omega) _) (by omega) _
     rw [← hWZ]
     obtain ⟨g0, g1, g2⟩ := three_of hbz
     refine bodyPost_ret (v := .tuple #[.agg #[.int .i64 e0, .int .i64 e1, .int .i64 e2], .int .i64 D, .bool true]) (by simp [g0, g1, g2, results, Tryz.results81, go_sem]) rfl (PaRet.yes HYES.out hww)
end Go.Proofs.YtendjepcjmfmfaaGreatDoor
