/- Part 33 of 47 of the proof of the law: contracts of the functions that it reaches, and plain facts. Conditions: those that each contract names. -/
import Derived.Test.YtendjepcjmfmfaaGreatDoorOrdB31
import Derived.Great.BuildSlice
import Derived.Test.YtendjepcjmfmfaaGreatDoorOrdB30
import Derived.Test.YtendjepcjmfmfaaGreatDoorOrdB27
import Derived.Test.YtendjepcjmfmfaaGreatDoorOrdB07
import Derived.Test.YtendjepcjmfmfaaGreatDoorOrdB32
namespace Go.Proofs.YtendjepcjmfmfaaGreatDoor
open Go.RowKit
set_option maxRecDepth 100000 in
set_option maxHeartbeats 2000000 in
theorem tpart_any (n d : Int) (w : World) (hd : 0 < d ∧ d ≤ 1000000) (hn : -1000000 ≤ n ∧ n ≤ 1000000) (hr : Right (lowN n d) (lowD n d)) :
  Calls Tryz.prog 63 #[.int .i64 n, .int .i64 d] w fun e w' => e = .returned (.agg #[.int .i64 (lowN n d), .int .i64 (lowD n d)]) ∧ Below w.heap.size w w' := by
 have hm := fun W => make_any n d W ⟨by omega, by omega⟩ ⟨by omega, by omega⟩
 rw [fmake_low n d hd.1, if_pos hr] at hm
 simp only [fRet] at hm
 obtain ⟨x, hx⟩ : ∃ x, x = lowN n d := ⟨_, rfl⟩
 obtain ⟨y, hy⟩ : ∃ y, y = lowD n d := ⟨_, rfl⟩
 rw [← hx, ← hy] at hm ⊢
 have HMK := Lib.hid hm
 clear hm hx hy hr
 have hm0 := (Hp.start w).new 34 [.int .i64 0, .int .i64 0]
 simp only [List.nil_append] at hm0
 have HM0 := Lib.hid hm0
 clear hm0
 go_enter Tryz.func63, Tryz.ntmps63
 go_wp2_with fail
 refine (HMK.out _).mono ?_
 rintro e w1 ⟨rfl, hb1⟩
 have hm1 := (HM0.out.step hb1).new 34 [.int .i64 x, .int .i64 y]
 simp only [List.nil_append, List.cons_append] at hm1
 have z0 := (hm1.at_ 0 rfl).cell 0
 have z1 := (hm1.at_ 0 rfl).cell 1
 simp only [List.getElem?_cons_succ, List.getElem?_cons_zero] at z0 z1
 have f0 := (hm1.at_ 0 rfl).frozen 0
 have f1 := (hm1.at_ 0 rfl).frozen 1
 have HB := Lib.hid (hm1.put2 0 rfl (.int .i64 x) (.int .i64 y)).below
 clear hb1 hm1
 go_wp2
 exact bodyPost_ret (v := .agg #[.int .i64 x, .int .i64 y]) (by simp [results, Tryz.results63, go_sem, z0, z1, f0, f1]) rfl ⟨rfl, HB.out⟩
theorem low_01 : lowN 0 1 = 0 ∧ lowD 0 1 = 1 := by decide
theorem right_01 : Right (lowN 0 1) (lowD 0 1) := by rw [low_01.1, low_01.2]; exact ⟨by decide, by decide, by decide, by decide, by decide⟩
theorem tpart_zero (w : World) : Calls Tryz.prog 63 #[.int .i64 0, .int .i64 1] w fun e w' => e = .returned (.agg #[.int .i64 0, .int .i64 1]) ∧ Below w.heap.size w w' := by
 have := tpart_any 0 1 w ⟨by decide, by decide⟩ ⟨by decide, by decide⟩ right_01
 rw [low_01.1, low_01.2] at this
 exact this
set_option maxRecDepth 100000 in
set_option maxHeartbeats 2000000 in
theorem tpyth_any (n d : Int) (x y : Int) (w : World) (hp : ∀ W, Calls Tryz.prog 63 #[.int .i64 n, .int .i64 d] W fun e W' => e = .returned (.agg #[.int .i64 x, .int .i64 y]) ∧ Below W.heap.size W W') :
  Calls Tryz.prog 62 #[.int .i64 n, .int .i64 d] w fun e w' => e = .returned (.agg #[.int .i64 x, .int .i64 y, .int .i64 0, .int .i64 1]) ∧ Below w.heap.size w w' := by
 have HP := Lib.hid hp
 have HZ := Lib.hid (fun W => tpart_zero W)
 clear hp
 have hm0 := (Hp.start w).new 36 [.int .i64 0, .int .i64 0, .int .i64 0, .int .i64 0]
 simp only [List.nil_append] at hm0
 have HM0 := Lib.hid hm0
 clear hm0
 go_enter Tryz.func62, Tryz.ntmps62
 go_wp2_with fail
 refine (HP.out _).mono ?_
 rintro e w1 ⟨rfl, hb1⟩
 have HM1 := Lib.hid (HM0.out.step hb1)
 clear hb1
 go_wp2_with fail
 refine (HZ.out _).mono ?_
 rintro e w2 ⟨rfl, hb2⟩
 have hm2 := HM1.out.step hb2
 obtain ⟨z0, z1, z2, z3⟩ : w2.cell? ⟨w.heap.size, 0, none⟩ = some (.int .i64 0) ∧ w2.cell? ⟨w.heap.size, 1, none⟩ = some (.int .i64 0) ∧ w2.cell? ⟨w.heap.size, 2, none⟩ = some (.int .i64 0) ∧ w2.cell? ⟨w.heap.size, 3, none⟩ = some (.int .i64 0) := ⟨(hm2.at_ 0 rfl).cell 0, (hm2.at_ 0 rfl).cell 1, (hm2.at_ 0 rfl).cell 2, (hm2.at_ 0 rfl).cell 3⟩
 have f0 := (hm2.at_ 0 rfl).frozen 0
 have f1 := (hm2.at_ 0 rfl).frozen 1
 have f2 := (hm2.at_ 0 rfl).frozen 2
 have f3 := (hm2.at_ 0 rfl).frozen 3
 have HB := Lib.hid (hm2.put4 0 rfl (.int .i64 x) (.int .i64 y) (.int .i64 0) (.int .i64 1)).below
 clear hb2 hm2
 go_wp2
 exact bodyPost_ret (v := .agg #[.int .i64 x, .int .i64 y, .int .i64 0, .int .i64 1]) (by simp [results, Tryz.results62, go_sem, z0, z1, z2, z3, f0, f1, f2, f3]) rfl ⟨rfl, HB.out⟩
set_option maxRecDepth 100000 in
set_option maxHeartbeats 2000000 in
theorem tsynt_any (n d : Int) (x y : Int) (w : World) (hp : ∀ W, Calls Tryz.prog 63 #[.int .i64 n, .int .i64 d] W fun e W' => e = .returned (.agg #[.int .i64 x, .int .i64 y]) ∧ Below W.heap.size W W') :
  Calls Tryz.prog 64 #[.int .i64 n, .int .i64 d] w fun e w' => e = .returned (.agg #[.int .i64 0, .int .i64 1, .int .i64 x, .int .i64 y]) ∧ Below w.heap.size w w' := by
 have HP := Lib.hid hp
 have HZ := Lib.hid (fun W => tpart_zero W)
 clear hp
 have hm0 := (Hp.start w).new 36 [.int .i64 0, .int .i64 0, .int .i64 0, .int .i64 0]
 simp only [List.nil_append] at hm0
 have HM0 := Lib.hid hm0
 clear hm0
 go_enter Tryz.func64, Tryz.ntmps64
 go_wp2_with fail
 refine (HZ.out _).mono ?_
 rintro e w1 ⟨rfl, hb1⟩
 have HM1 := Lib.hid (HM0.out.step hb1)
 clear hb1
 go_wp2_with fail
 refine (HP.out _).mono ?_
 rintro e w2 ⟨rfl, hb2⟩
 have hm2 := HM1.out.step hb2
 obtain ⟨z0, z1, z2, z3⟩ : w2.cell? ⟨w.heap.size, 0, none⟩ = some (.int .i64 0) ∧ w2.cell? ⟨w.heap.size, 1, none⟩ = some (.int .i64 0) ∧ w2.cell? ⟨w.heap.size, 2, none⟩ = some (.int .i64 0) ∧ w2.cell? ⟨w.heap.size, 3, none⟩ = some (.int .i64 0) := ⟨(hm2.at_ 0 rfl).cell 0, (hm2.at_ 0 rfl).cell 1, (hm2.at_ 0 rfl).cell 2, (hm2.at_ 0 rfl).cell 3⟩
 have f0 := (hm2.at_ 0 rfl).frozen 0
 have f1 := (hm2.at_ 0 rfl).frozen 1
 have f2 := (hm2.at_ 0 rfl).frozen 2
 have f3 := (hm2.at_ 0 rfl).frozen 3
 have HB := Lib.hid (hm2.put4 0 rfl (.int .i64 0) (.int .i64 1) (.int .i64 x) (.int .i64 y)).below
 clear hb2 hm2
 go_wp2
 exact bodyPost_ret (v := .agg #[.int .i64 0, .int .i64 1, .int .i64 x, .int .i64 y]) (by simp [results, Tryz.results64, go_sem, z0, z1, z2, z3, f0, f1, f2, f3]) rfl ⟨rfl, HB.out⟩
theorem cell_new {w : World} {g : Nat} {t : TypeId} {cs : List Value} (h : Blk w g t cs) (i : Nat) {v : Value} (hv : cs[i]? = some v) : w.cell? ⟨g, i, none⟩ = some v := (h.cell i).trans hv
def temC (x : Tm) (is : List Nat) (i : Nat) : Tm := if i ∈ is then x else (0, 1, 0, 1)
abbrev TtM (w : World) (x : Tm) (C : Nat → Tm) (W : World) : Prop :=
 Hp w [(w.heap.size, 36, tmC x), (w.heap.size + 1, 38, cirL (fun _ => (0, 0, 0, 0))), (w.heap.size + 1 + 1, 38, cirL C)] W
set_option maxRecDepth 1000000 in
set_option maxHeartbeats 4000000 in
theorem ttempered_any (x : Tm) (is : List Nat) (g : Nat) (w : World) (hg : Blk w g 3 (is.map fun i : Nat => .int .i64 (i : Int))) (his : ∀ i ∈ is, i < 12) (hl : is.length ≤ 12) :
  Calls Tryz.prog 65 #[.agg (tmC x).toArray, .slice (some ⟨g, 0, none⟩) is.length is.length] w fun e w' => e = .returned (.agg (cirL (temC x is)).toArray) ∧ Below w.heap.size w w' := by
 have HZ := Lib.hid (fun W => tpart_zero W)
 have hm0 := (((Hp.start w).new 36 (tmC x)).new 38 (cirL (fun _ => (0, 0, 0, 0)))).new 38 (cirL (fun _ => (0, 0, 0, 0)))
 simp only [World.size_alloc, List.nil_append, List.cons_append] at hm0
 have HM0 := Lib.hid hm0
 clear hm0
 go_enter Tryz.func65, Tryz.ntmps65
 go_wp2_with fail
 go_loopw [9] (fun v W => ∃ j : Nat, v = .int .i64 (j : Int) ∧ j ≤ 12 ∧ TtM w x (fun i => if i < j then (0, 1, 0, 1) else (0, 0, 0, 0)) W) (fun v _ => 12 - (intOf v).toNat)
 case atStart => exact ⟨0, rfl, by omega, HM0.out⟩
 case round =>
  obtain ⟨j, rfl, hj, hm⟩ := hrel
  by_cases hjl : j < 12
  ·have HM1 := Lib.hid hm
   clear hm
   go_wp2_with fail
   refine (HZ.out _).mono ?_
   rintro e w1 ⟨rfl, hb1⟩
   have HM2 := Lib.hid (HM1.out.step hb1)
   clear hb1
   go_wp2_with fail
   refine (HZ.out _).mono ?_
   rintro e w2 ⟨rfl, hb2⟩
   have hm3 := HM2.out.step hb2
   obtain ⟨z0, z1, z2, z3⟩ := cir_cells (hm3.at_ 2 rfl) hjl
   have f0 := (hm3.at_ 2 rfl).frozen (j * 4)
   have f1 := (hm3.at_ 2 rfl).frozen (j * 4 + 1)
   have f2 := (hm3.at_ 2 rfl).frozen (j * 4 + 2)
   have f3 := (hm3.at_ 2 rfl).frozen (j * 4 + 3)
   have HRL := Lib.hid ((hm3.putT 2 rfl hjl (0, 1, 0, 1)).cast (L' := [(w.heap.size, 36, tmC x), (w.heap.size + 1, 38, cirL (fun _ => (0, 0, 0, 0))), (w.heap.size + 1 + 1, 38, cirL (fun i => if i < j + 1 then (0, 1, 0, 1) else (0, 0, 0, 0)))]) (by
    have e := cirL_ext (C := fun k => if k = j then (0, 1, 0, 1) else if k < j then (0, 1, 0, 1) else (0, 0, 0, 0)) (C' := fun i => if i < j + 1 then (0, 1, 0, 1) else (0, 0, 0, 0)) (fun i _ => by
     by_cases a : i = j
     ·simp [a]
     ·by_cases b : i < j
      ·simp [a, b, show i < j + 1 by omega]
      ·simp [a, b, show ¬ i < j + 1 by omega])
    rw [← e]
    rfl))
   clear hb2 hm3
   go_wp2
   go_roundw
   case rel => exact ⟨j + 1, rfl, by omega, HRL.out⟩
   case measure => simp [intOf]; omega
  ·obtain rfl : j = 12 := by omega
   have HM4 := Lib.hid (hm.cast (L' := [(w.heap.size, 36, tmC x), (w.heap.size + 1, 38, cirL (fun _ => (0, 0, 0, 0))), (w.heap.size + 1 + 1, 38, cirL (temC x (is.take 0)))]) (by
    rw [cirL_ext (C := fun i => if i < 12 then (0, 1, 0, 1) else (0, 0, 0, 0)) (C' := temC x (is.take 0)) (fun i hi => by simp [temC, hi])]))
   clear hm
   go_wp2_with fail
   go_loopw [20] (fun v W => ∃ j : Nat, v = .int .i64 (j : Int) ∧ j ≤ is.length ∧ TtM w x (temC x (is.take j)) W) (fun v _ => is.length - (intOf v).toNat)
   case atStart => exact ⟨0, rfl, by omega, HM4.out⟩
   case round =>
    obtain ⟨j, rfl, hj2, hm⟩ := hrel
    by_cases hjs : j < is.length
    ·obtain ⟨k, hk⟩ : ∃ k, k = is[j] := ⟨_, rfl⟩
     have hk12 : k < 12 := by rw [hk]; exact his _ (List.getElem_mem _)
     have hjn : (j : Int) < (is.length : Int) := by omega
     have hk0 : (0 : Int) ≤ (k : Int) := by omega
     have hk1 : (k : Int) < 12 := by omega
     have HK := Lib.hid hk
     have hg2 := hg.below hm.below hg.lt
     have q0 : wr.cell? ⟨g, j, none⟩ = some (.int .i64 (k : Int)) := by rw [hg2.cell, hk]; simp [hjs]
     have x0 : wr.cell? ⟨w.heap.size, 0, none⟩ = some (.int .i64 x.1) := (hm.at_ 0 rfl).cell 0
     have x1 : wr.cell? ⟨w.heap.size, 1, none⟩ = some (.int .i64 x.2.1) := (hm.at_ 0 rfl).cell 1
     have x2 : wr.cell? ⟨w.heap.size, 2, none⟩ = some (.int .i64 x.2.2.1) := (hm.at_ 0 rfl).cell 2
     have x3 : wr.cell? ⟨w.heap.size, 3, none⟩ = some (.int .i64 x.2.2.2) := (hm.at_ 0 rfl).cell 3
     obtain ⟨z0, z1, z2, z3⟩ := cir_cells (hm.at_ 2 rfl) hk12
     have f0 := (hm.at_ 2 rfl).frozen (k * 4)
     have f1 := (hm.at_ 2 rfl).frozen (k * 4 + 1)
     have f2 := (hm.at_ 2 rfl).frozen (k * 4 + 2)
     have f3 := (hm.at_ 2 rfl).frozen (k * 4 + 3)
     have HRL := Lib.hid ((hm.putT 2 rfl hk12 x).cast (L' := [(w.heap.size, 36, tmC x), (w.heap.size + 1, 38, cirL (fun _ => (0, 0, 0, 0))), (w.heap.size + 1 + 1, 38, cirL (temC x (is.take (j + 1))))]) (by
      rw [← cirL_ext (C := fun i => if i = k then x else temC x (is.take j) i) (C' := temC x (is.take (j + 1))) (fun i _ => by
       unfold temC
       rw [List.take_add_one, List.getElem?_eq_getElem hjs, ← hk]
       by_cases a : i = k
       ·simp [a]
       ·simp [a])]
      rfl))
     clear hm hg2 hk
     go_wp2
     go_roundw
     case rel => exact ⟨j + 1, rfl, by omega, HRL.out⟩
     case measure => simp [intOf]; omega
    ·obtain rfl : j = is.length := by omega
     rw [List.take_length] at hm
     have HM5 := Lib.hid hm
     have HB := Lib.hid (hm.row 1 rfl (cirL (temC x is)))
     clear hm
     go_wp2_with (first
      | refine wpList_load_row rfl 38 _ rfl (w.heap.size + 1 + 1) rfl 38 (cirL (temC x is)).toArray (0, 0) _ (HM5.out.at_ 2 rfl) Tryz.underlying38 rfl (by rw [infoCircle, List.size_toArray, cirL_len]) ?_
      | refine wpList_store_rowTo rfl 38 _ _ rfl rfl (w.heap.size + 1) (cirL (temC x is)).toArray rfl rfl 38 (cirL (fun _ => (0, 0, 0, 0))).toArray (HM5.out.at_ 1 rfl) (by rw [infoCircle, List.size_toArray, cirL_len]) (by rw [List.size_toArray, List.size_toArray, cirL_len, cirL_len]) (cir_one _) ?_)
     refine bodyPost_ret (v := .agg (cirL (temC x is)).toArray) ?_ rfl ⟨rfl, HB.out.below⟩
     exact results_cell_row rfl _ _ (w.heap.size + 1) 38 _ (0, 0) _ rfl (HB.out.at_ 1 rfl) Tryz.underlying38 rfl (by rw [infoCircle, List.size_toArray, cirL_len])
set_option maxRecDepth 1000000 in
set_option maxHeartbeats 4000000 in
theorem tRegular_gen (x0 x1 x2 x3 y0 y1 y2 y3 p q r s c : Int) (w : World)
  (h64 : ∀ i, i < 12 → Tm64 ((fun _ => (x0, x1, x2, x3)) i)) (h642 : ∀ i, i < 12 → Tm64 ((fun i => if i = 8 then (y0, y1, y2, y3) else (x0, x1, x2, x3)) i)) (hc : ckE (fun _ => (x0, x1, x2, x3)) = c) (hc2 : c ≠ 2) (hk : ckE (fun i => if i = 8 then (y0, y1, y2, y3) else (x0, x1, x2, x3)) = 0)
  (hM1 : ∀ W, Calls Tryz.prog 98 #[.agg #[.int .i64 x0, .int .i64 x1], .agg #[.int .i64 11, .int .i64 1]] W fun e w' => e = .returned (.tuple #[.agg #[.int .i64 p, .int .i64 q], .int .i64 0]) ∧ Below W.heap.size W w')
  (hM2 : ∀ W, Calls Tryz.prog 98 #[.agg #[.int .i64 x2, .int .i64 x3], .agg #[.int .i64 11, .int .i64 1]] W fun e w' => e = .returned (.tuple #[.agg #[.int .i64 r, .int .i64 s], .int .i64 0]) ∧ Below W.heap.size W w')
  (hS1 : ∀ W, Calls Tryz.prog 99 #[.agg #[.int .i64 1, .int .i64 1], .agg #[.int .i64 p, .int .i64 q]] W fun e w' => e = .returned (.tuple #[.agg #[.int .i64 y0, .int .i64 y1], .int .i64 0]) ∧ Below W.heap.size W w')
  (hS2 : ∀ W, Calls Tryz.prog 99 #[.agg #[.int .i64 0, .int .i64 1], .agg #[.int .i64 r, .int .i64 s]] W fun e w' => e = .returned (.tuple #[.agg #[.int .i64 y2, .int .i64 y3], .int .i64 0]) ∧ Below W.heap.size W w') :
  Calls Tryz.prog 66 #[.agg #[.int .i64 x0, .int .i64 x1, .int .i64 x2, .int .i64 x3]] w fun e w' => e = .returned (.tuple #[.agg (cirL (fun i => if i = 8 then (y0, y1, y2, y3) else (x0, x1, x2, x3))).toArray, .int .i64 0]) ∧ Below w.heap.size w w' := by
 have hck := fun W => tcheck_any _ W h64
 rw [hc] at hck
 have HCK := Lib.hid hck
 have hck2 := fun W => tcheck_any _ W h642
 rw [hk] at hck2
 have HCK2 := Lib.hid hck2
 have HM1 := Lib.hid hM1
 have HM2 := Lib.hid hM2
 have HS1 := Lib.hid hS1
 have HS2 := Lib.hid hS2
 have hcz : (c == 2) = false := by simpa using hc2
 clear h64 h642 hc hc2 hk hM1 hM2 hS1 hS2 hck hck2
 have hm0 := (((Hp.start w).new 36 [.int .i64 x0, .int .i64 x1, .int .i64 x2, .int .i64 x3]).new 38 (cirL (fun _ => (0, 0, 0, 0)))).new 38 (cirL (fun _ => (0, 0, 0, 0)))
 simp only [World.size_alloc, List.nil_append, List.cons_append] at hm0
 have HM0 := Lib.hid hm0
 clear hm0
 go_enter Tryz.func66, Tryz.ntmps66
 go_wp2_with fail
 go_loopw [14] (fun v W => ∃ j : Nat, v = .int .i64 (j : Int) ∧ j ≤ 12 ∧ Hp w [(w.heap.size, 36, [.int .i64 x0, .int .i64 x1, .int .i64 x2, .int .i64 x3]), (w.heap.size + 1, 38, cirL (fun _ => (0, 0, 0, 0))), (w.heap.size + 1 + 1, 38, cirL (fun i => if i < j then (x0, x1, x2, x3) else (0, 0, 0, 0)))] W) (fun v _ => 12 - (intOf v).toNat)
 case atStart => exact ⟨0, rfl, by omega, HM0.out⟩
 case round =>
  obtain ⟨j, rfl, hj, hm⟩ := hrel
  by_cases hjl : j < 12
  ·have k0 : wr.cell? ⟨w.heap.size, 0, none⟩ = some (.int .i64 x0) := (hm.at_ 0 rfl).cell 0
   have k1 : wr.cell? ⟨w.heap.size, 1, none⟩ = some (.int .i64 x1) := (hm.at_ 0 rfl).cell 1
   have k2 : wr.cell? ⟨w.heap.size, 2, none⟩ = some (.int .i64 x2) := (hm.at_ 0 rfl).cell 2
   have k3 : wr.cell? ⟨w.heap.size, 3, none⟩ = some (.int .i64 x3) := (hm.at_ 0 rfl).cell 3
   obtain ⟨z0, z1, z2, z3⟩ := cir_cells (hm.at_ 2 rfl) hjl
   have f0 := (hm.at_ 2 rfl).frozen (j * 4)
   have f1 := (hm.at_ 2 rfl).frozen (j * 4 + 1)
   have f2 := (hm.at_ 2 rfl).frozen (j * 4 + 2)
   have f3 := (hm.at_ 2 rfl).frozen (j * 4 + 3)
   have HRL := Lib.hid ((hm.putT 2 rfl hjl (x0, x1, x2, x3)).cast (L' := [(w.heap.size, 36, [.int .i64 x0, .int .i64 x1, .int .i64 x2, .int .i64 x3]), (w.heap.size + 1, 38, cirL (fun _ => (0, 0, 0, 0))), (w.heap.size + 1 + 1, 38, cirL (fun i => if i < j + 1 then (x0, x1, x2, x3) else (0, 0, 0, 0)))]) (by
    have e := cirL_ext (C := fun k => if k = j then (x0, x1, x2, x3) else if k < j then (x0, x1, x2, x3) else (0, 0, 0, 0)) (C' := fun i => if i < j + 1 then (x0, x1, x2, x3) else (0, 0, 0, 0)) (fun i _ => by
     by_cases a : i = j
     ·simp [a]
     ·by_cases b : i < j
      ·simp [a, b, show i < j + 1 by omega]
      ·simp [a, b, show ¬ i < j + 1 by omega])
    rw [← e]
    rfl))
   clear hm
   go_wp2
   go_roundw
   case rel => exact ⟨j + 1, rfl, by omega, HRL.out⟩
   case measure => simp [intOf]; omega
  ·obtain rfl : j = 12 := by omega
   have hm1 := hm.cast (L' := [(w.heap.size, 36, [.int .i64 x0, .int .i64 x1, .int .i64 x2, .int .i64 x3]), (w.heap.size + 1, 38, cirL (fun _ => (0, 0, 0, 0))), (w.heap.size + 1 + 1, 38, cirL (fun _ => (x0, x1, x2, x3)))]) (by
    rw [cirL_ext (C := fun i => if i < 12 then (x0, x1, x2, x3) else (0, 0, 0, 0)) (C' := (fun _ => (x0, x1, x2, x3))) (fun i hi => by simp [hi])])
   have HA := Lib.hid hm1
   clear hm hm1
   go_wp2_with (refine wpList_load_row rfl 38 _ rfl (w.heap.size + 1 + 1) rfl 38 (cirL (fun _ => (x0, x1, x2, x3))).toArray (0, 0) _ (HA.out.at_ 2 rfl) Tryz.underlying38 rfl (by rw [infoCircle, List.size_toArray, cirL_len]) ?_)
   refine (HCK.out _).mono ?_
   rintro e w1 ⟨rfl, hb1⟩
   have hm2 := ((HA.out.step hb1).new 36 [.int .i64 0, .int .i64 0, .int .i64 0, .int .i64 0]).new 34 [.int .i64 11, .int .i64 1]
   simp only [World.size_alloc, List.nil_append, List.cons_append] at hm2
   have k0 := (hm2.at_ 0 rfl).cell 0
   have k1 := (hm2.at_ 0 rfl).cell 1
   have k2 := (hm2.at_ 4 rfl).cell 0
   have k3 := (hm2.at_ 4 rfl).cell 1
   simp only [List.getElem?_cons_succ, List.getElem?_cons_zero] at k0 k1 k2 k3
   have HB := Lib.hid hm2
   clear hb1 hm2
   go_wp2_with fail
   refine (HM1.out _).mono ?_
   rintro e w2 ⟨rfl, hb2⟩
   have hm3 := (HB.out.step hb2).new 34 [.int .i64 p, .int .i64 q]
   simp only [List.nil_append, List.cons_append] at hm3
   clear k0 k1 k2 k3
   have k0 := (hm3.at_ 0 rfl).cell 2
   have k1 := (hm3.at_ 0 rfl).cell 3
   have k2 := (hm3.at_ 4 rfl).cell 0
   have k3 := (hm3.at_ 4 rfl).cell 1
   simp only [List.getElem?_cons_succ, List.getElem?_cons_zero] at k0 k1 k2 k3
   have HC := Lib.hid hm3
   clear hb2 hm3
   go_wp2_with fail
   refine (HM2.out _).mono ?_
   rintro e w3 ⟨rfl, hb3⟩
   have hm4 := (HC.out.step hb3).new 34 [.int .i64 r, .int .i64 s]
   simp only [List.nil_append, List.cons_append] at hm4
   clear k0 k1 k2 k3
   have k0 := (hm4.at_ 5 rfl).cell 0
   have k1 := (hm4.at_ 5 rfl).cell 1
   simp only [List.getElem?_cons_succ, List.getElem?_cons_zero] at k0 k1
   have HD := Lib.hid hm4
   clear hb3 hm4
   go_wp2_with fail
   refine (HS1.out _).mono ?_
   rintro e w4 ⟨rfl, hb4⟩
   have hm5 := HD.out.step hb4
   clear k0 k1
   have k0 := (hm5.at_ 3 rfl).cell 0
   have k1 := (hm5.at_ 3 rfl).cell 1
   have f0 := (hm5.at_ 3 rfl).frozen 0
   have f1 := (hm5.at_ 3 rfl).frozen 1
   have k2 := (hm5.at_ 6 rfl).cell 0
   have k3 := (hm5.at_ 6 rfl).cell 1
   simp only [List.getElem?_cons_succ, List.getElem?_cons_zero] at k0 k1 k2 k3
   have hne := hm5.ne 6 3 rfl rfl (by decide)
   have HE := Lib.hid ((hm5.put 3 rfl 0 (.int .i64 y0)).put 3 rfl 1 (.int .i64 y1))
   clear hb4 hm5
   go_wp2_with fail
   refine (HS2.out _).mono ?_
   rintro e w5 ⟨rfl, hb5⟩
   have hm6 := HE.out.step hb5
   clear k0 k1 k2 k3 f0 f1
   have k0 := (hm6.at_ 3 rfl).cell 0
   have k1 := (hm6.at_ 3 rfl).cell 1
   have k2 := (hm6.at_ 3 rfl).cell 2
   have k3 := (hm6.at_ 3 rfl).cell 3
   simp only [List.set_cons_zero, List.set_cons_succ, List.getElem?_cons_succ, List.getElem?_cons_zero] at k0 k1 k2 k3
   have f0 := (hm6.at_ 3 rfl).frozen 2
   have f1 := (hm6.at_ 3 rfl).frozen 3
   have q0 := cir_cells (hm6.at_ 2 rfl) (j := 8) (by decide)
   obtain ⟨z0, z1, z2, z3⟩ : w5.cell? ⟨w.heap.size + 1 + 1, 32, none⟩ = some (.int .i64 x0) ∧ w5.cell? ⟨w.heap.size + 1 + 1, 33, none⟩ = some (.int .i64 x1) ∧ w5.cell? ⟨w.heap.size + 1 + 1, 34, none⟩ = some (.int .i64 x2) ∧ w5.cell? ⟨w.heap.size + 1 + 1, 35, none⟩ = some (.int .i64 x3) := q0
   have g0 := (hm6.at_ 2 rfl).frozen 32
   have g1 := (hm6.at_ 2 rfl).frozen 33
   have g2 := (hm6.at_ 2 rfl).frozen 34
   have g3 := (hm6.at_ 2 rfl).frozen 35
   have hne2 := hm6.ne 2 3 rfl rfl (by decide)
   have hne3 := hm6.ne 3 2 rfl rfl (by decide)
   have HF := Lib.hid ((hm6.put 3 rfl 2 (.int .i64 y2)).put 3 rfl 3 (.int .i64 y3))
   have hg := (HF.out.putT 2 rfl (j := 8) (by decide) (y0, y1, y2, y3)).cast (L' := [(w.heap.size, 36, [.int .i64 x0, .int .i64 x1, .int .i64 x2, .int .i64 x3]), (w.heap.size + 1, 38, cirL (fun _ => (0, 0, 0, 0))), (w.heap.size + 1 + 1, 38, cirL (fun i => if i = 8 then (y0, y1, y2, y3) else (x0, x1, x2, x3))), (w1.heap.size, 36, [.int .i64 y0, .int .i64 y1, .int .i64 y2, .int .i64 y3]), (w1.heap.size + 1, 34, [.int .i64 11, .int .i64 1]), (w2.heap.size, 34, [.int .i64 p, .int .i64 q]), (w3.heap.size, 34, [.int .i64 r, .int .i64 s])]) rfl
   have hg2 := hg.sub (L' := [(w.heap.size, 36, [.int .i64 x0, .int .i64 x1, .int .i64 x2, .int .i64 x3]), (w.heap.size + 1, 38, cirL (fun _ => (0, 0, 0, 0))), (w.heap.size + 1 + 1, 38, cirL (fun i => if i = 8 then (y0, y1, y2, y3) else (x0, x1, x2, x3)))]) (by simp)
   have HG : Hid (Hp w [(w.heap.size, 36, [.int .i64 x0, .int .i64 x1, .int .i64 x2, .int .i64 x3]), (w.heap.size + 1, 38, cirL (fun _ => (0, 0, 0, 0))), (w.heap.size + 1 + 1, 38, cirL (fun i => if i = 8 then (y0, y1, y2, y3) else (x0, x1, x2, x3)))] ((((((w5.setCell ⟨w1.heap.size, 2, none⟩ (.int .i64 y2)).setCell ⟨w1.heap.size, 3, none⟩ (.int .i64 y3)).setCell ⟨w.heap.size + 1 + 1, 32, none⟩ (.int .i64 y0)).setCell ⟨w.heap.size + 1 + 1, 33, none⟩ (.int .i64 y1)).setCell ⟨w.heap.size + 1 + 1, 34, none⟩ (.int .i64 y2)).setCell ⟨w.heap.size + 1 + 1, 35, none⟩ (.int .i64 y3))) := Lib.hid hg2
   clear hg2
   clear hg
   clear hb5 hm6
   go_upto_region 21 with fail
   go_wp2_with (refine wpList_load_row rfl 38 _ rfl (w.heap.size + 1 + 1) rfl 38 (cirL (fun i => if i = 8 then (y0, y1, y2, y3) else (x0, x1, x2, x3))).toArray (0, 0) _ (HG.out.at_ 2 rfl) Tryz.underlying38 rfl (by rw [infoCircle, List.size_toArray, cirL_len]) ?_)
   refine (HCK2.out _).mono ?_
   rintro e w6 ⟨rfl, hb6⟩
   have hm7 := HG.out.step hb6
   have HI := Lib.hid hm7
   have HJ := Lib.hid (hm7.row 1 rfl (cirL (fun i => if i = 8 then (y0, y1, y2, y3) else (x0, x1, x2, x3))))
   clear hb6 hm7 k0 k1 k2 k3 f0 f1 g0 g1 g2 g3 z0 z1 z2 z3
   go_wp2_with (first | (refine wpList_load_row rfl 38 _ rfl (w.heap.size + 1 + 1) rfl 38 (cirL (fun i => if i = 8 then (y0, y1, y2, y3) else (x0, x1, x2, x3))).toArray (0, 0) _ (HI.out.at_ 2 rfl) Tryz.underlying38 rfl (by rw [infoCircle, List.size_toArray, cirL_len]) ?_) | (refine wpList_store_rowTo rfl 38 _ _ rfl rfl (w.heap.size + 1) (cirL (fun i => if i = 8 then (y0, y1, y2, y3) else (x0, x1, x2, x3))).toArray rfl rfl 38 (cirL (fun _ => (0, 0, 0, 0))).toArray (HI.out.at_ 1 rfl) (by rw [infoCircle, List.size_toArray, cirL_len]) (by rw [List.size_toArray, List.size_toArray, cirL_len, cirL_len]) (cir_one _) ?_))
   refine bodyPost_ret (v := .tuple #[.agg (cirL (fun i => if i = 8 then (y0, y1, y2, y3) else (x0, x1, x2, x3))).toArray, .int .i64 0]) ?_ rfl ⟨rfl, HJ.out.below⟩
   exact results_row_tmp rfl _ _ (w.heap.size + 1) 38 _ (0, 0) _ rfl (HJ.out.at_ 1 rfl) Tryz.underlying38 rfl (by rw [infoCircle, List.size_toArray, cirL_len]) rfl
theorem tpart_at (n d : Int) (w : World) (h : lowN n d = n ∧ lowD n d = d) (hd : 0 < d ∧ d ≤ 1000000) (hn : -1000000 ≤ n ∧ n ≤ 1000000) (hr : Right n d) :
  Calls Tryz.prog 63 #[.int .i64 n, .int .i64 d] w fun e w' => e = .returned (.agg #[.int .i64 n, .int .i64 d]) ∧ Below w.heap.size w w' := by
 have := tpart_any n d w hd hn (by rw [h.1, h.2]; exact hr)
 rw [h.1, h.2] at this
 exact this
set_option maxRecDepth 1000000 in
set_option maxHeartbeats 4000000 in
theorem tNamed_equal (w : World) :
  Calls Tryz.prog 31 #[.string ⟨#[101, 113, 117, 97, 108]⟩] w fun e w' => e = .returned (.tuple #[.agg (cirL (temC (1, 12, 0, 1) [0, 1, 2, 3, 4, 5, 6, 7, 8, 9, 10, 11])).toArray, .int .i64 0]) ∧ Below w.heap.size w w' := by
 have HP := Lib.hid (fun W => tpyth_any 1 12 1 12 W (fun W => tpart_at 1 12 W (by decide) (by decide) (by decide) (by unfold Right; decide)))
 have hm0 := (Hp.start w).new 38 (cirL (fun _ => (0, 0, 0, 0)))
 simp only [World.size_alloc, List.nil_append, List.cons_append] at hm0
 have HM0 := Lib.hid hm0
 clear hm0
 go_enter Tryz.func31, Tryz.ntmps31
 go_wp2_with fail
 refine (HP.out _).mono ?_
 rintro e w1 ⟨rfl, hb1⟩
 have HM1 := Lib.hid (HM0.out.step hb1)
 clear hb1
 go_wp2_with fail
 have hT := ttempered_any (1, 12, 0, 1) [0, 1, 2, 3, 4, 5, 6, 7, 8, 9, 10, 11] w1.heap.size (w1.alloc (.cells #[.int .i64 0, .int .i64 1, .int .i64 2, .int .i64 3, .int .i64 4, .int .i64 5, .int .i64 6, .int .i64 7, .int .i64 8, .int .i64 9, .int .i64 10, .int .i64 11] 3)) (heap_alloc_new w1 _) (by decide) (by decide)
 refine hT.mono ?_
 rintro e w2 ⟨rfl, hb2⟩
 have hm2 := (HM1.out.alloc _).step hb2
 have HM2 := Lib.hid hm2
 have HB := Lib.hid (hm2.row 0 rfl (cirL (temC (1, 12, 0, 1) [0, 1, 2, 3, 4, 5, 6, 7, 8, 9, 10, 11])))
 clear hb2 hm2 hT
 go_wp2_with (refine wpList_store_rowTo rfl 38 _ _ rfl rfl (w.heap.size) (cirL (temC (1, 12, 0, 1) [0, 1, 2, 3, 4, 5, 6, 7, 8, 9, 10, 11])).toArray rfl rfl 38 (cirL (fun _ => (0, 0, 0, 0))).toArray (HM2.out.at_ 0 rfl) (by rw [infoCircle, List.size_toArray, cirL_len]) (by rw [List.size_toArray, List.size_toArray, cirL_len, cirL_len]) (cir_one _) ?_)
 refine bodyPost_ret (v := .tuple #[.agg (cirL (temC (1, 12, 0, 1) [0, 1, 2, 3, 4, 5, 6, 7, 8, 9, 10, 11])).toArray, .int .i64 0]) ?_ rfl ⟨rfl, HB.out.below⟩
 exact results_row_tmp rfl _ _ w.heap.size 38 _ (0, 0) _ rfl (HB.out.at_ 0 rfl) Tryz.underlying38 rfl (by rw [infoCircle, List.size_toArray, cirL_len]) rfl
set_option maxRecDepth 1000000 in
set_option maxHeartbeats 4000000 in
theorem tNamed_pythagorean (w : World) :
  Calls Tryz.prog 31 #[.string ⟨#[112, 121, 116, 104, 97, 103, 111, 114, 101, 97, 110]⟩] w fun e w' => e = .returned (.tuple #[.agg (cirL (temC (1, 1, 0, 1) [8])).toArray, .int .i64 0]) ∧ Below w.heap.size w w' := by
 have HP := Lib.hid (fun W => tpyth_any 1 1 1 1 W (fun W => tpart_at 1 1 W (by decide) (by decide) (by decide) (by unfold Right; decide)))
 have hm0 := (Hp.start w).new 38 (cirL (fun _ => (0, 0, 0, 0)))
 simp only [World.size_alloc, List.nil_append, List.cons_append] at hm0
 have HM0 := Lib.hid hm0
 clear hm0
 go_enter Tryz.func31, Tryz.ntmps31
 go_wp2_with fail
 refine (HP.out _).mono ?_
 rintro e w1 ⟨rfl, hb1⟩
 have HM1 := Lib.hid (HM0.out.step hb1)
 clear hb1
 go_wp2_with fail
 have hT := ttempered_any (1, 1, 0, 1) [8] w1.heap.size (w1.alloc (.cells #[.int .i64 8] 3)) (heap_alloc_new w1 _) (by decide) (by decide)
 refine hT.mono ?_
 rintro e w2 ⟨rfl, hb2⟩
 have hm2 := (HM1.out.alloc _).step hb2
 have HM2 := Lib.hid hm2
 have HB := Lib.hid (hm2.row 0 rfl (cirL (temC (1, 1, 0, 1) [8])))
 clear hb2 hm2 hT
 go_wp2_with (refine wpList_store_rowTo rfl 38 _ _ rfl rfl (w.heap.size) (cirL (temC (1, 1, 0, 1) [8])).toArray rfl rfl 38 (cirL (fun _ => (0, 0, 0, 0))).toArray (HM2.out.at_ 0 rfl) (by rw [infoCircle, List.size_toArray, cirL_len]) (by rw [List.size_toArray, List.size_toArray, cirL_len, cirL_len]) (cir_one _) ?_)
 refine bodyPost_ret (v := .tuple #[.agg (cirL (temC (1, 1, 0, 1) [8])).toArray, .int .i64 0]) ?_ rfl ⟨rfl, HB.out.below⟩
 exact results_row_tmp rfl _ _ w.heap.size 38 _ (0, 0) _ rfl (HB.out.at_ 0 rfl) Tryz.underlying38 rfl (by rw [infoCircle, List.size_toArray, cirL_len]) rfl
set_option maxRecDepth 1000000 in
set_option maxHeartbeats 4000000 in
theorem tNamed_werckmeister (w : World) :
  Calls Tryz.prog 31 #[.string ⟨#[119, 101, 114, 99, 107, 109, 101, 105, 115, 116, 101, 114]⟩] w fun e w' => e = .returned (.tuple #[.agg (cirL (temC (1, 4, 0, 1) [0, 1, 2, 5])).toArray, .int .i64 0]) ∧ Below w.heap.size w w' := by
 have HP := Lib.hid (fun W => tpyth_any 1 4 1 4 W (fun W => tpart_at 1 4 W (by decide) (by decide) (by decide) (by unfold Right; decide)))
 have hm0 := (Hp.start w).new 38 (cirL (fun _ => (0, 0, 0, 0)))
 simp only [World.size_alloc, List.nil_append, List.cons_append] at hm0
 have HM0 := Lib.hid hm0
 clear hm0
 go_enter Tryz.func31, Tryz.ntmps31
 go_wp2_with fail
 refine (HP.out _).mono ?_
 rintro e w1 ⟨rfl, hb1⟩
 have HM1 := Lib.hid (HM0.out.step hb1)
 clear hb1
 go_wp2_with fail
 have hT := ttempered_any (1, 4, 0, 1) [0, 1, 2, 5] w1.heap.size (w1.alloc (.cells #[.int .i64 0, .int .i64 1, .int .i64 2, .int .i64 5] 3)) (heap_alloc_new w1 _) (by decide) (by decide)
 refine hT.mono ?_
 rintro e w2 ⟨rfl, hb2⟩
 have hm2 := (HM1.out.alloc _).step hb2
 have HM2 := Lib.hid hm2
 have HB := Lib.hid (hm2.row 0 rfl (cirL (temC (1, 4, 0, 1) [0, 1, 2, 5])))
 clear hb2 hm2 hT
 go_wp2_with (refine wpList_store_rowTo rfl 38 _ _ rfl rfl (w.heap.size) (cirL (temC (1, 4, 0, 1) [0, 1, 2, 5])).toArray rfl rfl 38 (cirL (fun _ => (0, 0, 0, 0))).toArray (HM2.out.at_ 0 rfl) (by rw [infoCircle, List.size_toArray, cirL_len]) (by rw [List.size_toArray, List.size_toArray, cirL_len, cirL_len]) (cir_one _) ?_)
 refine bodyPost_ret (v := .tuple #[.agg (cirL (temC (1, 4, 0, 1) [0, 1, 2, 5])).toArray, .int .i64 0]) ?_ rfl ⟨rfl, HB.out.below⟩
 exact results_row_tmp rfl _ _ w.heap.size 38 _ (0, 0) _ rfl (HB.out.at_ 0 rfl) Tryz.underlying38 rfl (by rw [infoCircle, List.size_toArray, cirL_len]) rfl
set_option maxRecDepth 1000000 in
set_option maxHeartbeats 4000000 in
theorem tNamed_vallotti (w : World) :
  Calls Tryz.prog 31 #[.string ⟨#[118, 97, 108, 108, 111, 116, 116, 105]⟩] w fun e w' => e = .returned (.tuple #[.agg (cirL (temC (1, 6, 0, 1) [0, 1, 2, 3, 4, 11])).toArray, .int .i64 0]) ∧ Below w.heap.size w w' := by
 have HP := Lib.hid (fun W => tpyth_any 1 6 1 6 W (fun W => tpart_at 1 6 W (by decide) (by decide) (by decide) (by unfold Right; decide)))
 have hm0 := (Hp.start w).new 38 (cirL (fun _ => (0, 0, 0, 0)))
 simp only [World.size_alloc, List.nil_append, List.cons_append] at hm0
 have HM0 := Lib.hid hm0
 clear hm0
 go_enter Tryz.func31, Tryz.ntmps31
 go_wp2_with fail
 refine (HP.out _).mono ?_
 rintro e w1 ⟨rfl, hb1⟩
 have HM1 := Lib.hid (HM0.out.step hb1)
 clear hb1
 go_wp2_with fail
 have hT := ttempered_any (1, 6, 0, 1) [0, 1, 2, 3, 4, 11] w1.heap.size (w1.alloc (.cells #[.int .i64 0, .int .i64 1, .int .i64 2, .int .i64 3, .int .i64 4, .int .i64 11] 3)) (heap_alloc_new w1 _) (by decide) (by decide)
 refine hT.mono ?_
 rintro e w2 ⟨rfl, hb2⟩
 have hm2 := (HM1.out.alloc _).step hb2
 have HM2 := Lib.hid hm2
 have HB := Lib.hid (hm2.row 0 rfl (cirL (temC (1, 6, 0, 1) [0, 1, 2, 3, 4, 11])))
 clear hb2 hm2 hT
 go_wp2_with (refine wpList_store_rowTo rfl 38 _ _ rfl rfl (w.heap.size) (cirL (temC (1, 6, 0, 1) [0, 1, 2, 3, 4, 11])).toArray rfl rfl 38 (cirL (fun _ => (0, 0, 0, 0))).toArray (HM2.out.at_ 0 rfl) (by rw [infoCircle, List.size_toArray, cirL_len]) (by rw [List.size_toArray, List.size_toArray, cirL_len, cirL_len]) (cir_one _) ?_)
 refine bodyPost_ret (v := .tuple #[.agg (cirL (temC (1, 6, 0, 1) [0, 1, 2, 3, 4, 11])).toArray, .int .i64 0]) ?_ rfl ⟨rfl, HB.out.below⟩
 exact results_row_tmp rfl _ _ w.heap.size 38 _ (0, 0) _ rfl (HB.out.at_ 0 rfl) Tryz.underlying38 rfl (by rw [infoCircle, List.size_toArray, cirL_len]) rfl
set_option maxRecDepth 1000000 in
set_option maxHeartbeats 4000000 in
theorem tNamed_kirnberger (w : World) :
  Calls Tryz.prog 31 #[.string ⟨#[107, 105, 114, 110, 98, 101, 114, 103, 101, 114]⟩] w fun e w' => e = .returned (.tuple #[.agg (cirL (fun k => if k = 6 then (1, 1, -1, 1) else temC (0, 1, 1, 4) [0, 1, 2, 3] k)).toArray, .int .i64 0]) ∧ Below w.heap.size w w' := by
 have HP := Lib.hid (fun W => tsynt_any 1 4 1 4 W (fun W => tpart_at 1 4 W (by decide) (by decide) (by decide) (by unfold Right; decide)))
 have HP1 := Lib.hid (fun W => tpart_at 1 1 W (by decide) (by decide) (by decide) (by unfold Right; decide))
 have HP2 := Lib.hid (fun W => tpart_at (-1) 1 W (by decide) (by decide) (by decide) (by unfold Right; decide))
 have hm0 := (Hp.start w).new 38 (cirL (fun _ => (0, 0, 0, 0)))
 simp only [World.size_alloc, List.nil_append, List.cons_append] at hm0
 have HM0 := Lib.hid hm0
 clear hm0
 go_enter Tryz.func31, Tryz.ntmps31
 go_wp2_with fail
 refine (HP.out _).mono ?_
 rintro e w1 ⟨rfl, hb1⟩
 have HM1 := Lib.hid (HM0.out.step hb1)
 clear hb1
 go_wp2_with fail
 have hT := ttempered_any (0, 1, 1, 4) [0, 1, 2, 3] w1.heap.size (w1.alloc (.cells #[.int .i64 0, .int .i64 1, .int .i64 2, .int .i64 3] 3)) (heap_alloc_new w1 _) (by decide) (by decide)
 refine hT.mono ?_
 rintro e w2 ⟨rfl, hb2⟩
 have hm2 := ((HM1.out.alloc _).step hb2).new 38 (cirL (fun _ => (0, 0, 0, 0)))
 simp only [List.nil_append, List.cons_append] at hm2
 have HM2 := Lib.hid hm2
 have hm3 := (hm2.row 1 rfl (cirL (temC (0, 1, 1, 4) [0, 1, 2, 3]))).cast (L' := [(w.heap.size, 38, cirL (fun _ => (0, 0, 0, 0))), (w2.heap.size, 38, cirL (temC (0, 1, 1, 4) [0, 1, 2, 3]))]) rfl
 have HM3 := Lib.hid hm3
 clear hb2 hm2 hm3 hT
 go_wp2_with (refine wpList_store_rowTo rfl 38 _ _ rfl rfl (w2.heap.size) (cirL (temC (0, 1, 1, 4) [0, 1, 2, 3])).toArray rfl rfl 38 (cirL (fun _ => (0, 0, 0, 0))).toArray (HM2.out.at_ 1 rfl) (by rw [infoCircle, List.size_toArray, cirL_len]) (by rw [List.size_toArray, List.size_toArray, cirL_len, cirL_len]) (cir_one _) ?_)
 refine (HP1.out _).mono ?_
 rintro e w3 ⟨rfl, hb3⟩
 have HM4 := Lib.hid (HM3.out.step hb3)
 clear hb3
 go_wp2_with fail
 refine (HP2.out _).mono ?_
 rintro e w4 ⟨rfl, hb4⟩
 have hm5 := HM4.out.step hb4
 have q0 := cir_cells (hm5.at_ 1 rfl) (j := 6) (by decide)
 obtain ⟨z0, z1, z2, z3⟩ : w4.cell? ⟨w2.heap.size, 24, none⟩ = some _ ∧ w4.cell? ⟨w2.heap.size, 25, none⟩ = some _ ∧ w4.cell? ⟨w2.heap.size, 26, none⟩ = some _ ∧ w4.cell? ⟨w2.heap.size, 27, none⟩ = some _ := q0
 have g0 := (hm5.at_ 1 rfl).frozen 24
 have g1 := (hm5.at_ 1 rfl).frozen 25
 have g2 := (hm5.at_ 1 rfl).frozen 26
 have g3 := (hm5.at_ 1 rfl).frozen 27
 have hg := (hm5.putT 1 rfl (j := 6) (by decide) (1, 1, -1, 1)).cast (L' := [(w.heap.size, 38, cirL (fun _ => (0, 0, 0, 0))), (w2.heap.size, 38, cirL (fun k => if k = 6 then (1, 1, -1, 1) else temC (0, 1, 1, 4) [0, 1, 2, 3] k))]) rfl
 have HG : Hid (Hp w [(w.heap.size, 38, cirL (fun _ => (0, 0, 0, 0))), (w2.heap.size, 38, cirL (fun k => if k = 6 then (1, 1, -1, 1) else temC (0, 1, 1, 4) [0, 1, 2, 3] k))] ((((w4.setCell ⟨w2.heap.size, 24, none⟩ (.int .i64 1)).setCell ⟨w2.heap.size, 25, none⟩ (.int .i64 1)).setCell ⟨w2.heap.size, 26, none⟩ (.int .i64 (-1))).setCell ⟨w2.heap.size, 27, none⟩ (.int .i64 1))) := Lib.hid hg
 have HB := Lib.hid (HG.out.row 0 rfl (cirL (fun k => if k = 6 then (1, 1, -1, 1) else temC (0, 1, 1, 4) [0, 1, 2, 3] k)))
 clear hb4 hm5 hg
 go_upto_region 17 with fail
 clear z0 z1 z2 z3 g0 g1 g2 g3
 go_wp2_with (first | (refine wpList_load_row rfl 38 _ rfl (w2.heap.size) rfl 38 (cirL (fun k => if k = 6 then (1, 1, -1, 1) else temC (0, 1, 1, 4) [0, 1, 2, 3] k)).toArray (0, 0) _ (HG.out.at_ 1 rfl) Tryz.underlying38 rfl (by rw [infoCircle, List.size_toArray, cirL_len]) ?_) | (refine wpList_store_rowTo rfl 38 _ _ rfl rfl (w.heap.size) (cirL (fun k => if k = 6 then (1, 1, -1, 1) else temC (0, 1, 1, 4) [0, 1, 2, 3] k)).toArray rfl rfl 38 (cirL (fun _ => (0, 0, 0, 0))).toArray (HG.out.at_ 0 rfl) (by rw [infoCircle, List.size_toArray, cirL_len]) (by rw [List.size_toArray, List.size_toArray, cirL_len, cirL_len]) (cir_one _) ?_))
 refine bodyPost_ret (v := .tuple #[.agg (cirL (fun k => if k = 6 then (1, 1, -1, 1) else temC (0, 1, 1, 4) [0, 1, 2, 3] k)).toArray, .int .i64 0]) ?_ rfl ⟨rfl, HB.out.below⟩
 exact results_row_tmp rfl _ _ w.heap.size 38 _ (0, 0) _ rfl (HB.out.at_ 0 rfl) Tryz.underlying38 rfl (by rw [infoCircle, List.size_toArray, cirL_len]) rfl
theorem fmk (a b p q : Int) (h : fMake a b = (p, q, 0)) : fRet (fMake a b) = .tuple #[.agg #[.int .i64 p, .int .i64 q], .int .i64 0] := by rw [h]; rfl
theorem PlnC.of {d p s : Int} (hd : 1 ≤ d ∧ d ≤ 12) (hp : -4 ≤ p ∧ p ≤ 4) (hs : -11 ≤ s ∧ s ≤ 11) : PlnC d (fun _ => p) (fun _ => s) := ⟨hd, fun _ _ => hp, fun _ _ => hs⟩
theorem PlnC.at8 {d p s p' s' : Int} (hd : 1 ≤ d ∧ d ≤ 12) (hp : -4 ≤ p ∧ p ≤ 4) (hs : -11 ≤ s ∧ s ≤ 11) (hp' : -4 ≤ p' ∧ p' ≤ 4) (hs' : -11 ≤ s' ∧ s' ≤ 11) : PlnC d (fun i => if i = 8 then p' else p) (fun i => if i = 8 then s' else s) := ⟨hd, fun i _ => by split <;> assumption, fun i _ => by split <;> assumption⟩
set_option maxRecDepth 1000000 in
set_option maxHeartbeats 4000000 in
theorem tRegular_pl (d p s x0 x1 x2 x3 y0 y1 y2 y3 q0 q1 r0 r1 : Int) (w : World) (hd : 1 ≤ d ∧ d ≤ 12) (hp : -4 ≤ p ∧ p ≤ 4) (hs : -11 ≤ s ∧ s ≤ 11) (hp' : -4 ≤ d - 11 * p ∧ d - 11 * p ≤ 4) (hs' : -11 ≤ -11 * s ∧ -11 * s ≤ 11)
  (e0 : lowN p d = x0) (e1 : lowD p d = x1) (e2 : lowN s d = x2) (e3 : lowD s d = x3) (e4 : lowN (d - 11 * p) d = y0) (e5 : lowD (d - 11 * p) d = y1) (e6 : lowN (-11 * s) d = y2) (e7 : lowD (-11 * s) d = y3)
  (m0 : fMake (x0 * 11) (x1 * 1) = (q0, q1, 0)) (m1 : fMake (x2 * 11) (x3 * 1) = (r0, r1, 0)) (m2 : fMake (1 * q1 - q0 * 1) (1 * q1) = (y0, y1, 0)) (m3 : fMake (0 * r1 - r0 * 1) (1 * r1) = (y2, y3, 0)) (hq : Right q0 q1) (hr : Right r0 r1) :
  Calls Tryz.prog 66 #[.agg #[.int .i64 x0, .int .i64 x1, .int .i64 x2, .int .i64 x3]] w fun e w' => e = .returned (.tuple #[.agg (cirL (fun i => if i = 8 then (y0, y1, y2, y3) else (x0, x1, x2, x3))).toArray, .int .i64 0]) ∧ Below w.heap.size w w' := by
 have hA := PlnC.of hd hp hs
 have hB := PlnC.at8 hd hp hs hp' hs'
 have hx : (fun _ : Nat => (x0, x1, x2, x3)) = cirP d (fun _ => p) (fun _ => s) := by funext i; simp only [cirP, e0, e1, e2, e3]
 have hy : (fun i : Nat => if i = 8 then (y0, y1, y2, y3) else (x0, x1, x2, x3)) = cirP d (fun i => if i = 8 then d - 11 * p else p) (fun i => if i = 8 then -11 * s else s) := by
  funext i
  by_cases h : i = 8
  ·simp [cirP, h, e4, e5, e6, e7]
  ·simp [cirP, h, e0, e1, e2, e3]
 have rx : Right x0 x1 := by rw [← e0, ← e1]; exact t_right_low (by omega) (by omega)
 have rs : Right x2 x3 := by rw [← e2, ← e3]; exact t_right_low (by omega) (by omega)
 have r11 : Right 11 1 := t_right_one (by decide)
 have rr : Right 1 1 := t_right_one (by decide)
 have r0' : Right 0 1 := t_right_one (by decide)
 refine tRegular_gen x0 x1 x2 x3 y0 y1 y2 y3 q0 q1 r0 r1 0 w (by rw [hx]; exact plan_tm hA) (by rw [hy]; exact plan_tm hB) (by rw [hx]; exact ckE_pl hA) (by decide) (by rw [hy]; exact ckE_pl hB) ?_ ?_ ?_ ?_
 ·intro W
  have := fMul_any x0 x1 11 1 W rx r11
  rwa [fmk _ _ _ _ m0] at this
 ·intro W
  have := fMul_any x2 x3 11 1 W rs r11
  rwa [fmk _ _ _ _ m1] at this
 ·intro W
  have := fSub_any 1 1 q0 q1 W rr hq
  rwa [fmk _ _ _ _ m2] at this
 ·intro W
  have := fSub_any 0 1 r0 r1 W r0' hr
  rwa [fmk _ _ _ _ m3] at this
theorem tRegular_mean (w : World) :
  Calls Tryz.prog 66 #[.agg #[.int .i64 0, .int .i64 1, .int .i64 1, .int .i64 4]] w fun e w' => e = .returned (.tuple #[.agg (cirL (fun i => if i = 8 then (1, 1, -11, 4) else (0, 1, 1, 4))).toArray, .int .i64 0]) ∧ Below w.heap.size w w' :=
 tRegular_pl 4 0 1 0 1 1 4 1 1 (-11) 4 0 1 11 4 w (by decide) (by decide) (by decide) (by decide) (by decide) (by decide) (by decide) (by decide) (by decide) (by decide) (by decide) (by decide) (by decide) (by decide) (by decide) (by decide) (by decide) (by unfold Right; decide) (by unfold Right; decide)
set_option maxRecDepth 1000000 in
set_option maxHeartbeats 4000000 in
theorem tNamed_meantone (w : World) :
  Calls Tryz.prog 31 #[.string ⟨#[109, 101, 97, 110, 116, 111, 110, 101]⟩] w fun e w' => e = .returned (.tuple #[.agg (cirL (fun i => if i = 8 then (1, 1, -11, 4) else (0, 1, 1, 4))).toArray, .int .i64 0]) ∧ Below w.heap.size w w' := by
 have HP := Lib.hid (fun W => tsynt_any 1 4 1 4 W (fun W => tpart_at 1 4 W (by decide) (by decide) (by decide) (by unfold Right; decide)))
 have HR := Lib.hid (fun W => tRegular_mean W)
 have hm0 := (Hp.start w).new 38 (cirL (fun _ => (0, 0, 0, 0)))
 simp only [World.size_alloc, List.nil_append, List.cons_append] at hm0
 have HM0 := Lib.hid hm0
 clear hm0
 go_enter Tryz.func31, Tryz.ntmps31
 go_wp2_with fail
 refine (HP.out _).mono ?_
 rintro e w1 ⟨rfl, hb1⟩
 have HM1 := Lib.hid (HM0.out.step hb1)
 clear hb1
 go_wp2_with fail
 refine (HR.out _).mono ?_
 rintro e w2 ⟨rfl, hb2⟩
 have hm2 := HM1.out.step hb2
 have HM2 := Lib.hid hm2
 have HB := Lib.hid (hm2.row 0 rfl (cirL (fun i => if i = 8 then (1, 1, -11, 4) else (0, 1, 1, 4))))
 clear hb2 hm2
 go_wp2_with (refine wpList_store_rowTo rfl 38 _ _ rfl rfl (w.heap.size) (cirL (fun i => if i = 8 then (1, 1, -11, 4) else (0, 1, 1, 4))).toArray rfl rfl 38 (cirL (fun _ => (0, 0, 0, 0))).toArray (HM2.out.at_ 0 rfl) (by rw [infoCircle, List.size_toArray, cirL_len]) (by rw [List.size_toArray, List.size_toArray, cirL_len, cirL_len]) (cir_one _) ?_)
 refine bodyPost_ret (v := .tuple #[.agg (cirL (fun i => if i = 8 then (1, 1, -11, 4) else (0, 1, 1, 4))).toArray, .int .i64 0]) ?_ rfl ⟨rfl, HB.out.below⟩
 exact results_row_tmp rfl _ _ w.heap.size 38 _ (0, 0) _ rfl (HB.out.at_ 0 rfl) Tryz.underlying38 rfl (by rw [infoCircle, List.size_toArray, cirL_len]) rfl
def vP (d : Int) (P S : Nat → Int) (n : Nat) : Int × Int × Int :=
 ((vN d P S (n % 12)).1 + d * ((n / 12 : Nat) : Int), (vN d P S (n % 12)).2.1, (vN d P S (n % 12)).2.2)
def vB (d : Int) (P S : Nat → Int) (m n : Nat) : Int × Int × Int :=
 ((vP d P S n).1 - (vP d P S m).1, (vP d P S n).2.1 - (vP d P S m).2.1, (vP d P S n).2.2 - (vP d P S m).2.2)
def vR (d : Int) (P S : Nat → Int) : Int × Int × Int := ((vS d P S 12).1 - d * 7, (vS d P S 12).2.1, (vS d P S 12).2.2)
section
variable {d : Int} {P S : Nat → Int} (h : PlnC d P S)
include h
theorem pl_d : 1 ≤ d ∧ d ≤ 240 := by have := h.d; omega
theorem vP_bd {n : Nat} (hn : n < 200) : (-2592 ≤ (vP d P S n).1 ∧ (vP d P S n).1 ≤ 2592) ∧ (-1248 ≤ (vP d P S n).2.1 ∧ (vP d P S n).2.1 ≤ 1248) ∧ (-132 ≤ (vP d P S n).2.2 ∧ (vP d P S n).2.2 ≤ 132) := by
 have hb := vN_bd h (n % 12)
 have hd := h.d
 obtain ⟨q, hq⟩ : ∃ q : Nat, q = n / 12 := ⟨_, rfl⟩
 have hq2 : q ≤ 16 := by omega
 have h1 : d * (q : Int) ≤ 12 * 16 := Int.mul_le_mul hd.2 (by omega) (by omega) (by decide)
 have h0 : 0 ≤ d * (q : Int) := Int.mul_nonneg (by omega) (by omega)
 unfold vP
 rw [← hq]
 dsimp only
 omega
theorem vP_Bx {n : Nat} (hn : n < 200) : Bx (vP d P S n).1 (vP d P S n).2.1 (vP d P S n).2.2 := by
 have := vP_bd h hn
 unfold Bx
 omega
theorem vB_Bx {m n : Nat} (hm : m < 200) (hn : n < 200) : Bx (vB d P S m n).1 (vB d P S m n).2.1 (vB d P S m n).2.2 := by
 have := vP_bd h hm
 have := vP_bd h hn
 unfold Bx vB
 dsimp only
 omega
theorem tplace_pl {n : Nat} (hn : n < 200) (w : World) (ht : Tab w) :
  Calls Tryz.prog 100 #[.agg (cirL (cirP d P S)).toArray, .int .i64 (n : Int)] w fun e w' => e = .returned (.tuple #[szD (vP d P S n).1 (vP d P S n).2.1 (vP d P S n).2.2 d, .int .i64 0]) ∧ Below w.heap.size w w' := by
 have hd := pl_d h
 refine tplace_gen (cirP d P S) n (n % 12) (n / 12) _ _ _ _ _ _ _ _ _ _ _ _ _ _ _ _ _ _ w ht (by omega) rfl rfl (fun W hT => tnote_any d P S (n % 12) W hT h (by omega)) (fun W => toctaves_any _ d W hd (by omega)) (fun W => ?_)
 have hp := vP_Bx h hn
 unfold vP at hp
 have hq : -(6000 : Int) ≤ d * ((n / 12 : Nat) : Int) ∧ d * ((n / 12 : Nat) : Int) ≤ 6000 := by
  have hd := h.d
  obtain ⟨q, hq⟩ : ∃ q : Nat, q = n / 12 := ⟨_, rfl⟩
  rw [← hq]
  have h1 : d * (q : Int) ≤ 12 * 16 := Int.mul_le_mul hd.2 (by omega) (by omega) (by decide)
  have h0 : 0 ≤ d * (q : Int) := Int.mul_nonneg (by omega) (by omega)
  omega
 have := tadd_any _ _ _ (d * ((n / 12 : Nat) : Int)) 0 0 d W hd (vN_Bx h (n % 12)) ⟨hq, by decide, by decide⟩ (by rw [Int.add_zero, Int.add_zero]; exact hp)
 simp only [Int.add_zero] at this
 exact this
theorem tbetween_pl {m n : Nat} (hm : m < 200) (hn : n < 200) (w : World) (ht : Tab w) :
  Calls Tryz.prog 69 #[.agg (cirL (cirP d P S)).toArray, .int .i64 (m : Int), .int .i64 (n : Int)] w fun e w' => e = .returned (.tuple #[szD (vB d P S m n).1 (vB d P S m n).2.1 (vB d P S m n).2.2 d, .int .i64 0]) ∧ Below w.heap.size w w' :=
 tbetween_gen (cirP d P S) m n _ _ _ _ _ _ _ _ _ _ _ _ _ _ _ _ _ _ w ht (fun W hT => tplace_pl h hm W hT) (fun W hT => tplace_pl h hn W hT)
  (fun W => tsub_any _ _ _ _ _ _ d W (pl_d h) (vP_Bx h hn) (vP_Bx h hm) (vB_Bx h hm hn))
end
abbrev mnP : Nat → Int := fun i => if i = 8 then 4 else 0
abbrev mnS : Nat → Int := fun i => if i = 8 then -11 else 1
structure Chg (g : Nat) (w w' : World) : Prop where
 os : w'.os = w.os
 tape : w'.tape = w.tape
 output : w'.output = w.output
 size : w.heap.size ≤ w'.heap.size
 block : ∀ k, k < w.heap.size → k ≠ g → w'.heap[k]? = w.heap[k]?
theorem Hp.chg {w W W' : World} {L : List (Nat × TypeId × List Value)} (h : Hp w L W) (i : Nat) {g : Nat} {t : TypeId} {cs cs' : List Value} (e : L[i]? = some (g, t, cs)) (hc : Chg g W W') (hs : Blk W' g t cs') : Hp w (L.set i (g, t, cs')) W' := by
 have hge := h.ge i e
 have hb : Below w.heap.size w W' := ⟨hc.os.trans h.below.os, hc.tape.trans h.below.tape, hc.output.trans h.below.output, Nat.le_trans h.below.size hc.size, fun k hk => (hc.block k (by have := h.below.size; omega) (by omega)).trans (h.below.block k hk)⟩
 have hi : i < L.length := by
  rcases Nat.lt_or_ge i L.length with h' | h'
  ·exact h'
  ·rw [List.getElem?_eq_none h'] at e; cases e
 have hg : L[i] = (g, t, cs) := by rw [List.getElem?_eq_getElem hi] at e; exact Option.some.inj e
 have hap := List.pairwise_iff_getElem.1 h.apart
 refine ⟨hb, fun p hp => ?_, ?_⟩
 ·obtain ⟨j, hj, rfl⟩ := List.getElem_of_mem hp
  rw [List.length_set] at hj
  by_cases hji : i = j
  ·subst hji
   rw [List.getElem_set_self]
   exact ⟨hs, hge⟩
  ·rw [List.getElem_set_ne hji]
   obtain ⟨h1, h2⟩ := h.blk L[j] (List.getElem_mem _)
   refine ⟨(hc.block _ h1.lt ?_).trans h1, h2⟩
   show L[j].1 ≠ g
   rcases Nat.lt_or_gt_of_ne hji with hlt | hlt
   ·have := hap i j hi hj hlt
    rw [hg] at this
    exact this.symm
   ·have := hap j i hj hi hlt
    rw [hg] at this
    exact this
 ·refine List.pairwise_iff_getElem.2 fun a b ha hb' hab => ?_
  rw [List.length_set] at ha hb'
  have hap2 := hap a b ha hb' hab
  have key : ∀ k (hk : k < L.length), ((L.set i (g, t, cs'))[k]'(by rw [List.length_set]; exact hk)).1 = L[k].1 := fun k hk => by
   rw [List.getElem_set]
   split
   ·rename_i e2
    subst e2
    rw [hg]
   ·rfl
  rw [key a ha, key b hb']
  exact hap2
set_option maxRecDepth 100000 in
set_option maxHeartbeats 2000000 in
theorem lpart_any (n d x y : Int) (w : World) (hp : ∀ W, Calls Tryz.prog 77 #[.int .i64 n, .int .i64 d] W fun e W' => e = .returned (.agg #[.int .i64 x, .int .i64 y]) ∧ Below W.heap.size W W') :
  Calls Tryz.prog 40 #[.int .i64 n, .int .i64 d] w fun e w' => e = .returned (.agg #[.int .i64 x, .int .i64 y]) ∧ Below w.heap.size w w' := by
 have HP := Lib.hid hp
 clear hp
 have hm0 := (Hp.start w).new 34 [.int .i64 0, .int .i64 0]
 simp only [List.nil_append] at hm0
 have HM0 := Lib.hid hm0
 clear hm0
 go_enter Tryz.func40, Tryz.ntmps40
 go_wp2_with fail
 refine (HP.out _).mono ?_
 rintro e w1 ⟨rfl, hb1⟩
 have hm1 := HM0.out.step hb1
 have z0 := (hm1.at_ 0 rfl).cell 0
 have z1 := (hm1.at_ 0 rfl).cell 1
 simp only [List.getElem?_cons_succ, List.getElem?_cons_zero] at z0 z1
 have f0 := (hm1.at_ 0 rfl).frozen 0
 have f1 := (hm1.at_ 0 rfl).frozen 1
 have HB := Lib.hid (hm1.put2 0 rfl (.int .i64 x) (.int .i64 y)).below
 clear hb1 hm1
 go_wp2
 exact bodyPost_ret (v := .agg #[.int .i64 x, .int .i64 y]) (by simp [results, Tryz.results40, go_sem, z0, z1, f0, f1]) rfl ⟨rfl, HB.out⟩
set_option maxRecDepth 1000000 in
set_option maxHeartbeats 4000000 in
theorem same12_any (x0 x1 x2 x3 : Int) (w : World) :
  Calls Tryz.prog 75 #[.agg #[.int .i64 x0, .int .i64 x1], .agg #[.int .i64 x2, .int .i64 x3]] w fun e w' => e = .returned (.agg (cirL (fun _ => (x0, x1, x2, x3))).toArray) ∧ Below w.heap.size w w' := by
 have hm0 := ((((Hp.start w).new 34 [.int .i64 x0, .int .i64 x1]).new 34 [.int .i64 x2, .int .i64 x3]).new 38 (cirL (fun _ => (0, 0, 0, 0)))).new 38 (cirL (fun _ => (0, 0, 0, 0)))
 simp only [World.size_alloc, List.nil_append, List.cons_append] at hm0
 have HM0 := Lib.hid hm0
 clear hm0
 go_enter Tryz.func75, Tryz.ntmps75
 go_wp2_with fail
 go_loopw [7] (fun v W => ∃ j : Nat, v = .int .i64 (j : Int) ∧ j ≤ 12 ∧ Hp w [(w.heap.size, 34, [.int .i64 x0, .int .i64 x1]), (w.heap.size + 1, 34, [.int .i64 x2, .int .i64 x3]), (w.heap.size + 1 + 1, 38, cirL (fun _ => (0, 0, 0, 0))), (w.heap.size + 1 + 1 + 1, 38, cirL (fun i => if i < j then (x0, x1, x2, x3) else (0, 0, 0, 0)))] W) (fun v _ => 12 - (intOf v).toNat)
 case atStart => exact ⟨0, rfl, by omega, HM0.out⟩
 case round =>
  obtain ⟨j, rfl, hj, hm⟩ := hrel
  by_cases hjl : j < 12
  ·have k0 : wr.cell? ⟨w.heap.size, 0, none⟩ = some (.int .i64 x0) := (hm.at_ 0 rfl).cell 0
   have k1 : wr.cell? ⟨w.heap.size, 1, none⟩ = some (.int .i64 x1) := (hm.at_ 0 rfl).cell 1
   have k2 : wr.cell? ⟨w.heap.size + 1, 0, none⟩ = some (.int .i64 x2) := (hm.at_ 1 rfl).cell 0
   have k3 : wr.cell? ⟨w.heap.size + 1, 1, none⟩ = some (.int .i64 x3) := (hm.at_ 1 rfl).cell 1
   obtain ⟨z0, z1, z2, z3⟩ := cir_cells (hm.at_ 3 rfl) hjl
   have f0 := (hm.at_ 3 rfl).frozen (j * 4)
   have f1 := (hm.at_ 3 rfl).frozen (j * 4 + 1)
   have f2 := (hm.at_ 3 rfl).frozen (j * 4 + 2)
   have f3 := (hm.at_ 3 rfl).frozen (j * 4 + 3)
   have HRL := Lib.hid ((hm.putT 3 rfl hjl (x0, x1, x2, x3)).cast (L' := [(w.heap.size, 34, [.int .i64 x0, .int .i64 x1]), (w.heap.size + 1, 34, [.int .i64 x2, .int .i64 x3]), (w.heap.size + 1 + 1, 38, cirL (fun _ => (0, 0, 0, 0))), (w.heap.size + 1 + 1 + 1, 38, cirL (fun i => if i < j + 1 then (x0, x1, x2, x3) else (0, 0, 0, 0)))]) (by
    have e := cirL_ext (C := fun k => if k = j then (x0, x1, x2, x3) else if k < j then (x0, x1, x2, x3) else (0, 0, 0, 0)) (C' := fun i => if i < j + 1 then (x0, x1, x2, x3) else (0, 0, 0, 0)) (fun i _ => by
     by_cases a : i = j
     ·simp [a]
     ·by_cases b : i < j
      ·simp [a, b, show i < j + 1 by omega]
      ·simp [a, b, show ¬ i < j + 1 by omega])
    rw [← e]
    rfl))
   clear hm
   go_wp2
   go_roundw
   case rel => exact ⟨j + 1, rfl, by omega, HRL.out⟩
   case measure => simp [intOf]; omega
  ·obtain rfl : j = 12 := by omega
   have hm1 := hm.cast (L' := [(w.heap.size, 34, [.int .i64 x0, .int .i64 x1]), (w.heap.size + 1, 34, [.int .i64 x2, .int .i64 x3]), (w.heap.size + 1 + 1, 38, cirL (fun _ => (0, 0, 0, 0))), (w.heap.size + 1 + 1 + 1, 38, cirL (fun _ => (x0, x1, x2, x3)))]) (by
    rw [cirL_ext (C := fun i => if i < 12 then (x0, x1, x2, x3) else (0, 0, 0, 0)) (C' := (fun _ => (x0, x1, x2, x3))) (fun i hi => by simp [hi])])
   have HA := Lib.hid hm1
   have HJ := Lib.hid (hm1.row 2 rfl (cirL (fun _ => (x0, x1, x2, x3))))
   clear hm hm1
   go_wp2_with (first | refine wpList_load_row rfl 38 _ rfl (w.heap.size + 1 + 1 + 1) rfl 38 (cirL (fun _ => (x0, x1, x2, x3))).toArray (0, 0) _ (HA.out.at_ 3 rfl) Tryz.underlying38 rfl (by rw [infoCircle, List.size_toArray, cirL_len]) ?_ | refine wpList_store_rowTo rfl 38 _ _ rfl rfl (w.heap.size + 1 + 1) (cirL (fun _ => (x0, x1, x2, x3))).toArray rfl rfl 38 (cirL (fun _ => (0, 0, 0, 0))).toArray (HA.out.at_ 2 rfl) (by rw [infoCircle, List.size_toArray, cirL_len]) (by rw [List.size_toArray, List.size_toArray, cirL_len, cirL_len]) (cir_one _) ?_)
   refine bodyPost_ret (v := .agg (cirL (fun _ => (x0, x1, x2, x3))).toArray) ?_ rfl ⟨rfl, HJ.out.below⟩
   exact results_cell_row rfl _ _ (w.heap.size + 1 + 1) 38 _ (0, 0) _ rfl (HJ.out.at_ 2 rfl) Tryz.underlying38 rfl (by rw [infoCircle, List.size_toArray, cirL_len])
def somC (C : Nat → Tm) (x : Tm) (is : List Nat) (i : Nat) : Tm := if i ∈ is then x else C i
theorem Chg.set {g : Nat} {w w' : World} (h : Chg g w w') (o : Nat) (v : Value) : Chg g w (w'.setCell ⟨g, o, none⟩ v) :=
 ⟨h.os, h.tape, h.output, by simpa using h.size, fun k hk hkg => (Below.heap_setCell w' ⟨g, o, none⟩ v k hkg).trans (h.block k hk hkg)⟩
theorem Blk.putT {W : World} {g : Nat} {t : TypeId} {C : Nat → Tm} (h : Blk W g t (cirL C)) {j : Nat} (hj : j < 12) (x : Tm) :
  Blk ((((W.setCell ⟨g, j * 4, none⟩ (.int .i64 x.1)).setCell ⟨g, j * 4 + 1, none⟩ (.int .i64 x.2.1)).setCell ⟨g, j * 4 + 2, none⟩ (.int .i64 x.2.2.1)).setCell ⟨g, j * 4 + 3, none⟩ (.int .i64 x.2.2.2)) g t (cirL (fun k => if k = j then x else C k)) := by
 have := setCells_heap (tmC x) (cirL C) (j * 4) W g t h (by rw [cirL_len]; show j * 4 + 4 ≤ 48; omega)
 rw [cirL_put C x hj] at this
 exact this
set_option maxRecDepth 1000000 in
set_option maxHeartbeats 4000000 in
theorem lsome_any (x : Tm) (is : List Nat) (C : Nat → Tm) (p g : Nat) (w : World) (hp : Blk w p 38 (cirL C)) (hg : Blk w g 3 (is.map fun i : Nat => .int .i64 (i : Int))) (his : ∀ i ∈ is, i < 12) (hl : is.length ≤ 12) :
  Calls Tryz.prog 76 #[.agg (tmC x).toArray, .slice (some ⟨g, 0, none⟩) is.length is.length, .pointer (some ⟨p, 0, none⟩)] w fun e w' => e = .returned (.tuple #[]) ∧ Chg p w w' ∧ Blk w' p 38 (cirL (somC C x is)) := by
 have hpg : p ≠ g := by
  rintro rfl
  unfold Blk at hp hg
  rw [hp] at hg
  injection hg with hg
  injection hg with _ h2
  exact absurd h2 (by decide)
 go_enter Tryz.func76, Tryz.ntmps76
 have hc0 : Chg p w (w.alloc (.cells (tmC x).toArray 36)) := ⟨rfl, rfl, rfl, by simp, fun k hk _ => Below.heap_alloc w _ k hk⟩
 have hp0 := hp.alloc (.cells (tmC x).toArray 36)
 have hb0 : Blk (w.alloc (.cells (tmC x).toArray 36)) w.heap.size 36 (tmC x) := heap_alloc_new w _
 have HC0 := Lib.hid hc0
 have HP0 := Lib.hid hp0
 have HB0 := Lib.hid hb0
 have hpl := hp.lt
 have hgl := hg.lt
 have HG := Lib.hid hg
 clear hc0 hp0 hb0 hp hg
 go_wp2_with fail
 go_loopw [9] (fun v W => ∃ j : Nat, v = .int .i64 (j : Int) ∧ j ≤ is.length ∧ Chg p w W ∧ Blk W p 38 (cirL (somC C x (is.take j))) ∧ Blk W w.heap.size 36 (tmC x)) (fun v _ => is.length - (intOf v).toNat)
 case atStart => exact ⟨0, rfl, by omega, HC0.out, HP0.out, HB0.out⟩
 case round =>
  obtain ⟨j, rfl, hj, hc, hp, hb⟩ := hrel
  by_cases hjs : j < is.length
  ·obtain ⟨k, hk⟩ : ∃ k, k = is[j] := ⟨_, rfl⟩
   have hk12 : k < 12 := by rw [hk]; exact his _ (List.getElem_mem _)
   have hjn : (j : Int) < (is.length : Int) := by omega
   have hk0 : (0 : Int) ≤ (k : Int) := by omega
   have hk1 : (k : Int) < 12 := by omega
   have q0 : wr.cell? ⟨g, j, none⟩ = some (.int .i64 (k : Int)) := by
    have hg2 : Blk wr g 3 (is.map fun i : Nat => .int .i64 (i : Int)) := (hc.block g hgl (Ne.symm hpg)).trans HG.out
    rw [hg2.cell, hk]; simp [hjs]
   have x0 : wr.cell? ⟨w.heap.size, 0, none⟩ = some (.int .i64 x.1) := hb.cell 0
   have x1 : wr.cell? ⟨w.heap.size, 1, none⟩ = some (.int .i64 x.2.1) := hb.cell 1
   have x2 : wr.cell? ⟨w.heap.size, 2, none⟩ = some (.int .i64 x.2.2.1) := hb.cell 2
   have x3 : wr.cell? ⟨w.heap.size, 3, none⟩ = some (.int .i64 x.2.2.2) := hb.cell 3
   obtain ⟨z0, z1, z2, z3⟩ := cir_cells hp hk12
   have f0 := hp.frozen (k * 4)
   have f1 := hp.frozen (k * 4 + 1)
   have f2 := hp.frozen (k * 4 + 2)
   have f3 := hp.frozen (k * 4 + 3)
   have hne : w.heap.size ≠ p := by omega
   have HR1 := Lib.hid ((((hc.set (k * 4) (.int .i64 x.1)).set (k * 4 + 1) (.int .i64 x.2.1)).set (k * 4 + 2) (.int .i64 x.2.2.1)).set (k * 4 + 3) (.int .i64 x.2.2.2))
   have hp2 := hp.putT hk12 x
   rw [cirL_ext (C := fun i => if i = k then x else somC C x (is.take j) i) (C' := somC C x (is.take (j + 1))) (fun i _ => by
    unfold somC
    rw [List.take_add_one, List.getElem?_eq_getElem hjs, ← hk]
    by_cases a : i = k
    ·simp [a]
    ·simp [a])] at hp2
   have HR2 := Lib.hid hp2
   have HR3 := Lib.hid ((((hb.far (p := ⟨p, k * 4, none⟩) hne (.int .i64 x.1)).far (p := ⟨p, k * 4 + 1, none⟩) hne (.int .i64 x.2.1)).far (p := ⟨p, k * 4 + 2, none⟩) hne (.int .i64 x.2.2.1)).far (p := ⟨p, k * 4 + 3, none⟩) hne (.int .i64 x.2.2.2))
   clear hc hp hb hk hp2
   go_wp2
   go_roundw
   case rel => exact ⟨j + 1, rfl, by omega, HR1.out, HR2.out, HR3.out⟩
   case measure => simp [intOf]; omega
  ·obtain rfl : j = is.length := by omega
   rw [List.take_length] at hp
   have HR := Lib.hid (And.intro hc hp)
   clear hc hp hb
   go_wp2
   exact bodyPost_end (v := .tuple #[]) (results_none rfl _ _ _) rfl ⟨rfl, HR.out.1, HR.out.2⟩
end Go.Proofs.YtendjepcjmfmfaaGreatDoor
