/- Part 34 of 47 of the proof of the law: contracts of the functions that it reaches, and plain facts. Conditions: those that each contract names. -/
import Derived.Test.YtendjepcjmfmfaaGreatDoorOrdB33
import Derived.Test.YtendjepcjmfmfaaGreatDoorOrdB06
import Derived.RegionTactic
import Derived.Deep.DeepCutAuto
namespace Go.Proofs.YtendjepcjmfmfaaGreatDoor
open Go.RowKit
theorem lpart_at (n d x y : Int) (w : World) (h : lowN n d = x ∧ lowD n d = y) (hd : 0 < d ∧ d ≤ 1000000) (hn : -1000000 ≤ n ∧ n ≤ 1000000) :
  Calls Tryz.prog 40 #[.int .i64 n, .int .i64 d] w fun e w' => e = .returned (.agg #[.int .i64 x, .int .i64 y]) ∧ Below w.heap.size w w' :=
 lpart_any n d x y w fun W => by
  have := lowest_any n d W (by omega) (by omega) hd.1 (by omega)
  rwa [h.1, h.2] at this
theorem step_store_row {P : Program} {ops : Array Oper} {o : Oper} {a : Act} {w : World} {K : Act → World → Prop} {Q : Exit → Act → World → Prop} {E : Prop} (hgd : o.guard = none) (ty : TypeId) (x y : Operand) (ho : o.op = .store ty x y)
  (hd : o.dst = none) (g : Nat) (cells : Array Value) (hx : a.eval x = .pointer (some ⟨g, 0, none⟩)) (hy : a.eval y = .agg cells)
  (t : TypeId) (old : Array Value) (hg : w.heap[g]? = some (.cells old t (0, 0))) (hi : (P.info? ty).map (·.size) = some cells.size)
  (hold : old.size = cells.size) (h1 : cells.all (·.oneCell') = true)
  (h : K a (w.setRow g cells)) : if Region.wanted o (yielded ops a.tmps) = true then Oper.wp P o a w K Q else E := by
 have hw : Region.wanted o (yielded ops a.tmps) = true := by simp [Region.wanted, hgd]
 rw [if_pos hw]
 exact wp_store_row ty x y ho g cells hx hy t old hg hi hold h1 (by rw [hd]; exact h)
theorem BxP.chg {w W W' : World} {A : List (Nat × TypeId × List Value)} {base : Nat} {t : TypeId} {zs ns : List Value} {u : Bool} {g : Nat} (h : BxP w A base t zs ns u false g W) (i : Nat) {gi : Nat} {ti : TypeId} {cs cs' : List Value} (e : A[i]? = some (gi, ti, cs)) (hc : Chg gi W W') (hs : Blk W' gi ti cs') :
  BxP w (A.set i (gi, ti, cs')) base t zs ns u false g W' := by
 have hgi : gi < base := h.lo _ (List.mem_of_getElem? e)
 refine ⟨h.hp.chg i e hc hs, Nat.le_trans h.sz hc.size, fun p hp => ?_, h.gb, fun e1 e2 => ?_, fun _ e2 => by cases e2⟩
 ·rcases List.mem_or_eq_of_mem_set hp with hp | rfl
  ·exact h.lo p hp
  ·exact hgi
 ·have hb := h.b e1 e2
  exact (hc.block g hb.lt (by have := h.gb e1; omega)).trans hb
set_option maxRecDepth 1000000 in
set_option maxHeartbeats 4000000 in
theorem lnamed_equal (w : World) :
  Calls Tryz.prog 38 #[.string ⟨#[101, 113, 117, 97, 108]⟩] w fun e w' => e = .returned (.tuple #[.agg (cirL (fun _ => (1, 12, 0, 1))).toArray, .bool true]) ∧ Below w.heap.size w w' := by
 have HP0 := Lib.hid (fun W => lpart_at 0 1 0 1 W (by decide) (by decide) (by decide))
 have HS0 := Lib.hid (fun W => same12_any 0 1 0 1 W)
 have HP1 := Lib.hid (fun W => lpart_at 1 12 1 12 W (by decide) (by decide) (by decide))
 have HS1 := Lib.hid (fun W => same12_any 1 12 0 1 W)
 have hm0 := (Hp.start w).new 38 (cirL (fun _ => (0, 0, 0, 0)))
 simp only [List.nil_append] at hm0
 have HM0 := Lib.hid hm0
 clear hm0
 go_enter Tryz.func38, Tryz.ntmps38
 go_wp2_with fail
 refine (HP0.out _).mono ?_
 rintro e w1 ⟨rfl, hb1⟩
 have hm1 := (HM0.out.step hb1).new 34 [.int .i64 0, .int .i64 1]
 simp only [List.nil_append, List.cons_append] at hm1
 have HM1 := Lib.hid hm1
 have x0 := (hm1.at_ 1 rfl).cell 0
 have x1 := (hm1.at_ 1 rfl).cell 1
 simp only [List.getElem?_cons_succ, List.getElem?_cons_zero] at x0 x1
 clear hb1 hm1
 go_wp2_with fail
 refine (HS0.out _).mono ?_
 rintro e w2 ⟨rfl, hb2⟩
 have hm2 := (HM1.out.step hb2).new 38 (cirL (fun _ => (0, 0, 0, 0)))
 simp only [List.nil_append, List.cons_append] at hm2
 have HM2 := Lib.hid hm2
 have hm3 := (hm2.row 2 rfl (cirL (fun _ => (0, 1, 0, 1)))).cast (L' := [(w.heap.size, 38, cirL (fun _ => (0, 0, 0, 0))), (w1.heap.size, 34, [.int .i64 0, .int .i64 1]), (w2.heap.size, 38, cirL (fun _ => (0, 1, 0, 1)))]) rfl
 have HM3 := Lib.hid hm3
 clear hb2 hm2 hm3 x0 x1
 go_upto_region 3 with (refine wpList_store_rowTo rfl 38 _ _ rfl rfl (w2.heap.size) (cirL (fun _ => (0, 1, 0, 1))).toArray rfl rfl 38 (cirL (fun _ => (0, 0, 0, 0))).toArray (HM2.out.at_ 2 rfl) (by rw [infoCircle, List.size_toArray, cirL_len]) (by rw [List.size_toArray, List.size_toArray, cirL_len, cirL_len]) (cir_one _) ?_)
 go_upto_region 7 with fail
 refine wp_regionJ 4 #[false, false, false, false] (fun l a W => ∃ (m0 m1 m2 m3 : Bool), l = #[m0, m1, m2, m3] ∧ a = ({ tmps := #[Value.string { data := #[101, 113, 117, 97, 108] }, undef, Value.pointer (some { block := w.heap.size, off := 0 }), Value.bool false, Value.pointer (some { block := w1.heap.size, off := 0 }), Value.pointer (some { block := w2.heap.size, off := 0 }), Value.func (Fn.func 76) #[] #[Value.pointer (some { block := w2.heap.size, off := 0 })], Value.agg #[Value.int IntKind.i64 0, Value.int IntKind.i64 1], Value.agg #[Value.int IntKind.i64 0, Value.int IntKind.i64 1], Value.agg #[Value.int IntKind.i64 0, Value.int IntKind.i64 1], Value.agg (cirL fun x => (0, 1, 0, 1)).toArray, Value.func (Fn.func 76) #[] #[Value.pointer (some { block := w2.heap.size, off := 0 })], Value.string { data := #[101, 113, 117, 97, 108] }, undef, Value.bool true, Value.bool true, cwX m0 (.agg #[.int .i64 1, .int .i64 12]) (undef), cwX m1 (.agg #[.int .i64 0, .int .i64 1]) (undef), cwX m2 (.agg (cirL (fun _ => (1, 12, 0, 1))).toArray) (undef), undef, undef, undef, undef, undef, undef, undef, undef, undef, undef, undef, undef, undef, undef, undef, undef, undef, undef, undef, undef, undef, undef, undef, undef, undef, undef, undef, undef, undef, undef, undef, undef, undef, undef, undef, undef, undef, undef, undef, undef, undef, undef, undef, undef, undef, undef, undef, undef, undef, undef], defers := [] } : Act) ∧ (True) ∧ Hp w [(w.heap.size, 38, cirL (fun _ => (0, 0, 0, 0))), (w1.heap.size, 34, [.int .i64 0, .int .i64 1]), (w2.heap.size, 38, cirL (bif m3 then (fun _ => (1, 12, 0, 1)) else (fun _ => (0, 1, 0, 1))))] W) (by kernel_rfl) (by kernel_rfl) (by kernel_rfl) (by kernel_rfl) ?_ ?_ ?_ ?_
 ·rintro l a W ⟨m0, m1, m2, m3, rfl, _⟩
  rfl
 ·exact ⟨false, false, false, false, rfl, rfl, trivial, HM3.out.drew⟩
 ·rintro l a W i o ⟨m0, m1, m2, m3, rfl, rfl, hi0, hm⟩ ho hun hall K hK
  have hi : i < 4 := (Array.getElem?_eq_some_iff.1 ho).1
  have HM := Lib.hid hm
  have HI := Lib.hid hi0
  clear hm hi0
  rcases (show i = 0 ∨ i = 1 ∨ i = 2 ∨ i = 3 by omega) with rfl | rfl | rfl | rfl
  ·cases ho
   simp at hun; subst hun
   clear hall hi
   go_simp
   refine (HP1.out _).mono ?_
   rintro e W' ⟨rfl, hb⟩
   exact hK.out _ _ ⟨true, m1, m2, m3, rfl, rfl, trivial, HM.out.step hb⟩
  ·cases ho
   simp at hun; subst hun
   clear hall hi
   have x0 : W.cell? ⟨w1.heap.size, 0, none⟩ = some (.int .i64 0) := (HM.out.at_ 1 rfl).cell 0
   have x1 : W.cell? ⟨w1.heap.size, 1, none⟩ = some (.int .i64 1) := (HM.out.at_ 1 rfl).cell 1
   go_simp
   exact hK.out _ _ ⟨m0, true, m2, m3, rfl, rfl, trivial, HM.out⟩
  ·cases ho
   cases (getBX hall 0 rfl : m0 = true)
   cases (getBX hall 1 rfl : m1 = true)
   simp at hun; subst hun
   clear hall hi
   go_simp
   refine (HS1.out _).mono ?_
   rintro e W' ⟨rfl, hb⟩
   exact hK.out _ _ ⟨true, true, true, m3, rfl, rfl, trivial, HM.out.step hb⟩
  ·cases ho
   cases (getBX hall 2 rfl : m2 = true)
   simp at hun; subst hun
   clear hall hi
   have HN := Lib.hid (HM.out.row 2 rfl (cirL (fun _ => (1, 12, 0, 1))))
   refine step_store_row rfl 38 _ _ rfl rfl w2.heap.size (cirL (fun _ => (1, 12, 0, 1))).toArray rfl rfl 38 (cirL (fun _ => (0, 1, 0, 1))).toArray (HM.out.at_ 2 rfl) (by rw [infoCircle, List.size_toArray, cirL_len]) (by rw [List.size_toArray, List.size_toArray, cirL_len, cirL_len]) (cir_one _) ?_
   exact hK.out _ _ ⟨m0, m1, true, true, rfl, rfl, trivial, HN.out⟩
 ·rintro l a W ⟨m0, m1, m2, m3, rfl, rfl, _, hm⟩ hall
  cases (hall 0 (by decide) : m0 = true)
  cases (hall 1 (by decide) : m1 = true)
  cases (hall 2 (by decide) : m2 = true)
  cases (hall 3 (by decide) : m3 = true)
  clear hall
  have HA0 : Hid (Hp w [(w.heap.size, 38, cirL (fun _ => (0, 0, 0, 0))), (w1.heap.size, 34, [.int .i64 0, .int .i64 1]), (w2.heap.size, 38, cirL (fun _ => (1, 12, 0, 1)))] _) := Lib.hid hm
  clear hm
  dsimp only [cwX, cond_true]
  have HJ := Lib.hid (HA0.out.row 0 rfl (cirL (fun _ => (1, 12, 0, 1))))
  go_wp2_with (first | (refine wpList_load_row rfl 38 _ rfl (w2.heap.size) rfl 38 (cirL (fun _ => (1, 12, 0, 1))).toArray (0, 0) _ (HA0.out.at_ 2 rfl) Tryz.underlying38 rfl (by rw [infoCircle, List.size_toArray, cirL_len]) ?_) | (refine wpList_store_rowTo rfl 38 _ _ rfl rfl (w.heap.size) (cirL (fun _ => (1, 12, 0, 1))).toArray rfl rfl 38 (cirL (fun _ => (0, 0, 0, 0))).toArray (HA0.out.at_ 0 rfl) (by rw [infoCircle, List.size_toArray, cirL_len]) (by rw [List.size_toArray, List.size_toArray, cirL_len, cirL_len]) (cir_one _) ?_))
  refine bodyPost_ret (v := .tuple #[.agg (cirL (fun _ => (1, 12, 0, 1))).toArray, .bool true]) ?_ rfl ⟨rfl, HJ.out.below⟩
  exact results_row_tmp rfl _ _ w.heap.size 38 _ (0, 0) _ rfl (HJ.out.at_ 0 rfl) Tryz.underlying38 rfl (by rw [infoCircle, List.size_toArray, cirL_len]) rfl
set_option maxRecDepth 1000000 in
set_option maxHeartbeats 4000000 in
theorem lnamed_pythagorean (w : World) :
  Calls Tryz.prog 38 #[.string ⟨#[112, 121, 116, 104, 97, 103, 111, 114, 101, 97, 110]⟩] w fun e w' => e = .returned (.tuple #[.agg (cirL (somC (fun _ => (0, 1, 0, 1)) (1, 1, 0, 1) [8])).toArray, .bool true]) ∧ Below w.heap.size w w' := by
 have HP0 := Lib.hid (fun W => lpart_at 0 1 0 1 W (by decide) (by decide) (by decide))
 have HS0 := Lib.hid (fun W => same12_any 0 1 0 1 W)
 have HP1 := Lib.hid (fun W => lpart_at 1 1 1 1 W (by decide) (by decide) (by decide))
 have hm0 := (Hp.start w).new 38 (cirL (fun _ => (0, 0, 0, 0)))
 simp only [List.nil_append] at hm0
 have HM0 := Lib.hid hm0
 clear hm0
 go_enter Tryz.func38, Tryz.ntmps38
 go_wp2_with fail
 refine (HP0.out _).mono ?_
 rintro e w1 ⟨rfl, hb1⟩
 have hm1 := (HM0.out.step hb1).new 34 [.int .i64 0, .int .i64 1]
 simp only [List.nil_append, List.cons_append] at hm1
 have HM1 := Lib.hid hm1
 have x0 := (hm1.at_ 1 rfl).cell 0
 have x1 := (hm1.at_ 1 rfl).cell 1
 simp only [List.getElem?_cons_succ, List.getElem?_cons_zero] at x0 x1
 clear hb1 hm1
 go_wp2_with fail
 refine (HS0.out _).mono ?_
 rintro e w2 ⟨rfl, hb2⟩
 have hm2 := (HM1.out.step hb2).new 38 (cirL (fun _ => (0, 0, 0, 0)))
 simp only [List.nil_append, List.cons_append] at hm2
 have HM2 := Lib.hid hm2
 have hm3 := (hm2.row 2 rfl (cirL (fun _ => (0, 1, 0, 1)))).cast (L' := [(w.heap.size, 38, cirL (fun _ => (0, 0, 0, 0))), (w1.heap.size, 34, [.int .i64 0, .int .i64 1]), (w2.heap.size, 38, cirL (fun _ => (0, 1, 0, 1)))]) rfl
 have HM3 := Lib.hid hm3
 clear hb2 hm2 hm3 x0 x1
 go_upto_region 3 with (refine wpList_store_rowTo rfl 38 _ _ rfl rfl (w2.heap.size) (cirL (fun _ => (0, 1, 0, 1))).toArray rfl rfl 38 (cirL (fun _ => (0, 0, 0, 0))).toArray (HM2.out.at_ 2 rfl) (by rw [infoCircle, List.size_toArray, cirL_len]) (by rw [List.size_toArray, List.size_toArray, cirL_len, cirL_len]) (cir_one _) ?_)
 go_upto_region 9 with fail
 refine wp_regionJ 6 #[false, false, false, false, false, false] (fun l a W => ∃ (m0 m1 m2 m3 m4 m5 : Bool) (gq : Nat), l = #[m0, m1, m2, m3, m4, m5] ∧ a = ({ tmps := #[Value.string { data := #[112, 121, 116, 104, 97, 103, 111, 114, 101, 97, 110] }, undef, Value.pointer (some { block := w.heap.size, off := 0 }), Value.bool false, Value.pointer (some { block := w1.heap.size, off := 0 }), Value.pointer (some { block := w2.heap.size, off := 0 }), Value.func (Fn.func 76) #[] #[Value.pointer (some { block := w2.heap.size, off := 0 })], Value.agg #[Value.int IntKind.i64 0, Value.int IntKind.i64 1], Value.agg #[Value.int IntKind.i64 0, Value.int IntKind.i64 1], Value.agg #[Value.int IntKind.i64 0, Value.int IntKind.i64 1], Value.agg (cirL fun x => (0, 1, 0, 1)).toArray, Value.func (Fn.func 76) #[] #[Value.pointer (some { block := w2.heap.size, off := 0 })], Value.string { data := #[112, 121, 116, 104, 97, 103, 111, 114, 101, 97, 110] }, undef, Value.bool false, Value.bool false, undef, undef, undef, Value.bool true, Value.bool true, cwX m0 (.func (.func 76) #[] #[.pointer (some ⟨w2.heap.size, 0, none⟩)]) (undef), cwX m1 (.agg #[.int .i64 1, .int .i64 1]) (undef), cwX m2 (.agg #[.int .i64 0, .int .i64 1]) (undef), cwX m3 (.agg #[.int .i64 1, .int .i64 1, .int .i64 0, .int .i64 1]) (undef), cwX m4 (.slice (some ⟨gq, 0, none⟩) 1 1) (undef), cwX m5 (.tuple #[]) (undef), undef, undef, undef, undef, undef, undef, undef, undef, undef, undef, undef, undef, undef, undef, undef, undef, undef, undef, undef, undef, undef, undef, undef, undef, undef, undef, undef, undef, undef, undef, undef, undef, undef, undef, undef, undef, undef, undef, undef, undef, undef, undef], defers := [] } : Act) ∧ (True) ∧ BxP w [(w.heap.size, 38, cirL (fun _ => (0, 0, 0, 0))), (w1.heap.size, 34, [.int .i64 0, .int .i64 1]), (w2.heap.size, 38, cirL (bif m5 then (somC (fun _ => (0, 1, 0, 1)) (1, 1, 0, 1) [8]) else (fun _ => (0, 1, 0, 1))))] (w2.alloc (.cells (cirL (fun _ => (0, 0, 0, 0))).toArray 38) |>.setRow w2.heap.size (cirL (fun _ => (0, 1, 0, 1))).toArray).heap.size 3 [.int .i64 8] [.int .i64 8] m4 false gq W) (by kernel_rfl) (by kernel_rfl) (by kernel_rfl) (by kernel_rfl) ?_ ?_ ?_ ?_
 ·rintro l a W ⟨m0, m1, m2, m3, m4, m5, gq, rfl, _⟩
  rfl
 ·exact ⟨false, false, false, false, false, false, 0, rfl, rfl, trivial, ((BxP.start HM3.out).step (bw_drew (Below.refl _ _)))⟩
 ·rintro l a W i o ⟨m0, m1, m2, m3, m4, m5, gq, rfl, rfl, hi0, hm⟩ ho hun hall K hK
  have hi : i < 6 := (Array.getElem?_eq_some_iff.1 ho).1
  have HM := Lib.hid hm
  have HI := Lib.hid hi0
  clear hm hi0
  rcases (show i = 0 ∨ i = 1 ∨ i = 2 ∨ i = 3 ∨ i = 4 ∨ i = 5 by omega) with rfl | rfl | rfl | rfl | rfl | rfl
  ·cases ho
   simp at hun; subst hun
   clear hall hi
   go_simp
   exact hK.out _ _ ⟨true, m1, m2, m3, m4, m5, gq, rfl, rfl, trivial, HM.out⟩
  ·cases ho
   simp at hun; subst hun
   clear hall hi
   go_simp
   refine (HP1.out _).mono ?_
   rintro e W' ⟨rfl, hb⟩
   exact hK.out _ _ ⟨m0, true, m2, m3, m4, m5, gq, rfl, rfl, trivial, HM.out.step hb⟩
  ·cases ho
   simp at hun; subst hun
   clear hall hi
   have x0 : W.cell? ⟨w1.heap.size, 0, none⟩ = some (.int .i64 0) := (HM.out.hp.at_ 1 rfl).cell 0
   have x1 : W.cell? ⟨w1.heap.size, 1, none⟩ = some (.int .i64 1) := (HM.out.hp.at_ 1 rfl).cell 1
   go_simp
   exact hK.out _ _ ⟨m0, m1, true, m3, m4, m5, gq, rfl, rfl, trivial, HM.out⟩
  ·cases ho
   cases (getBX hall 1 rfl : m1 = true)
   cases (getBX hall 2 rfl : m2 = true)
   simp at hun; subst hun
   clear hall hi
   go_simp
   exact hK.out _ _ ⟨m0, true, true, true, m4, m5, gq, rfl, rfl, trivial, HM.out⟩
  ·cases ho
   simp at hun; subst hun
   clear hall hi
   have HN := Lib.hid HM.out.new
   go_simp
   exact hK.out _ _ ⟨m0, m1, m2, m3, true, m5, W.heap.size, rfl, rfl, trivial, HN.out⟩
  ·cases ho
   cases (getBX hall 0 rfl : m0 = true)
   cases (getBX hall 3 rfl : m3 = true)
   cases (getBX hall 4 rfl : m4 = true)
   simp at hun; subst hun
   clear hall hi
   have hsl := HM.out.b rfl rfl
   have hcb := HM.out.hp.at_ 2 rfl
   have hso := lsome_any (1, 1, 0, 1) [8] _ w2.heap.size gq W hcb hsl (by decide) (by decide)
   clear hsl hcb
   go_simp
   refine hso.mono ?_
   rintro e W' ⟨rfl, hc, hb⟩
   clear hso
   exact hK.out _ _ ⟨true, m1, m2, true, true, true, gq, rfl, rfl, trivial, HM.out.chg 2 rfl hc hb⟩
 ·rintro l a W ⟨m0, m1, m2, m3, m4, m5, gq, rfl, rfl, _, hm⟩ hall
  cases (hall 0 (by decide) : m0 = true)
  cases (hall 1 (by decide) : m1 = true)
  cases (hall 2 (by decide) : m2 = true)
  cases (hall 3 (by decide) : m3 = true)
  cases (hall 4 (by decide) : m4 = true)
  cases (hall 5 (by decide) : m5 = true)
  clear hall
  have HA0 : Hid (Hp w [(w.heap.size, 38, cirL (fun _ => (0, 0, 0, 0))), (w1.heap.size, 34, [.int .i64 0, .int .i64 1]), (w2.heap.size, 38, cirL (somC (fun _ => (0, 1, 0, 1)) (1, 1, 0, 1) [8]))] _) := Lib.hid hm.hp
  clear hm
  dsimp only [cwX, cond_true]
  have HJ := Lib.hid (HA0.out.row 0 rfl (cirL (somC (fun _ => (0, 1, 0, 1)) (1, 1, 0, 1) [8])))
  go_wp2_with (first | (refine wpList_load_row rfl 38 _ rfl (w2.heap.size) rfl 38 (cirL (somC (fun _ => (0, 1, 0, 1)) (1, 1, 0, 1) [8])).toArray (0, 0) _ (HA0.out.at_ 2 rfl) Tryz.underlying38 rfl (by rw [infoCircle, List.size_toArray, cirL_len]) ?_) | (refine wpList_store_rowTo rfl 38 _ _ rfl rfl (w.heap.size) (cirL (somC (fun _ => (0, 1, 0, 1)) (1, 1, 0, 1) [8])).toArray rfl rfl 38 (cirL (fun _ => (0, 0, 0, 0))).toArray (HA0.out.at_ 0 rfl) (by rw [infoCircle, List.size_toArray, cirL_len]) (by rw [List.size_toArray, List.size_toArray, cirL_len, cirL_len]) (cir_one _) ?_))
  refine bodyPost_ret (v := .tuple #[.agg (cirL (somC (fun _ => (0, 1, 0, 1)) (1, 1, 0, 1) [8])).toArray, .bool true]) ?_ rfl ⟨rfl, HJ.out.below⟩
  exact results_row_tmp rfl _ _ w.heap.size 38 _ (0, 0) _ rfl (HJ.out.at_ 0 rfl) Tryz.underlying38 rfl (by rw [infoCircle, List.size_toArray, cirL_len]) rfl
set_option maxRecDepth 1000000 in
set_option maxHeartbeats 4000000 in
theorem lnamed_meantone (w : World) :
  Calls Tryz.prog 38 #[.string ⟨#[109, 101, 97, 110, 116, 111, 110, 101]⟩] w fun e w' => e = .returned (.tuple #[.agg (cirL (somC (fun _ => (0, 1, 1, 4)) (1, 1, -11, 4) [8])).toArray, .bool true]) ∧ Below w.heap.size w w' := by
 have HP0 := Lib.hid (fun W => lpart_at 0 1 0 1 W (by decide) (by decide) (by decide))
 have HS0 := Lib.hid (fun W => same12_any 0 1 0 1 W)
 have HP1 := Lib.hid (fun W => lpart_at 1 4 1 4 W (by decide) (by decide) (by decide))
 have HS1 := Lib.hid (fun W => same12_any 0 1 1 4 W)
 have HPa := Lib.hid (fun W => lpart_at 1 1 1 1 W (by decide) (by decide) (by decide))
 have HPb := Lib.hid (fun W => lpart_at (-11) 4 (-11) 4 W (by decide) (by decide) (by decide))
 have hm0 := (Hp.start w).new 38 (cirL (fun _ => (0, 0, 0, 0)))
 simp only [List.nil_append] at hm0
 have HM0 := Lib.hid hm0
 clear hm0
 go_enter Tryz.func38, Tryz.ntmps38
 go_wp2_with fail
 refine (HP0.out _).mono ?_
 rintro e w1 ⟨rfl, hb1⟩
 have hm1 := (HM0.out.step hb1).new 34 [.int .i64 0, .int .i64 1]
 simp only [List.nil_append, List.cons_append] at hm1
 have HM1 := Lib.hid hm1
 have x0 := (hm1.at_ 1 rfl).cell 0
 have x1 := (hm1.at_ 1 rfl).cell 1
 simp only [List.getElem?_cons_succ, List.getElem?_cons_zero] at x0 x1
 clear hb1 hm1
 go_wp2_with fail
 refine (HS0.out _).mono ?_
 rintro e w2 ⟨rfl, hb2⟩
 have hm2 := (HM1.out.step hb2).new 38 (cirL (fun _ => (0, 0, 0, 0)))
 simp only [List.nil_append, List.cons_append] at hm2
 have HM2 := Lib.hid hm2
 have hm3 := (hm2.row 2 rfl (cirL (fun _ => (0, 1, 0, 1)))).cast (L' := [(w.heap.size, 38, cirL (fun _ => (0, 0, 0, 0))), (w1.heap.size, 34, [.int .i64 0, .int .i64 1]), (w2.heap.size, 38, cirL (fun _ => (0, 1, 0, 1)))]) rfl
 have HM3 := Lib.hid hm3
 clear hb2 hm2 hm3 x0 x1
 go_upto_region 3 with (refine wpList_store_rowTo rfl 38 _ _ rfl rfl (w2.heap.size) (cirL (fun _ => (0, 1, 0, 1))).toArray rfl rfl 38 (cirL (fun _ => (0, 0, 0, 0))).toArray (HM2.out.at_ 2 rfl) (by rw [infoCircle, List.size_toArray, cirL_len]) (by rw [List.size_toArray, List.size_toArray, cirL_len, cirL_len]) (cir_one _) ?_)
 go_upto_region 11 with fail
 refine wp_regionJ 4 #[false, false, false, false] (fun l a W => ∃ (m0 m1 m2 m3 : Bool), l = #[m0, m1, m2, m3] ∧ a = ({ tmps := #[Value.string { data := #[109, 101, 97, 110, 116, 111, 110, 101] }, undef, Value.pointer (some { block := w.heap.size, off := 0 }), Value.bool false, Value.pointer (some { block := w1.heap.size, off := 0 }), Value.pointer (some { block := w2.heap.size, off := 0 }), Value.func (Fn.func 76) #[] #[Value.pointer (some { block := w2.heap.size, off := 0 })], Value.agg #[Value.int IntKind.i64 0, Value.int IntKind.i64 1], Value.agg #[Value.int IntKind.i64 0, Value.int IntKind.i64 1], Value.agg #[Value.int IntKind.i64 0, Value.int IntKind.i64 1], Value.agg (cirL fun x => (0, 1, 0, 1)).toArray, Value.func (Fn.func 76) #[] #[Value.pointer (some { block := w2.heap.size, off := 0 })], Value.string { data := #[109, 101, 97, 110, 116, 111, 110, 101] }, undef, Value.bool false, Value.bool false, undef, undef, undef, Value.bool false, Value.bool false, undef, undef, undef, undef, undef, undef, Value.bool true, Value.bool true, cwX m0 (.agg #[.int .i64 0, .int .i64 1]) (undef), cwX m1 (.agg #[.int .i64 1, .int .i64 4]) (undef), cwX m2 (.agg (cirL (fun _ => (0, 1, 1, 4))).toArray) (undef), undef, undef, undef, undef, undef, undef, undef, undef, undef, undef, undef, undef, undef, undef, undef, undef, undef, undef, undef, undef, undef, undef, undef, undef, undef, undef, undef, undef, undef, undef, undef, undef, undef, undef, undef, undef, undef], defers := [] } : Act) ∧ (True) ∧ Hp w [(w.heap.size, 38, cirL (fun _ => (0, 0, 0, 0))), (w1.heap.size, 34, [.int .i64 0, .int .i64 1]), (w2.heap.size, 38, cirL (bif m3 then (fun _ => (0, 1, 1, 4)) else (fun _ => (0, 1, 0, 1))))] W) (by kernel_rfl) (by kernel_rfl) (by kernel_rfl) (by kernel_rfl) ?_ ?_ ?_ ?_
 ·rintro l a W ⟨m0, m1, m2, m3, rfl, _⟩
  rfl
 ·exact ⟨false, false, false, false, rfl, rfl, trivial, HM3.out.drew⟩
 ·rintro l a W i o ⟨m0, m1, m2, m3, rfl, rfl, hi0, hm⟩ ho hun hall K hK
  have hi : i < 4 := (Array.getElem?_eq_some_iff.1 ho).1
  have HM := Lib.hid hm
  have HI := Lib.hid hi0
  clear hm hi0
  rcases (show i = 0 ∨ i = 1 ∨ i = 2 ∨ i = 3 by omega) with rfl | rfl | rfl | rfl
  ·cases ho
   simp at hun; subst hun
   clear hall hi
   have x0 : W.cell? ⟨w1.heap.size, 0, none⟩ = some (.int .i64 0) := (HM.out.at_ 1 rfl).cell 0
   have x1 : W.cell? ⟨w1.heap.size, 1, none⟩ = some (.int .i64 1) := (HM.out.at_ 1 rfl).cell 1
   go_simp
   exact hK.out _ _ ⟨true, m1, m2, m3, rfl, rfl, trivial, HM.out⟩
  ·cases ho
   simp at hun; subst hun
   clear hall hi
   go_simp
   refine (HP1.out _).mono ?_
   rintro e W' ⟨rfl, hb⟩
   exact hK.out _ _ ⟨m0, true, m2, m3, rfl, rfl, trivial, HM.out.step hb⟩
  ·cases ho
   cases (getBX hall 0 rfl : m0 = true)
   cases (getBX hall 1 rfl : m1 = true)
   simp at hun; subst hun
   clear hall hi
   go_simp
   refine (HS1.out _).mono ?_
   rintro e W' ⟨rfl, hb⟩
   exact hK.out _ _ ⟨true, true, true, m3, rfl, rfl, trivial, HM.out.step hb⟩
  ·cases ho
   cases (getBX hall 2 rfl : m2 = true)
   simp at hun; subst hun
   clear hall hi
   have HN := Lib.hid (HM.out.row 2 rfl (cirL (fun _ => (0, 1, 1, 4))))
   refine step_store_row rfl 38 _ _ rfl rfl w2.heap.size (cirL (fun _ => (0, 1, 1, 4))).toArray rfl rfl 38 (cirL (fun _ => (0, 1, 0, 1))).toArray (HM.out.at_ 2 rfl) (by rw [infoCircle, List.size_toArray, cirL_len]) (by rw [List.size_toArray, List.size_toArray, cirL_len, cirL_len]) (cir_one _) ?_
   exact hK.out _ _ ⟨m0, m1, true, true, rfl, rfl, trivial, HN.out⟩
 ·rintro l a W ⟨m0, m1, m2, m3, rfl, rfl, _, hm⟩ hall
  cases (hall 0 (by decide) : m0 = true)
  cases (hall 1 (by decide) : m1 = true)
  cases (hall 2 (by decide) : m2 = true)
  cases (hall 3 (by decide) : m3 = true)
  clear hall
  have HA0 : Hid (Hp w [(w.heap.size, 38, cirL (fun _ => (0, 0, 0, 0))), (w1.heap.size, 34, [.int .i64 0, .int .i64 1]), (w2.heap.size, 38, cirL (fun _ => (0, 1, 1, 4)))] _) := Lib.hid hm
  clear hm
  dsimp only [cwX, cond_true]
  go_wp2_with fail
  refine (HPa.out _).mono ?_
  rintro e w3 ⟨rfl, hb3⟩
  have HB1 := Lib.hid (HA0.out.step hb3)
  clear hb3
  go_wp2_with fail
  refine (HPb.out _).mono ?_
  rintro e w4 ⟨rfl, hb4⟩
  have hm4 := HB1.out.step hb4
  have hm5 := hm4.alloc (.cells #[.int .i64 8] 3)
  have hc5 := hm5.at_ 2 rfl
  have HB2 := Lib.hid hm5
  clear hb4 hm4 hm5
  go_wp2_with fail
  have hso := lsome_any (1, 1, -11, 4) [8] _ w2.heap.size w4.heap.size (w4.alloc (.cells #[.int .i64 8] 3)) hc5 (heap_alloc_new w4 _) (by decide) (by decide)
  refine hso.mono ?_
  rintro e w5 ⟨rfl, hc, hb⟩
  have HB3 := Lib.hid ((HB2.out.chg 2 rfl hc hb).cast (L' := [(w.heap.size, 38, cirL (fun _ => (0, 0, 0, 0))), (w1.heap.size, 34, [.int .i64 0, .int .i64 1]), (w2.heap.size, 38, cirL (somC (fun _ => (0, 1, 1, 4)) (1, 1, -11, 4) [8]))]) rfl)
  clear hso hc hb hc5
  have HJ := Lib.hid (HB3.out.row 0 rfl (cirL (somC (fun _ => (0, 1, 1, 4)) (1, 1, -11, 4) [8])))
  go_wp2_with (first | (refine wpList_load_row rfl 38 _ rfl (w2.heap.size) rfl 38 (cirL (somC (fun _ => (0, 1, 1, 4)) (1, 1, -11, 4) [8])).toArray (0, 0) _ (HB3.out.at_ 2 rfl) Tryz.underlying38 rfl (by rw [infoCircle, List.size_toArray, cirL_len]) ?_) | (refine wpList_store_rowTo rfl 38 _ _ rfl rfl (w.heap.size) (cirL (somC (fun _ => (0, 1, 1, 4)) (1, 1, -11, 4) [8])).toArray rfl rfl 38 (cirL (fun _ => (0, 0, 0, 0))).toArray (HB3.out.at_ 0 rfl) (by rw [infoCircle, List.size_toArray, cirL_len]) (by rw [List.size_toArray, List.size_toArray, cirL_len, cirL_len]) (cir_one _) ?_))
  refine bodyPost_ret (v := .tuple #[.agg (cirL (somC (fun _ => (0, 1, 1, 4)) (1, 1, -11, 4) [8])).toArray, .bool true]) ?_ rfl ⟨rfl, HJ.out.below⟩
  exact results_row_tmp rfl _ _ w.heap.size 38 _ (0, 0) _ rfl (HJ.out.at_ 0 rfl) Tryz.underlying38 rfl (by rw [infoCircle, List.size_toArray, cirL_len]) rfl
set_option maxRecDepth 1000000 in
set_option maxHeartbeats 4000000 in
theorem lnamed_werckmeister (w : World) :
  Calls Tryz.prog 38 #[.string ⟨#[119, 101, 114, 99, 107, 109, 101, 105, 115, 116, 101, 114]⟩] w fun e w' => e = .returned (.tuple #[.agg (cirL (somC (fun _ => (0, 1, 0, 1)) (1, 4, 0, 1) [0, 1, 2, 5])).toArray, .bool true]) ∧ Below w.heap.size w w' := by
 have HP0 := Lib.hid (fun W => lpart_at 0 1 0 1 W (by decide) (by decide) (by decide))
 have HS0 := Lib.hid (fun W => same12_any 0 1 0 1 W)
 have HP1 := Lib.hid (fun W => lpart_at 1 4 1 4 W (by decide) (by decide) (by decide))
 have hm0 := (Hp.start w).new 38 (cirL (fun _ => (0, 0, 0, 0)))
 simp only [List.nil_append] at hm0
 have HM0 := Lib.hid hm0
 clear hm0
 go_enter Tryz.func38, Tryz.ntmps38
 go_wp2_with fail
 refine (HP0.out _).mono ?_
 rintro e w1 ⟨rfl, hb1⟩
 have hm1 := (HM0.out.step hb1).new 34 [.int .i64 0, .int .i64 1]
 simp only [List.nil_append, List.cons_append] at hm1
 have HM1 := Lib.hid hm1
 have x0 := (hm1.at_ 1 rfl).cell 0
 have x1 := (hm1.at_ 1 rfl).cell 1
 simp only [List.getElem?_cons_succ, List.getElem?_cons_zero] at x0 x1
 clear hb1 hm1
 go_wp2_with fail
 refine (HS0.out _).mono ?_
 rintro e w2 ⟨rfl, hb2⟩
 have hm2 := (HM1.out.step hb2).new 38 (cirL (fun _ => (0, 0, 0, 0)))
 simp only [List.nil_append, List.cons_append] at hm2
 have HM2 := Lib.hid hm2
 have hm3 := (hm2.row 2 rfl (cirL (fun _ => (0, 1, 0, 1)))).cast (L' := [(w.heap.size, 38, cirL (fun _ => (0, 0, 0, 0))), (w1.heap.size, 34, [.int .i64 0, .int .i64 1]), (w2.heap.size, 38, cirL (fun _ => (0, 1, 0, 1)))]) rfl
 have HM3 := Lib.hid hm3
 clear hb2 hm2 hm3 x0 x1
 go_upto_region 3 with (refine wpList_store_rowTo rfl 38 _ _ rfl rfl (w2.heap.size) (cirL (fun _ => (0, 1, 0, 1))).toArray rfl rfl 38 (cirL (fun _ => (0, 0, 0, 0))).toArray (HM2.out.at_ 2 rfl) (by rw [infoCircle, List.size_toArray, cirL_len]) (by rw [List.size_toArray, List.size_toArray, cirL_len, cirL_len]) (cir_one _) ?_)
 go_upto_region 14 with fail
 refine wp_regionJ 6 #[false, false, false, false, false, false] (fun l a W => ∃ (m0 m1 m2 m3 m4 m5 : Bool) (gq : Nat), l = #[m0, m1, m2, m3, m4, m5] ∧ a = ({ tmps := #[Value.string { data := #[119, 101, 114, 99, 107, 109, 101, 105, 115, 116, 101, 114] }, undef, Value.pointer (some { block := w.heap.size, off := 0 }), Value.bool false, Value.pointer (some { block := w1.heap.size, off := 0 }), Value.pointer (some { block := w2.heap.size, off := 0 }), Value.func (Fn.func 76) #[] #[Value.pointer (some { block := w2.heap.size, off := 0 })], Value.agg #[Value.int IntKind.i64 0, Value.int IntKind.i64 1], Value.agg #[Value.int IntKind.i64 0, Value.int IntKind.i64 1], Value.agg #[Value.int IntKind.i64 0, Value.int IntKind.i64 1], Value.agg (cirL fun x => (0, 1, 0, 1)).toArray, Value.func (Fn.func 76) #[] #[Value.pointer (some { block := w2.heap.size, off := 0 })], Value.string { data := #[119, 101, 114, 99, 107, 109, 101, 105, 115, 116, 101, 114] }, undef, Value.bool false, Value.bool false, undef, undef, undef, Value.bool false, Value.bool false, undef, undef, undef, undef, undef, undef, Value.bool false, Value.bool false, undef, undef, undef, undef, undef, undef, undef, undef, undef, Value.bool true, Value.bool true, cwX m0 (.func (.func 76) #[] #[.pointer (some ⟨w2.heap.size, 0, none⟩)]) (undef), cwX m1 (.agg #[.int .i64 1, .int .i64 4]) (undef), cwX m2 (.agg #[.int .i64 0, .int .i64 1]) (undef), cwX m3 (.agg #[.int .i64 1, .int .i64 4, .int .i64 0, .int .i64 1]) (undef), cwX m4 (.slice (some ⟨gq, 0, none⟩) 4 4) (undef), cwX m5 (.tuple #[]) (undef), undef, undef, undef, undef, undef, undef, undef, undef, undef, undef, undef, undef, undef, undef, undef, undef, undef, undef, undef, undef, undef, undef, undef], defers := [] } : Act) ∧ (True) ∧ BxP w [(w.heap.size, 38, cirL (fun _ => (0, 0, 0, 0))), (w1.heap.size, 34, [.int .i64 0, .int .i64 1]), (w2.heap.size, 38, cirL (bif m5 then (somC (fun _ => (0, 1, 0, 1)) (1, 4, 0, 1) [0, 1, 2, 5]) else (fun _ => (0, 1, 0, 1))))] (w2.alloc (.cells (cirL (fun _ => (0, 0, 0, 0))).toArray 38) |>.setRow w2.heap.size (cirL (fun _ => (0, 1, 0, 1))).toArray).heap.size 3 [.int .i64 0, .int .i64 1, .int .i64 2, .int .i64 5] [.int .i64 0, .int .i64 1, .int .i64 2, .int .i64 5] m4 false gq W) (by kernel_rfl) (by kernel_rfl) (by kernel_rfl) (by kernel_rfl) ?_ ?_ ?_ ?_
 ·rintro l a W ⟨m0, m1, m2, m3, m4, m5, gq, rfl, _⟩
  rfl
 ·exact ⟨false, false, false, false, false, false, 0, rfl, rfl, trivial, ((BxP.start HM3.out).step (bw_drew (Below.refl _ _)))⟩
 ·rintro l a W i o ⟨m0, m1, m2, m3, m4, m5, gq, rfl, rfl, hi0, hm⟩ ho hun hall K hK
  have hi : i < 6 := (Array.getElem?_eq_some_iff.1 ho).1
  have HM := Lib.hid hm
  have HI := Lib.hid hi0
  clear hm hi0
  rcases (show i = 0 ∨ i = 1 ∨ i = 2 ∨ i = 3 ∨ i = 4 ∨ i = 5 by omega) with rfl | rfl | rfl | rfl | rfl | rfl
  ·cases ho
   simp at hun; subst hun
   clear hall hi
   go_simp
   exact hK.out _ _ ⟨true, m1, m2, m3, m4, m5, gq, rfl, rfl, trivial, HM.out⟩
  ·cases ho
   simp at hun; subst hun
   clear hall hi
   go_simp
   refine (HP1.out _).mono ?_
   rintro e W' ⟨rfl, hb⟩
   exact hK.out _ _ ⟨m0, true, m2, m3, m4, m5, gq, rfl, rfl, trivial, HM.out.step hb⟩
  ·cases ho
   simp at hun; subst hun
   clear hall hi
   have x0 : W.cell? ⟨w1.heap.size, 0, none⟩ = some (.int .i64 0) := (HM.out.hp.at_ 1 rfl).cell 0
   have x1 : W.cell? ⟨w1.heap.size, 1, none⟩ = some (.int .i64 1) := (HM.out.hp.at_ 1 rfl).cell 1
   go_simp
   exact hK.out _ _ ⟨m0, m1, true, m3, m4, m5, gq, rfl, rfl, trivial, HM.out⟩
  ·cases ho
   cases (getBX hall 1 rfl : m1 = true)
   cases (getBX hall 2 rfl : m2 = true)
   simp at hun; subst hun
   clear hall hi
   go_simp
   exact hK.out _ _ ⟨m0, true, true, true, m4, m5, gq, rfl, rfl, trivial, HM.out⟩
  ·cases ho
   simp at hun; subst hun
   clear hall hi
   have HN := Lib.hid HM.out.new
   go_simp
   exact hK.out _ _ ⟨m0, m1, m2, m3, true, m5, W.heap.size, rfl, rfl, trivial, HN.out⟩
  ·cases ho
   cases (getBX hall 0 rfl : m0 = true)
   cases (getBX hall 3 rfl : m3 = true)
   cases (getBX hall 4 rfl : m4 = true)
   simp at hun; subst hun
   clear hall hi
   have hsl := HM.out.b rfl rfl
   have hcb := HM.out.hp.at_ 2 rfl
   have hso := lsome_any (1, 4, 0, 1) [0, 1, 2, 5] _ w2.heap.size gq W hcb hsl (by decide) (by decide)
   clear hsl hcb
   go_simp
   refine hso.mono ?_
   rintro e W' ⟨rfl, hc, hb⟩
   clear hso
   exact hK.out _ _ ⟨true, m1, m2, true, true, true, gq, rfl, rfl, trivial, HM.out.chg 2 rfl hc hb⟩
 ·rintro l a W ⟨m0, m1, m2, m3, m4, m5, gq, rfl, rfl, _, hm⟩ hall
  cases (hall 0 (by decide) : m0 = true)
  cases (hall 1 (by decide) : m1 = true)
  cases (hall 2 (by decide) : m2 = true)
  cases (hall 3 (by decide) : m3 = true)
  cases (hall 4 (by decide) : m4 = true)
  cases (hall 5 (by decide) : m5 = true)
  clear hall
  have HA0 : Hid (Hp w [(w.heap.size, 38, cirL (fun _ => (0, 0, 0, 0))), (w1.heap.size, 34, [.int .i64 0, .int .i64 1]), (w2.heap.size, 38, cirL (somC (fun _ => (0, 1, 0, 1)) (1, 4, 0, 1) [0, 1, 2, 5]))] _) := Lib.hid hm.hp
  clear hm
  dsimp only [cwX, cond_true]
  have HJ := Lib.hid (HA0.out.row 0 rfl (cirL (somC (fun _ => (0, 1, 0, 1)) (1, 4, 0, 1) [0, 1, 2, 5])))
  go_wp2_with (first | (refine wpList_load_row rfl 38 _ rfl (w2.heap.size) rfl 38 (cirL (somC (fun _ => (0, 1, 0, 1)) (1, 4, 0, 1) [0, 1, 2, 5])).toArray (0, 0) _ (HA0.out.at_ 2 rfl) Tryz.underlying38 rfl (by rw [infoCircle, List.size_toArray, cirL_len]) ?_) | (refine wpList_store_rowTo rfl 38 _ _ rfl rfl (w.heap.size) (cirL (somC (fun _ => (0, 1, 0, 1)) (1, 4, 0, 1) [0, 1, 2, 5])).toArray rfl rfl 38 (cirL (fun _ => (0, 0, 0, 0))).toArray (HA0.out.at_ 0 rfl) (by rw [infoCircle, List.size_toArray, cirL_len]) (by rw [List.size_toArray, List.size_toArray, cirL_len, cirL_len]) (cir_one _) ?_))
  refine bodyPost_ret (v := .tuple #[.agg (cirL (somC (fun _ => (0, 1, 0, 1)) (1, 4, 0, 1) [0, 1, 2, 5])).toArray, .bool true]) ?_ rfl ⟨rfl, HJ.out.below⟩
  exact results_row_tmp rfl _ _ w.heap.size 38 _ (0, 0) _ rfl (HJ.out.at_ 0 rfl) Tryz.underlying38 rfl (by rw [infoCircle, List.size_toArray, cirL_len]) rfl
set_option maxRecDepth 1000000 in
set_option maxHeartbeats 4000000 in
theorem lnamed_vallotti (w : World) :
  Calls Tryz.prog 38 #[.string ⟨#[118, 97, 108, 108, 111, 116, 116, 105]⟩] w fun e w' => e = .returned (.tuple #[.agg (cirL (somC (fun _ => (0, 1, 0, 1)) (1, 6, 0, 1) [0, 1, 2, 3, 4, 11])).toArray, .bool true]) ∧ Below w.heap.size w w' := by
 have HP0 := Lib.hid (fun W => lpart_at 0 1 0 1 W (by decide) (by decide) (by decide))
 have HS0 := Lib.hid (fun W => same12_any 0 1 0 1 W)
 have HP1 := Lib.hid (fun W => lpart_at 1 6 1 6 W (by decide) (by decide) (by decide))
 have hm0 := (Hp.start w).new 38 (cirL (fun _ => (0, 0, 0, 0)))
 simp only [List.nil_append] at hm0
 have HM0 := Lib.hid hm0
 clear hm0
 go_enter Tryz.func38, Tryz.ntmps38
 go_wp2_with fail
 refine (HP0.out _).mono ?_
 rintro e w1 ⟨rfl, hb1⟩
 have hm1 := (HM0.out.step hb1).new 34 [.int .i64 0, .int .i64 1]
 simp only [List.nil_append, List.cons_append] at hm1
 have HM1 := Lib.hid hm1
 have x0 := (hm1.at_ 1 rfl).cell 0
 have x1 := (hm1.at_ 1 rfl).cell 1
 simp only [List.getElem?_cons_succ, List.getElem?_cons_zero] at x0 x1
 clear hb1 hm1
 go_wp2_with fail
 refine (HS0.out _).mono ?_
 rintro e w2 ⟨rfl, hb2⟩
 have hm2 := (HM1.out.step hb2).new 38 (cirL (fun _ => (0, 0, 0, 0)))
 simp only [List.nil_append, List.cons_append] at hm2
 have HM2 := Lib.hid hm2
 have hm3 := (hm2.row 2 rfl (cirL (fun _ => (0, 1, 0, 1)))).cast (L' := [(w.heap.size, 38, cirL (fun _ => (0, 0, 0, 0))), (w1.heap.size, 34, [.int .i64 0, .int .i64 1]), (w2.heap.size, 38, cirL (fun _ => (0, 1, 0, 1)))]) rfl
 have HM3 := Lib.hid hm3
 clear hb2 hm2 hm3 x0 x1
 go_upto_region 3 with (refine wpList_store_rowTo rfl 38 _ _ rfl rfl (w2.heap.size) (cirL (fun _ => (0, 1, 0, 1))).toArray rfl rfl 38 (cirL (fun _ => (0, 0, 0, 0))).toArray (HM2.out.at_ 2 rfl) (by rw [infoCircle, List.size_toArray, cirL_len]) (by rw [List.size_toArray, List.size_toArray, cirL_len, cirL_len]) (cir_one _) ?_)
 go_upto_region 16 with fail
 refine wp_regionJ 6 #[false, false, false, false, false, false] (fun l a W => ∃ (m0 m1 m2 m3 m4 m5 : Bool) (gq : Nat), l = #[m0, m1, m2, m3, m4, m5] ∧ a = ({ tmps := #[Value.string { data := #[118, 97, 108, 108, 111, 116, 116, 105] }, undef, Value.pointer (some { block := w.heap.size, off := 0 }), Value.bool false, Value.pointer (some { block := w1.heap.size, off := 0 }), Value.pointer (some { block := w2.heap.size, off := 0 }), Value.func (Fn.func 76) #[] #[Value.pointer (some { block := w2.heap.size, off := 0 })], Value.agg #[Value.int IntKind.i64 0, Value.int IntKind.i64 1], Value.agg #[Value.int IntKind.i64 0, Value.int IntKind.i64 1], Value.agg #[Value.int IntKind.i64 0, Value.int IntKind.i64 1], Value.agg (cirL fun x => (0, 1, 0, 1)).toArray, Value.func (Fn.func 76) #[] #[Value.pointer (some { block := w2.heap.size, off := 0 })], Value.string { data := #[118, 97, 108, 108, 111, 116, 116, 105] }, undef, Value.bool false, Value.bool false, undef, undef, undef, Value.bool false, Value.bool false, undef, undef, undef, undef, undef, undef, Value.bool false, Value.bool false, undef, undef, undef, undef, undef, undef, undef, undef, undef, Value.bool false, Value.bool false, undef, undef, undef, undef, undef, undef, Value.bool true, Value.bool true, cwX m0 (.func (.func 76) #[] #[.pointer (some ⟨w2.heap.size, 0, none⟩)]) (undef), cwX m1 (.agg #[.int .i64 1, .int .i64 6]) (undef), cwX m2 (.agg #[.int .i64 0, .int .i64 1]) (undef), cwX m3 (.agg #[.int .i64 1, .int .i64 6, .int .i64 0, .int .i64 1]) (undef), cwX m4 (.slice (some ⟨gq, 0, none⟩) 6 6) (undef), cwX m5 (.tuple #[]) (undef), undef, undef, undef, undef, undef, undef, undef, undef, undef, undef, undef, undef, undef, undef, undef], defers := [] } : Act) ∧ (True) ∧ BxP w [(w.heap.size, 38, cirL (fun _ => (0, 0, 0, 0))), (w1.heap.size, 34, [.int .i64 0, .int .i64 1]), (w2.heap.size, 38, cirL (bif m5 then (somC (fun _ => (0, 1, 0, 1)) (1, 6, 0, 1) [0, 1, 2, 3, 4, 11]) else (fun _ => (0, 1, 0, 1))))] (w2.alloc (.cells (cirL (fun _ => (0, 0, 0, 0))).toArray 38) |>.setRow w2.heap.size (cirL (fun _ => (0, 1, 0, 1))).toArray).heap.size 3 [.int .i64 0, .int .i64 1, .int .i64 2, .int .i64 3, .int .i64 4, .int .i64 11] [.int .i64 0, .int .i64 1, .int .i64 2, .int .i64 3, .int .i64 4, .int .i64 11] m4 false gq W) (by kernel_rfl) (by kernel_rfl) (by kernel_rfl) (by kernel_rfl) ?_ ?_ ?_ ?_
 ·rintro l a W ⟨m0, m1, m2, m3, m4, m5, gq, rfl, _⟩
  rfl
 ·exact ⟨false, false, false, false, false, false, 0, rfl, rfl, trivial, ((BxP.start HM3.out).step (bw_drew (Below.refl _ _)))⟩
 ·rintro l a W i o ⟨m0, m1, m2, m3, m4, m5, gq, rfl, rfl, hi0, hm⟩ ho hun hall K hK
  have hi : i < 6 := (Array.getElem?_eq_some_iff.1 ho).1
  have HM := Lib.hid hm
  have HI := Lib.hid hi0
  clear hm hi0
  rcases (show i = 0 ∨ i = 1 ∨ i = 2 ∨ i = 3 ∨ i = 4 ∨ i = 5 by omega) with rfl | rfl | rfl | rfl | rfl | rfl
  ·cases ho
   simp at hun; subst hun
   clear hall hi
   go_simp
   exact hK.out _ _ ⟨true, m1, m2, m3, m4, m5, gq, rfl, rfl, trivial, HM.out⟩
  ·cases ho
   simp at hun; subst hun
   clear hall hi
   go_simp
   refine (HP1.out _).mono ?_
   rintro e W' ⟨rfl, hb⟩
   exact hK.out _ _ ⟨m0, true, m2, m3, m4, m5, gq, rfl, rfl, trivial, HM.out.step hb⟩
  ·cases ho
   simp at hun; subst hun
   clear hall hi
   have x0 : W.cell? ⟨w1.heap.size, 0, none⟩ = some (.int .i64 0) := (HM.out.hp.at_ 1 rfl).cell 0
   have x1 : W.cell? ⟨w1.heap.size, 1, none⟩ = some (.int .i64 1) := (HM.out.hp.at_ 1 rfl).cell 1
   go_simp
   exact hK.out _ _ ⟨m0, m1, true, m3, m4, m5, gq, rfl, rfl, trivial, HM.out⟩
  ·cases ho
   cases (getBX hall 1 rfl : m1 = true)
   cases (getBX hall 2 rfl : m2 = true)
   simp at hun; subst hun
   clear hall hi
   go_simp
   exact hK.out _ _ ⟨m0, true, true, true, m4, m5, gq, rfl, rfl, trivial, HM.out⟩
  ·cases ho
   simp at hun; subst hun
   clear hall hi
   have HN := Lib.hid HM.out.new
   go_simp
   exact hK.out _ _ ⟨m0, m1, m2, m3, true, m5, W.heap.size, rfl, rfl, trivial, HN.out⟩
  ·cases ho
   cases (getBX hall 0 rfl : m0 = true)
   cases (getBX hall 3 rfl : m3 = true)
   cases (getBX hall 4 rfl : m4 = true)
   simp at hun; subst hun
   clear hall hi
   have hsl := HM.out.b rfl rfl
   have hcb := HM.out.hp.at_ 2 rfl
   have hso := lsome_any (1, 6, 0, 1) [0, 1, 2, 3, 4, 11] _ w2.heap.size gq W hcb hsl (by decide) (by decide)
   clear hsl hcb
   go_simp
   refine hso.mono ?_
   rintro e W' ⟨rfl, hc, hb⟩
   clear hso
   exact hK.out _ _ ⟨true, m1, m2, true, true, true, gq, rfl, rfl, trivial, HM.out.chg 2 rfl hc hb⟩
 ·rintro l a W ⟨m0, m1, m2, m3, m4, m5, gq, rfl, rfl, _, hm⟩ hall
  cases (hall 0 (by decide) : m0 = true)
  cases (hall 1 (by decide) : m1 = true)
  cases (hall 2 (by decide) : m2 = true)
  cases (hall 3 (by decide) : m3 = true)
  cases (hall 4 (by decide) : m4 = true)
  cases (hall 5 (by decide) : m5 = true)
  clear hall
  have HA0 : Hid (Hp w [(w.heap.size, 38, cirL (fun _ => (0, 0, 0, 0))), (w1.heap.size, 34, [.int .i64 0, .int .i64 1]), (w2.heap.size, 38, cirL (somC (fun _ => (0, 1, 0, 1)) (1, 6, 0, 1) [0, 1, 2, 3, 4, 11]))] _) := Lib.hid hm.hp
  clear hm
  dsimp only [cwX, cond_true]
  have HJ := Lib.hid (HA0.out.row 0 rfl (cirL (somC (fun _ => (0, 1, 0, 1)) (1, 6, 0, 1) [0, 1, 2, 3, 4, 11])))
  go_wp2_with (first | (refine wpList_load_row rfl 38 _ rfl (w2.heap.size) rfl 38 (cirL (somC (fun _ => (0, 1, 0, 1)) (1, 6, 0, 1) [0, 1, 2, 3, 4, 11])).toArray (0, 0) _ (HA0.out.at_ 2 rfl) Tryz.underlying38 rfl (by rw [infoCircle, List.size_toArray, cirL_len]) ?_) | (refine wpList_store_rowTo rfl 38 _ _ rfl rfl (w.heap.size) (cirL (somC (fun _ => (0, 1, 0, 1)) (1, 6, 0, 1) [0, 1, 2, 3, 4, 11])).toArray rfl rfl 38 (cirL (fun _ => (0, 0, 0, 0))).toArray (HA0.out.at_ 0 rfl) (by rw [infoCircle, List.size_toArray, cirL_len]) (by rw [List.size_toArray, List.size_toArray, cirL_len, cirL_len]) (cir_one _) ?_))
  refine bodyPost_ret (v := .tuple #[.agg (cirL (somC (fun _ => (0, 1, 0, 1)) (1, 6, 0, 1) [0, 1, 2, 3, 4, 11])).toArray, .bool true]) ?_ rfl ⟨rfl, HJ.out.below⟩
  exact results_row_tmp rfl _ _ w.heap.size 38 _ (0, 0) _ rfl (HJ.out.at_ 0 rfl) Tryz.underlying38 rfl (by rw [infoCircle, List.size_toArray, cirL_len]) rfl
set_option maxRecDepth 1000000 in
set_option maxHeartbeats 4000000 in
theorem lnamed_kirnberger (w : World) :
  Calls Tryz.prog 38 #[.string ⟨#[107, 105, 114, 110, 98, 101, 114, 103, 101, 114]⟩] w fun e w' => e = .returned (.tuple #[.agg (cirL (somC (somC (fun _ => (0, 1, 0, 1)) (0, 1, 1, 4) [0, 1, 2, 3]) (1, 1, -1, 1) [6])).toArray, .bool true]) ∧ Below w.heap.size w w' := by
 have HP0 := Lib.hid (fun W => lpart_at 0 1 0 1 W (by decide) (by decide) (by decide))
 have HS0 := Lib.hid (fun W => same12_any 0 1 0 1 W)
 have HP1 := Lib.hid (fun W => lpart_at 1 4 1 4 W (by decide) (by decide) (by decide))
 have HPa := Lib.hid (fun W => lpart_at 1 1 1 1 W (by decide) (by decide) (by decide))
 have HPb := Lib.hid (fun W => lpart_at (-1) 1 (-1) 1 W (by decide) (by decide) (by decide))
 have hm0 := (Hp.start w).new 38 (cirL (fun _ => (0, 0, 0, 0)))
 simp only [List.nil_append] at hm0
 have HM0 := Lib.hid hm0
 clear hm0
 go_enter Tryz.func38, Tryz.ntmps38
 go_wp2_with fail
 refine (HP0.out _).mono ?_
 rintro e w1 ⟨rfl, hb1⟩
 have hm1 := (HM0.out.step hb1).new 34 [.int .i64 0, .int .i64 1]
 simp only [List.nil_append, List.cons_append] at hm1
 have HM1 := Lib.hid hm1
 have x0 := (hm1.at_ 1 rfl).cell 0
 have x1 := (hm1.at_ 1 rfl).cell 1
 simp only [List.getElem?_cons_succ, List.getElem?_cons_zero] at x0 x1
 clear hb1 hm1
 go_wp2_with fail
 refine (HS0.out _).mono ?_
 rintro e w2 ⟨rfl, hb2⟩
 have hm2 := (HM1.out.step hb2).new 38 (cirL (fun _ => (0, 0, 0, 0)))
 simp only [List.nil_append, List.cons_append] at hm2
 have HM2 := Lib.hid hm2
 have hm3 := (hm2.row 2 rfl (cirL (fun _ => (0, 1, 0, 1)))).cast (L' := [(w.heap.size, 38, cirL (fun _ => (0, 0, 0, 0))), (w1.heap.size, 34, [.int .i64 0, .int .i64 1]), (w2.heap.size, 38, cirL (fun _ => (0, 1, 0, 1)))]) rfl
 have HM3 := Lib.hid hm3
 clear hb2 hm2 hm3 x0 x1
 go_upto_region 3 with (refine wpList_store_rowTo rfl 38 _ _ rfl rfl (w2.heap.size) (cirL (fun _ => (0, 1, 0, 1))).toArray rfl rfl 38 (cirL (fun _ => (0, 0, 0, 0))).toArray (HM2.out.at_ 2 rfl) (by rw [infoCircle, List.size_toArray, cirL_len]) (by rw [List.size_toArray, List.size_toArray, cirL_len, cirL_len]) (cir_one _) ?_)
 go_upto_region 18 with fail
 refine wp_regionJ 6 #[false, false, false, false, false, false] (fun l a W => ∃ (m0 m1 m2 m3 m4 m5 : Bool) (gq : Nat), l = #[m0, m1, m2, m3, m4, m5] ∧ a = ({ tmps := #[Value.string { data := #[107, 105, 114, 110, 98, 101, 114, 103, 101, 114] }, undef, Value.pointer (some { block := w.heap.size, off := 0 }), Value.bool false, Value.pointer (some { block := w1.heap.size, off := 0 }), Value.pointer (some { block := w2.heap.size, off := 0 }), Value.func (Fn.func 76) #[] #[Value.pointer (some { block := w2.heap.size, off := 0 })], Value.agg #[Value.int IntKind.i64 0, Value.int IntKind.i64 1], Value.agg #[Value.int IntKind.i64 0, Value.int IntKind.i64 1], Value.agg #[Value.int IntKind.i64 0, Value.int IntKind.i64 1], Value.agg (cirL fun x => (0, 1, 0, 1)).toArray, Value.func (Fn.func 76) #[] #[Value.pointer (some { block := w2.heap.size, off := 0 })], Value.string { data := #[107, 105, 114, 110, 98, 101, 114, 103, 101, 114] }, undef, Value.bool false, Value.bool false, undef, undef, undef, Value.bool false, Value.bool false, undef, undef, undef, undef, undef, undef, Value.bool false, Value.bool false, undef, undef, undef, undef, undef, undef, undef, undef, undef, Value.bool false, Value.bool false, undef, undef, undef, undef, undef, undef, Value.bool false, Value.bool false, undef, undef, undef, undef, undef, undef, Value.bool true, Value.bool true, cwX m0 (.func (.func 76) #[] #[.pointer (some ⟨w2.heap.size, 0, none⟩)]) (undef), cwX m1 (.agg #[.int .i64 0, .int .i64 1]) (undef), cwX m2 (.agg #[.int .i64 1, .int .i64 4]) (undef), cwX m3 (.agg #[.int .i64 0, .int .i64 1, .int .i64 1, .int .i64 4]) (undef), cwX m4 (.slice (some ⟨gq, 0, none⟩) 4 4) (undef), cwX m5 (.tuple #[]) (undef), undef, undef, undef, undef, undef, undef, undef], defers := [] } : Act) ∧ (True) ∧ BxP w [(w.heap.size, 38, cirL (fun _ => (0, 0, 0, 0))), (w1.heap.size, 34, [.int .i64 0, .int .i64 1]), (w2.heap.size, 38, cirL (bif m5 then (somC (fun _ => (0, 1, 0, 1)) (0, 1, 1, 4) [0, 1, 2, 3]) else (fun _ => (0, 1, 0, 1))))] (w2.alloc (.cells (cirL (fun _ => (0, 0, 0, 0))).toArray 38) |>.setRow w2.heap.size (cirL (fun _ => (0, 1, 0, 1))).toArray).heap.size 3 [.int .i64 0, .int .i64 1, .int .i64 2, .int .i64 3] [.int .i64 0, .int .i64 1, .int .i64 2, .int .i64 3] m4 false gq W) (by kernel_rfl) (by kernel_rfl) (by kernel_rfl) (by kernel_rfl) ?_ ?_ ?_ ?_
 ·rintro l a W ⟨m0, m1, m2, m3, m4, m5, gq, rfl, _⟩
  rfl
 ·exact ⟨false, false, false, false, false, false, 0, rfl, rfl, trivial, ((BxP.start HM3.out).step (bw_drew (Below.refl _ _)))⟩
 ·rintro l a W i o ⟨m0, m1, m2, m3, m4, m5, gq, rfl, rfl, hi0, hm⟩ ho hun hall K hK
  have hi : i < 6 := (Array.getElem?_eq_some_iff.1 ho).1
  have HM := Lib.hid hm
  have HI := Lib.hid hi0
  clear hm hi0
  rcases (show i = 0 ∨ i = 1 ∨ i = 2 ∨ i = 3 ∨ i = 4 ∨ i = 5 by omega) with rfl | rfl | rfl | rfl | rfl | rfl
  ·cases ho
   simp at hun; subst hun
   clear hall hi
   go_simp
   exact hK.out _ _ ⟨true, m1, m2, m3, m4, m5, gq, rfl, rfl, trivial, HM.out⟩
  ·cases ho
   simp at hun; subst hun
   clear hall hi
   have x0 : W.cell? ⟨w1.heap.size, 0, none⟩ = some (.int .i64 0) := (HM.out.hp.at_ 1 rfl).cell 0
   have x1 : W.cell? ⟨w1.heap.size, 1, none⟩ = some (.int .i64 1) := (HM.out.hp.at_ 1 rfl).cell 1
   go_simp
   exact hK.out _ _ ⟨m0, true, m2, m3, m4, m5, gq, rfl, rfl, trivial, HM.out⟩
  ·cases ho
   simp at hun; subst hun
   clear hall hi
   go_simp
   refine (HP1.out _).mono ?_
   rintro e W' ⟨rfl, hb⟩
   exact hK.out _ _ ⟨m0, m1, true, m3, m4, m5, gq, rfl, rfl, trivial, HM.out.step hb⟩
  ·cases ho
   cases (getBX hall 1 rfl : m1 = true)
   cases (getBX hall 2 rfl : m2 = true)
   simp at hun; subst hun
   clear hall hi
   go_simp
   exact hK.out _ _ ⟨m0, true, true, true, m4, m5, gq, rfl, rfl, trivial, HM.out⟩
  ·cases ho
   simp at hun; subst hun
   clear hall hi
   have HN := Lib.hid HM.out.new
   go_simp
   exact hK.out _ _ ⟨m0, m1, m2, m3, true, m5, W.heap.size, rfl, rfl, trivial, HN.out⟩
  ·cases ho
   cases (getBX hall 0 rfl : m0 = true)
   cases (getBX hall 3 rfl : m3 = true)
   cases (getBX hall 4 rfl : m4 = true)
   simp at hun; subst hun
   clear hall hi
   have hsl := HM.out.b rfl rfl
   have hcb := HM.out.hp.at_ 2 rfl
   have hso := lsome_any (0, 1, 1, 4) [0, 1, 2, 3] _ w2.heap.size gq W hcb hsl (by decide) (by decide)
   clear hsl hcb
   go_simp
   refine hso.mono ?_
   rintro e W' ⟨rfl, hc, hb⟩
   clear hso
   exact hK.out _ _ ⟨true, m1, m2, true, true, true, gq, rfl, rfl, trivial, HM.out.chg 2 rfl hc hb⟩
 ·rintro l a W ⟨m0, m1, m2, m3, m4, m5, gq, rfl, rfl, _, hm⟩ hall
  cases (hall 0 (by decide) : m0 = true)
  cases (hall 1 (by decide) : m1 = true)
  cases (hall 2 (by decide) : m2 = true)
  cases (hall 3 (by decide) : m3 = true)
  cases (hall 4 (by decide) : m4 = true)
  cases (hall 5 (by decide) : m5 = true)
  clear hall
  have HA0 : Hid (Hp w [(w.heap.size, 38, cirL (fun _ => (0, 0, 0, 0))), (w1.heap.size, 34, [.int .i64 0, .int .i64 1]), (w2.heap.size, 38, cirL (somC (fun _ => (0, 1, 0, 1)) (0, 1, 1, 4) [0, 1, 2, 3]))] _) := Lib.hid hm.hp
  clear hm
  dsimp only [cwX, cond_true]
  go_wp2_with fail
  refine (HPa.out _).mono ?_
  rintro e w3 ⟨rfl, hb3⟩
  have HB1 := Lib.hid (HA0.out.step hb3)
  clear hb3
  go_wp2_with fail
  refine (HPb.out _).mono ?_
  rintro e w4 ⟨rfl, hb4⟩
  have hm4 := HB1.out.step hb4
  have hm5 := hm4.alloc (.cells #[.int .i64 6] 3)
  have hc5 := hm5.at_ 2 rfl
  have HB2 := Lib.hid hm5
  clear hb4 hm4 hm5
  go_wp2_with fail
  have hso := lsome_any (1, 1, -1, 1) [6] _ w2.heap.size w4.heap.size (w4.alloc (.cells #[.int .i64 6] 3)) hc5 (heap_alloc_new w4 _) (by decide) (by decide)
  refine hso.mono ?_
  rintro e w5 ⟨rfl, hc, hb⟩
  have HB3 := Lib.hid ((HB2.out.chg 2 rfl hc hb).cast (L' := [(w.heap.size, 38, cirL (fun _ => (0, 0, 0, 0))), (w1.heap.size, 34, [.int .i64 0, .int .i64 1]), (w2.heap.size, 38, cirL (somC (somC (fun _ => (0, 1, 0, 1)) (0, 1, 1, 4) [0, 1, 2, 3]) (1, 1, -1, 1) [6]))]) rfl)
  clear hso hc hb hc5
  have HJ := Lib.hid (HB3.out.row 0 rfl (cirL (somC (somC (fun _ => (0, 1, 0, 1)) (0, 1, 1, 4) [0, 1, 2, 3]) (1, 1, -1, 1) [6])))
  go_wp2_with (first | (refine wpList_load_row rfl 38 _ rfl (w2.heap.size) rfl 38 (cirL (somC (somC (fun _ => (0, 1, 0, 1)) (0, 1, 1, 4) [0, 1, 2, 3]) (1, 1, -1, 1) [6])).toArray (0, 0) _ (HB3.out.at_ 2 rfl) Tryz.underlying38 rfl (by rw [infoCircle, List.size_toArray, cirL_len]) ?_) | (refine wpList_store_rowTo rfl 38 _ _ rfl rfl (w.heap.size) (cirL (somC (somC (fun _ => (0, 1, 0, 1)) (0, 1, 1, 4) [0, 1, 2, 3]) (1, 1, -1, 1) [6])).toArray rfl rfl 38 (cirL (fun _ => (0, 0, 0, 0))).toArray (HB3.out.at_ 0 rfl) (by rw [infoCircle, List.size_toArray, cirL_len]) (by rw [List.size_toArray, List.size_toArray, cirL_len, cirL_len]) (cir_one _) ?_))
  refine bodyPost_ret (v := .tuple #[.agg (cirL (somC (somC (fun _ => (0, 1, 0, 1)) (0, 1, 1, 4) [0, 1, 2, 3]) (1, 1, -1, 1) [6])).toArray, .bool true]) ?_ rfl ⟨rfl, HJ.out.below⟩
  exact results_row_tmp rfl _ _ w.heap.size 38 _ (0, 0) _ rfl (HJ.out.at_ 0 rfl) Tryz.underlying38 rfl (by rw [infoCircle, List.size_toArray, cirL_len]) rfl
end Go.Proofs.YtendjepcjmfmfaaGreatDoor
