/- Part 37 of 47 of the proof of the law: contracts of the functions that it reaches, and plain facts. Conditions: those that each contract names. -/
import Derived.Test.YtendjepcjmfmfaaGreatDoorOrdB34
import Derived.Test.YtendjepcjmfmfaaGreatDoorOrdB36
import Derived.Test.YtendjepcjmfmfaaGreatDoorOrdB33
namespace Go.Proofs.YtendjepcjmfmfaaGreatDoor
open Go.RowKit
def nmS : Nat → ByteArray
 | 0 => ⟨#[101, 113, 117, 97, 108]⟩
 | 1 => ⟨#[112, 121, 116, 104, 97, 103, 111, 114, 101, 97, 110]⟩
 | 2 => ⟨#[109, 101, 97, 110, 116, 111, 110, 101]⟩
 | 3 => ⟨#[119, 101, 114, 99, 107, 109, 101, 105, 115, 116, 101, 114]⟩
 | 4 => ⟨#[118, 97, 108, 108, 111, 116, 116, 105]⟩
 | _ => ⟨#[107, 105, 114, 110, 98, 101, 114, 103, 101, 114]⟩
def nmD : Nat → Int
 | 0 => 12
 | 1 => 1
 | 2 => 4
 | 3 => 4
 | 4 => 6
 | _ => 4
def nmP : Nat → Nat → Int
 | 0 => fun _ => 1
 | 1 => fun i => if i = 8 then 1 else 0
 | 2 => fun i => if i = 8 then 4 else 0
 | 3 => fun i => if i = 0 ∨ i = 1 ∨ i = 2 ∨ i = 5 then 1 else 0
 | 4 => fun i => if i = 0 ∨ i = 1 ∨ i = 2 ∨ i = 3 ∨ i = 4 ∨ i = 11 then 1 else 0
 | _ => fun i => if i = 6 then 4 else 0
def nmQ : Nat → Nat → Int
 | 0 => fun _ => 0
 | 1 => fun _ => 0
 | 2 => fun i => if i = 8 then -11 else 1
 | 3 => fun _ => 0
 | 4 => fun _ => 0
 | _ => fun i => if i = 0 ∨ i = 1 ∨ i = 2 ∨ i = 3 then 1 else if i = 6 then -4 else 0
theorem nm_pln (k : Nat) : PlnC (nmD k) (nmP k) (nmQ k) := by
 match k with
 | 0 => exact ⟨(show (1 : Int) ≤ 12 ∧ (12 : Int) ≤ 12 by decide), fun i _ => by simp only [nmP]; (repeat' split) <;> decide, fun i _ => by simp only [nmQ]; (repeat' split) <;> decide⟩
 | 1 => exact ⟨(show (1 : Int) ≤ 1 ∧ (1 : Int) ≤ 12 by decide), fun i _ => by simp only [nmP]; (repeat' split) <;> decide, fun i _ => by simp only [nmQ]; (repeat' split) <;> decide⟩
 | 2 => exact ⟨(show (1 : Int) ≤ 4 ∧ (4 : Int) ≤ 12 by decide), fun i _ => by simp only [nmP]; (repeat' split) <;> decide, fun i _ => by simp only [nmQ]; (repeat' split) <;> decide⟩
 | 3 => exact ⟨(show (1 : Int) ≤ 4 ∧ (4 : Int) ≤ 12 by decide), fun i _ => by simp only [nmP]; (repeat' split) <;> decide, fun i _ => by simp only [nmQ]; (repeat' split) <;> decide⟩
 | 4 => exact ⟨(show (1 : Int) ≤ 6 ∧ (6 : Int) ≤ 12 by decide), fun i _ => by simp only [nmP]; (repeat' split) <;> decide, fun i _ => by simp only [nmQ]; (repeat' split) <;> decide⟩
 | _ + 5 => exact ⟨(show (1 : Int) ≤ 4 ∧ (4 : Int) ≤ 12 by decide), fun i _ => by simp only [nmP]; (repeat' split) <;> decide, fun i _ => by simp only [nmQ]; (repeat' split) <;> decide⟩
theorem cir12 {C C' : Nat → Tm} (h : (List.range 12).map C = (List.range 12).map C') : cirL C = cirL C' := cirL_ext fun i hi => by
 have := congrArg (fun l => l[i]?) h
 simpa [hi] using this
theorem lnamed_at (k : Nat) (hk : k < 6) (w : World) :
  Calls Tryz.prog 38 #[.string (nmS k)] w fun e w' => e = .returned (.tuple #[.agg (cirL (cirP (nmD k) (nmP k) (nmQ k))).toArray, .bool true]) ∧ Below w.heap.size w w' := by
 match k, hk with
 | 0, _ =>
  have h := lnamed_equal w
  rw [cir12 (C := (fun _ => (1, 12, 0, 1))) (C' := cirP (nmD 0) (nmP 0) (nmQ 0)) (by decide)] at h
  exact h
 | 1, _ =>
  have h := lnamed_pythagorean w
  rw [cir12 (C := (somC (fun _ => (0, 1, 0, 1)) (1, 1, 0, 1) [8])) (C' := cirP (nmD 1) (nmP 1) (nmQ 1)) (by decide)] at h
  exact h
 | 2, _ =>
  have h := lnamed_meantone w
  rw [cir12 (C := (somC (fun _ => (0, 1, 1, 4)) (1, 1, -11, 4) [8])) (C' := cirP (nmD 2) (nmP 2) (nmQ 2)) (by decide)] at h
  exact h
 | 3, _ =>
  have h := lnamed_werckmeister w
  rw [cir12 (C := (somC (fun _ => (0, 1, 0, 1)) (1, 4, 0, 1) [0, 1, 2, 5])) (C' := cirP (nmD 3) (nmP 3) (nmQ 3)) (by decide)] at h
  exact h
 | 4, _ =>
  have h := lnamed_vallotti w
  rw [cir12 (C := (somC (fun _ => (0, 1, 0, 1)) (1, 6, 0, 1) [0, 1, 2, 3, 4, 11])) (C' := cirP (nmD 4) (nmP 4) (nmQ 4)) (by decide)] at h
  exact h
 | 5, _ =>
  have h := lnamed_kirnberger w
  rw [cir12 (C := (somC (somC (fun _ => (0, 1, 0, 1)) (0, 1, 1, 4) [0, 1, 2, 3]) (1, 1, -1, 1) [6])) (C' := cirP (nmD 5) (nmP 5) (nmQ 5)) (by decide)] at h
  exact h
theorem tNamed_at (k : Nat) (hk : k < 6) (w : World) :
  Calls Tryz.prog 31 #[.string (nmS k)] w fun e w' => e = .returned (.tuple #[.agg (cirL (cirP (nmD k) (nmP k) (nmQ k))).toArray, .int .i64 0]) ∧ Below w.heap.size w w' := by
 match k, hk with
 | 0, _ =>
  have h := tNamed_equal w
  rw [cir12 (C := (temC (1, 12, 0, 1) [0, 1, 2, 3, 4, 5, 6, 7, 8, 9, 10, 11])) (C' := cirP (nmD 0) (nmP 0) (nmQ 0)) (by decide)] at h
  exact h
 | 1, _ =>
  have h := tNamed_pythagorean w
  rw [cir12 (C := (temC (1, 1, 0, 1) [8])) (C' := cirP (nmD 1) (nmP 1) (nmQ 1)) (by decide)] at h
  exact h
 | 2, _ =>
  have h := tNamed_meantone w
  rw [cir12 (C := (fun i => if i = 8 then (1, 1, -11, 4) else (0, 1, 1, 4))) (C' := cirP (nmD 2) (nmP 2) (nmQ 2)) (by decide)] at h
  exact h
 | 3, _ =>
  have h := tNamed_werckmeister w
  rw [cir12 (C := (temC (1, 4, 0, 1) [0, 1, 2, 5])) (C' := cirP (nmD 3) (nmP 3) (nmQ 3)) (by decide)] at h
  exact h
 | 4, _ =>
  have h := tNamed_vallotti w
  rw [cir12 (C := (temC (1, 6, 0, 1) [0, 1, 2, 3, 4, 11])) (C' := cirP (nmD 4) (nmP 4) (nmQ 4)) (by decide)] at h
  exact h
 | 5, _ =>
  have h := tNamed_kirnberger w
  rw [cir12 (C := (fun k => if k = 6 then (1, 1, -1, 1) else temC (0, 1, 1, 4) [0, 1, 2, 3] k)) (C' := cirP (nmD 5) (nmP 5) (nmQ 5)) (by decide)] at h
  exact h
set_option maxRecDepth 1000000 in
set_option maxHeartbeats 4000000 in
theorem lNames_any (w : World) : Calls Tryz.prog 39 #[] w fun e w' => e = .returned (.slice (some ⟨w.heap.size, 0, none⟩) 6 6) ∧ Blk w' w.heap.size 9 ((List.range 6).map fun k => .string (nmS k)) ∧ Below w.heap.size w w' := by
 go_enter Tryz.func39, Tryz.ntmps39
 go_wp2
 go_ret
 exact ⟨rfl, heap_alloc_new w _, bw_new (Below.refl _ _) _⟩
def ptL (X : Nat → Int × Int) : List Value := (List.range 12).flatMap fun i => [.int .i8 (X i).1, .int .i8 (X i).2]
def plC (n : Int) (X : Nat → Int × Int) (d : Int) : List Value := .int .u8 n :: (ptL X ++ [.int .u8 d])
theorem pt_fl (X : Nat → Int × Int) : ∀ n, ((List.range n).flatMap fun i => ([.int .i8 (X i).1, .int .i8 (X i).2] : List Value)).length = n * 2
 | 0 => rfl
 | n + 1 => by
  rw [List.range_succ, List.flatMap_append, List.length_append, pt_fl X n]
  simp; omega
theorem pt_len (X : Nat → Int × Int) : (ptL X).length = 24 := pt_fl X 12
theorem pl_len (n : Int) (X : Nat → Int × Int) (d : Int) : (plC n X d).length = 26 := by simp [plC, pt_len]
theorem pt_flat (X : Nat → Int × Int) : ∀ n i j, i < n → j < 2 → ((List.range n).flatMap fun i => ([.int .i8 (X i).1, .int .i8 (X i).2] : List Value))[i * 2 + j]? = ([.int .i8 (X i).1, .int .i8 (X i).2] : List Value)[j]?
 | 0, i, j, h, _ => absurd h (by omega)
 | n + 1, i, j, h, hj => by
  have hl : ((List.range n).flatMap fun i => ([.int .i8 (X i).1, .int .i8 (X i).2] : List Value)).length = n * 2 := pt_fl X n
  rw [List.range_succ, List.flatMap_append]
  by_cases e : i < n
  ·rw [List.getElem?_append_left (by rw [hl]; omega)]
   exact pt_flat X n i j e hj
  ·obtain rfl : i = n := by omega
   rw [List.getElem?_append_right (by rw [hl]; omega), hl]
   simp [show i * 2 + j - i * 2 = j by omega]
theorem pt_get (X : Nat → Int × Int) {i j : Nat} (hi : i < 12) (hj : j < 2) : (ptL X)[i * 2 + j]? = ([.int .i8 (X i).1, .int .i8 (X i).2] : List Value)[j]? := pt_flat X 12 i j hi hj
theorem pt_extract (X : Nat → Int × Int) {i : Nat} (hi : i < 12) : (ptL X).toArray.extract (i * 2) (i * 2 + 2) = #[.int .i8 (X i).1, .int .i8 (X i).2] := by
 apply Array.ext_getElem?
 intro j
 by_cases hj : j < 2
 ·have := pt_get X hi hj
  rw [Array.getElem?_extract]
  simp only [List.getElem?_toArray]
  rw [if_pos (by rw [List.size_toArray, pt_len]; omega), this]
 ·rw [Array.getElem?_eq_none (by simp [pt_len]; omega), Array.getElem?_eq_none (by simp; omega)]
theorem index_pt (X : Nat → Int × Int) {i : Nat} (hi : i < 12) (W : World) :
  (Instr.index 24 (.agg (ptL X).toArray) (.int .i64 (i : Int))).run Tryz.prog W = .ok (.agg #[.int .i8 (X i).1, .int .i8 (X i).2]) W := by
 have hs : (sizeOf 23).run Tryz.prog W = .ok 2 W := by
  have : (Tryz.prog.info? 23).map (·.size) = some 2 := by kernel_rfl
  cases hq : Tryz.prog.info? 23 with
  | none => rw [hq] at this; cases this
  | some x => rw [hq] at this; simp at this; simp [sizeOf, typeInfo, hq, this]
 have hag : (isAgg 23).run Tryz.prog W = .ok true W := by
  unfold isAgg
  rw [Sem.run_bind, run_underlying Tryz.underlying23 W]
  rfl
 have h0 : (0 : Int) ≤ (i : Int) := by omega
 have h1 : (i : Int) < ((12 : Nat) : Int) := by omega
 simp only [Instr.index, asIntOf, Sem.run_bind, Sem.run_pure, Result.andThen_ok, run_underlying Tryz.underlying24]
 rw [if_pos ⟨h0, h1⟩]
 simp only [Sem.run_bind, hs, Result.andThen_ok, part, hag, if_true, Int.toNat_natCast, Sem.run_pure, pt_extract X hi]
theorem pl_zero (n : Int) (X : Nat → Int × Int) (d : Int) : (plC n X d)[0]? = some (.int .u8 n) := rfl
theorem pl_end (n : Int) (X : Nat → Int × Int) (d : Int) : (plC n X d)[25]? = some (.int .u8 d) := by
 show (ptL X ++ [.int .u8 d])[24]? = _
 rw [List.getElem?_append_right (by rw [pt_len]; omega), pt_len]
 rfl
theorem pl_mid (n : Int) (X : Nat → Int × Int) (d : Int) {W : World} {g : Nat} {t : TypeId} (h : Blk W g t (plC n X d)) : W.rangeAt g 1 (ptL X) := fun j v hv => by
 have hj : j < 24 := by
  have := (List.getElem?_eq_some_iff.1 hv).1
  rwa [pt_len] at this
 show W.cell? ⟨g, 1 + j, none⟩ = _
 rw [h.cell, ← hv, show 1 + j = j + 1 by omega]
 show (ptL X ++ [.int .u8 d])[j]? = _
 rw [List.getElem?_append_left (by rw [pt_len]; omega)]
section
variable {P : Program}
theorem run_loadVar_pre (w : World) (g : Nat) (ty : TypeId) (cs : Array Value) (d : TypeDesc) (hc : ∀ j v, cs.toList[j]? = some v → w.cell? ⟨g, j, none⟩ = some v)
  (hu : P.underlying ty = some d) (hd : (match d with | .struct _ | .array _ _ => true | _ => false) = true) (hi : (P.info? ty).map (·.size) = some cs.size) :
  (loadVar ty ⟨g, 0, none⟩).run P w = .ok (.agg cs) w := by
 have hl : (loadCells ⟨g, 0, none⟩ cs.toList.length).run P w = .ok cs.toList.toArray w :=
  run_loadCells_list (P := P) w ⟨g, 0, none⟩ cs.toList (fun j v hv => by
   have hadd : (⟨g, 0, none⟩ : Addr).add j = ⟨g, j, none⟩ := by unfold Addr.add; split <;> simp_all
   rw [hadd]
   exact hc j v hv)
 cases hq : P.info? ty with
 | none => simp [hq] at hi
 | some i =>
  have hs : i.size = cs.size := by simpa [hq] using hi
  have hagg : (isAgg ty).run P w = .ok true w := by
   unfold isAgg
   rw [Sem.run_bind, run_underlying hu w]
   cases d <;> simp_all
  simp only [Array.length_toList, Array.toArray_toList] at hl
  simp [loadVar, Sem.run_bind, hagg, sizeOf, typeInfo, hq, hs, hl]
theorem wpList_load_pre {ops : Array Oper} {rest : List Oper} {o : Oper} {a : Act} {w : World} {Q : Exit → Act → World → Prop} (hgd : o.guard = none) (ty : TypeId) (x : Operand) (ho : o.op = .load ty x)
  (g : Nat) (hx : a.eval x = .pointer (some ⟨g, 0, none⟩)) (cs : Array Value) (d : TypeDesc) (hc : ∀ j v, cs.toList[j]? = some v → w.cell? ⟨g, j, none⟩ = some v)
  (hu : P.underlying ty = some d) (hd : (match d with | .struct _ | .array _ _ => true | _ => false) = true) (hi : (P.info? ty).map (·.size) = some cs.size)
  (h : wpList P ops Q rest (a.put o.dst (.agg cs)) w) : wpList P ops Q (o :: rest) a w :=
 wpList_plain hgd fun _ hK => by
  unfold Oper.wp execOp
  simp only [ho, hx, Instr.loadAt, Instr.sureAddr, Sem.run_bind, Sem.run_pure, Result.andThen_ok, run_loadVar_pre w g ty cs d hc hu hd hi]
  exact hK _ _ h
end
abbrev tuL (C : Nat → Tm) (p : Int) : List Value := cirL C ++ [.int .i64 p]
theorem tuL_len (C : Nat → Tm) (p : Int) : (tuL C p).length = 49 := by
 show (cirL C ++ [_]).length = 49
 rw [List.length_append, cirL_len]; rfl
theorem tu_cir {W : World} {g : Nat} {t : TypeId} {C : Nat → Tm} {p : Int} (h : Blk W g t (tuL C p)) : ∀ j v, (cirL C).toArray.toList[j]? = some v → W.cell? ⟨g, j, none⟩ = some v := fun j v hv => by
 rw [h.cell j]
 have hj : j < (cirL C).length := (List.getElem?_eq_some_iff.1 hv).1
 show (cirL C ++ [_])[j]? = some v
 rw [List.getElem?_append_left hj]
 exact hv
theorem tu_pitch {W : World} {g : Nat} {t : TypeId} {C : Nat → Tm} {p : Int} (h : Blk W g t (tuL C p)) : W.cell? ⟨g, 48, none⟩ = some (.int .i64 p) := by
 rw [h.cell 48]
 show (cirL C ++ [_])[48]? = _
 rw [List.getElem?_append_right (by rw [cirL_len]; decide), cirL_len]
 rfl
theorem infoTun : (Tryz.prog.info? 41).map (·.size) = some 49 := by kernel_rfl
def tuE (C : Nat → Tm) (p : Int) : Int := if ckE C ≠ 0 then ckE C else if p < 1 ∨ 1000 < p then 3 else 0
set_option maxRecDepth 1000000 in
set_option maxHeartbeats 4000000 in
theorem bCheck_any (C : Nat → Tm) (p : Int) (w : World) (hC : ∀ i, i < 12 → Tm64 (C i)) :
  Calls Tryz.prog 16 #[.agg (tuL C p).toArray] w fun e w' => e = .returned (.int .i64 (tuE C p)) ∧ Below w.heap.size w w' := by
 have HCK := Lib.hid (fun W => tcheck_any C W hC)
 have hx : ∀ c : Int, c = ckE C → tuE C p = if c ≠ 0 then c else if p < 1 ∨ 1000 < p then 3 else 0 := fun c hc => by subst hc; rfl
 obtain ⟨c, hc⟩ : ∃ c, c = ckE C := ⟨_, rfl⟩
 have HX := Lib.hid (hx c hc)
 rw [← hc] at HCK
 have hm0 := (Hp.start w).new 41 (tuL C p)
 simp only [World.size_alloc, List.nil_append] at hm0
 have HM0 := Lib.hid hm0
 clear hm0 hc hx hC
 go_enter Tryz.func16, Tryz.ntmps16
 go_wp2_with (refine wpList_load_pre rfl 38 _ rfl w.heap.size rfl (cirL C).toArray _ (tu_cir (HM0.out.at_ 0 rfl)) Tryz.underlying38 rfl (by rw [infoCircle, List.size_toArray, cirL_len]) ?_)
 refine (HCK.out _).mono ?_
 rintro e w1 ⟨rfl, hb1⟩
 have HM1 := Lib.hid (HM0.out.step hb1)
 clear hb1 HM0
 have y0 := tu_pitch (HM1.out.at_ 0 rfl)
 by_cases h0 : c = 0
 ·subst h0
  by_cases h1 : p < 1
  ·have HE := Lib.hid (HX.out.trans (by rw [if_neg (by simp), if_pos (Or.inl h1)]))
   go_wp2
   exact bodyPost_ret (v := .int .i64 3) (by simp [results, Tryz.results16, go_sem]) rfl ⟨by rw [HE.out], HM1.out.below⟩
  ·by_cases h2 : 1000 < p
   ·have HE := Lib.hid (HX.out.trans (by rw [if_neg (by simp), if_pos (Or.inr h2)]))
    go_wp2
    exact bodyPost_ret (v := .int .i64 3) (by simp [results, Tryz.results16, go_sem]) rfl ⟨by rw [HE.out], HM1.out.below⟩
   ·have HE := Lib.hid (HX.out.trans (by rw [if_neg (by simp), if_neg (by omega)]))
    go_wp2
    exact bodyPost_ret (v := .int .i64 0) (by simp [results, Tryz.results16, go_sem]) rfl ⟨by rw [HE.out], HM1.out.below⟩
 ·have HE := Lib.hid (HX.out.trans (by rw [if_pos h0]))
  have hz : (c != 0) = true := by simpa using h0
  go_wp2
  exact bodyPost_ret (v := .int .i64 c) (by simp [results, Tryz.results16, go_sem]) rfl ⟨by rw [HE.out], HM1.out.below⟩
def ntB (n : Int) : Bool := decide (0 ≤ n ∧ n ≤ 127)
set_option maxRecDepth 100000 in
theorem bnote_any (n : Int) (w : World) : Calls Tryz.prog 54 #[.int .i64 n] w fun e w' => e = .returned (.bool (ntB n)) ∧ w = w' := by
 have hr : ntB n = decide (0 ≤ n ∧ n ≤ 127) := rfl
 have HR := Lib.hid hr
 clear hr
 by_cases h0 : 0 ≤ n
 ·by_cases h1 : n ≤ 127
  ·have HE := Lib.hid (HR.out.trans (decide_eq_true ⟨h0, h1⟩))
   go_enter Tryz.func54, Tryz.ntmps54
   go_wp2
   go_ret
   exact ⟨by rw [HE.out]; rfl, rfl⟩
  ·have HE := Lib.hid (HR.out.trans (decide_eq_false fun k => h1 k.2))
   go_enter Tryz.func54, Tryz.ntmps54
   go_wp2
   go_ret
   exact ⟨by rw [HE.out]; rfl, rfl⟩
 ·have HE := Lib.hid (HR.out.trans (decide_eq_false fun k => h0 k.1))
  go_enter Tryz.func54, Tryz.ntmps54
  go_wp2
  go_ret
  exact ⟨by rw [HE.out]; rfl, rfl⟩
def ptP (n : Int) : Int × Int := if n = 3 then (6, 5) else if n = 4 then (5, 4) else if n = 5 then (4, 3) else if n = 7 then (3, 2) else if n = 8 then (8, 5) else if n = 9 then (5, 3) else if n = 12 then (2, 1) else (0, 0)
def ptB (n : Int) : Prop := n = 3 ∨ n = 4 ∨ n = 5 ∨ n = 7 ∨ n = 8 ∨ n = 9 ∨ n = 12
instance (n : Int) : Decidable (ptB n) := by unfold ptB; infer_instance
set_option maxRecDepth 100000 in
theorem bPart_ok (n : Int) (w : World) (h : ptB n) : Calls Tryz.prog 12 #[.int .i64 n] w fun e w' => e = .returned (.tuple #[.int .i64 (ptP n).1, .int .i64 (ptP n).2, .int .i64 0]) ∧ w = w' := by
 rcases h with rfl | rfl | rfl | rfl | rfl | rfl | rfl
 ·go_enter Tryz.func12, Tryz.ntmps12
  go_wp2
  exact bodyPost_ret (v := .tuple #[.int .i64 6, .int .i64 5, .int .i64 0]) (by simp [results, Tryz.results12, go_sem]) rfl ⟨rfl, rfl⟩
 ·go_enter Tryz.func12, Tryz.ntmps12
  go_wp2
  exact bodyPost_ret (v := .tuple #[.int .i64 5, .int .i64 4, .int .i64 0]) (by simp [results, Tryz.results12, go_sem]) rfl ⟨rfl, rfl⟩
 ·go_enter Tryz.func12, Tryz.ntmps12
  go_wp2
  exact bodyPost_ret (v := .tuple #[.int .i64 4, .int .i64 3, .int .i64 0]) (by simp [results, Tryz.results12, go_sem]) rfl ⟨rfl, rfl⟩
 ·go_enter Tryz.func12, Tryz.ntmps12
  go_wp2
  exact bodyPost_ret (v := .tuple #[.int .i64 3, .int .i64 2, .int .i64 0]) (by simp [results, Tryz.results12, go_sem]) rfl ⟨rfl, rfl⟩
 ·go_enter Tryz.func12, Tryz.ntmps12
  go_wp2
  exact bodyPost_ret (v := .tuple #[.int .i64 8, .int .i64 5, .int .i64 0]) (by simp [results, Tryz.results12, go_sem]) rfl ⟨rfl, rfl⟩
 ·go_enter Tryz.func12, Tryz.ntmps12
  go_wp2
  exact bodyPost_ret (v := .tuple #[.int .i64 5, .int .i64 3, .int .i64 0]) (by simp [results, Tryz.results12, go_sem]) rfl ⟨rfl, rfl⟩
 ·go_enter Tryz.func12, Tryz.ntmps12
  go_wp2
  exact bodyPost_ret (v := .tuple #[.int .i64 2, .int .i64 1, .int .i64 0]) (by simp [results, Tryz.results12, go_sem]) rfl ⟨rfl, rfl⟩
set_option maxRecDepth 100000 in
theorem bPart_no (n : Int) (w : World) (h : ¬ ptB n) : Calls Tryz.prog 12 #[.int .i64 n] w fun e w' => e = .returned (.tuple #[.int .i64 0, .int .i64 0, .int .i64 18]) ∧ w = w' := by
 unfold ptB at h
 have h3 : (n == 3) = false := by rw [beq_eq_false_iff_ne]; omega
 have h4 : (n == 4) = false := by rw [beq_eq_false_iff_ne]; omega
 have h5 : (n == 5) = false := by rw [beq_eq_false_iff_ne]; omega
 have h7 : (n == 7) = false := by rw [beq_eq_false_iff_ne]; omega
 have h8 : (n == 8) = false := by rw [beq_eq_false_iff_ne]; omega
 have h9 : (n == 9) = false := by rw [beq_eq_false_iff_ne]; omega
 have h12 : (n == 12) = false := by rw [beq_eq_false_iff_ne]; omega
 clear h
 go_enter Tryz.func12, Tryz.ntmps12
 go_wp2
 exact bodyPost_ret (v := .tuple #[.int .i64 0, .int .i64 0, .int .i64 18]) (by simp [results, Tryz.results12, go_sem]) rfl ⟨rfl, rfl⟩
set_option maxRecDepth 1000000 in
set_option maxHeartbeats 4000000 in
theorem tBetween_gen (C : Nat → Tm) (m n : Nat) (s0 s1 s2 s3 s4 s5 : Int) (w : World) (ht : Tab w) (hC : ∀ i, i < 12 → Tm64 (C i)) (hk : ckE C = 0) (hm : m ≤ 127) (hn : n ≤ 127)
  (hB : ∀ W, Tab W → Calls Tryz.prog 69 #[.agg (cirL C).toArray, .int .i64 (m : Int), .int .i64 (n : Int)] W fun e w' => e = .returned (.tuple #[szv s0 s1 s2 s3 s4 s5, .int .i64 0]) ∧ Below W.heap.size W w') :
  Calls Tryz.prog 56 #[.agg (cirL C).toArray, .int .i64 (m : Int), .int .i64 (n : Int)] w fun e w' => e = .returned (.tuple #[szv s0 s1 s2 s3 s4 s5, .int .i64 0]) ∧ Below w.heap.size w w' := by
 have hck := fun W => tcheck_any C W hC
 rw [hk] at hck
 have HCK := Lib.hid hck
 have HB := Lib.hid hB
 have HT := Lib.hid ht
 have hm0 := ((Hp.start w).new 38 (cirL C)).new 49 [.int .i64 0, .int .i64 0, .int .i64 0, .int .i64 0, .int .i64 0, .int .i64 0]
 simp only [World.size_alloc, List.nil_append, List.cons_append] at hm0
 have HM0 := Lib.hid hm0
 clear hm0 ht hB hck hk
 obtain ⟨x, hx⟩ : ∃ x : Int, x = (m : Int) := ⟨_, rfl⟩
 obtain ⟨y, hy⟩ : ∃ y : Int, y = (n : Int) := ⟨_, rfl⟩
 rw [← hx, ← hy] at HB
 rw [← hx, ← hy]
 have x0 : ¬ x < 0 := by omega
 have x1 : ¬ 127 < x := by omega
 have y0 : ¬ y < 0 := by omega
 have y1 : ¬ 127 < y := by omega
 clear hx hy hm hn
 go_enter Tryz.func56, Tryz.ntmps56
 go_wp2_with (refine wpList_load_row rfl 38 _ rfl w.heap.size rfl 38 (cirL C).toArray (0, 0) _ (HM0.out.at_ 0 rfl) Tryz.underlying38 rfl (by rw [infoCircle, List.size_toArray, cirL_len]) ?_)
 refine (HCK.out _).mono ?_
 rintro e w1 ⟨rfl, hb1⟩
 have HM1 := Lib.hid (HM0.out.step hb1)
 clear hb1
 go_wp2_with (refine wpList_load_row rfl 38 _ rfl w.heap.size rfl 38 (cirL C).toArray (0, 0) _ (HM1.out.at_ 0 rfl) Tryz.underlying38 rfl (by rw [infoCircle, List.size_toArray, cirL_len]) ?_)
 refine (HB.out _ (HT.out.below HM1.out.below)).mono ?_
 rintro e w2 ⟨rfl, hb2⟩
 have hq := HM1.out.step hb2
 obtain ⟨z0, z1, z2, z3, z4, z5⟩ := six_of (hq.at_ 1 rfl)
 obtain ⟨f0, f1, f2, f3, f4, f5⟩ := six_free (hq.at_ 1 rfl)
 have HQ := Lib.hid (hq.put6s 1 rfl (.int .i64 s0) (.int .i64 s1) (.int .i64 s2) (.int .i64 s3) (.int .i64 s4) (.int .i64 s5))
 clear hb2 hq
 go_wp2
 exact bodyPost_ret (v := .tuple #[szv s0 s1 s2 s3 s4 s5, .int .i64 0]) (by simp [results, Tryz.results56, go_sem, z0, z1, z2, z3, z4, z5, f0, f1, f2, f3, f4, f5]) rfl ⟨rfl, HQ.out⟩
theorem tBetween_pl {d : Int} {P S : Nat → Int} (h : PlnC d P S) {m n : Nat} (hm : m ≤ 127) (hn : n ≤ 127) (w : World) (ht : Tab w) :
  Calls Tryz.prog 56 #[.agg (cirL (cirP d P S)).toArray, .int .i64 (m : Int), .int .i64 (n : Int)] w fun e w' => e = .returned (.tuple #[szD (vB d P S m n).1 (vB d P S m n).2.1 (vB d P S m n).2.2 d, .int .i64 0]) ∧ Below w.heap.size w w' :=
 tBetween_gen (cirP d P S) m n _ _ _ _ _ _ w ht (plan_tm h) (ckE_pl h) hm hn (fun W hT => tbetween_pl h (by omega) (by omega) W hT)
def rtT (x y z D : Int) : Int × Int × Int := if lgZ (x + 7 * D) y z < 0 ∨ 0 < lgZ (x - 7 * D) y z then (0, 0, 3) else (rtLo x y z D, rtHi x y z D, 0)
theorem rtV_rtT (x y z D : Int) : rtV x y z D = .tuple #[.agg #[.int .i64 (rtT x y z D).1, .int .i64 (rtT x y z D).2.1], .int .i64 (rtT x y z D).2.2] := by
 unfold rtV rtT
 split <;> rfl
theorem rtT_same {x y z D X Y Z E : Int} (hD : 1 ≤ D) (hE : 1 ≤ E) (h0 : X * D = x * E) (h1 : Y * D = y * E) (h2 : Z * D = z * E) : rtT X Y Z E = rtT x y z D := by
 have f : ∀ s : Int, D * lgZ (X + s * E) Y Z = E * lgZ (x + s * D) y z := fun s => by
  rw [← lg_mul, ← lg_mul]
  have e0 : D * (X + s * E) = E * (x + s * D) := by
   rw [Int.mul_add, Int.mul_add, Int.mul_comm D X, h0, Int.mul_comm x E]
   congr 1
   simp only [Int.mul_comm, Int.mul_left_comm]
  rw [e0, Int.mul_comm D Y, h1, Int.mul_comm y E, Int.mul_comm D Z, h2, Int.mul_comm z E]
 have f7 := f 7
 have g7 := f (-7)
 have hs : ∀ s : Int, sgn (lgZ (X + s * E) Y Z) = sgn (lgZ (x + s * D) y z) := fun s => by
  rw [← sgn_mul_pos (show (0 : Int) < D by omega), f s, sgn_mul_pos (by omega)]
 have k1 : lgZ (X + 7 * E) Y Z < 0 ↔ lgZ (x + 7 * D) y z < 0 := by rw [← sgn_neg_iff, ← sgn_neg_iff, hs 7]
 have k2 : 0 < lgZ (X - 7 * E) Y Z ↔ 0 < lgZ (x - 7 * D) y z := by
  rw [show X - 7 * E = X + -7 * E by omega, show x - 7 * D = x + -7 * D by omega, ← sgn_pos_iff, ← sgn_pos_iff, hs (-7)]
 unfold rtT
 by_cases h : lgZ (x + 7 * D) y z < 0 ∨ 0 < lgZ (x - 7 * D) y z
 ·rw [if_pos h, if_pos (h.imp k1.2 k2.2)]
 ·rw [if_neg h, if_neg (fun k => h (k.imp k1.1 k2.1)), (rt_same hD hE h0 h1 h2).1, (rt_same hD hE h0 h1 h2).2]
theorem rtT_bd {x y z D : Int} (hx : -6000 ≤ x ∧ x ≤ 6000) (hy : -6000 ≤ y ∧ y ≤ 6000) (hz : -6000 ≤ z ∧ z ≤ 6000) (hD : 1 ≤ D ∧ D ≤ 240) : (0 ≤ (rtT x y z D).1 ∧ (rtT x y z D).1 ≤ 128000000) ∧ ((rtT x y z D).1 ≤ (rtT x y z D).2.1 ∧ (rtT x y z D).2.1 ≤ (rtT x y z D).1 + 1) := by
 unfold rtT
 by_cases h : lgZ (x + 7 * D) y z < 0 ∨ 0 < lgZ (x - 7 * D) y z
 ·rw [if_pos h]; exact ⟨⟨by decide, by decide⟩, by decide, by decide⟩
 ·rw [if_neg h]
  obtain ⟨⟨h1, h2⟩, _⟩ := rtLo_ok hx hy hz hD (fun k => h ((far_iff x y z D).1 k))
  refine ⟨⟨by dsimp only; omega, h2⟩, ?_⟩
  dsimp only
  unfold rtHi
  split <;> omega
theorem ratio_szD {x y z d : Int} (hd : 1 ≤ d ∧ d ≤ 240) (h : Bx x y z) (w : World) (ht : Tab w) :
  Calls Tryz.prog 18 #[szD x y z d] w fun e w' => e = .returned (.tuple #[.agg #[.int .i64 (rtT x y z d).1, .int .i64 (rtT x y z d).2.1], .int .i64 (rtT x y z d).2.2]) ∧ Below w.heap.size w w' := by
 obtain ⟨hr, X, Y, Z, E, hp, hE, e0, e1, e2⟩ := plan_prt hd h.1 h.2.1 h.2.2
 refine (ratio_all _ _ _ _ _ _ X Y Z E w ht hr hp).mono ?_
 rintro e w' ⟨he, hb⟩
 exact ⟨by rw [he, rtV_rtT, rtT_same hd.1 hE.1 e0 e1 e2], hb⟩
set_option maxRecDepth 1000000 in
set_option maxHeartbeats 4000000 in
theorem bfreq_gen (C : Nat → Tm) (p n b0 b1 b2 s0 s1 s2 s3 s4 s5 : Int) (w : World) (ht : Tab w) (hp : 1 ≤ p ∧ p ≤ 1000) (hb0 : 0 ≤ b0 ∧ b0 ≤ 128000001) (hb1 : 0 ≤ b1 ∧ b1 ≤ 128000001)
  (hB : ∀ W, Tab W → Calls Tryz.prog 56 #[.agg (cirL C).toArray, .int .i64 69, .int .i64 n] W fun e w' => e = .returned (.tuple #[szv s0 s1 s2 s3 s4 s5, .int .i64 0]) ∧ Below W.heap.size W w')
  (hR : ∀ W, Tab W → Calls Tryz.prog 18 #[szv s0 s1 s2 s3 s4 s5] W fun e w' => e = .returned (.tuple #[.agg #[.int .i64 b0, .int .i64 b1], .int .i64 b2]) ∧ Below W.heap.size W w') :
  Calls Tryz.prog 55 #[.agg (tuL C p).toArray, .int .i64 n] w fun e w' => e = .returned (.tuple #[.agg #[.int .i64 (p * b0), .int .i64 (p * b1)], .int .i64 b2]) ∧ Below w.heap.size w w' := by
 have HB := Lib.hid hB
 have HR := Lib.hid hR
 have HT := Lib.hid ht
 have m0 : 0 ≤ p * b0 := Int.mul_nonneg (by omega) hb0.1
 have l0 : p * b0 ≤ 1000 * 128000001 := Int.mul_le_mul hp.2 hb0.2 hb0.1 (by decide)
 have m1 : 0 ≤ p * b1 := Int.mul_nonneg (by omega) hb1.1
 have l1 : p * b1 ≤ 1000 * 128000001 := Int.mul_le_mul hp.2 hb1.2 hb1.1 (by decide)
 obtain ⟨v0, hv0⟩ : ∃ v, v = p * b0 := ⟨_, rfl⟩
 obtain ⟨v1, hv1⟩ : ∃ v, v = p * b1 := ⟨_, rfl⟩
 have hw0 : IntKind.i64.wrap (p * b0) = v0 := by rw [hv0]; exact IntWalk.i64_in _ (by omega)
 have hw1 : IntKind.i64.wrap (p * b1) = v1 := by rw [hv1]; exact IntWalk.i64_in _ (by omega)
 rw [← hv0, ← hv1]
 have HW := Lib.hid (And.intro hw0 hw1)
 have hm0 := ((Hp.start w).new 41 (tuL C p)).new 53 [.int .i64 0, .int .i64 0]
 simp only [World.size_alloc, List.nil_append, List.cons_append] at hm0
 have HM0 := Lib.hid hm0
 clear hm0 hB hR ht hp hb0 hb1 m0 m1 l0 l1 hv0 hv1 hw0 hw1
 go_enter Tryz.func55, Tryz.ntmps55
 go_wp2_with (refine wpList_load_pre rfl 38 _ rfl w.heap.size rfl (cirL C).toArray _ (tu_cir (HM0.out.at_ 0 rfl)) Tryz.underlying38 rfl (by rw [infoCircle, List.size_toArray, cirL_len]) ?_)
 refine (HB.out _ (HT.out.below HM0.out.below)).mono ?_
 rintro e w1 ⟨rfl, hb1⟩
 have HM1 := Lib.hid (HM0.out.step hb1)
 clear hb1 HM0
 obtain ⟨g2, hg2⟩ : ∃ g, g = w1.heap.size := ⟨_, rfl⟩
 have hm2 := HM1.out.new 49 [.int .i64 s0, .int .i64 s1, .int .i64 s2, .int .i64 s3, .int .i64 s4, .int .i64 s5]
 rw [← hg2] at hm2
 simp only [List.nil_append, List.cons_append] at hm2
 have HM2 := Lib.hid hm2
 obtain ⟨p0, p1, p2, p3, p4, p5⟩ := six_of (hm2.at_ 2 rfl)
 clear hm2 HM1
 go_wp2_with fail
 refine (HR.out _ (HT.out.below HM2.out.below)).mono ?_
 rintro e w2 ⟨rfl, hb2⟩
 have HM3 := Lib.hid (HM2.out.step hb2)
 clear hb2 HM2 p0 p1 p2 p3 p4 p5
 obtain ⟨g3, hg3⟩ : ∃ g, g = w2.heap.size := ⟨_, rfl⟩
 have hm4 := HM3.out.new 53 [.int .i64 b0, .int .i64 b1]
 rw [← hg3] at hm4
 simp only [List.nil_append, List.cons_append] at hm4
 have HM4 := Lib.hid hm4
 have y9 := tu_pitch (hm4.at_ 0 rfl)
 obtain ⟨y0, y1⟩ := two_of (hm4.at_ 1 rfl)
 obtain ⟨y2, y3⟩ := two_of (hm4.at_ 3 rfl)
 have f0 := (hm4.at_ 1 rfl).frozen 0
 have f1 := (hm4.at_ 1 rfl).frozen 1
 have HZ := Lib.hid (hm4.put2 1 rfl (.int .i64 v0) (.int .i64 v1))
 obtain ⟨hw0, hw1⟩ := HW.out
 clear hm4 HM3
 go_wp2_with fail
 obtain ⟨WZ, hWZ⟩ : ∃ WZ, WZ = ((w2.alloc (.cells #[.int .i64 b0, .int .i64 b1] 53)).setCell ⟨w.heap.size + 1, 0, none⟩ (.int .i64 v0)).setCell ⟨w.heap.size + 1, 1, none⟩ (.int .i64 v1) := ⟨_, rfl⟩
 rw [← hWZ] at HZ ⊢
 obtain ⟨z0, z1⟩ := two_of (HZ.out.at_ 1 rfl)
 exact bodyPost_ret (v := .tuple #[.agg #[.int .i64 v0, .int .i64 v1], .int .i64 b2]) (by simp [results, Tryz.results55, go_sem, z0, z1]) rfl ⟨rfl, HZ.out.below⟩
def frT (d : Int) (P S : Nat → Int) (p : Int) (n : Nat) : Int × Int × Int :=
 (p * (rtT (vB d P S 69 n).1 (vB d P S 69 n).2.1 (vB d P S 69 n).2.2 d).1, p * (rtT (vB d P S 69 n).1 (vB d P S 69 n).2.1 (vB d P S 69 n).2.2 d).2.1, (rtT (vB d P S 69 n).1 (vB d P S 69 n).2.1 (vB d P S 69 n).2.2 d).2.2)
theorem bfreq_pl {d : Int} {P S : Nat → Int} (h : PlnC d P S) (p : Int) (hp : 1 ≤ p ∧ p ≤ 1000) {n : Nat} (hn : n ≤ 127) (w : World) (ht : Tab w) :
  Calls Tryz.prog 55 #[.agg (tuL (cirP d P S) p).toArray, .int .i64 (n : Int)] w fun e w' => e = .returned (.tuple #[.agg #[.int .i64 (frT d P S p n).1, .int .i64 (frT d P S p n).2.1], .int .i64 (frT d P S p n).2.2]) ∧ Below w.heap.size w w' := by
 have hb := vB_Bx h (m := 69) (n := n) (by decide) (by omega)
 have hd := pl_d h
 have h2 := rtT_bd hb.1 hb.2.1 hb.2.2 hd
 exact bfreq_gen (cirP d P S) p n _ _ _ _ _ _ _ _ _ w ht hp (by omega) (by omega) (fun W hT => tBetween_pl h (m := 69) (by decide) hn W hT) (fun W hT => ratio_szD hd hb W hT)
set_option maxRecDepth 1000000 in
set_option maxHeartbeats 4000000 in
theorem bFrequency_ok (C : Nat → Tm) (p n v0 v1 v2 : Int) (w : World) (ht : Tab w) (hC : ∀ i, i < 12 → Tm64 (C i)) (hk : tuE C p = 0) (hn : ntB n = true)
  (hF : ∀ W, Tab W → Calls Tryz.prog 55 #[.agg (tuL C p).toArray, .int .i64 n] W fun e w' => e = .returned (.tuple #[.agg #[.int .i64 v0, .int .i64 v1], .int .i64 v2]) ∧ Below W.heap.size W w') :
  Calls Tryz.prog 23 #[.agg (tuL C p).toArray, .int .i64 n] w fun e w' => e = .returned (.tuple #[.agg #[.int .i64 v0, .int .i64 v1], .int .i64 v2]) ∧ Below w.heap.size w w' := by
 have hck := fun W => bCheck_any C p W hC
 rw [hk] at hck
 have HCK := Lib.hid hck
 have hnt := fun W => bnote_any n W
 rw [hn] at hnt
 have HNT := Lib.hid hnt
 have HF := Lib.hid hF
 have HT := Lib.hid ht
 have hm0 := ((Hp.start w).new 41 (tuL C p)).new 53 [.int .i64 0, .int .i64 0]
 simp only [World.size_alloc, List.nil_append, List.cons_append] at hm0
 have HM0 := Lib.hid hm0
 clear hm0 hk hC hck hn hnt hF ht
 go_enter Tryz.func23, Tryz.ntmps23
 go_wp2_with (refine wpList_load_row rfl 41 _ rfl w.heap.size rfl 41 (tuL C p).toArray (0, 0) _ (HM0.out.at_ 0 rfl) Tryz.underlying41 rfl (by rw [infoTun, List.size_toArray, tuL_len]) ?_)
 refine (HCK.out _).mono ?_
 rintro e w1 ⟨rfl, hb1⟩
 have HM1 := Lib.hid (HM0.out.step hb1)
 clear hb1 HM0
 go_wp2_with fail
 refine (HNT.out _).mono ?_
 rintro e w2 ⟨rfl, rfl⟩
 go_wp2_with (refine wpList_load_row rfl 41 _ rfl w.heap.size rfl 41 (tuL C p).toArray (0, 0) _ (HM1.out.at_ 0 rfl) Tryz.underlying41 rfl (by rw [infoTun, List.size_toArray, tuL_len]) ?_)
 refine (HF.out _ (HT.out.below HM1.out.below)).mono ?_
 rintro e w3 ⟨rfl, hb3⟩
 have HM2 := Lib.hid (HM1.out.step hb3)
 clear hb3 HM1
 obtain ⟨y0, y1⟩ := two_of (HM2.out.at_ 1 rfl)
 have f0 := (HM2.out.at_ 1 rfl).frozen 0
 have f1 := (HM2.out.at_ 1 rfl).frozen 1
 have HZ := Lib.hid (HM2.out.put2 1 rfl (.int .i64 v0) (.int .i64 v1))
 clear HM2
 go_wp2_with fail
 exact bodyPost_ret (v := .tuple #[.agg #[.int .i64 v0, .int .i64 v1], .int .i64 v2]) (by simp [results, Tryz.results23, go_sem, y0, y1, f0, f1]) rfl ⟨rfl, HZ.out.below⟩
theorem tratio_at {n q a0 a1 a2 b0 b1 b2 : Nat} (x y z : Int) (w : World) (hn : 1 ≤ n ∧ n ≤ 1000) (hq : 1 ≤ q ∧ q ≤ 1000) (f1 : Fac n a0 a1 a2 1) (f2 : Fac q b0 b1 b2 1) (hx : x = (a0 : Int) - b0) (hy : y = (a1 : Int) - b1) (hz : z = (a2 : Int) - b2) (hb : Bx x y z) :
  Calls Tryz.prog 61 #[.int .i64 (n : Int), .int .i64 (q : Int)] w fun e w' => e = .returned (.tuple #[szv x 1 y 1 z 1, .int .i64 0]) ∧ Below w.heap.size w w' := by
 refine (ratio_any n q w hn.1 (by omega) hq.1 (by omega)).mono ?_
 rintro e w' ⟨⟨rn, rd, a0', b0', a1', b1', a2', b2', ⟨g1, g2⟩, m2, m3, m5, he⟩, hbl⟩
 obtain ⟨rfl, rfl, rfl, rfl⟩ := fac_uniq g1 f1 m2.1 m3.1 m5.1 (by decide) (by decide) (by decide)
 obtain ⟨rfl, rfl, rfl, rfl⟩ := fac_uniq g2 f2 m2.2 m3.2 m5.2 (by decide) (by decide) (by decide)
 rw [if_pos rfl, ← hx, ← hy, ← hz, t_ivR_ones hb.1 hb.2.1 hb.2.2] at he
 exact ⟨he, hbl⟩
def ppE (n : Int) : Int × Int × Int := if n = 3 then (1, 1, -1) else if n = 4 then (-2, 0, 1) else if n = 5 then (2, -1, 0) else if n = 7 then (-1, 1, 0) else if n = 8 then (3, 0, -1) else if n = 9 then (0, -1, 1) else (1, 0, 0)
theorem ppE_bd (n : Int) : (-3 ≤ (ppE n).1 ∧ (ppE n).1 ≤ 3) ∧ (-1 ≤ (ppE n).2.1 ∧ (ppE n).2.1 ≤ 1) ∧ (-1 ≤ (ppE n).2.2 ∧ (ppE n).2.2 ≤ 1) := by
 unfold ppE
 repeat' split
 all_goals exact ⟨⟨by decide, by decide⟩, ⟨by decide, by decide⟩, by decide, by decide⟩
theorem ppR {n : Int} (h : ptB n) (w : World) : Calls Tryz.prog 61 #[.int .i64 (ptP n).1, .int .i64 (ptP n).2] w fun e w' => e = .returned (.tuple #[szv (ppE n).1 1 (ppE n).2.1 1 (ppE n).2.2 1, .int .i64 0]) ∧ Below w.heap.size w w' := by
 rcases h with rfl | rfl | rfl | rfl | rfl | rfl | rfl
 ·exact tratio_at 1 1 (-1) w (by decide) (by decide) (⟨by decide⟩ : Fac 6 1 1 0 1) (⟨by decide⟩ : Fac 5 0 0 1 1) rfl rfl rfl (by unfold Bx; omega)
 ·exact tratio_at (-2) 0 1 w (by decide) (by decide) (⟨by decide⟩ : Fac 5 0 0 1 1) (⟨by decide⟩ : Fac 4 2 0 0 1) rfl rfl rfl (by unfold Bx; omega)
 ·exact tratio_at 2 (-1) 0 w (by decide) (by decide) (⟨by decide⟩ : Fac 4 2 0 0 1) (⟨by decide⟩ : Fac 3 0 1 0 1) rfl rfl rfl (by unfold Bx; omega)
 ·exact tratio_at (-1) 1 0 w (by decide) (by decide) (⟨by decide⟩ : Fac 3 0 1 0 1) (⟨by decide⟩ : Fac 2 1 0 0 1) rfl rfl rfl (by unfold Bx; omega)
 ·exact tratio_at 3 0 (-1) w (by decide) (by decide) (⟨by decide⟩ : Fac 8 3 0 0 1) (⟨by decide⟩ : Fac 5 0 0 1 1) rfl rfl rfl (by unfold Bx; omega)
 ·exact tratio_at 0 (-1) 1 w (by decide) (by decide) (⟨by decide⟩ : Fac 5 0 0 1 1) (⟨by decide⟩ : Fac 3 0 1 0 1) rfl rfl rfl (by unfold Bx; omega)
 ·exact tratio_at 1 0 0 w (by decide) (by decide) (⟨by decide⟩ : Fac 2 1 0 0 1) (⟨by decide⟩ : Fac 1 0 0 0 1) rfl rfl rfl (by unfold Bx; omega)
set_option maxRecDepth 1000000 in
set_option maxHeartbeats 4000000 in
theorem bdir_gen (C : Nat → Tm) (p l s t dv s0 s1 s2 s3 s4 s5 r0 r1 r2 r3 r4 r5 : Int) (w : World) (ht : Tab w) (hs : ptB s) (hl : 0 ≤ l ∧ l ≤ 127) (hlt : l + s = t)
  (hB : ∀ W, Tab W → Calls Tryz.prog 56 #[.agg (cirL C).toArray, .int .i64 l, .int .i64 t] W fun e w' => e = .returned (.tuple #[szv s0 s1 s2 s3 s4 s5, .int .i64 0]) ∧ Below W.heap.size W w')
  (hR : ∀ W, Calls Tryz.prog 61 #[.int .i64 (ptP s).1, .int .i64 (ptP s).2] W fun e w' => e = .returned (.tuple #[szv r0 r1 r2 r3 r4 r5, .int .i64 0]) ∧ Below W.heap.size W w')
  (hC : ∀ W, Tab W → Calls Tryz.prog 46 #[szv s0 s1 s2 s3 s4 s5, szv r0 r1 r2 r3 r4 r5] W fun e w' => e = .returned (.tuple #[.int .i64 dv, .int .i64 0]) ∧ Below W.heap.size W w') :
  Calls Tryz.prog 58 #[.agg (tuL C p).toArray, .agg #[.int .i64 l, .int .i64 s]] w fun e w' => e = .returned (.tuple #[.int .i64 dv, .int .i64 0]) ∧ Below w.heap.size w w' := by
 have hp := fun W => bPart_ok s W hs
 have hs12 : 0 ≤ s ∧ s ≤ 12 := by unfold ptB at hs; omega
 have hw : IntKind.i64.wrap (l + s) = t := by rw [hlt]; exact IntWalk.i64_in _ (by omega)
 obtain ⟨u, hu⟩ : ∃ u, u = (ptP s).1 := ⟨_, rfl⟩
 obtain ⟨v, hv⟩ : ∃ u, u = (ptP s).2 := ⟨_, rfl⟩
 rw [← hu, ← hv] at hp hR
 have HP := Lib.hid hp
 have HB := Lib.hid hB
 have HR := Lib.hid hR
 have HC := Lib.hid hC
 have HT := Lib.hid ht
 have HW := Lib.hid hw
 have hm0 := ((Hp.start w).new 41 (tuL C p)).new 67 [.int .i64 l, .int .i64 s]
 simp only [World.size_alloc, List.nil_append, List.cons_append] at hm0
 have HM0 := Lib.hid hm0
 obtain ⟨y0, y1⟩ := two_of (hm0.at_ 1 rfl)
 clear hm0 hp hB hR hC ht hw hs hl hlt hs12 hu hv
 go_enter Tryz.func58, Tryz.ntmps58
 go_wp2_with fail
 refine (HP.out _).mono ?_
 rintro e w1 ⟨rfl, rfl⟩
 go_wp2_with fail
 refine (HR.out _).mono ?_
 rintro e w1 ⟨rfl, hb1⟩
 have HM1 := Lib.hid (HM0.out.step hb1)
 clear hb1 HM0 y0 y1
 have hm2 := HM1.out.new 49 [.int .i64 r0, .int .i64 r1, .int .i64 r2, .int .i64 r3, .int .i64 r4, .int .i64 r5]
 simp only [List.nil_append, List.cons_append] at hm2
 have HM2 := Lib.hid hm2
 obtain ⟨y0, y1⟩ := two_of (hm2.at_ 1 rfl)
 have hw := HW.out
 clear hm2 HM1
 go_wp2_with (refine wpList_load_pre rfl 38 _ rfl w.heap.size rfl (cirL C).toArray _ (tu_cir (HM2.out.at_ 0 rfl)) Tryz.underlying38 rfl (by rw [infoCircle, List.size_toArray, cirL_len]) ?_)
 refine (HB.out _ (HT.out.below HM2.out.below)).mono ?_
 rintro e w2 ⟨rfl, hb2⟩
 have HM3 := Lib.hid (HM2.out.step hb2)
 clear hb2 HM2 y0 y1 hw
 have hm4 := HM3.out.new 49 [.int .i64 s0, .int .i64 s1, .int .i64 s2, .int .i64 s3, .int .i64 s4, .int .i64 s5]
 simp only [List.nil_append, List.cons_append] at hm4
 have HM4 := Lib.hid hm4
 obtain ⟨p0, p1, p2, p3, p4, p5⟩ := six_of (hm4.at_ 2 rfl)
 obtain ⟨q0, q1, q2, q3, q4, q5⟩ := six_of (hm4.at_ 3 rfl)
 clear hm4 HM3
 go_wp2_with fail
 refine (HC.out _ (HT.out.below HM4.out.below)).mono ?_
 rintro e w3 ⟨rfl, hb3⟩
 have HZ := Lib.hid (HM4.out.step hb3)
 clear hb3 HM4 p0 p1 p2 p3 p4 p5 q0 q1 q2 q3 q4 q5
 go_wp2_with fail
 exact bodyPost_ret (v := .tuple #[.int .i64 dv, .int .i64 0]) (by simp [results, Tryz.results58, go_sem]) rfl ⟨rfl, HZ.out.below⟩
def drT (d : Int) (P S : Nat → Int) (l n : Nat) (s : Int) : Int := sgn (lgZ ((vB d P S l n).1 - d * (ppE s).1) ((vB d P S l n).2.1 - d * (ppE s).2.1) ((vB d P S l n).2.2 - d * (ppE s).2.2))
theorem bdir_pl {d : Int} {P S : Nat → Int} (h : PlnC d P S) (p s : Int) (hs : ptB s) {l n : Nat} (hn : n ≤ 127) (hls : (l : Int) + s = n) (w : World) (ht : Tab w) :
  Calls Tryz.prog 58 #[.agg (tuL (cirP d P S) p).toArray, .agg #[.int .i64 (l : Int), .int .i64 s]] w fun e w' => e = .returned (.tuple #[.int .i64 (drT d P S l n s), .int .i64 0]) ∧ Below w.heap.size w w' := by
 have hs12 : 3 ≤ s ∧ s ≤ 12 := by unfold ptB at hs; omega
 have hb := vB_Bx h (m := l) (n := n) (by omega) (by omega)
 have hd := pl_d h
 have hp := ppE_bd s
 refine bdir_gen (cirP d P S) p l s n _ _ _ _ _ _ _ _ _ _ _ _ _ w ht hs (by omega) hls (fun W hT => tBetween_pl h (m := l) (by omega) hn W hT) (fun W => ppR hs W) (fun W hT => ?_)
 rw [szv_szD (d := d) (by omega)]
 have k : ∀ x : Int, -3 ≤ x ∧ x ≤ 3 → -720 ≤ d * x ∧ d * x ≤ 720 := fun x hx => by
  have a1 : d * x ≤ d * 3 := Int.mul_le_mul_of_nonneg_left hx.2 (by omega)
  have a2 : d * -3 ≤ d * x := Int.mul_le_mul_of_nonneg_left hx.1 (by omega)
  omega
 exact tcmp_any _ _ _ _ _ _ d W hd hT hb ⟨by have := k _ hp.1; omega, by have := k (ppE s).2.1 (by omega); omega, by have := k (ppE s).2.2 (by omega); omega⟩
def btT (u v dv a0 a1 e1 b0 b1 e2 : Int) : Int × Int × Int :=
 if e1 ≠ 0 then (0, 0, e1) else if e2 ≠ 0 then (0, 0, e2) else if dv = 1 then (max 0 (v * b0 - u * a1), v * b1 - u * a0, 0) else if dv = -1 then (max 0 (u * a0 - v * b1), u * a1 - v * b0, 0) else (0, 0, 0)
theorem ptP_bd (n : Int) : (0 ≤ (ptP n).1 ∧ (ptP n).1 ≤ 8) ∧ (0 ≤ (ptP n).2 ∧ (ptP n).2 ≤ 8) := by
 unfold ptP
 repeat' split
 all_goals exact ⟨⟨by decide, by decide⟩, by decide, by decide⟩
theorem bt_mul {u a : Int} (hu : 0 ≤ u ∧ u ≤ 8) (ha : 0 ≤ a ∧ a ≤ 130000000000) : 0 ≤ u * a ∧ u * a ≤ 8 * 130000000000 :=
 ⟨Int.mul_nonneg hu.1 ha.1, Int.mul_le_mul hu.2 ha.2 ha.1 (by decide)⟩
set_option maxRecDepth 1000000 in
set_option maxHeartbeats 8000000 in
theorem bbeats_gen (C : Nat → Tm) (p l s t dv a0 a1 e1 b0 b1 e2 : Int) (w : World) (ht : Tab w) (hs : ptB s) (hl : 0 ≤ l ∧ l ≤ 127) (hlt : l + s = t)
  (ha0 : 0 ≤ a0 ∧ a0 ≤ 130000000000) (ha1 : 0 ≤ a1 ∧ a1 ≤ 130000000000) (hb0 : 0 ≤ b0 ∧ b0 ≤ 130000000000) (hb1 : 0 ≤ b1 ∧ b1 ≤ 130000000000)
  (hD : ∀ W, Tab W → Calls Tryz.prog 58 #[.agg (tuL C p).toArray, .agg #[.int .i64 l, .int .i64 s]] W fun e w' => e = .returned (.tuple #[.int .i64 dv, .int .i64 0]) ∧ Below W.heap.size W w')
  (hF : ∀ W, Tab W → Calls Tryz.prog 55 #[.agg (tuL C p).toArray, .int .i64 l] W fun e w' => e = .returned (.tuple #[.agg #[.int .i64 a0, .int .i64 a1], .int .i64 e1]) ∧ Below W.heap.size W w')
  (hG : ∀ W, Tab W → Calls Tryz.prog 55 #[.agg (tuL C p).toArray, .int .i64 t] W fun e w' => e = .returned (.tuple #[.agg #[.int .i64 b0, .int .i64 b1], .int .i64 e2]) ∧ Below W.heap.size W w') :
  Calls Tryz.prog 60 #[.agg (tuL C p).toArray, .agg #[.int .i64 l, .int .i64 s]] w fun e w' => e = .returned (.tuple #[.agg #[.int .i64 (btT (ptP s).1 (ptP s).2 dv a0 a1 e1 b0 b1 e2).1, .int .i64 (btT (ptP s).1 (ptP s).2 dv a0 a1 e1 b0 b1 e2).2.1], .int .i64 (btT (ptP s).1 (ptP s).2 dv a0 a1 e1 b0 b1 e2).2.2]) ∧ Below w.heap.size w w' := by
 have hp := fun W => bPart_ok s W hs
 have hs12 : 0 ≤ s ∧ s ≤ 12 := by unfold ptB at hs; omega
 have hw : IntKind.i64.wrap (l + s) = t := by rw [hlt]; exact IntWalk.i64_in _ (by omega)
 have hpb := ptP_bd s
 obtain ⟨u, hu⟩ : ∃ u, u = (ptP s).1 := ⟨_, rfl⟩
 obtain ⟨v, hv⟩ : ∃ u, u = (ptP s).2 := ⟨_, rfl⟩
 rw [← hu, ← hv] at hp hpb ⊢
 have hT0 : ∃ T, T = btT u v dv a0 a1 e1 b0 b1 e2 := ⟨_, rfl⟩
 obtain ⟨T, hT0⟩ := hT0
 rw [← hT0]
 have HV := Lib.hid hT0
 have HP := Lib.hid hp
 have HD := Lib.hid hD
 have HF := Lib.hid hF
 have HG := Lib.hid hG
 have HT := Lib.hid ht
 have HW := Lib.hid hw
 have n1 := bt_mul hpb.2 hb0
 have n2 := bt_mul hpb.1 ha1
 have n3 := bt_mul hpb.2 hb1
 have n4 := bt_mul hpb.1 ha0
 obtain ⟨x1, hx1⟩ : ∃ x, x = v * b0 := ⟨_, rfl⟩
 obtain ⟨x2, hx2⟩ : ∃ x, x = u * a1 := ⟨_, rfl⟩
 obtain ⟨x3, hx3⟩ : ∃ x, x = v * b1 := ⟨_, rfl⟩
 obtain ⟨x4, hx4⟩ : ∃ x, x = u * a0 := ⟨_, rfl⟩
 have w1 : IntKind.i64.wrap (v * b0) = x1 := by rw [hx1]; exact IntWalk.i64_in _ (by omega)
 have w2 : IntKind.i64.wrap (u * a1) = x2 := by rw [hx2]; exact IntWalk.i64_in _ (by omega)
 have w3 : IntKind.i64.wrap (v * b1) = x3 := by rw [hx3]; exact IntWalk.i64_in _ (by omega)
 have w4 : IntKind.i64.wrap (u * a0) = x4 := by rw [hx4]; exact IntWalk.i64_in _ (by omega)
 rw [← hx1] at n1
 rw [← hx2] at n2
 rw [← hx3] at n3
 rw [← hx4] at n4
 obtain ⟨z1, hz1⟩ : ∃ x, x = x1 - x2 := ⟨_, rfl⟩
 obtain ⟨z2, hz2⟩ : ∃ x, x = x3 - x4 := ⟨_, rfl⟩
 obtain ⟨z3, hz3⟩ : ∃ x, x = x4 - x3 := ⟨_, rfl⟩
 obtain ⟨z4, hz4⟩ : ∃ x, x = x2 - x1 := ⟨_, rfl⟩
 have v1 : IntKind.i64.wrap (x1 - x2) = z1 := by rw [hz1]; exact IntWalk.i64_in _ (by omega)
 have v2 : IntKind.i64.wrap (x3 - x4) = z2 := by rw [hz2]; exact IntWalk.i64_in _ (by omega)
 have v3 : IntKind.i64.wrap (x4 - x3) = z3 := by rw [hz3]; exact IntWalk.i64_in _ (by omega)
 have v4 : IntKind.i64.wrap (x2 - x1) = z4 := by rw [hz4]; exact IntWalk.i64_in _ (by omega)
 have HN := Lib.hid (show btT u v dv a0 a1 e1 b0 b1 e2 = if e1 ≠ 0 then (0, 0, e1) else if e2 ≠ 0 then (0, 0, e2) else if dv = 1 then (max 0 z1, z2, 0) else if dv = -1 then (max 0 z3, z4, 0) else (0, 0, 0) by
  unfold btT; rw [← hx1, ← hx2, ← hx3, ← hx4, ← hz1, ← hz2, ← hz3, ← hz4])
 have HWS := Lib.hid (And.intro (And.intro w1 (And.intro w2 (And.intro w3 w4))) (And.intro v1 (And.intro v2 (And.intro v3 v4))))
 have hm0 := (((Hp.start w).new 41 (tuL C p)).new 67 [.int .i64 l, .int .i64 s]).new 53 [.int .i64 0, .int .i64 0]
 simp only [World.size_alloc, List.nil_append, List.cons_append] at hm0
 have HM0 := Lib.hid hm0
 obtain ⟨y0, y1⟩ := two_of (hm0.at_ 1 rfl)
 clear hm0 hp hD hF hG ht hw hs hl hlt hs12 hu hv hpb n1 n2 n3 n4 hx1 hx2 hx3 hx4 w1 w2 w3 w4 hz1 hz2 hz3 hz4 v1 v2 v3 v4 ha0 ha1 hb0 hb1 hT0
 go_enter Tryz.func60, Tryz.ntmps60
 go_wp2_with fail
 refine (HP.out _).mono ?_
 rintro e wx ⟨rfl, rfl⟩
 go_wp2_with (refine wpList_load_row rfl 41 _ rfl w.heap.size rfl 41 (tuL C p).toArray (0, 0) _ (HM0.out.at_ 0 rfl) Tryz.underlying41 rfl (by rw [infoTun, List.size_toArray, tuL_len]) ?_)
 refine (HD.out _ (HT.out.below HM0.out.below)).mono ?_
 rintro e w1 ⟨rfl, hb1⟩
 have HM1 := Lib.hid (HM0.out.step hb1)
 clear hb1 HM0 y0 y1
 obtain ⟨y0, y1⟩ := two_of (HM1.out.at_ 1 rfl)
 go_wp2_with (refine wpList_load_row rfl 41 _ rfl w.heap.size rfl 41 (tuL C p).toArray (0, 0) _ (HM1.out.at_ 0 rfl) Tryz.underlying41 rfl (by rw [infoTun, List.size_toArray, tuL_len]) ?_)
 refine (HF.out _ (HT.out.below HM1.out.below)).mono ?_
 rintro e w2 ⟨rfl, hb2⟩
 have hm3 := (HM1.out.step hb2).new 53 [.int .i64 a0, .int .i64 a1]
 simp only [List.nil_append, List.cons_append] at hm3
 have HM3 := Lib.hid hm3
 clear hb2 HM1 y0 y1
 by_cases h1 : e1 = 0
 ·subst h1
  obtain ⟨y0, y1⟩ := two_of (hm3.at_ 1 rfl)
  have hw := HW.out
  clear hm3
  go_wp2_with (refine wpList_load_row rfl 41 _ rfl w.heap.size rfl 41 (tuL C p).toArray (0, 0) _ (HM3.out.at_ 0 rfl) Tryz.underlying41 rfl (by rw [infoTun, List.size_toArray, tuL_len]) ?_)
  refine (HG.out _ (HT.out.below HM3.out.below)).mono ?_
  rintro e w3 ⟨rfl, hb3⟩
  have hm4 := (HM3.out.step hb3).new 53 [.int .i64 b0, .int .i64 b1]
  simp only [List.nil_append, List.cons_append] at hm4
  have HM4 := Lib.hid hm4
  clear hb3 HM3 y0 y1 hw
  obtain ⟨y0, y1⟩ := two_of (hm4.at_ 2 rfl)
  have f0 := (hm4.at_ 2 rfl).frozen 0
  have f1 := (hm4.at_ 2 rfl).frozen 1
  by_cases h2 : e2 = 0
  ·subst h2
   obtain ⟨q0, q1⟩ := two_of (hm4.at_ 3 rfl)
   obtain ⟨q2, q3⟩ := two_of (hm4.at_ 4 rfl)
   obtain ⟨⟨w1', w2', w3', w4'⟩, v1', v2', v3', v4'⟩ := HWS.out
   by_cases h3 : dv = 1
   ·have HE := Lib.hid (HV.out.trans (HN.out.trans (by rw [if_neg (by simp), if_neg (by simp), if_pos h3])))
    subst h3
    have HZ := Lib.hid (hm4.put2 2 rfl (.int .i64 (max 0 z1)) (.int .i64 z2))
    clear hm4 HM4
    go_wp2_with fail
    obtain ⟨WZ, hWZ⟩ : ∃ WZ, WZ = ((w3.alloc (.cells #[.int .i64 b0, .int .i64 b1] 53)).setCell ⟨w.heap.size + 1 + 1, 0, none⟩ (.int .i64 (max 0 z1))).setCell ⟨w.heap.size + 1 + 1, 1, none⟩ (.int .i64 z2) := ⟨_, rfl⟩
    rw [← hWZ] at HZ ⊢
    obtain ⟨j0, j1⟩ := two_of (HZ.out.at_ 2 rfl)
    exact bodyPost_ret (v := .tuple #[.agg #[.int .i64 (max 0 z1), .int .i64 z2], .int .i64 0]) (by simp [results, Tryz.results60, go_sem, j0, j1]) rfl ⟨by rw [HE.out], HZ.out.below⟩
   ·by_cases h4 : dv = -1
    ·have HE := Lib.hid (HV.out.trans (HN.out.trans (by rw [if_neg (by simp), if_neg (by simp), if_neg h3, if_pos h4])))
     subst h4
     have HZ := Lib.hid (hm4.put2 2 rfl (.int .i64 (max 0 z3)) (.int .i64 z4))
     clear hm4 HM4 h3
     go_wp2_with fail
     obtain ⟨WZ, hWZ⟩ : ∃ WZ, WZ = ((w3.alloc (.cells #[.int .i64 b0, .int .i64 b1] 53)).setCell ⟨w.heap.size + 1 + 1, 0, none⟩ (.int .i64 (max 0 z3))).setCell ⟨w.heap.size + 1 + 1, 1, none⟩ (.int .i64 z4) := ⟨_, rfl⟩
     rw [← hWZ] at HZ ⊢
     obtain ⟨j0, j1⟩ := two_of (HZ.out.at_ 2 rfl)
     exact bodyPost_ret (v := .tuple #[.agg #[.int .i64 (max 0 z3), .int .i64 z4], .int .i64 0]) (by simp [results, Tryz.results60, go_sem, j0, j1]) rfl ⟨by rw [HE.out], HZ.out.below⟩
    ·have HE := Lib.hid (HV.out.trans (HN.out.trans (by rw [if_neg (by simp), if_neg (by simp), if_neg h3, if_neg h4])))
     have hz1 : (dv == 1) = false := by simpa using h3
     have hz2 : (dv == -1) = false := by simpa using h4
     have HZ := Lib.hid (hm4.put2 2 rfl (.int .i64 0) (.int .i64 0))
     clear hm4 HM4 h3 h4
     go_wp2_with fail
     obtain ⟨WZ, hWZ⟩ : ∃ WZ, WZ = ((w3.alloc (.cells #[.int .i64 b0, .int .i64 b1] 53)).setCell ⟨w.heap.size + 1 + 1, 0, none⟩ (.int .i64 0)).setCell ⟨w.heap.size + 1 + 1, 1, none⟩ (.int .i64 0) := ⟨_, rfl⟩
     rw [← hWZ] at HZ ⊢
     obtain ⟨j0, j1⟩ := two_of (HZ.out.at_ 2 rfl)
     exact bodyPost_ret (v := .tuple #[.agg #[.int .i64 0, .int .i64 0], .int .i64 0]) (by simp [results, Tryz.results60, go_sem, j0, j1]) rfl ⟨by rw [HE.out], HZ.out.below⟩
  ·have HE := Lib.hid (HV.out.trans (HN.out.trans (by rw [if_neg (by simp), if_pos h2])))
   have hz : (e2 != 0) = true := by simpa using h2
   have HZ := Lib.hid (hm4.put2 2 rfl (.int .i64 0) (.int .i64 0))
   clear hm4 HM4 h2
   go_wp2_with fail
   obtain ⟨WZ, hWZ⟩ : ∃ WZ, WZ = ((w3.alloc (.cells #[.int .i64 b0, .int .i64 b1] 53)).setCell ⟨w.heap.size + 1 + 1, 0, none⟩ (.int .i64 0)).setCell ⟨w.heap.size + 1 + 1, 1, none⟩ (.int .i64 0) := ⟨_, rfl⟩
   rw [← hWZ] at HZ ⊢
   obtain ⟨j0, j1⟩ := two_of (HZ.out.at_ 2 rfl)
   exact bodyPost_ret (v := .tuple #[.agg #[.int .i64 0, .int .i64 0], .int .i64 e2]) (by simp [results, Tryz.results60, go_sem, j0, j1]) rfl ⟨by rw [HE.out], HZ.out.below⟩
 ·have HE := Lib.hid (HV.out.trans (HN.out.trans (by rw [if_pos h1])))
  have hz : (e1 != 0) = true := by simpa using h1
  obtain ⟨y0, y1⟩ := two_of (hm3.at_ 2 rfl)
  have f0 := (hm3.at_ 2 rfl).frozen 0
  have f1 := (hm3.at_ 2 rfl).frozen 1
  have HZ := Lib.hid (hm3.put2 2 rfl (.int .i64 0) (.int .i64 0))
  clear hm3 HM3 h1
  go_wp2_with fail
  obtain ⟨WZ, hWZ⟩ : ∃ WZ, WZ = ((w2.alloc (.cells #[.int .i64 a0, .int .i64 a1] 53)).setCell ⟨w.heap.size + 1 + 1, 0, none⟩ (.int .i64 0)).setCell ⟨w.heap.size + 1 + 1, 1, none⟩ (.int .i64 0) := ⟨_, rfl⟩
  rw [← hWZ] at HZ ⊢
  obtain ⟨j0, j1⟩ := two_of (HZ.out.at_ 2 rfl)
  exact bodyPost_ret (v := .tuple #[.agg #[.int .i64 0, .int .i64 0], .int .i64 e1]) (by simp [results, Tryz.results60, go_sem, j0, j1]) rfl ⟨by rw [HE.out], HZ.out.below⟩
theorem frT_bd {d : Int} {P S : Nat → Int} (h : PlnC d P S) {p : Int} (hp : 1 ≤ p ∧ p ≤ 1000) {n : Nat} (hn : n ≤ 127) : (0 ≤ (frT d P S p n).1 ∧ (frT d P S p n).1 ≤ 130000000000) ∧ (0 ≤ (frT d P S p n).2.1 ∧ (frT d P S p n).2.1 ≤ 130000000000) ∧ (frT d P S p n).1 ≤ (frT d P S p n).2.1 := by
 have hb := vB_Bx h (m := 69) (n := n) (by decide) (by omega)
 have h2 := rtT_bd hb.1 hb.2.1 hb.2.2 (pl_d h)
 unfold frT
 dsimp only
 obtain ⟨x, hx⟩ : ∃ x, x = rtT (vB d P S 69 n).1 (vB d P S 69 n).2.1 (vB d P S 69 n).2.2 d := ⟨_, rfl⟩
 rw [← hx] at h2 ⊢
 have k : ∀ b : Int, 0 ≤ b → b ≤ 128000001 → 0 ≤ p * b ∧ p * b ≤ 1000 * 128000001 := fun b h0 h1 => ⟨Int.mul_nonneg (by omega) h0, Int.mul_le_mul hp.2 h1 h0 (by decide)⟩
 have k1 := k x.1 (by omega) (by omega)
 have k2 := k x.2.1 (by omega) (by omega)
 exact ⟨⟨k1.1, by omega⟩, ⟨k2.1, by omega⟩, Int.mul_le_mul_of_nonneg_left h2.2.1 (by omega)⟩
def bbT (d : Int) (P S : Nat → Int) (p : Int) (l n : Nat) (s : Int) : Int × Int × Int :=
 btT (ptP s).1 (ptP s).2 (drT d P S l n s) (frT d P S p l).1 (frT d P S p l).2.1 (frT d P S p l).2.2 (frT d P S p n).1 (frT d P S p n).2.1 (frT d P S p n).2.2
theorem bbeats_pl {d : Int} {P S : Nat → Int} (h : PlnC d P S) (p s : Int) (hp : 1 ≤ p ∧ p ≤ 1000) (hs : ptB s) {l n : Nat} (hn : n ≤ 127) (hls : (l : Int) + s = n) (w : World) (ht : Tab w) :
  Calls Tryz.prog 60 #[.agg (tuL (cirP d P S) p).toArray, .agg #[.int .i64 (l : Int), .int .i64 s]] w fun e w' => e = .returned (.tuple #[.agg #[.int .i64 (bbT d P S p l n s).1, .int .i64 (bbT d P S p l n s).2.1], .int .i64 (bbT d P S p l n s).2.2]) ∧ Below w.heap.size w w' := by
 have hs12 : 3 ≤ s ∧ s ≤ 12 := by unfold ptB at hs; omega
 have b1 := frT_bd h hp (n := l) (by omega)
 have b2 := frT_bd h hp hn
 exact bbeats_gen (cirP d P S) p l s n _ _ _ _ _ _ _ w ht hs (by omega) hls b1.1 b1.2.1 b2.1 b2.2.1 (fun W hT => bdir_pl h p s hs hn hls W hT) (fun W hT => bfreq_pl h p hp (by omega) W hT) (fun W hT => bfreq_pl h p hp hn W hT)
end Go.Proofs.YtendjepcjmfmfaaGreatDoor
