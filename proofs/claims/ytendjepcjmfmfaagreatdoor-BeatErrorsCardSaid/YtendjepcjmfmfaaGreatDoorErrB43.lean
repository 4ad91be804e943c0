/- Part 43 of 46 of the proof of the law: contracts of the functions that it reaches, and plain facts. Conditions: those that each contract names. -/
import Derived.Test.YtendjepcjmfmfaaGreatDoorErrB41
import Derived.Test.YtendjepcjmfmfaaGreatDoorErrB42
import Derived.RegionTactic
import Derived.Deep.DeepCutAuto
import Derived.Test.YtendjepcjmfmfaaGreatDoorErrB32
import Derived.Test.YtendjepcjmfmfaaGreatDoorErrB06
import Derived.Sort.Grow
namespace Go.Proofs.YtendjepcjmfmfaaGreatDoor
open Go.RowKit
theorem four42e {W : World} {g : Nat} {t : TypeId} {a b c d : Value} (h : Blk W g t [a, b, c, d]) : W.cell? ⟨g, 0, none⟩ = some a ∧ W.cell? ⟨g, 1, none⟩ = some b ∧ W.cell? ⟨g, 2, none⟩ = some c ∧ W.cell? ⟨g, 3, none⟩ = some d := ⟨h.cell 0, h.cell 1, h.cell 2, h.cell 3⟩
theorem eight42 {W : World} {g : Nat} {t : TypeId} {a0 a1 a2 a3 a4 a5 a6 a7 : Value} (h : Blk W g t [a0, a1, a2, a3, a4, a5, a6, a7]) : (W.cell? ⟨g, 0, none⟩ = some a0 ∧ W.cell? ⟨g, 1, none⟩ = some a1) ∧ (W.cell? ⟨g, 2, none⟩ = some a2 ∧ W.cell? ⟨g, 3, none⟩ = some a3 ∧ W.cell? ⟨g, 4, none⟩ = some a4 ∧ W.cell? ⟨g, 5, none⟩ = some a5) ∧ W.cell? ⟨g, 6, none⟩ = some a6 ∧ W.cell? ⟨g, 7, none⟩ = some a7 := ⟨⟨h.cell 0, h.cell 1⟩, ⟨h.cell 2, h.cell 3, h.cell 4, h.cell 5⟩, h.cell 6, h.cell 7⟩
theorem Hp.less42 {w W : World} {L : List (Nat × TypeId × List Value)} {x : Nat × TypeId × List Value} (h : Hp w (L ++ [x]) W) : Hp w L W := h.sub (List.sublist_append_left _ _)
theorem BxP.row42 {w W : World} {A : List (Nat × TypeId × List Value)} {base : Nat} {t : TypeId} {zs ns : List Value} {g : Nat} (h : BxP w A base t zs ns true false g W) (hw : w.heap.size ≤ base) : BxP w A base t zs ns true true g (W.setRow g ns.toArray) := by
 obtain ⟨h1, h2⟩ := h.ge hw
 have hb := h.b rfl rfl
 exact ⟨⟨below_setRow h.hp.below h1 _, fun p hp => ⟨(setRow_other W g p.1 _ (h2 p hp)).trans (h.hp.blk p hp).1, (h.hp.blk p hp).2⟩, h.hp.apart⟩, by rw [setRow_size]; exact h.sz, h.lo, h.gb, fun _ e => (by cases e), fun _ _ => setRow_heap W g _ _ _ _ hb⟩
theorem step_load_row42 {P : Program} {ops : Array Oper} {o : Oper} {a : Act} {w : World} {K : Act → World → Prop} {Q : Exit → Act → World → Prop} {E : Prop} (hgd : o.guard = none) (ty : TypeId) (x : Operand) (ho : o.op = .load ty x)
  (g : Nat) (hx : a.eval x = .pointer (some ⟨g, 0, none⟩)) (t : TypeId) (cs : Array Value) (fr : Nat × Nat) (d : TypeDesc) (hg : w.heap[g]? = some (.cells cs t fr))
  (hu : P.underlying ty = some d) (hd : (match d with | .struct _ | .array _ _ => true | _ => false) = true) (hi : (P.info? ty).map (·.size) = some cs.size)
  (h : K (a.put o.dst (.agg cs)) w) : if Region.wanted o (yielded ops a.tmps) = true then Oper.wp P o a w K Q else E := by
 have hw : Region.wanted o (yielded ops a.tmps) = true := by simp [Region.wanted, hgd]
 rw [if_pos hw]
 exact wp_load_row ty x ho g hx t cs fr d hg hu hd hi h
theorem step_bldTun {ops : Array Oper} {o : Oper} {a : Act} {w : World} {K : Act → World → Prop} {Q : Exit → Act → World → Prop} {E : Prop} (hgd : o.guard = none) (x y : Operand) (ho : o.op = .build 41 #[(0, x), (1, y)]) (C : Nat → Tm) (p : Int)
  (hx : a.eval x = .agg (cirL C).toArray) (hy : a.eval y = .int .i64 p) (h : K (a.put o.dst (.agg (tuL C p).toArray)) w) : if Region.wanted o (yielded ops a.tmps) = true then Oper.wp Tryz.prog o a w K Q else E := by
 have hw : Region.wanted o (yielded ops a.tmps) = true := by simp [Region.wanted, hgd]
 rw [if_pos hw]
 have e : ((#[(0, x), (1, y)] : Array (Nat × Operand)).map fun (i, x) => (i, a.eval x)).toList = [(0, .agg (cirL C).toArray), (1, .int .i64 p)] := by
  simp [hx, hy]
 refine wp_build _ _ ho ?_ ?_
 ·rw [e, built_tun]; rfl
 ·rw [e, built_tun]; exact h
theorem tu_put42 (C : Nat → Tm) (x : Tm) (p : Int) : (tuL C p).take 0 ++ tmC x ++ (tuL C p).drop (0 + (tmC x).length) = tuL (fun k => if k = 0 then x else C k) p := rfl
theorem tu_putT {w W : World} {L : List (Nat × TypeId × List Value)} (h : Hp w L W) (i : Nat) {g : Nat} {t : TypeId} {C : Nat → Tm} {p : Int} (e : L[i]? = some (g, t, tuL C p)) (x : Tm) :
  Hp w (L.set i (g, t, tuL (fun k => if k = 0 then x else C k) p)) ((((W.setCell ⟨g, 0, none⟩ (.int .i64 x.1)).setCell ⟨g, 1, none⟩ (.int .i64 x.2.1)).setCell ⟨g, 2, none⟩ (.int .i64 x.2.2.1)).setCell ⟨g, 3, none⟩ (.int .i64 x.2.2.2)) := by
 have := h.cells i e 0 (tmC x) (by rw [tuL_len]; show 0 + 4 ≤ 49; omega)
 rw [tu_put42] at this
 exact this
theorem tu_four {W : World} {g : Nat} {t : TypeId} {C : Nat → Tm} {p : Int} (h : Blk W g t (tuL C p)) : W.cell? ⟨g, 0, none⟩ = some (.int .i64 (C 0).1) ∧ W.cell? ⟨g, 1, none⟩ = some (.int .i64 (C 0).2.1) ∧ W.cell? ⟨g, 2, none⟩ = some (.int .i64 (C 0).2.2.1) ∧ W.cell? ⟨g, 3, none⟩ = some (.int .i64 (C 0).2.2.2) := ⟨h.cell 0, h.cell 1, h.cell 2, h.cell 3⟩
set_option maxRecDepth 1000000 in
set_option maxHeartbeats 8000000 in
theorem lers_gen (m d a b a' b' p f0 f1 f2 f3 lo hi E r1 r2 cm u v : Int) (rp q : Bool) (X : Nat → Int × Int) (C D : Nat → Tm) (w : World) (ht : Tab w)
  (hD : D = if rp then (fun i => if i = 0 then (f0, f1, f2, f3) else C i) else C) (hq : q = true → 3 ≤ b ∧ b ≤ 12) (hcm : cm = 0 → 0 ≤ hi ∧ hi ≤ 127)
  (hM : ∀ W, Calls Tryz.prog 14 #[.agg (plC m X d).toArray] W fun e w' => e = .returned (.agg (cirL C).toArray) ∧ Below W.heap.size W w')
  (hCK : ∀ W, Calls Tryz.prog 16 #[.agg (tuL D p).toArray] W fun e w' => e = .returned (.int .i64 E) ∧ Below W.heap.size W w')
  (hR1 : ∀ W, Calls Tryz.prog 25 #[.agg #[.int .i64 a, .int .i64 b]] W fun e w' => e = .returned (.int .i64 r1) ∧ Below W.heap.size W w')
  (hR2 : ∀ W, Calls Tryz.prog 25 #[.agg #[.int .i64 a', .int .i64 b']] W fun e w' => e = .returned (.int .i64 r2) ∧ Below W.heap.size W w')
  (hP : ∀ W, Calls Tryz.prog 13 #[.int .i64 b] W fun e w' => e = .returned (.tuple #[.int .i64 u, .int .i64 v, .bool q]) ∧ Below W.heap.size W w')
  (hCC : ∀ W, Calls Tryz.prog 37 #[.agg #[.int .i64 lo, .int .i64 hi]] W fun e w' => e = .returned (.int .i64 cm) ∧ Below W.heap.size W w')
  (hF : ∀ W, Tab W → Calls Tryz.prog 23 #[.agg (tuL D p).toArray, .int .i64 (-1)] W fun e w' => e = .returned (.tuple #[.agg #[.int .i64 0, .int .i64 0], .int .i64 (if E ≠ 0 then E else 3)]) ∧ Below W.heap.size W w')
  (hDr : ∀ W, Tab W → Calls Tryz.prog 26 #[.agg (tuL D p).toArray, .agg #[.int .i64 a, .int .i64 b]] W fun e w' => (∃ d g : Int, e = .returned (.tuple #[.int .i64 d, .int .i64 g]) ∧ ((if E ≠ 0 then E else r1) ≠ 0 → d = 0 ∧ g = if E ≠ 0 then E else r1)) ∧ Below W.heap.size W w')
  (hBt : ∀ W, Tab W → Calls Tryz.prog 27 #[.agg (tuL D p).toArray, .agg #[.int .i64 a, .int .i64 b]] W fun e w' => (∃ d0 d1 g : Int, e = .returned (.tuple #[.agg #[.int .i64 d0, .int .i64 d1], .int .i64 g]) ∧ ((if E ≠ 0 then E else r1) ≠ 0 → d0 = 0 ∧ d1 = 0 ∧ g = if E ≠ 0 then E else r1)) ∧ Below W.heap.size W w')
  (hCo : ∀ W, Tab W → Calls Tryz.prog 30 #[.agg (tuL D p).toArray, .agg #[.int .i64 a, .int .i64 b], .agg #[.int .i64 a', .int .i64 b']] W fun e w' => (∃ d g : Int, e = .returned (.tuple #[.int .i64 d, .int .i64 g]) ∧ ((if E ≠ 0 then E else if r1 ≠ 0 then r1 else r2) ≠ 0 → d = 0 ∧ g = if E ≠ 0 then E else if r1 ≠ 0 then r1 else r2)) ∧ Below W.heap.size W w')
  (hO : ∀ K : Int, K = (if E ≠ 0 then E else if q = false then 18 else if cm ≠ 0 then cm else if 127 < hi + b then 3 else 0) → K ≠ 0 → ∀ W, Calls Tryz.prog 36 #[.agg (tuL D p).toArray, .int .i64 b, .agg #[.int .i64 lo, .int .i64 hi]] W fun e w' => e = .returned (.tuple #[.slice none 0 0, .int .i64 K]) ∧ Below W.heap.size W w')
  (hRs : ∀ K : Int, K = (if E ≠ 0 then E else if q = false then 18 else if cm ≠ 0 then cm else if 127 < hi + b then 3 else 0) → K ≠ 0 → ∀ W, Calls Tryz.prog 32 #[.agg (tuL D p).toArray, .int .i64 b, .agg #[.int .i64 lo, .int .i64 hi]] W fun e w' => e = .returned (.tuple #[.int .i64 0, .bool false, .int .i64 K]) ∧ Below W.heap.size W w') :
  Calls Tryz.prog 10 #[.agg (plC m X d).toArray, .agg #[.int .i64 p, .bool rp, .int .i64 f0, .int .i64 f1, .int .i64 f2, .int .i64 f3, .int .i64 lo, .int .i64 hi], .agg #[.int .i64 a, .int .i64 b, .int .i64 a', .int .i64 b']] w fun e w' => e = .returned (.bool true) ∧ Below w.heap.size w w' := by
 have HKN := Lib.hid (fun W hT => bknown_any W hT)
 have HT := Lib.hid ht
 have HMK := Lib.hid hM
 have HCK := Lib.hid hCK
 have HR1 := Lib.hid hR1
 have HR2 := Lib.hid hR2
 have HP := Lib.hid hP
 have HCC := Lib.hid hCC
 have HF := Lib.hid hF
 have HDR := Lib.hid hDr
 have HBT := Lib.hid hBt
 have HCO := Lib.hid hCo
 have HO := Lib.hid hO
 have HRS := Lib.hid hRs
 have HD := Lib.hid hD
 have HQ := Lib.hid hq
 have HCM := Lib.hid hcm
 clear ht hM hCK hR1 hR2 hP hCC hF hDr hBt hCo hO hRs hD hq hcm
 have hm0 := (((Hp.start w).new 26 (plC m X d)).new 95 [.int .i64 p, .bool rp, .int .i64 f0, .int .i64 f1, .int .i64 f2, .int .i64 f3, .int .i64 lo, .int .i64 hi]).new 73 [.int .i64 a, .int .i64 b, .int .i64 a', .int .i64 b']
 simp only [World.size_alloc, List.nil_append, List.cons_append] at hm0
 have HM0 := Lib.hid hm0
 clear hm0
 go_enter Tryz.func10, Tryz.ntmps10
 go_wp2_with fail
 refine (HKN.out _ (HT.out.below HM0.out.below)).mono ?_
 rintro e w1 ⟨rfl, hb1⟩
 have HM1 := Lib.hid (HM0.out.step hb1)
 clear hb1 HM0
 have HW1 := Lib.hid HM1.out.below.size
 go_upto_region 3 with fail

 refine wp_regionJ 7 #[false, false, false, false, false, false, false] (fun l fa W => ∃ (m0 m1 m2 m3 m4 m5 m6 : Bool) (gq : Nat), l = #[m0, m1, m2, m3, m4, m5, m6] ∧ fa = ({ tmps := #[.agg (plC m X d).toArray, .agg #[.int .i64 p, .bool rp, .int .i64 f0, .int .i64 f1, .int .i64 f2, .int .i64 f3, .int .i64 lo, .int .i64 hi], .agg #[.int .i64 a, .int .i64 b, .int .i64 a', .int .i64 b'], .pointer (some ⟨w.heap.size, 0, none⟩), .pointer (some ⟨w.heap.size + 1, 0, none⟩), .pointer (some ⟨w.heap.size + 1 + 1, 0, none⟩), .bool false, cwX m5 (.pointer (some ⟨gq, 0, none⟩)) (undef), undef, undef, undef, undef, undef, undef, undef, undef, undef, undef, undef, undef, undef, undef, undef, undef, undef, undef, undef, undef, .bool true, .bool false, cwX m0 (.agg (plC m X d).toArray) (undef), cwX m1 (.agg (cirL C).toArray) (undef), cwX m2 (.pointer (some ⟨w.heap.size + 1, 0, none⟩)) (undef), cwX m3 (.int .i64 p) (undef), cwX m4 (.agg (tuL C p).toArray) (undef), undef, undef, undef, undef, undef, undef, undef, undef, undef, undef, undef, undef, undef, undef, undef, undef, undef, undef, undef, undef, undef, undef, undef, undef, undef, undef, undef, undef, undef, undef, undef, undef, undef, undef, undef, undef, undef, undef, undef, undef, undef, undef, undef, undef, undef, undef, undef, undef, undef, undef, undef, undef, undef, undef, undef, undef, undef, undef, undef, undef, undef, undef, undef, undef, undef, undef, undef, undef, undef, undef, undef, undef, undef, undef, undef, undef, undef, undef, undef, undef, undef, undef, undef, undef, undef, undef, undef, undef, undef, undef, undef, undef, undef, undef, undef, undef, undef, undef, undef, undef, undef, undef, undef, undef, undef, undef, undef, undef, undef, undef, undef, undef, undef, undef, undef, undef, undef, undef, undef, undef, undef, undef, undef, undef, undef, undef, undef, undef, undef, undef, undef, undef, undef, undef, undef, undef, undef, undef, undef, undef, undef, undef, undef, undef, undef, undef, undef, undef, undef, undef, undef, undef, undef, undef, undef, undef, undef, undef, undef, undef, undef, undef, undef, undef, undef, undef, undef, undef, undef, undef, undef, undef, undef, undef, undef, undef], defers := [] } : Act) ∧ (m6 = true → m5 = true) ∧ BxP w [(w.heap.size, 26, plC m X d), (w.heap.size + 1, 95, [.int .i64 p, .bool rp, .int .i64 f0, .int .i64 f1, .int .i64 f2, .int .i64 f3, .int .i64 lo, .int .i64 hi]), (w.heap.size + 1 + 1, 73, [.int .i64 a, .int .i64 b, .int .i64 a', .int .i64 b'])] w1.heap.size 41 (tuL (fun _ => (0, 0, 0, 0)) 0) (tuL C p) m5 m6 gq W) (by kernel_rfl) (by kernel_rfl) (by kernel_rfl) (by kernel_rfl) ?_ ?_ ?_ ?_
 ·rintro l fa W ⟨m0, m1, m2, m3, m4, m5, m6, gq, rfl, _⟩
  rfl
 ·exact ⟨false, false, false, false, false, false, false, 0, rfl, rfl, fun h => absurd h (by simp), ((BxP.start HM1.out).step (bw_drew (Below.refl _ _)))⟩
 ·rintro l fa W i o ⟨m0, m1, m2, m3, m4, m5, m6, gq, rfl, rfl, hi0, hm⟩ ho hun hall K hK
  have hi : i < 7 := (Array.getElem?_eq_some_iff.1 ho).1
  have HM := Lib.hid hm
  have HI := Lib.hid hi0
  clear hm hi0
  rcases (show i = 0 ∨ i = 1 ∨ i = 2 ∨ i = 3 ∨ i = 4 ∨ i = 5 ∨ i = 6 by omega) with rfl | rfl | rfl | rfl | rfl | rfl | rfl
  ·cases ho
   simp at hun; subst hun
   clear hall hi
   refine step_load_row42 rfl 26 _ rfl (w.heap.size) rfl 26 (plC m X d).toArray (0, 0) _ (HM.out.hp.at_ 0 rfl) Tryz.underlying26 rfl (by rw [infoPlan42, List.size_toArray, pl_len]) ?_
   exact hK.out _ _ ⟨true, m1, m2, m3, m4, m5, m6, gq, rfl, rfl, by have h0 := HI.out; exact fun e => by first | rfl | exact h0 e, HM.out⟩
  ·cases ho
   cases (getBX hall 0 rfl : m0 = true)
   simp at hun; subst hun
   clear hall hi
   go_simp
   refine (HMK.out _).mono ?_
   rintro e W' ⟨rfl, hb⟩
   exact hK.out _ _ ⟨true, true, m2, m3, m4, m5, m6, gq, rfl, rfl, by have h0 := HI.out; exact fun e => by first | rfl | exact h0 e, HM.out.step hb⟩
  ·cases ho
   simp at hun; subst hun
   clear hall hi
   go_simp
   exact hK.out _ _ ⟨m0, m1, true, m3, m4, m5, m6, gq, rfl, rfl, by have h0 := HI.out; exact fun e => by first | rfl | exact h0 e, HM.out⟩
  ·cases ho
   cases (getBX hall 2 rfl : m2 = true)
   simp at hun; subst hun
   clear hall hi
   have y0 : W.cell? ⟨w.heap.size + 1, 0, none⟩ = some (.int .i64 p) := (HM.out.hp.at_ 1 rfl).cell 0
   go_simp
   exact hK.out _ _ ⟨m0, m1, true, true, m4, m5, m6, gq, rfl, rfl, by have h0 := HI.out; exact fun e => by first | rfl | exact h0 e, HM.out⟩
  ·cases ho
   cases (getBX hall 1 rfl : m1 = true)
   cases (getBX hall 3 rfl : m3 = true)
   simp at hun; subst hun
   clear hall hi
   refine step_bldTun rfl _ _ rfl C p rfl rfl ?_
   exact hK.out _ _ ⟨m0, true, m2, true, true, m5, m6, gq, rfl, rfl, by have h0 := HI.out; exact fun e => by first | rfl | exact h0 e, HM.out⟩
  ·cases ho
   simp at hun; subst hun
   clear hall hi
   obtain rfl : m6 = false := by
    cases m6
    ·rfl
    ·exact absurd (HI.out rfl) (by simp)
   have HN := Lib.hid HM.out.new
   go_simp
   exact hK.out _ _ ⟨m0, m1, m2, m3, m4, true, false, W.heap.size, rfl, rfl, by have h0 := HI.out; exact fun e => by first | rfl | exact h0 e, HN.out⟩
  ·cases ho
   cases (getBX hall 4 rfl : m4 = true)
   cases (getBX hall 5 rfl : m5 = true)
   simp at hun; subst hun
   clear hall hi
   have HN := Lib.hid (HM.out.row42 HW1.out)
   have hbq := HM.out.b rfl rfl
   refine step_store_row rfl 41 _ _ rfl rfl gq (tuL C p).toArray rfl rfl 41 (tuL (fun _ => (0, 0, 0, 0)) 0).toArray hbq (by rw [infoTun, List.size_toArray, tuL_len]) (by rw [List.size_toArray, List.size_toArray, tuL_len, tuL_len]) (tu_one C p) ?_
   exact hK.out _ _ ⟨m0, m1, m2, m3, true, true, true, gq, rfl, rfl, by have h0 := HI.out; exact fun e => by first | rfl | exact h0 e, HN.out⟩
 ·rintro l fa W3 ⟨m0, m1, m2, m3, m4, m5, m6, gt, rfl, rfl, _, hm⟩ hall
  cases (hall 0 (by decide) : m0 = true)
  cases (hall 1 (by decide) : m1 = true)
  cases (hall 2 (by decide) : m2 = true)
  cases (hall 3 (by decide) : m3 = true)
  cases (hall 4 (by decide) : m4 = true)
  cases (hall 5 (by decide) : m5 = true)
  cases (hall 6 (by decide) : m6 = true)
  clear hall
  have HM3 := Lib.hid (hm.done HW1.out)
  simp only [List.nil_append, List.cons_append] at HM3
  clear hm HM1
  dsimp only [cwX, cond_true]
  obtain ⟨⟨-, y1⟩, -⟩ := eight42 (HM3.out.at_ 1 rfl)
  go_upto_if 36 with fail
  go_cut [] from 37 to 40 (fun wx => Hp w [(w.heap.size, 26, plC m X d), (w.heap.size + 1, 95, [.int .i64 p, .bool rp, .int .i64 f0, .int .i64 f1, .int .i64 f2, .int .i64 f3, .int .i64 lo, .int .i64 hi]), (w.heap.size + 1 + 1, 73, [.int .i64 a, .int .i64 b, .int .i64 a', .int .i64 b']), (gt, 41, tuL D p)] wx)
  case first =>
   cases rp with
   | false =>
    obtain rfl : D = C := HD.out.trans (if_neg (by simp))
    go_wp2_with fail
    go_meet
    exact HM3.out
   | true =>
    have hD : D = fun i => if i = 0 then (f0, f1, f2, f3) else C i := HD.out.trans (if_pos rfl)
    obtain ⟨-, ⟨y2, y3, y4, y5⟩, -⟩ := eight42 (HM3.out.at_ 1 rfl)
    have g0 := (HM3.out.at_ 3 rfl).frozen 0
    have g1 := (HM3.out.at_ 3 rfl).frozen 1
    have g2 := (HM3.out.at_ 3 rfl).frozen 2
    have g3 := (HM3.out.at_ 3 rfl).frozen 3
    obtain ⟨v0, v1, v2, v3⟩ := tu_four (HM3.out.at_ 3 rfl)
    have HZ := Lib.hid (tu_putT HM3.out 3 rfl (f0, f1, f2, f3))
    rw [← hD] at HZ
    clear HM3
    go_wp2_with fail
    go_meet
    exact HZ.out
  case rest =>
  have HM4 := Lib.hid hcut
  clear hcut HM3 y1
  go_wp2_with (refine wpList_load_row rfl 41 _ rfl (gt) rfl 41 (tuL D p).toArray (0, 0) _ (HM4.out.at_ 3 rfl) Tryz.underlying41 rfl (by rw [infoTun, List.size_toArray, tuL_len]) ?_)
  refine (HCK.out _).mono ?_
  rintro e w4 ⟨rfl, hb4⟩
  have HM5 := Lib.hid (HM4.out.step hb4)
  clear hb4 HM4
  go_upto_if 46 with fail
  go_cut [9] from 47 to 49 (fun s9 wx => s9 = .int .i64 (if E ≠ 0 then E else r1) ∧ Hp w [(w.heap.size, 26, plC m X d), (w.heap.size + 1, 95, [.int .i64 p, .bool rp, .int .i64 f0, .int .i64 f1, .int .i64 f2, .int .i64 f3, .int .i64 lo, .int .i64 hi]), (w.heap.size + 1 + 1, 73, [.int .i64 a, .int .i64 b, .int .i64 a', .int .i64 b']), (gt, 41, tuL D p)] wx)
  case first =>
   by_cases hE : E = 0
   ·subst hE
    obtain ⟨c0, c1, c2, c3⟩ := four42e (HM5.out.at_ 2 rfl)
    go_wp2_with fail
    refine (HR1.out _).mono ?_
    rintro e w5 ⟨rfl, hb5⟩
    have HM6 := Lib.hid (HM5.out.step hb5)
    clear hb5 c0 c1 c2 c3
    go_wp2_with fail
    go_meet
    exact ⟨by simp, HM6.out⟩
   ·have hz : (E == 0) = false := by simpa using hE
    go_wp2_with fail
    go_meet
    exact ⟨by rw [if_pos hE], HM5.out⟩
  case rest =>
  obtain ⟨rfl, hm6⟩ := hcut
  have HM6 := Lib.hid hm6
  clear hm6 HM5
  obtain ⟨x1, hx1⟩ : ∃ x, x = if E ≠ 0 then E else r1 := ⟨_, rfl⟩
  have HX1 := Lib.hid hx1
  rw [← hx1]
  rw [← hx1] at HDR HBT
  clear hx1
  go_upto_if 52 with fail
  go_cut [11] from 53 to 55 (fun s11 wx => s11 = .int .i64 (if x1 ≠ 0 then x1 else r2) ∧ Hp w [(w.heap.size, 26, plC m X d), (w.heap.size + 1, 95, [.int .i64 p, .bool rp, .int .i64 f0, .int .i64 f1, .int .i64 f2, .int .i64 f3, .int .i64 lo, .int .i64 hi]), (w.heap.size + 1 + 1, 73, [.int .i64 a, .int .i64 b, .int .i64 a', .int .i64 b']), (gt, 41, tuL D p)] wx)
  case first =>
   by_cases hE : x1 = 0
   ·subst hE
    obtain ⟨c0, c1, c2, c3⟩ := four42e (HM6.out.at_ 2 rfl)
    go_wp2_with fail
    refine (HR2.out _).mono ?_
    rintro e w5 ⟨rfl, hb5⟩
    have HM7 := Lib.hid (HM6.out.step hb5)
    clear hb5 c0 c1 c2 c3
    go_wp2_with fail
    go_meet
    exact ⟨by simp, HM7.out⟩
   ·have hz : (x1 == 0) = false := by simpa using hE
    go_wp2_with fail
    go_meet
    exact ⟨by rw [if_pos hE], HM6.out⟩
  case rest =>
  obtain ⟨rfl, hm7⟩ := hcut
  have HM7 := Lib.hid hm7
  clear hm7 HM6
  obtain ⟨x2, hx2⟩ : ∃ x, x = if x1 ≠ 0 then x1 else r2 := ⟨_, rfl⟩
  have HX2 := Lib.hid (show x2 = if E ≠ 0 then E else if r1 ≠ 0 then r1 else r2 by
   rw [hx2, HX1.out]
   by_cases hE : E = 0
   ·simp [hE]
   ·simp [hE])
  rw [← hx2]
  rw [← HX2.out] at HCO
  clear hx2
  obtain ⟨c0, c1, c2, c3⟩ := four42e (HM7.out.at_ 2 rfl)
  go_wp2_with fail
  refine (HP.out _).mono ?_
  rintro e w7 ⟨rfl, hb7⟩
  have HM8 := Lib.hid (HM7.out.step hb7)
  clear hb7 HM7 c0 c1 c2 c3
  go_upto_region 14 with fail
  go_cut [69] from 64 to 68 (fun s69 wx => s69 = .bool (decide (E = 0) && !q) ∧ Hp w [(w.heap.size, 26, plC m X d), (w.heap.size + 1, 95, [.int .i64 p, .bool rp, .int .i64 f0, .int .i64 f1, .int .i64 f2, .int .i64 f3, .int .i64 lo, .int .i64 hi]), (w.heap.size + 1 + 1, 73, [.int .i64 a, .int .i64 b, .int .i64 a', .int .i64 b']), (gt, 41, tuL D p)] wx)
  case first =>
   by_cases hE : E = 0
   ·subst hE
    cases q
    ·go_wp2_with fail
     go_meet
     exact ⟨rfl, HM8.out⟩
    ·go_wp2_with fail
     go_meet
     exact ⟨rfl, HM8.out⟩
   ·have hz : (E == 0) = false := by simpa using hE
    go_wp2_with fail
    go_meet
    exact ⟨by rw [decide_eq_false hE]; rfl, HM8.out⟩
  case rest =>
  obtain ⟨rfl, hm9⟩ := hcut
  have HM9 := Lib.hid hm9
  clear hm9 HM8
  obtain ⟨x69, hx69⟩ : ∃ x, x = (decide (E = 0) && !q) := ⟨_, rfl⟩
  rw [← hx69]
  have HX69 := Lib.hid hx69
  clear hx69
  go_upto_if 69 with fail
  go_cut [10] from 64 to 68 (fun s10 wx => s10 = .int .i64 (if E ≠ 0 then E else if q = false then 18 else 0) ∧ Hp w [(w.heap.size, 26, plC m X d), (w.heap.size + 1, 95, [.int .i64 p, .bool rp, .int .i64 f0, .int .i64 f1, .int .i64 f2, .int .i64 f3, .int .i64 lo, .int .i64 hi]), (w.heap.size + 1 + 1, 73, [.int .i64 a, .int .i64 b, .int .i64 a', .int .i64 b']), (gt, 41, tuL D p)] wx)
  case first =>
   cases x69 with
   | true =>
    have HE := Lib.hid (show (18 : Int) = (if E ≠ 0 then E else if q = false then 18 else 0) by
     have h := HX69.out.symm
     simp at h
     simp [h.1, h.2])
    clear HX69
    go_wp2_with fail
    go_meet
    exact ⟨by rw [← HE.out], HM9.out⟩
   | false =>
    have HE := Lib.hid (show E = (if E ≠ 0 then E else if q = false then 18 else 0) by
     have h := HX69.out.symm
     by_cases hE : E = 0
     ·rw [hE] at h ⊢
      simp at h
      simp [h]
     ·rw [if_pos hE])
    clear HX69
    go_wp2_with fail
    go_meet
    exact ⟨by rw [← HE.out], HM9.out⟩
  case rest =>
  obtain ⟨rfl, hm10⟩ := hcut
  have HM10 := Lib.hid hm10
  clear hm10 HM9
  obtain ⟨k1, hk1⟩ : ∃ x : Int, x = if E ≠ 0 then E else if q = false then 18 else 0 := ⟨_, rfl⟩
  have HK1 := Lib.hid hk1
  rw [← hk1]
  clear hk1
  go_upto_if 71 with fail
  go_cut [10] from 72 to 74 (fun s10 wx => s10 = .int .i64 (if k1 ≠ 0 then k1 else cm) ∧ Hp w [(w.heap.size, 26, plC m X d), (w.heap.size + 1, 95, [.int .i64 p, .bool rp, .int .i64 f0, .int .i64 f1, .int .i64 f2, .int .i64 f3, .int .i64 lo, .int .i64 hi]), (w.heap.size + 1 + 1, 73, [.int .i64 a, .int .i64 b, .int .i64 a', .int .i64 b']), (gt, 41, tuL D p)] wx)
  case first =>
   by_cases hE : k1 = 0
   ·subst hE
    obtain ⟨-, -, y6, y7⟩ := eight42 (HM10.out.at_ 1 rfl)
    go_wp2_with fail
    refine (HCC.out _).mono ?_
    rintro e w5 ⟨rfl, hb5⟩
    have HM11 := Lib.hid (HM10.out.step hb5)
    clear hb5 y6 y7
    go_wp2_with fail
    go_meet
    exact ⟨by simp, HM11.out⟩
   ·have hz : (k1 == 0) = false := by simpa using hE
    go_wp2_with fail
    go_meet
    exact ⟨by rw [if_pos hE], HM10.out⟩
  case rest =>
  obtain ⟨rfl, hm11⟩ := hcut
  have HM11 := Lib.hid hm11
  clear hm11 HM10
  obtain ⟨k2, hk2⟩ : ∃ x : Int, x = if k1 ≠ 0 then k1 else cm := ⟨_, rfl⟩
  have HK2 := Lib.hid hk2
  have HIN := Lib.hid (show k2 = 0 → (3 ≤ b ∧ b ≤ 12) ∧ 0 ≤ hi ∧ hi ≤ 127 from fun h => by
   rw [hk2] at h
   split at h
   ·rename_i h1; exact absurd h h1
   ·rename_i h1
    have h2 : k1 = 0 := Classical.not_not.1 h1
    rw [HK1.out] at h2
    split at h2
    ·rename_i h3; exact absurd h2 h3
    ·split at h2
     ·cases h2
     ·rename_i h4
      exact ⟨HQ.out (by simpa using h4), HCM.out h⟩)
  rw [← hk2]
  clear hk2
  go_upto_region 18 with fail
  go_cut [86] from 75 to 85 (fun s86 wx => s86 = .bool (decide (k2 = 0) && decide (127 < hi + b)) ∧ Hp w [(w.heap.size, 26, plC m X d), (w.heap.size + 1, 95, [.int .i64 p, .bool rp, .int .i64 f0, .int .i64 f1, .int .i64 f2, .int .i64 f3, .int .i64 lo, .int .i64 hi]), (w.heap.size + 1 + 1, 73, [.int .i64 a, .int .i64 b, .int .i64 a', .int .i64 b']), (gt, 41, tuL D p)] wx)
  case first =>
   by_cases hE : k2 = 0
   ·have hin := HIN.out hE
    subst hE
    obtain ⟨-, -, y6, y7⟩ := eight42 (HM11.out.at_ 1 rfl)
    obtain ⟨c0, c1, c2, c3⟩ := four42e (HM11.out.at_ 2 rfl)
    obtain ⟨z, hzz⟩ : ∃ z, z = hi + b := ⟨_, rfl⟩
    have hw : IntKind.i64.wrap (hi + b) = z := by rw [hzz]; exact IntWalk.i64_in _ (by omega)
    have HZZ := Lib.hid hzz
    clear hin hzz
    go_wp2_with fail
    go_meet
    exact ⟨by rw [← HZZ.out]; simp, HM11.out⟩
   ·have hz : (k2 == 0) = false := by simpa using hE
    go_wp2_with fail
    go_meet
    exact ⟨by rw [decide_eq_false hE]; rfl, HM11.out⟩
  case rest =>
  obtain ⟨rfl, hm12⟩ := hcut
  have HM12 := Lib.hid hm12
  clear hm12 HM11
  obtain ⟨x86, hx86⟩ : ∃ x, x = (decide (k2 = 0) && decide (127 < hi + b)) := ⟨_, rfl⟩
  rw [← hx86]
  have HX86 := Lib.hid hx86
  clear hx86
  go_upto_if 86 with fail
  go_cut [10] from 75 to 85 (fun s10 wx => s10 = .int .i64 (if k2 ≠ 0 then k2 else if 127 < hi + b then 3 else 0) ∧ Hp w [(w.heap.size, 26, plC m X d), (w.heap.size + 1, 95, [.int .i64 p, .bool rp, .int .i64 f0, .int .i64 f1, .int .i64 f2, .int .i64 f3, .int .i64 lo, .int .i64 hi]), (w.heap.size + 1 + 1, 73, [.int .i64 a, .int .i64 b, .int .i64 a', .int .i64 b']), (gt, 41, tuL D p)] wx)
  case first =>
   cases x86 with
   | true =>
    have HE := Lib.hid (show (3 : Int) = (if k2 ≠ 0 then k2 else if 127 < hi + b then 3 else 0) by
     have h := HX86.out.symm
     simp at h
     rw [if_neg (fun k => k h.1), if_pos h.2])
    clear HX86
    go_wp2_with fail
    go_meet
    exact ⟨by rw [← HE.out], HM12.out⟩
   | false =>
    have HE := Lib.hid (show k2 = (if k2 ≠ 0 then k2 else if 127 < hi + b then 3 else 0) by
     have h := HX86.out.symm
     by_cases hE : k2 = 0
     ·rw [hE] at h ⊢
      simp at h
      rw [if_neg (by simp), if_neg (by omega)]
     ·rw [if_pos hE])
    clear HX86
    go_wp2_with fail
    go_meet
    exact ⟨by rw [← HE.out], HM12.out⟩
  case rest =>
  obtain ⟨rfl, hm13⟩ := hcut
  have HM13 := Lib.hid hm13
  clear hm13 HM12
  obtain ⟨K, hK⟩ : ∃ x : Int, x = if k2 ≠ 0 then k2 else if 127 < hi + b then 3 else 0 := ⟨_, rfl⟩
  have HKK := Lib.hid (show K = (if E ≠ 0 then E else if q = false then 18 else if cm ≠ 0 then cm else if 127 < hi + b then 3 else 0) by
   rw [hK, HK2.out, HK1.out]
   by_cases hE : E = 0
   ·cases q
    ·simp [hE]
    ·simp [hE]
   ·simp [hE])
  rw [← hK]
  clear hK HK1 HK2 HIN HQ HCM
  go_wp2_with (refine wpList_load_row rfl 41 _ rfl (gt) rfl 41 (tuL D p).toArray (0, 0) _ (HM13.out.at_ 3 rfl) Tryz.underlying41 rfl (by rw [infoTun, List.size_toArray, tuL_len]) ?_)
  refine (HF.out _ (HT.out.below HM13.out.below)).mono ?_
  rintro e w8 ⟨rfl, hb8⟩
  have hm14 := (HM13.out.step hb8).new 53 [.int .i64 0, .int .i64 0]
  simp only [List.nil_append, List.cons_append] at hm14
  have HM14 := Lib.hid hm14
  clear hb8 HM13 hm14
  obtain ⟨fe, hfe⟩ : ∃ x : Int, x = if E ≠ 0 then E else 3 := ⟨_, rfl⟩
  rw [← hfe]
  have HFE := Lib.hid hfe
  clear hfe
  go_upto_region 21 with fail
  go_cut [111] from 92 to 110 (fun s111 wx => s111 = .bool false ∧ Hp w [(w.heap.size, 26, plC m X d), (w.heap.size + 1, 95, [.int .i64 p, .bool rp, .int .i64 f0, .int .i64 f1, .int .i64 f2, .int .i64 f3, .int .i64 lo, .int .i64 hi]), (w.heap.size + 1 + 1, 73, [.int .i64 a, .int .i64 b, .int .i64 a', .int .i64 b']), (gt, 41, tuL D p)] wx)
  case first =>
   obtain ⟨v0, v1⟩ := two_of (HM14.out.at_ 4 rfl)
   by_cases hE : E = 0
   ·subst hE
    obtain rfl : fe = 3 := HFE.out.trans (if_neg (by simp))
    clear HFE
    go_wp2_with fail
    go_meet
    exact ⟨rfl, Hp.less42 HM14.out⟩
   ·obtain rfl : fe = E := HFE.out.trans (if_pos hE)
    clear HFE
    have hz : (fe == 0) = false := by simpa using hE
    have hz2 : (fe != 0) = true := by simpa using hE
    go_wp2_with fail
    go_meet
    exact ⟨rfl, Hp.less42 HM14.out⟩
  case rest =>
  obtain ⟨rfl, hm15⟩ := hcut
  have HM15 := Lib.hid hm15
  clear hm15 HM14 HFE
  obtain ⟨c0, c1, c2, c3⟩ := four42e (HM15.out.at_ 2 rfl)
  go_wp2_with (refine wpList_load_row rfl 41 _ rfl (gt) rfl 41 (tuL D p).toArray (0, 0) _ (HM15.out.at_ 3 rfl) Tryz.underlying41 rfl (by rw [infoTun, List.size_toArray, tuL_len]) ?_)
  refine (HDR.out _ (HT.out.below HM15.out.below)).mono ?_
  rintro e w9 ⟨⟨dv, dg, rfl, hdv⟩, hb9⟩
  have HM16 := Lib.hid (HM15.out.step hb9)
  have HDV := Lib.hid hdv
  clear hb9 HM15 c0 c1 c2 c3 hdv
  obtain ⟨c0, c1, c2, c3⟩ := four42e (HM16.out.at_ 2 rfl)
  go_wp2_with (refine wpList_load_row rfl 41 _ rfl (gt) rfl 41 (tuL D p).toArray (0, 0) _ (HM16.out.at_ 3 rfl) Tryz.underlying41 rfl (by rw [infoTun, List.size_toArray, tuL_len]) ?_)
  refine (HBT.out _ (HT.out.below HM16.out.below)).mono ?_
  rintro e w10 ⟨⟨b0, b1, bg, rfl, hbv⟩, hb10⟩
  have hm17 := (HM16.out.step hb10).new 53 [.int .i64 b0, .int .i64 b1]
  simp only [List.nil_append, List.cons_append] at hm17
  have HM17 := Lib.hid hm17
  have HBV := Lib.hid hbv
  clear hb10 HM16 c0 c1 c2 c3 hbv hm17
  go_upto_region 25 with fail
  go_cut [146] from 126 to 145 (fun s146 wx => s146 = .bool false ∧ Hp w [(w.heap.size, 26, plC m X d), (w.heap.size + 1, 95, [.int .i64 p, .bool rp, .int .i64 f0, .int .i64 f1, .int .i64 f2, .int .i64 f3, .int .i64 lo, .int .i64 hi]), (w.heap.size + 1 + 1, 73, [.int .i64 a, .int .i64 b, .int .i64 a', .int .i64 b']), (gt, 41, tuL D p)] wx)
  case first =>
   obtain ⟨v0, v1⟩ := two_of (HM17.out.at_ 4 rfl)
   by_cases hE : x1 = 0
   ·subst hE
    go_wp2_with fail
    go_meet
    exact ⟨rfl, Hp.less42 HM17.out⟩
   ·obtain ⟨rfl, rfl⟩ := HDV.out hE
    obtain ⟨rfl, rfl, rfl⟩ := HBV.out hE
    have hz2 : (bg != 0) = true := by simpa using hE
    go_wp2_with fail
    go_meet
    exact ⟨rfl, Hp.less42 HM17.out⟩
  case rest =>
  obtain ⟨rfl, hm18⟩ := hcut
  have HM18 := Lib.hid hm18
  clear hm18 HM17 HDV HBV
  obtain ⟨c0, c1, c2, c3⟩ := four42e (HM18.out.at_ 2 rfl)
  go_wp2_with (refine wpList_load_row rfl 41 _ rfl (gt) rfl 41 (tuL D p).toArray (0, 0) _ (HM18.out.at_ 3 rfl) Tryz.underlying41 rfl (by rw [infoTun, List.size_toArray, tuL_len]) ?_)
  refine (HCO.out _ (HT.out.below HM18.out.below)).mono ?_
  rintro e w11 ⟨⟨cv, cg, rfl, hcv⟩, hb11⟩
  have HM19 := Lib.hid (HM18.out.step hb11)
  have HCV := Lib.hid hcv
  clear hb11 HM18 c0 c1 c2 c3 hcv
  go_upto_region 28 with fail
  go_cut [166] from 156 to 165 (fun s166 wx => s166 = .bool false ∧ Hp w [(w.heap.size, 26, plC m X d), (w.heap.size + 1, 95, [.int .i64 p, .bool rp, .int .i64 f0, .int .i64 f1, .int .i64 f2, .int .i64 f3, .int .i64 lo, .int .i64 hi]), (w.heap.size + 1 + 1, 73, [.int .i64 a, .int .i64 b, .int .i64 a', .int .i64 b']), (gt, 41, tuL D p)] wx)
  case first =>
   by_cases hE : x2 = 0
   ·subst hE
    go_wp2_with fail
    go_meet
    exact ⟨rfl, HM19.out⟩
   ·obtain ⟨rfl, rfl⟩ := HCV.out hE
    have hz2 : (cg != 0) = true := by simpa using hE
    go_wp2_with fail
    go_meet
    exact ⟨rfl, HM19.out⟩
  case rest =>
  obtain ⟨rfl, hm20⟩ := hcut
  have HM20 := Lib.hid hm20
  clear hm20 HM19 HCV
  by_cases hK0 : K = 0
  ·subst hK0
   go_wp2_with fail
   exact bodyPost_ret (v := .bool true) (by simp [results, Tryz.results10, go_sem]) rfl ⟨rfl, HM20.out.below⟩
  ·have hz : (K == 0) = false := by simpa using hK0
   have HOO := Lib.hid (HO.out K HKK.out hK0)
   have HRR := Lib.hid (HRS.out K HKK.out hK0)
   clear hK0
   obtain ⟨c0, c1, c2, c3⟩ := four42e (HM20.out.at_ 2 rfl)
   obtain ⟨-, -, y6, y7⟩ := eight42 (HM20.out.at_ 1 rfl)
   go_wp2_with (refine wpList_load_row rfl 41 _ rfl (gt) rfl 41 (tuL D p).toArray (0, 0) _ (HM20.out.at_ 3 rfl) Tryz.underlying41 rfl (by rw [infoTun, List.size_toArray, tuL_len]) ?_)
   refine (HOO.out _).mono ?_
   rintro e w12 ⟨rfl, hb12⟩
   have HM21 := Lib.hid (HM20.out.step hb12)
   clear hb12 HM20 c0 c1 c2 c3 y6 y7
   obtain ⟨c0, c1, c2, c3⟩ := four42e (HM21.out.at_ 2 rfl)
   obtain ⟨-, -, y6, y7⟩ := eight42 (HM21.out.at_ 1 rfl)
   go_wp2_with (refine wpList_load_row rfl 41 _ rfl (gt) rfl 41 (tuL D p).toArray (0, 0) _ (HM21.out.at_ 3 rfl) Tryz.underlying41 rfl (by rw [infoTun, List.size_toArray, tuL_len]) ?_)
   refine (HRR.out _).mono ?_
   rintro e w13 ⟨rfl, hb13⟩
   have HM22 := Lib.hid (HM21.out.step hb13)
   clear hb13 HM21 c0 c1 c2 c3 y6 y7
   go_wp2_with fail
   exact bodyPost_ret (v := .bool true) (by simp [results, Tryz.results10, go_sem]) rfl ⟨rfl, HM22.out.below⟩
end Go.Proofs.YtendjepcjmfmfaaGreatDoor
namespace Go.Proofs.YtendjepcjmfmfaaGreatDoor
open Go.RowKit
def prs42 (L : List (Int × Int)) : List Value := L.flatMap fun p => [.int .i64 p.1, .int .i64 p.2]
def ivL (lo s : Int) (k : Nat) : List (Int × Int) := (List.range k).map fun i : Nat => (lo + i, s)
def bdL (v0 v1 : Nat → Int) (k : Nat) : List (Int × Int) := (List.range k).map fun i : Nat => (v0 i, v1 i)
def AbRel (w : World) (C : Nat → Tm) (p lo hi s : Int) (n : Nat) (u v : Value) (W : World) : Prop :=
 ∃ (k : Nat) (z : Int) (A : Option Addr) (c : Nat), k ≤ n ∧ z = lo + k ∧ v = .int .i64 z ∧ u = .slice A k c ∧ W.ownsRow (w.heap.size + 1 + 1) 67 2 (.slice A k c) k (prs42 (ivL lo s k)) ∧
  Hp w [(w.heap.size, 41, tuL C p), (w.heap.size + 1, 80, [.int .i64 lo, .int .i64 hi])] W ∧ w.heap.size + 1 + 1 ≤ W.heap.size
def AcRel (W0 : World) (v0 v1 : Nat → Int) (n : Nat) (u v : Value) (W : World) : Prop :=
 ∃ (k : Nat) (A : Option Addr) (c : Nat), k ≤ n ∧ v = .int .i64 (k : Int) ∧ u = .slice A k c ∧ W.ownsRow W0.heap.size 53 2 (.slice A k c) k (prs42 (bdL v0 v1 k)) ∧ Hp W0 [] W
end Go.Proofs.YtendjepcjmfmfaaGreatDoor
namespace Go.Proofs.YtendjepcjmfmfaaGreatDoor
open Go.RowKit Go.Sort
def or3 (x y z : Int) : Int := if x ≠ 0 then x else if y ≠ 0 then y else z
def cfB (v0 v1 : Nat → Int) (lo a b : Int) : Int := or3 (Lib.compareInt (v0 (a - lo).toNat) (v0 (b - lo).toNat)) (Lib.compareInt (v1 (a - lo).toNat) (v1 (b - lo).toNat)) (Lib.compareInt a b)
def HpD (X : World) (L : List (Nat × TypeId × List Value)) (W : World) : Prop := Hp X L W ∧ X.drawn ≤ W.drawn
end Go.Proofs.YtendjepcjmfmfaaGreatDoor
namespace Go.Proofs.YtendjepcjmfmfaaGreatDoor
open Go.RowKit
def riT (v0 v1 : Nat → Int) (lo : Int) : Nat → Nat → Int × Bool
 | 0, _ => (0, true)
 | m + 1, j => if v0 (j + 1) ≤ v1 j then (lo + j, false) else riT v0 v1 lo m (j + 1)
def RiRel (w : World) (C : Nat → Tm) (p lo hi : Int) (v0 v1 : Nat → Int) (n : Nat) (T : Int × Bool) (i : Value) (W : World) : Prop :=
 ∃ j : Nat, j < n ∧ i = .int .i64 ((j + 1 : Nat) : Int) ∧ T = riT v0 v1 lo (n - 1 - j) j ∧ Hp w [(w.heap.size, 41, tuL C p), (w.heap.size + 1, 80, [.int .i64 lo, .int .i64 hi])] W
end Go.Proofs.YtendjepcjmfmfaaGreatDoor
