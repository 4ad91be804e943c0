/- Part 39 of 42 of the proof of the law: contracts of the functions that it reaches, and plain facts. Conditions: those that each contract names. -/
import Derived.Test.YtendjepcjmfmfaaGreatDoorBndB37
import Derived.Test.YtendjepcjmfmfaaGreatDoorBndB33
namespace Go.Proofs.YtendjepcjmfmfaaGreatDoor
open Go.RowKit
theorem infoPlan42 : (Tryz.prog.info? 26).map (·.size) = some 26 := by kernel_rfl
theorem tu_one (C : Nat → Tm) (p : Int) : (tuL C p).toArray.all (·.oneCell') = true := by
 refine all_oneCell_toArray fun v hv => ?_
 have hv : v ∈ cirL C ++ [.int .i64 p] := hv
 rw [List.mem_append] at hv
 rcases hv with hv | hv
 ·have h := cir_one C
  rw [Array.all_eq_true'] at h
  exact h v (List.mem_toArray.2 hv)
 ·rw [List.mem_singleton] at hv
  subst hv; rfl
theorem built_tun (C : Nat → Tm) (p : Int) : Tryz.prog.built 41 [(0, .agg (cirL C).toArray), (1, .int .i64 p)] = some (tuL C p).toArray := by kernel_rfl
theorem wpList_bldTun {ops : Array Oper} {rest : List Oper} {o : Oper} {a : Act} {w : World} {Q : Exit → Act → World → Prop} (hg : o.guard = none) (x y : Operand) (ho : o.op = .build 41 #[(0, x), (1, y)]) (C : Nat → Tm) (p : Int)
  (hx : a.eval x = .agg (cirL C).toArray) (hy : a.eval y = .int .i64 p) (h : wpList Tryz.prog ops Q rest (a.put o.dst (.agg (tuL C p).toArray)) w) : wpList Tryz.prog ops Q (o :: rest) a w := by
 have e : ((#[(0, x), (1, y)] : Array (Nat × Operand)).map fun (i, x) => (i, a.eval x)).toList = [(0, .agg (cirL C).toArray), (1, .int .i64 p)] := by
  simp [hx, hy]
 refine wpList_build hg _ _ ho ?_ ?_
 ·rw [e, built_tun]; rfl
 ·rw [e, built_tun]; exact h
set_option maxRecDepth 1000000 in
set_option maxHeartbeats 4000000 in
theorem lTun_gen (n d q : Int) (X : Nat → Int × Int) (C : Nat → Tm) (w : World) (hq : 0 ≤ q ∧ q < 65536)
  (hM : ∀ W, Calls Tryz.prog 14 #[.agg (plC n X d).toArray] W fun e w' => e = .returned (.agg (cirL C).toArray) ∧ Below W.heap.size W w') :
  Calls Tryz.prog 22 #[.agg (plC n X d).toArray, .int .u16 q] w fun e w' => e = .returned (.agg (tuL C (1 + q % 1000)).toArray) ∧ Below w.heap.size w w' := by
 obtain ⟨m, hm⟩ : ∃ m, m = q % 1000 := ⟨_, rfl⟩
 have h1 : q.tmod 1000 = m := by rw [Int.tmod_eq_emod_of_nonneg hq.1, hm]
 have h2 : IntKind.u16.wrap m = m := by unfold IntKind.wrap; simp [IntKind.bits, IntKind.signed]; omega
 have h3 : IntKind.i64.wrap m = m := IntWalk.i64_in _ (by omega)
 obtain ⟨p, hp⟩ : ∃ p, p = 1 + m := ⟨_, rfl⟩
 have h4 : IntKind.i64.wrap (1 + m) = p := by rw [hp]; exact IntWalk.i64_in _ (by omega)
 rw [← hm, ← hp]
 have HM := Lib.hid hM
 have hm0 := ((Hp.start w).new 26 (plC n X d)).new 41 (tuL (fun _ => (0, 0, 0, 0)) 0)
 simp only [World.size_alloc, List.nil_append, List.cons_append] at hm0
 have HM0 := Lib.hid hm0
 clear hm0 hM hm hp hq
 go_enter Tryz.func22, Tryz.ntmps22
 go_wp2_with (refine wpList_load_row rfl 26 _ rfl (w.heap.size) rfl 26 (plC n X d).toArray (0, 0) _ (HM0.out.at_ 0 rfl) Tryz.underlying26 rfl (by rw [infoPlan42, List.size_toArray, pl_len]) ?_)
 refine (HM.out _).mono ?_
 rintro e w1 ⟨rfl, hb1⟩
 have HM1 := Lib.hid (HM0.out.step hb1)
 have HJ := Lib.hid (HM1.out.row 1 rfl (tuL C p))
 clear hb1 HM0
 go_wp2_with (first | (refine wpList_bldTun rfl _ _ rfl C p rfl rfl ?_) | (refine wpList_store_rowTo rfl 41 _ _ rfl rfl (w.heap.size + 1) (tuL C p).toArray rfl rfl 41 (tuL (fun _ => (0, 0, 0, 0)) 0).toArray (HM1.out.at_ 1 rfl) (by rw [infoTun, List.size_toArray, tuL_len]) (by rw [List.size_toArray, List.size_toArray, tuL_len, tuL_len]) (tu_one C p) ?_))
 refine bodyPost_ret (v := .agg (tuL C p).toArray) ?_ rfl ⟨rfl, HJ.out.below⟩
 exact results_cell_row rfl _ _ (w.heap.size + 1) 41 _ (0, 0) _ rfl (HJ.out.at_ 1 rfl) Tryz.underlying41 rfl (by rw [infoTun, List.size_toArray, tuL_len])
theorem lTun_any (n d q : Int) (X : Nat → Int × Int) (w : World) (hn : 0 ≤ n ∧ n < 256) (hd : 0 ≤ d ∧ d < 256) (hX : ∀ i, i < 12 → (-128 ≤ (X i).1 ∧ (X i).1 ≤ 127) ∧ (-128 ≤ (X i).2 ∧ (X i).2 ≤ 127)) (hq : 0 ≤ q ∧ q < 65536) :
  Calls Tryz.prog 22 #[.agg (plC n X d).toArray, .int .u16 q] w fun e w' => e = .returned (.agg (tuL (cirP (plD n d) (plP n X) (plQ n X)) (1 + q % 1000)).toArray) ∧ Below w.heap.size w w' :=
 lTun_gen n d q X _ w hq (fun W => lMake_any n d X W hn hd hX)
set_option maxRecDepth 1000000 in
set_option maxHeartbeats 4000000 in
theorem tBetween_gen (C : Nat → Tm) (m n : Nat) (s0 s1 s2 s3 s4 s5 : Int) (w : World) (ht : Tab w) (hC : ∀ i, i < 12 → Tm64 (C i)) (hk : ckE C = 0) (hm : m ≤ 127) (hn : n ≤ 127)
  (hB : ∀ W, Tab W → Calls Tryz.prog 69 #[.agg (cirL C).toArray, .int .i64 (m : Int), .int .i64 (n : Int)] W fun e w' => e = .returned (.tuple #[szv s0 s1 s2 s3 s4 s5, .int .i64 0]) ∧ Below W.heap.size W w') :
  Calls Tryz.prog 56 #[.agg (cirL C).toArray, .int .i64 (m : Int), .int .i64 (n : Int)] w fun e w' => e = .returned (.tuple #[szv s0 s1 s2 s3 s4 s5, .int .i64 0]) ∧ Below w.heap.size w w' := by
 have hck := fun W => tcheck_any C W hC
 rw [hk] at hck
 have HCK := Lib.hid hck
 have HB := Lib.hid hB
 have HT := Lib.hid ht
 have hm0 := ((Hp.start w).new 38 (cirL C)).new 49 [.int .i64 0, .int .i64 0, .int .i64 0, .int .i64 0, .int .i64 0, .int .i64 0]
 simp only [World.size_alloc, List.nil_append, List.cons_append] at hm0
 have HM0 := Lib.hid hm0
 clear hm0 ht hB hck hk
 obtain ⟨x, hx⟩ : ∃ x : Int, x = (m : Int) := ⟨_, rfl⟩
 obtain ⟨y, hy⟩ : ∃ y : Int, y = (n : Int) := ⟨_, rfl⟩
 rw [← hx, ← hy] at HB
 rw [← hx, ← hy]
 have x0 : ¬ x < 0 := by omega
 have x1 : ¬ 127 < x := by omega
 have y0 : ¬ y < 0 := by omega
 have y1 : ¬ 127 < y := by omega
 clear hx hy hm hn
 go_enter Tryz.func56, Tryz.ntmps56
 go_wp2_with (refine wpList_load_row rfl 38 _ rfl w.heap.size rfl 38 (cirL C).toArray (0, 0) _ (HM0.out.at_ 0 rfl) Tryz.underlying38 rfl (by rw [infoCircle, List.size_toArray, cirL_len]) ?_)
 refine (HCK.out _).mono ?_
 rintro e w1 ⟨rfl, hb1⟩
 have HM1 := Lib.hid (HM0.out.step hb1)
 clear hb1
 go_wp2_with (refine wpList_load_row rfl 38 _ rfl w.heap.size rfl 38 (cirL C).toArray (0, 0) _ (HM1.out.at_ 0 rfl) Tryz.underlying38 rfl (by rw [infoCircle, List.size_toArray, cirL_len]) ?_)
 refine (HB.out _ (HT.out.below HM1.out.below)).mono ?_
 rintro e w2 ⟨rfl, hb2⟩
 have hq := HM1.out.step hb2
 obtain ⟨z0, z1, z2, z3, z4, z5⟩ := six_of (hq.at_ 1 rfl)
 obtain ⟨f0, f1, f2, f3, f4, f5⟩ := six_free (hq.at_ 1 rfl)
 have HQ := Lib.hid (hq.put6s 1 rfl (.int .i64 s0) (.int .i64 s1) (.int .i64 s2) (.int .i64 s3) (.int .i64 s4) (.int .i64 s5))
 clear hb2 hq
 go_wp2
 exact bodyPost_ret (v := .tuple #[szv s0 s1 s2 s3 s4 s5, .int .i64 0]) (by simp [results, Tryz.results56, go_sem, z0, z1, z2, z3, z4, z5, f0, f1, f2, f3, f4, f5]) rfl ⟨rfl, HQ.out⟩
theorem tBetween_pl {d : Int} {P S : Nat → Int} (h : PlnC d P S) {m n : Nat} (hm : m ≤ 127) (hn : n ≤ 127) (w : World) (ht : Tab w) :
  Calls Tryz.prog 56 #[.agg (cirL (cirP d P S)).toArray, .int .i64 (m : Int), .int .i64 (n : Int)] w fun e w' => e = .returned (.tuple #[szD (vB d P S m n).1 (vB d P S m n).2.1 (vB d P S m n).2.2 d, .int .i64 0]) ∧ Below w.heap.size w w' :=
 tBetween_gen (cirP d P S) m n _ _ _ _ _ _ w ht (plan_tm h) (ckE_pl h) hm hn (fun W hT => tbetween_pl h (by omega) (by omega) W hT)
def rtT (x y z D : Int) : Int × Int × Int := if lgZ (x + 7 * D) y z < 0 ∨ 0 < lgZ (x - 7 * D) y z then (0, 0, 3) else (rtLo x y z D, rtHi x y z D, 0)
theorem rtV_rtT (x y z D : Int) : rtV x y z D = .tuple #[.agg #[.int .i64 (rtT x y z D).1, .int .i64 (rtT x y z D).2.1], .int .i64 (rtT x y z D).2.2] := by
 unfold rtV rtT
 split <;> rfl
theorem rtT_same {x y z D X Y Z E : Int} (hD : 1 ≤ D) (hE : 1 ≤ E) (h0 : X * D = x * E) (h1 : Y * D = y * E) (h2 : Z * D = z * E) : rtT X Y Z E = rtT x y z D := by
 have f : ∀ s : Int, D * lgZ (X + s * E) Y Z = E * lgZ (x + s * D) y z := fun s => by
  rw [← lg_mul, ← lg_mul]
  have e0 : D * (X + s * E) = E * (x + s * D) := by
   rw [Int.mul_add, Int.mul_add, Int.mul_comm D X, h0, Int.mul_comm x E]
   congr 1
   simp only [Int.mul_comm, Int.mul_left_comm]
  rw [e0, Int.mul_comm D Y, h1, Int.mul_comm y E, Int.mul_comm D Z, h2, Int.mul_comm z E]
 have f7 := f 7
 have g7 := f (-7)
 have hs : ∀ s : Int, sgn (lgZ (X + s * E) Y Z) = sgn (lgZ (x + s * D) y z) := fun s => by
  rw [← sgn_mul_pos (show (0 : Int) < D by omega), f s, sgn_mul_pos (by omega)]
 have k1 : lgZ (X + 7 * E) Y Z < 0 ↔ lgZ (x + 7 * D) y z < 0 := by rw [← sgn_neg_iff, ← sgn_neg_iff, hs 7]
 have k2 : 0 < lgZ (X - 7 * E) Y Z ↔ 0 < lgZ (x - 7 * D) y z := by
  rw [show X - 7 * E = X + -7 * E by omega, show x - 7 * D = x + -7 * D by omega, ← sgn_pos_iff, ← sgn_pos_iff, hs (-7)]
 unfold rtT
 by_cases h : lgZ (x + 7 * D) y z < 0 ∨ 0 < lgZ (x - 7 * D) y z
 ·rw [if_pos h, if_pos (h.imp k1.2 k2.2)]
 ·rw [if_neg h, if_neg (fun k => h (k.imp k1.1 k2.1)), (rt_same hD hE h0 h1 h2).1, (rt_same hD hE h0 h1 h2).2]
theorem rtT_bd {x y z D : Int} (hx : -6000 ≤ x ∧ x ≤ 6000) (hy : -6000 ≤ y ∧ y ≤ 6000) (hz : -6000 ≤ z ∧ z ≤ 6000) (hD : 1 ≤ D ∧ D ≤ 240) : (0 ≤ (rtT x y z D).1 ∧ (rtT x y z D).1 ≤ 128000000) ∧ ((rtT x y z D).1 ≤ (rtT x y z D).2.1 ∧ (rtT x y z D).2.1 ≤ (rtT x y z D).1 + 1) := by
 unfold rtT
 by_cases h : lgZ (x + 7 * D) y z < 0 ∨ 0 < lgZ (x - 7 * D) y z
 ·rw [if_pos h]; exact ⟨⟨by decide, by decide⟩, by decide, by decide⟩
 ·rw [if_neg h]
  obtain ⟨⟨h1, h2⟩, _⟩ := rtLo_ok hx hy hz hD (fun k => h ((far_iff x y z D).1 k))
  refine ⟨⟨by dsimp only; omega, h2⟩, ?_⟩
  dsimp only
  unfold rtHi
  split <;> omega
theorem ratio_szD {x y z d : Int} (hd : 1 ≤ d ∧ d ≤ 240) (h : Bx x y z) (w : World) (ht : Tab w) :
  Calls Tryz.prog 18 #[szD x y z d] w fun e w' => e = .returned (.tuple #[.agg #[.int .i64 (rtT x y z d).1, .int .i64 (rtT x y z d).2.1], .int .i64 (rtT x y z d).2.2]) ∧ Below w.heap.size w w' := by
 obtain ⟨hr, X, Y, Z, E, hp, hE, e0, e1, e2⟩ := plan_prt hd h.1 h.2.1 h.2.2
 refine (ratio_all _ _ _ _ _ _ X Y Z E w ht hr hp).mono ?_
 rintro e w' ⟨he, hb⟩
 exact ⟨by rw [he, rtV_rtT, rtT_same hd.1 hE.1 e0 e1 e2], hb⟩
set_option maxRecDepth 1000000 in
set_option maxHeartbeats 4000000 in
theorem bfreq_gen (C : Nat → Tm) (p n b0 b1 b2 s0 s1 s2 s3 s4 s5 : Int) (w : World) (ht : Tab w) (hp : 1 ≤ p ∧ p ≤ 1000) (hb0 : 0 ≤ b0 ∧ b0 ≤ 128000001) (hb1 : 0 ≤ b1 ∧ b1 ≤ 128000001)
  (hB : ∀ W, Tab W → Calls Tryz.prog 56 #[.agg (cirL C).toArray, .int .i64 69, .int .i64 n] W fun e w' => e = .returned (.tuple #[szv s0 s1 s2 s3 s4 s5, .int .i64 0]) ∧ Below W.heap.size W w')
  (hR : ∀ W, Tab W → Calls Tryz.prog 18 #[szv s0 s1 s2 s3 s4 s5] W fun e w' => e = .returned (.tuple #[.agg #[.int .i64 b0, .int .i64 b1], .int .i64 b2]) ∧ Below W.heap.size W w') :
  Calls Tryz.prog 55 #[.agg (tuL C p).toArray, .int .i64 n] w fun e w' => e = .returned (.tuple #[.agg #[.int .i64 (p * b0), .int .i64 (p * b1)], .int .i64 b2]) ∧ Below w.heap.size w w' := by
 have HB := Lib.hid hB
 have HR := Lib.hid hR
 have HT := Lib.hid ht
 have m0 : 0 ≤ p * b0 := Int.mul_nonneg (by omega) hb0.1
 have l0 : p * b0 ≤ 1000 * 128000001 := Int.mul_le_mul hp.2 hb0.2 hb0.1 (by decide)
 have m1 : 0 ≤ p * b1 := Int.mul_nonneg (by omega) hb1.1
 have l1 : p * b1 ≤ 1000 * 128000001 := Int.mul_le_mul hp.2 hb1.2 hb1.1 (by decide)
 obtain ⟨v0, hv0⟩ : ∃ v, v = p * b0 := ⟨_, rfl⟩
 obtain ⟨v1, hv1⟩ : ∃ v, v = p * b1 := ⟨_, rfl⟩
 have hw0 : IntKind.i64.wrap (p * b0) = v0 := by rw [hv0]; exact IntWalk.i64_in _ (by omega)
 have hw1 : IntKind.i64.wrap (p * b1) = v1 := by rw [hv1]; exact IntWalk.i64_in _ (by omega)
 rw [← hv0, ← hv1]
 have HW := Lib.hid (And.intro hw0 hw1)
 have hm0 := ((Hp.start w).new 41 (tuL C p)).new 53 [.int .i64 0, .int .i64 0]
 simp only [World.size_alloc, List.nil_append, List.cons_append] at hm0
 have HM0 := Lib.hid hm0
 clear hm0 hB hR ht hp hb0 hb1 m0 m1 l0 l1 hv0 hv1 hw0 hw1
 go_enter Tryz.func55, Tryz.ntmps55
 go_wp2_with (refine wpList_load_pre rfl 38 _ rfl w.heap.size rfl (cirL C).toArray _ (tu_cir (HM0.out.at_ 0 rfl)) Tryz.underlying38 rfl (by rw [infoCircle, List.size_toArray, cirL_len]) ?_)
 refine (HB.out _ (HT.out.below HM0.out.below)).mono ?_
 rintro e w1 ⟨rfl, hb1⟩
 have HM1 := Lib.hid (HM0.out.step hb1)
 clear hb1 HM0
 obtain ⟨g2, hg2⟩ : ∃ g, g = w1.heap.size := ⟨_, rfl⟩
 have hm2 := HM1.out.new 49 [.int .i64 s0, .int .i64 s1, .int .i64 s2, .int .i64 s3, .int .i64 s4, .int .i64 s5]
 rw [← hg2] at hm2
 simp only [List.nil_append, List.cons_append] at hm2
 have HM2 := Lib.hid hm2
 obtain ⟨p0, p1, p2, p3, p4, p5⟩ := six_of (hm2.at_ 2 rfl)
 clear hm2 HM1
 go_wp2_with fail
 refine (HR.out _ (HT.out.below HM2.out.below)).mono ?_
 rintro e w2 ⟨rfl, hb2⟩
 have HM3 := Lib.hid (HM2.out.step hb2)
 clear hb2 HM2 p0 p1 p2 p3 p4 p5
 obtain ⟨g3, hg3⟩ : ∃ g, g = w2.heap.size := ⟨_, rfl⟩
 have hm4 := HM3.out.new 53 [.int .i64 b0, .int .i64 b1]
 rw [← hg3] at hm4
 simp only [List.nil_append, List.cons_append] at hm4
 have HM4 := Lib.hid hm4
 have y9 := tu_pitch (hm4.at_ 0 rfl)
 obtain ⟨y0, y1⟩ := two_of (hm4.at_ 1 rfl)
 obtain ⟨y2, y3⟩ := two_of (hm4.at_ 3 rfl)
 have f0 := (hm4.at_ 1 rfl).frozen 0
 have f1 := (hm4.at_ 1 rfl).frozen 1
 have HZ := Lib.hid (hm4.put2 1 rfl (.int .i64 v0) (.int .i64 v1))
 obtain ⟨hw0, hw1⟩ := HW.out
 clear hm4 HM3
 go_wp2_with fail
 obtain ⟨WZ, hWZ⟩ : ∃ WZ, WZ = ((w2.alloc (.cells #[.int .i64 b0, .int .i64 b1] 53)).setCell ⟨w.heap.size + 1, 0, none⟩ (.int .i64 v0)).setCell ⟨w.heap.size + 1, 1, none⟩ (.int .i64 v1) := ⟨_, rfl⟩
 rw [← hWZ] at HZ ⊢
 obtain ⟨z0, z1⟩ := two_of (HZ.out.at_ 1 rfl)
 exact bodyPost_ret (v := .tuple #[.agg #[.int .i64 v0, .int .i64 v1], .int .i64 b2]) (by simp [results, Tryz.results55, go_sem, z0, z1]) rfl ⟨rfl, HZ.out.below⟩
def frT (d : Int) (P S : Nat → Int) (p : Int) (n : Nat) : Int × Int × Int :=
 (p * (rtT (vB d P S 69 n).1 (vB d P S 69 n).2.1 (vB d P S 69 n).2.2 d).1, p * (rtT (vB d P S 69 n).1 (vB d P S 69 n).2.1 (vB d P S 69 n).2.2 d).2.1, (rtT (vB d P S 69 n).1 (vB d P S 69 n).2.1 (vB d P S 69 n).2.2 d).2.2)
theorem bfreq_pl {d : Int} {P S : Nat → Int} (h : PlnC d P S) (p : Int) (hp : 1 ≤ p ∧ p ≤ 1000) {n : Nat} (hn : n ≤ 127) (w : World) (ht : Tab w) :
  Calls Tryz.prog 55 #[.agg (tuL (cirP d P S) p).toArray, .int .i64 (n : Int)] w fun e w' => e = .returned (.tuple #[.agg #[.int .i64 (frT d P S p n).1, .int .i64 (frT d P S p n).2.1], .int .i64 (frT d P S p n).2.2]) ∧ Below w.heap.size w w' := by
 have hb := vB_Bx h (m := 69) (n := n) (by decide) (by omega)
 have hd := pl_d h
 have h2 := rtT_bd hb.1 hb.2.1 hb.2.2 hd
 exact bfreq_gen (cirP d P S) p n _ _ _ _ _ _ _ _ _ w ht hp (by omega) (by omega) (fun W hT => tBetween_pl h (m := 69) (by decide) hn W hT) (fun W hT => ratio_szD hd hb W hT)
set_option maxRecDepth 1000000 in
set_option maxHeartbeats 4000000 in
theorem bFrequency_ok (C : Nat → Tm) (p n v0 v1 v2 : Int) (w : World) (ht : Tab w) (hC : ∀ i, i < 12 → Tm64 (C i)) (hk : tuE C p = 0) (hn : ntB n = true)
  (hF : ∀ W, Tab W → Calls Tryz.prog 55 #[.agg (tuL C p).toArray, .int .i64 n] W fun e w' => e = .returned (.tuple #[.agg #[.int .i64 v0, .int .i64 v1], .int .i64 v2]) ∧ Below W.heap.size W w') :
  Calls Tryz.prog 23 #[.agg (tuL C p).toArray, .int .i64 n] w fun e w' => e = .returned (.tuple #[.agg #[.int .i64 v0, .int .i64 v1], .int .i64 v2]) ∧ Below w.heap.size w w' := by
 have hck := fun W => bCheck_any C p W hC
 rw [hk] at hck
 have HCK := Lib.hid hck
 have hnt := fun W => bnote_any n W
 rw [hn] at hnt
 have HNT := Lib.hid hnt
 have HF := Lib.hid hF
 have HT := Lib.hid ht
 have hm0 := ((Hp.start w).new 41 (tuL C p)).new 53 [.int .i64 0, .int .i64 0]
 simp only [World.size_alloc, List.nil_append, List.cons_append] at hm0
 have HM0 := Lib.hid hm0
 clear hm0 hk hC hck hn hnt hF ht
 go_enter Tryz.func23, Tryz.ntmps23
 go_wp2_with (refine wpList_load_row rfl 41 _ rfl w.heap.size rfl 41 (tuL C p).toArray (0, 0) _ (HM0.out.at_ 0 rfl) Tryz.underlying41 rfl (by rw [infoTun, List.size_toArray, tuL_len]) ?_)
 refine (HCK.out _).mono ?_
 rintro e w1 ⟨rfl, hb1⟩
 have HM1 := Lib.hid (HM0.out.step hb1)
 clear hb1 HM0
 go_wp2_with fail
 refine (HNT.out _).mono ?_
 rintro e w2 ⟨rfl, rfl⟩
 go_wp2_with (refine wpList_load_row rfl 41 _ rfl w.heap.size rfl 41 (tuL C p).toArray (0, 0) _ (HM1.out.at_ 0 rfl) Tryz.underlying41 rfl (by rw [infoTun, List.size_toArray, tuL_len]) ?_)
 refine (HF.out _ (HT.out.below HM1.out.below)).mono ?_
 rintro e w3 ⟨rfl, hb3⟩
 have HM2 := Lib.hid (HM1.out.step hb3)
 clear hb3 HM1
 obtain ⟨y0, y1⟩ := two_of (HM2.out.at_ 1 rfl)
 have f0 := (HM2.out.at_ 1 rfl).frozen 0
 have f1 := (HM2.out.at_ 1 rfl).frozen 1
 have HZ := Lib.hid (HM2.out.put2 1 rfl (.int .i64 v0) (.int .i64 v1))
 clear HM2
 go_wp2_with fail
 exact bodyPost_ret (v := .tuple #[.agg #[.int .i64 v0, .int .i64 v1], .int .i64 v2]) (by simp [results, Tryz.results23, go_sem, y0, y1, f0, f1]) rfl ⟨rfl, HZ.out.below⟩
theorem tratio_at {n q a0 a1 a2 b0 b1 b2 : Nat} (x y z : Int) (w : World) (hn : 1 ≤ n ∧ n ≤ 1000) (hq : 1 ≤ q ∧ q ≤ 1000) (f1 : Fac n a0 a1 a2 1) (f2 : Fac q b0 b1 b2 1) (hx : x = (a0 : Int) - b0) (hy : y = (a1 : Int) - b1) (hz : z = (a2 : Int) - b2) (hb : Bx x y z) :
  Calls Tryz.prog 61 #[.int .i64 (n : Int), .int .i64 (q : Int)] w fun e w' => e = .returned (.tuple #[szv x 1 y 1 z 1, .int .i64 0]) ∧ Below w.heap.size w w' := by
 refine (ratio_any n q w hn.1 (by omega) hq.1 (by omega)).mono ?_
 rintro e w' ⟨⟨rn, rd, a0', b0', a1', b1', a2', b2', ⟨g1, g2⟩, m2, m3, m5, he⟩, hbl⟩
 obtain ⟨rfl, rfl, rfl, rfl⟩ := fac_uniq g1 f1 m2.1 m3.1 m5.1 (by decide) (by decide) (by decide)
 obtain ⟨rfl, rfl, rfl, rfl⟩ := fac_uniq g2 f2 m2.2 m3.2 m5.2 (by decide) (by decide) (by decide)
 rw [if_pos rfl, ← hx, ← hy, ← hz, t_ivR_ones hb.1 hb.2.1 hb.2.2] at he
 exact ⟨he, hbl⟩
def ppE (n : Int) : Int × Int × Int := if n = 3 then (1, 1, -1) else if n = 4 then (-2, 0, 1) else if n = 5 then (2, -1, 0) else if n = 7 then (-1, 1, 0) else if n = 8 then (3, 0, -1) else if n = 9 then (0, -1, 1) else (1, 0, 0)
theorem ppE_bd (n : Int) : (-3 ≤ (ppE n).1 ∧ (ppE n).1 ≤ 3) ∧ (-1 ≤ (ppE n).2.1 ∧ (ppE n).2.1 ≤ 1) ∧ (-1 ≤ (ppE n).2.2 ∧ (ppE n).2.2 ≤ 1) := by
 unfold ppE
 repeat' split
 all_goals exact ⟨⟨by decide, by decide⟩, ⟨by decide, by decide⟩, by decide, by decide⟩
theorem ppR {n : Int} (h : ptB n) (w : World) : Calls Tryz.prog 61 #[.int .i64 (ptP n).1, .int .i64 (ptP n).2] w fun e w' => e = .returned (.tuple #[szv (ppE n).1 1 (ppE n).2.1 1 (ppE n).2.2 1, .int .i64 0]) ∧ Below w.heap.size w w' := by
 rcases h with rfl | rfl | rfl | rfl | rfl | rfl | rfl
 ·exact tratio_at 1 1 (-1) w (by decide) (by decide) (⟨by decide⟩ : Fac 6 1 1 0 1) (⟨by decide⟩ : Fac 5 0 0 1 1) rfl rfl rfl (by unfold Bx; omega)
 ·exact tratio_at (-2) 0 1 w (by decide) (by decide) (⟨by decide⟩ : Fac 5 0 0 1 1) (⟨by decide⟩ : Fac 4 2 0 0 1) rfl rfl rfl (by unfold Bx; omega)
 ·exact tratio_at 2 (-1) 0 w (by decide) (by decide) (⟨by decide⟩ : Fac 4 2 0 0 1) (⟨by decide⟩ : Fac 3 0 1 0 1) rfl rfl rfl (by unfold Bx; omega)
 ·exact tratio_at (-1) 1 0 w (by decide) (by decide) (⟨by decide⟩ : Fac 3 0 1 0 1) (⟨by decide⟩ : Fac 2 1 0 0 1) rfl rfl rfl (by unfold Bx; omega)
 ·exact tratio_at 3 0 (-1) w (by decide) (by decide) (⟨by decide⟩ : Fac 8 3 0 0 1) (⟨by decide⟩ : Fac 5 0 0 1 1) rfl rfl rfl (by unfold Bx; omega)
 ·exact tratio_at 0 (-1) 1 w (by decide) (by decide) (⟨by decide⟩ : Fac 5 0 0 1 1) (⟨by decide⟩ : Fac 3 0 1 0 1) rfl rfl rfl (by unfold Bx; omega)
 ·exact tratio_at 1 0 0 w (by decide) (by decide) (⟨by decide⟩ : Fac 2 1 0 0 1) (⟨by decide⟩ : Fac 1 0 0 0 1) rfl rfl rfl (by unfold Bx; omega)
set_option maxRecDepth 1000000 in
set_option maxHeartbeats 4000000 in
theorem bdir_gen (C : Nat → Tm) (p l s t dv s0 s1 s2 s3 s4 s5 r0 r1 r2 r3 r4 r5 : Int) (w : World) (ht : Tab w) (hs : ptB s) (hl : 0 ≤ l ∧ l ≤ 127) (hlt : l + s = t)
  (hB : ∀ W, Tab W → Calls Tryz.prog 56 #[.agg (cirL C).toArray, .int .i64 l, .int .i64 t] W fun e w' => e = .returned (.tuple #[szv s0 s1 s2 s3 s4 s5, .int .i64 0]) ∧ Below W.heap.size W w')
  (hR : ∀ W, Calls Tryz.prog 61 #[.int .i64 (ptP s).1, .int .i64 (ptP s).2] W fun e w' => e = .returned (.tuple #[szv r0 r1 r2 r3 r4 r5, .int .i64 0]) ∧ Below W.heap.size W w')
  (hC : ∀ W, Tab W → Calls Tryz.prog 46 #[szv s0 s1 s2 s3 s4 s5, szv r0 r1 r2 r3 r4 r5] W fun e w' => e = .returned (.tuple #[.int .i64 dv, .int .i64 0]) ∧ Below W.heap.size W w') :
  Calls Tryz.prog 58 #[.agg (tuL C p).toArray, .agg #[.int .i64 l, .int .i64 s]] w fun e w' => e = .returned (.tuple #[.int .i64 dv, .int .i64 0]) ∧ Below w.heap.size w w' := by
 have hp := fun W => bPart_ok s W hs
 have hs12 : 0 ≤ s ∧ s ≤ 12 := by unfold ptB at hs; omega
 have hw : IntKind.i64.wrap (l + s) = t := by rw [hlt]; exact IntWalk.i64_in _ (by omega)
 obtain ⟨u, hu⟩ : ∃ u, u = (ptP s).1 := ⟨_, rfl⟩
 obtain ⟨v, hv⟩ : ∃ u, u = (ptP s).2 := ⟨_, rfl⟩
 rw [← hu, ← hv] at hp hR
 have HP := Lib.hid hp
 have HB := Lib.hid hB
 have HR := Lib.hid hR
 have HC := Lib.hid hC
 have HT := Lib.hid ht
 have HW := Lib.hid hw
 have hm0 := ((Hp.start w).new 41 (tuL C p)).new 67 [.int .i64 l, .int .i64 s]
 simp only [World.size_alloc, List.nil_append, List.cons_append] at hm0
 have HM0 := Lib.hid hm0
 obtain ⟨y0, y1⟩ := two_of (hm0.at_ 1 rfl)
 clear hm0 hp hB hR hC ht hw hs hl hlt hs12 hu hv
 go_enter Tryz.func58, Tryz.ntmps58
 go_wp2_with fail
 refine (HP.out _).mono ?_
 rintro e w1 ⟨rfl, rfl⟩
 go_wp2_with fail
 refine (HR.out _).mono ?_
 rintro e w1 ⟨rfl, hb1⟩
 have HM1 := Lib.hid (HM0.out.step hb1)
 clear hb1 HM0 y0 y1
 have hm2 := HM1.out.new 49 [.int .i64 r0, .int .i64 r1, .int .i64 r2, .int .i64 r3, .int .i64 r4, .int .i64 r5]
 simp only [List.nil_append, List.cons_append] at hm2
 have HM2 := Lib.hid hm2
 obtain ⟨y0, y1⟩ := two_of (hm2.at_ 1 rfl)
 have hw := HW.out
 clear hm2 HM1
 go_wp2_with (refine wpList_load_pre rfl 38 _ rfl w.heap.size rfl (cirL C).toArray _ (tu_cir (HM2.out.at_ 0 rfl)) Tryz.underlying38 rfl (by rw [infoCircle, List.size_toArray, cirL_len]) ?_)
 refine (HB.out _ (HT.out.below HM2.out.below)).mono ?_
 rintro e w2 ⟨rfl, hb2⟩
 have HM3 := Lib.hid (HM2.out.step hb2)
 clear hb2 HM2 y0 y1 hw
 have hm4 := HM3.out.new 49 [.int .i64 s0, .int .i64 s1, .int .i64 s2, .int .i64 s3, .int .i64 s4, .int .i64 s5]
 simp only [List.nil_append, List.cons_append] at hm4
 have HM4 := Lib.hid hm4
 obtain ⟨p0, p1, p2, p3, p4, p5⟩ := six_of (hm4.at_ 2 rfl)
 obtain ⟨q0, q1, q2, q3, q4, q5⟩ := six_of (hm4.at_ 3 rfl)
 clear hm4 HM3
 go_wp2_with fail
 refine (HC.out _ (HT.out.below HM4.out.below)).mono ?_
 rintro e w3 ⟨rfl, hb3⟩
 have HZ := Lib.hid (HM4.out.step hb3)
 clear hb3 HM4 p0 p1 p2 p3 p4 p5 q0 q1 q2 q3 q4 q5
 go_wp2_with fail
 exact bodyPost_ret (v := .tuple #[.int .i64 dv, .int .i64 0]) (by simp [results, Tryz.results58, go_sem]) rfl ⟨rfl, HZ.out.below⟩
def drT (d : Int) (P S : Nat → Int) (l n : Nat) (s : Int) : Int := sgn (lgZ ((vB d P S l n).1 - d * (ppE s).1) ((vB d P S l n).2.1 - d * (ppE s).2.1) ((vB d P S l n).2.2 - d * (ppE s).2.2))
theorem bdir_pl {d : Int} {P S : Nat → Int} (h : PlnC d P S) (p s : Int) (hs : ptB s) {l n : Nat} (hn : n ≤ 127) (hls : (l : Int) + s = n) (w : World) (ht : Tab w) :
  Calls Tryz.prog 58 #[.agg (tuL (cirP d P S) p).toArray, .agg #[.int .i64 (l : Int), .int .i64 s]] w fun e w' => e = .returned (.tuple #[.int .i64 (drT d P S l n s), .int .i64 0]) ∧ Below w.heap.size w w' := by
 have hs12 : 3 ≤ s ∧ s ≤ 12 := by unfold ptB at hs; omega
 have hb := vB_Bx h (m := l) (n := n) (by omega) (by omega)
 have hd := pl_d h
 have hp := ppE_bd s
 refine bdir_gen (cirP d P S) p l s n _ _ _ _ _ _ _ _ _ _ _ _ _ w ht hs (by omega) hls (fun W hT => tBetween_pl h (m := l) (by omega) hn W hT) (fun W => ppR hs W) (fun W hT => ?_)
 rw [szv_szD (d := d) (by omega)]
 have k : ∀ x : Int, -3 ≤ x ∧ x ≤ 3 → -720 ≤ d * x ∧ d * x ≤ 720 := fun x hx => by
  have a1 : d * x ≤ d * 3 := Int.mul_le_mul_of_nonneg_left hx.2 (by omega)
  have a2 : d * -3 ≤ d * x := Int.mul_le_mul_of_nonneg_left hx.1 (by omega)
  omega
 exact tcmp_any _ _ _ _ _ _ d W hd hT hb ⟨by have := k _ hp.1; omega, by have := k (ppE s).2.1 (by omega); omega, by have := k (ppE s).2.2 (by omega); omega⟩
def btT (u v dv a0 a1 e1 b0 b1 e2 : Int) : Int × Int × Int :=
 if e1 ≠ 0 then (0, 0, e1) else if e2 ≠ 0 then (0, 0, e2) else if dv = 1 then (max 0 (v * b0 - u * a1), v * b1 - u * a0, 0) else if dv = -1 then (max 0 (u * a0 - v * b1), u * a1 - v * b0, 0) else (0, 0, 0)
theorem ptP_bd (n : Int) : (0 ≤ (ptP n).1 ∧ (ptP n).1 ≤ 8) ∧ (0 ≤ (ptP n).2 ∧ (ptP n).2 ≤ 8) := by
 unfold ptP
 repeat' split
 all_goals exact ⟨⟨by decide, by decide⟩, by decide, by decide⟩
theorem bt_mul {u a : Int} (hu : 0 ≤ u ∧ u ≤ 8) (ha : 0 ≤ a ∧ a ≤ 130000000000) : 0 ≤ u * a ∧ u * a ≤ 8 * 130000000000 :=
 ⟨Int.mul_nonneg hu.1 ha.1, Int.mul_le_mul hu.2 ha.2 ha.1 (by decide)⟩
set_option maxRecDepth 1000000 in
set_option maxHeartbeats 8000000 in
theorem bbeats_gen (C : Nat → Tm) (p l s t dv a0 a1 e1 b0 b1 e2 : Int) (w : World) (ht : Tab w) (hs : ptB s) (hl : 0 ≤ l ∧ l ≤ 127) (hlt : l + s = t)
  (ha0 : 0 ≤ a0 ∧ a0 ≤ 130000000000) (ha1 : 0 ≤ a1 ∧ a1 ≤ 130000000000) (hb0 : 0 ≤ b0 ∧ b0 ≤ 130000000000) (hb1 : 0 ≤ b1 ∧ b1 ≤ 130000000000)
  (hD : ∀ W, Tab W → Calls Tryz.prog 58 #[.agg (tuL C p).toArray, .agg #[.int .i64 l, .int .i64 s]] W fun e w' => e = .returned (.tuple #[.int .i64 dv, .int .i64 0]) ∧ Below W.heap.size W w')
  (hF : ∀ W, Tab W → Calls Tryz.prog 55 #[.agg (tuL C p).toArray, .int .i64 l] W fun e w' => e = .returned (.tuple #[.agg #[.int .i64 a0, .int .i64 a1], .int .i64 e1]) ∧ Below W.heap.size W w')
  (hG : ∀ W, Tab W → Calls Tryz.prog 55 #[.agg (tuL C p).toArray, .int .i64 t] W fun e w' => e = .returned (.tuple #[.agg #[.int .i64 b0, .int .i64 b1], .int .i64 e2]) ∧ Below W.heap.size W w') :
  Calls Tryz.prog 60 #[.agg (tuL C p).toArray, .agg #[.int .i64 l, .int .i64 s]] w fun e w' => e = .returned (.tuple #[.agg #[.int .i64 (btT (ptP s).1 (ptP s).2 dv a0 a1 e1 b0 b1 e2).1, .int .i64 (btT (ptP s).1 (ptP s).2 dv a0 a1 e1 b0 b1 e2).2.1], .int .i64 (btT (ptP s).1 (ptP s).2 dv a0 a1 e1 b0 b1 e2).2.2]) ∧ Below w.heap.size w w' := by
 have hp := fun W => bPart_ok s W hs
 have hs12 : 0 ≤ s ∧ s ≤ 12 := by unfold ptB at hs; omega
 have hw : IntKind.i64.wrap (l + s) = t := by rw [hlt]; exact IntWalk.i64_in _ (by omega)
 have hpb := ptP_bd s
 obtain ⟨u, hu⟩ : ∃ u, u = (ptP s).1 := ⟨_, rfl⟩
 obtain ⟨v, hv⟩ : ∃ u, u = (ptP s).2 := ⟨_, rfl⟩
 rw [← hu, ← hv] at hp hpb ⊢
 have hT0 : ∃ T, T = btT u v dv a0 a1 e1 b0 b1 e2 := ⟨_, rfl⟩
 obtain ⟨T, hT0⟩ := hT0
 rw [← hT0]
 have HV := Lib.hid hT0
 have HP := Lib.hid hp
 have HD := Lib.hid hD
 have HF := Lib.hid hF
 have HG := Lib.hid hG
 have HT := Lib.hid ht
 have HW := Lib.hid hw
 have n1 := bt_mul hpb.2 hb0
 have n2 := bt_mul hpb.1 ha1
 have n3 := bt_mul hpb.2 hb1
 have n4 := bt_mul hpb.1 ha0
 obtain ⟨x1, hx1⟩ : ∃ x, x = v * b0 := ⟨_, rfl⟩
 obtain ⟨x2, hx2⟩ : ∃ x, x = u * a1 := ⟨_, rfl⟩
 obtain ⟨x3, hx3⟩ : ∃ x, x = v * b1 := ⟨_, rfl⟩
 obtain ⟨x4, hx4⟩ : ∃ x, x = u * a0 := ⟨_, rfl⟩
 have w1 : IntKind.i64.wrap (v * b0) = x1 := by rw [hx1]; exact IntWalk.i64_in _ (by omega)
 have w2 : IntKind.i64.wrap (u * a1) = x2 := by rw [hx2]; exact IntWalk.i64_in _ (by omega)
 have w3 : IntKind.i64.wrap (v * b1) = x3 := by rw [hx3]; exact IntWalk.i64_in _ (by omega)
 have w4 : IntKind.i64.wrap (u * a0) = x4 := by rw [hx4]; exact IntWalk.i64_in _ (by omega)
 rw [← hx1] at n1
 rw [← hx2] at n2
 rw [← hx3] at n3
 rw [← hx4] at n4
 obtain ⟨z1, hz1⟩ : ∃ x, x = x1 - x2 := ⟨_, rfl⟩
 obtain ⟨z2, hz2⟩ : ∃ x, x = x3 - x4 := ⟨_, rfl⟩
 obtain ⟨z3, hz3⟩ : ∃ x, x = x4 - x3 := ⟨_, rfl⟩
 obtain ⟨z4, hz4⟩ : ∃ x, x = x2 - x1 := ⟨_, rfl⟩
 have v1 : IntKind.i64.wrap (x1 - x2) = z1 := by rw [hz1]; exact IntWalk.i64_in _ (by omega)
 have v2 : IntKind.i64.wrap (x3 - x4) = z2 := by rw [hz2]; exact IntWalk.i64_in _ (by omega)
 have v3 : IntKind.i64.wrap (x4 - x3) = z3 := by rw [hz3]; exact IntWalk.i64_in _ (by omega)
 have v4 : IntKind.i64.wrap (x2 - x1) = z4 := by rw [hz4]; exact IntWalk.i64_in _ (by omega)
 have HN := Lib.hid (show btT u v dv a0 a1 e1 b0 b1 e2 = if e1 ≠ 0 then (0, 0, e1) else if e2 ≠ 0 then (0, 0, e2) else if dv = 1 then (max 0 z1, z2, 0) else if dv = -1 then (max 0 z3, z4, 0) else (0, 0, 0) by
  unfold btT; rw [← hx1, ← hx2, ← hx3, ← hx4, ← hz1, ← hz2, ← hz3, ← hz4])
 have HWS := Lib.hid (And.intro (And.intro w1 (And.intro w2 (And.intro w3 w4))) (And.intro v1 (And.intro v2 (And.intro v3 v4))))
 have hm0 := (((Hp.start w).new 41 (tuL C p)).new 67 [.int .i64 l, .int .i64 s]).new 53 [.int .i64 0, .int .i64 0]
 simp only [World.size_alloc, List.nil_append, List.cons_append] at hm0
 have HM0 := Lib.hid hm0
 obtain ⟨y0, y1⟩ := two_of (hm0.at_ 1 rfl)
 clear hm0 hp hD hF hG ht hw hs hl hlt hs12 hu hv hpb n1 n2 n3 n4 hx1 hx2 hx3 hx4 w1 w2 w3 w4 hz1 hz2 hz3 hz4 v1 v2 v3 v4 ha0 ha1 hb0 hb1 hT0
 go_enter Tryz.func60, Tryz.ntmps60
 go_wp2_with fail
 refine (HP.out _).mono ?_
 rintro e wx ⟨rfl, rfl⟩
 go_wp2_with (refine wpList_load_row rfl 41 _ rfl w.heap.size rfl 41 (tuL C p).toArray (0, 0) _ (HM0.out.at_ 0 rfl) Tryz.underlying41 rfl (by rw [infoTun, List.size_toArray, tuL_len]) ?_)
 refine (HD.out _ (HT.out.below HM0.out.below)).mono ?_
 rintro e w1 ⟨rfl, hb1⟩
 have HM1 := Lib.hid (HM0.out.step hb1)
 clear hb1 HM0 y0 y1
 obtain ⟨y0, y1⟩ := two_of (HM1.out.at_ 1 rfl)
 go_wp2_with (refine wpList_load_row rfl 41 _ rfl w.heap.size rfl 41 (tuL C p).toArray (0, 0) _ (HM1.out.at_ 0 rfl) Tryz.underlying41 rfl (by rw [infoTun, List.size_toArray, tuL_len]) ?_)
 refine (HF.out _ (HT.out.below HM1.out.below)).mono ?_
 rintro e w2 ⟨rfl, hb2⟩
 have hm3 := (HM1.out.step hb2).new 53 [.int .i64 a0, .int .i64 a1]
 simp only [List.nil_append, List.cons_append] at hm3
 have HM3 := Lib.hid hm3
 clear hb2 HM1 y0 y1
 by_cases h1 : e1 = 0
 ·subst h1
  obtain ⟨y0, y1⟩ := two_of (hm3.at_ 1 rfl)
  have hw := HW.out
  clear hm3
  go_wp2_with (refine wpList_load_row rfl 41 _ rfl w.heap.size rfl 41 (tuL C p).toArray (0, 0) _ (HM3.out.at_ 0 rfl) Tryz.underlying41 rfl (by rw [infoTun, List.size_toArray, tuL_len]) ?_)
  refine (HG.out _ (HT.out.below HM3.out.below)).mono ?_
  rintro e w3 ⟨rfl, hb3⟩
  have hm4 := (HM3.out.step hb3).new 53 [.int .i64 b0, .int .i64 b1]
  simp only [List.nil_append, List.cons_append] at hm4
  have HM4 := Lib.hid hm4
  clear hb3 HM3 y0 y1 hw
  obtain ⟨y0, y1⟩ := two_of (hm4.at_ 2 rfl)
  have f0 := (hm4.at_ 2 rfl).frozen 0
  have f1 := (hm4.at_ 2 rfl).frozen 1
  by_cases h2 : e2 = 0
  ·subst h2
   obtain ⟨q0, q1⟩ := two_of (hm4.at_ 3 rfl)
   obtain ⟨q2, q3⟩ := two_of (hm4.at_ 4 rfl)
   obtain ⟨⟨w1', w2', w3', w4'⟩, v1', v2', v3', v4'⟩ := HWS.out
   by_cases h3 : dv = 1
   ·have HE := Lib.hid (HV.out.trans (HN.out.trans (by rw [if_neg (by simp), if_neg (by simp), if_pos h3])))
    subst h3
    have HZ := Lib.hid (hm4.put2 2 rfl (.int .i64 (max 0 z1)) (.int .i64 z2))
    clear hm4 HM4
    go_wp2_with fail
    obtain ⟨WZ, hWZ⟩ : ∃ WZ, WZ = ((w3.alloc (.cells #[.int .i64 b0, .int .i64 b1] 53)).setCell ⟨w.heap.size + 1 + 1, 0, none⟩ (.int .i64 (max 0 z1))).setCell ⟨w.heap.size + 1 + 1, 1, none⟩ (.int .i64 z2) := ⟨_, rfl⟩
    rw [← hWZ] at HZ ⊢
    obtain ⟨j0, j1⟩ := two_of (HZ.out.at_ 2 rfl)
    exact bodyPost_ret (v := .tuple #[.agg #[.int .i64 (max 0 z1), .int .i64 z2], .int .i64 0]) (by simp [results, Tryz.results60, go_sem, j0, j1]) rfl ⟨by rw [HE.out], HZ.out.below⟩
   ·by_cases h4 : dv = -1
    ·have HE := Lib.hid (HV.out.trans (HN.out.trans (by rw [if_neg (by simp), if_neg (by simp), if_neg h3, if_pos h4])))
     subst h4
     have HZ := Lib.hid (hm4.put2 2 rfl (.int .i64 (max 0 z3)) (.int .i64 z4))
     clear hm4 HM4 h3
     go_wp2_with fail
     obtain ⟨WZ, hWZ⟩ : ∃ WZ, WZ = ((w3.alloc (.cells #[.int .i64 b0, .int .i64 b1] 53)).setCell ⟨w.heap.size + 1 + 1, 0, none⟩ (.int .i64 (max 0 z3))).setCell ⟨w.heap.size + 1 + 1, 1, none⟩ (.int .i64 z4) := ⟨_, rfl⟩
     rw [← hWZ] at HZ ⊢
     obtain ⟨j0, j1⟩ := two_of (HZ.out.at_ 2 rfl)
     exact bodyPost_ret (v := .tuple #[.agg #[.int .i64 (max 0 z3), .int .i64 z4], .int .i64 0]) (by simp [results, Tryz.results60, go_sem, j0, j1]) rfl ⟨by rw [HE.out], HZ.out.below⟩
    ·have HE := Lib.hid (HV.out.trans (HN.out.trans (by rw [if_neg (by simp), if_neg (by simp), if_neg h3, if_neg h4])))
     have hz1 : (dv == 1) = false := by simpa using h3
     have hz2 : (dv == -1) = false := by simpa using h4
     have HZ := Lib.hid (hm4.put2 2 rfl (.int .i64 0) (.int .i64 0))
     clear hm4 HM4 h3 h4
     go_wp2_with fail
     obtain ⟨WZ, hWZ⟩ : ∃ WZ, WZ = ((w3.alloc (.cells #[.int .i64 b0, .int .i64 b1] 53)).setCell ⟨w.heap.size + 1 + 1, 0, none⟩ (.int .i64 0)).setCell ⟨w.heap.size + 1 + 1, 1, none⟩ (.int .i64 0) := ⟨_, rfl⟩
     rw [← hWZ] at HZ ⊢
     obtain ⟨j0, j1⟩ := two_of (HZ.out.at_ 2 rfl)
     exact bodyPost_ret (v := .tuple #[.agg #[.int .i64 0, .int .i64 0], .int .i64 0]) (by simp [results, Tryz.results60, go_sem, j0, j1]) rfl ⟨by rw [HE.out], HZ.out.below⟩
  ·have HE := Lib.hid (HV.out.trans (HN.out.trans (by rw [if_neg (by simp), if_pos h2])))
   have hz : (e2 != 0) = true := by simpa using h2
   have HZ := Lib.hid (hm4.put2 2 rfl (.int .i64 0) (.int .i64 0))
   clear hm4 HM4 h2
   go_wp2_with fail
   obtain ⟨WZ, hWZ⟩ : ∃ WZ, WZ = ((w3.alloc (.cells #[.int .i64 b0, .int .i64 b1] 53)).setCell ⟨w.heap.size + 1 + 1, 0, none⟩ (.int .i64 0)).setCell ⟨w.heap.size + 1 + 1, 1, none⟩ (.int .i64 0) := ⟨_, rfl⟩
   rw [← hWZ] at HZ ⊢
   obtain ⟨j0, j1⟩ := two_of (HZ.out.at_ 2 rfl)
   exact bodyPost_ret (v := .tuple #[.agg #[.int .i64 0, .int .i64 0], .int .i64 e2]) (by simp [results, Tryz.results60, go_sem, j0, j1]) rfl ⟨by rw [HE.out], HZ.out.below⟩
 ·have HE := Lib.hid (HV.out.trans (HN.out.trans (by rw [if_pos h1])))
  have hz : (e1 != 0) = true := by simpa using h1
  obtain ⟨y0, y1⟩ := two_of (hm3.at_ 2 rfl)
  have f0 := (hm3.at_ 2 rfl).frozen 0
  have f1 := (hm3.at_ 2 rfl).frozen 1
  have HZ := Lib.hid (hm3.put2 2 rfl (.int .i64 0) (.int .i64 0))
  clear hm3 HM3 h1
  go_wp2_with fail
  obtain ⟨WZ, hWZ⟩ : ∃ WZ, WZ = ((w2.alloc (.cells #[.int .i64 a0, .int .i64 a1] 53)).setCell ⟨w.heap.size + 1 + 1, 0, none⟩ (.int .i64 0)).setCell ⟨w.heap.size + 1 + 1, 1, none⟩ (.int .i64 0) := ⟨_, rfl⟩
  rw [← hWZ] at HZ ⊢
  obtain ⟨j0, j1⟩ := two_of (HZ.out.at_ 2 rfl)
  exact bodyPost_ret (v := .tuple #[.agg #[.int .i64 0, .int .i64 0], .int .i64 e1]) (by simp [results, Tryz.results60, go_sem, j0, j1]) rfl ⟨by rw [HE.out], HZ.out.below⟩
theorem frT_bd {d : Int} {P S : Nat → Int} (h : PlnC d P S) {p : Int} (hp : 1 ≤ p ∧ p ≤ 1000) {n : Nat} (hn : n ≤ 127) : (0 ≤ (frT d P S p n).1 ∧ (frT d P S p n).1 ≤ 130000000000) ∧ (0 ≤ (frT d P S p n).2.1 ∧ (frT d P S p n).2.1 ≤ 130000000000) ∧ (frT d P S p n).1 ≤ (frT d P S p n).2.1 := by
 have hb := vB_Bx h (m := 69) (n := n) (by decide) (by omega)
 have h2 := rtT_bd hb.1 hb.2.1 hb.2.2 (pl_d h)
 unfold frT
 dsimp only
 obtain ⟨x, hx⟩ : ∃ x, x = rtT (vB d P S 69 n).1 (vB d P S 69 n).2.1 (vB d P S 69 n).2.2 d := ⟨_, rfl⟩
 rw [← hx] at h2 ⊢
 have k : ∀ b : Int, 0 ≤ b → b ≤ 128000001 → 0 ≤ p * b ∧ p * b ≤ 1000 * 128000001 := fun b h0 h1 => ⟨Int.mul_nonneg (by omega) h0, Int.mul_le_mul hp.2 h1 h0 (by decide)⟩
 have k1 := k x.1 (by omega) (by omega)
 have k2 := k x.2.1 (by omega) (by omega)
 exact ⟨⟨k1.1, by omega⟩, ⟨k2.1, by omega⟩, Int.mul_le_mul_of_nonneg_left h2.2.1 (by omega)⟩
def bbT (d : Int) (P S : Nat → Int) (p : Int) (l n : Nat) (s : Int) : Int × Int × Int :=
 btT (ptP s).1 (ptP s).2 (drT d P S l n s) (frT d P S p l).1 (frT d P S p l).2.1 (frT d P S p l).2.2 (frT d P S p n).1 (frT d P S p n).2.1 (frT d P S p n).2.2
theorem bbeats_pl {d : Int} {P S : Nat → Int} (h : PlnC d P S) (p s : Int) (hp : 1 ≤ p ∧ p ≤ 1000) (hs : ptB s) {l n : Nat} (hn : n ≤ 127) (hls : (l : Int) + s = n) (w : World) (ht : Tab w) :
  Calls Tryz.prog 60 #[.agg (tuL (cirP d P S) p).toArray, .agg #[.int .i64 (l : Int), .int .i64 s]] w fun e w' => e = .returned (.tuple #[.agg #[.int .i64 (bbT d P S p l n s).1, .int .i64 (bbT d P S p l n s).2.1], .int .i64 (bbT d P S p l n s).2.2]) ∧ Below w.heap.size w w' := by
 have hs12 : 3 ≤ s ∧ s ≤ 12 := by unfold ptB at hs; omega
 have b1 := frT_bd h hp (n := l) (by omega)
 have b2 := frT_bd h hp hn
 exact bbeats_gen (cirP d P S) p l s n _ _ _ _ _ _ _ w ht hs (by omega) hls b1.1 b1.2.1 b2.1 b2.2.1 (fun W hT => bdir_pl h p s hs hn hls W hT) (fun W hT => bfreq_pl h p hp (by omega) W hT) (fun W hT => bfreq_pl h p hp hn W hT)
theorem rsU_f (k p q : Nat) : rsU k p q 3 = 2 ^ k * (3 ^ p * 5 ^ q) := by
 show (1 : Int) * 2 ^ k * 3 ^ p * 5 ^ q = _
 rw [Int.one_mul, Int.mul_assoc]
theorem rsU_add (a b c u v w : Nat) : rsU (a + u) (b + v) (c + w) 3 = rsU a b c 3 * rsU u v w 3 := by
 rw [rsU_f, rsU_f, rsU_f, Int.pow_add, Int.pow_add, Int.pow_add]
 simp only [Int.mul_comm, Int.mul_left_comm, Int.mul_assoc]
theorem rsU_pos (a b c : Nat) : 0 < rsU a b c 3 := by
 rw [rsU_f]
 exact Int.mul_pos (Int.pow_pos (by decide)) (Int.mul_pos (Int.pow_pos (by decide)) (Int.pow_pos (by decide)))
theorem rsU_sgn {a b c a' b' c' : Nat} (h : a ≤ 20000 ∧ b ≤ 20000 ∧ c ≤ 20000 ∧ a' ≤ 20000 ∧ b' ≤ 20000 ∧ c' ≤ 20000) :
  sgn (rsU a b c 3 - rsU a' b' c' 3) = sgn (lgZ ((a : Int) - a') ((b : Int) - b') ((c : Int) - c')) := by
 rw [← pow_sgn (by omega) (by omega) (by omega)]
 have e1 : rsU a b c 3 = rsU (min a a') (min b b') (min c c') 3 * rsU ((a : Int) - a').toNat ((b : Int) - b').toNat ((c : Int) - c').toNat 3 := by
  rw [← rsU_add]
  congr 1 <;> omega
 have e2 : rsU a' b' c' 3 = rsU (min a a') (min b b') (min c c') 3 * rsU (-((a : Int) - a')).toNat (-((b : Int) - b')).toNat (-((c : Int) - c')).toNat 3 := by
  rw [← rsU_add]
  congr 1 <;> omega
 rw [e1, e2, ← Int.mul_sub, sgn_mul_pos (rsU_pos _ _ _)]
theorem wide_le {x y z x' y' z' D lo hi : Int} {p0 p1 p2 q0 q1 q2 : Nat} (hx : -6000 ≤ x ∧ x ≤ 6000) (hy : -6000 ≤ y ∧ y ≤ 6000) (hz : -6000 ≤ z ∧ z ≤ 6000) (hx' : -6000 ≤ x' ∧ x' ≤ 6000) (hy' : -6000 ≤ y' ∧ y' ≤ 6000) (hz' : -6000 ≤ z' ∧ z' ≤ 6000)
  (hD : 1 ≤ D ∧ D ≤ 240) (hp : p0 ≤ 3 ∧ p1 ≤ 3 ∧ p2 ≤ 3) (hq : q0 ≤ 3 ∧ q1 ≤ 3 ∧ q2 ≤ 3) (hlo : 0 ≤ lo) (hhi : 0 ≤ hi) (a : lo ^ D.toNat * qsL x y z ≤ qsR x y z D) (b : qsR x' y' z' D ≤ hi ^ D.toNat * qsL x' y' z')
  (hw : 0 < lgZ (x' - x - D * ((p0 : Int) - q0)) (y' - y - D * ((p1 : Int) - q1)) (z' - z - D * ((p2 : Int) - q2))) :
  rsU p0 p1 p2 3 * lo ≤ rsU q0 q1 q2 3 * hi := by
 rcases Int.lt_or_le (rsU q0 q1 q2 3 * hi) (rsU p0 p1 p2 3 * lo) with hc | hc
 ·exfalso
  obtain ⟨m, rfl⟩ : ∃ m : Nat, D = (m : Int) := ⟨D.toNat, by omega⟩
  rw [Int.toNat_natCast] at a b
  obtain ⟨r1, r2⟩ := qs_eq x y z m
  obtain ⟨r3, r4⟩ := qs_eq x' y' z' m
  rw [r1, r2] at a
  rw [r3, r4] at b
  rw [Int.toNat_natCast] at a b
  have hpos1 := rsU_pos (-x).toNat (-y).toNat (-z).toNat
  have hpos2 := rsU_pos (-x').toNat (-y').toNat (-z').toNat
  have hp3 := rsU_pos p0 p1 p2
  have hq3 := rsU_pos q0 q1 q2
  have hlt : ¬ (rsU p0 p1 p2 3 * lo) ^ m ≤ (rsU q0 q1 q2 3 * hi) ^ m := fun h => by
   have := (pow_le_iff (Int.mul_nonneg (Int.le_of_lt hp3) hlo) (Int.mul_nonneg (Int.le_of_lt hq3) hhi) (m := m) (by omega)).1 h
   omega
  rw [Int.mul_pow, Int.mul_pow, rsU_pow, rsU_pow] at hlt
  have e : sgn (rsU (q0 * m + x'.toNat + (-x).toNat) (q1 * m + y'.toNat + (-y).toNat) (q2 * m + z'.toNat + (-z).toNat) 3 - rsU (p0 * m + x.toNat + (-x').toNat) (p1 * m + y.toNat + (-y').toNat) (p2 * m + z.toNat + (-z').toNat) 3) = 1 := by
   have bd : ∀ k : Nat, k ≤ 3 → k * m ≤ 720 := fun k hk => Nat.le_trans (Nat.mul_le_mul hk (show m ≤ 240 by omega)) (by decide)
   have c1 := bd _ hp.1
   have c2 := bd _ hp.2.1
   have c3 := bd _ hp.2.2
   have c4 := bd _ hq.1
   have c5 := bd _ hq.2.1
   have c6 := bd _ hq.2.2
   rw [rsU_sgn (by omega), sgn_pos_iff]
   have f : ∀ (u v : Nat) (s t : Int), (((v * m + t.toNat + (-s).toNat : Nat) : Int) - ((u * m + s.toNat + (-t).toNat : Nat) : Int)) = t - s - (m : Int) * ((u : Int) - v) := fun u v s t => by
    rw [Int.mul_sub, Int.mul_comm (m : Int) u, Int.mul_comm (m : Int) v, ← Int.natCast_mul, ← Int.natCast_mul]
    omega
   rw [f, f, f]
   exact hw
  rw [sgn_pos_iff, rsU_add, rsU_add, rsU_add, rsU_add] at e
  obtain ⟨L, hL⟩ : ∃ L, L = rsU (-x).toNat (-y).toNat (-z).toNat 3 := ⟨_, rfl⟩
  obtain ⟨L', hL'⟩ : ∃ L, L = rsU (-x').toNat (-y').toNat (-z').toNat 3 := ⟨_, rfl⟩
  obtain ⟨U, hU⟩ : ∃ L, L = rsU x.toNat y.toNat z.toNat 3 := ⟨_, rfl⟩
  obtain ⟨U', hU'⟩ : ∃ L, L = rsU x'.toNat y'.toNat z'.toNat 3 := ⟨_, rfl⟩
  obtain ⟨A, hA⟩ : ∃ L, L = rsU (p0 * m) (p1 * m) (p2 * m) 3 := ⟨_, rfl⟩
  obtain ⟨B, hB⟩ : ∃ L, L = rsU (q0 * m) (q1 * m) (q2 * m) 3 := ⟨_, rfl⟩
  have hA0 : 0 < A := by rw [hA]; exact rsU_pos _ _ _
  have hB0 : 0 < B := by rw [hB]; exact rsU_pos _ _ _
  rw [← hL, ← hU] at a
  rw [← hL', ← hU'] at b
  rw [← hL, ← hL', ← hU, ← hU', ← hA, ← hB] at e
  rw [← hA, ← hB] at hlt
  rw [← hL] at hpos1
  rw [← hL'] at hpos2
  obtain ⟨K, hK⟩ : ∃ K : Int, K = 1000000 ^ m := ⟨_, rfl⟩
  have hK0 : 0 < K := by rw [hK]; exact Int.pow_pos (by decide)
  rw [← hK] at a b
  obtain ⟨s, hs⟩ : ∃ s, s = lo ^ m := ⟨_, rfl⟩
  obtain ⟨t, ht⟩ : ∃ s, s = hi ^ m := ⟨_, rfl⟩
  rw [← hs] at a hlt
  rw [← ht] at b hlt
  have h1 : B * L * (K * U') ≤ B * L * (t * L') := Int.mul_le_mul_of_nonneg_left b (Int.le_of_lt (Int.mul_pos hB0 hpos1))
  have h2 : A * L' * (s * L) ≤ A * L' * (K * U) := Int.mul_le_mul_of_nonneg_left a (Int.le_of_lt (Int.mul_pos hA0 hpos2))
  have h3 : L * L' * (B * t) < L * L' * (A * s) := Int.mul_lt_mul_of_pos_left (by omega) (Int.mul_pos hpos1 hpos2)
  have h4 : K * (A * U * L') < K * (B * U' * L) := Int.mul_lt_mul_of_pos_left (by omega) hK0
  have g1 : B * L * (t * L') = L * L' * (B * t) := by simp only [Int.mul_comm, Int.mul_left_comm, Int.mul_assoc]
  have g2 : A * L' * (s * L) = L * L' * (A * s) := by simp only [Int.mul_comm, Int.mul_left_comm, Int.mul_assoc]
  have g3 : A * L' * (K * U) = K * (A * U * L') := by simp only [Int.mul_comm, Int.mul_left_comm, Int.mul_assoc]
  have g4 : B * L * (K * U') = K * (B * U' * L) := by simp only [Int.mul_comm, Int.mul_left_comm, Int.mul_assoc]
  rw [g1, g4] at h1
  rw [g2, g3] at h2
  omega
 ·exact hc
theorem ptP_rs {s : Int} (h : ptB s) : ∃ p0 p1 p2 q0 q1 q2 : Nat, (p0 ≤ 3 ∧ p1 ≤ 3 ∧ p2 ≤ 3) ∧ (q0 ≤ 3 ∧ q1 ≤ 3 ∧ q2 ≤ 3) ∧ (ptP s).1 = rsU p0 p1 p2 3 ∧ (ptP s).2 = rsU q0 q1 q2 3 ∧ (ppE s).1 = (p0 : Int) - q0 ∧ (ppE s).2.1 = (p1 : Int) - q1 ∧ (ppE s).2.2 = (p2 : Int) - q2 := by
 rcases h with rfl | rfl | rfl | rfl | rfl | rfl | rfl
 ·exact ⟨1, 1, 0, 0, 0, 1, by decide, by decide, by decide, by decide, by decide, by decide, by decide⟩
 ·exact ⟨0, 0, 1, 2, 0, 0, by decide, by decide, by decide, by decide, by decide, by decide, by decide⟩
 ·exact ⟨2, 0, 0, 0, 1, 0, by decide, by decide, by decide, by decide, by decide, by decide, by decide⟩
 ·exact ⟨0, 1, 0, 1, 0, 0, by decide, by decide, by decide, by decide, by decide, by decide, by decide⟩
 ·exact ⟨3, 0, 0, 0, 0, 1, by decide, by decide, by decide, by decide, by decide, by decide, by decide⟩
 ·exact ⟨0, 0, 1, 0, 1, 0, by decide, by decide, by decide, by decide, by decide, by decide, by decide⟩
 ·exact ⟨1, 0, 0, 0, 0, 0, by decide, by decide, by decide, by decide, by decide, by decide, by decide⟩
theorem rtHi_ok {x y z D : Int} (h1 : qsR x y z D < (rtLo x y z D + 1) ^ D.toNat * qsL x y z) : qsR x y z D ≤ rtHi x y z D ^ D.toNat * qsL x y z := by
 unfold rtHi
 split
 ·rename_i h; exact Int.le_of_eq h.symm
 ·exact Int.le_of_lt h1
theorem vB_sub (d : Int) (P S : Nat → Int) (l n : Nat) : (vB d P S l n).1 = (vB d P S 69 n).1 - (vB d P S 69 l).1 ∧ (vB d P S l n).2.1 = (vB d P S 69 n).2.1 - (vB d P S 69 l).2.1 ∧ (vB d P S l n).2.2 = (vB d P S 69 n).2.2 - (vB d P S 69 l).2.2 := by
 unfold vB
 dsimp only
 omega
theorem bbT_bd {d : Int} {P S : Nat → Int} (h : PlnC d P S) {p s : Int} (hp : 1 ≤ p ∧ p ≤ 1000) (hs : ptB s) {l n : Nat} (hl : l ≤ 127) (hn : n ≤ 127) :
  0 ≤ (bbT d P S p l n s).1 ∧ (bbT d P S p l n s).1 ≤ (bbT d P S p l n s).2.1 := by
 obtain ⟨f1, f2, f3⟩ := frT_bd h hp hl
 obtain ⟨g1, g2, g3⟩ := frT_bd h hp hn
 have hd := pl_d h
 have hbl := vB_Bx h (m := 69) (n := l) (by decide) (by omega)
 have hbn := vB_Bx h (m := 69) (n := n) (by decide) (by omega)
 obtain ⟨p0, p1, p2, q0, q1, q2, hpb, hqb, eu, ev, x0, x1, x2⟩ := ptP_rs hs
 have hu := (ptP_bd s).1
 have hv := (ptP_bd s).2
 obtain ⟨v0, v1, v2⟩ := vB_sub d P S l n
 unfold bbT btT
 by_cases c1 : (frT d P S p l).2.2 ≠ 0
 ·rw [if_pos c1]; exact ⟨Int.le_refl 0, Int.le_refl 0⟩
 rw [if_neg c1]
 by_cases c2 : (frT d P S p n).2.2 ≠ 0
 ·rw [if_pos c2]; exact ⟨Int.le_refl 0, Int.le_refl 0⟩
 rw [if_neg c2]
 -- the bounds of both notes
 have key : ∀ k : Nat, k ≤ 127 → (frT d P S p k).2.2 = 0 → ∃ lo hi : Int, (frT d P S p k).1 = p * lo ∧ (frT d P S p k).2.1 = p * hi ∧ 0 ≤ lo ∧ 0 ≤ hi ∧ lo ^ d.toNat * qsL (vB d P S 69 k).1 (vB d P S 69 k).2.1 (vB d P S 69 k).2.2 ≤ qsR (vB d P S 69 k).1 (vB d P S 69 k).2.1 (vB d P S 69 k).2.2 d ∧ qsR (vB d P S 69 k).1 (vB d P S 69 k).2.1 (vB d P S 69 k).2.2 d ≤ hi ^ d.toNat * qsL (vB d P S 69 k).1 (vB d P S 69 k).2.1 (vB d P S 69 k).2.2 := fun k hk e => by
  have hb := vB_Bx h (m := 69) (n := k) (by decide) (by omega)
  unfold frT at e ⊢
  dsimp only at e ⊢
  obtain ⟨x, hx⟩ : ∃ x, x = (vB d P S 69 k).1 := ⟨_, rfl⟩
  obtain ⟨y, hy⟩ : ∃ x, x = (vB d P S 69 k).2.1 := ⟨_, rfl⟩
  obtain ⟨z, hz⟩ : ∃ x, x = (vB d P S 69 k).2.2 := ⟨_, rfl⟩
  rw [← hx, ← hy, ← hz] at hb e ⊢
  unfold rtT at e ⊢
  by_cases c : lgZ (x + 7 * d) y z < 0 ∨ 0 < lgZ (x - 7 * d) y z
  ·rw [if_pos c] at e; cases e
  rw [if_neg c]
  unfold Bx at hb
  obtain ⟨⟨a1, a2⟩, a3, a4⟩ := rtLo_ok (x := x) (y := y) (z := z) (D := d) (by omega) (by omega) (by omega) hd (fun k => c ((far_iff x y z d).1 k))
  refine ⟨rtLo x y z d, rtHi x y z d, rfl, rfl, by omega, ?_, a3, rtHi_ok a4⟩
  unfold rtHi
  split <;> omega
 obtain ⟨lo, hi, a1, a2, a3, a4, a5, a6⟩ := key l hl (Classical.not_not.1 c1)
 obtain ⟨lo', hi', b1, b2, b3, b4, b5, b6⟩ := key n hn (Classical.not_not.1 c2)
 unfold Bx at hbl hbn
 have n0 : ∀ {u x : Int}, 0 ≤ u → 0 ≤ x → 0 ≤ u * x := fun h1 h2 => Int.mul_nonneg h1 h2
 have m1 := Int.mul_le_mul_of_nonneg_left f3 hu.1
 have m2 := Int.mul_le_mul_of_nonneg_left g3 hv.1
 by_cases c3 : drT d P S l n s = 1
 ·rw [if_pos c3]
  unfold drT at c3
  rw [sgn_pos_iff, v0, v1, v2, x0, x1, x2] at c3
  have := wide_le (by omega) (by omega) (by omega) (by omega) (by omega) (by omega) hd hpb hqb a3 b4 a5 b6 c3
  rw [← eu, ← ev] at this
  have := Int.mul_le_mul_of_nonneg_left this (show 0 ≤ p by omega)
  rw [Int.mul_left_comm, Int.mul_left_comm p (ptP s).2, ← a1, ← b2] at this
  dsimp only
  omega
 ·rw [if_neg c3]
  by_cases c4 : drT d P S l n s = -1
  ·rw [if_pos c4]
   unfold drT at c4
   rw [sgn_neg_iff, v0, v1, v2, x0, x1, x2] at c4
   have c5 : 0 < lgZ ((vB d P S 69 l).1 - (vB d P S 69 n).1 - d * ((q0 : Int) - p0)) ((vB d P S 69 l).2.1 - (vB d P S 69 n).2.1 - d * ((q1 : Int) - p1)) ((vB d P S 69 l).2.2 - (vB d P S 69 n).2.2 - d * ((q2 : Int) - p2)) := by
    have f : ∀ (a b : Int) (u v : Nat), a - b - d * ((v : Int) - u) = -1 * (b - a - d * ((u : Int) - v)) := fun a b u v => by
     have e : d * ((v : Int) - u) = -(d * ((u : Int) - v)) := by rw [← Int.mul_neg, Int.neg_sub]
     rw [e]
     omega
    rw [f _ _ p0 q0, f _ _ p1 q1, f _ _ p2 q2, lg_mul]
    omega
   have := wide_le (by omega) (by omega) (by omega) (by omega) (by omega) (by omega) hd hqb hpb b3 a4 b5 a6 c5
   rw [← eu, ← ev] at this
   have := Int.mul_le_mul_of_nonneg_left this (show 0 ≤ p by omega)
   rw [Int.mul_left_comm, Int.mul_left_comm p (ptP s).1, ← a2, ← b1] at this
   dsimp only
   omega
  ·rw [if_neg c4]; exact ⟨Int.le_refl 0, Int.le_refl 0⟩
theorem rtT_at {x y z D : Int} (lo hi : Int) (hx : -6000 ≤ x ∧ x ≤ 6000) (hy : -6000 ≤ y ∧ y ≤ 6000) (hz : -6000 ≤ z ∧ z ≤ 6000) (hD : 1 ≤ D ∧ D ≤ 240)
  (h : ¬ (lgZ (x + 7 * D) y z < 0 ∨ 0 < lgZ (x - 7 * D) y z)) (h0 : 0 ≤ lo) (h1 : lo ^ D.toNat * qsL x y z ≤ qsR x y z D) (h2 : qsR x y z D < (lo + 1) ^ D.toNat * qsL x y z)
  (h3 : hi = if lo ^ D.toNat * qsL x y z = qsR x y z D then lo else lo + 1) : rtT x y z D = (lo, hi, 0) := by
 obtain ⟨⟨a1, a2⟩, a3, a4⟩ := rtLo_ok hx hy hz hD (fun k => h ((far_iff x y z D).1 k))
 have e := rt_uniq (Int.le_of_lt (pos_left x y z)) (by omega) h0 a3 a4 h1 h2
 unfold rtT
 rw [if_neg h, e, h3]
 unfold rtHi
 rw [e]
theorem rt_seven : rtT 7 0 0 12 = (1498307, 1498308, 0) := rtT_at _ _ (by omega) (by omega) (by omega) (by omega) (by decide) (by decide) (by decide) (by decide) (by decide)
theorem rt_none : rtT 0 0 0 12 = (1000000, 1000000, 0) := rtT_at _ _ (by omega) (by omega) (by omega) (by omega) (by decide) (by decide) (by decide) (by decide) (by decide)
theorem eq_76 : frT (nmD 0) (nmP 0) (nmQ 0) 440 76 = (659255080, 659255520, 0) := by
 unfold frT
 rw [show vB (nmD 0) (nmP 0) (nmQ 0) 69 76 = (7, 0, 0) by decide]
 show (440 * (rtT 7 0 0 12).1, 440 * (rtT 7 0 0 12).2.1, (rtT 7 0 0 12).2.2) = _
 rw [rt_seven]
 decide
theorem eq_69 : frT (nmD 0) (nmP 0) (nmQ 0) 440 69 = (440000000, 440000000, 0) := by
 unfold frT
 rw [show vB (nmD 0) (nmP 0) (nmQ 0) 69 69 = (0, 0, 0) by decide]
 show (440 * (rtT 0 0 0 12).1, 440 * (rtT 0 0 0 12).2.1, (rtT 0 0 0 12).2.2) = _
 rw [rt_none]
 decide
theorem eq_dir : drT (nmD 0) (nmP 0) (nmQ 0) 69 76 7 = -1 := by decide
theorem eq_bts : bbT (nmD 0) (nmP 0) (nmQ 0) 440 69 76 7 = (1488960, 1489840, 0) := by
 unfold bbT
 rw [eq_76, eq_69, eq_dir]
 decide
end Go.Proofs.YtendjepcjmfmfaaGreatDoor
