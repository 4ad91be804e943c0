/- Part 39 of 46 of the proof of the law: contracts of the functions that it reaches, and plain facts. Conditions: those that each contract names. -/
import Derived.Test.YtendjepcjmfmfaaGreatDoorErrB33
import Derived.Test.YtendjepcjmfmfaaGreatDoorErrB37
namespace Go.Proofs.YtendjepcjmfmfaaGreatDoor
open Go.RowKit
set_option maxRecDepth 1000000 in
set_option maxHeartbeats 4000000 in
theorem tBetween_gen (C : Nat → Tm) (m n : Nat) (s0 s1 s2 s3 s4 s5 : Int) (w : World) (ht : Tab w) (hC : ∀ i, i < 12 → Tm64 (C i)) (hk : ckE C = 0) (hm : m ≤ 127) (hn : n ≤ 127)
  (hB : ∀ W, Tab W → Calls Tryz.prog 69 #[.agg (cirL C).toArray, .int .i64 (m : Int), .int .i64 (n : Int)] W fun e w' => e = .returned (.tuple #[szv s0 s1 s2 s3 s4 s5, .int .i64 0]) ∧ Below W.heap.size W w') :
  Calls Tryz.prog 56 #[.agg (cirL C).toArray, .int .i64 (m : Int), .int .i64 (n : Int)] w fun e w' => e = .returned (.tuple #[szv s0 s1 s2 s3 s4 s5, .int .i64 0]) ∧ Below w.heap.size w w' := by
 have hck := fun W => tcheck_any C W hC
 rw [hk] at hck
 have HCK := Lib.hid hck
 have HB := Lib.hid hB
 have HT := Lib.hid ht
 have hm0 := ((Hp.start w).new 38 (cirL C)).new 49 [.int .i64 0, .int .i64 0, .int .i64 0, .int .i64 0, .int .i64 0, .int .i64 0]
 simp only [World.size_alloc, List.nil_append, List.cons_append] at hm0
 have HM0 := Lib.hid hm0
 clear hm0 ht hB hck hk
 obtain ⟨x, hx⟩ : ∃ x : Int, x = (m : Int) := ⟨_, rfl⟩
 obtain ⟨y, hy⟩ : ∃ y : Int, y = (n : Int) := ⟨_, rfl⟩
 rw [← hx, ← hy] at HB
 rw [← hx, ← hy]
 have x0 : ¬ x < 0 := by omega
 have x1 : ¬ 127 < x := by omega
 have y0 : ¬ y < 0 := by omega
 have y1 : ¬ 127 < y := by omega
 clear hx hy hm hn
 go_enter Tryz.func56, Tryz.ntmps56
 go_wp2_with (refine wpList_load_row rfl 38 _ rfl w.heap.size rfl 38 (cirL C).toArray (0, 0) _ (HM0.out.at_ 0 rfl) Tryz.underlying38 rfl (by rw [infoCircle, List.size_toArray, cirL_len]) ?_)
 refine (HCK.out _).mono ?_
 rintro e w1 ⟨rfl, hb1⟩
 have HM1 := Lib.hid (HM0.out.step hb1)
 clear hb1
 go_wp2_with (refine wpList_load_row rfl 38 _ rfl w.heap.size rfl 38 (cirL C).toArray (0, 0) _ (HM1.out.at_ 0 rfl) Tryz.underlying38 rfl (by rw [infoCircle, List.size_toArray, cirL_len]) ?_)
 refine (HB.out _ (HT.out.below HM1.out.below)).mono ?_
 rintro e w2 ⟨rfl, hb2⟩
 have hq := HM1.out.step hb2
 obtain ⟨z0, z1, z2, z3, z4, z5⟩ := six_of (hq.at_ 1 rfl)
 obtain ⟨f0, f1, f2, f3, f4, f5⟩ := six_free (hq.at_ 1 rfl)
 have HQ := Lib.hid (hq.put6s 1 rfl (.int .i64 s0) (.int .i64 s1) (.int .i64 s2) (.int .i64 s3) (.int .i64 s4) (.int .i64 s5))
 clear hb2 hq
 go_wp2
 exact bodyPost_ret (v := .tuple #[szv s0 s1 s2 s3 s4 s5, .int .i64 0]) (by simp [results, Tryz.results56, go_sem, z0, z1, z2, z3, z4, z5, f0, f1, f2, f3, f4, f5]) rfl ⟨rfl, HQ.out⟩
theorem tBetween_pl {d : Int} {P S : Nat → Int} (h : PlnC d P S) {m n : Nat} (hm : m ≤ 127) (hn : n ≤ 127) (w : World) (ht : Tab w) :
  Calls Tryz.prog 56 #[.agg (cirL (cirP d P S)).toArray, .int .i64 (m : Int), .int .i64 (n : Int)] w fun e w' => e = .returned (.tuple #[szD (vB d P S m n).1 (vB d P S m n).2.1 (vB d P S m n).2.2 d, .int .i64 0]) ∧ Below w.heap.size w w' :=
 tBetween_gen (cirP d P S) m n _ _ _ _ _ _ w ht (plan_tm h) (ckE_pl h) hm hn (fun W hT => tbetween_pl h (by omega) (by omega) W hT)
def rtT (x y z D : Int) : Int × Int × Int := if lgZ (x + 7 * D) y z < 0 ∨ 0 < lgZ (x - 7 * D) y z then (0, 0, 3) else (rtLo x y z D, rtHi x y z D, 0)
theorem rtV_rtT (x y z D : Int) : rtV x y z D = .tuple #[.agg #[.int .i64 (rtT x y z D).1, .int .i64 (rtT x y z D).2.1], .int .i64 (rtT x y z D).2.2] := by
 unfold rtV rtT
 split <;> rfl
theorem rtT_same {x y z D X Y Z E : Int} (hD : 1 ≤ D) (hE : 1 ≤ E) (h0 : X * D = x * E) (h1 : Y * D = y * E) (h2 : Z * D = z * E) : rtT X Y Z E = rtT x y z D := by
 have f : ∀ s : Int, D * lgZ (X + s * E) Y Z = E * lgZ (x + s * D) y z := fun s => by
  rw [← lg_mul, ← lg_mul]
  have e0 : D * (X + s * E) = E * (x + s * D) := by
   rw [Int.mul_add, Int.mul_add, Int.mul_comm D X, h0, Int.mul_comm x E]
   congr 1
   simp only [Int.mul_comm, Int.mul_left_comm]
  rw [e0, Int.mul_comm D Y, h1, Int.mul_comm y E, Int.mul_comm D Z, h2, Int.mul_comm z E]
 have f7 := f 7
 have g7 := f (-7)
 have hs : ∀ s : Int, sgn (lgZ (X + s * E) Y Z) = sgn (lgZ (x + s * D) y z) := fun s => by
  rw [← sgn_mul_pos (show (0 : Int) < D by omega), f s, sgn_mul_pos (by omega)]
 have k1 : lgZ (X + 7 * E) Y Z < 0 ↔ lgZ (x + 7 * D) y z < 0 := by rw [← sgn_neg_iff, ← sgn_neg_iff, hs 7]
 have k2 : 0 < lgZ (X - 7 * E) Y Z ↔ 0 < lgZ (x - 7 * D) y z := by
  rw [show X - 7 * E = X + -7 * E by omega, show x - 7 * D = x + -7 * D by omega, ← sgn_pos_iff, ← sgn_pos_iff, hs (-7)]
 unfold rtT
 by_cases h : lgZ (x + 7 * D) y z < 0 ∨ 0 < lgZ (x - 7 * D) y z
 ·rw [if_pos h, if_pos (h.imp k1.2 k2.2)]
 ·rw [if_neg h, if_neg (fun k => h (k.imp k1.1 k2.1)), (rt_same hD hE h0 h1 h2).1, (rt_same hD hE h0 h1 h2).2]
theorem rtT_bd {x y z D : Int} (hx : -6000 ≤ x ∧ x ≤ 6000) (hy : -6000 ≤ y ∧ y ≤ 6000) (hz : -6000 ≤ z ∧ z ≤ 6000) (hD : 1 ≤ D ∧ D ≤ 240) : (0 ≤ (rtT x y z D).1 ∧ (rtT x y z D).1 ≤ 128000000) ∧ ((rtT x y z D).1 ≤ (rtT x y z D).2.1 ∧ (rtT x y z D).2.1 ≤ (rtT x y z D).1 + 1) := by
 unfold rtT
 by_cases h : lgZ (x + 7 * D) y z < 0 ∨ 0 < lgZ (x - 7 * D) y z
 ·rw [if_pos h]; exact ⟨⟨by decide, by decide⟩, by decide, by decide⟩
 ·rw [if_neg h]
  obtain ⟨⟨h1, h2⟩, _⟩ := rtLo_ok hx hy hz hD (fun k => h ((far_iff x y z D).1 k))
  refine ⟨⟨by dsimp only; omega, h2⟩, ?_⟩
  dsimp only
  unfold rtHi
  split <;> omega
theorem ratio_szD {x y z d : Int} (hd : 1 ≤ d ∧ d ≤ 240) (h : Bx x y z) (w : World) (ht : Tab w) :
  Calls Tryz.prog 18 #[szD x y z d] w fun e w' => e = .returned (.tuple #[.agg #[.int .i64 (rtT x y z d).1, .int .i64 (rtT x y z d).2.1], .int .i64 (rtT x y z d).2.2]) ∧ Below w.heap.size w w' := by
 obtain ⟨hr, X, Y, Z, E, hp, hE, e0, e1, e2⟩ := plan_prt hd h.1 h.2.1 h.2.2
 refine (ratio_all _ _ _ _ _ _ X Y Z E w ht hr hp).mono ?_
 rintro e w' ⟨he, hb⟩
 exact ⟨by rw [he, rtV_rtT, rtT_same hd.1 hE.1 e0 e1 e2], hb⟩
set_option maxRecDepth 1000000 in
set_option maxHeartbeats 4000000 in
theorem bfreq_gen (C : Nat → Tm) (p n b0 b1 b2 s0 s1 s2 s3 s4 s5 : Int) (w : World) (ht : Tab w) (hp : 1 ≤ p ∧ p ≤ 1000) (hb0 : 0 ≤ b0 ∧ b0 ≤ 128000001) (hb1 : 0 ≤ b1 ∧ b1 ≤ 128000001)
  (hB : ∀ W, Tab W → Calls Tryz.prog 56 #[.agg (cirL C).toArray, .int .i64 69, .int .i64 n] W fun e w' => e = .returned (.tuple #[szv s0 s1 s2 s3 s4 s5, .int .i64 0]) ∧ Below W.heap.size W w')
  (hR : ∀ W, Tab W → Calls Tryz.prog 18 #[szv s0 s1 s2 s3 s4 s5] W fun e w' => e = .returned (.tuple #[.agg #[.int .i64 b0, .int .i64 b1], .int .i64 b2]) ∧ Below W.heap.size W w') :
  Calls Tryz.prog 55 #[.agg (tuL C p).toArray, .int .i64 n] w fun e w' => e = .returned (.tuple #[.agg #[.int .i64 (p * b0), .int .i64 (p * b1)], .int .i64 b2]) ∧ Below w.heap.size w w' := by
 have HB := Lib.hid hB
 have HR := Lib.hid hR
 have HT := Lib.hid ht
 have m0 : 0 ≤ p * b0 := Int.mul_nonneg (by omega) hb0.1
 have l0 : p * b0 ≤ 1000 * 128000001 := Int.mul_le_mul hp.2 hb0.2 hb0.1 (by decide)
 have m1 : 0 ≤ p * b1 := Int.mul_nonneg (by omega) hb1.1
 have l1 : p * b1 ≤ 1000 * 128000001 := Int.mul_le_mul hp.2 hb1.2 hb1.1 (by decide)
 obtain ⟨v0, hv0⟩ : ∃ v, v = p * b0 := ⟨_, rfl⟩
 obtain ⟨v1, hv1⟩ : ∃ v, v = p * b1 := ⟨_, rfl⟩
 have hw0 : IntKind.i64.wrap (p * b0) = v0 := by rw [hv0]; exact IntWalk.i64_in _ (by omega)
 have hw1 : IntKind.i64.wrap (p * b1) = v1 := by rw [hv1]; exact IntWalk.i64_in _ (by omega)
 rw [← hv0, ← hv1]
 have HW := Lib.hid (And.intro hw0 hw1)
 have hm0 := ((Hp.start w).new 41 (tuL C p)).new 53 [.int .i64 0, .int .i64 0]
 simp only [World.size_alloc, List.nil_append, List.cons_append] at hm0
 have HM0 := Lib.hid hm0
 clear hm0 hB hR ht hp hb0 hb1 m0 m1 l0 l1 hv0 hv1 hw0 hw1
 go_enter Tryz.func55, Tryz.ntmps55
 go_wp2_with (refine wpList_load_pre rfl 38 _ rfl w.heap.size rfl (cirL C).toArray _ (tu_cir (HM0.out.at_ 0 rfl)) Tryz.underlying38 rfl (by rw [infoCircle, List.size_toArray, cirL_len]) ?_)
 refine (HB.out _ (HT.out.below HM0.out.below)).mono ?_
 rintro e w1 ⟨rfl, hb1⟩
 have HM1 := Lib.hid (HM0.out.step hb1)
 clear hb1 HM0
 obtain ⟨g2, hg2⟩ : ∃ g, g = w1.heap.size := ⟨_, rfl⟩
 have hm2 := HM1.out.new 49 [.int .i64 s0, .int .i64 s1, .int .i64 s2, .int .i64 s3, .int .i64 s4, .int .i64 s5]
 rw [← hg2] at hm2
 simp only [List.nil_append, List.cons_append] at hm2
 have HM2 := Lib.hid hm2
 obtain ⟨p0, p1, p2, p3, p4, p5⟩ := six_of (hm2.at_ 2 rfl)
 clear hm2 HM1
 go_wp2_with fail
 refine (HR.out _ (HT.out.below HM2.out.below)).mono ?_
 rintro e w2 ⟨rfl, hb2⟩
 have HM3 := Lib.hid (HM2.out.step hb2)
 clear hb2 HM2 p0 p1 p2 p3 p4 p5
 obtain ⟨g3, hg3⟩ : ∃ g, g = w2.heap.size := ⟨_, rfl⟩
 have hm4 := HM3.out.new 53 [.int .i64 b0, .int .i64 b1]
 rw [← hg3] at hm4
 simp only [List.nil_append, List.cons_append] at hm4
 have HM4 := Lib.hid hm4
 have y9 := tu_pitch (hm4.at_ 0 rfl)
 obtain ⟨y0, y1⟩ := two_of (hm4.at_ 1 rfl)
 obtain ⟨y2, y3⟩ := two_of (hm4.at_ 3 rfl)
 have f0 := (hm4.at_ 1 rfl).frozen 0
 have f1 := (hm4.at_ 1 rfl).frozen 1
 have HZ := Lib.hid (hm4.put2 1 rfl (.int .i64 v0) (.int .i64 v1))
 obtain ⟨hw0, hw1⟩ := HW.out
 clear hm4 HM3
 go_wp2_with fail
 obtain ⟨WZ, hWZ⟩ : ∃ WZ, WZ = ((w2.alloc (.cells #[.int .i64 b0, .int .i64 b1] 53)).setCell ⟨w.heap.size + 1, 0, none⟩ (.int .i64 v0)).setCell ⟨w.heap.size + 1, 1, none⟩ (.int .i64 v1) := ⟨_, rfl⟩
 rw [← hWZ] at HZ ⊢
 obtain ⟨z0, z1⟩ := two_of (HZ.out.at_ 1 rfl)
 exact bodyPost_ret (v := .tuple #[.agg #[.int .i64 v0, .int .i64 v1], .int .i64 b2]) (by simp [results, Tryz.results55, go_sem, z0, z1]) rfl ⟨rfl, HZ.out.below⟩
def frT (d : Int) (P S : Nat → Int) (p : Int) (n : Nat) : Int × Int × Int :=
 (p * (rtT (vB d P S 69 n).1 (vB d P S 69 n).2.1 (vB d P S 69 n).2.2 d).1, p * (rtT (vB d P S 69 n).1 (vB d P S 69 n).2.1 (vB d P S 69 n).2.2 d).2.1, (rtT (vB d P S 69 n).1 (vB d P S 69 n).2.1 (vB d P S 69 n).2.2 d).2.2)
theorem bfreq_pl {d : Int} {P S : Nat → Int} (h : PlnC d P S) (p : Int) (hp : 1 ≤ p ∧ p ≤ 1000) {n : Nat} (hn : n ≤ 127) (w : World) (ht : Tab w) :
  Calls Tryz.prog 55 #[.agg (tuL (cirP d P S) p).toArray, .int .i64 (n : Int)] w fun e w' => e = .returned (.tuple #[.agg #[.int .i64 (frT d P S p n).1, .int .i64 (frT d P S p n).2.1], .int .i64 (frT d P S p n).2.2]) ∧ Below w.heap.size w w' := by
 have hb := vB_Bx h (m := 69) (n := n) (by decide) (by omega)
 have hd := pl_d h
 have h2 := rtT_bd hb.1 hb.2.1 hb.2.2 hd
 exact bfreq_gen (cirP d P S) p n _ _ _ _ _ _ _ _ _ w ht hp (by omega) (by omega) (fun W hT => tBetween_pl h (m := 69) (by decide) hn W hT) (fun W hT => ratio_szD hd hb W hT)
set_option maxRecDepth 1000000 in
set_option maxHeartbeats 4000000 in
theorem bFrequency_err (C : Nat → Tm) (p n : Int) (w : World) (hC : ∀ i, i < 12 → Tm64 (C i)) (hk : tuE C p ≠ 0) :
  Calls Tryz.prog 23 #[.agg (tuL C p).toArray, .int .i64 n] w fun e w' => e = .returned (.tuple #[.agg #[.int .i64 0, .int .i64 0], .int .i64 (tuE C p)]) ∧ Below w.heap.size w w' := by
 have HCK := Lib.hid (fun W => bCheck_any C p W hC)
 obtain ⟨c, hc⟩ : ∃ c, c = tuE C p := ⟨_, rfl⟩
 rw [← hc] at HCK hk ⊢
 have hz : (c != 0) = true := by simpa using hk
 have hm0 := ((Hp.start w).new 41 (tuL C p)).new 53 [.int .i64 0, .int .i64 0]
 simp only [World.size_alloc, List.nil_append, List.cons_append] at hm0
 have HM0 := Lib.hid hm0
 clear hm0 hk hC hc
 go_enter Tryz.func23, Tryz.ntmps23
 go_wp2_with (refine wpList_load_row rfl 41 _ rfl w.heap.size rfl 41 (tuL C p).toArray (0, 0) _ (HM0.out.at_ 0 rfl) Tryz.underlying41 rfl (by rw [infoTun, List.size_toArray, tuL_len]) ?_)
 refine (HCK.out _).mono ?_
 rintro e w1 ⟨rfl, hb1⟩
 have hq := HM0.out.step hb1
 obtain ⟨y0, y1⟩ := two_of (hq.at_ 1 rfl)
 have f0 := (hq.at_ 1 rfl).frozen 0
 have f1 := (hq.at_ 1 rfl).frozen 1
 have HZ := Lib.hid (hq.put2 1 rfl (.int .i64 0) (.int .i64 0))
 clear hq hb1 HM0
 go_wp2_with fail
 exact bodyPost_ret (v := .tuple #[.agg #[.int .i64 0, .int .i64 0], .int .i64 c]) (by simp [results, Tryz.results23, go_sem, y0, y1, f0, f1]) rfl ⟨rfl, HZ.out.below⟩
set_option maxRecDepth 1000000 in
set_option maxHeartbeats 4000000 in
theorem bFrequency_note (C : Nat → Tm) (p n : Int) (w : World) (hC : ∀ i, i < 12 → Tm64 (C i)) (hk : tuE C p = 0) (hn : ntB n = false) :
  Calls Tryz.prog 23 #[.agg (tuL C p).toArray, .int .i64 n] w fun e w' => e = .returned (.tuple #[.agg #[.int .i64 0, .int .i64 0], .int .i64 3]) ∧ Below w.heap.size w w' := by
 have hck := fun W => bCheck_any C p W hC
 rw [hk] at hck
 have HCK := Lib.hid hck
 have hnt := fun W => bnote_any n W
 rw [hn] at hnt
 have HNT := Lib.hid hnt
 have hm0 := ((Hp.start w).new 41 (tuL C p)).new 53 [.int .i64 0, .int .i64 0]
 simp only [World.size_alloc, List.nil_append, List.cons_append] at hm0
 have HM0 := Lib.hid hm0
 clear hm0 hk hC hck hn hnt
 go_enter Tryz.func23, Tryz.ntmps23
 go_wp2_with (refine wpList_load_row rfl 41 _ rfl w.heap.size rfl 41 (tuL C p).toArray (0, 0) _ (HM0.out.at_ 0 rfl) Tryz.underlying41 rfl (by rw [infoTun, List.size_toArray, tuL_len]) ?_)
 refine (HCK.out _).mono ?_
 rintro e w1 ⟨rfl, hb1⟩
 have HM1 := Lib.hid (HM0.out.step hb1)
 clear hb1 HM0
 go_wp2_with fail
 refine (HNT.out _).mono ?_
 rintro e w2 ⟨rfl, rfl⟩
 obtain ⟨y0, y1⟩ := two_of (HM1.out.at_ 1 rfl)
 have f0 := (HM1.out.at_ 1 rfl).frozen 0
 have f1 := (HM1.out.at_ 1 rfl).frozen 1
 have HZ := Lib.hid (HM1.out.put2 1 rfl (.int .i64 0) (.int .i64 0))
 clear HM1
 go_wp2_with fail
 exact bodyPost_ret (v := .tuple #[.agg #[.int .i64 0, .int .i64 0], .int .i64 3]) (by simp [results, Tryz.results23, go_sem, y0, y1, f0, f1]) rfl ⟨rfl, HZ.out.below⟩
set_option maxRecDepth 1000000 in
set_option maxHeartbeats 4000000 in
theorem bFrequency_ok (C : Nat → Tm) (p n v0 v1 v2 : Int) (w : World) (ht : Tab w) (hC : ∀ i, i < 12 → Tm64 (C i)) (hk : tuE C p = 0) (hn : ntB n = true)
  (hF : ∀ W, Tab W → Calls Tryz.prog 55 #[.agg (tuL C p).toArray, .int .i64 n] W fun e w' => e = .returned (.tuple #[.agg #[.int .i64 v0, .int .i64 v1], .int .i64 v2]) ∧ Below W.heap.size W w') :
  Calls Tryz.prog 23 #[.agg (tuL C p).toArray, .int .i64 n] w fun e w' => e = .returned (.tuple #[.agg #[.int .i64 v0, .int .i64 v1], .int .i64 v2]) ∧ Below w.heap.size w w' := by
 have hck := fun W => bCheck_any C p W hC
 rw [hk] at hck
 have HCK := Lib.hid hck
 have hnt := fun W => bnote_any n W
 rw [hn] at hnt
 have HNT := Lib.hid hnt
 have HF := Lib.hid hF
 have HT := Lib.hid ht
 have hm0 := ((Hp.start w).new 41 (tuL C p)).new 53 [.int .i64 0, .int .i64 0]
 simp only [World.size_alloc, List.nil_append, List.cons_append] at hm0
 have HM0 := Lib.hid hm0
 clear hm0 hk hC hck hn hnt hF ht
 go_enter Tryz.func23, Tryz.ntmps23
 go_wp2_with (refine wpList_load_row rfl 41 _ rfl w.heap.size rfl 41 (tuL C p).toArray (0, 0) _ (HM0.out.at_ 0 rfl) Tryz.underlying41 rfl (by rw [infoTun, List.size_toArray, tuL_len]) ?_)
 refine (HCK.out _).mono ?_
 rintro e w1 ⟨rfl, hb1⟩
 have HM1 := Lib.hid (HM0.out.step hb1)
 clear hb1 HM0
 go_wp2_with fail
 refine (HNT.out _).mono ?_
 rintro e w2 ⟨rfl, rfl⟩
 go_wp2_with (refine wpList_load_row rfl 41 _ rfl w.heap.size rfl 41 (tuL C p).toArray (0, 0) _ (HM1.out.at_ 0 rfl) Tryz.underlying41 rfl (by rw [infoTun, List.size_toArray, tuL_len]) ?_)
 refine (HF.out _ (HT.out.below HM1.out.below)).mono ?_
 rintro e w3 ⟨rfl, hb3⟩
 have HM2 := Lib.hid (HM1.out.step hb3)
 clear hb3 HM1
 obtain ⟨y0, y1⟩ := two_of (HM2.out.at_ 1 rfl)
 have f0 := (HM2.out.at_ 1 rfl).frozen 0
 have f1 := (HM2.out.at_ 1 rfl).frozen 1
 have HZ := Lib.hid (HM2.out.put2 1 rfl (.int .i64 v0) (.int .i64 v1))
 clear HM2
 go_wp2_with fail
 exact bodyPost_ret (v := .tuple #[.agg #[.int .i64 v0, .int .i64 v1], .int .i64 v2]) (by simp [results, Tryz.results23, go_sem, y0, y1, f0, f1]) rfl ⟨rfl, HZ.out.below⟩
theorem tratio_at {n q a0 a1 a2 b0 b1 b2 : Nat} (x y z : Int) (w : World) (hn : 1 ≤ n ∧ n ≤ 1000) (hq : 1 ≤ q ∧ q ≤ 1000) (f1 : Fac n a0 a1 a2 1) (f2 : Fac q b0 b1 b2 1) (hx : x = (a0 : Int) - b0) (hy : y = (a1 : Int) - b1) (hz : z = (a2 : Int) - b2) (hb : Bx x y z) :
  Calls Tryz.prog 61 #[.int .i64 (n : Int), .int .i64 (q : Int)] w fun e w' => e = .returned (.tuple #[szv x 1 y 1 z 1, .int .i64 0]) ∧ Below w.heap.size w w' := by
 refine (ratio_any n q w hn.1 (by omega) hq.1 (by omega)).mono ?_
 rintro e w' ⟨⟨rn, rd, a0', b0', a1', b1', a2', b2', ⟨g1, g2⟩, m2, m3, m5, he⟩, hbl⟩
 obtain ⟨rfl, rfl, rfl, rfl⟩ := fac_uniq g1 f1 m2.1 m3.1 m5.1 (by decide) (by decide) (by decide)
 obtain ⟨rfl, rfl, rfl, rfl⟩ := fac_uniq g2 f2 m2.2 m3.2 m5.2 (by decide) (by decide) (by decide)
 rw [if_pos rfl, ← hx, ← hy, ← hz, t_ivR_ones hb.1 hb.2.1 hb.2.2] at he
 exact ⟨he, hbl⟩
def ppE (n : Int) : Int × Int × Int := if n = 3 then (1, 1, -1) else if n = 4 then (-2, 0, 1) else if n = 5 then (2, -1, 0) else if n = 7 then (-1, 1, 0) else if n = 8 then (3, 0, -1) else if n = 9 then (0, -1, 1) else (1, 0, 0)
theorem ppE_bd (n : Int) : (-3 ≤ (ppE n).1 ∧ (ppE n).1 ≤ 3) ∧ (-1 ≤ (ppE n).2.1 ∧ (ppE n).2.1 ≤ 1) ∧ (-1 ≤ (ppE n).2.2 ∧ (ppE n).2.2 ≤ 1) := by
 unfold ppE
 repeat' split
 all_goals exact ⟨⟨by decide, by decide⟩, ⟨by decide, by decide⟩, by decide, by decide⟩
theorem ppR {n : Int} (h : ptB n) (w : World) : Calls Tryz.prog 61 #[.int .i64 (ptP n).1, .int .i64 (ptP n).2] w fun e w' => e = .returned (.tuple #[szv (ppE n).1 1 (ppE n).2.1 1 (ppE n).2.2 1, .int .i64 0]) ∧ Below w.heap.size w w' := by
 rcases h with rfl | rfl | rfl | rfl | rfl | rfl | rfl
 ·exact tratio_at 1 1 (-1) w (by decide) (by decide) (⟨by decide⟩ : Fac 6 1 1 0 1) (⟨by decide⟩ : Fac 5 0 0 1 1) rfl rfl rfl (by unfold Bx; omega)
 ·exact tratio_at (-2) 0 1 w (by decide) (by decide) (⟨by decide⟩ : Fac 5 0 0 1 1) (⟨by decide⟩ : Fac 4 2 0 0 1) rfl rfl rfl (by unfold Bx; omega)
 ·exact tratio_at 2 (-1) 0 w (by decide) (by decide) (⟨by decide⟩ : Fac 4 2 0 0 1) (⟨by decide⟩ : Fac 3 0 1 0 1) rfl rfl rfl (by unfold Bx; omega)
 ·exact tratio_at (-1) 1 0 w (by decide) (by decide) (⟨by decide⟩ : Fac 3 0 1 0 1) (⟨by decide⟩ : Fac 2 1 0 0 1) rfl rfl rfl (by unfold Bx; omega)
 ·exact tratio_at 3 0 (-1) w (by decide) (by decide) (⟨by decide⟩ : Fac 8 3 0 0 1) (⟨by decide⟩ : Fac 5 0 0 1 1) rfl rfl rfl (by unfold Bx; omega)
 ·exact tratio_at 0 (-1) 1 w (by decide) (by decide) (⟨by decide⟩ : Fac 5 0 0 1 1) (⟨by decide⟩ : Fac 3 0 1 0 1) rfl rfl rfl (by unfold Bx; omega)
 ·exact tratio_at 1 0 0 w (by decide) (by decide) (⟨by decide⟩ : Fac 2 1 0 0 1) (⟨by decide⟩ : Fac 1 0 0 0 1) rfl rfl rfl (by unfold Bx; omega)
set_option maxRecDepth 1000000 in
set_option maxHeartbeats 4000000 in
theorem bdir_gen (C : Nat → Tm) (p l s t dv s0 s1 s2 s3 s4 s5 r0 r1 r2 r3 r4 r5 : Int) (w : World) (ht : Tab w) (hs : ptB s) (hl : 0 ≤ l ∧ l ≤ 127) (hlt : l + s = t)
  (hB : ∀ W, Tab W → Calls Tryz.prog 56 #[.agg (cirL C).toArray, .int .i64 l, .int .i64 t] W fun e w' => e = .returned (.tuple #[szv s0 s1 s2 s3 s4 s5, .int .i64 0]) ∧ Below W.heap.size W w')
  (hR : ∀ W, Calls Tryz.prog 61 #[.int .i64 (ptP s).1, .int .i64 (ptP s).2] W fun e w' => e = .returned (.tuple #[szv r0 r1 r2 r3 r4 r5, .int .i64 0]) ∧ Below W.heap.size W w')
  (hC : ∀ W, Tab W → Calls Tryz.prog 46 #[szv s0 s1 s2 s3 s4 s5, szv r0 r1 r2 r3 r4 r5] W fun e w' => e = .returned (.tuple #[.int .i64 dv, .int .i64 0]) ∧ Below W.heap.size W w') :
  Calls Tryz.prog 58 #[.agg (tuL C p).toArray, .agg #[.int .i64 l, .int .i64 s]] w fun e w' => e = .returned (.tuple #[.int .i64 dv, .int .i64 0]) ∧ Below w.heap.size w w' := by
 have hp := fun W => bPart_ok s W hs
 have hs12 : 0 ≤ s ∧ s ≤ 12 := by unfold ptB at hs; omega
 have hw : IntKind.i64.wrap (l + s) = t := by rw [hlt]; exact IntWalk.i64_in _ (by omega)
 obtain ⟨u, hu⟩ : ∃ u, u = (ptP s).1 := ⟨_, rfl⟩
 obtain ⟨v, hv⟩ : ∃ u, u = (ptP s).2 := ⟨_, rfl⟩
 rw [← hu, ← hv] at hp hR
 have HP := Lib.hid hp
 have HB := Lib.hid hB
 have HR := Lib.hid hR
 have HC := Lib.hid hC
 have HT := Lib.hid ht
 have HW := Lib.hid hw
 have hm0 := ((Hp.start w).new 41 (tuL C p)).new 67 [.int .i64 l, .int .i64 s]
 simp only [World.size_alloc, List.nil_append, List.cons_append] at hm0
 have HM0 := Lib.hid hm0
 obtain ⟨y0, y1⟩ := two_of (hm0.at_ 1 rfl)
 clear hm0 hp hB hR hC ht hw hs hl hlt hs12 hu hv
 go_enter Tryz.func58, Tryz.ntmps58
 go_wp2_with fail
 refine (HP.out _).mono ?_
 rintro e w1 ⟨rfl, rfl⟩
 go_wp2_with fail
 refine (HR.out _).mono ?_
 rintro e w1 ⟨rfl, hb1⟩
 have HM1 := Lib.hid (HM0.out.step hb1)
 clear hb1 HM0 y0 y1
 have hm2 := HM1.out.new 49 [.int .i64 r0, .int .i64 r1, .int .i64 r2, .int .i64 r3, .int .i64 r4, .int .i64 r5]
 simp only [List.nil_append, List.cons_append] at hm2
 have HM2 := Lib.hid hm2
 obtain ⟨y0, y1⟩ := two_of (hm2.at_ 1 rfl)
 have hw := HW.out
 clear hm2 HM1
 go_wp2_with (refine wpList_load_pre rfl 38 _ rfl w.heap.size rfl (cirL C).toArray _ (tu_cir (HM2.out.at_ 0 rfl)) Tryz.underlying38 rfl (by rw [infoCircle, List.size_toArray, cirL_len]) ?_)
 refine (HB.out _ (HT.out.below HM2.out.below)).mono ?_
 rintro e w2 ⟨rfl, hb2⟩
 have HM3 := Lib.hid (HM2.out.step hb2)
 clear hb2 HM2 y0 y1 hw
 have hm4 := HM3.out.new 49 [.int .i64 s0, .int .i64 s1, .int .i64 s2, .int .i64 s3, .int .i64 s4, .int .i64 s5]
 simp only [List.nil_append, List.cons_append] at hm4
 have HM4 := Lib.hid hm4
 obtain ⟨p0, p1, p2, p3, p4, p5⟩ := six_of (hm4.at_ 2 rfl)
 obtain ⟨q0, q1, q2, q3, q4, q5⟩ := six_of (hm4.at_ 3 rfl)
 clear hm4 HM3
 go_wp2_with fail
 refine (HC.out _ (HT.out.below HM4.out.below)).mono ?_
 rintro e w3 ⟨rfl, hb3⟩
 have HZ := Lib.hid (HM4.out.step hb3)
 clear hb3 HM4 p0 p1 p2 p3 p4 p5 q0 q1 q2 q3 q4 q5
 go_wp2_with fail
 exact bodyPost_ret (v := .tuple #[.int .i64 dv, .int .i64 0]) (by simp [results, Tryz.results58, go_sem]) rfl ⟨rfl, HZ.out.below⟩
def drT (d : Int) (P S : Nat → Int) (l n : Nat) (s : Int) : Int := sgn (lgZ ((vB d P S l n).1 - d * (ppE s).1) ((vB d P S l n).2.1 - d * (ppE s).2.1) ((vB d P S l n).2.2 - d * (ppE s).2.2))
theorem bdir_pl {d : Int} {P S : Nat → Int} (h : PlnC d P S) (p s : Int) (hs : ptB s) {l n : Nat} (hn : n ≤ 127) (hls : (l : Int) + s = n) (w : World) (ht : Tab w) :
  Calls Tryz.prog 58 #[.agg (tuL (cirP d P S) p).toArray, .agg #[.int .i64 (l : Int), .int .i64 s]] w fun e w' => e = .returned (.tuple #[.int .i64 (drT d P S l n s), .int .i64 0]) ∧ Below w.heap.size w w' := by
 have hs12 : 3 ≤ s ∧ s ≤ 12 := by unfold ptB at hs; omega
 have hb := vB_Bx h (m := l) (n := n) (by omega) (by omega)
 have hd := pl_d h
 have hp := ppE_bd s
 refine bdir_gen (cirP d P S) p l s n _ _ _ _ _ _ _ _ _ _ _ _ _ w ht hs (by omega) hls (fun W hT => tBetween_pl h (m := l) (by omega) hn W hT) (fun W => ppR hs W) (fun W hT => ?_)
 rw [szv_szD (d := d) (by omega)]
 have k : ∀ x : Int, -3 ≤ x ∧ x ≤ 3 → -720 ≤ d * x ∧ d * x ≤ 720 := fun x hx => by
  have a1 : d * x ≤ d * 3 := Int.mul_le_mul_of_nonneg_left hx.2 (by omega)
  have a2 : d * -3 ≤ d * x := Int.mul_le_mul_of_nonneg_left hx.1 (by omega)
  omega
 exact tcmp_any _ _ _ _ _ _ d W hd hT hb ⟨by have := k _ hp.1; omega, by have := k (ppE s).2.1 (by omega); omega, by have := k (ppE s).2.2 (by omega); omega⟩
def btT (u v dv a0 a1 e1 b0 b1 e2 : Int) : Int × Int × Int :=
 if e1 ≠ 0 then (0, 0, e1) else if e2 ≠ 0 then (0, 0, e2) else if dv = 1 then (max 0 (v * b0 - u * a1), v * b1 - u * a0, 0) else if dv = -1 then (max 0 (u * a0 - v * b1), u * a1 - v * b0, 0) else (0, 0, 0)
theorem ptP_bd (n : Int) : (0 ≤ (ptP n).1 ∧ (ptP n).1 ≤ 8) ∧ (0 ≤ (ptP n).2 ∧ (ptP n).2 ≤ 8) := by
 unfold ptP
 repeat' split
 all_goals exact ⟨⟨by decide, by decide⟩, by decide, by decide⟩
theorem bt_mul {u a : Int} (hu : 0 ≤ u ∧ u ≤ 8) (ha : 0 ≤ a ∧ a ≤ 130000000000) : 0 ≤ u * a ∧ u * a ≤ 8 * 130000000000 :=
 ⟨Int.mul_nonneg hu.1 ha.1, Int.mul_le_mul hu.2 ha.2 ha.1 (by decide)⟩
set_option maxRecDepth 1000000 in
set_option maxHeartbeats 8000000 in
theorem bbeats_gen (C : Nat → Tm) (p l s t dv a0 a1 e1 b0 b1 e2 : Int) (w : World) (ht : Tab w) (hs : ptB s) (hl : 0 ≤ l ∧ l ≤ 127) (hlt : l + s = t)
  (ha0 : 0 ≤ a0 ∧ a0 ≤ 130000000000) (ha1 : 0 ≤ a1 ∧ a1 ≤ 130000000000) (hb0 : 0 ≤ b0 ∧ b0 ≤ 130000000000) (hb1 : 0 ≤ b1 ∧ b1 ≤ 130000000000)
  (hD : ∀ W, Tab W → Calls Tryz.prog 58 #[.agg (tuL C p).toArray, .agg #[.int .i64 l, .int .i64 s]] W fun e w' => e = .returned (.tuple #[.int .i64 dv, .int .i64 0]) ∧ Below W.heap.size W w')
  (hF : ∀ W, Tab W → Calls Tryz.prog 55 #[.agg (tuL C p).toArray, .int .i64 l] W fun e w' => e = .returned (.tuple #[.agg #[.int .i64 a0, .int .i64 a1], .int .i64 e1]) ∧ Below W.heap.size W w')
  (hG : ∀ W, Tab W → Calls Tryz.prog 55 #[.agg (tuL C p).toArray, .int .i64 t] W fun e w' => e = .returned (.tuple #[.agg #[.int .i64 b0, .int .i64 b1], .int .i64 e2]) ∧ Below W.heap.size W w') :
  Calls Tryz.prog 60 #[.agg (tuL C p).toArray, .agg #[.int .i64 l, .int .i64 s]] w fun e w' => e = .returned (.tuple #[.agg #[.int .i64 (btT (ptP s).1 (ptP s).2 dv a0 a1 e1 b0 b1 e2).1, .int .i64 (btT (ptP s).1 (ptP s).2 dv a0 a1 e1 b0 b1 e2).2.1], .int .i64 (btT (ptP s).1 (ptP s).2 dv a0 a1 e1 b0 b1 e2).2.2]) ∧ Below w.heap.size w w' := by
 have hp := fun W => bPart_ok s W hs
 have hs12 : 0 ≤ s ∧ s ≤ 12 := by unfold ptB at hs; omega
 have hw : IntKind.i64.wrap (l + s) = t := by rw [hlt]; exact IntWalk.i64_in _ (by omega)
 have hpb := ptP_bd s
 obtain ⟨u, hu⟩ : ∃ u, u = (ptP s).1 := ⟨_, rfl⟩
 obtain ⟨v, hv⟩ : ∃ u, u = (ptP s).2 := ⟨_, rfl⟩
 rw [← hu, ← hv] at hp hpb ⊢
 have hT0 : ∃ T, T = btT u v dv a0 a1 e1 b0 b1 e2 := ⟨_, rfl⟩
 obtain ⟨T, hT0⟩ := hT0
 rw [← hT0]
 have HV := Lib.hid hT0
 have HP := Lib.hid hp
 have HD := Lib.hid hD
 have HF := Lib.hid hF
 have HG := Lib.hid hG
 have HT := Lib.hid ht
 have HW := Lib.hid hw
 have n1 := bt_mul hpb.2 hb0
 have n2 := bt_mul hpb.1 ha1
 have n3 := bt_mul hpb.2 hb1
 have n4 := bt_mul hpb.1 ha0
 obtain ⟨x1, hx1⟩ : ∃ x, x = v * b0 := ⟨_, rfl⟩
 obtain ⟨x2, hx2⟩ : ∃ x, x = u * a1 := ⟨_, rfl⟩
 obtain ⟨x3, hx3⟩ : ∃ x, x = v * b1 := ⟨_, rfl⟩
 obtain ⟨x4, hx4⟩ : ∃ x, x = u * a0 := ⟨_, rfl⟩
 have w1 : IntKind.i64.wrap (v * b0) = x1 := by rw [hx1]; exact IntWalk.i64_in _ (by omega)
 have w2 : IntKind.i64.wrap (u * a1) = x2 := by rw [hx2]; exact IntWalk.i64_in _ (by omega)
 have w3 : IntKind.i64.wrap (v * b1) = x3 := by rw [hx3]; exact IntWalk.i64_in _ (by omega)
 have w4 : IntKind.i64.wrap (u * a0) = x4 := by rw [hx4]; exact IntWalk.i64_in _ (by omega)
 rw [← hx1] at n1
 rw [← hx2] at n2
 rw [← hx3] at n3
 rw [← hx4] at n4
 obtain ⟨z1, hz1⟩ : ∃ x, x = x1 - x2 := ⟨_, rfl⟩
 obtain ⟨z2, hz2⟩ : ∃ x, x = x3 - x4 := ⟨_, rfl⟩
 obtain ⟨z3, hz3⟩ : ∃ x, x = x4 - x3 := ⟨_, rfl⟩
 obtain ⟨z4, hz4⟩ : ∃ x, x = x2 - x1 := ⟨_, rfl⟩
 have v1 : IntKind.i64.wrap (x1 - x2) = z1 := by rw [hz1]; exact IntWalk.i64_in _ (by omega)
 have v2 : IntKind.i64.wrap (x3 - x4) = z2 := by rw [hz2]; exact IntWalk.i64_in _ (by omega)
 have v3 : IntKind.i64.wrap (x4 - x3) = z3 := by rw [hz3]; exact IntWalk.i64_in _ (by omega)
 have v4 : IntKind.i64.wrap (x2 - x1) = z4 := by rw [hz4]; exact IntWalk.i64_in _ (by omega)
 have HN := Lib.hid (show btT u v dv a0 a1 e1 b0 b1 e2 = if e1 ≠ 0 then (0, 0, e1) else if e2 ≠ 0 then (0, 0, e2) else if dv = 1 then (max 0 z1, z2, 0) else if dv = -1 then (max 0 z3, z4, 0) else (0, 0, 0) by
  unfold btT; rw [← hx1, ← hx2, ← hx3, ← hx4, ← hz1, ← hz2, ← hz3, ← hz4])
 have HWS := Lib.hid (And.intro (And.intro w1 (And.intro w2 (And.intro w3 w4))) (And.intro v1 (And.intro v2 (And.intro v3 v4))))
 have hm0 := (((Hp.start w).new 41 (tuL C p)).new 67 [.int .i64 l, .int .i64 s]).new 53 [.int .i64 0, .int .i64 0]
 simp only [World.size_alloc, List.nil_append, List.cons_append] at hm0
 have HM0 := Lib.hid hm0
 obtain ⟨y0, y1⟩ := two_of (hm0.at_ 1 rfl)
 clear hm0 hp hD hF hG ht hw hs hl hlt hs12 hu hv hpb n1 n2 n3 n4 hx1 hx2 hx3 hx4 w1 w2 w3 w4 hz1 hz2 hz3 hz4 v1 v2 v3 v4 ha0 ha1 hb0 hb1 hT0
 go_enter Tryz.func60, Tryz.ntmps60
 go_wp2_with fail
 refine (HP.out _).mono ?_
 rintro e wx ⟨rfl, rfl⟩
 go_wp2_with (refine wpList_load_row rfl 41 _ rfl w.heap.size rfl 41 (tuL C p).toArray (0, 0) _ (HM0.out.at_ 0 rfl) Tryz.underlying41 rfl (by rw [infoTun, List.size_toArray, tuL_len]) ?_)
 refine (HD.out _ (HT.out.below HM0.out.below)).mono ?_
 rintro e w1 ⟨rfl, hb1⟩
 have HM1 := Lib.hid (HM0.out.step hb1)
 clear hb1 HM0 y0 y1
 obtain ⟨y0, y1⟩ := two_of (HM1.out.at_ 1 rfl)
 go_wp2_with (refine wpList_load_row rfl 41 _ rfl w.heap.size rfl 41 (tuL C p).toArray (0, 0) _ (HM1.out.at_ 0 rfl) Tryz.underlying41 rfl (by rw [infoTun, List.size_toArray, tuL_len]) ?_)
 refine (HF.out _ (HT.out.below HM1.out.below)).mono ?_
 rintro e w2 ⟨rfl, hb2⟩
 have hm3 := (HM1.out.step hb2).new 53 [.int .i64 a0, .int .i64 a1]
 simp only [List.nil_append, List.cons_append] at hm3
 have HM3 := Lib.hid hm3
 clear hb2 HM1 y0 y1
 by_cases h1 : e1 = 0
 ·subst h1
  obtain ⟨y0, y1⟩ := two_of (hm3.at_ 1 rfl)
  have hw := HW.out
  clear hm3
  go_wp2_with (refine wpList_load_row rfl 41 _ rfl w.heap.size rfl 41 (tuL C p).toArray (0, 0) _ (HM3.out.at_ 0 rfl) Tryz.underlying41 rfl (by rw [infoTun, List.size_toArray, tuL_len]) ?_)
  refine (HG.out _ (HT.out.below HM3.out.below)).mono ?_
  rintro e w3 ⟨rfl, hb3⟩
  have hm4 := (HM3.out.step hb3).new 53 [.int .i64 b0, .int .i64 b1]
  simp only [List.nil_append, List.cons_append] at hm4
  have HM4 := Lib.hid hm4
  clear hb3 HM3 y0 y1 hw
  obtain ⟨y0, y1⟩ := two_of (hm4.at_ 2 rfl)
  have f0 := (hm4.at_ 2 rfl).frozen 0
  have f1 := (hm4.at_ 2 rfl).frozen 1
  by_cases h2 : e2 = 0
  ·subst h2
   obtain ⟨q0, q1⟩ := two_of (hm4.at_ 3 rfl)
   obtain ⟨q2, q3⟩ := two_of (hm4.at_ 4 rfl)
   obtain ⟨⟨w1', w2', w3', w4'⟩, v1', v2', v3', v4'⟩ := HWS.out
   by_cases h3 : dv = 1
   ·have HE := Lib.hid (HV.out.trans (HN.out.trans (by rw [if_neg (by simp), if_neg (by simp), if_pos h3])))
    subst h3
    have HZ := Lib.hid (hm4.put2 2 rfl (.int .i64 (max 0 z1)) (.int .i64 z2))
    clear hm4 HM4
    go_wp2_with fail
    obtain ⟨WZ, hWZ⟩ : ∃ WZ, WZ = ((w3.alloc (.cells #[.int .i64 b0, .int .i64 b1] 53)).setCell ⟨w.heap.size + 1 + 1, 0, none⟩ (.int .i64 (max 0 z1))).setCell ⟨w.heap.size + 1 + 1, 1, none⟩ (.int .i64 z2) := ⟨_, rfl⟩
    rw [← hWZ] at HZ ⊢
    obtain ⟨j0, j1⟩ := two_of (HZ.out.at_ 2 rfl)
    exact bodyPost_ret (v := .tuple #[.agg #[.int .i64 (max 0 z1), .int .i64 z2], .int .i64 0]) (by simp [results, Tryz.results60, go_sem, j0, j1]) rfl ⟨by rw [HE.out], HZ.out.below⟩
   ·by_cases h4 : dv = -1
    ·have HE := Lib.hid (HV.out.trans (HN.out.trans (by rw [if_neg (by simp), if_neg (by simp), if_neg h3, if_pos h4])))
     subst h4
     have HZ := Lib.hid (hm4.put2 2 rfl (.int .i64 (max 0 z3)) (.int .i64 z4))
     clear hm4 HM4 h3
     go_wp2_with fail
     obtain ⟨WZ, hWZ⟩ : ∃ WZ, WZ = ((w3.alloc (.cells #[.int .i64 b0, .int .i64 b1] 53)).setCell ⟨w.heap.size + 1 + 1, 0, none⟩ (.int .i64 (max 0 z3))).setCell ⟨w.heap.size + 1 + 1, 1, none⟩ (.int .i64 z4) := ⟨_, rfl⟩
     rw [← hWZ] at HZ ⊢
     obtain ⟨j0, j1⟩ := two_of (HZ.out.at_ 2 rfl)
     exact bodyPost_ret (v := .tuple #[.agg #[.int .i64 (max 0 z3), .int .i64 z4], .int .i64 0]) (by simp [results, Tryz.results60, go_sem, j0, j1]) rfl ⟨by rw [HE.out], HZ.out.below⟩
    ·have HE := Lib.hid (HV.out.trans (HN.out.trans (by rw [if_neg (by simp), if_neg (by simp), if_neg h3, if_neg h4])))
     have hz1 : (dv == 1) = false := by simpa using h3
     have hz2 : (dv == -1) = false := by simpa using h4
     have HZ := Lib.hid (hm4.put2 2 rfl (.int .i64 0) (.int .i64 0))
     clear hm4 HM4 h3 h4
     go_wp2_with fail
     obtain ⟨WZ, hWZ⟩ : ∃ WZ, WZ = ((w3.alloc (.cells #[.int .i64 b0, .int .i64 b1] 53)).setCell ⟨w.heap.size + 1 + 1, 0, none⟩ (.int .i64 0)).setCell ⟨w.heap.size + 1 + 1, 1, none⟩ (.int .i64 0) := ⟨_, rfl⟩
     rw [← hWZ] at HZ ⊢
     obtain ⟨j0, j1⟩ := two_of (HZ.out.at_ 2 rfl)
     exact bodyPost_ret (v := .tuple #[.agg #[.int .i64 0, .int .i64 0], .int .i64 0]) (by simp [results, Tryz.results60, go_sem, j0, j1]) rfl ⟨by rw [HE.out], HZ.out.below⟩
  ·have HE := Lib.hid (HV.out.trans (HN.out.trans (by rw [if_neg (by simp), if_pos h2])))
   have hz : (e2 != 0) = true := by simpa using h2
   have HZ := Lib.hid (hm4.put2 2 rfl (.int .i64 0) (.int .i64 0))
   clear hm4 HM4 h2
   go_wp2_with fail
   obtain ⟨WZ, hWZ⟩ : ∃ WZ, WZ = ((w3.alloc (.cells #[.int .i64 b0, .int .i64 b1] 53)).setCell ⟨w.heap.size + 1 + 1, 0, none⟩ (.int .i64 0)).setCell ⟨w.heap.size + 1 + 1, 1, none⟩ (.int .i64 0) := ⟨_, rfl⟩
   rw [← hWZ] at HZ ⊢
   obtain ⟨j0, j1⟩ := two_of (HZ.out.at_ 2 rfl)
   exact bodyPost_ret (v := .tuple #[.agg #[.int .i64 0, .int .i64 0], .int .i64 e2]) (by simp [results, Tryz.results60, go_sem, j0, j1]) rfl ⟨by rw [HE.out], HZ.out.below⟩
 ·have HE := Lib.hid (HV.out.trans (HN.out.trans (by rw [if_pos h1])))
  have hz : (e1 != 0) = true := by simpa using h1
  obtain ⟨y0, y1⟩ := two_of (hm3.at_ 2 rfl)
  have f0 := (hm3.at_ 2 rfl).frozen 0
  have f1 := (hm3.at_ 2 rfl).frozen 1
  have HZ := Lib.hid (hm3.put2 2 rfl (.int .i64 0) (.int .i64 0))
  clear hm3 HM3 h1
  go_wp2_with fail
  obtain ⟨WZ, hWZ⟩ : ∃ WZ, WZ = ((w2.alloc (.cells #[.int .i64 a0, .int .i64 a1] 53)).setCell ⟨w.heap.size + 1 + 1, 0, none⟩ (.int .i64 0)).setCell ⟨w.heap.size + 1 + 1, 1, none⟩ (.int .i64 0) := ⟨_, rfl⟩
  rw [← hWZ] at HZ ⊢
  obtain ⟨j0, j1⟩ := two_of (HZ.out.at_ 2 rfl)
  exact bodyPost_ret (v := .tuple #[.agg #[.int .i64 0, .int .i64 0], .int .i64 e1]) (by simp [results, Tryz.results60, go_sem, j0, j1]) rfl ⟨by rw [HE.out], HZ.out.below⟩
theorem frT_bd {d : Int} {P S : Nat → Int} (h : PlnC d P S) {p : Int} (hp : 1 ≤ p ∧ p ≤ 1000) {n : Nat} (hn : n ≤ 127) : (0 ≤ (frT d P S p n).1 ∧ (frT d P S p n).1 ≤ 130000000000) ∧ (0 ≤ (frT d P S p n).2.1 ∧ (frT d P S p n).2.1 ≤ 130000000000) ∧ (frT d P S p n).1 ≤ (frT d P S p n).2.1 := by
 have hb := vB_Bx h (m := 69) (n := n) (by decide) (by omega)
 have h2 := rtT_bd hb.1 hb.2.1 hb.2.2 (pl_d h)
 unfold frT
 dsimp only
 obtain ⟨x, hx⟩ : ∃ x, x = rtT (vB d P S 69 n).1 (vB d P S 69 n).2.1 (vB d P S 69 n).2.2 d := ⟨_, rfl⟩
 rw [← hx] at h2 ⊢
 have k : ∀ b : Int, 0 ≤ b → b ≤ 128000001 → 0 ≤ p * b ∧ p * b ≤ 1000 * 128000001 := fun b h0 h1 => ⟨Int.mul_nonneg (by omega) h0, Int.mul_le_mul hp.2 h1 h0 (by decide)⟩
 have k1 := k x.1 (by omega) (by omega)
 have k2 := k x.2.1 (by omega) (by omega)
 exact ⟨⟨k1.1, by omega⟩, ⟨k2.1, by omega⟩, Int.mul_le_mul_of_nonneg_left h2.2.1 (by omega)⟩
def bbT (d : Int) (P S : Nat → Int) (p : Int) (l n : Nat) (s : Int) : Int × Int × Int :=
 btT (ptP s).1 (ptP s).2 (drT d P S l n s) (frT d P S p l).1 (frT d P S p l).2.1 (frT d P S p l).2.2 (frT d P S p n).1 (frT d P S p n).2.1 (frT d P S p n).2.2
theorem bbeats_pl {d : Int} {P S : Nat → Int} (h : PlnC d P S) (p s : Int) (hp : 1 ≤ p ∧ p ≤ 1000) (hs : ptB s) {l n : Nat} (hn : n ≤ 127) (hls : (l : Int) + s = n) (w : World) (ht : Tab w) :
  Calls Tryz.prog 60 #[.agg (tuL (cirP d P S) p).toArray, .agg #[.int .i64 (l : Int), .int .i64 s]] w fun e w' => e = .returned (.tuple #[.agg #[.int .i64 (bbT d P S p l n s).1, .int .i64 (bbT d P S p l n s).2.1], .int .i64 (bbT d P S p l n s).2.2]) ∧ Below w.heap.size w w' := by
 have hs12 : 3 ≤ s ∧ s ≤ 12 := by unfold ptB at hs; omega
 have b1 := frT_bd h hp (n := l) (by omega)
 have b2 := frT_bd h hp hn
 exact bbeats_gen (cirP d P S) p l s n _ _ _ _ _ _ _ w ht hs (by omega) hls b1.1 b1.2.1 b2.1 b2.2.1 (fun W hT => bdir_pl h p s hs hn hls W hT) (fun W hT => bfreq_pl h p hp (by omega) W hT) (fun W hT => bfreq_pl h p hp hn W hT)
theorem rtT_at {x y z D : Int} (lo hi : Int) (hx : -6000 ≤ x ∧ x ≤ 6000) (hy : -6000 ≤ y ∧ y ≤ 6000) (hz : -6000 ≤ z ∧ z ≤ 6000) (hD : 1 ≤ D ∧ D ≤ 240)
  (h : ¬ (lgZ (x + 7 * D) y z < 0 ∨ 0 < lgZ (x - 7 * D) y z)) (h0 : 0 ≤ lo) (h1 : lo ^ D.toNat * qsL x y z ≤ qsR x y z D) (h2 : qsR x y z D < (lo + 1) ^ D.toNat * qsL x y z)
  (h3 : hi = if lo ^ D.toNat * qsL x y z = qsR x y z D then lo else lo + 1) : rtT x y z D = (lo, hi, 0) := by
 obtain ⟨⟨a1, a2⟩, a3, a4⟩ := rtLo_ok hx hy hz hD (fun k => h ((far_iff x y z D).1 k))
 have e := rt_uniq (Int.le_of_lt (pos_left x y z)) (by omega) h0 a3 a4 h1 h2
 unfold rtT
 rw [if_neg h, e, h3]
 unfold rtHi
 rw [e]
theorem rt_seven : rtT 7 0 0 12 = (1498307, 1498308, 0) := rtT_at _ _ (by omega) (by omega) (by omega) (by omega) (by decide) (by decide) (by decide) (by decide) (by decide)
theorem rt_none : rtT 0 0 0 12 = (1000000, 1000000, 0) := rtT_at _ _ (by omega) (by omega) (by omega) (by omega) (by decide) (by decide) (by decide) (by decide) (by decide)
theorem eq_76 : frT (nmD 0) (nmP 0) (nmQ 0) 440 76 = (659255080, 659255520, 0) := by
 unfold frT
 rw [show vB (nmD 0) (nmP 0) (nmQ 0) 69 76 = (7, 0, 0) by decide]
 show (440 * (rtT 7 0 0 12).1, 440 * (rtT 7 0 0 12).2.1, (rtT 7 0 0 12).2.2) = _
 rw [rt_seven]
 decide
theorem eq_69 : frT (nmD 0) (nmP 0) (nmQ 0) 440 69 = (440000000, 440000000, 0) := by
 unfold frT
 rw [show vB (nmD 0) (nmP 0) (nmQ 0) 69 69 = (0, 0, 0) by decide]
 show (440 * (rtT 0 0 0 12).1, 440 * (rtT 0 0 0 12).2.1, (rtT 0 0 0 12).2.2) = _
 rw [rt_none]
 decide
theorem eq_dir : drT (nmD 0) (nmP 0) (nmQ 0) 69 76 7 = -1 := by decide
theorem eq_bts : bbT (nmD 0) (nmP 0) (nmQ 0) 440 69 76 7 = (1488960, 1489840, 0) := by
 unfold bbT
 rw [eq_76, eq_69, eq_dir]
 decide
def IvsAt (W : World) (g : Nat) (L : List (Int × Int)) : Prop := g < W.heap.size ∧ ∀ i (h : i < L.length), W.cell? ⟨g, i * 2, none⟩ = some (.int .i64 (L[i]).1) ∧ W.cell? ⟨g, i * 2 + 1, none⟩ = some (.int .i64 (L[i]).2)
theorem IvsAt.below {W W' : World} {g : Nat} {L : List (Int × Int)} (h : IvsAt W g L) (hb : Below W.heap.size W W') : IvsAt W' g L := by
 have e : ∀ o, W'.cell? ⟨g, o, none⟩ = W.cell? ⟨g, o, none⟩ := fun o => by
  simp only [World.cell?, hb.block g h.1]
 exact ⟨Nat.lt_of_lt_of_le h.1 hb.size, fun i hi => by rw [e, e]; exact h.2 i hi⟩
def ivxE (x : Int × Int) : Int := if ¬ ptB x.2 then 18 else if 0 ≤ x.1 ∧ x.1 ≤ 127 ∧ x.1 + x.2 ≤ 127 then 0 else 3
def ivsE : List (Int × Int) → Int
 | [] => 0
 | x :: r => if ivxE x ≠ 0 then ivxE x else ivsE r
def BcRel (w : World) (C : Nat → Tm) (p : Int) (L : List (Int × Int)) (i : Value) (W : World) : Prop :=
 ∃ k : Nat, k ≤ L.length ∧ i = .int .i64 (k : Int) ∧ ivsE L = ivsE (L.drop k) ∧ Hp w [(w.heap.size, 41, tuL C p)] W
set_option maxRecDepth 1000000 in
set_option maxHeartbeats 4000000 in
theorem bcheck_any (C : Nat → Tm) (p : Int) (g c : Nat) (L : List (Int × Int)) (w : World) (hC : ∀ i, i < 12 → Tm64 (C i)) (hL : IvsAt w g L) (hl : L.length ≤ 200) (hi : ∀ x ∈ L, I64 x.1 ∧ I64 x.2) :
  Calls Tryz.prog 57 #[.agg (tuL C p).toArray, .slice (some ⟨g, 0, none⟩) L.length c] w fun e w' => e = .returned (.int .i64 (if tuE C p ≠ 0 then tuE C p else ivsE L)) ∧ Below w.heap.size w w' := by
 have HCK := Lib.hid (fun W => bCheck_any C p W hC)
 obtain ⟨n, hn⟩ : ∃ n, n = L.length := ⟨_, rfl⟩
 have hm0 := (Hp.start w).new 41 (tuL C p)
 simp only [World.size_alloc, List.nil_append, List.cons_append] at hm0
 have HM0 := Lib.hid hm0
 have HL := Lib.hid hL
 have HI := Lib.hid hi
 by_cases h0 : tuE C p = 0
 ·rw [if_neg (by simp [h0])]
  rw [h0] at HCK
  have HN := Lib.hid hn
  rw [← hn] at hl ⊢
  obtain ⟨E, hE⟩ : ∃ E, E = ivsE L := ⟨_, rfl⟩
  rw [← hE]
  have HE := Lib.hid hE
  clear hm0 hC hL hi h0 hn hE
  go_enter Tryz.func57, Tryz.ntmps57
  go_wp2_with (refine wpList_load_row rfl 41 _ rfl w.heap.size rfl 41 (tuL C p).toArray (0, 0) _ (HM0.out.at_ 0 rfl) Tryz.underlying41 rfl (by rw [infoTun, List.size_toArray, tuL_len]) ?_)
  refine (HCK.out _).mono ?_
  rintro e w1 ⟨rfl, hb1⟩
  have HM1 := Lib.hid (HM0.out.step hb1)
  clear hb1 HM0
  go_wp2_with fail
  go_loopw [18] (fun i wr => BcRel w C p L i wr) (fun i _ => n - (intOf i).toNat)
  case atStart => exact ⟨0, by omega, rfl, by rw [List.drop_zero], HM1.out⟩
  case round =>
   obtain ⟨k, hk, rfl, hr, hm⟩ := hrel
   have HM := Lib.hid hm
   have HR := Lib.hid hr
   rw [← HN.out] at hk
   clear hm hr HM1
   by_cases hlt : k < n
   ·obtain ⟨x, hx⟩ : ∃ x, x = L[k]'(by rw [← HN.out]; exact hlt) := ⟨_, rfl⟩
    obtain ⟨c0, c1⟩ := (HL.out.below HM.out.below).2 k (by rw [← HN.out]; exact hlt)
    rw [← hx] at c0 c1
    have HX := Lib.hid hx
    clear hx
    obtain ⟨a, b⟩ := x
    dsimp only at c0 c1
    have hlk : (k : Int) < (n : Int) := by omega
    have hst : ivsE (L.drop k) = if ivxE (a, b) ≠ 0 then ivxE (a, b) else ivsE (L.drop (k + 1)) := by
     rw [List.drop_eq_getElem_cons (by rw [← HN.out]; exact hlt), ← HX.out]
     rfl
    have HST := Lib.hid hst
    have hib := HI.out (a, b) (by rw [HX.out]; exact List.getElem_mem _)
    have HIB := Lib.hid hib
    clear hst hib
    have HM2 := Lib.hid (HM.out.new 67 [.int .i64 a, .int .i64 b])
    go_wp2_with fail
    by_cases hb : ptB b
    ·refine (bPart_ok b _ hb).mono ?_
     rintro e wx ⟨rfl, rfl⟩
     obtain ⟨y0, y1⟩ := two_of (HM2.out.at_ 1 rfl)
     have hb12 : 3 ≤ b ∧ b ≤ 12 := by unfold ptB at hb; omega
     have HB := Lib.hid hb
     have HB12 := Lib.hid hb12
     clear hb hb12 c0 c1
     go_wp2_with fail
     refine (bnote_any a _).mono ?_
     rintro e wx ⟨rfl, rfl⟩
     by_cases ha : 0 ≤ a ∧ a ≤ 127
     ·obtain ⟨m, hm⟩ : ∃ m, m = ntB a := ⟨_, rfl⟩
      have hmt : m = true := hm.trans (decide_eq_true ha)
      rw [← hm]
      subst hmt
      have hw : IntKind.i64.wrap (a + b) = a + b := IntWalk.i64_in _ (by have := HB12.out; omega)
      have HA := Lib.hid ha
      clear hm ha
      go_wp2_with fail
      refine (bnote_any (a + b) _).mono ?_
      rintro e wx ⟨rfl, rfl⟩
      by_cases hab : a + b ≤ 127
      ·obtain ⟨m, hm⟩ : ∃ m, m = ntB (a + b) := ⟨_, rfl⟩
       have hmt : m = true := hm.trans (decide_eq_true ⟨by have := HA.out; have := HB12.out; omega, hab⟩)
       rw [← hm]
       subst hmt
       have HO := Lib.hid (show ivxE (a, b) = 0 by unfold ivxE; rw [if_neg (fun h => h HB.out), if_pos ⟨HA.out.1, HA.out.2, hab⟩])
       have HN2 := Lib.hid (show Hp w [(w.heap.size, 41, tuL C p)] (wr.alloc (.cells #[.int .i64 a, .int .i64 b] 67)) from HM2.out.sub (by simp))
       clear hm hab y0 y1 hw HM2
       go_wp2_with fail
       go_roundw
       case rel => exact ⟨k + 1, by rw [← HN.out]; omega, rfl, by rw [HR.out, HST.out, if_neg (fun h => h HO.out)], HN2.out⟩
       case measure => simp only [intOf]; omega
      ·obtain ⟨m, hm⟩ : ∃ m, m = ntB (a + b) := ⟨_, rfl⟩
       have hmt : m = false := hm.trans (decide_eq_false fun h => hab h.2)
       rw [← hm]
       subst hmt
       have HO := Lib.hid (show ivxE (a, b) = 3 by unfold ivxE; rw [if_neg (fun h => h HB.out), if_neg (fun h => hab h.2.2)])
       have HZ := Lib.hid (HE.out.trans (HR.out.trans (HST.out.trans (by rw [HO.out, if_pos (by decide)]))))
       clear hm hab y0 y1 hw
       go_wp2_with fail
       exact bodyPost_ret (v := .int .i64 3) (by simp [results, Tryz.results57, go_sem]) rfl ⟨by rw [HZ.out], HM2.out.below⟩
     ·obtain ⟨m, hm⟩ : ∃ m, m = ntB a := ⟨_, rfl⟩
      have hmt : m = false := hm.trans (decide_eq_false ha)
      rw [← hm]
      subst hmt
      have HO := Lib.hid (show ivxE (a, b) = 3 by unfold ivxE; rw [if_neg (fun h => h HB.out), if_neg (fun h => ha ⟨h.1, h.2.1⟩)])
      have HZ := Lib.hid (HE.out.trans (HR.out.trans (HST.out.trans (by rw [HO.out, if_pos (by decide)]))))
      clear hm ha y0 y1
      go_wp2_with fail
      exact bodyPost_ret (v := .int .i64 3) (by simp [results, Tryz.results57, go_sem]) rfl ⟨by rw [HZ.out], HM2.out.below⟩
    ·refine (bPart_no b _ hb).mono ?_
     rintro e wx ⟨rfl, rfl⟩
     have HO := Lib.hid (show ivxE (a, b) = 18 by unfold ivxE; rw [if_pos hb])
     have HZ := Lib.hid (HE.out.trans (HR.out.trans (HST.out.trans (by rw [HO.out, if_pos (by decide)]))))
     clear hb c0 c1
     go_wp2_with fail
     exact bodyPost_ret (v := .int .i64 18) (by simp [results, Tryz.results57, go_sem]) rfl ⟨by rw [HZ.out], HM2.out.below⟩
   ·obtain rfl : k = n := by omega
    have HZ := Lib.hid (HE.out.trans (HR.out.trans (by rw [HN.out, List.drop_length])))
    clear hlt hk
    go_wp2_with fail
    exact bodyPost_ret (v := .int .i64 0) (by simp [results, Tryz.results57, go_sem]) rfl ⟨by rw [HZ.out]; rfl, HM.out.below⟩
 ·rw [if_pos h0]
  obtain ⟨q, hq⟩ : ∃ q, q = tuE C p := ⟨_, rfl⟩
  rw [← hq] at HCK h0 ⊢
  have hz : (q != 0) = true := by simpa using h0
  clear hm0 hC hL hi h0 hq hn hl HL HI
  go_enter Tryz.func57, Tryz.ntmps57
  go_wp2_with (refine wpList_load_row rfl 41 _ rfl w.heap.size rfl 41 (tuL C p).toArray (0, 0) _ (HM0.out.at_ 0 rfl) Tryz.underlying41 rfl (by rw [infoTun, List.size_toArray, tuL_len]) ?_)
  refine (HCK.out _).mono ?_
  rintro e w1 ⟨rfl, hb1⟩
  have HZ := Lib.hid (HM0.out.step hb1)
  clear hb1 HM0
  go_wp2_with fail
  exact bodyPost_ret (v := .int .i64 q) (by simp [results, Tryz.results57, go_sem]) rfl ⟨rfl, HZ.out.below⟩
def SzRel (w : World) (C : Nat → Tm) (p : Int) (n : Nat) (i : Value) (W : World) : Prop :=
 ∃ k : Nat, k ≤ n ∧ i = .int .i64 (k : Int) ∧ Hp w [(w.heap.size, 41, tuL C p)] W
def SyRel (w : World) (C : Nat → Tm) (p : Int) (g6 g7 : Nat) (a b t : Int) (i : Value) (W : World) : Prop :=
 ∃ k : Nat, k ≤ 3 ∧ i = .int .i64 (k : Int) ∧ Hp w [(w.heap.size, 41, tuL C p), (g6, 67, [.int .i64 a, .int .i64 b]), (g7, 136, [.int .i64 a, .int .i64 t, .int .i64 69, .int .i64 a, .int .i64 69, .int .i64 t])] W
set_option maxRecDepth 1000000 in
set_option maxHeartbeats 8000000 in
theorem bsizes_gen (C : Nat → Tm) (p : Int) (g c : Nat) (L : List (Int × Int)) (w : World) (ht : Tab w) (hL : IvsAt w g L) (hl : L.length ≤ 200) (hi : ∀ x ∈ L, ivxE x = 0)
  (hB : ∀ x y : Int, 0 ≤ x ∧ x ≤ 127 → 0 ≤ y ∧ y ≤ 127 → ∃ s0 s1 s2 s3 s4 s5 : Int, ∀ W, Tab W → Calls Tryz.prog 56 #[.agg (cirL C).toArray, .int .i64 x, .int .i64 y] W fun e w' => e = .returned (.tuple #[szv s0 s1 s2 s3 s4 s5, .int .i64 0]) ∧ Below W.heap.size W w') :
  Calls Tryz.prog 59 #[.agg (tuL C p).toArray, .slice (some ⟨g, 0, none⟩) L.length c] w fun e w' => e = .returned (.int .i64 0) ∧ Below w.heap.size w w' := by
 obtain ⟨n, hn⟩ : ∃ n, n = L.length := ⟨_, rfl⟩
 have hm0 := (Hp.start w).new 41 (tuL C p)
 simp only [World.size_alloc, List.nil_append, List.cons_append] at hm0
 have HM0 := Lib.hid hm0
 have HL := Lib.hid hL
 have HI := Lib.hid hi
 have HN := Lib.hid hn
 have HB := Lib.hid hB
 have HT := Lib.hid ht
 rw [← hn] at hl ⊢
 clear hm0 hL hi hn hB ht
 go_enter Tryz.func59, Tryz.ntmps59
 go_wp2_with fail
 go_loopw [13] (fun i wr => SzRel w C p n i wr) (fun i _ => n - (intOf i).toNat)
 case atStart => exact ⟨0, by omega, rfl, HM0.out⟩
 case round =>
  obtain ⟨k, hk, rfl, hm⟩ := hrel
  have HM := Lib.hid hm
  clear hm HM0
  by_cases hlt : k < n
  ·obtain ⟨x, hx⟩ : ∃ x, x = L[k]'(by rw [← HN.out]; exact hlt) := ⟨_, rfl⟩
   obtain ⟨c0, c1⟩ := (HL.out.below HM.out.below).2 k (by rw [← HN.out]; exact hlt)
   have hie := HI.out x (by rw [hx]; exact List.getElem_mem _)
   rw [← hx] at c0 c1
   clear hx
   obtain ⟨a, b⟩ := x
   dsimp only at c0 c1
   have hab : (0 ≤ a ∧ a ≤ 127) ∧ (3 ≤ b ∧ b ≤ 12) ∧ a + b ≤ 127 := by
    unfold ivxE at hie
    split at hie
    ·exact absurd hie (by decide)
    ·rename_i h1
     have hb : ptB b := Classical.not_not.1 h1
     split at hie
     ·rename_i h2
      dsimp only at h2
      unfold ptB at hb
      omega
     ·exact absurd hie (by decide)
   obtain ⟨t, htt⟩ : ∃ t, t = a + b := ⟨_, rfl⟩
   have hw : IntKind.i64.wrap (a + b) = t := by rw [htt]; exact IntWalk.i64_in _ (by omega)
   have HAT := Lib.hid (show (0 ≤ a ∧ a ≤ 127) ∧ (0 ≤ t ∧ t ≤ 127) by omega)
   have hlk : (k : Int) < (n : Int) := by omega
   obtain ⟨g6, hg6⟩ : ∃ g, g = wr.heap.size := ⟨_, rfl⟩
   have hm6 := HM.out.new 67 [.int .i64 a, .int .i64 b]
   simp only [List.nil_append, List.cons_append] at hm6
   have hm7 := hm6.new 136 [.int .i64 a, .int .i64 t, .int .i64 69, .int .i64 a, .int .i64 69, .int .i64 t]
   simp only [World.size_alloc, List.nil_append, List.cons_append] at hm7
   have HM7 := Lib.hid hm7
   obtain ⟨y0, y1⟩ := two_of (hm6.at_ 1 rfl)
   clear hie hab htt hm6 hm7 hg6
   go_wp2_with fail
   go_loopw [36] (fun i wx => SyRel w C p wr.heap.size (wr.heap.size + 1) a b t i wx) (fun i _ => 3 - (intOf i).toNat)
   case atStart => exact ⟨0, by omega, rfl, HM7.out⟩
   case round =>
    obtain ⟨j, hj, rfl, hm⟩ := hrel
    have HM8 := Lib.hid hm
    clear hm HM7 c0 c1 y0 y1 hw
    by_cases hjt : j < 3
    ·rcases (show j = 0 ∨ j = 1 ∨ j = 2 by omega) with rfl | rfl | rfl
     ·obtain ⟨c0, c1, c2, c3, c4, c5⟩ := six_of (HM8.out.at_ 2 rfl)
      obtain ⟨s0, s1, s2, s3, s4, s5, hbt⟩ := HB.out a t HAT.out.1 HAT.out.2
      have HBT := Lib.hid hbt
      have HM9 := Lib.hid (HM8.out.new 136 [.int .i64 a, .int .i64 t])
      clear hbt
      go_wp2_with (refine wpList_load_pre rfl 38 _ rfl w.heap.size rfl (cirL C).toArray _ (tu_cir (HM9.out.at_ 0 rfl)) Tryz.underlying38 rfl (by rw [infoCircle, List.size_toArray, cirL_len]) ?_)
      refine (HBT.out _ (HT.out.below HM9.out.below)).mono ?_
      rintro e w2 ⟨rfl, hb2⟩
      have HM10 := Lib.hid ((HM9.out.step hb2).alloc (.cells #[.int .i64 s0, .int .i64 s1, .int .i64 s2, .int .i64 s3, .int .i64 s4, .int .i64 s5] 49))
      have HM11 := Lib.hid (HM10.out.sub (List.sublist_append_left _ _))
      clear hb2 HM10 HM9 c0 c1 c2 c3 c4 c5 HM8
      go_wp2_with fail
      go_roundw
      case rel => exact ⟨0 + 1, by omega, rfl, HM11.out⟩
      case measure => simp [intOf]
     ·obtain ⟨c0, c1, c2, c3, c4, c5⟩ := six_of (HM8.out.at_ 2 rfl)
      obtain ⟨s0, s1, s2, s3, s4, s5, hbt⟩ := HB.out 69 a (by decide) HAT.out.1
      have HBT := Lib.hid hbt
      have HM9 := Lib.hid (HM8.out.new 136 [.int .i64 69, .int .i64 a])
      clear hbt
      go_wp2_with (refine wpList_load_pre rfl 38 _ rfl w.heap.size rfl (cirL C).toArray _ (tu_cir (HM9.out.at_ 0 rfl)) Tryz.underlying38 rfl (by rw [infoCircle, List.size_toArray, cirL_len]) ?_)
      refine (HBT.out _ (HT.out.below HM9.out.below)).mono ?_
      rintro e w2 ⟨rfl, hb2⟩
      have HM10 := Lib.hid ((HM9.out.step hb2).alloc (.cells #[.int .i64 s0, .int .i64 s1, .int .i64 s2, .int .i64 s3, .int .i64 s4, .int .i64 s5] 49))
      have HM11 := Lib.hid (HM10.out.sub (List.sublist_append_left _ _))
      clear hb2 HM10 HM9 c0 c1 c2 c3 c4 c5 HM8
      go_wp2_with fail
      go_roundw
      case rel => exact ⟨1 + 1, by omega, rfl, HM11.out⟩
      case measure => simp [intOf]
     ·obtain ⟨c0, c1, c2, c3, c4, c5⟩ := six_of (HM8.out.at_ 2 rfl)
      obtain ⟨s0, s1, s2, s3, s4, s5, hbt⟩ := HB.out 69 t (by decide) HAT.out.2
      have HBT := Lib.hid hbt
      have HM9 := Lib.hid (HM8.out.new 136 [.int .i64 69, .int .i64 t])
      clear hbt
      go_wp2_with (refine wpList_load_pre rfl 38 _ rfl w.heap.size rfl (cirL C).toArray _ (tu_cir (HM9.out.at_ 0 rfl)) Tryz.underlying38 rfl (by rw [infoCircle, List.size_toArray, cirL_len]) ?_)
      refine (HBT.out _ (HT.out.below HM9.out.below)).mono ?_
      rintro e w2 ⟨rfl, hb2⟩
      have HM10 := Lib.hid ((HM9.out.step hb2).alloc (.cells #[.int .i64 s0, .int .i64 s1, .int .i64 s2, .int .i64 s3, .int .i64 s4, .int .i64 s5] 49))
      have HM11 := Lib.hid (HM10.out.sub (List.sublist_append_left _ _))
      clear hb2 HM10 HM9 c0 c1 c2 c3 c4 c5 HM8
      go_wp2_with fail
      go_roundw
      case rel => exact ⟨2 + 1, by omega, rfl, HM11.out⟩
      case measure => simp [intOf]
    ·obtain rfl : j = 3 := by omega
     have HM11 := Lib.hid (show Hp w [(w.heap.size, 41, tuL C p)] _ from HM8.out.sub (by simp))
     clear hjt hj HM8
     go_wp2_with fail
     go_roundw
     case rel => exact ⟨k + 1, by omega, rfl, HM11.out⟩
     case measure => simp only [intOf]; omega
  ·obtain rfl : k = n := by omega
   clear hlt hk
   go_wp2_with fail
   exact bodyPost_ret (v := .int .i64 0) (by simp [results, Tryz.results59, go_sem]) rfl ⟨rfl, HM.out.below⟩
theorem bsizes_pl {d : Int} {P S : Nat → Int} (h : PlnC d P S) (p : Int) (g c : Nat) (L : List (Int × Int)) (w : World) (ht : Tab w) (hL : IvsAt w g L) (hl : L.length ≤ 200) (hi : ∀ x ∈ L, ivxE x = 0) :
  Calls Tryz.prog 59 #[.agg (tuL (cirP d P S) p).toArray, .slice (some ⟨g, 0, none⟩) L.length c] w fun e w' => e = .returned (.int .i64 0) ∧ Below w.heap.size w w' := by
 refine bsizes_gen (cirP d P S) p g c L w ht hL hl hi (fun x y hx hy => ?_)
 obtain ⟨m, rfl⟩ : ∃ m : Nat, x = (m : Int) := ⟨x.toNat, by omega⟩
 obtain ⟨n, rfl⟩ : ∃ m : Nat, y = (m : Int) := ⟨y.toNat, by omega⟩
 exact ⟨_, _, _, _, _, _, fun W hT => tBetween_pl h (m := m) (n := n) (by omega) (by omega) W hT⟩
theorem ivs_one {W : World} {g : Nat} {t : TypeId} {a b : Int} (h : Blk W g t [.int .i64 a, .int .i64 b]) : IvsAt W g [(a, b)] :=
 ⟨h.lt, fun i hi => by
  obtain rfl : i = 0 := by simp at hi; exact hi
  exact ⟨h.cell 0, h.cell 1⟩⟩
theorem ivsE_one (x : Int × Int) : ivsE [x] = ivxE x := by
 show (if ivxE x ≠ 0 then ivxE x else 0) = ivxE x
 split
 ·rfl
 ·rename_i h; exact (Classical.not_not.1 h).symm
set_option maxRecDepth 1000000 in
set_option maxHeartbeats 4000000 in
theorem bDirection_any (C : Nat → Tm) (p a b c dv : Int) (w : World) (ht : Tab w) (hC : ∀ i, i < 12 → Tm64 (C i)) (ha : I64 a) (hb : I64 b) (hc : c = if tuE C p ≠ 0 then tuE C p else ivxE (a, b))
  (hD : c = 0 → ∀ W, Tab W → Calls Tryz.prog 58 #[.agg (tuL C p).toArray, .agg #[.int .i64 a, .int .i64 b]] W fun e w' => e = .returned (.tuple #[.int .i64 dv, .int .i64 0]) ∧ Below W.heap.size W w') :
  Calls Tryz.prog 26 #[.agg (tuL C p).toArray, .agg #[.int .i64 a, .int .i64 b]] w fun e w' => e = .returned (.tuple #[.int .i64 (if c = 0 then dv else 0), .int .i64 c]) ∧ Below w.heap.size w w' := by
 have hck : ∀ (W : World) (g : Nat), IvsAt W g [(a, b)] → Calls Tryz.prog 57 #[.agg (tuL C p).toArray, .slice (some ⟨g, 0, none⟩) 1 1] W fun e w' => e = .returned (.int .i64 c) ∧ Below W.heap.size W w' := fun W g h => by
  have := bcheck_any C p g 1 [(a, b)] W hC h (by simp) (fun x hx => by
   rw [List.mem_singleton] at hx; subst hx; exact ⟨ha, hb⟩)
  rw [ivsE_one, ← hc] at this
  exact this
 have HCK := Lib.hid hck
 have HD := Lib.hid hD
 have HT := Lib.hid ht
 have hm0 := ((Hp.start w).new 41 (tuL C p)).new 67 [.int .i64 a, .int .i64 b]
 simp only [World.size_alloc, List.nil_append, List.cons_append] at hm0
 obtain ⟨y0, y1⟩ := two_of (hm0.at_ 1 rfl)
 have hm1 := hm0.new 67 [.int .i64 a, .int .i64 b]
 simp only [World.size_alloc, List.nil_append, List.cons_append] at hm1
 have HM0 := Lib.hid hm0
 have HM1 := Lib.hid hm1
 clear hm0 hm1 hck hC ha hb hc hD ht
 go_enter Tryz.func26, Tryz.ntmps26
 go_wp2_with (refine wpList_load_row rfl 41 _ rfl w.heap.size rfl 41 (tuL C p).toArray (0, 0) _ (HM0.out.at_ 0 rfl) Tryz.underlying41 rfl (by rw [infoTun, List.size_toArray, tuL_len]) ?_)
 refine (HCK.out _ _ (ivs_one (HM1.out.at_ 2 rfl))).mono ?_
 rintro e w1 ⟨rfl, hb1⟩
 have HM2 := Lib.hid (HM1.out.step hb1)
 clear hb1 HM0 HM1 y0 y1
 by_cases h0 : c = 0
 ·have HDC := Lib.hid (HD.out h0)
  subst h0
  obtain ⟨y0, y1⟩ := two_of (HM2.out.at_ 1 rfl)
  go_wp2_with (refine wpList_load_row rfl 41 _ rfl w.heap.size rfl 41 (tuL C p).toArray (0, 0) _ (HM2.out.at_ 0 rfl) Tryz.underlying41 rfl (by rw [infoTun, List.size_toArray, tuL_len]) ?_)
  refine (HDC.out _ (HT.out.below HM2.out.below)).mono ?_
  rintro e w2 ⟨rfl, hb2⟩
  have HZ := Lib.hid (HM2.out.step hb2)
  clear hb2 HM2 y0 y1
  go_wp2_with fail
  exact bodyPost_ret (v := .tuple #[.int .i64 dv, .int .i64 0]) (by simp [results, Tryz.results26, go_sem]) rfl ⟨rfl, HZ.out.below⟩
 ·have hz : (c != 0) = true := by simpa using h0
  have H0 := Lib.hid h0
  clear h0
  go_wp2_with fail
  exact bodyPost_ret (v := .tuple #[.int .i64 0, .int .i64 c]) (by simp [results, Tryz.results26, go_sem]) rfl ⟨rfl, HM2.out.below⟩
end Go.Proofs.YtendjepcjmfmfaaGreatDoor
