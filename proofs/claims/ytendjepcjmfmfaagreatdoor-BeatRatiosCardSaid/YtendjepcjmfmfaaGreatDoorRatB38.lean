/- Part 38 of 42 of the proof of the law: contracts of the functions that it reaches, and plain facts. Conditions: those that each contract names. -/
import Derived.Test.YtendjepcjmfmfaaGreatDoorRatB37
import Derived.Test.YtendjepcjmfmfaaGreatDoorRatB32
namespace Go.Proofs.YtendjepcjmfmfaaGreatDoor
open Go.RowKit
set_option maxRecDepth 1000000 in
set_option maxHeartbeats 4000000 in
theorem bBeats_any (C : Nat → Tm) (p a b c v0 v1 v2 : Int) (w : World) (ht : Tab w) (hC : ∀ i, i < 12 → Tm64 (C i)) (ha : I64 a) (hb : I64 b) (hc : c = if tuE C p ≠ 0 then tuE C p else ivxE (a, b))
  (hS : c = 0 → ∀ (W : World) (g : Nat), Tab W → IvsAt W g [(a, b)] → Calls Tryz.prog 59 #[.agg (tuL C p).toArray, .slice (some ⟨g, 0, none⟩) 1 1] W fun e w' => e = .returned (.int .i64 0) ∧ Below W.heap.size W w')
  (hB : c = 0 → ∀ W, Tab W → Calls Tryz.prog 60 #[.agg (tuL C p).toArray, .agg #[.int .i64 a, .int .i64 b]] W fun e w' => e = .returned (.tuple #[.agg #[.int .i64 v0, .int .i64 v1], .int .i64 v2]) ∧ Below W.heap.size W w') :
  Calls Tryz.prog 27 #[.agg (tuL C p).toArray, .agg #[.int .i64 a, .int .i64 b]] w fun e w' => e = .returned (if c = 0 then .tuple #[.agg #[.int .i64 v0, .int .i64 v1], .int .i64 v2] else .tuple #[.agg #[.int .i64 0, .int .i64 0], .int .i64 c]) ∧ Below w.heap.size w w' := by
 have hck : ∀ (W : World) (g : Nat), IvsAt W g [(a, b)] → Calls Tryz.prog 57 #[.agg (tuL C p).toArray, .slice (some ⟨g, 0, none⟩) 1 1] W fun e w' => e = .returned (.int .i64 c) ∧ Below W.heap.size W w' := fun W g h => by
  have := bcheck_any C p g 1 [(a, b)] W hC h (by simp) (fun x hx => by
   rw [List.mem_singleton] at hx; subst hx; exact ⟨ha, hb⟩)
  rw [ivsE_one, ← hc] at this
  exact this
 have HCK := Lib.hid hck
 have HS := Lib.hid hS
 have HBB := Lib.hid hB
 have HT := Lib.hid ht
 have hm0 := (((Hp.start w).new 41 (tuL C p)).new 67 [.int .i64 a, .int .i64 b]).new 53 [.int .i64 0, .int .i64 0]
 simp only [World.size_alloc, List.nil_append, List.cons_append] at hm0
 obtain ⟨y0, y1⟩ := two_of (hm0.at_ 1 rfl)
 have hm1 := hm0.new 67 [.int .i64 a, .int .i64 b]
 simp only [World.size_alloc, List.nil_append, List.cons_append] at hm1
 have HM0 := Lib.hid hm0
 have HM1 := Lib.hid hm1
 clear hm0 hm1 hck hC ha hb hc hS hB ht
 go_enter Tryz.func27, Tryz.ntmps27
 go_wp2_with (refine wpList_load_row rfl 41 _ rfl w.heap.size rfl 41 (tuL C p).toArray (0, 0) _ (HM0.out.at_ 0 rfl) Tryz.underlying41 rfl (by rw [infoTun, List.size_toArray, tuL_len]) ?_)
 refine (HCK.out _ _ (ivs_one (HM1.out.at_ 3 rfl))).mono ?_
 rintro e w1 ⟨rfl, hb1⟩
 have HM2 := Lib.hid (HM1.out.step hb1)
 clear hb1 HM0 HM1 y0 y1
 by_cases h0 : c = 0
 ·have HSC := Lib.hid (HS.out h0)
  have HBC := Lib.hid (HBB.out h0)
  subst h0
  obtain ⟨y0, y1⟩ := two_of (HM2.out.at_ 1 rfl)
  have HM3 := Lib.hid (HM2.out.new 67 [.int .i64 a, .int .i64 b])
  go_wp2_with (refine wpList_load_row rfl 41 _ rfl w.heap.size rfl 41 (tuL C p).toArray (0, 0) _ (HM2.out.at_ 0 rfl) Tryz.underlying41 rfl (by rw [infoTun, List.size_toArray, tuL_len]) ?_)
  refine (HSC.out _ _ (HT.out.below HM3.out.below) (ivs_one (HM3.out.at_ 4 rfl))).mono ?_
  rintro e w2 ⟨rfl, hb2⟩
  have HM4 := Lib.hid (HM3.out.step hb2)
  clear hb2 HM2 HM3 y0 y1
  obtain ⟨y0, y1⟩ := two_of (HM4.out.at_ 1 rfl)
  go_wp2_with (refine wpList_load_row rfl 41 _ rfl w.heap.size rfl 41 (tuL C p).toArray (0, 0) _ (HM4.out.at_ 0 rfl) Tryz.underlying41 rfl (by rw [infoTun, List.size_toArray, tuL_len]) ?_)
  refine (HBC.out _ (HT.out.below HM4.out.below)).mono ?_
  rintro e w3 ⟨rfl, hb3⟩
  have HM5 := Lib.hid (HM4.out.step hb3)
  clear hb3 HM4 y0 y1
  obtain ⟨y0, y1⟩ := two_of (HM5.out.at_ 2 rfl)
  have f0 := (HM5.out.at_ 2 rfl).frozen 0
  have f1 := (HM5.out.at_ 2 rfl).frozen 1
  have HZ := Lib.hid (HM5.out.put2 2 rfl (.int .i64 v0) (.int .i64 v1))
  clear HM5
  go_wp2_with fail
  exact bodyPost_ret (v := .tuple #[.agg #[.int .i64 v0, .int .i64 v1], .int .i64 v2]) (by simp [results, Tryz.results27, go_sem, y0, y1, f0, f1]) rfl ⟨rfl, HZ.out.below⟩
 ·have hz : (c != 0) = true := by simpa using h0
  clear h0
  obtain ⟨y0, y1⟩ := two_of (HM2.out.at_ 2 rfl)
  have f0 := (HM2.out.at_ 2 rfl).frozen 0
  have f1 := (HM2.out.at_ 2 rfl).frozen 1
  have HZ := Lib.hid (HM2.out.put2 2 rfl (.int .i64 0) (.int .i64 0))
  clear HM2
  go_wp2_with fail
  ·exact absurd ‹c = 0› (by simpa using hz)
  ·exact bodyPost_ret (v := .tuple #[.agg #[.int .i64 0, .int .i64 0], .int .i64 c]) (by simp [results, Tryz.results27, go_sem, y0, y1, f0, f1]) rfl ⟨rfl, HZ.out.below⟩
abbrev eqC : Nat → Tm := cirP (nmD 0) (nmP 0) (nmQ 0)
theorem eq_tuE (p : Int) (hp : 1 ≤ p ∧ p ≤ 1000) (k : Nat) : tuE (cirP (nmD k) (nmP k) (nmQ k)) p = 0 := by
 unfold tuE
 rw [ckE_pl (nm_pln k), if_neg (by simp), if_neg (by omega)]
theorem kn_freq (w : World) (ht : Tab w) : Calls Tryz.prog 23 #[.agg (tuL eqC 440).toArray, .int .i64 76] w fun e w' => e = .returned (.tuple #[.agg #[.int .i64 659255080, .int .i64 659255520], .int .i64 0]) ∧ Below w.heap.size w w' := by
 refine bFrequency_ok eqC 440 76 659255080 659255520 0 w ht (plan_tm (nm_pln 0)) (eq_tuE 440 (by decide) 0) (by decide) (fun W hT => ?_)
 have := bfreq_pl (nm_pln 0) 440 (by decide) (n := 76) (by decide) W hT
 rw [eq_76] at this
 exact this
theorem kn_dir (w : World) (ht : Tab w) : Calls Tryz.prog 26 #[.agg (tuL eqC 440).toArray, .agg #[.int .i64 69, .int .i64 7]] w fun e w' => e = .returned (.tuple #[.int .i64 (-1), .int .i64 0]) ∧ Below w.heap.size w w' := by
 have := bDirection_any eqC 440 69 7 0 (-1) w ht (plan_tm (nm_pln 0)) (by unfold I64; omega) (by unfold I64; omega) (by rw [eq_tuE 440 (by decide) 0]; decide) (fun _ W hT => by
  have := bdir_pl (nm_pln 0) 440 7 (by decide) (l := 69) (n := 76) (by decide) (by decide) W hT
  rw [eq_dir] at this
  exact this)
 exact this
theorem kn_bts (w : World) (ht : Tab w) : Calls Tryz.prog 27 #[.agg (tuL eqC 440).toArray, .agg #[.int .i64 69, .int .i64 7]] w fun e w' => e = .returned (.tuple #[.agg #[.int .i64 1488960, .int .i64 1489840], .int .i64 0]) ∧ Below w.heap.size w w' := by
 have := bBeats_any eqC 440 69 7 0 1488960 1489840 0 w ht (plan_tm (nm_pln 0)) (by unfold I64; omega) (by unfold I64; omega) (by rw [eq_tuE 440 (by decide) 0]; decide)
  (fun _ W g hT hg => bsizes_pl (nm_pln 0) 440 g 1 [(69, 7)] W hT hg (by decide) (fun x hx => by rw [List.mem_singleton] at hx; subst hx; decide))
  (fun _ W hT => by
   have := bbeats_pl (nm_pln 0) 440 7 (by decide) (by decide) (l := 69) (n := 76) (by decide) (by decide) W hT
   rw [eq_bts] at this
   exact this)
 exact this
set_option maxRecDepth 1000000 in
set_option maxHeartbeats 4000000 in
theorem bknown_any (w : World) (ht : Tab w) : Calls Tryz.prog 11 #[] w fun e w' => e = .returned (.bool true) ∧ Below w.heap.size w w' := by
 obtain ⟨C, hC⟩ : ∃ C, C = eqC := ⟨_, rfl⟩
 have hnm := fun W => tNamed_at 0 (by decide) W
 have hfr := fun W hT => kn_freq W hT
 have hdr := fun W hT => kn_dir W hT
 have hbt := fun W hT => kn_bts W hT
 rw [← hC] at hfr hdr hbt
 simp only [← hC] at hnm
 have HNM := Lib.hid hnm
 have HFR := Lib.hid hfr
 have HDR := Lib.hid hdr
 have HBT := Lib.hid hbt
 have HT := Lib.hid ht
 clear ht hnm hfr hdr hbt hC
 go_enter Tryz.func11, Tryz.ntmps11
 go_wp2_with fail
 refine (HNM.out _).mono ?_
 rintro e w1 ⟨rfl, hb1⟩
 have hm1 := ((Hp.start w).step hb1).new 38 (cirL (fun _ => (0, 0, 0, 0)))
 simp only [List.nil_append, List.cons_append] at hm1
 have HM1 := Lib.hid hm1
 have hm2 := (hm1.row 0 rfl (cirL C)).cast (L' := [(w1.heap.size, 38, cirL C)]) rfl
 have HM2 := Lib.hid hm2
 have hm3 := HM2.out.new 41 (tuL (fun _ => (0, 0, 0, 0)) 0)
 have HM3 := Lib.hid (hm3.cast (L' := [(w1.heap.size, 38, cirL C), (w1.heap.size + 1, 41, tuL (fun _ => (0, 0, 0, 0)) 0)]) (by simp))
 have HM4 := Lib.hid ((HM3.out.row 1 rfl (tuL C 440)).cast (L' := [(w1.heap.size, 38, cirL C), (w1.heap.size + 1, 41, tuL C 440)]) rfl)
 clear hb1 hm1 hm2 hm3
 go_wp2_with (first | (refine wpList_bldTun rfl _ _ rfl C 440 rfl rfl ?_) | (refine wpList_store_rowTo rfl 38 _ _ rfl rfl (w1.heap.size) (cirL C).toArray rfl rfl 38 (cirL (fun _ => (0, 0, 0, 0))).toArray (HM1.out.at_ 0 rfl) (by rw [infoCircle, List.size_toArray, cirL_len]) (by rw [List.size_toArray, List.size_toArray, cirL_len, cirL_len]) (cir_one _) ?_) | (refine wpList_load_row rfl 38 _ rfl (w1.heap.size) rfl 38 (cirL C).toArray (0, 0) _ (HM2.out.at_ 0 rfl) Tryz.underlying38 rfl (by rw [infoCircle, List.size_toArray, cirL_len]) ?_) | (refine wpList_store_rowTo rfl 41 _ _ rfl rfl (w1.heap.size + 1) (tuL C 440).toArray rfl rfl 41 (tuL (fun _ => (0, 0, 0, 0)) 0).toArray (HM3.out.at_ 1 rfl) (by rw [infoTun, List.size_toArray, tuL_len]) (by rw [List.size_toArray, List.size_toArray, tuL_len, tuL_len]) (tu_one C 440) ?_) | (refine wpList_load_row rfl 41 _ rfl (w1.heap.size + 1) rfl 41 (tuL C 440).toArray (0, 0) _ (HM4.out.at_ 1 rfl) Tryz.underlying41 rfl (by rw [infoTun, List.size_toArray, tuL_len]) ?_))
 refine (HFR.out _ (HT.out.below HM4.out.below)).mono ?_
 rintro e w2 ⟨rfl, hb2⟩
 have hm5 := (HM4.out.step hb2).new 53 [.int .i64 659255080, .int .i64 659255520]
 simp only [List.nil_append, List.cons_append] at hm5
 have HM5 := Lib.hid hm5
 clear hb2 HM1 HM2 HM3 HM4 hm5
 go_wp2_with (first | (refine wpList_load_row rfl 41 _ rfl (w1.heap.size + 1) rfl 41 (tuL C 440).toArray (0, 0) _ (HM5.out.at_ 1 rfl) Tryz.underlying41 rfl (by rw [infoTun, List.size_toArray, tuL_len]) ?_))
 refine (HBT.out _ (HT.out.below HM5.out.below)).mono ?_
 rintro e w3 ⟨rfl, hb3⟩
 have hm6 := (HM5.out.step hb3).new 53 [.int .i64 1488960, .int .i64 1489840]
 simp only [List.nil_append, List.cons_append] at hm6
 have HM6 := Lib.hid hm6
 clear hb3 HM5 hm6
 go_wp2_with (first | (refine wpList_load_row rfl 41 _ rfl (w1.heap.size + 1) rfl 41 (tuL C 440).toArray (0, 0) _ (HM6.out.at_ 1 rfl) Tryz.underlying41 rfl (by rw [infoTun, List.size_toArray, tuL_len]) ?_))
 refine (HDR.out _ (HT.out.below HM6.out.below)).mono ?_
 rintro e w4 ⟨rfl, hb4⟩
 have hm7 := HM6.out.step hb4
 have HM7 := Lib.hid hm7
 obtain ⟨y0, y1⟩ := two_of (hm7.at_ 2 rfl)
 obtain ⟨y2, y3⟩ := two_of (hm7.at_ 3 rfl)
 clear hb4 HM6 hm7
 go_wp2_with fail
 exact bodyPost_ret (v := .bool true) (by simp [results, Tryz.results11, go_sem]) rfl ⟨rfl, HM7.out.below⟩
def cmT (c e1 e2 u0 u1 v0 v1 : Int) : Int × Int := if c ≠ 0 then (0, c) else if e1 ≠ 0 then (0, e1) else if e2 ≠ 0 then (0, e2) else if v1 < u0 then (1, 0) else if u1 < v0 then (-1, 0) else (0, 0)
set_option maxRecDepth 100000 in
set_option maxHeartbeats 1000000 in
theorem loctaves_any (n : Int) (w : World) : Calls Tryz.prog 49 #[.int .i64 n] w fun e w' => e = .returned (szv n 1 0 1 0 1) ∧ Below w.heap.size w w' := by
 have hm0 := ((Hp.start w).new 49 [.int .i64 0, .int .i64 0, .int .i64 0, .int .i64 0, .int .i64 0, .int .i64 0]).new 34 [.int .i64 0, .int .i64 1]
 simp only [World.size_alloc, List.nil_append, List.cons_append] at hm0
 obtain ⟨y0, y1⟩ := two_of (hm0.at_ 1 rfl)
 obtain ⟨z0, z1, z2, z3, z4, z5⟩ := six_of (hm0.at_ 0 rfl)
 obtain ⟨f0, f1, f2, f3, f4, f5⟩ := six_free (hm0.at_ 0 rfl)
 have HM0 := Lib.hid hm0
 clear hm0
 go_enter Tryz.func49, Tryz.ntmps49
 go_wp2_with fail
 have hm1 := ((Hp.start w).new 49 [.int .i64 n, .int .i64 1, .int .i64 0, .int .i64 1, .int .i64 0, .int .i64 1]).new 34 [.int .i64 0, .int .i64 1]
 simp only [World.size_alloc, List.nil_append, List.cons_append] at hm1
 obtain ⟨g0, g1, g2, g3, g4, g5⟩ := six_of (hm1.at_ 0 rfl)
 exact bodyPost_ret (v := szv n 1 0 1 0 1) (by simp [results, Tryz.results49, go_sem, g0, g1, g2, g3, g4, g5]) rfl ⟨rfl, hm1.below⟩
set_option maxRecDepth 100000 in
set_option maxHeartbeats 4000000 in
theorem lfar_err (a0 b0 a1 b1 a2 b2 c : Int) (w : World) (hc : c ≠ 0)
  (hC : ∀ W, Calls Tryz.prog 44 #[szv a0 b0 a1 b1 a2 b2] W fun e w' => e = .returned (.int .i64 c) ∧ Below W.heap.size W w') :
  Calls Tryz.prog 19 #[szv a0 b0 a1 b1 a2 b2] w fun e w' => e = .returned (.int .i64 c) ∧ Below w.heap.size w w' := by
 have hz : (c != 0) = true := by simpa using hc
 have HC := Lib.hid hC
 have hm0 := (Hp.start w).new 49 [.int .i64 a0, .int .i64 b0, .int .i64 a1, .int .i64 b1, .int .i64 a2, .int .i64 b2]
 simp only [World.size_alloc, List.nil_append, List.cons_append] at hm0
 have HM0 := Lib.hid hm0
 obtain ⟨y0, y1, y2, y3, y4, y5⟩ := six_of (hm0.at_ 0 rfl)
 clear hm0 hC hc
 go_enter Tryz.func19, Tryz.ntmps19
 go_wp2_with fail
 refine (HC.out _).mono ?_
 rintro e w1 ⟨rfl, hb1⟩
 have HM1 := Lib.hid (HM0.out.step hb1)
 clear hb1 HM0 y0 y1 y2 y3 y4 y5
 go_wp2_with fail
 exact bodyPost_ret (v := .int .i64 c) (by simp [results, Tryz.results19, go_sem]) rfl ⟨rfl, HM1.out.below⟩
set_option maxRecDepth 100000 in
set_option maxHeartbeats 4000000 in
theorem lfar_gen (a0 b0 a1 b1 a2 b2 u v : Int) (w : World) (ht : Tab w)
  (hC : ∀ W, Calls Tryz.prog 44 #[szv a0 b0 a1 b1 a2 b2] W fun e w' => e = .returned (.int .i64 0) ∧ Below W.heap.size W w')
  (hU : ∀ W, Tab W → Calls Tryz.prog 46 #[szv a0 b0 a1 b1 a2 b2, szv (-7) 1 0 1 0 1] W fun e w' => e = .returned (.tuple #[.int .i64 u, .int .i64 0]) ∧ Below W.heap.size W w')
  (hV : ∀ W, Tab W → Calls Tryz.prog 46 #[szv a0 b0 a1 b1 a2 b2, szv 7 1 0 1 0 1] W fun e w' => e = .returned (.tuple #[.int .i64 v, .int .i64 0]) ∧ Below W.heap.size W w') :
  Calls Tryz.prog 19 #[szv a0 b0 a1 b1 a2 b2] w fun e w' => e = .returned (.int .i64 (if u < 0 ∨ 0 < v then 3 else 0)) ∧ Below w.heap.size w w' := by
 obtain ⟨r, hr⟩ : ∃ r : Int, r = if u < 0 ∨ 0 < v then 3 else 0 := ⟨_, rfl⟩
 rw [← hr]
 have HR := Lib.hid hr
 have HC := Lib.hid hC
 have HU := Lib.hid hU
 have HV := Lib.hid hV
 have HT := Lib.hid ht
 have HO1 := Lib.hid (fun (W : World) (_ : Tab W) => loctaves_any (-7) W)
 have HO2 := Lib.hid (fun (W : World) (_ : Tab W) => loctaves_any 7 W)
 have hm0 := (Hp.start w).new 49 [.int .i64 a0, .int .i64 b0, .int .i64 a1, .int .i64 b1, .int .i64 a2, .int .i64 b2]
 simp only [World.size_alloc, List.nil_append, List.cons_append] at hm0
 have HM0 := Lib.hid hm0
 obtain ⟨y0, y1, y2, y3, y4, y5⟩ := six_of (hm0.at_ 0 rfl)
 clear hm0 hC hU hV ht hr
 go_enter Tryz.func19, Tryz.ntmps19
 go_wp2_with fail
 refine (HC.out _).mono ?_
 rintro e w1 ⟨rfl, hb1⟩
 have HM1 := Lib.hid (HM0.out.step hb1)
 clear hb1 HM0 y0 y1 y2 y3 y4 y5
 go_upto_region 4 with fail
 refine wp_regionJ 8 #[false, false, false, false, false, false, false, false] (fun l a W => ∃ (m0 m1 m2 m3 m4 m5 m6 m7 : Bool), l = #[m0, m1, m2, m3, m4, m5, m6, m7] ∧ a = ({ tmps := #[.agg #[.int .i64 a0, .int .i64 b0, .int .i64 a1, .int .i64 b1, .int .i64 a2, .int .i64 b2], .pointer (some ⟨w.heap.size, 0, none⟩), .int .i64 0, .int .i64 0, cwX m6 (.int .i64 u) (undef), cwX m7 (.int .i64 0) (undef), undef, undef, .agg #[.int .i64 a0, .int .i64 b0, .int .i64 a1, .int .i64 b1, .int .i64 a2, .int .i64 b2], .int .i64 0, .int .i64 0, .bool false, undef, cwX m3 (.tuple #[.int .i64 u, .int .i64 0]) (undef), cwX m0 (.agg #[.int .i64 a0, .int .i64 b0, .int .i64 a1, .int .i64 b1, .int .i64 a2, .int .i64 b2]) (undef), cwX m1 (.agg #[.int .i64 (-7), .int .i64 1, .int .i64 0, .int .i64 1, .int .i64 0, .int .i64 1]) (undef), cwX m2 (.tuple #[.int .i64 u, .int .i64 0]) (undef), cwX m4 (.int .i64 u) (undef), cwX m5 (.int .i64 0) (undef), undef, undef, undef, undef, undef, undef, undef, undef, undef, undef, undef, undef], defers := [] } : Act) ∧ (True) ∧ Hp w [(w.heap.size, 49, [.int .i64 a0, .int .i64 b0, .int .i64 a1, .int .i64 b1, .int .i64 a2, .int .i64 b2])] W) (by kernel_rfl) (by kernel_rfl) (by kernel_rfl) (by kernel_rfl) ?_ ?_ ?_ ?_
 ·rintro l a W ⟨m0, m1, m2, m3, m4, m5, m6, m7, rfl, _⟩
  rfl
 ·exact ⟨false, false, false, false, false, false, false, false, rfl, rfl, trivial, HM1.out.drew⟩
 ·rintro l a W i o ⟨m0, m1, m2, m3, m4, m5, m6, m7, rfl, rfl, hi0, hm⟩ ho hun hall K hK
  have hi : i < 8 := (Array.getElem?_eq_some_iff.1 ho).1
  have HM := Lib.hid hm
  have HI := Lib.hid hi0
  clear hm hi0
  rcases (show i = 0 ∨ i = 1 ∨ i = 2 ∨ i = 3 ∨ i = 4 ∨ i = 5 ∨ i = 6 ∨ i = 7 by omega) with rfl | rfl | rfl | rfl | rfl | rfl | rfl | rfl
  ·cases ho
   simp at hun; subst hun
   clear hall hi
   obtain ⟨s0, s1, s2, s3, s4, s5⟩ := six_of (HM.out.at_ 0 rfl)
   go_simp
   exact hK.out _ _ ⟨true, m1, m2, m3, m4, m5, m6, m7, rfl, rfl, trivial, HM.out⟩
  ·cases ho
   simp at hun; subst hun
   clear hall hi
   go_simp
   refine (HO1.out _ (HT.out.below HM.out.below)).mono ?_
   rintro e W' ⟨rfl, hb⟩
   exact hK.out _ _ ⟨m0, true, m2, m3, m4, m5, m6, m7, rfl, rfl, trivial, HM.out.step hb⟩
  ·cases ho
   cases (getBX hall 0 rfl : m0 = true)
   cases (getBX hall 1 rfl : m1 = true)
   simp at hun; subst hun
   clear hall hi
   go_simp
   refine (HU.out _ (HT.out.below HM.out.below)).mono ?_
   rintro e W' ⟨rfl, hb⟩
   exact hK.out _ _ ⟨true, true, true, m3, m4, m5, m6, m7, rfl, rfl, trivial, HM.out.step hb⟩
  ·cases ho
   cases (getBX hall 2 rfl : m2 = true)
   simp at hun; subst hun
   clear hall hi
   go_simp
   exact hK.out _ _ ⟨m0, m1, true, true, m4, m5, m6, m7, rfl, rfl, trivial, HM.out⟩
  ·cases ho
   cases (getBX hall 3 rfl : m3 = true)
   simp at hun; subst hun
   clear hall hi
   go_simp
   exact hK.out _ _ ⟨m0, m1, m2, true, true, m5, m6, m7, rfl, rfl, trivial, HM.out⟩
  ·cases ho
   cases (getBX hall 3 rfl : m3 = true)
   simp at hun; subst hun
   clear hall hi
   go_simp
   exact hK.out _ _ ⟨m0, m1, m2, true, m4, true, m6, m7, rfl, rfl, trivial, HM.out⟩
  ·cases ho
   cases (getBX hall 4 rfl : m4 = true)
   simp at hun; subst hun
   clear hall hi
   go_simp
   exact hK.out _ _ ⟨m0, m1, m2, m3, true, m5, true, m7, rfl, rfl, trivial, HM.out⟩
  ·cases ho
   cases (getBX hall 5 rfl : m5 = true)
   simp at hun; subst hun
   clear hall hi
   go_simp
   exact hK.out _ _ ⟨m0, m1, m2, m3, m4, true, m6, true, rfl, rfl, trivial, HM.out⟩
 ·rintro l a W ⟨m0, m1, m2, m3, m4, m5, m6, m7, rfl, rfl, _, hm⟩ hall
  cases (hall 0 (by decide) : m0 = true)
  cases (hall 1 (by decide) : m1 = true)
  cases (hall 2 (by decide) : m2 = true)
  cases (hall 3 (by decide) : m3 = true)
  cases (hall 4 (by decide) : m4 = true)
  cases (hall 5 (by decide) : m5 = true)
  cases (hall 6 (by decide) : m6 = true)
  cases (hall 7 (by decide) : m7 = true)
  clear hall
  have HM2 := Lib.hid hm
  clear hm HM1
  dsimp only [cwX, cond_true]
  go_upto_region 5 with fail
  refine wp_regionJ 8 #[false, false, false, false, false, false, false, false] (fun l a W => ∃ (m0 m1 m2 m3 m4 m5 m6 m7 : Bool), l = #[m0, m1, m2, m3, m4, m5, m6, m7] ∧ a = ({ tmps := #[.agg #[.int .i64 a0, .int .i64 b0, .int .i64 a1, .int .i64 b1, .int .i64 a2, .int .i64 b2], .pointer (some ⟨w.heap.size, 0, none⟩), .int .i64 0, .int .i64 0, .int .i64 u, .int .i64 0, cwX m6 (.int .i64 v) (undef), cwX m7 (.int .i64 0) (undef), .agg #[.int .i64 a0, .int .i64 b0, .int .i64 a1, .int .i64 b1, .int .i64 a2, .int .i64 b2], .int .i64 0, .int .i64 0, .bool false, undef, .tuple #[.int .i64 u, .int .i64 0], .agg #[.int .i64 a0, .int .i64 b0, .int .i64 a1, .int .i64 b1, .int .i64 a2, .int .i64 b2], .agg #[.int .i64 (-7), .int .i64 1, .int .i64 0, .int .i64 1, .int .i64 0, .int .i64 1], .tuple #[.int .i64 u, .int .i64 0], .int .i64 u, .int .i64 0, cwX m3 (.tuple #[.int .i64 v, .int .i64 0]) (undef), cwX m0 (.agg #[.int .i64 a0, .int .i64 b0, .int .i64 a1, .int .i64 b1, .int .i64 a2, .int .i64 b2]) (undef), cwX m1 (.agg #[.int .i64 (7), .int .i64 1, .int .i64 0, .int .i64 1, .int .i64 0, .int .i64 1]) (undef), cwX m2 (.tuple #[.int .i64 v, .int .i64 0]) (undef), cwX m4 (.int .i64 v) (undef), cwX m5 (.int .i64 0) (undef), undef, undef, undef, undef, undef, undef], defers := [] } : Act) ∧ (True) ∧ Hp w [(w.heap.size, 49, [.int .i64 a0, .int .i64 b0, .int .i64 a1, .int .i64 b1, .int .i64 a2, .int .i64 b2])] W) (by kernel_rfl) (by kernel_rfl) (by kernel_rfl) (by kernel_rfl) ?_ ?_ ?_ ?_
  ·rintro l a W ⟨m0, m1, m2, m3, m4, m5, m6, m7, rfl, _⟩
   rfl
  ·exact ⟨false, false, false, false, false, false, false, false, rfl, rfl, trivial, HM2.out.drew⟩
  ·rintro l a W i o ⟨m0, m1, m2, m3, m4, m5, m6, m7, rfl, rfl, hi0, hm⟩ ho hun hall K hK
   have hi : i < 8 := (Array.getElem?_eq_some_iff.1 ho).1
   have HM := Lib.hid hm
   have HI := Lib.hid hi0
   clear hm hi0
   rcases (show i = 0 ∨ i = 1 ∨ i = 2 ∨ i = 3 ∨ i = 4 ∨ i = 5 ∨ i = 6 ∨ i = 7 by omega) with rfl | rfl | rfl | rfl | rfl | rfl | rfl | rfl
   ·cases ho
    simp at hun; subst hun
    clear hall hi
    obtain ⟨s0, s1, s2, s3, s4, s5⟩ := six_of (HM.out.at_ 0 rfl)
    go_simp
    exact hK.out _ _ ⟨true, m1, m2, m3, m4, m5, m6, m7, rfl, rfl, trivial, HM.out⟩
   ·cases ho
    simp at hun; subst hun
    clear hall hi
    go_simp
    refine (HO2.out _ (HT.out.below HM.out.below)).mono ?_
    rintro e W' ⟨rfl, hb⟩
    exact hK.out _ _ ⟨m0, true, m2, m3, m4, m5, m6, m7, rfl, rfl, trivial, HM.out.step hb⟩
   ·cases ho
    cases (getBX hall 0 rfl : m0 = true)
    cases (getBX hall 1 rfl : m1 = true)
    simp at hun; subst hun
    clear hall hi
    go_simp
    refine (HV.out _ (HT.out.below HM.out.below)).mono ?_
    rintro e W' ⟨rfl, hb⟩
    exact hK.out _ _ ⟨true, true, true, m3, m4, m5, m6, m7, rfl, rfl, trivial, HM.out.step hb⟩
   ·cases ho
    cases (getBX hall 2 rfl : m2 = true)
    simp at hun; subst hun
    clear hall hi
    go_simp
    exact hK.out _ _ ⟨m0, m1, true, true, m4, m5, m6, m7, rfl, rfl, trivial, HM.out⟩
   ·cases ho
    cases (getBX hall 3 rfl : m3 = true)
    simp at hun; subst hun
    clear hall hi
    go_simp
    exact hK.out _ _ ⟨m0, m1, m2, true, true, m5, m6, m7, rfl, rfl, trivial, HM.out⟩
   ·cases ho
    cases (getBX hall 3 rfl : m3 = true)
    simp at hun; subst hun
    clear hall hi
    go_simp
    exact hK.out _ _ ⟨m0, m1, m2, true, m4, true, m6, m7, rfl, rfl, trivial, HM.out⟩
   ·cases ho
    cases (getBX hall 4 rfl : m4 = true)
    simp at hun; subst hun
    clear hall hi
    go_simp
    exact hK.out _ _ ⟨m0, m1, m2, m3, true, m5, true, m7, rfl, rfl, trivial, HM.out⟩
   ·cases ho
    cases (getBX hall 5 rfl : m5 = true)
    simp at hun; subst hun
    clear hall hi
    go_simp
    exact hK.out _ _ ⟨m0, m1, m2, m3, m4, true, m6, true, rfl, rfl, trivial, HM.out⟩
  ·rintro l a W ⟨m0, m1, m2, m3, m4, m5, m6, m7, rfl, rfl, _, hm⟩ hall
   cases (hall 0 (by decide) : m0 = true)
   cases (hall 1 (by decide) : m1 = true)
   cases (hall 2 (by decide) : m2 = true)
   cases (hall 3 (by decide) : m3 = true)
   cases (hall 4 (by decide) : m4 = true)
   cases (hall 5 (by decide) : m5 = true)
   cases (hall 6 (by decide) : m6 = true)
   cases (hall 7 (by decide) : m7 = true)
   clear hall
   have HM3 := Lib.hid hm
   clear hm HM2
   dsimp only [cwX, cond_true]
   by_cases h1 : u < 0
   ·obtain rfl : r = 3 := HR.out.trans (if_pos (.inl h1))
    clear HR
    go_wp2_with fail
    exact bodyPost_ret (v := .int .i64 3) (by simp [results, Tryz.results19, go_sem]) rfl ⟨rfl, HM3.out.below⟩
   ·by_cases h2 : 0 < v
    ·obtain rfl : r = 3 := HR.out.trans (if_pos (.inr h2))
     clear HR
     go_wp2_with fail
     exact bodyPost_ret (v := .int .i64 3) (by simp [results, Tryz.results19, go_sem]) rfl ⟨rfl, HM3.out.below⟩
    ·obtain rfl : r = 0 := HR.out.trans (if_neg (by omega))
     clear HR
     go_wp2_with fail
     exact bodyPost_ret (v := .int .i64 0) (by simp [results, Tryz.results19, go_sem]) rfl ⟨rfl, HM3.out.below⟩
end Go.Proofs.YtendjepcjmfmfaaGreatDoor
