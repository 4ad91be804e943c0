/- Part 40 of 42 of the proof of the law: contracts of the functions that it reaches, and plain facts. Conditions: those that each contract names. -/
import Derived.Test.YtendjepcjmfmfaaGreatDoorCmpB39
import Derived.Deep.QuietTactic
import Derived.BigQuiet
namespace Go.Proofs.YtendjepcjmfmfaaGreatDoor
open Go.RowKit
theorem ivs_one {W : World} {g : Nat} {t : TypeId} {a b : Int} (h : Blk W g t [.int .i64 a, .int .i64 b]) : IvsAt W g [(a, b)] :=
 ⟨h.lt, fun i hi => by
  obtain rfl : i = 0 := by simp at hi; exact hi
  exact ⟨h.cell 0, h.cell 1⟩⟩
theorem ivsE_one (x : Int × Int) : ivsE [x] = ivxE x := by
 show (if ivxE x ≠ 0 then ivxE x else 0) = ivxE x
 split
 ·rfl
 ·rename_i h; exact (Classical.not_not.1 h).symm
set_option maxRecDepth 1000000 in
set_option maxHeartbeats 4000000 in
theorem bDirection_any (C : Nat → Tm) (p a b c dv : Int) (w : World) (ht : Tab w) (hC : ∀ i, i < 12 → Tm64 (C i)) (ha : I64 a) (hb : I64 b) (hc : c = if tuE C p ≠ 0 then tuE C p else ivxE (a, b))
  (hD : c = 0 → ∀ W, Tab W → Calls Tryz.prog 58 #[.agg (tuL C p).toArray, .agg #[.int .i64 a, .int .i64 b]] W fun e w' => e = .returned (.tuple #[.int .i64 dv, .int .i64 0]) ∧ Below W.heap.size W w') :
  Calls Tryz.prog 26 #[.agg (tuL C p).toArray, .agg #[.int .i64 a, .int .i64 b]] w fun e w' => e = .returned (.tuple #[.int .i64 (if c = 0 then dv else 0), .int .i64 c]) ∧ Below w.heap.size w w' := by
 have hck : ∀ (W : World) (g : Nat), IvsAt W g [(a, b)] → Calls Tryz.prog 57 #[.agg (tuL C p).toArray, .slice (some ⟨g, 0, none⟩) 1 1] W fun e w' => e = .returned (.int .i64 c) ∧ Below W.heap.size W w' := fun W g h => by
  have := bcheck_any C p g 1 [(a, b)] W hC h (by simp) (fun x hx => by
   rw [List.mem_singleton] at hx; subst hx; exact ⟨ha, hb⟩)
  rw [ivsE_one, ← hc] at this
  exact this
 have HCK := Lib.hid hck
 have HD := Lib.hid hD
 have HT := Lib.hid ht
 have hm0 := ((Hp.start w).new 41 (tuL C p)).new 67 [.int .i64 a, .int .i64 b]
 simp only [World.size_alloc, List.nil_append, List.cons_append] at hm0
 obtain ⟨y0, y1⟩ := two_of (hm0.at_ 1 rfl)
 have hm1 := hm0.new 67 [.int .i64 a, .int .i64 b]
 simp only [World.size_alloc, List.nil_append, List.cons_append] at hm1
 have HM0 := Lib.hid hm0
 have HM1 := Lib.hid hm1
 clear hm0 hm1 hck hC ha hb hc hD ht
 go_enter Tryz.func26, Tryz.ntmps26
 go_wp2_with (refine wpList_load_row rfl 41 _ rfl w.heap.size rfl 41 (tuL C p).toArray (0, 0) _ (HM0.out.at_ 0 rfl) Tryz.underlying41 rfl (by rw [infoTun, List.size_toArray, tuL_len]) ?_)
 refine (HCK.out _ _ (ivs_one (HM1.out.at_ 2 rfl))).mono ?_
 rintro e w1 ⟨rfl, hb1⟩
 have HM2 := Lib.hid (HM1.out.step hb1)
 clear hb1 HM0 HM1 y0 y1
 by_cases h0 : c = 0
 ·have HDC := Lib.hid (HD.out h0)
  subst h0
  obtain ⟨y0, y1⟩ := two_of (HM2.out.at_ 1 rfl)
  go_wp2_with (refine wpList_load_row rfl 41 _ rfl w.heap.size rfl 41 (tuL C p).toArray (0, 0) _ (HM2.out.at_ 0 rfl) Tryz.underlying41 rfl (by rw [infoTun, List.size_toArray, tuL_len]) ?_)
  refine (HDC.out _ (HT.out.below HM2.out.below)).mono ?_
  rintro e w2 ⟨rfl, hb2⟩
  have HZ := Lib.hid (HM2.out.step hb2)
  clear hb2 HM2 y0 y1
  go_wp2_with fail
  exact bodyPost_ret (v := .tuple #[.int .i64 dv, .int .i64 0]) (by simp [results, Tryz.results26, go_sem]) rfl ⟨rfl, HZ.out.below⟩
 ·have hz : (c != 0) = true := by simpa using h0
  have H0 := Lib.hid h0
  clear h0
  go_wp2_with fail
  exact bodyPost_ret (v := .tuple #[.int .i64 0, .int .i64 c]) (by simp [results, Tryz.results26, go_sem]) rfl ⟨rfl, HM2.out.below⟩
set_option maxRecDepth 1000000 in
set_option maxHeartbeats 4000000 in
theorem bBeats_any (C : Nat → Tm) (p a b c v0 v1 v2 : Int) (w : World) (ht : Tab w) (hC : ∀ i, i < 12 → Tm64 (C i)) (ha : I64 a) (hb : I64 b) (hc : c = if tuE C p ≠ 0 then tuE C p else ivxE (a, b))
  (hS : c = 0 → ∀ (W : World) (g : Nat), Tab W → IvsAt W g [(a, b)] → Calls Tryz.prog 59 #[.agg (tuL C p).toArray, .slice (some ⟨g, 0, none⟩) 1 1] W fun e w' => e = .returned (.int .i64 0) ∧ Below W.heap.size W w')
  (hB : c = 0 → ∀ W, Tab W → Calls Tryz.prog 60 #[.agg (tuL C p).toArray, .agg #[.int .i64 a, .int .i64 b]] W fun e w' => e = .returned (.tuple #[.agg #[.int .i64 v0, .int .i64 v1], .int .i64 v2]) ∧ Below W.heap.size W w') :
  Calls Tryz.prog 27 #[.agg (tuL C p).toArray, .agg #[.int .i64 a, .int .i64 b]] w fun e w' => e = .returned (if c = 0 then .tuple #[.agg #[.int .i64 v0, .int .i64 v1], .int .i64 v2] else .tuple #[.agg #[.int .i64 0, .int .i64 0], .int .i64 c]) ∧ Below w.heap.size w w' := by
 have hck : ∀ (W : World) (g : Nat), IvsAt W g [(a, b)] → Calls Tryz.prog 57 #[.agg (tuL C p).toArray, .slice (some ⟨g, 0, none⟩) 1 1] W fun e w' => e = .returned (.int .i64 c) ∧ Below W.heap.size W w' := fun W g h => by
  have := bcheck_any C p g 1 [(a, b)] W hC h (by simp) (fun x hx => by
   rw [List.mem_singleton] at hx; subst hx; exact ⟨ha, hb⟩)
  rw [ivsE_one, ← hc] at this
  exact this
 have HCK := Lib.hid hck
 have HS := Lib.hid hS
 have HBB := Lib.hid hB
 have HT := Lib.hid ht
 have hm0 := (((Hp.start w).new 41 (tuL C p)).new 67 [.int .i64 a, .int .i64 b]).new 53 [.int .i64 0, .int .i64 0]
 simp only [World.size_alloc, List.nil_append, List.cons_append] at hm0
 obtain ⟨y0, y1⟩ := two_of (hm0.at_ 1 rfl)
 have hm1 := hm0.new 67 [.int .i64 a, .int .i64 b]
 simp only [World.size_alloc, List.nil_append, List.cons_append] at hm1
 have HM0 := Lib.hid hm0
 have HM1 := Lib.hid hm1
 clear hm0 hm1 hck hC ha hb hc hS hB ht
 go_enter Tryz.func27, Tryz.ntmps27
 go_wp2_with (refine wpList_load_row rfl 41 _ rfl w.heap.size rfl 41 (tuL C p).toArray (0, 0) _ (HM0.out.at_ 0 rfl) Tryz.underlying41 rfl (by rw [infoTun, List.size_toArray, tuL_len]) ?_)
 refine (HCK.out _ _ (ivs_one (HM1.out.at_ 3 rfl))).mono ?_
 rintro e w1 ⟨rfl, hb1⟩
 have HM2 := Lib.hid (HM1.out.step hb1)
 clear hb1 HM0 HM1 y0 y1
 by_cases h0 : c = 0
 ·have HSC := Lib.hid (HS.out h0)
  have HBC := Lib.hid (HBB.out h0)
  subst h0
  obtain ⟨y0, y1⟩ := two_of (HM2.out.at_ 1 rfl)
  have HM3 := Lib.hid (HM2.out.new 67 [.int .i64 a, .int .i64 b])
  go_wp2_with (refine wpList_load_row rfl 41 _ rfl w.heap.size rfl 41 (tuL C p).toArray (0, 0) _ (HM2.out.at_ 0 rfl) Tryz.underlying41 rfl (by rw [infoTun, List.size_toArray, tuL_len]) ?_)
  refine (HSC.out _ _ (HT.out.below HM3.out.below) (ivs_one (HM3.out.at_ 4 rfl))).mono ?_
  rintro e w2 ⟨rfl, hb2⟩
  have HM4 := Lib.hid (HM3.out.step hb2)
  clear hb2 HM2 HM3 y0 y1
  obtain ⟨y0, y1⟩ := two_of (HM4.out.at_ 1 rfl)
  go_wp2_with (refine wpList_load_row rfl 41 _ rfl w.heap.size rfl 41 (tuL C p).toArray (0, 0) _ (HM4.out.at_ 0 rfl) Tryz.underlying41 rfl (by rw [infoTun, List.size_toArray, tuL_len]) ?_)
  refine (HBC.out _ (HT.out.below HM4.out.below)).mono ?_
  rintro e w3 ⟨rfl, hb3⟩
  have HM5 := Lib.hid (HM4.out.step hb3)
  clear hb3 HM4 y0 y1
  obtain ⟨y0, y1⟩ := two_of (HM5.out.at_ 2 rfl)
  have f0 := (HM5.out.at_ 2 rfl).frozen 0
  have f1 := (HM5.out.at_ 2 rfl).frozen 1
  have HZ := Lib.hid (HM5.out.put2 2 rfl (.int .i64 v0) (.int .i64 v1))
  clear HM5
  go_wp2_with fail
  exact bodyPost_ret (v := .tuple #[.agg #[.int .i64 v0, .int .i64 v1], .int .i64 v2]) (by simp [results, Tryz.results27, go_sem, y0, y1, f0, f1]) rfl ⟨rfl, HZ.out.below⟩
 ·have hz : (c != 0) = true := by simpa using h0
  clear h0
  obtain ⟨y0, y1⟩ := two_of (HM2.out.at_ 2 rfl)
  have f0 := (HM2.out.at_ 2 rfl).frozen 0
  have f1 := (HM2.out.at_ 2 rfl).frozen 1
  have HZ := Lib.hid (HM2.out.put2 2 rfl (.int .i64 0) (.int .i64 0))
  clear HM2
  go_wp2_with fail
  ·exact absurd ‹c = 0› (by simpa using hz)
  ·exact bodyPost_ret (v := .tuple #[.agg #[.int .i64 0, .int .i64 0], .int .i64 c]) (by simp [results, Tryz.results27, go_sem, y0, y1, f0, f1]) rfl ⟨rfl, HZ.out.below⟩
abbrev eqC : Nat → Tm := cirP (nmD 0) (nmP 0) (nmQ 0)
theorem eq_tuE (p : Int) (hp : 1 ≤ p ∧ p ≤ 1000) (k : Nat) : tuE (cirP (nmD k) (nmP k) (nmQ k)) p = 0 := by
 unfold tuE
 rw [ckE_pl (nm_pln k), if_neg (by simp), if_neg (by omega)]
theorem kn_freq (w : World) (ht : Tab w) : Calls Tryz.prog 23 #[.agg (tuL eqC 440).toArray, .int .i64 76] w fun e w' => e = .returned (.tuple #[.agg #[.int .i64 659255080, .int .i64 659255520], .int .i64 0]) ∧ Below w.heap.size w w' := by
 refine bFrequency_ok eqC 440 76 659255080 659255520 0 w ht (plan_tm (nm_pln 0)) (eq_tuE 440 (by decide) 0) (by decide) (fun W hT => ?_)
 have := bfreq_pl (nm_pln 0) 440 (by decide) (n := 76) (by decide) W hT
 rw [eq_76] at this
 exact this
theorem kn_dir (w : World) (ht : Tab w) : Calls Tryz.prog 26 #[.agg (tuL eqC 440).toArray, .agg #[.int .i64 69, .int .i64 7]] w fun e w' => e = .returned (.tuple #[.int .i64 (-1), .int .i64 0]) ∧ Below w.heap.size w w' := by
 have := bDirection_any eqC 440 69 7 0 (-1) w ht (plan_tm (nm_pln 0)) (by unfold I64; omega) (by unfold I64; omega) (by rw [eq_tuE 440 (by decide) 0]; decide) (fun _ W hT => by
  have := bdir_pl (nm_pln 0) 440 7 (by decide) (l := 69) (n := 76) (by decide) (by decide) W hT
  rw [eq_dir] at this
  exact this)
 exact this
theorem kn_bts (w : World) (ht : Tab w) : Calls Tryz.prog 27 #[.agg (tuL eqC 440).toArray, .agg #[.int .i64 69, .int .i64 7]] w fun e w' => e = .returned (.tuple #[.agg #[.int .i64 1488960, .int .i64 1489840], .int .i64 0]) ∧ Below w.heap.size w w' := by
 have := bBeats_any eqC 440 69 7 0 1488960 1489840 0 w ht (plan_tm (nm_pln 0)) (by unfold I64; omega) (by unfold I64; omega) (by rw [eq_tuE 440 (by decide) 0]; decide)
  (fun _ W g hT hg => bsizes_pl (nm_pln 0) 440 g 1 [(69, 7)] W hT hg (by decide) (fun x hx => by rw [List.mem_singleton] at hx; subst hx; decide))
  (fun _ W hT => by
   have := bbeats_pl (nm_pln 0) 440 7 (by decide) (by decide) (l := 69) (n := 76) (by decide) (by decide) W hT
   rw [eq_bts] at this
   exact this)
 exact this
set_option maxRecDepth 1000000 in
set_option maxHeartbeats 4000000 in
theorem bknown_any (w : World) (ht : Tab w) : Calls Tryz.prog 11 #[] w fun e w' => e = .returned (.bool true) ∧ Below w.heap.size w w' := by
 obtain ⟨C, hC⟩ : ∃ C, C = eqC := ⟨_, rfl⟩
 have hnm := fun W => tNamed_at 0 (by decide) W
 have hfr := fun W hT => kn_freq W hT
 have hdr := fun W hT => kn_dir W hT
 have hbt := fun W hT => kn_bts W hT
 rw [← hC] at hfr hdr hbt
 simp only [← hC] at hnm
 have HNM := Lib.hid hnm
 have HFR := Lib.hid hfr
 have HDR := Lib.hid hdr
 have HBT := Lib.hid hbt
 have HT := Lib.hid ht
 clear ht hnm hfr hdr hbt hC
 go_enter Tryz.func11, Tryz.ntmps11
 go_wp2_with fail
 refine (HNM.out _).mono ?_
 rintro e w1 ⟨rfl, hb1⟩
 have hm1 := ((Hp.start w).step hb1).new 38 (cirL (fun _ => (0, 0, 0, 0)))
 simp only [List.nil_append, List.cons_append] at hm1
 have HM1 := Lib.hid hm1
 have hm2 := (hm1.row 0 rfl (cirL C)).cast (L' := [(w1.heap.size, 38, cirL C)]) rfl
 have HM2 := Lib.hid hm2
 have hm3 := HM2.out.new 41 (tuL (fun _ => (0, 0, 0, 0)) 0)
 have HM3 := Lib.hid (hm3.cast (L' := [(w1.heap.size, 38, cirL C), (w1.heap.size + 1, 41, tuL (fun _ => (0, 0, 0, 0)) 0)]) (by simp))
 have HM4 := Lib.hid ((HM3.out.row 1 rfl (tuL C 440)).cast (L' := [(w1.heap.size, 38, cirL C), (w1.heap.size + 1, 41, tuL C 440)]) rfl)
 clear hb1 hm1 hm2 hm3
 go_wp2_with (first | (refine wpList_bldTun rfl _ _ rfl C 440 rfl rfl ?_) | (refine wpList_store_rowTo rfl 38 _ _ rfl rfl (w1.heap.size) (cirL C).toArray rfl rfl 38 (cirL (fun _ => (0, 0, 0, 0))).toArray (HM1.out.at_ 0 rfl) (by rw [infoCircle, List.size_toArray, cirL_len]) (by rw [List.size_toArray, List.size_toArray, cirL_len, cirL_len]) (cir_one _) ?_) | (refine wpList_load_row rfl 38 _ rfl (w1.heap.size) rfl 38 (cirL C).toArray (0, 0) _ (HM2.out.at_ 0 rfl) Tryz.underlying38 rfl (by rw [infoCircle, List.size_toArray, cirL_len]) ?_) | (refine wpList_store_rowTo rfl 41 _ _ rfl rfl (w1.heap.size + 1) (tuL C 440).toArray rfl rfl 41 (tuL (fun _ => (0, 0, 0, 0)) 0).toArray (HM3.out.at_ 1 rfl) (by rw [infoTun, List.size_toArray, tuL_len]) (by rw [List.size_toArray, List.size_toArray, tuL_len, tuL_len]) (tu_one C 440) ?_) | (refine wpList_load_row rfl 41 _ rfl (w1.heap.size + 1) rfl 41 (tuL C 440).toArray (0, 0) _ (HM4.out.at_ 1 rfl) Tryz.underlying41 rfl (by rw [infoTun, List.size_toArray, tuL_len]) ?_))
 refine (HFR.out _ (HT.out.below HM4.out.below)).mono ?_
 rintro e w2 ⟨rfl, hb2⟩
 have hm5 := (HM4.out.step hb2).new 53 [.int .i64 659255080, .int .i64 659255520]
 simp only [List.nil_append, List.cons_append] at hm5
 have HM5 := Lib.hid hm5
 clear hb2 HM1 HM2 HM3 HM4 hm5
 go_wp2_with (first | (refine wpList_load_row rfl 41 _ rfl (w1.heap.size + 1) rfl 41 (tuL C 440).toArray (0, 0) _ (HM5.out.at_ 1 rfl) Tryz.underlying41 rfl (by rw [infoTun, List.size_toArray, tuL_len]) ?_))
 refine (HBT.out _ (HT.out.below HM5.out.below)).mono ?_
 rintro e w3 ⟨rfl, hb3⟩
 have hm6 := (HM5.out.step hb3).new 53 [.int .i64 1488960, .int .i64 1489840]
 simp only [List.nil_append, List.cons_append] at hm6
 have HM6 := Lib.hid hm6
 clear hb3 HM5 hm6
 go_wp2_with (first | (refine wpList_load_row rfl 41 _ rfl (w1.heap.size + 1) rfl 41 (tuL C 440).toArray (0, 0) _ (HM6.out.at_ 1 rfl) Tryz.underlying41 rfl (by rw [infoTun, List.size_toArray, tuL_len]) ?_))
 refine (HDR.out _ (HT.out.below HM6.out.below)).mono ?_
 rintro e w4 ⟨rfl, hb4⟩
 have hm7 := HM6.out.step hb4
 have HM7 := Lib.hid hm7
 obtain ⟨y0, y1⟩ := two_of (hm7.at_ 2 rfl)
 obtain ⟨y2, y3⟩ := two_of (hm7.at_ 3 rfl)
 clear hb4 HM6 hm7
 go_wp2_with fail
 exact bodyPost_ret (v := .bool true) (by simp [results, Tryz.results11, go_sem]) rfl ⟨rfl, HM7.out.below⟩
theorem ivs_two {W : World} {g : Nat} {t : TypeId} {a b a' b' : Int} (h : Blk W g t [.int .i64 a, .int .i64 b, .int .i64 a', .int .i64 b']) : IvsAt W g [(a, b), (a', b')] :=
 ⟨h.lt, fun i hi => by
  rcases (show i = 0 ∨ i = 1 by simp at hi; omega) with rfl | rfl
  ·exact ⟨h.cell 0, h.cell 1⟩
  ·exact ⟨h.cell 2, h.cell 3⟩⟩
def cmT (c e1 e2 u0 u1 v0 v1 : Int) : Int × Int := if c ≠ 0 then (0, c) else if e1 ≠ 0 then (0, e1) else if e2 ≠ 0 then (0, e2) else if v1 < u0 then (1, 0) else if u1 < v0 then (-1, 0) else (0, 0)
set_option maxRecDepth 1000000 in
set_option maxHeartbeats 4000000 in
theorem bCompare_any (C : Nat → Tm) (p a b a' b' c u0 u1 e1 v0 v1 e2 : Int) (w : World) (ht : Tab w) (hC : ∀ i, i < 12 → Tm64 (C i)) (ha : I64 a) (hb : I64 b) (ha' : I64 a') (hb' : I64 b') (hc : c = if tuE C p ≠ 0 then tuE C p else ivsE [(a, b), (a', b')])
  (hS : c = 0 → ∀ (W : World) (g : Nat), Tab W → IvsAt W g [(a, b), (a', b')] → Calls Tryz.prog 59 #[.agg (tuL C p).toArray, .slice (some ⟨g, 0, none⟩) 2 2] W fun e w' => e = .returned (.int .i64 0) ∧ Below W.heap.size W w')
  (hB : c = 0 → ∀ W, Tab W → Calls Tryz.prog 60 #[.agg (tuL C p).toArray, .agg #[.int .i64 a, .int .i64 b]] W fun e w' => e = .returned (.tuple #[.agg #[.int .i64 u0, .int .i64 u1], .int .i64 e1]) ∧ Below W.heap.size W w')
  (hG : c = 0 → ∀ W, Tab W → Calls Tryz.prog 60 #[.agg (tuL C p).toArray, .agg #[.int .i64 a', .int .i64 b']] W fun e w' => e = .returned (.tuple #[.agg #[.int .i64 v0, .int .i64 v1], .int .i64 e2]) ∧ Below W.heap.size W w') :
  Calls Tryz.prog 30 #[.agg (tuL C p).toArray, .agg #[.int .i64 a, .int .i64 b], .agg #[.int .i64 a', .int .i64 b']] w fun e w' => e = .returned (.tuple #[.int .i64 (cmT c e1 e2 u0 u1 v0 v1).1, .int .i64 (cmT c e1 e2 u0 u1 v0 v1).2]) ∧ Below w.heap.size w w' := by
 have hck : ∀ (W : World) (g : Nat), IvsAt W g [(a, b), (a', b')] → Calls Tryz.prog 57 #[.agg (tuL C p).toArray, .slice (some ⟨g, 0, none⟩) 2 2] W fun e w' => e = .returned (.int .i64 c) ∧ Below W.heap.size W w' := fun W g h => by
  have := bcheck_any C p g 2 [(a, b), (a', b')] W hC h (by simp) (fun x hx => by
   simp only [List.mem_cons, List.not_mem_nil, or_false] at hx
   rcases hx with rfl | rfl
   ·exact ⟨ha, hb⟩
   ·exact ⟨ha', hb'⟩)
  rw [← hc] at this
  exact this
 obtain ⟨T, hT⟩ : ∃ T, T = cmT c e1 e2 u0 u1 v0 v1 := ⟨_, rfl⟩
 rw [← hT]
 have HV := Lib.hid hT
 have HCK := Lib.hid hck
 have HS := Lib.hid hS
 have HB1 := Lib.hid hB
 have HB2 := Lib.hid hG
 have HT := Lib.hid ht
 have hm0 := (((Hp.start w).new 41 (tuL C p)).new 67 [.int .i64 a, .int .i64 b]).new 67 [.int .i64 a', .int .i64 b']
 simp only [World.size_alloc, List.nil_append, List.cons_append] at hm0
 obtain ⟨y0, y1⟩ := two_of (hm0.at_ 1 rfl)
 obtain ⟨y2, y3⟩ := two_of (hm0.at_ 2 rfl)
 have hm1 := hm0.new 67 [.int .i64 a, .int .i64 b, .int .i64 a', .int .i64 b']
 simp only [World.size_alloc, List.nil_append, List.cons_append] at hm1
 have HM0 := Lib.hid hm0
 have HM1 := Lib.hid hm1
 clear hm0 hm1 hck hC ha hb ha' hb' hc hS hB hG ht hT
 go_enter Tryz.func30, Tryz.ntmps30
 go_wp2_with (refine wpList_load_row rfl 41 _ rfl w.heap.size rfl 41 (tuL C p).toArray (0, 0) _ (HM0.out.at_ 0 rfl) Tryz.underlying41 rfl (by rw [infoTun, List.size_toArray, tuL_len]) ?_)
 refine (HCK.out _ _ (ivs_two (HM1.out.at_ 3 rfl))).mono ?_
 rintro e w1 ⟨rfl, hb1⟩
 have HM2 := Lib.hid (HM1.out.step hb1)
 clear hb1 HM0 HM1 y0 y1 y2 y3
 by_cases h0 : c = 0
 ·have HSC := Lib.hid (HS.out h0)
  have HC1 := Lib.hid (HB1.out h0)
  have HC2 := Lib.hid (HB2.out h0)
  subst h0
  obtain ⟨y0, y1⟩ := two_of (HM2.out.at_ 1 rfl)
  obtain ⟨y2, y3⟩ := two_of (HM2.out.at_ 2 rfl)
  have HM3 := Lib.hid (HM2.out.new 67 [.int .i64 a, .int .i64 b, .int .i64 a', .int .i64 b'])
  go_wp2_with (refine wpList_load_row rfl 41 _ rfl w.heap.size rfl 41 (tuL C p).toArray (0, 0) _ (HM2.out.at_ 0 rfl) Tryz.underlying41 rfl (by rw [infoTun, List.size_toArray, tuL_len]) ?_)
  refine (HSC.out _ _ (HT.out.below HM3.out.below) (ivs_two (HM3.out.at_ 4 rfl))).mono ?_
  rintro e w2 ⟨rfl, hb2⟩
  have HM4 := Lib.hid (HM3.out.step hb2)
  clear hb2 HM2 HM3 y0 y1 y2 y3
  obtain ⟨y0, y1⟩ := two_of (HM4.out.at_ 1 rfl)
  go_wp2_with (refine wpList_load_row rfl 41 _ rfl w.heap.size rfl 41 (tuL C p).toArray (0, 0) _ (HM4.out.at_ 0 rfl) Tryz.underlying41 rfl (by rw [infoTun, List.size_toArray, tuL_len]) ?_)
  refine (HC1.out _ (HT.out.below HM4.out.below)).mono ?_
  rintro e w3 ⟨rfl, hb3⟩
  have hm5 := (HM4.out.step hb3).new 53 [.int .i64 u0, .int .i64 u1]
  simp only [List.nil_append, List.cons_append] at hm5
  have HM5 := Lib.hid hm5
  clear hb3 HM4 y0 y1 hm5
  by_cases h1 : e1 = 0
  ·subst h1
   obtain ⟨y0, y1⟩ := two_of (HM5.out.at_ 2 rfl)
   go_wp2_with (refine wpList_load_row rfl 41 _ rfl w.heap.size rfl 41 (tuL C p).toArray (0, 0) _ (HM5.out.at_ 0 rfl) Tryz.underlying41 rfl (by rw [infoTun, List.size_toArray, tuL_len]) ?_)
   refine (HC2.out _ (HT.out.below HM5.out.below)).mono ?_
   rintro e w4 ⟨rfl, hb4⟩
   have hm6 := (HM5.out.step hb4).new 53 [.int .i64 v0, .int .i64 v1]
   simp only [List.nil_append, List.cons_append] at hm6
   have HM6 := Lib.hid hm6
   obtain ⟨q0, q1⟩ := two_of (hm6.at_ 5 rfl)
   obtain ⟨q2, q3⟩ := two_of (hm6.at_ 6 rfl)
   clear hb4 HM5 y0 y1 hm6
   by_cases h2 : e2 = 0
   ·subst h2
    by_cases h3 : v1 < u0
    ·have HE := Lib.hid (HV.out.trans (show _ = ((1 : Int), (0 : Int)) by unfold cmT; rw [if_neg (by simp), if_neg (by simp), if_neg (by simp), if_pos h3]))
     go_wp2_with fail
     exact bodyPost_ret (v := .tuple #[.int .i64 1, .int .i64 0]) (by simp [results, Tryz.results30, go_sem]) rfl ⟨by rw [HE.out], HM6.out.below⟩
    ·by_cases h4 : u1 < v0
     ·have HE := Lib.hid (HV.out.trans (show _ = ((-1 : Int), (0 : Int)) by unfold cmT; rw [if_neg (by simp), if_neg (by simp), if_neg (by simp), if_neg h3, if_pos h4]))
      go_wp2_with fail
      exact bodyPost_ret (v := .tuple #[.int .i64 (-1), .int .i64 0]) (by simp [results, Tryz.results30, go_sem]) rfl ⟨by rw [HE.out], HM6.out.below⟩
     ·have HE := Lib.hid (HV.out.trans (show _ = ((0 : Int), (0 : Int)) by unfold cmT; rw [if_neg (by simp), if_neg (by simp), if_neg (by simp), if_neg h3, if_neg h4]))
      go_wp2_with fail
      exact bodyPost_ret (v := .tuple #[.int .i64 0, .int .i64 0]) (by simp [results, Tryz.results30, go_sem]) rfl ⟨by rw [HE.out], HM6.out.below⟩
   ·have hz : (e2 != 0) = true := by simpa using h2
    have HE := Lib.hid (HV.out.trans (show _ = ((0 : Int), e2) by unfold cmT; rw [if_neg (by simp), if_neg (by simp), if_pos h2]))
    clear h2
    go_wp2_with fail
    exact bodyPost_ret (v := .tuple #[.int .i64 0, .int .i64 e2]) (by simp [results, Tryz.results30, go_sem]) rfl ⟨by rw [HE.out], HM6.out.below⟩
  ·have hz : (e1 != 0) = true := by simpa using h1
   have HE := Lib.hid (HV.out.trans (show _ = ((0 : Int), e1) by unfold cmT; rw [if_neg (by simp), if_pos h1]))
   clear h1
   go_wp2_with fail
   exact bodyPost_ret (v := .tuple #[.int .i64 0, .int .i64 e1]) (by simp [results, Tryz.results30, go_sem]) rfl ⟨by rw [HE.out], HM5.out.below⟩
 ·have hz : (c != 0) = true := by simpa using h0
  have HE := Lib.hid (HV.out.trans (if_pos h0))
  clear h0
  go_wp2_with fail
  exact bodyPost_ret (v := .tuple #[.int .i64 0, .int .i64 c]) (by simp [results, Tryz.results30, go_sem]) rfl ⟨by rw [HE.out], HM2.out.below⟩
abbrev lpV : List Value := [.int .i64 3, .int .i64 6, .int .i64 5, .int .i64 4, .int .i64 5, .int .i64 4, .int .i64 5, .int .i64 4, .int .i64 3, .int .i64 7, .int .i64 3, .int .i64 2, .int .i64 8, .int .i64 8, .int .i64 5, .int .i64 9, .int .i64 5, .int .i64 3, .int .i64 12, .int .i64 2, .int .i64 1]
def LpRel (w : World) (g : Nat) (n : Int) (i : Value) (W : World) : Prop :=
 ∃ k : Nat, k ≤ 7 ∧ i = .int .i64 (k : Int) ∧ (0 < k → n ≠ 3) ∧ (1 < k → n ≠ 4) ∧ (2 < k → n ≠ 5) ∧ (3 < k → n ≠ 7) ∧ (4 < k → n ≠ 8) ∧ (5 < k → n ≠ 9) ∧ (6 < k → n ≠ 12) ∧ Hp w [(g, 57, lpV)] W
theorem cells3 {W : World} {g : Nat} {t : TypeId} {L : List Value} (h : Blk W g t L) (i : Nat) {a b c : Value} (h0 : L[i]? = some a) (h1 : L[i + 1]? = some b) (h2 : L[i + 2]? = some c) : W.cell? ⟨g, i, none⟩ = some a ∧ W.cell? ⟨g, i + 1, none⟩ = some b ∧ W.cell? ⟨g, i + 2, none⟩ = some c :=
 ⟨(h.cell i).trans h0, (h.cell (i + 1)).trans h1, (h.cell (i + 2)).trans h2⟩
set_option maxRecDepth 100000 in
set_option maxHeartbeats 4000000 in
theorem lpart42 (n : Int) (w : World) : Calls Tryz.prog 13 #[.int .i64 n] w fun e w' => e = .returned (.tuple #[.int .i64 (ptP n).1, .int .i64 (ptP n).2, .bool (decide (ptB n))]) ∧ Below w.heap.size w w' := by
 have hm0 := (Hp.start w).new 57 lpV
 simp only [List.nil_append] at hm0
 have HM0 := Lib.hid hm0
 clear hm0
 go_enter Tryz.func13, Tryz.ntmps13
 go_wp2_with fail
 go_loopw [16] (fun i wr => LpRel w w.heap.size n i wr) (fun i _ => 7 - (intOf i).toNat)
 case atStart => exact ⟨0, by omega, rfl, fun h => absurd h (by omega), fun h => absurd h (by omega), fun h => absurd h (by omega), fun h => absurd h (by omega), fun h => absurd h (by omega), fun h => absurd h (by omega), fun h => absurd h (by omega), HM0.out⟩
 case round =>
  obtain ⟨k, hk, rfl, h0, h1, h2, h3, h4, h5, h6, hm⟩ := hrel
  have HM := Lib.hid hm
  clear hm HM0
  rcases (show k = 0 ∨ k = 1 ∨ k = 2 ∨ k = 3 ∨ k = 4 ∨ k = 5 ∨ k = 6 ∨ k = 7 by omega) with rfl | rfl | rfl | rfl | rfl | rfl | rfl | rfl
  ·obtain ⟨c0, c1, c2⟩ := cells3 (HM.out.at_ 0 rfl) 0 rfl rfl rfl
   have HM2 := Lib.hid (HM.out.new 57 [.int .i64 3, .int .i64 6, .int .i64 5])
   obtain ⟨y0, y1, y2⟩ := cells3 (HM2.out.at_ 1 rfl) 0 rfl rfl rfl
   by_cases hn : n = 3
   ·subst hn
    clear HM
    go_wp2_with fail
    go_quiet (fail)
    go_wp2_with fail
    exact bodyPost_ret (v := .tuple #[.int .i64 6, .int .i64 5, .bool true]) (by simp [results, Tryz.results13, go_sem]) rfl ⟨rfl, (HM2.out.drewN _).below⟩
   ·have hb : ((3 : Int) == n) = false := by rw [beq_eq_false_iff_ne]; omega
    have HN := Lib.hid hn
    have HH := Lib.hid (And.intro (h0) (And.intro h1 (And.intro h2 (And.intro h3 (And.intro h4 (And.intro h5 h6))))))
    have HM3 := Lib.hid (show Hp w [(w.heap.size, 57, lpV)] _ from HM2.out.sub (by simp))
    clear hn h0 h1 h2 h3 h4 h5 h6 HM HM2 y1 y2
    go_wp2_with fail
    go_roundw
    case rel =>
     obtain ⟨h0, h1, h2, h3, h4, h5, h6⟩ := HH.out
     have hn := HN.out
     exact ⟨1, by omega, rfl, fun _ => hn, fun h => absurd h (by omega), fun h => absurd h (by omega), fun h => absurd h (by omega), fun h => absurd h (by omega), fun h => absurd h (by omega), fun h => absurd h (by omega), HM3.out⟩
    case measure => simp [intOf]
  ·obtain ⟨c0, c1, c2⟩ := cells3 (HM.out.at_ 0 rfl) 3 rfl rfl rfl
   have HM2 := Lib.hid (HM.out.new 57 [.int .i64 4, .int .i64 5, .int .i64 4])
   obtain ⟨y0, y1, y2⟩ := cells3 (HM2.out.at_ 1 rfl) 0 rfl rfl rfl
   by_cases hn : n = 4
   ·subst hn
    clear HM
    go_wp2_with fail
    go_quiet (fail)
    go_wp2_with fail
    exact bodyPost_ret (v := .tuple #[.int .i64 5, .int .i64 4, .bool true]) (by simp [results, Tryz.results13, go_sem]) rfl ⟨rfl, (HM2.out.drewN _).below⟩
   ·have hb : ((4 : Int) == n) = false := by rw [beq_eq_false_iff_ne]; omega
    have HN := Lib.hid hn
    have HH := Lib.hid (And.intro (h0) (And.intro h1 (And.intro h2 (And.intro h3 (And.intro h4 (And.intro h5 h6))))))
    have HM3 := Lib.hid (show Hp w [(w.heap.size, 57, lpV)] _ from HM2.out.sub (by simp))
    clear hn h0 h1 h2 h3 h4 h5 h6 HM HM2 y1 y2
    go_wp2_with fail
    go_roundw
    case rel =>
     obtain ⟨h0, h1, h2, h3, h4, h5, h6⟩ := HH.out
     have hn := HN.out
     exact ⟨2, by omega, rfl, fun _ => h0 (by omega), fun _ => hn, fun h => absurd h (by omega), fun h => absurd h (by omega), fun h => absurd h (by omega), fun h => absurd h (by omega), fun h => absurd h (by omega), HM3.out⟩
    case measure => simp [intOf]
  ·obtain ⟨c0, c1, c2⟩ := cells3 (HM.out.at_ 0 rfl) 6 rfl rfl rfl
   have HM2 := Lib.hid (HM.out.new 57 [.int .i64 5, .int .i64 4, .int .i64 3])
   obtain ⟨y0, y1, y2⟩ := cells3 (HM2.out.at_ 1 rfl) 0 rfl rfl rfl
   by_cases hn : n = 5
   ·subst hn
    clear HM
    go_wp2_with fail
    go_quiet (fail)
    go_wp2_with fail
    exact bodyPost_ret (v := .tuple #[.int .i64 4, .int .i64 3, .bool true]) (by simp [results, Tryz.results13, go_sem]) rfl ⟨rfl, (HM2.out.drewN _).below⟩
   ·have hb : ((5 : Int) == n) = false := by rw [beq_eq_false_iff_ne]; omega
    have HN := Lib.hid hn
    have HH := Lib.hid (And.intro (h0) (And.intro h1 (And.intro h2 (And.intro h3 (And.intro h4 (And.intro h5 h6))))))
    have HM3 := Lib.hid (show Hp w [(w.heap.size, 57, lpV)] _ from HM2.out.sub (by simp))
    clear hn h0 h1 h2 h3 h4 h5 h6 HM HM2 y1 y2
    go_wp2_with fail
    go_roundw
    case rel =>
     obtain ⟨h0, h1, h2, h3, h4, h5, h6⟩ := HH.out
     have hn := HN.out
     exact ⟨3, by omega, rfl, fun _ => h0 (by omega), fun _ => h1 (by omega), fun _ => hn, fun h => absurd h (by omega), fun h => absurd h (by omega), fun h => absurd h (by omega), fun h => absurd h (by omega), HM3.out⟩
    case measure => simp [intOf]
  ·obtain ⟨c0, c1, c2⟩ := cells3 (HM.out.at_ 0 rfl) 9 rfl rfl rfl
   have HM2 := Lib.hid (HM.out.new 57 [.int .i64 7, .int .i64 3, .int .i64 2])
   obtain ⟨y0, y1, y2⟩ := cells3 (HM2.out.at_ 1 rfl) 0 rfl rfl rfl
   by_cases hn : n = 7
   ·subst hn
    clear HM
    go_wp2_with fail
    go_quiet (fail)
    go_wp2_with fail
    exact bodyPost_ret (v := .tuple #[.int .i64 3, .int .i64 2, .bool true]) (by simp [results, Tryz.results13, go_sem]) rfl ⟨rfl, (HM2.out.drewN _).below⟩
   ·have hb : ((7 : Int) == n) = false := by rw [beq_eq_false_iff_ne]; omega
    have HN := Lib.hid hn
    have HH := Lib.hid (And.intro (h0) (And.intro h1 (And.intro h2 (And.intro h3 (And.intro h4 (And.intro h5 h6))))))
    have HM3 := Lib.hid (show Hp w [(w.heap.size, 57, lpV)] _ from HM2.out.sub (by simp))
    clear hn h0 h1 h2 h3 h4 h5 h6 HM HM2 y1 y2
    go_wp2_with fail
    go_roundw
    case rel =>
     obtain ⟨h0, h1, h2, h3, h4, h5, h6⟩ := HH.out
     have hn := HN.out
     exact ⟨4, by omega, rfl, fun _ => h0 (by omega), fun _ => h1 (by omega), fun _ => h2 (by omega), fun _ => hn, fun h => absurd h (by omega), fun h => absurd h (by omega), fun h => absurd h (by omega), HM3.out⟩
    case measure => simp [intOf]
  ·obtain ⟨c0, c1, c2⟩ := cells3 (HM.out.at_ 0 rfl) 12 rfl rfl rfl
   have HM2 := Lib.hid (HM.out.new 57 [.int .i64 8, .int .i64 8, .int .i64 5])
   obtain ⟨y0, y1, y2⟩ := cells3 (HM2.out.at_ 1 rfl) 0 rfl rfl rfl
   by_cases hn : n = 8
   ·subst hn
    clear HM
    go_wp2_with fail
    go_quiet (fail)
    go_wp2_with fail
    exact bodyPost_ret (v := .tuple #[.int .i64 8, .int .i64 5, .bool true]) (by simp [results, Tryz.results13, go_sem]) rfl ⟨rfl, (HM2.out.drewN _).below⟩
   ·have hb : ((8 : Int) == n) = false := by rw [beq_eq_false_iff_ne]; omega
    have HN := Lib.hid hn
    have HH := Lib.hid (And.intro (h0) (And.intro h1 (And.intro h2 (And.intro h3 (And.intro h4 (And.intro h5 h6))))))
    have HM3 := Lib.hid (show Hp w [(w.heap.size, 57, lpV)] _ from HM2.out.sub (by simp))
    clear hn h0 h1 h2 h3 h4 h5 h6 HM HM2 y1 y2
    go_wp2_with fail
    go_roundw
    case rel =>
     obtain ⟨h0, h1, h2, h3, h4, h5, h6⟩ := HH.out
     have hn := HN.out
     exact ⟨5, by omega, rfl, fun _ => h0 (by omega), fun _ => h1 (by omega), fun _ => h2 (by omega), fun _ => h3 (by omega), fun _ => hn, fun h => absurd h (by omega), fun h => absurd h (by omega), HM3.out⟩
    case measure => simp [intOf]
  ·obtain ⟨c0, c1, c2⟩ := cells3 (HM.out.at_ 0 rfl) 15 rfl rfl rfl
   have HM2 := Lib.hid (HM.out.new 57 [.int .i64 9, .int .i64 5, .int .i64 3])
   obtain ⟨y0, y1, y2⟩ := cells3 (HM2.out.at_ 1 rfl) 0 rfl rfl rfl
   by_cases hn : n = 9
   ·subst hn
    clear HM
    go_wp2_with fail
    go_quiet (fail)
    go_wp2_with fail
    exact bodyPost_ret (v := .tuple #[.int .i64 5, .int .i64 3, .bool true]) (by simp [results, Tryz.results13, go_sem]) rfl ⟨rfl, (HM2.out.drewN _).below⟩
   ·have hb : ((9 : Int) == n) = false := by rw [beq_eq_false_iff_ne]; omega
    have HN := Lib.hid hn
    have HH := Lib.hid (And.intro (h0) (And.intro h1 (And.intro h2 (And.intro h3 (And.intro h4 (And.intro h5 h6))))))
    have HM3 := Lib.hid (show Hp w [(w.heap.size, 57, lpV)] _ from HM2.out.sub (by simp))
    clear hn h0 h1 h2 h3 h4 h5 h6 HM HM2 y1 y2
    go_wp2_with fail
    go_roundw
    case rel =>
     obtain ⟨h0, h1, h2, h3, h4, h5, h6⟩ := HH.out
     have hn := HN.out
     exact ⟨6, by omega, rfl, fun _ => h0 (by omega), fun _ => h1 (by omega), fun _ => h2 (by omega), fun _ => h3 (by omega), fun _ => h4 (by omega), fun _ => hn, fun h => absurd h (by omega), HM3.out⟩
    case measure => simp [intOf]
  ·obtain ⟨c0, c1, c2⟩ := cells3 (HM.out.at_ 0 rfl) 18 rfl rfl rfl
   have HM2 := Lib.hid (HM.out.new 57 [.int .i64 12, .int .i64 2, .int .i64 1])
   obtain ⟨y0, y1, y2⟩ := cells3 (HM2.out.at_ 1 rfl) 0 rfl rfl rfl
   by_cases hn : n = 12
   ·subst hn
    clear HM
    go_wp2_with fail
    go_quiet (fail)
    go_wp2_with fail
    exact bodyPost_ret (v := .tuple #[.int .i64 2, .int .i64 1, .bool true]) (by simp [results, Tryz.results13, go_sem]) rfl ⟨rfl, (HM2.out.drewN _).below⟩
   ·have hb : ((12 : Int) == n) = false := by rw [beq_eq_false_iff_ne]; omega
    have HN := Lib.hid hn
    have HH := Lib.hid (And.intro (h0) (And.intro h1 (And.intro h2 (And.intro h3 (And.intro h4 (And.intro h5 h6))))))
    have HM3 := Lib.hid (show Hp w [(w.heap.size, 57, lpV)] _ from HM2.out.sub (by simp))
    clear hn h0 h1 h2 h3 h4 h5 h6 HM HM2 y1 y2
    go_wp2_with fail
    go_roundw
    case rel =>
     obtain ⟨h0, h1, h2, h3, h4, h5, h6⟩ := HH.out
     have hn := HN.out
     exact ⟨7, by omega, rfl, fun _ => h0 (by omega), fun _ => h1 (by omega), fun _ => h2 (by omega), fun _ => h3 (by omega), fun _ => h4 (by omega), fun _ => h5 (by omega), fun _ => hn, HM3.out⟩
    case measure => simp [intOf]
  ·have hno : ¬ ptB n := by
    have := h0 (by omega)
    have := h1 (by omega)
    have := h2 (by omega)
    have := h3 (by omega)
    have := h4 (by omega)
    have := h5 (by omega)
    have := h6 (by omega)
    unfold ptB; omega
   have HZ := Lib.hid (show (ptP n).1 = 0 ∧ (ptP n).2 = 0 ∧ decide (ptB n) = false from by
    have e : ptP n = (0, 0) := by unfold ptP; unfold ptB at hno; (repeat' split) <;> first | rfl | omega
    rw [e]
    exact ⟨rfl, rfl, decide_eq_false hno⟩)
   clear hno h0 h1 h2 h3 h4 h5 h6 hk
   go_wp2_with fail
   exact bodyPost_ret (v := .tuple #[.int .i64 0, .int .i64 0, .bool false]) (by simp [results, Tryz.results13, go_sem]) rfl ⟨by rw [HZ.out.1, HZ.out.2.1, HZ.out.2.2], HM.out.below⟩
set_option maxRecDepth 1000000 in
set_option maxHeartbeats 4000000 in
theorem ldir_gen (C : Nat → Tm) (p l s t dv s0 s1 s2 s3 s4 s5 r0 r1 r2 r3 r4 r5 : Int) (w : World) (ht : Tab w) (hs : ptB s) (hl : 0 ≤ l ∧ l ≤ 127) (hlt : l + s = t)
  (hB : ∀ W, Tab W → Calls Tryz.prog 56 #[.agg (cirL C).toArray, .int .i64 l, .int .i64 t] W fun e w' => e = .returned (.tuple #[szv s0 s1 s2 s3 s4 s5, .int .i64 0]) ∧ Below W.heap.size W w')
  (hR : ∀ W, Calls Tryz.prog 61 #[.int .i64 (ptP s).1, .int .i64 (ptP s).2] W fun e w' => e = .returned (.tuple #[szv r0 r1 r2 r3 r4 r5, .int .i64 0]) ∧ Below W.heap.size W w')
  (hC : ∀ W, Tab W → Calls Tryz.prog 46 #[szv s0 s1 s2 s3 s4 s5, szv r0 r1 r2 r3 r4 r5] W fun e w' => e = .returned (.tuple #[.int .i64 dv, .int .i64 0]) ∧ Below W.heap.size W w') :
  Calls Tryz.prog 28 #[.agg (tuL C p).toArray, .agg #[.int .i64 l, .int .i64 s]] w fun e w' => e = .returned (.tuple #[.int .i64 dv, .int .i64 0]) ∧ Below w.heap.size w w' := by
 have hp := fun W => lpart42 s W
 have hs12 : 0 ≤ s ∧ s ≤ 12 := by unfold ptB at hs; omega
 have hw : IntKind.i64.wrap (l + s) = t := by rw [hlt]; exact IntWalk.i64_in _ (by omega)
 obtain ⟨u, hu⟩ : ∃ u, u = (ptP s).1 := ⟨_, rfl⟩
 obtain ⟨v, hv⟩ : ∃ u, u = (ptP s).2 := ⟨_, rfl⟩
 obtain ⟨q, hq⟩ : ∃ q, q = decide (ptB s) := ⟨_, rfl⟩
 rw [← hu, ← hv, ← hq] at hp
 rw [← hu, ← hv] at hR
 have HP := Lib.hid hp
 have HB := Lib.hid hB
 have HR := Lib.hid hR
 have HC := Lib.hid hC
 have HT := Lib.hid ht
 have HW := Lib.hid hw
 have hm0 := ((Hp.start w).new 41 (tuL C p)).new 67 [.int .i64 l, .int .i64 s]
 simp only [World.size_alloc, List.nil_append, List.cons_append] at hm0
 have HM0 := Lib.hid hm0
 obtain ⟨y0, y1⟩ := two_of (hm0.at_ 1 rfl)
 clear hm0 hp hB hR hC ht hw hs hl hlt hs12 hu hv hq
 go_enter Tryz.func28, Tryz.ntmps28
 go_wp2_with fail
 refine (HP.out _).mono ?_
 rintro e w1 ⟨rfl, hb1⟩
 have HM1 := Lib.hid (HM0.out.step hb1)
 clear hb1 HM0 y0 y1
 obtain ⟨y0, y1⟩ := two_of (HM1.out.at_ 1 rfl)
 have hw := HW.out
 go_wp2_with (refine wpList_load_pre rfl 38 _ rfl w.heap.size rfl (cirL C).toArray _ (tu_cir (HM1.out.at_ 0 rfl)) Tryz.underlying38 rfl (by rw [infoCircle, List.size_toArray, cirL_len]) ?_)
 refine (HB.out _ (HT.out.below HM1.out.below)).mono ?_
 rintro e w2 ⟨rfl, hb2⟩
 have HM3 := Lib.hid (HM1.out.step hb2)
 clear hb2 HM1 y0 y1 hw
 have hm4 := HM3.out.new 49 [.int .i64 s0, .int .i64 s1, .int .i64 s2, .int .i64 s3, .int .i64 s4, .int .i64 s5]
 simp only [List.nil_append, List.cons_append] at hm4
 have HM4 := Lib.hid hm4
 clear hm4 HM3
 go_wp2_with fail
 refine (HR.out _).mono ?_
 rintro e w3 ⟨rfl, hb3⟩
 have HM5 := Lib.hid (HM4.out.step hb3)
 clear hb3 HM4
 have hm6 := HM5.out.new 49 [.int .i64 r0, .int .i64 r1, .int .i64 r2, .int .i64 r3, .int .i64 r4, .int .i64 r5]
 simp only [List.nil_append, List.cons_append] at hm6
 have HM6 := Lib.hid hm6
 obtain ⟨p0, p1, p2, p3, p4, p5⟩ := six_of (hm6.at_ 2 rfl)
 obtain ⟨q0, q1, q2, q3, q4, q5⟩ := six_of (hm6.at_ 3 rfl)
 clear hm6 HM5
 go_wp2_with fail
 refine (HC.out _ (HT.out.below HM6.out.below)).mono ?_
 rintro e w4 ⟨rfl, hb4⟩
 have HZ := Lib.hid (HM6.out.step hb4)
 clear hb4 HM6 p0 p1 p2 p3 p4 p5 q0 q1 q2 q3 q4 q5
 go_wp2_with fail
 exact bodyPost_ret (v := .tuple #[.int .i64 dv, .int .i64 0]) (by simp [results, Tryz.results28, go_sem]) rfl ⟨rfl, HZ.out.below⟩
theorem ldir_pl {d : Int} {P S : Nat → Int} (h : PlnC d P S) (p s : Int) (hs : ptB s) {l n : Nat} (hn : n ≤ 127) (hls : (l : Int) + s = n) (w : World) (ht : Tab w) :
  Calls Tryz.prog 28 #[.agg (tuL (cirP d P S) p).toArray, .agg #[.int .i64 (l : Int), .int .i64 s]] w fun e w' => e = .returned (.tuple #[.int .i64 (drT d P S l n s), .int .i64 0]) ∧ Below w.heap.size w w' := by
 have hs12 : 3 ≤ s ∧ s ≤ 12 := by unfold ptB at hs; omega
 have hb := vB_Bx h (m := l) (n := n) (by omega) (by omega)
 have hd := pl_d h
 have hp := ppE_bd s
 refine ldir_gen (cirP d P S) p l s n _ _ _ _ _ _ _ _ _ _ _ _ _ w ht hs (by omega) hls (fun W hT => tBetween_pl h (m := l) (by omega) hn W hT) (fun W => ppR hs W) (fun W hT => ?_)
 rw [szv_szD (d := d) (by omega)]
 have k : ∀ x : Int, -3 ≤ x ∧ x ≤ 3 → -720 ≤ d * x ∧ d * x ≤ 720 := fun x hx => by
  have a1 : d * x ≤ d * 3 := Int.mul_le_mul_of_nonneg_left hx.2 (by omega)
  have a2 : d * -3 ≤ d * x := Int.mul_le_mul_of_nonneg_left hx.1 (by omega)
  omega
 exact tcmp_any _ _ _ _ _ _ d W hd hT hb ⟨by have := k _ hp.1; omega, by have := k (ppE s).2.1 (by omega); omega, by have := k (ppE s).2.2 (by omega); omega⟩
set_option maxRecDepth 1000000 in
set_option maxHeartbeats 4000000 in
theorem lfreq_gen (C : Nat → Tm) (p n b0 b1 b2 s0 s1 s2 s3 s4 s5 : Int) (w : World) (ht : Tab w) (hp : 1 ≤ p ∧ p ≤ 1000) (hb0 : 0 ≤ b0 ∧ b0 ≤ 128000001) (hb1 : 0 ≤ b1 ∧ b1 ≤ 128000001)
  (hB : ∀ W, Tab W → Calls Tryz.prog 56 #[.agg (cirL C).toArray, .int .i64 69, .int .i64 n] W fun e w' => e = .returned (.tuple #[szv s0 s1 s2 s3 s4 s5, .int .i64 0]) ∧ Below W.heap.size W w')
  (hR : ∀ W, Tab W → Calls Tryz.prog 18 #[szv s0 s1 s2 s3 s4 s5] W fun e w' => e = .returned (.tuple #[.agg #[.int .i64 b0, .int .i64 b1], .int .i64 b2]) ∧ Below W.heap.size W w') :
  Calls Tryz.prog 24 #[.agg (tuL C p).toArray, .int .i64 n] w fun e w' => e = .returned (.tuple #[.agg #[.int .i64 (p * b0), .int .i64 (p * b1)], .int .i64 b2]) ∧ Below w.heap.size w w' := by
 have HB := Lib.hid hB
 have HR := Lib.hid hR
 have HT := Lib.hid ht
 have m0 : 0 ≤ p * b0 := Int.mul_nonneg (by omega) hb0.1
 have l0 : p * b0 ≤ 1000 * 128000001 := Int.mul_le_mul hp.2 hb0.2 hb0.1 (by decide)
 have m1 : 0 ≤ p * b1 := Int.mul_nonneg (by omega) hb1.1
 have l1 : p * b1 ≤ 1000 * 128000001 := Int.mul_le_mul hp.2 hb1.2 hb1.1 (by decide)
 obtain ⟨v0, hv0⟩ : ∃ v, v = p * b0 := ⟨_, rfl⟩
 obtain ⟨v1, hv1⟩ : ∃ v, v = p * b1 := ⟨_, rfl⟩
 have hw0 : IntKind.i64.wrap (p * b0) = v0 := by rw [hv0]; exact IntWalk.i64_in _ (by omega)
 have hw1 : IntKind.i64.wrap (p * b1) = v1 := by rw [hv1]; exact IntWalk.i64_in _ (by omega)
 rw [← hv0, ← hv1]
 have HW := Lib.hid (And.intro hw0 hw1)
 have hm0 := ((Hp.start w).new 41 (tuL C p)).new 53 [.int .i64 0, .int .i64 0]
 simp only [World.size_alloc, List.nil_append, List.cons_append] at hm0
 have HM0 := Lib.hid hm0
 clear hm0 hB hR ht hp hb0 hb1 m0 m1 l0 l1 hv0 hv1 hw0 hw1
 go_enter Tryz.func24, Tryz.ntmps24
 go_wp2_with (refine wpList_load_pre rfl 38 _ rfl w.heap.size rfl (cirL C).toArray _ (tu_cir (HM0.out.at_ 0 rfl)) Tryz.underlying38 rfl (by rw [infoCircle, List.size_toArray, cirL_len]) ?_)
 refine (HB.out _ (HT.out.below HM0.out.below)).mono ?_
 rintro e w1 ⟨rfl, hb1⟩
 have HM1 := Lib.hid (HM0.out.step hb1)
 clear hb1 HM0
 obtain ⟨g2, hg2⟩ : ∃ g, g = w1.heap.size := ⟨_, rfl⟩
 have hm2 := HM1.out.new 49 [.int .i64 s0, .int .i64 s1, .int .i64 s2, .int .i64 s3, .int .i64 s4, .int .i64 s5]
 rw [← hg2] at hm2
 simp only [List.nil_append, List.cons_append] at hm2
 have HM2 := Lib.hid hm2
 obtain ⟨p0, p1, p2, p3, p4, p5⟩ := six_of (hm2.at_ 2 rfl)
 clear hm2 HM1
 go_wp2_with fail
 refine (HR.out _ (HT.out.below HM2.out.below)).mono ?_
 rintro e w2 ⟨rfl, hb2⟩
 have HM3 := Lib.hid (HM2.out.step hb2)
 clear hb2 HM2 p0 p1 p2 p3 p4 p5
 obtain ⟨g3, hg3⟩ : ∃ g, g = w2.heap.size := ⟨_, rfl⟩
 have hm4 := HM3.out.new 53 [.int .i64 b0, .int .i64 b1]
 rw [← hg3] at hm4
 simp only [List.nil_append, List.cons_append] at hm4
 have HM4 := Lib.hid hm4
 have y9 := tu_pitch (hm4.at_ 0 rfl)
 obtain ⟨y0, y1⟩ := two_of (hm4.at_ 1 rfl)
 obtain ⟨y2, y3⟩ := two_of (hm4.at_ 3 rfl)
 have f0 := (hm4.at_ 1 rfl).frozen 0
 have f1 := (hm4.at_ 1 rfl).frozen 1
 have HZ := Lib.hid (hm4.put2 1 rfl (.int .i64 v0) (.int .i64 v1))
 obtain ⟨hw0, hw1⟩ := HW.out
 clear hm4 HM3
 go_wp2_with fail
 obtain ⟨WZ, hWZ⟩ : ∃ WZ, WZ = ((w2.alloc (.cells #[.int .i64 b0, .int .i64 b1] 53)).setCell ⟨w.heap.size + 1, 0, none⟩ (.int .i64 v0)).setCell ⟨w.heap.size + 1, 1, none⟩ (.int .i64 v1) := ⟨_, rfl⟩
 rw [← hWZ] at HZ ⊢
 obtain ⟨z0, z1⟩ := two_of (HZ.out.at_ 1 rfl)
 exact bodyPost_ret (v := .tuple #[.agg #[.int .i64 v0, .int .i64 v1], .int .i64 b2]) (by simp [results, Tryz.results24, go_sem, z0, z1]) rfl ⟨rfl, HZ.out.below⟩
theorem lfreq_pl {d : Int} {P S : Nat → Int} (h : PlnC d P S) (p : Int) (hp : 1 ≤ p ∧ p ≤ 1000) {n : Nat} (hn : n ≤ 127) (w : World) (ht : Tab w) :
  Calls Tryz.prog 24 #[.agg (tuL (cirP d P S) p).toArray, .int .i64 (n : Int)] w fun e w' => e = .returned (.tuple #[.agg #[.int .i64 (frT d P S p n).1, .int .i64 (frT d P S p n).2.1], .int .i64 (frT d P S p n).2.2]) ∧ Below w.heap.size w w' := by
 have hb := vB_Bx h (m := 69) (n := n) (by decide) (by omega)
 have hd := pl_d h
 have h2 := rtT_bd hb.1 hb.2.1 hb.2.2 hd
 exact lfreq_gen (cirP d P S) p n _ _ _ _ _ _ _ _ _ w ht hp (by omega) (by omega) (fun W hT => tBetween_pl h (m := 69) (by decide) hn W hT) (fun W hT => ratio_szD hd hb W hT)
end Go.Proofs.YtendjepcjmfmfaaGreatDoor
