/- Part 37 of 39 of the proof of the law: contracts of the functions that it reaches, and plain facts. Conditions: those that each contract names. -/
import Derived.Test.YtendjepcjmfmfaaGreatDoorEqlB36
import Derived.Test.YtendjepcjmfmfaaGreatDoorEqlB34
import Derived.Test.YtendjepcjmfmfaaGreatDoorEqlB35
namespace Go.Proofs.YtendjepcjmfmfaaGreatDoor
open Go.RowKit
theorem ivs_one {W : World} {g : Nat} {t : TypeId} {a b : Int} (h : Blk W g t [.int .i64 a, .int .i64 b]) : IvsAt W g [(a, b)] :=
 ⟨h.lt, fun i hi => by
  obtain rfl : i = 0 := by simp at hi; exact hi
  exact ⟨h.cell 0, h.cell 1⟩⟩
theorem ivsE_one (x : Int × Int) : ivsE [x] = ivxE x := by
 show (if ivxE x ≠ 0 then ivxE x else 0) = ivxE x
 split
 ·rfl
 ·rename_i h; exact (Classical.not_not.1 h).symm
set_option maxRecDepth 1000000 in
set_option maxHeartbeats 4000000 in
theorem bDirection_any (C : Nat → Tm) (p a b c dv : Int) (w : World) (ht : Tab w) (hC : ∀ i, i < 12 → Tm64 (C i)) (ha : I64 a) (hb : I64 b) (hc : c = if tuE C p ≠ 0 then tuE C p else ivxE (a, b))
  (hD : c = 0 → ∀ W, Tab W → Calls Tryz.prog 58 #[.agg (tuL C p).toArray, .agg #[.int .i64 a, .int .i64 b]] W fun e w' => e = .returned (.tuple #[.int .i64 dv, .int .i64 0]) ∧ Below W.heap.size W w') :
  Calls Tryz.prog 26 #[.agg (tuL C p).toArray, .agg #[.int .i64 a, .int .i64 b]] w fun e w' => e = .returned (.tuple #[.int .i64 (if c = 0 then dv else 0), .int .i64 c]) ∧ Below w.heap.size w w' := by
 have hck : ∀ (W : World) (g : Nat), IvsAt W g [(a, b)] → Calls Tryz.prog 57 #[.agg (tuL C p).toArray, .slice (some ⟨g, 0, none⟩) 1 1] W fun e w' => e = .returned (.int .i64 c) ∧ Below W.heap.size W w' := fun W g h => by
  have := bcheck_any C p g 1 [(a, b)] W hC h (by simp) (fun x hx => by
   rw [List.mem_singleton] at hx; subst hx; exact ⟨ha, hb⟩)
  rw [ivsE_one, ← hc] at this
  exact this
 have HCK := Lib.hid hck
 have HD := Lib.hid hD
 have HT := Lib.hid ht
 have hm0 := ((Hp.start w).new 41 (tuL C p)).new 67 [.int .i64 a, .int .i64 b]
 simp only [World.size_alloc, List.nil_append, List.cons_append] at hm0
 obtain ⟨y0, y1⟩ := two_of (hm0.at_ 1 rfl)
 have hm1 := hm0.new 67 [.int .i64 a, .int .i64 b]
 simp only [World.size_alloc, List.nil_append, List.cons_append] at hm1
 have HM0 := Lib.hid hm0
 have HM1 := Lib.hid hm1
 clear hm0 hm1 hck hC ha hb hc hD ht
 go_enter Tryz.func26, Tryz.ntmps26
 go_wp2_with (refine wpList_load_row rfl 41 _ rfl w.heap.size rfl 41 (tuL C p).toArray (0, 0) _ (HM0.out.at_ 0 rfl) Tryz.underlying41 rfl (by rw [infoTun, List.size_toArray, tuL_len]) ?_)
 refine (HCK.out _ _ (ivs_one (HM1.out.at_ 2 rfl))).mono ?_
 rintro e w1 ⟨rfl, hb1⟩
 have HM2 := Lib.hid (HM1.out.step hb1)
 clear hb1 HM0 HM1 y0 y1
 by_cases h0 : c = 0
 ·have HDC := Lib.hid (HD.out h0)
  subst h0
  obtain ⟨y0, y1⟩ := two_of (HM2.out.at_ 1 rfl)
  go_wp2_with (refine wpList_load_row rfl 41 _ rfl w.heap.size rfl 41 (tuL C p).toArray (0, 0) _ (HM2.out.at_ 0 rfl) Tryz.underlying41 rfl (by rw [infoTun, List.size_toArray, tuL_len]) ?_)
  refine (HDC.out _ (HT.out.below HM2.out.below)).mono ?_
  rintro e w2 ⟨rfl, hb2⟩
  have HZ := Lib.hid (HM2.out.step hb2)
  clear hb2 HM2 y0 y1
  go_wp2_with fail
  exact bodyPost_ret (v := .tuple #[.int .i64 dv, .int .i64 0]) (by simp [results, Tryz.results26, go_sem]) rfl ⟨rfl, HZ.out.below⟩
 ·have hz : (c != 0) = true := by simpa using h0
  have H0 := Lib.hid h0
  clear h0
  go_wp2_with fail
  exact bodyPost_ret (v := .tuple #[.int .i64 0, .int .i64 c]) (by simp [results, Tryz.results26, go_sem]) rfl ⟨rfl, HM2.out.below⟩
set_option maxRecDepth 1000000 in
set_option maxHeartbeats 4000000 in
theorem bBeats_any (C : Nat → Tm) (p a b c v0 v1 v2 : Int) (w : World) (ht : Tab w) (hC : ∀ i, i < 12 → Tm64 (C i)) (ha : I64 a) (hb : I64 b) (hc : c = if tuE C p ≠ 0 then tuE C p else ivxE (a, b))
  (hS : c = 0 → ∀ (W : World) (g : Nat), Tab W → IvsAt W g [(a, b)] → Calls Tryz.prog 59 #[.agg (tuL C p).toArray, .slice (some ⟨g, 0, none⟩) 1 1] W fun e w' => e = .returned (.int .i64 0) ∧ Below W.heap.size W w')
  (hB : c = 0 → ∀ W, Tab W → Calls Tryz.prog 60 #[.agg (tuL C p).toArray, .agg #[.int .i64 a, .int .i64 b]] W fun e w' => e = .returned (.tuple #[.agg #[.int .i64 v0, .int .i64 v1], .int .i64 v2]) ∧ Below W.heap.size W w') :
  Calls Tryz.prog 27 #[.agg (tuL C p).toArray, .agg #[.int .i64 a, .int .i64 b]] w fun e w' => e = .returned (if c = 0 then .tuple #[.agg #[.int .i64 v0, .int .i64 v1], .int .i64 v2] else .tuple #[.agg #[.int .i64 0, .int .i64 0], .int .i64 c]) ∧ Below w.heap.size w w' := by
 have hck : ∀ (W : World) (g : Nat), IvsAt W g [(a, b)] → Calls Tryz.prog 57 #[.agg (tuL C p).toArray, .slice (some ⟨g, 0, none⟩) 1 1] W fun e w' => e = .returned (.int .i64 c) ∧ Below W.heap.size W w' := fun W g h => by
  have := bcheck_any C p g 1 [(a, b)] W hC h (by simp) (fun x hx => by
   rw [List.mem_singleton] at hx; subst hx; exact ⟨ha, hb⟩)
  rw [ivsE_one, ← hc] at this
  exact this
 have HCK := Lib.hid hck
 have HS := Lib.hid hS
 have HBB := Lib.hid hB
 have HT := Lib.hid ht
 have hm0 := (((Hp.start w).new 41 (tuL C p)).new 67 [.int .i64 a, .int .i64 b]).new 53 [.int .i64 0, .int .i64 0]
 simp only [World.size_alloc, List.nil_append, List.cons_append] at hm0
 obtain ⟨y0, y1⟩ := two_of (hm0.at_ 1 rfl)
 have hm1 := hm0.new 67 [.int .i64 a, .int .i64 b]
 simp only [World.size_alloc, List.nil_append, List.cons_append] at hm1
 have HM0 := Lib.hid hm0
 have HM1 := Lib.hid hm1
 clear hm0 hm1 hck hC ha hb hc hS hB ht
 go_enter Tryz.func27, Tryz.ntmps27
 go_wp2_with (refine wpList_load_row rfl 41 _ rfl w.heap.size rfl 41 (tuL C p).toArray (0, 0) _ (HM0.out.at_ 0 rfl) Tryz.underlying41 rfl (by rw [infoTun, List.size_toArray, tuL_len]) ?_)
 refine (HCK.out _ _ (ivs_one (HM1.out.at_ 3 rfl))).mono ?_
 rintro e w1 ⟨rfl, hb1⟩
 have HM2 := Lib.hid (HM1.out.step hb1)
 clear hb1 HM0 HM1 y0 y1
 by_cases h0 : c = 0
 ·have HSC := Lib.hid (HS.out h0)
  have HBC := Lib.hid (HBB.out h0)
  subst h0
  obtain ⟨y0, y1⟩ := two_of (HM2.out.at_ 1 rfl)
  have HM3 := Lib.hid (HM2.out.new 67 [.int .i64 a, .int .i64 b])
  go_wp2_with (refine wpList_load_row rfl 41 _ rfl w.heap.size rfl 41 (tuL C p).toArray (0, 0) _ (HM2.out.at_ 0 rfl) Tryz.underlying41 rfl (by rw [infoTun, List.size_toArray, tuL_len]) ?_)
  refine (HSC.out _ _ (HT.out.below HM3.out.below) (ivs_one (HM3.out.at_ 4 rfl))).mono ?_
  rintro e w2 ⟨rfl, hb2⟩
  have HM4 := Lib.hid (HM3.out.step hb2)
  clear hb2 HM2 HM3 y0 y1
  obtain ⟨y0, y1⟩ := two_of (HM4.out.at_ 1 rfl)
  go_wp2_with (refine wpList_load_row rfl 41 _ rfl w.heap.size rfl 41 (tuL C p).toArray (0, 0) _ (HM4.out.at_ 0 rfl) Tryz.underlying41 rfl (by rw [infoTun, List.size_toArray, tuL_len]) ?_)
  refine (HBC.out _ (HT.out.below HM4.out.below)).mono ?_
  rintro e w3 ⟨rfl, hb3⟩
  have HM5 := Lib.hid (HM4.out.step hb3)
  clear hb3 HM4 y0 y1
  obtain ⟨y0, y1⟩ := two_of (HM5.out.at_ 2 rfl)
  have f0 := (HM5.out.at_ 2 rfl).frozen 0
  have f1 := (HM5.out.at_ 2 rfl).frozen 1
  have HZ := Lib.hid (HM5.out.put2 2 rfl (.int .i64 v0) (.int .i64 v1))
  clear HM5
  go_wp2_with fail
  exact bodyPost_ret (v := .tuple #[.agg #[.int .i64 v0, .int .i64 v1], .int .i64 v2]) (by simp [results, Tryz.results27, go_sem, y0, y1, f0, f1]) rfl ⟨rfl, HZ.out.below⟩
 ·have hz : (c != 0) = true := by simpa using h0
  clear h0
  obtain ⟨y0, y1⟩ := two_of (HM2.out.at_ 2 rfl)
  have f0 := (HM2.out.at_ 2 rfl).frozen 0
  have f1 := (HM2.out.at_ 2 rfl).frozen 1
  have HZ := Lib.hid (HM2.out.put2 2 rfl (.int .i64 0) (.int .i64 0))
  clear HM2
  go_wp2_with fail
  ·exact absurd ‹c = 0› (by simpa using hz)
  ·exact bodyPost_ret (v := .tuple #[.agg #[.int .i64 0, .int .i64 0], .int .i64 c]) (by simp [results, Tryz.results27, go_sem, y0, y1, f0, f1]) rfl ⟨rfl, HZ.out.below⟩
abbrev eqC : Nat → Tm := cirP (nmD 0) (nmP 0) (nmQ 0)
theorem eq_tuE (p : Int) (hp : 1 ≤ p ∧ p ≤ 1000) (k : Nat) : tuE (cirP (nmD k) (nmP k) (nmQ k)) p = 0 := by
 unfold tuE
 rw [ckE_pl (nm_pln k), if_neg (by simp), if_neg (by omega)]
theorem kn_freq (w : World) (ht : Tab w) : Calls Tryz.prog 23 #[.agg (tuL eqC 440).toArray, .int .i64 76] w fun e w' => e = .returned (.tuple #[.agg #[.int .i64 659255080, .int .i64 659255520], .int .i64 0]) ∧ Below w.heap.size w w' := by
 refine bFrequency_ok eqC 440 76 659255080 659255520 0 w ht (plan_tm (nm_pln 0)) (eq_tuE 440 (by decide) 0) (by decide) (fun W hT => ?_)
 have := bfreq_pl (nm_pln 0) 440 (by decide) (n := 76) (by decide) W hT
 rw [eq_76] at this
 exact this
theorem kn_dir (w : World) (ht : Tab w) : Calls Tryz.prog 26 #[.agg (tuL eqC 440).toArray, .agg #[.int .i64 69, .int .i64 7]] w fun e w' => e = .returned (.tuple #[.int .i64 (-1), .int .i64 0]) ∧ Below w.heap.size w w' := by
 have := bDirection_any eqC 440 69 7 0 (-1) w ht (plan_tm (nm_pln 0)) (by unfold I64; omega) (by unfold I64; omega) (by rw [eq_tuE 440 (by decide) 0]; decide) (fun _ W hT => by
  have := bdir_pl (nm_pln 0) 440 7 (by decide) (l := 69) (n := 76) (by decide) (by decide) W hT
  rw [eq_dir] at this
  exact this)
 exact this
theorem kn_bts (w : World) (ht : Tab w) : Calls Tryz.prog 27 #[.agg (tuL eqC 440).toArray, .agg #[.int .i64 69, .int .i64 7]] w fun e w' => e = .returned (.tuple #[.agg #[.int .i64 1488960, .int .i64 1489840], .int .i64 0]) ∧ Below w.heap.size w w' := by
 have := bBeats_any eqC 440 69 7 0 1488960 1489840 0 w ht (plan_tm (nm_pln 0)) (by unfold I64; omega) (by unfold I64; omega) (by rw [eq_tuE 440 (by decide) 0]; decide)
  (fun _ W g hT hg => bsizes_pl (nm_pln 0) 440 g 1 [(69, 7)] W hT hg (by decide) (fun x hx => by rw [List.mem_singleton] at hx; subst hx; decide))
  (fun _ W hT => by
   have := bbeats_pl (nm_pln 0) 440 7 (by decide) (by decide) (l := 69) (n := 76) (by decide) (by decide) W hT
   rw [eq_bts] at this
   exact this)
 exact this
set_option maxRecDepth 1000000 in
set_option maxHeartbeats 4000000 in
theorem bknown_any (w : World) (ht : Tab w) : Calls Tryz.prog 11 #[] w fun e w' => e = .returned (.bool true) ∧ Below w.heap.size w w' := by
 obtain ⟨C, hC⟩ : ∃ C, C = eqC := ⟨_, rfl⟩
 have hnm := fun W => tNamed_at 0 (by decide) W
 have hfr := fun W hT => kn_freq W hT
 have hdr := fun W hT => kn_dir W hT
 have hbt := fun W hT => kn_bts W hT
 rw [← hC] at hfr hdr hbt
 simp only [← hC] at hnm
 have HNM := Lib.hid hnm
 have HFR := Lib.hid hfr
 have HDR := Lib.hid hdr
 have HBT := Lib.hid hbt
 have HT := Lib.hid ht
 clear ht hnm hfr hdr hbt hC
 go_enter Tryz.func11, Tryz.ntmps11
 go_wp2_with fail
 refine (HNM.out _).mono ?_
 rintro e w1 ⟨rfl, hb1⟩
 have hm1 := ((Hp.start w).step hb1).new 38 (cirL (fun _ => (0, 0, 0, 0)))
 simp only [List.nil_append, List.cons_append] at hm1
 have HM1 := Lib.hid hm1
 have hm2 := (hm1.row 0 rfl (cirL C)).cast (L' := [(w1.heap.size, 38, cirL C)]) rfl
 have HM2 := Lib.hid hm2
 have hm3 := HM2.out.new 41 (tuL (fun _ => (0, 0, 0, 0)) 0)
 have HM3 := Lib.hid (hm3.cast (L' := [(w1.heap.size, 38, cirL C), (w1.heap.size + 1, 41, tuL (fun _ => (0, 0, 0, 0)) 0)]) (by simp))
 have HM4 := Lib.hid ((HM3.out.row 1 rfl (tuL C 440)).cast (L' := [(w1.heap.size, 38, cirL C), (w1.heap.size + 1, 41, tuL C 440)]) rfl)
 clear hb1 hm1 hm2 hm3
 go_wp2_with (first | (refine wpList_bldTun rfl _ _ rfl C 440 rfl rfl ?_) | (refine wpList_store_rowTo rfl 38 _ _ rfl rfl (w1.heap.size) (cirL C).toArray rfl rfl 38 (cirL (fun _ => (0, 0, 0, 0))).toArray (HM1.out.at_ 0 rfl) (by rw [infoCircle, List.size_toArray, cirL_len]) (by rw [List.size_toArray, List.size_toArray, cirL_len, cirL_len]) (cir_one _) ?_) | (refine wpList_load_row rfl 38 _ rfl (w1.heap.size) rfl 38 (cirL C).toArray (0, 0) _ (HM2.out.at_ 0 rfl) Tryz.underlying38 rfl (by rw [infoCircle, List.size_toArray, cirL_len]) ?_) | (refine wpList_store_rowTo rfl 41 _ _ rfl rfl (w1.heap.size + 1) (tuL C 440).toArray rfl rfl 41 (tuL (fun _ => (0, 0, 0, 0)) 0).toArray (HM3.out.at_ 1 rfl) (by rw [infoTun, List.size_toArray, tuL_len]) (by rw [List.size_toArray, List.size_toArray, tuL_len, tuL_len]) (tu_one C 440) ?_) | (refine wpList_load_row rfl 41 _ rfl (w1.heap.size + 1) rfl 41 (tuL C 440).toArray (0, 0) _ (HM4.out.at_ 1 rfl) Tryz.underlying41 rfl (by rw [infoTun, List.size_toArray, tuL_len]) ?_))
 refine (HFR.out _ (HT.out.below HM4.out.below)).mono ?_
 rintro e w2 ⟨rfl, hb2⟩
 have hm5 := (HM4.out.step hb2).new 53 [.int .i64 659255080, .int .i64 659255520]
 simp only [List.nil_append, List.cons_append] at hm5
 have HM5 := Lib.hid hm5
 clear hb2 HM1 HM2 HM3 HM4 hm5
 go_wp2_with (first | (refine wpList_load_row rfl 41 _ rfl (w1.heap.size + 1) rfl 41 (tuL C 440).toArray (0, 0) _ (HM5.out.at_ 1 rfl) Tryz.underlying41 rfl (by rw [infoTun, List.size_toArray, tuL_len]) ?_))
 refine (HBT.out _ (HT.out.below HM5.out.below)).mono ?_
 rintro e w3 ⟨rfl, hb3⟩
 have hm6 := (HM5.out.step hb3).new 53 [.int .i64 1488960, .int .i64 1489840]
 simp only [List.nil_append, List.cons_append] at hm6
 have HM6 := Lib.hid hm6
 clear hb3 HM5 hm6
 go_wp2_with (first | (refine wpList_load_row rfl 41 _ rfl (w1.heap.size + 1) rfl 41 (tuL C 440).toArray (0, 0) _ (HM6.out.at_ 1 rfl) Tryz.underlying41 rfl (by rw [infoTun, List.size_toArray, tuL_len]) ?_))
 refine (HDR.out _ (HT.out.below HM6.out.below)).mono ?_
 rintro e w4 ⟨rfl, hb4⟩
 have hm7 := HM6.out.step hb4
 have HM7 := Lib.hid hm7
 obtain ⟨y0, y1⟩ := two_of (hm7.at_ 2 rfl)
 obtain ⟨y2, y3⟩ := two_of (hm7.at_ 3 rfl)
 clear hb4 HM6 hm7
 go_wp2_with fail
 exact bodyPost_ret (v := .bool true) (by simp [results, Tryz.results11, go_sem]) rfl ⟨rfl, HM7.out.below⟩
theorem infoIv42 : (Tryz.prog.info? 67).map (fun i => (i.zero, i.size, i.bytes)) = some (some (.agg #[.int .i64 0, .int .i64 0]), 2, 16) := by kernel_rfl
theorem infoBd42 : (Tryz.prog.info? 53).map (fun i => (i.zero, i.size, i.bytes)) = some (some (.agg #[.int .i64 0, .int .i64 0]), 2, 16) := by kernel_rfl
def prs42 (L : List (Int × Int)) : List Value := L.flatMap fun p => [.int .i64 p.1, .int .i64 p.2]
theorem prs42_app (L M : List (Int × Int)) : prs42 (L ++ M) = prs42 L ++ prs42 M := List.flatMap_append
theorem prs42_get (L : List (Int × Int)) : ∀ i (h : i < L.length), (prs42 L)[i * 2]? = some (.int .i64 L[i].1) ∧ (prs42 L)[i * 2 + 1]? = some (.int .i64 L[i].2) := by
 induction L with
 | nil => intro i h; cases h
 | cons p r ih =>
  intro i h
  have e : prs42 (p :: r) = .int .i64 p.1 :: .int .i64 p.2 :: prs42 r := rfl
  cases i with
  | zero => rw [e]; exact ⟨rfl, rfl⟩
  | succ i =>
   have := ih i (by simpa using h)
   rw [e, show (i + 1) * 2 = i * 2 + 1 + 1 by omega]
   simpa using this
theorem ivs_own {W : World} {base n c g : Nat} {t : TypeId} {L : List (Int × Int)} (h : W.ownsRow base t 2 (.slice (some ⟨g, 0, none⟩) n c) n (prs42 L)) (hn : n = L.length) : IvsAt W g L := by
 refine ⟨(h.lt g rfl).2, fun i hi => ?_⟩
 have h2 := prs42_get L i hi
 exact ⟨(h.cellAt (i * 2) (by omega)).trans h2.1, (h.cellAt (i * 2 + 1) (by omega)).trans h2.2⟩
def ivL (lo s : Int) (k : Nat) : List (Int × Int) := (List.range k).map fun i : Nat => (lo + i, s)
def bdL (v0 v1 : Nat → Int) (k : Nat) : List (Int × Int) := (List.range k).map fun i : Nat => (v0 i, v1 i)
theorem ivL_succ (lo s : Int) (k : Nat) : ivL lo s (k + 1) = ivL lo s k ++ [(lo + k, s)] := by unfold ivL; rw [List.range_succ, List.map_append]; rfl
theorem bdL_succ (v0 v1 : Nat → Int) (k : Nat) : bdL v0 v1 (k + 1) = bdL v0 v1 k ++ [(v0 k, v1 k)] := by unfold bdL; rw [List.range_succ, List.map_append]; rfl
theorem ivL_len (lo s : Int) (k : Nat) : (ivL lo s k).length = k := by simp [ivL]
theorem bdL_len (v0 v1 : Nat → Int) (k : Nat) : (bdL v0 v1 k).length = k := by simp [bdL]
theorem ivL_get (lo s : Int) (k i : Nat) (h : i < (ivL lo s k).length) : (ivL lo s k)[i] = (lo + i, s) := by simp [ivL]
theorem bdL_get (v0 v1 : Nat → Int) (k i : Nat) (h : i < (bdL v0 v1 k).length) : (bdL v0 v1 k)[i] = (v0 i, v1 i) := by simp [bdL]
set_option maxRecDepth 100000 in
theorem bcomp_ok (lo hi : Int) (w : World) (h : 0 ≤ lo ∧ lo ≤ hi ∧ hi ≤ 127) : Calls Tryz.prog 37 #[.agg #[.int .i64 lo, .int .i64 hi]] w fun e w' => e = .returned (.int .i64 0) ∧ Below w.heap.size w w' := by
 obtain ⟨h1, h2, h3⟩ := h
 have g1 : ¬ lo < 0 := by omega
 have g2 : ¬ 127 < hi := by omega
 have g3 : ¬ hi < lo := by omega
 clear h1 h2 h3
 go_enter Tryz.func37, Tryz.ntmps37
 go_wp2
 go_ret
 exact ⟨rfl, bw_new (Below.refl _ w) _⟩
def AbRel (w : World) (C : Nat → Tm) (p lo hi s : Int) (n : Nat) (u v : Value) (W : World) : Prop :=
 ∃ (k : Nat) (z : Int) (A : Option Addr) (c : Nat), k ≤ n ∧ z = lo + k ∧ v = .int .i64 z ∧ u = .slice A k c ∧ W.ownsRow (w.heap.size + 1 + 1) 67 2 (.slice A k c) k (prs42 (ivL lo s k)) ∧
  Hp w [(w.heap.size, 41, tuL C p), (w.heap.size + 1, 80, [.int .i64 lo, .int .i64 hi])] W ∧ w.heap.size + 1 + 1 ≤ W.heap.size
def AcRel (W0 : World) (v0 v1 : Nat → Int) (n : Nat) (u v : Value) (W : World) : Prop :=
 ∃ (k : Nat) (A : Option Addr) (c : Nat), k ≤ n ∧ v = .int .i64 (k : Int) ∧ u = .slice A k c ∧ W.ownsRow W0.heap.size 53 2 (.slice A k c) k (prs42 (bdL v0 v1 k)) ∧ Hp W0 [] W
set_option maxRecDepth 1000000 in
set_option maxHeartbeats 8000000 in
theorem babove_ok (C : Nat → Tm) (p s lo hi : Int) (n : Nat) (v0 v1 : Nat → Int) (w : World) (ht : Tab w) (hC : ∀ i, i < 12 → Tm64 (C i)) (hk : tuE C p = 0) (hs : ptB s) (h0 : 0 ≤ lo) (hn : 0 < n) (hhi : lo + n = hi + 1) (hh : hi + s ≤ 127)
  (hS : ∀ (W : World) (g c : Nat) (L : List (Int × Int)), Tab W → IvsAt W g L → L.length ≤ 200 → (∀ x ∈ L, ivxE x = 0) → Calls Tryz.prog 59 #[.agg (tuL C p).toArray, .slice (some ⟨g, 0, none⟩) L.length c] W fun e w' => e = .returned (.int .i64 0) ∧ Below W.heap.size W w')
  (hB : ∀ k : Nat, k < n → ∀ W, Tab W → Calls Tryz.prog 60 #[.agg (tuL C p).toArray, .agg #[.int .i64 (lo + k), .int .i64 s]] W fun e w' => e = .returned (.tuple #[.agg #[.int .i64 (v0 k), .int .i64 (v1 k)], .int .i64 0]) ∧ Below W.heap.size W w') :
  Calls Tryz.prog 67 #[.agg (tuL C p).toArray, .int .i64 s, .agg #[.int .i64 lo, .int .i64 hi]] w fun e w' => ∃ (A : Option Addr) (c : Nat), e = .returned (.tuple #[.slice A n c, .int .i64 0]) ∧ w'.ownsRow w.heap.size 53 2 (.slice A n c) n (prs42 (bdL v0 v1 n)) ∧ Below w.heap.size w w' := by
 have hs12 : 3 ≤ s ∧ s ≤ 12 := by unfold ptB at hs; omega
 have hck := fun W => bCheck_any C p W hC
 rw [hk] at hck
 have hpt := fun W => bPart_ok s W hs
 obtain ⟨u0, hu0⟩ : ∃ u, u = (ptP s).1 := ⟨_, rfl⟩
 obtain ⟨u1, hu1⟩ : ∃ u, u = (ptP s).2 := ⟨_, rfl⟩
 rw [← hu0, ← hu1] at hpt
 have hcc := fun W => bcomp_ok lo hi W ⟨h0, by omega, by omega⟩
 obtain ⟨hs2, hhs⟩ : ∃ x, x = hi + s := ⟨_, rfl⟩
 have hws : IntKind.i64.wrap (hi + s) = hs2 := by rw [hhs]; exact IntWalk.i64_in _ (by omega)
 have hnt := fun W => bnote_any hs2 W
 rw [show ntB hs2 = true from decide_eq_true (by omega)] at hnt
 have HCK := Lib.hid hck
 have HPT := Lib.hid hpt
 have HCC := Lib.hid hcc
 have HNT := Lib.hid hnt
 have HS := Lib.hid hS
 have HB := Lib.hid hB
 have HT := Lib.hid ht
 have HR := Lib.hid (And.intro h0 (And.intro hn (And.intro hhi (And.intro hh hs12))))
 have HPS := Lib.hid hs
 obtain ⟨i1, hi1, hy0, hy1, hy2⟩ := info_parts infoIv42
 have HI1 := Lib.hid hi1
 have HY0 := Lib.hid hy0
 have HY1 := Lib.hid hy1
 have HY2 := Lib.hid hy2
 obtain ⟨i2, hi2, hz0, hz1, hz2⟩ := info_parts infoBd42
 have HI2 := Lib.hid hi2
 have HZ0 := Lib.hid hz0
 have HZ1 := Lib.hid hz1
 have HZ2 := Lib.hid hz2
 have hm0 := ((Hp.start w).new 41 (tuL C p)).new 80 [.int .i64 lo, .int .i64 hi]
 simp only [World.size_alloc, List.nil_append, List.cons_append] at hm0
 have HM0 := Lib.hid hm0
 obtain ⟨y0, y1⟩ := two_of (hm0.at_ 1 rfl)
 clear hm0 hck hpt hcc hnt hS hB ht h0 hn hhi hh hs12 hs hC hk hu0 hu1 hhs hi1 hy0 hy1 hy2 hi2 hz0 hz1 hz2
 go_enter Tryz.func67, Tryz.ntmps67
 go_wp2_with (refine wpList_load_row rfl 41 _ rfl w.heap.size rfl 41 (tuL C p).toArray (0, 0) _ (HM0.out.at_ 0 rfl) Tryz.underlying41 rfl (by rw [infoTun, List.size_toArray, tuL_len]) ?_)
 refine (HCK.out _).mono ?_
 rintro e w1 ⟨rfl, hb1⟩
 have HM1 := Lib.hid (HM0.out.step hb1)
 clear hb1 HM0 y0 y1
 go_wp2_with fail
 refine (HPT.out _).mono ?_
 rintro e wx ⟨rfl, rfl⟩
 obtain ⟨y0, y1⟩ := two_of (HM1.out.at_ 1 rfl)
 go_wp2_with fail
 refine (HCC.out _).mono ?_
 rintro e w2 ⟨rfl, hb2⟩
 have HM2 := Lib.hid (HM1.out.step hb2)
 clear hb2 HM1 y0 y1
 obtain ⟨y0, y1⟩ := two_of (HM2.out.at_ 1 rfl)
 go_wp2_with fail
 refine (HNT.out _).mono ?_
 rintro e wy ⟨rfl, rfl⟩
 have HSZ := Lib.hid (show w.heap.size + 1 + 1 ≤ w2.heap.size by have := (HM2.out.at_ 1 rfl).lt; omega)
 go_wp2_with fail
 go_loopw [13, 14] (fun u v wr => AbRel w C p lo hi s n u v wr) (fun _ v _ => (hi + 1 - intOf v).toNat)
 case atStart => exact ⟨0, lo, none, 0, by omega, by omega, rfl, rfl, World.ownsRow_nil _ _ _ _, HM2.out, HSZ.out⟩
 case round =>
  obtain ⟨k, z, A, c, hk, hz, rfl, rfl, hown, hm, hsz⟩ := hrel
  have HM := Lib.hid hm
  have HO := Lib.hid hown
  have HZZ := Lib.hid hz
  have hcp := own_cap hown
  clear hm hown HM2 y0 y1 HSZ
  obtain ⟨y0, y1⟩ := two_of (HM.out.at_ 1 rfl)
  by_cases hlt : k < n
  ·have hzl : z ≤ hi := by have := HR.out; omega
   have HLT := Lib.hid (And.intro hlt hsz)
   obtain ⟨z2, hz2⟩ : ∃ z2, z2 = z + 1 := ⟨_, rfl⟩
   have hwz : IntKind.i64.wrap (z + 1) = z2 := by rw [hz2]; exact IntWalk.i64_in _ (by have := HR.out; omega)
   have HZ3 := Lib.hid hz2
   have hkn : k ≤ 127 := by have := HR.out; omega
   clear hz hk hlt hz2
   go_wp2_with (at_builtin; refine wpList_append_own _ rfl _ _ 170 rfl (w.heap.size + 1 + 1) 67 i1 (.agg #[.int .i64 0, .int .i64 0]) 2 16 Tryz.underlying170 HI1.out HY0.out HY1.out HY2.out rfl (by decide) _ _ _ rfl (own_bl HO.out (bw_new (Below.refl _ _) _)) ⟨wr.heap.size, 0, none⟩ 1 1 [.int .i64 z, .int .i64 s] rfl rfl (World.news_of_block (cs := #[.int .i64 z, .int .i64 s]) (t := 67) (fr := (0, 0)) (heap_alloc_new wr _)) (by simp [Value.oneCell']) (by unfold maxLen; omega) (by omega) (by simp; omega) ?_)
   intro v' w4 hown hgrow _
   obtain ⟨g, c2, hv, hc2⟩ := own_form hown (by omega)
   subst hv
   have hm4 : Hp w [(w.heap.size, 41, tuL C p), (w.heap.size + 1, 80, [.int .i64 lo, .int .i64 hi])] w4 := (HM.out.alloc _).grw hgrow (fun q hq => by
    have := (HO.out.lt _ hq).1
    refine ⟨by omega, fun p hp => ?_⟩
    simp only [List.mem_cons, List.not_mem_nil, or_false] at hp
    rcases hp with rfl | rfl
    ·show w.heap.size ≠ q; omega
    ·show w.heap.size + 1 ≠ q; omega)
   have HM4 := Lib.hid hm4
   have hs4 := hgrow.size
   rw [World.size_alloc] at hs4
   have HO4 := Lib.hid hown
   have HS4 := Lib.hid hs4
   clear hown hgrow hm4 hs4 y0 y1
   go_wp2_with fail
   go_roundw
   case rel =>
    refine ⟨k + 1, z2, _, _, by have := HLT.out.1; omega, by rw [HZ3.out, HZZ.out]; omega, rfl, rfl, ?_, HM4.out, by have := HS4.out; omega⟩
    rw [ivL_succ, prs42_app, ← HZZ.out]
    exact HO4.out
   case measure => have := HZ3.out; simp [intOf]; omega
  ·obtain rfl : k = n := by omega
   have hzl : ¬ z ≤ hi := by have := HR.out; omega
   have hLen := ivL_len lo s k
   obtain ⟨g, c2, hv, hc2⟩ := own_form HO.out HR.out.2.1
   injection hv with e1 e2 e3
   subst e1 e3
   have hiv := ivs_own HO.out hLen.symm
   have HIV := Lib.hid hiv
   have hss := HS.out wr g c (ivL lo s k) (HT.out.below HM.out.below) hiv (by rw [hLen]; have := HR.out; omega) (fun x hx => by
    unfold ivL at hx
    obtain ⟨i, hi', rfl⟩ := List.mem_map.1 hx
    rw [List.mem_range] at hi'
    have := HR.out
    unfold ivxE
    rw [if_neg (fun h => h HPS.out), if_pos ⟨by dsimp only; omega, by dsimp only; omega, by dsimp only; omega⟩])
   rw [hLen] at hss
   have HSS := Lib.hid hss
   clear hss hiv hlt hk hz hLen hc2 e2
   go_wp2_with (first | (refine wpList_load_row rfl 41 _ rfl w.heap.size rfl 41 (tuL C p).toArray (0, 0) _ (HM.out.at_ 0 rfl) Tryz.underlying41 rfl (by rw [infoTun, List.size_toArray, tuL_len]) ?_))
   refine HSS.out.mono ?_
   rintro e W0 ⟨rfl, hb4⟩
   have HM4 := Lib.hid (HM.out.step hb4)
   have HIV4 := Lib.hid (HIV.out.below hb4)
   have HTU := Lib.hid (fun (W : World) (hb : Below W0.heap.size W0 W) => (HM4.out.at_ 0 rfl).below hb (HM4.out.at_ 0 rfl).lt)
   clear hb4 HM HIV HO y0 y1 hcp hsz HSS
   go_wp2_with fail
   go_loopw [16, 68] (fun u v wx => AcRel W0 v0 v1 k u v wx) (fun _ v _ => k - (intOf v).toNat)
   case atStart => exact ⟨0, none, 0, by omega, rfl, rfl, World.ownsRow_nil _ _ _ _, Hp.start W0⟩
   case round =>
    obtain ⟨j, A2, c2, hj, rfl, rfl, hown, hm⟩ := hrel
    have HM := Lib.hid hm
    have HO := Lib.hid hown
    have hcp := own_cap hown
    clear hm hown
    by_cases hjt : j < k
    ·obtain ⟨c0, c1⟩ := (HIV4.out.below HM.out.below).2 j (by rw [ivL_len]; exact hjt)
     rw [ivL_get] at c0 c1
     dsimp only at c0 c1
     obtain ⟨z3, hz3⟩ : ∃ z3 : Int, z3 = lo + (j : Int) := ⟨_, rfl⟩
     have hbt := HB.out j hjt
     rw [← hz3] at c0 hbt
     obtain ⟨b0, hb0⟩ : ∃ b, b = v0 j := ⟨_, rfl⟩
     obtain ⟨b1, hb1⟩ : ∃ b, b = v1 j := ⟨_, rfl⟩
     rw [← hb0, ← hb1] at hbt
     have HBT := Lib.hid hbt
     have HBV := Lib.hid (And.intro hb0 hb1)
     have hjk : (j : Int) < (k : Int) := by omega
     have HJ := Lib.hid hjt
     have hjn : j ≤ 127 := by have := HR.out; omega
     have hm5 := HM.out.new 67 [.int .i64 z3, .int .i64 s]
     simp only [List.nil_append] at hm5
     have HM5 := Lib.hid hm5
     have HO5 := Lib.hid (own_bl HO.out (bw_new (Below.refl _ _) (.cells #[.int .i64 z3, .int .i64 s] 67)))
     obtain ⟨y0, y1⟩ := two_of (hm5.at_ 0 rfl)
     clear hbt hb0 hb1 hz3 hm5 hjt hj
     go_wp2_with (first | (refine wpList_load_row rfl 41 _ rfl w.heap.size rfl 41 (tuL C p).toArray (0, 0) _ (HTU.out _ HM5.out.below) Tryz.underlying41 rfl (by rw [infoTun, List.size_toArray, tuL_len]) ?_))
     refine (HBT.out _ ((HT.out.below HM4.out.below).below HM5.out.below)).mono ?_
     rintro e w5 ⟨rfl, hb5⟩
     have hm6 := (HM5.out.step hb5).new 53 [.int .i64 b0, .int .i64 b1]
     simp only [List.nil_append, List.cons_append] at hm6
     have HM6 := Lib.hid hm6
     have HO6 := Lib.hid (own_bl (own_bl HO5.out hb5) (bw_new (Below.refl _ _) (.cells #[.int .i64 b0, .int .i64 b1] 53)))
     obtain ⟨y2, y3⟩ := two_of (hm6.at_ 1 rfl)
     clear hb5 hm6 HM5 HO5 y0 y1 c0 c1
     go_wp2_with (at_builtin; refine wpList_append_own _ rfl _ _ 91 rfl W0.heap.size 53 i2 (.agg #[.int .i64 0, .int .i64 0]) 2 16 Tryz.underlying91 HI2.out HZ0.out HZ1.out HZ2.out rfl (by decide) _ _ _ rfl (own_bl HO6.out (bw_new (Below.refl _ _) _)) ⟨w5.heap.size + 1, 0, none⟩ 1 1 [.int .i64 b0, .int .i64 b1] rfl rfl ?cells (by simp [Value.oneCell']) (by unfold maxLen; omega) (by omega) (by simp; have := HM6.out.below.size; simp at this; omega) ?_)
     case cells =>
      have hcn := heap_alloc_new (w5.alloc (.cells #[.int .i64 b0, .int .i64 b1] 53)) (.cells #[.int .i64 b0, .int .i64 b1] 53)
      rw [World.size_alloc] at hcn
      exact World.news_of_block (cs := #[.int .i64 b0, .int .i64 b1]) (t := 53) (fr := (0, 0)) hcn
     intro v' w6 hown hgrow _
     obtain ⟨g3, c3, hv, hc3⟩ := own_form hown (by omega)
     subst hv
     have hm7 : Hp W0 [] w6 := ((HM6.out.alloc _).sub (List.nil_sublist _)).grw hgrow (fun q hq => ⟨(HO6.out.lt _ hq).1, fun p hp => absurd hp List.not_mem_nil⟩)
     have HM7 := Lib.hid hm7
     have HO7 := Lib.hid hown
     clear hown hgrow hm7 y2 y3
     go_wp2_with fail
     go_roundw
     case rel =>
      refine ⟨j + 1, _, _, by have := HJ.out; omega, rfl, rfl, ?_, HM7.out⟩
      rw [bdL_succ, prs42_app, ← HBV.out.1, ← HBV.out.2]
      exact HO7.out
     case measure => have := HJ.out; simp only [intOf]; omega
    ·obtain rfl : j = k := by omega
     have HZ := Lib.hid (HM4.out.step HM.out.below)
     clear hjt hj
     go_wp2_with fail
     exact bodyPost_ret (v := .tuple #[.slice A2 j c2, .int .i64 0]) (by simp [results, Tryz.results67, go_sem]) rfl ⟨A2, c2, rfl, own_lw HO.out HM4.out.below.size, HZ.out.below⟩
def riT (v0 v1 : Nat → Int) (lo : Int) : Nat → Nat → Int × Bool
 | 0, _ => (0, true)
 | m + 1, j => if v0 (j + 1) ≤ v1 j then (lo + j, false) else riT v0 v1 lo m (j + 1)
def RiRel (w : World) (C : Nat → Tm) (p lo hi : Int) (v0 v1 : Nat → Int) (n : Nat) (T : Int × Bool) (i : Value) (W : World) : Prop :=
 ∃ j : Nat, j < n ∧ i = .int .i64 ((j + 1 : Nat) : Int) ∧ T = riT v0 v1 lo (n - 1 - j) j ∧ Hp w [(w.heap.size, 41, tuL C p), (w.heap.size + 1, 80, [.int .i64 lo, .int .i64 hi])] W
set_option maxRecDepth 1000000 in
set_option maxHeartbeats 8000000 in
theorem brising_ok (C : Nat → Tm) (p s lo hi : Int) (n : Nat) (v0 v1 : Nat → Int) (w : World) (ht : Tab w) (h0 : 0 ≤ lo ∧ lo ≤ 127) (hn : 0 < n ∧ n ≤ 128)
  (hA : ∀ W, Tab W → Calls Tryz.prog 67 #[.agg (tuL C p).toArray, .int .i64 s, .agg #[.int .i64 lo, .int .i64 hi]] W fun e w' => ∃ (A : Option Addr) (c : Nat), e = .returned (.tuple #[.slice A n c, .int .i64 0]) ∧ w'.ownsRow W.heap.size 53 2 (.slice A n c) n (prs42 (bdL v0 v1 n)) ∧ Below W.heap.size W w') :
  Calls Tryz.prog 32 #[.agg (tuL C p).toArray, .int .i64 s, .agg #[.int .i64 lo, .int .i64 hi]] w fun e w' => e = .returned (.tuple #[.int .i64 (riT v0 v1 lo (n - 1) 0).1, .bool (riT v0 v1 lo (n - 1) 0).2, .int .i64 0]) ∧ Below w.heap.size w w' := by
 obtain ⟨T, hT0⟩ : ∃ T, T = riT v0 v1 lo (n - 1) 0 := ⟨_, rfl⟩
 rw [← hT0]
 have HTT := Lib.hid hT0
 have HA := Lib.hid hA
 have HT := Lib.hid ht
 have HR := Lib.hid (And.intro h0 hn)
 have hm0 := ((Hp.start w).new 41 (tuL C p)).new 80 [.int .i64 lo, .int .i64 hi]
 simp only [World.size_alloc, List.nil_append, List.cons_append] at hm0
 have HM0 := Lib.hid hm0
 obtain ⟨y0, y1⟩ := two_of (hm0.at_ 1 rfl)
 clear hm0 hA ht h0 hn hT0
 go_enter Tryz.func32, Tryz.ntmps32
 go_wp2_with (refine wpList_load_row rfl 41 _ rfl w.heap.size rfl 41 (tuL C p).toArray (0, 0) _ (HM0.out.at_ 0 rfl) Tryz.underlying41 rfl (by rw [infoTun, List.size_toArray, tuL_len]) ?_)
 refine (HA.out _ (HT.out.below HM0.out.below)).mono ?_
 rintro e W0 ⟨A, c, rfl, hown, hb1⟩
 obtain ⟨g, c2, hv, hc2⟩ := own_form hown HR.out.2.1
 injection hv with e1 e2 e3
 subst e1 e3
 have HIV := Lib.hid (ivs_own hown (bdL_len v0 v1 n).symm)
 have HM1 := Lib.hid (HM0.out.step hb1)
 clear hown hb1 HM0 y0 y1 e2 hc2
 go_wp2_with fail
 go_loopw [10] (fun i wr => RiRel w C p lo hi v0 v1 n T i wr ∧ Hp W0 [] wr) (fun i _ => n + 1 - (intOf i).toNat)
 case atStart => exact ⟨⟨0, HR.out.2.1, rfl, HTT.out, HM1.out⟩, Hp.start W0⟩
 case round =>
  obtain ⟨⟨j, hj, rfl, hTj, hm⟩, hw0⟩ := hrel
  have HM := Lib.hid hm
  have HW0 := Lib.hid hw0
  have HTJ := Lib.hid hTj
  obtain ⟨k, hk⟩ : ∃ k : Nat, k = j + 1 := ⟨_, rfl⟩
  rw [← hk]
  have HK := Lib.hid hk
  clear hm hw0 hTj HM1
  by_cases hlt : k < n
  ·have hiv := (HIV.out.below HW0.out.below).2
   obtain ⟨-, c1⟩ := hiv j (by rw [bdL_len]; omega)
   obtain ⟨c2', -⟩ := hiv k (by rw [bdL_len]; omega)
   rw [bdL_get] at c1 c2'
   dsimp only at c1 c2'
   obtain ⟨x, hx⟩ : ∃ x, x = v1 j := ⟨_, rfl⟩
   obtain ⟨y, hy⟩ : ∃ x, x = v0 k := ⟨_, rfl⟩
   rw [← hx] at c1
   rw [← hy] at c2'
   obtain ⟨z, hz⟩ : ∃ z : Int, z = (j : Int) := ⟨_, rfl⟩
   have hwz : IntKind.i64.wrap ((k : Int) - 1) = z := by rw [hz, hk]; exact (IntWalk.i64_in _ (by have := HR.out; omega)).trans (by omega)
   have hz0 : 0 ≤ z := by omega
   have hzn : z < (n : Int) := by omega
   have hkn : (k : Int) < (n : Int) := by omega
   rw [show j * 2 + 1 = z.toNat * 2 + 1 by omega] at c1
   have HXY := Lib.hid (And.intro hx (And.intro hy hz))
   have hst : T = if y ≤ x then (lo + z, false) else riT v0 v1 lo (n - 1 - k) k := by
    rw [HTJ.out, show n - 1 - j = (n - 1 - k) + 1 by omega]
    show (if v0 (j + 1) ≤ v1 j then (lo + (j : Int), false) else riT v0 v1 lo (n - 1 - k) (j + 1)) = _
    rw [← hk, ← hx, ← hy, ← hz]
   have HST := Lib.hid hst
   obtain ⟨q1, hq1⟩ : ∃ q, q = lo + (k : Int) := ⟨_, rfl⟩
   obtain ⟨q2, hq2⟩ : ∃ q, q = lo + z := ⟨_, rfl⟩
   have hw1 : IntKind.i64.wrap (lo + (k : Int)) = q1 := by rw [hq1]; exact IntWalk.i64_in _ (by have := HR.out; omega)
   have hw2 : IntKind.i64.wrap (q1 - 1) = q2 := by rw [hq1, hq2, hz, hk]; exact (IntWalk.i64_in _ (by have := HR.out; omega)).trans (by omega)
   have HQ2 := Lib.hid hq2
   have HLT := Lib.hid (And.intro hlt hj)
   obtain ⟨k2, hk2⟩ : ∃ k2 : Int, k2 = (k : Int) + 1 := ⟨_, rfl⟩
   have hwk : IntKind.i64.wrap ((k : Int) + 1) = k2 := by rw [hk2]; exact IntWalk.i64_in _ (by have := HR.out; omega)
   have HK2 := Lib.hid hk2
   obtain ⟨p0, p1⟩ := two_of (HM.out.at_ 1 rfl)
   clear hx hy hz hst hq1 hq2 hk2 hk hlt hj hiv
   by_cases hxy : y ≤ x
   ·have HE := Lib.hid (HST.out.trans (if_pos hxy))
    go_wp2_with fail
    go_quiet (fail)
    have HN := Lib.hid (HM.out.drewN nq)
    obtain ⟨s0, s1⟩ := two_of (HN.out.at_ 1 rfl)
    clear p0 p1 c1 c2'
    go_wp2_with fail
    exact bodyPost_ret (v := .tuple #[.int .i64 q2, .bool false, .int .i64 0]) (by simp [results, Tryz.results32, go_sem]) rfl ⟨by rw [HE.out, HQ2.out], HN.out.below⟩
   ·have HE := Lib.hid (HST.out.trans (if_neg hxy))
    go_wp2_with fail
    go_quiet (fail)
    have HN := Lib.hid (HM.out.drewN nq)
    have HN0 := Lib.hid (HW0.out.drewN nq)
    clear p0 p1 c1 c2'
    go_wp2_with fail
    go_roundw
    case rel => exact ⟨⟨k, HLT.out.1, by rw [HK2.out]; rfl, HE.out, HN.out⟩, HN0.out⟩
    case measure => have := HK2.out; have := HLT.out; simp only [intOf]; omega
  ·have HE := Lib.hid (show T = (0, true) by rw [HTJ.out, show n - 1 - j = 0 by omega]; rfl)
   have hkn : ¬ (k : Int) < (n : Int) := by omega
   clear hlt hk hj
   go_wp2_with fail
   exact bodyPost_ret (v := .tuple #[.int .i64 0, .bool true, .int .i64 0]) (by simp [results, Tryz.results32, go_sem]) rfl ⟨by rw [HE.out], HM.out.below⟩
theorem eq_vP (n : Nat) : vP (nmD 0) (nmP 0) (nmQ 0) n = ((n : Int), 0, 0) := by
 unfold vP
 have h : ∀ k : Nat, k < 12 → vN (nmD 0) (nmP 0) (nmQ 0) k = ((k : Int), 0, 0) := by decide
 rw [h (n % 12) (Nat.mod_lt _ (by decide))]
 show (((n % 12 : Nat) : Int) + 12 * ((n / 12 : Nat) : Int), (0 : Int), (0 : Int)) = _
 congr 1
 omega
theorem eq_vB (m n : Nat) : vB (nmD 0) (nmP 0) (nmQ 0) m n = ((n : Int) - m, 0, 0) := by
 unfold vB
 rw [eq_vP, eq_vP]
 rfl
theorem eq_frT (p : Int) (n : Nat) : frT (nmD 0) (nmP 0) (nmQ 0) p n = (p * (rtT ((n : Int) - 69) 0 0 12).1, p * (rtT ((n : Int) - 69) 0 0 12).2.1, (rtT ((n : Int) - 69) 0 0 12).2.2) := by
 unfold frT
 rw [eq_vB]
 rfl
theorem eq_dr (l : Nat) (s : Nat) (t : Int) (e : Int) (h : sgn (lgZ ((s : Int) - 12 * (ppE t).1) (0 - 12 * (ppE t).2.1) (0 - 12 * (ppE t).2.2)) = e) : drT (nmD 0) (nmP 0) (nmQ 0) l (l + s) t = e := by
 unfold drT
 rw [eq_vB, ← h]
 show sgn (lgZ (((l + s : Nat) : Int) - l - 12 * (ppE t).1) (0 - 12 * (ppE t).2.1) (0 - 12 * (ppE t).2.2)) = _
 rw [show ((l + s : Nat) : Int) - l = (s : Int) by omega]
theorem eq_five (l : Nat) : drT (nmD 0) (nmP 0) (nmQ 0) l (l + 7) 7 = -1 := eq_dr l 7 7 _ (by decide)
theorem eq_three (l : Nat) : drT (nmD 0) (nmP 0) (nmQ 0) l (l + 4) 4 = 1 := eq_dr l 4 4 _ (by decide)
theorem eq_eight (l : Nat) : drT (nmD 0) (nmP 0) (nmQ 0) l (l + 12) 12 = 0 := eq_dr l 12 12 _ (by decide)
theorem eq_er (p : Int) (n : Nat) (hn : n ≤ 127) : (frT (nmD 0) (nmP 0) (nmQ 0) p n).2.2 = 0 := by
 rw [eq_frT]
 dsimp only
 have hU : (0 : Int) ≤ lgU := by decide
 have h1 : ¬ (lgZ ((n : Int) - 69 + 7 * 12) 0 0 < 0 ∨ 0 < lgZ ((n : Int) - 69 - 7 * 12) 0 0) := by
  rw [lg_eq, lg_eq]
  have a1 : 0 ≤ ((n : Int) - 69 + 7 * 12) * lgU := Int.mul_nonneg (by omega) hU
  have a2 : ((n : Int) - 69 - 7 * 12) * lgU ≤ 0 := Int.mul_nonpos_of_nonpos_of_nonneg (by omega) hU
  simp only [Int.zero_mul, Int.add_zero]
  omega
 unfold rtT
 rw [if_neg h1]
theorem eq_octv (p : Int) (l : Nat) (hl : l + 12 ≤ 127) : bbT (nmD 0) (nmP 0) (nmQ 0) p l (l + 12) 12 = (0, 0, 0) := by
 unfold bbT btT
 rw [eq_er p l (by omega), eq_er p (l + 12) hl, eq_eight]
 rfl
def eqTb : Nat → Int × Int
 | 0 => (297301, 297302)
 | 1 => (314980, 314981)
 | 2 => (333709, 333710)
 | 3 => (353553, 353554)
 | 4 => (374576, 374577)
 | 5 => (396850, 396851)
 | 6 => (420448, 420449)
 | 7 => (445449, 445450)
 | 8 => (471937, 471938)
 | 9 => (500000, 500000)
 | 10 => (529731, 529732)
 | 11 => (561231, 561232)
 | 12 => (594603, 594604)
 | 13 => (629960, 629961)
 | 14 => (667419, 667420)
 | 15 => (707106, 707107)
 | 16 => (749153, 749154)
 | 17 => (793700, 793701)
 | 18 => (840896, 840897)
 | 19 => (890898, 890899)
 | _ => (0, 0)
theorem eq_rt (k : Nat) (hk : k < 20) : rtT ((k : Int) - 21) 0 0 12 = ((eqTb k).1, (eqTb k).2, 0) := by
 match k, hk with
 | 0, _ => exact rtT_at 297301 297302 (by omega) (by omega) (by omega) (by omega) (by decide) (by decide) (by decide) (by decide) (by decide)
 | 1, _ => exact rtT_at 314980 314981 (by omega) (by omega) (by omega) (by omega) (by decide) (by decide) (by decide) (by decide) (by decide)
 | 2, _ => exact rtT_at 333709 333710 (by omega) (by omega) (by omega) (by omega) (by decide) (by decide) (by decide) (by decide) (by decide)
 | 3, _ => exact rtT_at 353553 353554 (by omega) (by omega) (by omega) (by omega) (by decide) (by decide) (by decide) (by decide) (by decide)
 | 4, _ => exact rtT_at 374576 374577 (by omega) (by omega) (by omega) (by omega) (by decide) (by decide) (by decide) (by decide) (by decide)
 | 5, _ => exact rtT_at 396850 396851 (by omega) (by omega) (by omega) (by omega) (by decide) (by decide) (by decide) (by decide) (by decide)
 | 6, _ => exact rtT_at 420448 420449 (by omega) (by omega) (by omega) (by omega) (by decide) (by decide) (by decide) (by decide) (by decide)
 | 7, _ => exact rtT_at 445449 445450 (by omega) (by omega) (by omega) (by omega) (by decide) (by decide) (by decide) (by decide) (by decide)
 | 8, _ => exact rtT_at 471937 471938 (by omega) (by omega) (by omega) (by omega) (by decide) (by decide) (by decide) (by decide) (by decide)
 | 9, _ => exact rtT_at 500000 500000 (by omega) (by omega) (by omega) (by omega) (by decide) (by decide) (by decide) (by decide) (by decide)
 | 10, _ => exact rtT_at 529731 529732 (by omega) (by omega) (by omega) (by omega) (by decide) (by decide) (by decide) (by decide) (by decide)
 | 11, _ => exact rtT_at 561231 561232 (by omega) (by omega) (by omega) (by omega) (by decide) (by decide) (by decide) (by decide) (by decide)
 | 12, _ => exact rtT_at 594603 594604 (by omega) (by omega) (by omega) (by omega) (by decide) (by decide) (by decide) (by decide) (by decide)
 | 13, _ => exact rtT_at 629960 629961 (by omega) (by omega) (by omega) (by omega) (by decide) (by decide) (by decide) (by decide) (by decide)
 | 14, _ => exact rtT_at 667419 667420 (by omega) (by omega) (by omega) (by omega) (by decide) (by decide) (by decide) (by decide) (by decide)
 | 15, _ => exact rtT_at 707106 707107 (by omega) (by omega) (by omega) (by omega) (by decide) (by decide) (by decide) (by decide) (by decide)
 | 16, _ => exact rtT_at 749153 749154 (by omega) (by omega) (by omega) (by omega) (by decide) (by decide) (by decide) (by decide) (by decide)
 | 17, _ => exact rtT_at 793700 793701 (by omega) (by omega) (by omega) (by omega) (by decide) (by decide) (by decide) (by decide) (by decide)
 | 18, _ => exact rtT_at 840896 840897 (by omega) (by omega) (by omega) (by omega) (by decide) (by decide) (by decide) (by decide) (by decide)
 | 19, _ => exact rtT_at 890898 890899 (by omega) (by omega) (by omega) (by omega) (by decide) (by decide) (by decide) (by decide) (by decide)
 | n + 20, h => omega
theorem eq_fr (p : Int) (k : Nat) (hk : k < 20) : frT (nmD 0) (nmP 0) (nmQ 0) p (48 + k) = (p * (eqTb k).1, p * (eqTb k).2, 0) := by
 rw [eq_frT, show ((48 + k : Nat) : Int) - 69 = (k : Int) - 21 by omega, eq_rt k hk]
theorem eq_bt (p : Int) (k : Nat) (hk : k < 13) : bbT (nmD 0) (nmP 0) (nmQ 0) p (48 + k) (48 + k + 7) 7 = (max 0 (p * (3 * (eqTb k).1 - 2 * (eqTb (k + 7)).2)), p * (3 * (eqTb k).2 - 2 * (eqTb (k + 7)).1), 0) := by
 unfold bbT
 rw [eq_five, Nat.add_assoc, eq_fr p k (by omega), eq_fr p (k + 7) (by omega)]
 show btT 3 2 (-1) _ _ 0 _ _ 0 = _
 unfold btT
 rw [if_neg (by simp), if_neg (by simp), if_neg (by decide), if_pos rfl, Int.mul_sub, Int.mul_sub, Int.mul_left_comm p 3, Int.mul_left_comm p 2, Int.mul_left_comm p 3, Int.mul_left_comm p 2]
theorem eq_lt (k : Nat) (hk : k < 12) : 3 * (eqTb k).2 - 2 * (eqTb (k + 7)).1 < 3 * (eqTb (k + 1)).1 - 2 * (eqTb (k + 8)).2 := by
 match k, hk with

 | 0, _ | 1, _ | 2, _ | 3, _ | 4, _ | 5, _ | 6, _ | 7, _ | 8, _ | 9, _ | 10, _ | 11, _ => decide
 | n + 12, h => omega
theorem eq_rise (p lo : Int) (hp : 0 < p) (v0 v1 : Nat → Int) (h0 : ∀ k, k < 13 → v0 k = max 0 (p * (3 * (eqTb k).1 - 2 * (eqTb (k + 7)).2))) (h1 : ∀ k, k < 13 → v1 k = p * (3 * (eqTb k).2 - 2 * (eqTb (k + 7)).1)) :
  ∀ m j : Nat, m + j ≤ 12 → riT v0 v1 lo m j = (0, true)
 | 0, _, _ => rfl
 | m + 1, j, h => by
  have hlt := Int.mul_lt_mul_of_pos_left (eq_lt j (by omega)) hp
  unfold riT
  rw [if_neg, eq_rise p lo hp v0 v1 h0 h1 m (j + 1) (by omega)]
  rw [h0 (j + 1) (by omega), h1 j (by omega), show j + 1 + 7 = j + 8 by omega]
  have := Int.le_max_right 0 (p * (3 * (eqTb (j + 1)).1 - 2 * (eqTb (j + 8)).2))
  omega
theorem mt_zero (p : Int) (k : Nat) (hk : k ∈ [0, 2, 3, 4, 5, 7, 9, 10]) : bbT (nmD 2) (nmP 2) (nmQ 2) p (60 + k) (60 + k + 4) 4 = (0, 0, 0) := by
 have h : ∀ k : Nat, k ∈ [0, 2, 3, 4, 5, 7, 9, 10] → drT (nmD 2) (nmP 2) (nmQ 2) (60 + k) (60 + k + 4) 4 = 0 := by decide
 have f : ∀ n : Nat, n < 75 → 60 ≤ n → (frT (nmD 2) (nmP 2) (nmQ 2) p n).2.2 = 0 := fun n h1 h2 => by
  have g : ∀ i : Nat, i < 15 → ¬ (lgZ ((vB (nmD 2) (nmP 2) (nmQ 2) 69 (60 + i)).1 + 7 * nmD 2) (vB (nmD 2) (nmP 2) (nmQ 2) 69 (60 + i)).2.1 (vB (nmD 2) (nmP 2) (nmQ 2) 69 (60 + i)).2.2 < 0 ∨ 0 < lgZ ((vB (nmD 2) (nmP 2) (nmQ 2) 69 (60 + i)).1 - 7 * nmD 2) (vB (nmD 2) (nmP 2) (nmQ 2) 69 (60 + i)).2.1 (vB (nmD 2) (nmP 2) (nmQ 2) 69 (60 + i)).2.2) := by decide
  have := g (n - 60) (by omega)
  rw [show 60 + (n - 60) = n by omega] at this
  unfold frT rtT
  dsimp only
  rw [if_neg this]
 have hk10 : k ≤ 10 := by
  simp only [List.mem_cons, List.not_mem_nil, or_false] at hk
  omega
 unfold bbT btT
 rw [f (60 + k) (by omega) (by omega), f (60 + k + 4) (by omega) (by omega), h k hk]
 rfl
abbrev mtL : List Int := [0, 2, 3, 4, 5, 7, 9, 10]
def LqRel (w : World) (C M : Nat → Tm) (p : Int) (gM gT : Nat) (A : Option Addr) (c : Nat) (i : Value) (W : World) : Prop :=
 ∃ k : Nat, k ≤ 8 ∧ i = .int .i64 (k : Int) ∧ Hp w [(gM, 38, cirL M), (gT, 41, tuL C p)] W ∧ W.ownsRow w.heap.size 3 1 (.slice A 8 c) 8 (mtL.map i64z)
set_option maxRecDepth 1000000 in
set_option maxHeartbeats 8000000 in
theorem leq42_gen (q t p k r : Int) (C M : Nat → Tm) (w : World) (ht : Tab w) (hq : 0 ≤ q ∧ q < 65536) (ht0 : 0 ≤ t ∧ t < 256) (hp : p = 100 + q % 901) (hk : k = 24 + t % 73)
  (hN1 : ∀ W, Calls Tryz.prog 31 #[.string (nmS 0)] W fun e w' => e = .returned (.tuple #[.agg (cirL C).toArray, .int .i64 0]) ∧ Below W.heap.size W w')
  (hN2 : ∀ W, Calls Tryz.prog 31 #[.string (nmS 2)] W fun e w' => e = .returned (.tuple #[.agg (cirL M).toArray, .int .i64 0]) ∧ Below W.heap.size W w')
  (hD1 : ∀ W, Tab W → Calls Tryz.prog 26 #[.agg (tuL C p).toArray, .agg #[.int .i64 k, .int .i64 7]] W fun e w' => e = .returned (.tuple #[.int .i64 (-1), .int .i64 0]) ∧ Below W.heap.size W w')
  (hD2 : ∀ W, Tab W → Calls Tryz.prog 26 #[.agg (tuL C p).toArray, .agg #[.int .i64 k, .int .i64 4]] W fun e w' => e = .returned (.tuple #[.int .i64 1, .int .i64 0]) ∧ Below W.heap.size W w')
  (hD3 : ∀ W, Tab W → Calls Tryz.prog 26 #[.agg (tuL C p).toArray, .agg #[.int .i64 k, .int .i64 12]] W fun e w' => e = .returned (.tuple #[.int .i64 0, .int .i64 0]) ∧ Below W.heap.size W w')
  (hB1 : ∀ W, Tab W → Calls Tryz.prog 27 #[.agg (tuL C p).toArray, .agg #[.int .i64 k, .int .i64 12]] W fun e w' => e = .returned (.tuple #[.agg #[.int .i64 0, .int .i64 0], .int .i64 0]) ∧ Below W.heap.size W w')
  (hRI : ∀ W, Tab W → Calls Tryz.prog 32 #[.agg (tuL C p).toArray, .int .i64 7, .agg #[.int .i64 48, .int .i64 60]] W fun e w' => e = .returned (.tuple #[.int .i64 r, .bool true, .int .i64 0]) ∧ Below W.heap.size W w')
  (hTH : ∀ W, Calls Tryz.prog 33 #[.string ⟨#[116, 104, 105, 114, 100]⟩] W fun e w' => e = .returned (.tuple #[szv (-2) 1 0 1 1 1, .int .i64 0]) ∧ Below W.heap.size W w')
  (hPU : ∀ W, Tab W → Calls Tryz.prog 34 #[.agg (cirL M).toArray, .int .i64 4, szv (-2) 1 0 1 1 1] W fun e w' => ∃ (A : Option Addr) (c : Nat), e = .returned (.tuple #[.slice A 8 c, .int .i64 0]) ∧ w'.ownsRow W.heap.size 3 1 (.slice A 8 c) 8 (mtL.map i64z) ∧ Below W.heap.size W w')
  (hB2 : ∀ x ∈ mtL, ∀ W, Tab W → Calls Tryz.prog 27 #[.agg (tuL M p).toArray, .agg #[.int .i64 (60 + x), .int .i64 4]] W fun e w' => e = .returned (.tuple #[.agg #[.int .i64 0, .int .i64 0], .int .i64 0]) ∧ Below W.heap.size W w')
  (hWH : ∀ W, Calls Tryz.prog 35 #[.int .i64 8] W fun e w' => e = .returned (.tuple #[.agg #[.int .i64 8, .int .i64 1], .int .i64 0]) ∧ Below W.heap.size W w') :
  Calls Tryz.prog 8 #[.int .u16 q, .int .u8 t] w fun e w' => e = .returned (.bool true) ∧ Below w.heap.size w w' := by
 obtain ⟨m, hm⟩ : ∃ m, m = q % 901 := ⟨_, rfl⟩
 have h1 : q.tmod 901 = m := by rw [Int.tmod_eq_emod_of_nonneg hq.1, hm]
 have h2 : IntKind.u16.wrap m = m := by unfold IntKind.wrap; simp [IntKind.bits, IntKind.signed]; omega
 have h3 : IntKind.i64.wrap m = m := IntWalk.i64_in _ (by omega)
 have h4 : IntKind.i64.wrap (100 + m) = p := by rw [hp, hm]; exact IntWalk.i64_in _ (by omega)
 obtain ⟨n, hn⟩ : ∃ m, m = t % 73 := ⟨_, rfl⟩
 have g1 : t.tmod 73 = n := by rw [Int.tmod_eq_emod_of_nonneg ht0.1, hn]
 have g2 : IntKind.u8.wrap n = n := by unfold IntKind.wrap; simp [IntKind.bits, IntKind.signed]; omega
 have g3 : IntKind.i64.wrap n = n := IntWalk.i64_in _ (by omega)
 have g4 : IntKind.i64.wrap (24 + n) = k := by rw [hk, hn]; exact IntWalk.i64_in _ (by omega)
 have HW := Lib.hid (And.intro (And.intro h1 (And.intro h2 (And.intro h3 h4))) (And.intro g1 (And.intro g2 (And.intro g3 g4))))
 have HKN := Lib.hid (fun W hT => bknown_any W hT)
 have HT := Lib.hid ht
 have HN1 := Lib.hid hN1
 have HN2 := Lib.hid hN2
 have HD1 := Lib.hid hD1
 have HD2 := Lib.hid hD2
 have HD3 := Lib.hid hD3
 have HB1 := Lib.hid hB1
 have HRI := Lib.hid hRI
 have HTH := Lib.hid hTH
 have HPU := Lib.hid hPU
 have HB2 := Lib.hid hB2
 have HWH := Lib.hid hWH
 clear ht hq ht0 hp hk h1 h2 h3 h4 g1 g2 g3 g4 hm hn hN1 hN2 hD1 hD2 hD3 hB1 hRI hTH hPU hB2 hWH
 go_enter Tryz.func8, Tryz.ntmps8
 go_wp2_with fail
 refine (HKN.out _ HT.out).mono ?_
 rintro e w1 ⟨rfl, hb1⟩
 have HM1 := Lib.hid ((Hp.start w).step hb1)
 clear hb1
 go_wp2_with fail
 refine (HN1.out _).mono ?_
 rintro e w2 ⟨rfl, hb2⟩
 have hm2 := (HM1.out.step hb2).new 38 (cirL (fun _ => (0, 0, 0, 0)))
 simp only [List.nil_append, List.cons_append] at hm2
 have HM2 := Lib.hid hm2
 have HM3 := Lib.hid ((hm2.row 0 rfl (cirL C)).cast (L' := [(w2.heap.size, 38, cirL C)]) rfl)
 clear hb2 HM1 hm2
 go_wp2_with (first | (refine wpList_store_rowTo rfl 38 _ _ rfl rfl (w2.heap.size) (cirL C).toArray rfl rfl 38 (cirL (fun _ => (0, 0, 0, 0))).toArray (HM2.out.at_ 0 rfl) (by rw [infoCircle, List.size_toArray, cirL_len]) (by rw [List.size_toArray, List.size_toArray, cirL_len, cirL_len]) (cir_one _) ?_))
 refine (HN2.out _).mono ?_
 rintro e w3 ⟨rfl, hb3⟩
 have hm4 := (HM3.out.step hb3).new 38 (cirL (fun _ => (0, 0, 0, 0)))
 simp only [List.nil_append, List.cons_append] at hm4
 have HM4 := Lib.hid hm4
 have hm5 := (hm4.row 1 rfl (cirL M)).cast (L' := [(w2.heap.size, 38, cirL C), (w3.heap.size, 38, cirL M)]) rfl
 have HM5 := Lib.hid hm5
 have hm6 := hm5.new 41 (tuL (fun _ => (0, 0, 0, 0)) 0)
 have HM6 := Lib.hid (hm6.cast (L' := [(w2.heap.size, 38, cirL C), (w3.heap.size, 38, cirL M), (w3.heap.size + 1, 41, tuL (fun _ => (0, 0, 0, 0)) 0)]) (by simp))
 have HM7 := Lib.hid ((HM6.out.row 2 rfl (tuL C p)).cast (L' := [(w2.heap.size, 38, cirL C), (w3.heap.size, 38, cirL M), (w3.heap.size + 1, 41, tuL C p)]) rfl)
 obtain ⟨⟨h1, h2, h3, h4⟩, g1, g2, g3, g4⟩ := HW.out
 clear hb3 HM3 HM2 hm4 hm5 hm6
 go_wp2_with (first | (refine wpList_bldTun rfl _ _ rfl C p rfl rfl ?_) | (refine wpList_store_rowTo rfl 38 _ _ rfl rfl (w3.heap.size) (cirL M).toArray rfl rfl 38 (cirL (fun _ => (0, 0, 0, 0))).toArray (HM4.out.at_ 1 rfl) (by rw [infoCircle, List.size_toArray, cirL_len]) (by rw [List.size_toArray, List.size_toArray, cirL_len, cirL_len]) (cir_one _) ?_) | (refine wpList_load_row rfl 38 _ rfl (w2.heap.size) rfl 38 (cirL C).toArray (0, 0) _ (HM5.out.at_ 0 rfl) Tryz.underlying38 rfl (by rw [infoCircle, List.size_toArray, cirL_len]) ?_) | (refine wpList_store_rowTo rfl 41 _ _ rfl rfl (w3.heap.size + 1) (tuL C p).toArray rfl rfl 41 (tuL (fun _ => (0, 0, 0, 0)) 0).toArray (HM6.out.at_ 2 rfl) (by rw [infoTun, List.size_toArray, tuL_len]) (by rw [List.size_toArray, List.size_toArray, tuL_len, tuL_len]) (tu_one C p) ?_) | (refine wpList_load_row rfl 41 _ rfl (w3.heap.size + 1) rfl 41 (tuL C p).toArray (0, 0) _ (HM7.out.at_ 2 rfl) Tryz.underlying41 rfl (by rw [infoTun, List.size_toArray, tuL_len]) ?_))
 clear h1 h2 h3 h4 g1 g2 g3 g4
 refine (HD1.out _ (HT.out.below HM7.out.below)).mono ?_
 rintro e w4 ⟨rfl, hb4⟩
 have HM8 := Lib.hid (HM7.out.step hb4)
 clear hb4 HM4 HM5 HM6 HM7
 go_wp2_with (first | (refine wpList_load_row rfl 41 _ rfl (w3.heap.size + 1) rfl 41 (tuL C p).toArray (0, 0) _ (HM8.out.at_ 2 rfl) Tryz.underlying41 rfl (by rw [infoTun, List.size_toArray, tuL_len]) ?_))
 refine (HD2.out _ (HT.out.below HM8.out.below)).mono ?_
 rintro e w5 ⟨rfl, hb5⟩
 have HM9 := Lib.hid (HM8.out.step hb5)
 clear hb5 HM8
 go_wp2_with (first | (refine wpList_load_row rfl 41 _ rfl (w3.heap.size + 1) rfl 41 (tuL C p).toArray (0, 0) _ (HM9.out.at_ 2 rfl) Tryz.underlying41 rfl (by rw [infoTun, List.size_toArray, tuL_len]) ?_))
 refine (HD3.out _ (HT.out.below HM9.out.below)).mono ?_
 rintro e w6 ⟨rfl, hb6⟩
 have HM10 := Lib.hid (HM9.out.step hb6)
 clear hb6 HM9
 go_wp2_with (first | (refine wpList_load_row rfl 41 _ rfl (w3.heap.size + 1) rfl 41 (tuL C p).toArray (0, 0) _ (HM10.out.at_ 2 rfl) Tryz.underlying41 rfl (by rw [infoTun, List.size_toArray, tuL_len]) ?_))
 refine (HB1.out _ (HT.out.below HM10.out.below)).mono ?_
 rintro e w7 ⟨rfl, hb7⟩
 have hm11 := (HM10.out.step hb7).new 53 [.int .i64 0, .int .i64 0]
 simp only [List.nil_append, List.cons_append] at hm11
 have HM11 := Lib.hid hm11
 obtain ⟨y0, y1⟩ := two_of (hm11.at_ 3 rfl)
 clear hb7 HM10 hm11
 go_wp2_with (first | (refine wpList_load_row rfl 41 _ rfl (w3.heap.size + 1) rfl 41 (tuL C p).toArray (0, 0) _ (HM11.out.at_ 2 rfl) Tryz.underlying41 rfl (by rw [infoTun, List.size_toArray, tuL_len]) ?_))
 refine (HRI.out _ (HT.out.below HM11.out.below)).mono ?_
 rintro e w8 ⟨rfl, hb8⟩
 have HM12 := Lib.hid (HM11.out.step hb8)
 clear hb8 HM11 y0 y1
 go_wp2_with fail
 refine (HTH.out _).mono ?_
 rintro e w9 ⟨rfl, hb9⟩
 have hm13 := (HM12.out.step hb9).new 49 [.int .i64 (-2), .int .i64 1, .int .i64 0, .int .i64 1, .int .i64 1, .int .i64 1]
 simp only [List.nil_append, List.cons_append] at hm13
 have HM13 := Lib.hid hm13
 obtain ⟨y0, y1, y2, y3, y4, y5⟩ := six_of (hm13.at_ 4 rfl)
 clear hb9 HM12 hm13
 go_wp2_with (first | (refine wpList_load_row rfl 38 _ rfl (w3.heap.size) rfl 38 (cirL M).toArray (0, 0) _ (HM13.out.at_ 1 rfl) Tryz.underlying38 rfl (by rw [infoCircle, List.size_toArray, cirL_len]) ?_))
 refine (HPU.out _ (HT.out.below HM13.out.below)).mono ?_
 rintro e w10 ⟨A, c, rfl, hown, hb10⟩
 have HM14 := Lib.hid (show Hp w [(w3.heap.size, 38, cirL M), (w3.heap.size + 1, 41, tuL C p)] w10 from (HM13.out.step hb10).sub (by simp))
 have HO := Lib.hid (own_lw hown (show w.heap.size ≤ _ from HM13.out.below.size))
 clear hb10 HM13 hown y0 y1 y2 y3 y4 y5
 go_wp2_with fail
 go_loopw [150] (fun i wr => LqRel w C M p w3.heap.size (w3.heap.size + 1) A c i wr) (fun i _ => 8 - (intOf i).toNat)
 case atStart => exact ⟨0, by omega, rfl, HM14.out, HO.out⟩
 case round =>
  obtain ⟨j, hj, rfl, hm, hown⟩ := hrel
  have HJ := Lib.hid hm
  have HOJ := Lib.hid hown
  clear hm hown HM14 HO
  by_cases hlt : j < 8
  ·obtain ⟨g, o, rfl, hgl, hcell⟩ := Rd.of_own (enc := i64z) (L := mtL) HOJ.out rfl (by decide)
   have c0 := hcell j hlt
   obtain ⟨x, hx⟩ : ∃ x, x = mtL[j]'hlt := ⟨_, rfl⟩
   rw [← hx] at c0
   have hxm : x ∈ mtL := by rw [hx]; exact List.getElem_mem _
   have hbt := HB2.out x hxm
   obtain ⟨z, hz⟩ : ∃ z, z = 60 + x := ⟨_, rfl⟩
   have hx10 : 0 ≤ x ∧ x ≤ 10 := by
    simp only [mtL, List.mem_cons, List.not_mem_nil, or_false] at hxm
    omega
   have hwz : IntKind.i64.wrap (60 + x) = z := by rw [hz]; exact IntWalk.i64_in _ (by omega)
   rw [← hz] at hbt
   have HBT := Lib.hid hbt
   have y9 := tu_pitch (HJ.out.at_ 1 rfl)
   have HLT := Lib.hid hlt
   have hjl : (j : Int) < 8 := by omega
   clear hx hxm hbt hz hx10 hcell hlt hj
   have c0 : wr.cell? ⟨g, o + j, none⟩ = some (.int .i64 x) := c0
   go_wp2_with (first | (refine wpList_bldTun rfl _ _ rfl M p rfl rfl ?_) | (refine wpList_load_row rfl 38 _ rfl (w3.heap.size) rfl 38 (cirL M).toArray (0, 0) _ (HJ.out.at_ 0 rfl) Tryz.underlying38 rfl (by rw [infoCircle, List.size_toArray, cirL_len]) ?_))
   refine (HBT.out _ (HT.out.below HJ.out.below)).mono ?_
   rintro e w11 ⟨rfl, hb11⟩
   have hm15 := (HJ.out.step hb11).new 53 [.int .i64 0, .int .i64 0]
   simp only [List.nil_append, List.cons_append] at hm15
   have HJ2 := Lib.hid hm15
   have HO2 := Lib.hid (own_bl (own_bl HOJ.out hb11) (bw_new (Below.refl _ _) (.cells #[.int .i64 0, .int .i64 0] 53)))
   obtain ⟨y0, y1⟩ := two_of (hm15.at_ 2 rfl)
   clear hb11 HJ hm15 HOJ c0 y9 hwz hgl
   go_wp2_with fail
   go_roundw
   case rel => exact ⟨j + 1, by have := HLT.out; omega, rfl, HJ2.out.sub (by simp), HO2.out⟩
   case measure => have := HLT.out; simp only [intOf]; omega
  ·obtain rfl : j = 8 := by omega
   clear hlt hj
   go_wp2_with fail
   refine (HWH.out _).mono ?_
   rintro e w11 ⟨rfl, hb11⟩
   have hm15 := (HJ.out.step hb11).new 34 [.int .i64 8, .int .i64 1]
   simp only [List.nil_append, List.cons_append] at hm15
   have HJ2 := Lib.hid hm15
   obtain ⟨y0, y1⟩ := two_of (hm15.at_ 2 rfl)
   clear hb11 HJ hm15
   go_wp2_with fail
   exact bodyPost_ret (v := .bool true) (by simp [results, Tryz.results8, go_sem]) rfl ⟨rfl, HJ2.out.below⟩
end Go.Proofs.YtendjepcjmfmfaaGreatDoor
