/- Part 41 of 46 of the proof of the law: contracts of the functions that it reaches, and plain facts. Conditions: those that each contract names. -/
import Derived.Test.YtendjepcjmfmfaaGreatDoorErrB39
import Derived.Test.YtendjepcjmfmfaaGreatDoorErrB37
import Derived.Deep.QuietTactic
import Derived.BigQuiet
import Derived.Test.YtendjepcjmfmfaaGreatDoorErrB40
import Derived.Test.YtendjepcjmfmfaaGreatDoorErrB31
import Derived.Test.YtendjepcjmfmfaaGreatDoorErrB32
namespace Go.Proofs.YtendjepcjmfmfaaGreatDoor
open Go.RowKit
set_option maxRecDepth 1000000 in
set_option maxHeartbeats 4000000 in
theorem bBeats_any (C : Nat → Tm) (p a b c v0 v1 v2 : Int) (w : World) (ht : Tab w) (hC : ∀ i, i < 12 → Tm64 (C i)) (ha : I64 a) (hb : I64 b) (hc : c = if tuE C p ≠ 0 then tuE C p else ivxE (a, b))
  (hS : c = 0 → ∀ (W : World) (g : Nat), Tab W → IvsAt W g [(a, b)] → Calls Tryz.prog 59 #[.agg (tuL C p).toArray, .slice (some ⟨g, 0, none⟩) 1 1] W fun e w' => e = .returned (.int .i64 0) ∧ Below W.heap.size W w')
  (hB : c = 0 → ∀ W, Tab W → Calls Tryz.prog 60 #[.agg (tuL C p).toArray, .agg #[.int .i64 a, .int .i64 b]] W fun e w' => e = .returned (.tuple #[.agg #[.int .i64 v0, .int .i64 v1], .int .i64 v2]) ∧ Below W.heap.size W w') :
  Calls Tryz.prog 27 #[.agg (tuL C p).toArray, .agg #[.int .i64 a, .int .i64 b]] w fun e w' => e = .returned (if c = 0 then .tuple #[.agg #[.int .i64 v0, .int .i64 v1], .int .i64 v2] else .tuple #[.agg #[.int .i64 0, .int .i64 0], .int .i64 c]) ∧ Below w.heap.size w w' := by
 have hck : ∀ (W : World) (g : Nat), IvsAt W g [(a, b)] → Calls Tryz.prog 57 #[.agg (tuL C p).toArray, .slice (some ⟨g, 0, none⟩) 1 1] W fun e w' => e = .returned (.int .i64 c) ∧ Below W.heap.size W w' := fun W g h => by
  have := bcheck_any C p g 1 [(a, b)] W hC h (by simp) (fun x hx => by
   rw [List.mem_singleton] at hx; subst hx; exact ⟨ha, hb⟩)
  rw [ivsE_one, ← hc] at this
  exact this
 have HCK := Lib.hid hck
 have HS := Lib.hid hS
 have HBB := Lib.hid hB
 have HT := Lib.hid ht
 have hm0 := (((Hp.start w).new 41 (tuL C p)).new 67 [.int .i64 a, .int .i64 b]).new 53 [.int .i64 0, .int .i64 0]
 simp only [World.size_alloc, List.nil_append, List.cons_append] at hm0
 obtain ⟨y0, y1⟩ := two_of (hm0.at_ 1 rfl)
 have hm1 := hm0.new 67 [.int .i64 a, .int .i64 b]
 simp only [World.size_alloc, List.nil_append, List.cons_append] at hm1
 have HM0 := Lib.hid hm0
 have HM1 := Lib.hid hm1
 clear hm0 hm1 hck hC ha hb hc hS hB ht
 go_enter Tryz.func27, Tryz.ntmps27
 go_wp2_with (refine wpList_load_row rfl 41 _ rfl w.heap.size rfl 41 (tuL C p).toArray (0, 0) _ (HM0.out.at_ 0 rfl) Tryz.underlying41 rfl (by rw [infoTun, List.size_toArray, tuL_len]) ?_)
 refine (HCK.out _ _ (ivs_one (HM1.out.at_ 3 rfl))).mono ?_
 rintro e w1 ⟨rfl, hb1⟩
 have HM2 := Lib.hid (HM1.out.step hb1)
 clear hb1 HM0 HM1 y0 y1
 by_cases h0 : c = 0
 ·have HSC := Lib.hid (HS.out h0)
  have HBC := Lib.hid (HBB.out h0)
  subst h0
  obtain ⟨y0, y1⟩ := two_of (HM2.out.at_ 1 rfl)
  have HM3 := Lib.hid (HM2.out.new 67 [.int .i64 a, .int .i64 b])
  go_wp2_with (refine wpList_load_row rfl 41 _ rfl w.heap.size rfl 41 (tuL C p).toArray (0, 0) _ (HM2.out.at_ 0 rfl) Tryz.underlying41 rfl (by rw [infoTun, List.size_toArray, tuL_len]) ?_)
  refine (HSC.out _ _ (HT.out.below HM3.out.below) (ivs_one (HM3.out.at_ 4 rfl))).mono ?_
  rintro e w2 ⟨rfl, hb2⟩
  have HM4 := Lib.hid (HM3.out.step hb2)
  clear hb2 HM2 HM3 y0 y1
  obtain ⟨y0, y1⟩ := two_of (HM4.out.at_ 1 rfl)
  go_wp2_with (refine wpList_load_row rfl 41 _ rfl w.heap.size rfl 41 (tuL C p).toArray (0, 0) _ (HM4.out.at_ 0 rfl) Tryz.underlying41 rfl (by rw [infoTun, List.size_toArray, tuL_len]) ?_)
  refine (HBC.out _ (HT.out.below HM4.out.below)).mono ?_
  rintro e w3 ⟨rfl, hb3⟩
  have HM5 := Lib.hid (HM4.out.step hb3)
  clear hb3 HM4 y0 y1
  obtain ⟨y0, y1⟩ := two_of (HM5.out.at_ 2 rfl)
  have f0 := (HM5.out.at_ 2 rfl).frozen 0
  have f1 := (HM5.out.at_ 2 rfl).frozen 1
  have HZ := Lib.hid (HM5.out.put2 2 rfl (.int .i64 v0) (.int .i64 v1))
  clear HM5
  go_wp2_with fail
  exact bodyPost_ret (v := .tuple #[.agg #[.int .i64 v0, .int .i64 v1], .int .i64 v2]) (by simp [results, Tryz.results27, go_sem, y0, y1, f0, f1]) rfl ⟨rfl, HZ.out.below⟩
 ·have hz : (c != 0) = true := by simpa using h0
  clear h0
  obtain ⟨y0, y1⟩ := two_of (HM2.out.at_ 2 rfl)
  have f0 := (HM2.out.at_ 2 rfl).frozen 0
  have f1 := (HM2.out.at_ 2 rfl).frozen 1
  have HZ := Lib.hid (HM2.out.put2 2 rfl (.int .i64 0) (.int .i64 0))
  clear HM2
  go_wp2_with fail
  ·exact absurd ‹c = 0› (by simpa using hz)
  ·exact bodyPost_ret (v := .tuple #[.agg #[.int .i64 0, .int .i64 0], .int .i64 c]) (by simp [results, Tryz.results27, go_sem, y0, y1, f0, f1]) rfl ⟨rfl, HZ.out.below⟩
abbrev eqC : Nat → Tm := cirP (nmD 0) (nmP 0) (nmQ 0)
theorem eq_tuE (p : Int) (hp : 1 ≤ p ∧ p ≤ 1000) (k : Nat) : tuE (cirP (nmD k) (nmP k) (nmQ k)) p = 0 := by
 unfold tuE
 rw [ckE_pl (nm_pln k), if_neg (by simp), if_neg (by omega)]
theorem kn_freq (w : World) (ht : Tab w) : Calls Tryz.prog 23 #[.agg (tuL eqC 440).toArray, .int .i64 76] w fun e w' => e = .returned (.tuple #[.agg #[.int .i64 659255080, .int .i64 659255520], .int .i64 0]) ∧ Below w.heap.size w w' := by
 refine bFrequency_ok eqC 440 76 659255080 659255520 0 w ht (plan_tm (nm_pln 0)) (eq_tuE 440 (by decide) 0) (by decide) (fun W hT => ?_)
 have := bfreq_pl (nm_pln 0) 440 (by decide) (n := 76) (by decide) W hT
 rw [eq_76] at this
 exact this
theorem kn_dir (w : World) (ht : Tab w) : Calls Tryz.prog 26 #[.agg (tuL eqC 440).toArray, .agg #[.int .i64 69, .int .i64 7]] w fun e w' => e = .returned (.tuple #[.int .i64 (-1), .int .i64 0]) ∧ Below w.heap.size w w' := by
 have := bDirection_any eqC 440 69 7 0 (-1) w ht (plan_tm (nm_pln 0)) (by unfold I64; omega) (by unfold I64; omega) (by rw [eq_tuE 440 (by decide) 0]; decide) (fun _ W hT => by
  have := bdir_pl (nm_pln 0) 440 7 (by decide) (l := 69) (n := 76) (by decide) (by decide) W hT
  rw [eq_dir] at this
  exact this)
 exact this
theorem kn_bts (w : World) (ht : Tab w) : Calls Tryz.prog 27 #[.agg (tuL eqC 440).toArray, .agg #[.int .i64 69, .int .i64 7]] w fun e w' => e = .returned (.tuple #[.agg #[.int .i64 1488960, .int .i64 1489840], .int .i64 0]) ∧ Below w.heap.size w w' := by
 have := bBeats_any eqC 440 69 7 0 1488960 1489840 0 w ht (plan_tm (nm_pln 0)) (by unfold I64; omega) (by unfold I64; omega) (by rw [eq_tuE 440 (by decide) 0]; decide)
  (fun _ W g hT hg => bsizes_pl (nm_pln 0) 440 g 1 [(69, 7)] W hT hg (by decide) (fun x hx => by rw [List.mem_singleton] at hx; subst hx; decide))
  (fun _ W hT => by
   have := bbeats_pl (nm_pln 0) 440 7 (by decide) (by decide) (l := 69) (n := 76) (by decide) (by decide) W hT
   rw [eq_bts] at this
   exact this)
 exact this
set_option maxRecDepth 1000000 in
set_option maxHeartbeats 4000000 in
theorem bknown_any (w : World) (ht : Tab w) : Calls Tryz.prog 11 #[] w fun e w' => e = .returned (.bool true) ∧ Below w.heap.size w w' := by
 obtain ⟨C, hC⟩ : ∃ C, C = eqC := ⟨_, rfl⟩
 have hnm := fun W => tNamed_at 0 (by decide) W
 have hfr := fun W hT => kn_freq W hT
 have hdr := fun W hT => kn_dir W hT
 have hbt := fun W hT => kn_bts W hT
 rw [← hC] at hfr hdr hbt
 simp only [← hC] at hnm
 have HNM := Lib.hid hnm
 have HFR := Lib.hid hfr
 have HDR := Lib.hid hdr
 have HBT := Lib.hid hbt
 have HT := Lib.hid ht
 clear ht hnm hfr hdr hbt hC
 go_enter Tryz.func11, Tryz.ntmps11
 go_wp2_with fail
 refine (HNM.out _).mono ?_
 rintro e w1 ⟨rfl, hb1⟩
 have hm1 := ((Hp.start w).step hb1).new 38 (cirL (fun _ => (0, 0, 0, 0)))
 simp only [List.nil_append, List.cons_append] at hm1
 have HM1 := Lib.hid hm1
 have hm2 := (hm1.row 0 rfl (cirL C)).cast (L' := [(w1.heap.size, 38, cirL C)]) rfl
 have HM2 := Lib.hid hm2
 have hm3 := HM2.out.new 41 (tuL (fun _ => (0, 0, 0, 0)) 0)
 have HM3 := Lib.hid (hm3.cast (L' := [(w1.heap.size, 38, cirL C), (w1.heap.size + 1, 41, tuL (fun _ => (0, 0, 0, 0)) 0)]) (by simp))
 have HM4 := Lib.hid ((HM3.out.row 1 rfl (tuL C 440)).cast (L' := [(w1.heap.size, 38, cirL C), (w1.heap.size + 1, 41, tuL C 440)]) rfl)
 clear hb1 hm1 hm2 hm3
 go_wp2_with (first | (refine wpList_bldTun rfl _ _ rfl C 440 rfl rfl ?_) | (refine wpList_store_rowTo rfl 38 _ _ rfl rfl (w1.heap.size) (cirL C).toArray rfl rfl 38 (cirL (fun _ => (0, 0, 0, 0))).toArray (HM1.out.at_ 0 rfl) (by rw [infoCircle, List.size_toArray, cirL_len]) (by rw [List.size_toArray, List.size_toArray, cirL_len, cirL_len]) (cir_one _) ?_) | (refine wpList_load_row rfl 38 _ rfl (w1.heap.size) rfl 38 (cirL C).toArray (0, 0) _ (HM2.out.at_ 0 rfl) Tryz.underlying38 rfl (by rw [infoCircle, List.size_toArray, cirL_len]) ?_) | (refine wpList_store_rowTo rfl 41 _ _ rfl rfl (w1.heap.size + 1) (tuL C 440).toArray rfl rfl 41 (tuL (fun _ => (0, 0, 0, 0)) 0).toArray (HM3.out.at_ 1 rfl) (by rw [infoTun, List.size_toArray, tuL_len]) (by rw [List.size_toArray, List.size_toArray, tuL_len, tuL_len]) (tu_one C 440) ?_) | (refine wpList_load_row rfl 41 _ rfl (w1.heap.size + 1) rfl 41 (tuL C 440).toArray (0, 0) _ (HM4.out.at_ 1 rfl) Tryz.underlying41 rfl (by rw [infoTun, List.size_toArray, tuL_len]) ?_))
 refine (HFR.out _ (HT.out.below HM4.out.below)).mono ?_
 rintro e w2 ⟨rfl, hb2⟩
 have hm5 := (HM4.out.step hb2).new 53 [.int .i64 659255080, .int .i64 659255520]
 simp only [List.nil_append, List.cons_append] at hm5
 have HM5 := Lib.hid hm5
 clear hb2 HM1 HM2 HM3 HM4 hm5
 go_wp2_with (first | (refine wpList_load_row rfl 41 _ rfl (w1.heap.size + 1) rfl 41 (tuL C 440).toArray (0, 0) _ (HM5.out.at_ 1 rfl) Tryz.underlying41 rfl (by rw [infoTun, List.size_toArray, tuL_len]) ?_))
 refine (HBT.out _ (HT.out.below HM5.out.below)).mono ?_
 rintro e w3 ⟨rfl, hb3⟩
 have hm6 := (HM5.out.step hb3).new 53 [.int .i64 1488960, .int .i64 1489840]
 simp only [List.nil_append, List.cons_append] at hm6
 have HM6 := Lib.hid hm6
 clear hb3 HM5 hm6
 go_wp2_with (first | (refine wpList_load_row rfl 41 _ rfl (w1.heap.size + 1) rfl 41 (tuL C 440).toArray (0, 0) _ (HM6.out.at_ 1 rfl) Tryz.underlying41 rfl (by rw [infoTun, List.size_toArray, tuL_len]) ?_))
 refine (HDR.out _ (HT.out.below HM6.out.below)).mono ?_
 rintro e w4 ⟨rfl, hb4⟩
 have hm7 := HM6.out.step hb4
 have HM7 := Lib.hid hm7
 obtain ⟨y0, y1⟩ := two_of (hm7.at_ 2 rfl)
 obtain ⟨y2, y3⟩ := two_of (hm7.at_ 3 rfl)
 clear hb4 HM6 hm7
 go_wp2_with fail
 exact bodyPost_ret (v := .bool true) (by simp [results, Tryz.results11, go_sem]) rfl ⟨rfl, HM7.out.below⟩
theorem ivs_two {W : World} {g : Nat} {t : TypeId} {a b a' b' : Int} (h : Blk W g t [.int .i64 a, .int .i64 b, .int .i64 a', .int .i64 b']) : IvsAt W g [(a, b), (a', b')] :=
 ⟨h.lt, fun i hi => by
  rcases (show i = 0 ∨ i = 1 by simp at hi; omega) with rfl | rfl
  ·exact ⟨h.cell 0, h.cell 1⟩
  ·exact ⟨h.cell 2, h.cell 3⟩⟩
def cmT (c e1 e2 u0 u1 v0 v1 : Int) : Int × Int := if c ≠ 0 then (0, c) else if e1 ≠ 0 then (0, e1) else if e2 ≠ 0 then (0, e2) else if v1 < u0 then (1, 0) else if u1 < v0 then (-1, 0) else (0, 0)
abbrev lpV : List Value := [.int .i64 3, .int .i64 6, .int .i64 5, .int .i64 4, .int .i64 5, .int .i64 4, .int .i64 5, .int .i64 4, .int .i64 3, .int .i64 7, .int .i64 3, .int .i64 2, .int .i64 8, .int .i64 8, .int .i64 5, .int .i64 9, .int .i64 5, .int .i64 3, .int .i64 12, .int .i64 2, .int .i64 1]
def LpRel (w : World) (g : Nat) (n : Int) (i : Value) (W : World) : Prop :=
 ∃ k : Nat, k ≤ 7 ∧ i = .int .i64 (k : Int) ∧ (0 < k → n ≠ 3) ∧ (1 < k → n ≠ 4) ∧ (2 < k → n ≠ 5) ∧ (3 < k → n ≠ 7) ∧ (4 < k → n ≠ 8) ∧ (5 < k → n ≠ 9) ∧ (6 < k → n ≠ 12) ∧ Hp w [(g, 57, lpV)] W
theorem cells3 {W : World} {g : Nat} {t : TypeId} {L : List Value} (h : Blk W g t L) (i : Nat) {a b c : Value} (h0 : L[i]? = some a) (h1 : L[i + 1]? = some b) (h2 : L[i + 2]? = some c) : W.cell? ⟨g, i, none⟩ = some a ∧ W.cell? ⟨g, i + 1, none⟩ = some b ∧ W.cell? ⟨g, i + 2, none⟩ = some c :=
 ⟨(h.cell i).trans h0, (h.cell (i + 1)).trans h1, (h.cell (i + 2)).trans h2⟩
set_option maxRecDepth 100000 in
set_option maxHeartbeats 4000000 in
theorem lpart42 (n : Int) (w : World) : Calls Tryz.prog 13 #[.int .i64 n] w fun e w' => e = .returned (.tuple #[.int .i64 (ptP n).1, .int .i64 (ptP n).2, .bool (decide (ptB n))]) ∧ Below w.heap.size w w' := by
 have hm0 := (Hp.start w).new 57 lpV
 simp only [List.nil_append] at hm0
 have HM0 := Lib.hid hm0
 clear hm0
 go_enter Tryz.func13, Tryz.ntmps13
 go_wp2_with fail
 go_loopw [16] (fun i wr => LpRel w w.heap.size n i wr) (fun i _ => 7 - (intOf i).toNat)
 case atStart => exact ⟨0, by omega, rfl, fun h => absurd h (by omega), fun h => absurd h (by omega), fun h => absurd h (by omega), fun h => absurd h (by omega), fun h => absurd h (by omega), fun h => absurd h (by omega), fun h => absurd h (by omega), HM0.out⟩
 case round =>
  obtain ⟨k, hk, rfl, h0, h1, h2, h3, h4, h5, h6, hm⟩ := hrel
  have HM := Lib.hid hm
  clear hm HM0
  rcases (show k = 0 ∨ k = 1 ∨ k = 2 ∨ k = 3 ∨ k = 4 ∨ k = 5 ∨ k = 6 ∨ k = 7 by omega) with rfl | rfl | rfl | rfl | rfl | rfl | rfl | rfl
  ·obtain ⟨c0, c1, c2⟩ := cells3 (HM.out.at_ 0 rfl) 0 rfl rfl rfl
   have HM2 := Lib.hid (HM.out.new 57 [.int .i64 3, .int .i64 6, .int .i64 5])
   obtain ⟨y0, y1, y2⟩ := cells3 (HM2.out.at_ 1 rfl) 0 rfl rfl rfl
   by_cases hn : n = 3
   ·subst hn
    clear HM
    go_wp2_with fail
    go_quiet (fail)
    go_wp2_with fail
    exact bodyPost_ret (v := .tuple #[.int .i64 6, .int .i64 5, .bool true]) (by simp [results, Tryz.results13, go_sem]) rfl ⟨rfl, (HM2.out.drewN _).below⟩
   ·have hb : ((3 : Int) == n) = false := by rw [beq_eq_false_iff_ne]; omega
    have HN := Lib.hid hn
    have HH := Lib.hid (And.intro (h0) (And.intro h1 (And.intro h2 (And.intro h3 (And.intro h4 (And.intro h5 h6))))))
    have HM3 := Lib.hid (show Hp w [(w.heap.size, 57, lpV)] _ from HM2.out.sub (by simp))
    clear hn h0 h1 h2 h3 h4 h5 h6 HM HM2 y1 y2
    go_wp2_with fail
    go_roundw
    case rel =>
     obtain ⟨h0, h1, h2, h3, h4, h5, h6⟩ := HH.out
     have hn := HN.out
     exact ⟨1, by omega, rfl, fun _ => hn, fun h => absurd h (by omega), fun h => absurd h (by omega), fun h => absurd h (by omega), fun h => absurd h (by omega), fun h => absurd h (by omega), fun h => absurd h (by omega), HM3.out⟩
    case measure => simp [intOf]
  ·obtain ⟨c0, c1, c2⟩ := cells3 (HM.out.at_ 0 rfl) 3 rfl rfl rfl
   have HM2 := Lib.hid (HM.out.new 57 [.int .i64 4, .int .i64 5, .int .i64 4])
   obtain ⟨y0, y1, y2⟩ := cells3 (HM2.out.at_ 1 rfl) 0 rfl rfl rfl
   by_cases hn : n = 4
   ·subst hn
    clear HM
    go_wp2_with fail
    go_quiet (fail)
    go_wp2_with fail
    exact bodyPost_ret (v := .tuple #[.int .i64 5, .int .i64 4, .bool true]) (by simp [results, Tryz.results13, go_sem]) rfl ⟨rfl, (HM2.out.drewN _).below⟩
   ·have hb : ((4 : Int) == n) = false := by rw [beq_eq_false_iff_ne]; omega
    have HN := Lib.hid hn
    have HH := Lib.hid (And.intro (h0) (And.intro h1 (And.intro h2 (And.intro h3 (And.intro h4 (And.intro h5 h6))))))
    have HM3 := Lib.hid (show Hp w [(w.heap.size, 57, lpV)] _ from HM2.out.sub (by simp))
    clear hn h0 h1 h2 h3 h4 h5 h6 HM HM2 y1 y2
    go_wp2_with fail
    go_roundw
    case rel =>
     obtain ⟨h0, h1, h2, h3, h4, h5, h6⟩ := HH.out
     have hn := HN.out
     exact ⟨2, by omega, rfl, fun _ => h0 (by omega), fun _ => hn, fun h => absurd h (by omega), fun h => absurd h (by omega), fun h => absurd h (by omega), fun h => absurd h (by omega), fun h => absurd h (by omega), HM3.out⟩
    case measure => simp [intOf]
  ·obtain ⟨c0, c1, c2⟩ := cells3 (HM.out.at_ 0 rfl) 6 rfl rfl rfl
   have HM2 := Lib.hid (HM.out.new 57 [.int .i64 5, .int .i64 4, .int .i64 3])
   obtain ⟨y0, y1, y2⟩ := cells3 (HM2.out.at_ 1 rfl) 0 rfl rfl rfl
   by_cases hn : n = 5
   ·subst hn
    clear HM
    go_wp2_with fail
    go_quiet (fail)
    go_wp2_with fail
    exact bodyPost_ret (v := .tuple #[.int .i64 4, .int .i64 3, .bool true]) (by simp [results, Tryz.results13, go_sem]) rfl ⟨rfl, (HM2.out.drewN _).below⟩
   ·have hb : ((5 : Int) == n) = false := by rw [beq_eq_false_iff_ne]; omega
    have HN := Lib.hid hn
    have HH := Lib.hid (And.intro (h0) (And.intro h1 (And.intro h2 (And.intro h3 (And.intro h4 (And.intro h5 h6))))))
    have HM3 := Lib.hid (show Hp w [(w.heap.size, 57, lpV)] _ from HM2.out.sub (by simp))
    clear hn h0 h1 h2 h3 h4 h5 h6 HM HM2 y1 y2
    go_wp2_with fail
    go_roundw
    case rel =>
     obtain ⟨h0, h1, h2, h3, h4, h5, h6⟩ := HH.out
     have hn := HN.out
     exact ⟨3, by omega, rfl, fun _ => h0 (by omega), fun _ => h1 (by omega), fun _ => hn, fun h => absurd h (by omega), fun h => absurd h (by omega), fun h => absurd h (by omega), fun h => absurd h (by omega), HM3.out⟩
    case measure => simp [intOf]
  ·obtain ⟨c0, c1, c2⟩ := cells3 (HM.out.at_ 0 rfl) 9 rfl rfl rfl
   have HM2 := Lib.hid (HM.out.new 57 [.int .i64 7, .int .i64 3, .int .i64 2])
   obtain ⟨y0, y1, y2⟩ := cells3 (HM2.out.at_ 1 rfl) 0 rfl rfl rfl
   by_cases hn : n = 7
   ·subst hn
    clear HM
    go_wp2_with fail
    go_quiet (fail)
    go_wp2_with fail
    exact bodyPost_ret (v := .tuple #[.int .i64 3, .int .i64 2, .bool true]) (by simp [results, Tryz.results13, go_sem]) rfl ⟨rfl, (HM2.out.drewN _).below⟩
   ·have hb : ((7 : Int) == n) = false := by rw [beq_eq_false_iff_ne]; omega
    have HN := Lib.hid hn
    have HH := Lib.hid (And.intro (h0) (And.intro h1 (And.intro h2 (And.intro h3 (And.intro h4 (And.intro h5 h6))))))
    have HM3 := Lib.hid (show Hp w [(w.heap.size, 57, lpV)] _ from HM2.out.sub (by simp))
    clear hn h0 h1 h2 h3 h4 h5 h6 HM HM2 y1 y2
    go_wp2_with fail
    go_roundw
    case rel =>
     obtain ⟨h0, h1, h2, h3, h4, h5, h6⟩ := HH.out
     have hn := HN.out
     exact ⟨4, by omega, rfl, fun _ => h0 (by omega), fun _ => h1 (by omega), fun _ => h2 (by omega), fun _ => hn, fun h => absurd h (by omega), fun h => absurd h (by omega), fun h => absurd h (by omega), HM3.out⟩
    case measure => simp [intOf]
  ·obtain ⟨c0, c1, c2⟩ := cells3 (HM.out.at_ 0 rfl) 12 rfl rfl rfl
   have HM2 := Lib.hid (HM.out.new 57 [.int .i64 8, .int .i64 8, .int .i64 5])
   obtain ⟨y0, y1, y2⟩ := cells3 (HM2.out.at_ 1 rfl) 0 rfl rfl rfl
   by_cases hn : n = 8
   ·subst hn
    clear HM
    go_wp2_with fail
    go_quiet (fail)
    go_wp2_with fail
    exact bodyPost_ret (v := .tuple #[.int .i64 8, .int .i64 5, .bool true]) (by simp [results, Tryz.results13, go_sem]) rfl ⟨rfl, (HM2.out.drewN _).below⟩
   ·have hb : ((8 : Int) == n) = false := by rw [beq_eq_false_iff_ne]; omega
    have HN := Lib.hid hn
    have HH := Lib.hid (And.intro (h0) (And.intro h1 (And.intro h2 (And.intro h3 (And.intro h4 (And.intro h5 h6))))))
    have HM3 := Lib.hid (show Hp w [(w.heap.size, 57, lpV)] _ from HM2.out.sub (by simp))
    clear hn h0 h1 h2 h3 h4 h5 h6 HM HM2 y1 y2
    go_wp2_with fail
    go_roundw
    case rel =>
     obtain ⟨h0, h1, h2, h3, h4, h5, h6⟩ := HH.out
     have hn := HN.out
     exact ⟨5, by omega, rfl, fun _ => h0 (by omega), fun _ => h1 (by omega), fun _ => h2 (by omega), fun _ => h3 (by omega), fun _ => hn, fun h => absurd h (by omega), fun h => absurd h (by omega), HM3.out⟩
    case measure => simp [intOf]
  ·obtain ⟨c0, c1, c2⟩ := cells3 (HM.out.at_ 0 rfl) 15 rfl rfl rfl
   have HM2 := Lib.hid (HM.out.new 57 [.int .i64 9, .int .i64 5, .int .i64 3])
   obtain ⟨y0, y1, y2⟩ := cells3 (HM2.out.at_ 1 rfl) 0 rfl rfl rfl
   by_cases hn : n = 9
   ·subst hn
    clear HM
    go_wp2_with fail
    go_quiet (fail)
    go_wp2_with fail
    exact bodyPost_ret (v := .tuple #[.int .i64 5, .int .i64 3, .bool true]) (by simp [results, Tryz.results13, go_sem]) rfl ⟨rfl, (HM2.out.drewN _).below⟩
   ·have hb : ((9 : Int) == n) = false := by rw [beq_eq_false_iff_ne]; omega
    have HN := Lib.hid hn
    have HH := Lib.hid (And.intro (h0) (And.intro h1 (And.intro h2 (And.intro h3 (And.intro h4 (And.intro h5 h6))))))
    have HM3 := Lib.hid (show Hp w [(w.heap.size, 57, lpV)] _ from HM2.out.sub (by simp))
    clear hn h0 h1 h2 h3 h4 h5 h6 HM HM2 y1 y2
    go_wp2_with fail
    go_roundw
    case rel =>
     obtain ⟨h0, h1, h2, h3, h4, h5, h6⟩ := HH.out
     have hn := HN.out
     exact ⟨6, by omega, rfl, fun _ => h0 (by omega), fun _ => h1 (by omega), fun _ => h2 (by omega), fun _ => h3 (by omega), fun _ => h4 (by omega), fun _ => hn, fun h => absurd h (by omega), HM3.out⟩
    case measure => simp [intOf]
  ·obtain ⟨c0, c1, c2⟩ := cells3 (HM.out.at_ 0 rfl) 18 rfl rfl rfl
   have HM2 := Lib.hid (HM.out.new 57 [.int .i64 12, .int .i64 2, .int .i64 1])
   obtain ⟨y0, y1, y2⟩ := cells3 (HM2.out.at_ 1 rfl) 0 rfl rfl rfl
   by_cases hn : n = 12
   ·subst hn
    clear HM
    go_wp2_with fail
    go_quiet (fail)
    go_wp2_with fail
    exact bodyPost_ret (v := .tuple #[.int .i64 2, .int .i64 1, .bool true]) (by simp [results, Tryz.results13, go_sem]) rfl ⟨rfl, (HM2.out.drewN _).below⟩
   ·have hb : ((12 : Int) == n) = false := by rw [beq_eq_false_iff_ne]; omega
    have HN := Lib.hid hn
    have HH := Lib.hid (And.intro (h0) (And.intro h1 (And.intro h2 (And.intro h3 (And.intro h4 (And.intro h5 h6))))))
    have HM3 := Lib.hid (show Hp w [(w.heap.size, 57, lpV)] _ from HM2.out.sub (by simp))
    clear hn h0 h1 h2 h3 h4 h5 h6 HM HM2 y1 y2
    go_wp2_with fail
    go_roundw
    case rel =>
     obtain ⟨h0, h1, h2, h3, h4, h5, h6⟩ := HH.out
     have hn := HN.out
     exact ⟨7, by omega, rfl, fun _ => h0 (by omega), fun _ => h1 (by omega), fun _ => h2 (by omega), fun _ => h3 (by omega), fun _ => h4 (by omega), fun _ => h5 (by omega), fun _ => hn, HM3.out⟩
    case measure => simp [intOf]
  ·have hno : ¬ ptB n := by
    have := h0 (by omega)
    have := h1 (by omega)
    have := h2 (by omega)
    have := h3 (by omega)
    have := h4 (by omega)
    have := h5 (by omega)
    have := h6 (by omega)
    unfold ptB; omega
   have HZ := Lib.hid (show (ptP n).1 = 0 ∧ (ptP n).2 = 0 ∧ decide (ptB n) = false from by
    have e : ptP n = (0, 0) := by unfold ptP; unfold ptB at hno; (repeat' split) <;> first | rfl | omega
    rw [e]
    exact ⟨rfl, rfl, decide_eq_false hno⟩)
   clear hno h0 h1 h2 h3 h4 h5 h6 hk
   go_wp2_with fail
   exact bodyPost_ret (v := .tuple #[.int .i64 0, .int .i64 0, .bool false]) (by simp [results, Tryz.results13, go_sem]) rfl ⟨by rw [HZ.out.1, HZ.out.2.1, HZ.out.2.2], HM.out.below⟩
def LbRel (w : World) (C : Nat → Tm) (p l s a0 a1 b0 b1 e1 e2 : Int) (gA gB gE : Nat) (i : Value) (W : World) : Prop :=
 ∃ k : Nat, k ≤ 3 ∧ i = .int .i64 (k : Int) ∧ Hp w [(w.heap.size, 41, tuL C p), (w.heap.size + 1, 67, [.int .i64 l, .int .i64 s]), (w.heap.size + 1 + 1, 53, [.int .i64 0, .int .i64 0]), (gA, 53, [.int .i64 a0, .int .i64 a1]), (gB, 53, [.int .i64 b0, .int .i64 b1]), (gE, 28, [.int .i64 0, .int .i64 e1, .int .i64 e2])] W
def LcRel (w : World) (C : Nat → Tm) (p l s a0 a1 b0 b1 e1 e2 : Int) (gA gB gE : Nat) (i : Value) (W : World) : Prop :=
 ∃ k : Nat, k ≤ 3 ∧ i = .int .i64 (k : Int) ∧ (1 < k → e1 = 0) ∧ (2 < k → e2 = 0) ∧ Hp w [(w.heap.size, 41, tuL C p), (w.heap.size + 1, 67, [.int .i64 l, .int .i64 s]), (w.heap.size + 1 + 1, 53, [.int .i64 0, .int .i64 0]), (gA, 53, [.int .i64 a0, .int .i64 a1]), (gB, 53, [.int .i64 b0, .int .i64 b1]), (gE, 28, [.int .i64 0, .int .i64 e1, .int .i64 e2])] W
set_option maxRecDepth 100000 in
set_option maxHeartbeats 4000000 in
theorem lright_any (a b : Int) (w : World) : Calls Tryz.prog 25 #[.agg #[.int .i64 a, .int .i64 b]] w fun e w' => e = .returned (.int .i64 (ivxE (a, b))) ∧ Below w.heap.size w w' := by
 have hp := fun W => lpart42 b W
 have hm0 := (Hp.start w).new 67 [.int .i64 a, .int .i64 b]
 simp only [List.nil_append, List.cons_append] at hm0
 have HM0 := Lib.hid hm0
 obtain ⟨y0, y1⟩ := two_of (hm0.at_ 0 rfl)
 obtain ⟨u, hu⟩ : ∃ u, u = (ptP b).1 := ⟨_, rfl⟩
 obtain ⟨v, hv⟩ : ∃ u, u = (ptP b).2 := ⟨_, rfl⟩
 obtain ⟨q, hq⟩ : ∃ q, q = decide (ptB b) := ⟨_, rfl⟩
 rw [← hu, ← hv, ← hq] at hp
 have HP := Lib.hid hp
 obtain ⟨E, hE⟩ : ∃ E, E = ivxE (a, b) := ⟨_, rfl⟩
 rw [← hE]
 have HQ := Lib.hid hq
 have HE := Lib.hid hE
 clear hm0 hp hu hv hq hE
 go_enter Tryz.func25, Tryz.ntmps25
 go_wp2_with fail
 refine (HP.out _).mono ?_
 rintro e w1 ⟨rfl, hb1⟩
 have HM1 := Lib.hid (HM0.out.step hb1)
 clear hb1 HM0 y0 y1
 obtain ⟨y0, y1⟩ := two_of (HM1.out.at_ 0 rfl)
 by_cases hb : ptB b
 ·obtain rfl : q = true := HQ.out.trans (decide_eq_true hb)
  have hb12 : 3 ≤ b ∧ b ≤ 12 := by unfold ptB at hb; omega
  by_cases h0 : a < 0
  ·have HZ := Lib.hid (show E = 3 from HE.out.trans (by unfold ivxE; rw [if_neg (fun h => h hb), if_neg (by dsimp only; omega)]))
   clear hb hb12
   go_wp2_with fail
   exact bodyPost_ret (v := .int .i64 3) (by simp [results, Tryz.results25, go_sem]) rfl ⟨by rw [HZ.out], HM1.out.below⟩
  ·obtain ⟨t, ht⟩ : ∃ t, t = IntKind.i64.wrap (a + b) := ⟨_, rfl⟩
   by_cases h1 : 127 < a
   ·have HZ := Lib.hid (show E = 3 from HE.out.trans (by unfold ivxE; rw [if_neg (fun h => h hb), if_neg (by dsimp only; omega)]))
    have ht' := ht.symm
    clear hb hb12 ht
    by_cases h2 : 127 < t
    ·go_wp2_with fail
     exact bodyPost_ret (v := .int .i64 3) (by simp [results, Tryz.results25, go_sem]) rfl ⟨by rw [HZ.out], HM1.out.below⟩
    ·go_wp2_with fail
     exact bodyPost_ret (v := .int .i64 3) (by simp [results, Tryz.results25, go_sem]) rfl ⟨by rw [HZ.out], HM1.out.below⟩
   ·have ht2 : t = a + b := by rw [ht]; exact IntWalk.i64_in _ (by omega)
    have ht' := ht.symm
    by_cases h2 : 127 < t
    ·have HZ := Lib.hid (show E = 3 from HE.out.trans (by unfold ivxE; rw [if_neg (fun h => h hb), if_neg (by dsimp only; omega)]))
     clear hb hb12 ht ht2
     go_wp2_with fail
     exact bodyPost_ret (v := .int .i64 3) (by simp [results, Tryz.results25, go_sem]) rfl ⟨by rw [HZ.out], HM1.out.below⟩
    ·have HZ := Lib.hid (show E = 0 from HE.out.trans (by unfold ivxE; rw [if_neg (fun h => h hb), if_pos (by dsimp only; omega)]))
     clear hb hb12 ht ht2
     go_wp2_with fail
     exact bodyPost_ret (v := .int .i64 0) (by simp [results, Tryz.results25, go_sem]) rfl ⟨by rw [HZ.out], HM1.out.below⟩
 ·obtain rfl : q = false := HQ.out.trans (decide_eq_false hb)
  have HZ := Lib.hid (show E = 18 from HE.out.trans (by unfold ivxE; rw [if_pos hb]))
  clear hb
  go_wp2_with fail
  exact bodyPost_ret (v := .int .i64 18) (by simp [results, Tryz.results25, go_sem]) rfl ⟨by rw [HZ.out], HM1.out.below⟩
theorem ivx_ok {a b : Int} (h : ivxE (a, b) = 0) : ptB b ∧ 0 ≤ a ∧ a + b ≤ 127 := by
 unfold ivxE at h
 dsimp only at h
 split at h
 ·cases h
 ·rename_i h1
  split at h
  ·rename_i h2
   exact ⟨Classical.not_not.1 h1, h2.1, h2.2.2⟩
  ·cases h
set_option maxRecDepth 1000000 in
set_option maxHeartbeats 8000000 in
theorem tplace_tot (C : Nat → Tm) (n : Nat) (w : World) (ht : Tab w) (h : RtC C) (hn : n < 1000) :
  Calls Tryz.prog 100 #[.agg (cirL C).toArray, .int .i64 (n : Int)] w fun e w' => SzE e ∧ Below w.heap.size w w' := by
 obtain ⟨q, hq⟩ : ∃ q, q = n / 12 := ⟨_, rfl⟩
 obtain ⟨m, hm⟩ : ∃ m, m = n % 12 := ⟨_, rfl⟩
 have HN := Lib.hid (fun W (hT : Tab W) => tnote_tot C m W hT h (by omega))
 have ho := fun W => toctaves_any (q : Int) 1 W ⟨by decide, by decide⟩ (by omega)
 dsimp only [szD] at ho
 have hb0 : Bx (1 * (q : Int)) 0 0 := by unfold Bx; omega
 have hoE : ivE [(lowN (1 * (q : Int)) 1, lowD (1 * (q : Int)) 1), (lowN 0 1, lowD 0 1), (lowN 0 1, lowD 0 1)] = 0 := szD_ok ⟨by decide, by decide⟩ hb0
 obtain ⟨o0, ho0⟩ : ∃ y : Int, y = lowN (1 * (q : Int)) 1 := ⟨_, rfl⟩
 obtain ⟨o1, ho1⟩ : ∃ y : Int, y = lowD (1 * (q : Int)) 1 := ⟨_, rfl⟩
 obtain ⟨o2, ho2⟩ : ∃ y : Int, y = lowN 0 1 := ⟨_, rfl⟩
 obtain ⟨o3, ho3⟩ : ∃ y : Int, y = lowD 0 1 := ⟨_, rfl⟩
 rw [← ho0, ← ho1, ← ho2, ← ho3] at ho hoE
 clear ho0 ho1 ho2 ho3 hb0
 have HO := Lib.hid ho
 have HOE := Lib.hid hoE
 have HT := Lib.hid ht
 have hm0 := ((Hp.start w).new 38 (cirL C)).new 49 [.int .i64 0, .int .i64 0, .int .i64 0, .int .i64 0, .int .i64 0, .int .i64 0]
 simp only [World.size_alloc, List.nil_append, List.cons_append] at hm0
 have HM0 := Lib.hid hm0
 clear hm0 ht ho hoE h
 obtain ⟨x, hx⟩ : ∃ x : Int, x = (n : Int) := ⟨_, rfl⟩
 obtain ⟨y, hy⟩ : ∃ y : Int, y = (m : Int) := ⟨_, rfl⟩
 obtain ⟨z, hz⟩ : ∃ z : Int, z = (q : Int) := ⟨_, rfl⟩
 have hxy : x.tmod 12 = y := by rw [Int.tmod_eq_emod_of_nonneg (by omega)]; omega
 have hxz : x.tdiv 12 = z := by rw [Int.tdiv_eq_ediv_of_nonneg (by omega)]; omega
 have hx0 : 0 ≤ x ∧ x < 1000 := by omega
 have hzw : IntKind.i64.wrap z = z := IntWalk.i64_in _ (by omega)
 rw [← hx]
 rw [← hy] at HN
 rw [← hz] at HO
 clear hx hy hz hm hq hn
 go_enter Tryz.func100, Tryz.ntmps100
 go_wp2_with (refine wpList_load_row rfl 38 _ rfl w.heap.size rfl 38 (cirL C).toArray (0, 0) _ (HM0.out.at_ 0 rfl) Tryz.underlying38 rfl (by rw [infoCircle, List.size_toArray, cirL_len]) ?_)
 refine (HN.out _ (HT.out.below HM0.out.below)).mono ?_
 rintro e w1 ⟨⟨n0, n1, n2, n3, n4, n5, cn, hnE, rfl⟩, hb1⟩
 have hm1 := (HM0.out.step hb1).new 49 [.int .i64 n0, .int .i64 n1, .int .i64 n2, .int .i64 n3, .int .i64 n4, .int .i64 n5]
 simp only [List.nil_append, List.cons_append] at hm1
 have HM1 := Lib.hid hm1
 clear hb1 hm1
 by_cases hcn : cn = 0
 ·subst hcn
  obtain ⟨a0, a1, a2, a3, a4, a5, ca, haE, had⟩ := iadd_tot (hnE (by simp)) HOE.out
  obtain ⟨u0, u1, u2, u3, u4, u5, cu, huE, hue⟩ := limV_out a0 a1 a2 a3 a4 a5 ca haE
  have hl := fun W => tlimited_any a0 a1 a2 a3 a4 a5 ca W
  rw [hue] at hl
  have HL := Lib.hid hl
  have HA := Lib.hid had
  have HUE := Lib.hid huE
  clear had haE hl hue huE hnE
  go_upto_region 4 with fail
  refine wp_regionJ 12 #[false, false, false, false, false, false, false, false, false, false, false, false] (fun l a W => ∃ (m0 m1 m2 m3 m4 m5 m6 m7 m8 m9 m10 m11 : Bool), l = #[m0, m1, m2, m3, m4, m5, m6, m7, m8, m9, m10, m11] ∧ a = ({ tmps := #[Value.agg (cirL C).toArray, Value.int IntKind.i64 x, Value.pointer (some { block := w.heap.size, off := 0 }), undef, Value.pointer (some { block := w.heap.size + 1, off := 0 }), cwX m11 (.int .i64 cu) (Value.int IntKind.i64 0), Value.pointer (some { block := w1.heap.size, off := 0 }), Value.int IntKind.i64 0, Value.tuple #[szv n0 n1 n2 n3 n4 n5, Value.int IntKind.i64 0], Value.agg (cirL C).toArray, Value.int IntKind.i64 x, Value.int IntKind.i64 y, Value.tuple #[szv n0 n1 n2 n3 n4 n5, Value.int IntKind.i64 0], szv n0 n1 n2 n3 n4 n5, Value.int IntKind.i64 0, Value.int IntKind.i64 0, Value.bool false, undef, undef, cwX m0 (szv n0 n1 n2 n3 n4 n5) (undef), cwX m1 (.int .i64 x) (undef), cwX m2 (.int .i64 z) (undef), cwX m3 (szv o0 o1 o2 o3 o2 o3) (undef), cwX m4 (.tuple #[szv a0 a1 a2 a3 a4 a5, .int .i64 ca]) (undef), cwX m5 (szv a0 a1 a2 a3 a4 a5) (undef), cwX m6 (.int .i64 ca) (undef), cwX m7 (.tuple #[szv u0 u1 u2 u3 u4 u5, .int .i64 cu]) (undef), cwX m8 (szv u0 u1 u2 u3 u4 u5) (undef), cwX m9 (.int .i64 cu) (undef)], defers := [] } : Act) ∧ (True) ∧ Hp w [(w.heap.size, 38, cirL C), (w.heap.size + 1, 49, bif m10 then [.int .i64 u0, .int .i64 u1, .int .i64 u2, .int .i64 u3, .int .i64 u4, .int .i64 u5] else [.int .i64 0, .int .i64 0, .int .i64 0, .int .i64 0, .int .i64 0, .int .i64 0]), (w1.heap.size, 49, [.int .i64 n0, .int .i64 n1, .int .i64 n2, .int .i64 n3, .int .i64 n4, .int .i64 n5])] W) (by kernel_rfl) (by kernel_rfl) (by kernel_rfl) (by kernel_rfl) ?_ ?_ ?_ ?_
  ·rintro l a W ⟨m0, m1, m2, m3, m4, m5, m6, m7, m8, m9, m10, m11, rfl, _⟩
   rfl
  ·exact ⟨false, false, false, false, false, false, false, false, false, false, false, false, rfl, rfl, trivial, HM1.out.drew⟩
  ·rintro l a W i o ⟨m0, m1, m2, m3, m4, m5, m6, m7, m8, m9, m10, m11, rfl, rfl, hi0, hm⟩ ho hun hall K hK
   have hi : i < 12 := (Array.getElem?_eq_some_iff.1 ho).1
   have HM := Lib.hid hm
   have HI := Lib.hid hi0
   clear hm hi0
   rcases (show i = 0 ∨ i = 1 ∨ i = 2 ∨ i = 3 ∨ i = 4 ∨ i = 5 ∨ i = 6 ∨ i = 7 ∨ i = 8 ∨ i = 9 ∨ i = 10 ∨ i = 11 by omega) with rfl | rfl | rfl | rfl | rfl | rfl | rfl | rfl | rfl | rfl | rfl | rfl
   ·cases ho
    simp at hun; subst hun
    clear hall hi
    obtain ⟨y0, y1, y2, y3, y4, y5⟩ := six_of (HM.out.at_ 2 rfl)
    go_simp
    exact hK.out _ _ ⟨true, m1, m2, m3, m4, m5, m6, m7, m8, m9, m10, m11, rfl, rfl, trivial, HM.out⟩
   ·cases ho
    simp at hun; subst hun
    clear hall hi
    go_simp
    exact hK.out _ _ ⟨m0, true, m2, m3, m4, m5, m6, m7, m8, m9, m10, m11, rfl, rfl, trivial, HM.out⟩
   ·cases ho
    cases (getBX hall 1 rfl : m1 = true)
    simp at hun; subst hun
    clear hall hi
    go_simp
    exact hK.out _ _ ⟨m0, true, true, m3, m4, m5, m6, m7, m8, m9, m10, m11, rfl, rfl, trivial, HM.out⟩
   ·cases ho
    cases (getBX hall 2 rfl : m2 = true)
    simp at hun; subst hun
    clear hall hi
    go_simp
    refine (HO.out _).mono ?_
    rintro e W' ⟨rfl, hb⟩
    exact hK.out _ _ ⟨m0, m1, true, true, m4, m5, m6, m7, m8, m9, m10, m11, rfl, rfl, trivial, HM.out.step hb⟩
   ·cases ho
    cases (getBX hall 0 rfl : m0 = true)
    cases (getBX hall 3 rfl : m3 = true)
    simp at hun; subst hun
    clear hall hi
    go_simp
    refine (HA.out _).mono ?_
    rintro e W' ⟨rfl, hb⟩
    exact hK.out _ _ ⟨true, m1, m2, true, true, m5, m6, m7, m8, m9, m10, m11, rfl, rfl, trivial, HM.out.step hb⟩
   ·cases ho
    cases (getBX hall 4 rfl : m4 = true)
    simp at hun; subst hun
    clear hall hi
    go_simp
    exact hK.out _ _ ⟨m0, m1, m2, m3, true, true, m6, m7, m8, m9, m10, m11, rfl, rfl, trivial, HM.out⟩
   ·cases ho
    cases (getBX hall 4 rfl : m4 = true)
    simp at hun; subst hun
    clear hall hi
    go_simp
    exact hK.out _ _ ⟨m0, m1, m2, m3, true, m5, true, m7, m8, m9, m10, m11, rfl, rfl, trivial, HM.out⟩
   ·cases ho
    cases (getBX hall 5 rfl : m5 = true)
    cases (getBX hall 6 rfl : m6 = true)
    simp at hun; subst hun
    clear hall hi
    go_simp
    refine (HL.out _).mono ?_
    rintro e W' ⟨rfl, hb⟩
    exact hK.out _ _ ⟨m0, m1, m2, m3, m4, true, true, true, m8, m9, m10, m11, rfl, rfl, trivial, HM.out.step hb⟩
   ·cases ho
    cases (getBX hall 7 rfl : m7 = true)
    simp at hun; subst hun
    clear hall hi
    go_simp
    exact hK.out _ _ ⟨m0, m1, m2, m3, m4, m5, m6, true, true, m9, m10, m11, rfl, rfl, trivial, HM.out⟩
   ·cases ho
    cases (getBX hall 7 rfl : m7 = true)
    simp at hun; subst hun
    clear hall hi
    go_simp
    exact hK.out _ _ ⟨m0, m1, m2, m3, m4, m5, m6, true, m8, true, m10, m11, rfl, rfl, trivial, HM.out⟩
   ·cases ho
    cases (getBX hall 8 rfl : m8 = true)
    simp at hun; subst hun
    clear hall hi
    have z0 : W.cell? ⟨w.heap.size + 1, 0, none⟩ = some (.int .i64 0) := (HM.out.at_ 1 rfl).cell 0
    have f0 := (HM.out.at_ 1 rfl).frozen 0
    have z1 : W.cell? ⟨w.heap.size + 1, 1, none⟩ = some (.int .i64 0) := (HM.out.at_ 1 rfl).cell 1
    have f1 := (HM.out.at_ 1 rfl).frozen 1
    have z2 : W.cell? ⟨w.heap.size + 1, 2, none⟩ = some (.int .i64 0) := (HM.out.at_ 1 rfl).cell 2
    have f2 := (HM.out.at_ 1 rfl).frozen 2
    have z3 : W.cell? ⟨w.heap.size + 1, 3, none⟩ = some (.int .i64 0) := (HM.out.at_ 1 rfl).cell 3
    have f3 := (HM.out.at_ 1 rfl).frozen 3
    have z4 : W.cell? ⟨w.heap.size + 1, 4, none⟩ = some (.int .i64 0) := (HM.out.at_ 1 rfl).cell 4
    have f4 := (HM.out.at_ 1 rfl).frozen 4
    have z5 : W.cell? ⟨w.heap.size + 1, 5, none⟩ = some (.int .i64 0) := (HM.out.at_ 1 rfl).cell 5
    have f5 := (HM.out.at_ 1 rfl).frozen 5
    have HN := Lib.hid (HM.out.put6 1 rfl (.int .i64 u0) (.int .i64 u1) (.int .i64 u2) (.int .i64 u3) (.int .i64 u4) (.int .i64 u5))
    go_simp
    exact hK.out _ _ ⟨m0, m1, m2, m3, m4, m5, m6, m7, true, m9, true, m11, rfl, rfl, trivial, HN.out⟩
   ·cases ho
    cases (getBX hall 9 rfl : m9 = true)
    simp at hun; subst hun
    clear hall hi
    go_simp
    exact hK.out _ _ ⟨m0, m1, m2, m3, m4, m5, m6, m7, m8, true, m10, true, rfl, rfl, trivial, HM.out⟩
  ·rintro l a W ⟨m0, m1, m2, m3, m4, m5, m6, m7, m8, m9, m10, m11, rfl, rfl, _, hm⟩ hall
   cases (hall 0 (by decide) : m0 = true)
   cases (hall 1 (by decide) : m1 = true)
   cases (hall 2 (by decide) : m2 = true)
   cases (hall 3 (by decide) : m3 = true)
   cases (hall 4 (by decide) : m4 = true)
   cases (hall 5 (by decide) : m5 = true)
   cases (hall 6 (by decide) : m6 = true)
   cases (hall 7 (by decide) : m7 = true)
   cases (hall 8 (by decide) : m8 = true)
   cases (hall 9 (by decide) : m9 = true)
   cases (hall 10 (by decide) : m10 = true)
   cases (hall 11 (by decide) : m11 = true)
   clear hall
   have HQ : Hid (Hp w [(w.heap.size, 38, cirL C), (w.heap.size + 1, 49, [.int .i64 u0, .int .i64 u1, .int .i64 u2, .int .i64 u3, .int .i64 u4, .int .i64 u5]), (w1.heap.size, 49, [.int .i64 n0, .int .i64 n1, .int .i64 n2, .int .i64 n3, .int .i64 n4, .int .i64 n5])] _) := Lib.hid hm
   clear hm
   dsimp only [cwX, cond_true]
   have hq := HQ.out
   obtain ⟨z0, z1, z2, z3, z4, z5⟩ := six_of (hq.at_ 1 rfl)
   obtain ⟨f0, f1, f2, f3, f4, f5⟩ := six_free (hq.at_ 1 rfl)
   have HB := Lib.hid hq.below
   clear hq
   go_wp2
   exact bodyPost_ret (v := .tuple #[szv u0 u1 u2 u3 u4 u5, .int .i64 cu]) (by simp [results, Tryz.results100, go_sem, z0, z1, z2, z3, z4, z5, f0, f1, f2, f3, f4, f5]) rfl ⟨⟨u0, u1, u2, u3, u4, u5, cu, HUE.out, rfl⟩, HB.out⟩
 ·have hz : (cn != 0) = true := by simpa using hcn
  have HNZ := Lib.hid hcn
  have hq5 := HM1.out
  obtain ⟨z0, z1, z2, z3, z4, z5⟩ := six_of (hq5.at_ 1 rfl)
  obtain ⟨f0, f1, f2, f3, f4, f5⟩ := six_free (hq5.at_ 1 rfl)
  have HB := Lib.hid (hq5.put6s 1 rfl (.int .i64 0) (.int .i64 0) (.int .i64 0) (.int .i64 0) (.int .i64 0) (.int .i64 0))
  clear hq5
  go_wp2
  exact bodyPost_ret (v := .tuple #[szv 0 0 0 0 0 0, .int .i64 cn]) (by simp [results, Tryz.results100, go_sem, z0, z1, z2, z3, z4, z5, f0, f1, f2, f3, f4, f5]) rfl ⟨SzE.bad _ _ _ _ _ _ _ HNZ.out, HB.out⟩
set_option maxRecDepth 1000000 in
set_option maxHeartbeats 8000000 in
theorem tbetween_tot (C : Nat → Tm) (m n : Nat) (w : World) (ht : Tab w) (h : RtC C) (hm : m < 1000) (hn : n < 1000) :
  Calls Tryz.prog 69 #[.agg (cirL C).toArray, .int .i64 (m : Int), .int .i64 (n : Int)] w fun e w' => SzE e ∧ Below w.heap.size w w' := by
 have HM := Lib.hid (fun W (hT : Tab W) => tplace_tot C m W hT h hm)
 have HN := Lib.hid (fun W (hT : Tab W) => tplace_tot C n W hT h hn)
 have HT := Lib.hid ht
 have hm0 := ((Hp.start w).new 38 (cirL C)).new 49 [.int .i64 0, .int .i64 0, .int .i64 0, .int .i64 0, .int .i64 0, .int .i64 0]
 simp only [World.size_alloc, List.nil_append, List.cons_append] at hm0
 have HM0 := Lib.hid hm0
 clear hm0 ht h hm hn
 go_enter Tryz.func69, Tryz.ntmps69
 go_wp2_with (refine wpList_load_row rfl 38 _ rfl w.heap.size rfl 38 (cirL C).toArray (0, 0) _ (HM0.out.at_ 0 rfl) Tryz.underlying38 rfl (by rw [infoCircle, List.size_toArray, cirL_len]) ?_)
 refine (HM.out _ (HT.out.below HM0.out.below)).mono ?_
 rintro e w1 ⟨⟨p0, p1, p2, p3, p4, p5, cp, hpE, rfl⟩, hb1⟩
 have HPE := Lib.hid hpE
 have hm1 := (HM0.out.step hb1).new 49 [.int .i64 p0, .int .i64 p1, .int .i64 p2, .int .i64 p3, .int .i64 p4, .int .i64 p5]
 simp only [List.nil_append, List.cons_append] at hm1
 have HM1 := Lib.hid hm1
 clear hb1 hm1 hpE
 by_cases hcp : cp = 0
 ·subst hcp
  go_wp2_with (refine wpList_load_row rfl 38 _ rfl w.heap.size rfl 38 (cirL C).toArray (0, 0) _ (HM1.out.at_ 0 rfl) Tryz.underlying38 rfl (by rw [infoCircle, List.size_toArray, cirL_len]) ?_)
  refine (HN.out _ (HT.out.below HM1.out.below)).mono ?_
  rintro e w2 ⟨⟨q0, q1, q2, q3, q4, q5, cq, hqE, rfl⟩, hb2⟩
  have HQE := Lib.hid hqE
  have hm2 := (HM1.out.step hb2).new 49 [.int .i64 q0, .int .i64 q1, .int .i64 q2, .int .i64 q3, .int .i64 q4, .int .i64 q5]
  simp only [List.nil_append, List.cons_append] at hm2
  have HM2 := Lib.hid hm2
  clear hb2 hm2 hqE
  by_cases hcq : cq = 0
  ·subst hcq
   obtain ⟨a0, a1, a2, a3, a4, a5, ca, haE, had⟩ := isub_tot (HQE.out (by simp)) (HPE.out (by simp))
   obtain ⟨u0, u1, u2, u3, u4, u5, cu, huE, hue⟩ := limV_out a0 a1 a2 a3 a4 a5 ca haE
   have hl := fun W => tlimited_any a0 a1 a2 a3 a4 a5 ca W
   rw [hue] at hl
   have HL := Lib.hid hl
   have HS := Lib.hid had
   have HUE := Lib.hid huE
   clear had haE hl hue huE
   obtain ⟨y0, y1, y2, y3, y4, y5⟩ := six_of (HM2.out.at_ 2 rfl)
   obtain ⟨x0, x1, x2, x3, x4, x5⟩ := six_of (HM2.out.at_ 3 rfl)
   go_wp2_with fail
   refine (HS.out _).mono ?_
   rintro e w3 ⟨rfl, hb3⟩
   have HM3 := Lib.hid (HM2.out.step hb3)
   clear hb3 x0 x1 x2 x3 x4 x5 y0 y1 y2 y3 y4 y5
   go_wp2_with fail
   refine (HL.out _).mono ?_
   rintro e w4 ⟨rfl, hb4⟩
   have hq := HM3.out.step hb4
   clear hb4
   obtain ⟨z0, z1, z2, z3, z4, z5⟩ := six_of (hq.at_ 1 rfl)
   obtain ⟨f0, f1, f2, f3, f4, f5⟩ := six_free (hq.at_ 1 rfl)
   have HB := Lib.hid (hq.put6s 1 rfl (.int .i64 u0) (.int .i64 u1) (.int .i64 u2) (.int .i64 u3) (.int .i64 u4) (.int .i64 u5))
   clear hq
   go_wp2
   exact bodyPost_ret (v := .tuple #[szv u0 u1 u2 u3 u4 u5, .int .i64 cu]) (by simp [results, Tryz.results69, go_sem, z0, z1, z2, z3, z4, z5, f0, f1, f2, f3, f4, f5]) rfl ⟨⟨u0, u1, u2, u3, u4, u5, cu, HUE.out, rfl⟩, HB.out⟩
  ·have hz : (cq != 0) = true := by simpa using hcq
   have HNZ := Lib.hid hcq
   have hq5 := HM2.out
   obtain ⟨z0, z1, z2, z3, z4, z5⟩ := six_of (hq5.at_ 1 rfl)
   obtain ⟨f0, f1, f2, f3, f4, f5⟩ := six_free (hq5.at_ 1 rfl)
   have HB := Lib.hid (hq5.put6s 1 rfl (.int .i64 0) (.int .i64 0) (.int .i64 0) (.int .i64 0) (.int .i64 0) (.int .i64 0))
   clear hq5
   go_wp2
   exact bodyPost_ret (v := .tuple #[szv 0 0 0 0 0 0, .int .i64 cq]) (by simp [results, Tryz.results69, go_sem, z0, z1, z2, z3, z4, z5, f0, f1, f2, f3, f4, f5]) rfl ⟨SzE.bad _ _ _ _ _ _ _ HNZ.out, HB.out⟩
 ·have hz : (cp != 0) = true := by simpa using hcp
  have HNZ := Lib.hid hcp
  have hq5 := HM1.out
  obtain ⟨z0, z1, z2, z3, z4, z5⟩ := six_of (hq5.at_ 1 rfl)
  obtain ⟨f0, f1, f2, f3, f4, f5⟩ := six_free (hq5.at_ 1 rfl)
  have HB := Lib.hid (hq5.put6s 1 rfl (.int .i64 0) (.int .i64 0) (.int .i64 0) (.int .i64 0) (.int .i64 0) (.int .i64 0))
  clear hq5
  go_wp2
  exact bodyPost_ret (v := .tuple #[szv 0 0 0 0 0 0, .int .i64 cp]) (by simp [results, Tryz.results69, go_sem, z0, z1, z2, z3, z4, z5, f0, f1, f2, f3, f4, f5]) rfl ⟨SzE.bad _ _ _ _ _ _ _ HNZ.out, HB.out⟩
set_option maxRecDepth 1000000 in
set_option maxHeartbeats 8000000 in
theorem tBetween_tot (C : Nat → Tm) (m n : Nat) (w : World) (ht : Tab w) (h : RtC C) (hC : ∀ i, i < 12 → Tm64 (C i)) (hk : ckE C = 0) (hm : m ≤ 127) (hn : n ≤ 127) :
  Calls Tryz.prog 56 #[.agg (cirL C).toArray, .int .i64 (m : Int), .int .i64 (n : Int)] w fun e w' => SzE e ∧ Below w.heap.size w w' := by
 have hck := fun W => tcheck_any C W hC
 rw [hk] at hck
 have HCK := Lib.hid hck
 have hB := fun W (hT : Tab W) => tbetween_tot C m n W hT h (by omega) (by omega)
 have HB := Lib.hid hB
 have HT := Lib.hid ht
 have hm0 := ((Hp.start w).new 38 (cirL C)).new 49 [.int .i64 0, .int .i64 0, .int .i64 0, .int .i64 0, .int .i64 0, .int .i64 0]
 simp only [World.size_alloc, List.nil_append, List.cons_append] at hm0
 have HM0 := Lib.hid hm0
 clear hm0 ht hB hck hk h
 obtain ⟨x, hx⟩ : ∃ x : Int, x = (m : Int) := ⟨_, rfl⟩
 obtain ⟨y, hy⟩ : ∃ y : Int, y = (n : Int) := ⟨_, rfl⟩
 rw [← hx, ← hy] at HB
 rw [← hx, ← hy]
 have x0 : ¬ x < 0 := by omega
 have x1 : ¬ 127 < x := by omega
 have y0 : ¬ y < 0 := by omega
 have y1 : ¬ 127 < y := by omega
 clear hx hy hm hn
 go_enter Tryz.func56, Tryz.ntmps56
 go_wp2_with (refine wpList_load_row rfl 38 _ rfl w.heap.size rfl 38 (cirL C).toArray (0, 0) _ (HM0.out.at_ 0 rfl) Tryz.underlying38 rfl (by rw [infoCircle, List.size_toArray, cirL_len]) ?_)
 refine (HCK.out _).mono ?_
 rintro e w1 ⟨rfl, hb1⟩
 have HM1 := Lib.hid (HM0.out.step hb1)
 clear hb1
 go_wp2_with (refine wpList_load_row rfl 38 _ rfl w.heap.size rfl 38 (cirL C).toArray (0, 0) _ (HM1.out.at_ 0 rfl) Tryz.underlying38 rfl (by rw [infoCircle, List.size_toArray, cirL_len]) ?_)
 refine (HB.out _ (HT.out.below HM1.out.below)).mono ?_
 rintro e w2 ⟨⟨u0, u1, u2, u3, u4, u5, cu, huE, rfl⟩, hb2⟩
 have HUE := Lib.hid huE
 have hq := HM1.out.step hb2
 clear huE hb2
 obtain ⟨z0, z1, z2, z3, z4, z5⟩ := six_of (hq.at_ 1 rfl)
 obtain ⟨f0, f1, f2, f3, f4, f5⟩ := six_free (hq.at_ 1 rfl)
 have HB := Lib.hid (hq.put6s 1 rfl (.int .i64 u0) (.int .i64 u1) (.int .i64 u2) (.int .i64 u3) (.int .i64 u4) (.int .i64 u5))
 clear hq
 go_wp2
 exact bodyPost_ret (v := .tuple #[szv u0 u1 u2 u3 u4 u5, .int .i64 cu]) (by simp [results, Tryz.results56, go_sem, z0, z1, z2, z3, z4, z5, f0, f1, f2, f3, f4, f5]) rfl ⟨⟨u0, u1, u2, u3, u4, u5, cu, HUE.out, rfl⟩, HB.out⟩
theorem rtC_of {C : Nat → Tm} (h : ckE C = 0) : RtC C := by
 have key : ∀ i, i ≤ 12 → ∀ j, j < i → tmE (C j) = 0 := by
  intro i
  induction i with
  | zero => intro _ j hj; omega
  | succ i ih =>
   intro hi j hj
   by_cases hji : j < i
   ·exact ih (by omega) j hji
   ·obtain rfl : j = i := by omega
    by_cases hg : tmE (C j) = 0
    ·exact hg
    ·rw [ckE_at (ih (by omega)) (by omega) hg] at h
     exact h
 exact fun i hi => (tmE_zero (key 12 (Nat.le_refl _) i hi)).1
def BdE (e : Ending) : Prop := ∃ v0 v1 c : Int, e = .returned (.tuple #[.agg #[.int .i64 v0, .int .i64 v1], .int .i64 c])
def InE (e : Ending) : Prop := ∃ v c : Int, e = .returned (.tuple #[.int .i64 v, .int .i64 c])
theorem BdE.of (v0 v1 c : Int) : BdE (.returned (.tuple #[.agg #[.int .i64 v0, .int .i64 v1], .int .i64 c])) := ⟨_, _, _, rfl⟩
theorem InE.of (v c : Int) : InE (.returned (.tuple #[.int .i64 v, .int .i64 c])) := ⟨_, _, rfl⟩
theorem prt_of {a0 a1 a2 a3 a4 a5 : Int} (ha : ivE [(a0, a1), (a2, a3), (a4, a5)] = 0) : ∃ x y z D, prt [(a0, a1), (a2, a3), (a4, a5)] = some ([x, y, z], D) := by
 obtain ⟨_, h2⟩ := ivE_cases ha
 obtain ⟨r, hr⟩ : ∃ r, prt [(a0, a1), (a2, a3), (a4, a5)] = some r := by
  cases hc : prt [(a0, a1), (a2, a3), (a4, a5)] with
  | none => exact absurd hc h2
  | some r => exact ⟨r, rfl⟩
 obtain ⟨l, D⟩ := r
 have hl : l.length = 3 := by
  unfold prt at hr
  split at hr
  ·exact absurd hr (by simp)
  ·rename_i D' _
   cases hn : prN [(a0, a1), (a2, a3), (a4, a5)] D' with
   | none => rw [hn] at hr; exact absurd hr (by simp)
   | some m =>
    rw [hn] at hr
    simp only [Option.map_some, Option.some.injEq, Prod.mk.injEq] at hr
    rw [← hr.1, prN_len hn]; rfl
 match l, hl with
 | [x, y, z], _ => exact ⟨x, y, z, D, hr⟩
theorem bratio_tot {a0 a1 a2 a3 a4 a5 : Int} (ha : ivE [(a0, a1), (a2, a3), (a4, a5)] = 0) (w : World) (ht : Tab w) :
  Calls Tryz.prog 18 #[szv a0 a1 a2 a3 a4 a5] w fun e w' => BdE e ∧ Below w.heap.size w w' := by
 obtain ⟨x, y, z, D, hp⟩ := prt_of ha
 refine (ratio_all _ _ _ _ _ _ x y z D w ht (ivE_cases ha).1 hp).mono ?_
 rintro e w' ⟨he, hb⟩
 exact ⟨⟨_, _, _, by rw [he, rtV_rtT]⟩, hb⟩
theorem icmp_tot {a0 a1 a2 a3 a4 a5 b0 b1 b2 b3 b4 b5 : Int} (ha : ivE [(a0, a1), (a2, a3), (a4, a5)] = 0) (hb : ivE [(b0, b1), (b2, b3), (b4, b5)] = 0) (w : World) (ht : Tab w) :
  Calls Tryz.prog 46 #[szv a0 a1 a2 a3 a4 a5, szv b0 b1 b2 b3 b4 b5] w fun e w' => InE e ∧ Below w.heap.size w w' := by
 obtain ⟨x, y, z, D, hp⟩ := prt_of ha
 obtain ⟨u, v, s, E, hq⟩ := prt_of hb
 refine (icompare_all _ _ _ _ _ _ _ _ _ _ _ _ x y z D u v s E w ht (ivE_cases ha).1 (ivE_cases hb).1 hp hq).mono ?_
 rintro e w' ⟨he, hbl⟩
 exact ⟨⟨_, _, he⟩, hbl⟩
set_option maxRecDepth 1000000 in
set_option maxHeartbeats 4000000 in
theorem bfreq_tot (C : Nat → Tm) (p n : Int) (w : World) (ht : Tab w)
  (hB : ∀ W, Tab W → Calls Tryz.prog 56 #[.agg (cirL C).toArray, .int .i64 69, .int .i64 n] W fun e w' => SzE e ∧ Below W.heap.size W w') :
  Calls Tryz.prog 55 #[.agg (tuL C p).toArray, .int .i64 n] w fun e w' => BdE e ∧ Below w.heap.size w w' := by
 have HB := Lib.hid hB
 have HT := Lib.hid ht
 have hm0 := ((Hp.start w).new 41 (tuL C p)).new 53 [.int .i64 0, .int .i64 0]
 simp only [World.size_alloc, List.nil_append, List.cons_append] at hm0
 have HM0 := Lib.hid hm0
 clear hm0 hB ht
 go_enter Tryz.func55, Tryz.ntmps55
 go_wp2_with (refine wpList_load_pre rfl 38 _ rfl w.heap.size rfl (cirL C).toArray _ (tu_cir (HM0.out.at_ 0 rfl)) Tryz.underlying38 rfl (by rw [infoCircle, List.size_toArray, cirL_len]) ?_)
 refine (HB.out _ (HT.out.below HM0.out.below)).mono ?_
 rintro e w1 ⟨⟨s0, s1, s2, s3, s4, s5, c, hE, rfl⟩, hb1⟩
 have HE := Lib.hid hE
 clear hE
 by_cases hc : c = 0
 ·subst hc
  have HM1 := Lib.hid (HM0.out.step hb1)
  clear hb1 HM0
  obtain ⟨g2, hg2⟩ : ∃ g, g = w1.heap.size := ⟨_, rfl⟩
  have hm2 := HM1.out.new 49 [.int .i64 s0, .int .i64 s1, .int .i64 s2, .int .i64 s3, .int .i64 s4, .int .i64 s5]
  rw [← hg2] at hm2
  simp only [List.nil_append, List.cons_append] at hm2
  have HM2 := Lib.hid hm2
  obtain ⟨p0, p1, p2, p3, p4, p5⟩ := six_of (hm2.at_ 2 rfl)
  clear hm2 HM1
  go_wp2_with fail
  refine (bratio_tot (HE.out (by simp)) _ (HT.out.below HM2.out.below)).mono ?_
  rintro e w2 ⟨⟨b0, b1, b2, rfl⟩, hb2⟩
  obtain ⟨v0, hv0⟩ : ∃ v, IntKind.i64.wrap (p * b0) = v := ⟨_, rfl⟩
  obtain ⟨v1, hv1⟩ : ∃ v, IntKind.i64.wrap (p * b1) = v := ⟨_, rfl⟩
  have HM3 := Lib.hid (HM2.out.step hb2)
  clear hb2 HM2 p0 p1 p2 p3 p4 p5
  obtain ⟨g3, hg3⟩ : ∃ g, g = w2.heap.size := ⟨_, rfl⟩
  have hm4 := HM3.out.new 53 [.int .i64 b0, .int .i64 b1]
  rw [← hg3] at hm4
  simp only [List.nil_append, List.cons_append] at hm4
  have HM4 := Lib.hid hm4
  have y9 := tu_pitch (hm4.at_ 0 rfl)
  obtain ⟨y0, y1⟩ := two_of (hm4.at_ 1 rfl)
  obtain ⟨y2, y3⟩ := two_of (hm4.at_ 3 rfl)
  have f0 := (hm4.at_ 1 rfl).frozen 0
  have f1 := (hm4.at_ 1 rfl).frozen 1
  have HZ := Lib.hid (hm4.put2 1 rfl (.int .i64 v0) (.int .i64 v1))
  clear hm4 HM3
  go_wp2_with fail
  obtain ⟨WZ, hWZ⟩ : ∃ WZ, WZ = ((w2.alloc (.cells #[.int .i64 b0, .int .i64 b1] 53)).setCell ⟨w.heap.size + 1, 0, none⟩ (.int .i64 v0)).setCell ⟨w.heap.size + 1, 1, none⟩ (.int .i64 v1) := ⟨_, rfl⟩
  rw [← hWZ] at HZ ⊢
  obtain ⟨z0, z1⟩ := two_of (HZ.out.at_ 1 rfl)
  exact bodyPost_ret (v := .tuple #[.agg #[.int .i64 v0, .int .i64 v1], .int .i64 b2]) (by simp [results, Tryz.results55, go_sem, z0, z1]) rfl ⟨BdE.of _ _ _, HZ.out.below⟩
 ·have hz : (c != 0) = true := by simpa using hc
  have hm1 := (HM0.out.step hb1).new 49 [.int .i64 s0, .int .i64 s1, .int .i64 s2, .int .i64 s3, .int .i64 s4, .int .i64 s5]
  simp only [List.nil_append, List.cons_append] at hm1
  have HM1 := Lib.hid hm1
  clear hm1
  obtain ⟨y0, y1⟩ := two_of (HM1.out.at_ 1 rfl)
  have f0 := (HM1.out.at_ 1 rfl).frozen 0
  have f1 := (HM1.out.at_ 1 rfl).frozen 1
  have HZ := Lib.hid (HM1.out.put2 1 rfl (.int .i64 0) (.int .i64 0))
  clear hb1 HM0 HM1 hc
  go_wp2_with fail
  exact bodyPost_ret (v := .tuple #[.agg #[.int .i64 0, .int .i64 0], .int .i64 c]) (by simp [results, Tryz.results55, go_sem, y0, y1, f0, f1]) rfl ⟨BdE.of _ _ _, HZ.out.below⟩
set_option maxRecDepth 1000000 in
set_option maxHeartbeats 4000000 in
theorem bdir_tot (C : Nat → Tm) (p l s t : Int) (w : World) (ht : Tab w) (hs : ptB s) (hl : 0 ≤ l ∧ l ≤ 127) (hlt : l + s = t)
  (hB : ∀ W, Tab W → Calls Tryz.prog 56 #[.agg (cirL C).toArray, .int .i64 l, .int .i64 t] W fun e w' => SzE e ∧ Below W.heap.size W w') :
  Calls Tryz.prog 58 #[.agg (tuL C p).toArray, .agg #[.int .i64 l, .int .i64 s]] w fun e w' => InE e ∧ Below w.heap.size w w' := by
 have hR := fun W => ppR hs W
 have hpE := ppE_bd s
 have hpb : ivE [((ppE s).1, 1), ((ppE s).2.1, 1), ((ppE s).2.2, 1)] = 0 := ivE_one (by unfold Bx; omega)
 have HPB := Lib.hid hpb
 have hp := fun W => bPart_ok s W hs
 have hs12 : 0 ≤ s ∧ s ≤ 12 := by unfold ptB at hs; omega
 have hw : IntKind.i64.wrap (l + s) = t := by rw [hlt]; exact IntWalk.i64_in _ (by omega)
 obtain ⟨r0, hr0⟩ : ∃ u, u = (ppE s).1 := ⟨_, rfl⟩
 obtain ⟨r2, hr2⟩ : ∃ u, u = (ppE s).2.1 := ⟨_, rfl⟩
 obtain ⟨r4, hr4⟩ : ∃ u, u = (ppE s).2.2 := ⟨_, rfl⟩
 rw [← hr0, ← hr2, ← hr4] at HPB hR
 clear hpE hpb hr0 hr2 hr4
 obtain ⟨u, hu⟩ : ∃ u, u = (ptP s).1 := ⟨_, rfl⟩
 obtain ⟨v, hv⟩ : ∃ u, u = (ptP s).2 := ⟨_, rfl⟩
 rw [← hu, ← hv] at hp hR
 have HP := Lib.hid hp
 have HB := Lib.hid hB
 have HR := Lib.hid hR
 have HT := Lib.hid ht
 have HW := Lib.hid hw
 have hm0 := ((Hp.start w).new 41 (tuL C p)).new 67 [.int .i64 l, .int .i64 s]
 simp only [World.size_alloc, List.nil_append, List.cons_append] at hm0
 have HM0 := Lib.hid hm0
 obtain ⟨y0, y1⟩ := two_of (hm0.at_ 1 rfl)
 clear hm0 hp hB hR ht hw hs hl hlt hs12 hu hv
 go_enter Tryz.func58, Tryz.ntmps58
 go_wp2_with fail
 refine (HP.out _).mono ?_
 rintro e w1 ⟨rfl, rfl⟩
 go_wp2_with fail
 refine (HR.out _).mono ?_
 rintro e w1 ⟨rfl, hb1⟩
 have HM1 := Lib.hid (HM0.out.step hb1)
 clear hb1 HM0 y0 y1
 have hm2 := HM1.out.new 49 [.int .i64 r0, .int .i64 1, .int .i64 r2, .int .i64 1, .int .i64 r4, .int .i64 1]
 simp only [List.nil_append, List.cons_append] at hm2
 have HM2 := Lib.hid hm2
 obtain ⟨y0, y1⟩ := two_of (hm2.at_ 1 rfl)
 have hw := HW.out
 clear hm2 HM1
 go_wp2_with (refine wpList_load_pre rfl 38 _ rfl w.heap.size rfl (cirL C).toArray _ (tu_cir (HM2.out.at_ 0 rfl)) Tryz.underlying38 rfl (by rw [infoCircle, List.size_toArray, cirL_len]) ?_)
 refine (HB.out _ (HT.out.below HM2.out.below)).mono ?_
 rintro e w2 ⟨⟨s0, s1, s2, s3, s4, s5, c, hE, rfl⟩, hb2⟩
 have HE := Lib.hid hE
 clear hE
 by_cases hc : c = 0
 ·subst hc
  have HM3 := Lib.hid (HM2.out.step hb2)
  clear hb2 HM2 y0 y1 hw
  have hm4 := HM3.out.new 49 [.int .i64 s0, .int .i64 s1, .int .i64 s2, .int .i64 s3, .int .i64 s4, .int .i64 s5]
  simp only [List.nil_append, List.cons_append] at hm4
  have HM4 := Lib.hid hm4
  obtain ⟨p0, p1, p2, p3, p4, p5⟩ := six_of (hm4.at_ 2 rfl)
  obtain ⟨q0, q1, q2, q3, q4, q5⟩ := six_of (hm4.at_ 3 rfl)
  clear hm4 HM3
  go_wp2_with fail
  refine (icmp_tot (HE.out (by simp)) HPB.out _ (HT.out.below HM4.out.below)).mono ?_
  rintro e w3 ⟨⟨dv, dc, rfl⟩, hb3⟩
  have HZ := Lib.hid (HM4.out.step hb3)
  clear hb3 HM4 p0 p1 p2 p3 p4 p5 q0 q1 q2 q3 q4 q5
  go_wp2_with fail
  exact bodyPost_ret (v := .tuple #[.int .i64 dv, .int .i64 dc]) (by simp [results, Tryz.results58, go_sem]) rfl ⟨InE.of _ _, HZ.out.below⟩
 ·have hz : (c != 0) = true := by simpa using hc
  have HZ := Lib.hid ((HM2.out.step hb2).new 49 [.int .i64 s0, .int .i64 s1, .int .i64 s2, .int .i64 s3, .int .i64 s4, .int .i64 s5])
  clear hb2 HM2 y0 y1 hw hc
  go_wp2_with fail
  exact bodyPost_ret (v := .tuple #[.int .i64 0, .int .i64 c]) (by simp [results, Tryz.results58, go_sem]) rfl ⟨InE.of _ _, HZ.out.below⟩
end Go.Proofs.YtendjepcjmfmfaaGreatDoor
