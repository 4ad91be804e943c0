/- Part 40 of 41 of the proof of the law: contracts of the functions that it reaches, and plain facts. Conditions: those that each contract names. -/
import Derived.Test.YtendjepcjmfmfaaGreatDoorParB39
import Derived.Test.YtendjepcjmfmfaaGreatDoorParB37
import Derived.Deep.QuietTactic
import Derived.BigQuiet
namespace Go.Proofs.YtendjepcjmfmfaaGreatDoor
open Go.RowKit
set_option maxRecDepth 1000000 in
set_option maxHeartbeats 4000000 in
theorem bBeats_any (C : Nat → Tm) (p a b c v0 v1 v2 : Int) (w : World) (ht : Tab w) (hC : ∀ i, i < 12 → Tm64 (C i)) (ha : I64 a) (hb : I64 b) (hc : c = if tuE C p ≠ 0 then tuE C p else ivxE (a, b))
  (hS : c = 0 → ∀ (W : World) (g : Nat), Tab W → IvsAt W g [(a, b)] → Calls Tryz.prog 59 #[.agg (tuL C p).toArray, .slice (some ⟨g, 0, none⟩) 1 1] W fun e w' => e = .returned (.int .i64 0) ∧ Below W.heap.size W w')
  (hB : c = 0 → ∀ W, Tab W → Calls Tryz.prog 60 #[.agg (tuL C p).toArray, .agg #[.int .i64 a, .int .i64 b]] W fun e w' => e = .returned (.tuple #[.agg #[.int .i64 v0, .int .i64 v1], .int .i64 v2]) ∧ Below W.heap.size W w') :
  Calls Tryz.prog 27 #[.agg (tuL C p).toArray, .agg #[.int .i64 a, .int .i64 b]] w fun e w' => e = .returned (if c = 0 then .tuple #[.agg #[.int .i64 v0, .int .i64 v1], .int .i64 v2] else .tuple #[.agg #[.int .i64 0, .int .i64 0], .int .i64 c]) ∧ Below w.heap.size w w' := by
 have hck : ∀ (W : World) (g : Nat), IvsAt W g [(a, b)] → Calls Tryz.prog 57 #[.agg (tuL C p).toArray, .slice (some ⟨g, 0, none⟩) 1 1] W fun e w' => e = .returned (.int .i64 c) ∧ Below W.heap.size W w' := fun W g h => by
  have := bcheck_any C p g 1 [(a, b)] W hC h (by simp) (fun x hx => by
   rw [List.mem_singleton] at hx; subst hx; exact ⟨ha, hb⟩)
  rw [ivsE_one, ← hc] at this
  exact this
 have HCK := Lib.hid hck
 have HS := Lib.hid hS
 have HBB := Lib.hid hB
 have HT := Lib.hid ht
 have hm0 := (((Hp.start w).new 41 (tuL C p)).new 67 [.int .i64 a, .int .i64 b]).new 53 [.int .i64 0, .int .i64 0]
 simp only [World.size_alloc, List.nil_append, List.cons_append] at hm0
 obtain ⟨y0, y1⟩ := two_of (hm0.at_ 1 rfl)
 have hm1 := hm0.new 67 [.int .i64 a, .int .i64 b]
 simp only [World.size_alloc, List.nil_append, List.cons_append] at hm1
 have HM0 := Lib.hid hm0
 have HM1 := Lib.hid hm1
 clear hm0 hm1 hck hC ha hb hc hS hB ht
 go_enter Tryz.func27, Tryz.ntmps27
 go_wp2_with (refine wpList_load_row rfl 41 _ rfl w.heap.size rfl 41 (tuL C p).toArray (0, 0) _ (HM0.out.at_ 0 rfl) Tryz.underlying41 rfl (by rw [infoTun, List.size_toArray, tuL_len]) ?_)
 refine (HCK.out _ _ (ivs_one (HM1.out.at_ 3 rfl))).mono ?_
 rintro e w1 ⟨rfl, hb1⟩
 have HM2 := Lib.hid (HM1.out.step hb1)
 clear hb1 HM0 HM1 y0 y1
 by_cases h0 : c = 0
 ·have HSC := Lib.hid (HS.out h0)
  have HBC := Lib.hid (HBB.out h0)
  subst h0
  obtain ⟨y0, y1⟩ := two_of (HM2.out.at_ 1 rfl)
  have HM3 := Lib.hid (HM2.out.new 67 [.int .i64 a, .int .i64 b])
  go_wp2_with (refine wpList_load_row rfl 41 _ rfl w.heap.size rfl 41 (tuL C p).toArray (0, 0) _ (HM2.out.at_ 0 rfl) Tryz.underlying41 rfl (by rw [infoTun, List.size_toArray, tuL_len]) ?_)
  refine (HSC.out _ _ (HT.out.below HM3.out.below) (ivs_one (HM3.out.at_ 4 rfl))).mono ?_
  rintro e w2 ⟨rfl, hb2⟩
  have HM4 := Lib.hid (HM3.out.step hb2)
  clear hb2 HM2 HM3 y0 y1
  obtain ⟨y0, y1⟩ := two_of (HM4.out.at_ 1 rfl)
  go_wp2_with (refine wpList_load_row rfl 41 _ rfl w.heap.size rfl 41 (tuL C p).toArray (0, 0) _ (HM4.out.at_ 0 rfl) Tryz.underlying41 rfl (by rw [infoTun, List.size_toArray, tuL_len]) ?_)
  refine (HBC.out _ (HT.out.below HM4.out.below)).mono ?_
  rintro e w3 ⟨rfl, hb3⟩
  have HM5 := Lib.hid (HM4.out.step hb3)
  clear hb3 HM4 y0 y1
  obtain ⟨y0, y1⟩ := two_of (HM5.out.at_ 2 rfl)
  have f0 := (HM5.out.at_ 2 rfl).frozen 0
  have f1 := (HM5.out.at_ 2 rfl).frozen 1
  have HZ := Lib.hid (HM5.out.put2 2 rfl (.int .i64 v0) (.int .i64 v1))
  clear HM5
  go_wp2_with fail
  exact bodyPost_ret (v := .tuple #[.agg #[.int .i64 v0, .int .i64 v1], .int .i64 v2]) (by simp [results, Tryz.results27, go_sem, y0, y1, f0, f1]) rfl ⟨rfl, HZ.out.below⟩
 ·have hz : (c != 0) = true := by simpa using h0
  clear h0
  obtain ⟨y0, y1⟩ := two_of (HM2.out.at_ 2 rfl)
  have f0 := (HM2.out.at_ 2 rfl).frozen 0
  have f1 := (HM2.out.at_ 2 rfl).frozen 1
  have HZ := Lib.hid (HM2.out.put2 2 rfl (.int .i64 0) (.int .i64 0))
  clear HM2
  go_wp2_with fail
  ·exact absurd ‹c = 0› (by simpa using hz)
  ·exact bodyPost_ret (v := .tuple #[.agg #[.int .i64 0, .int .i64 0], .int .i64 c]) (by simp [results, Tryz.results27, go_sem, y0, y1, f0, f1]) rfl ⟨rfl, HZ.out.below⟩
end Go.Proofs.YtendjepcjmfmfaaGreatDoor
namespace Go.Proofs.YtendjepcjmfmfaaGreatDoor
open Go.RowKit
abbrev eqC : Nat → Tm := cirP (nmD 0) (nmP 0) (nmQ 0)
theorem eq_tuE (p : Int) (hp : 1 ≤ p ∧ p ≤ 1000) (k : Nat) : tuE (cirP (nmD k) (nmP k) (nmQ k)) p = 0 := by
 unfold tuE
 rw [ckE_pl (nm_pln k), if_neg (by simp), if_neg (by omega)]
theorem kn_freq (w : World) (ht : Tab w) : Calls Tryz.prog 23 #[.agg (tuL eqC 440).toArray, .int .i64 76] w fun e w' => e = .returned (.tuple #[.agg #[.int .i64 659255080, .int .i64 659255520], .int .i64 0]) ∧ Below w.heap.size w w' := by
 refine bFrequency_ok eqC 440 76 659255080 659255520 0 w ht (plan_tm (nm_pln 0)) (eq_tuE 440 (by decide) 0) (by decide) (fun W hT => ?_)
 have := bfreq_pl (nm_pln 0) 440 (by decide) (n := 76) (by decide) W hT
 rw [eq_76] at this
 exact this
theorem kn_dir (w : World) (ht : Tab w) : Calls Tryz.prog 26 #[.agg (tuL eqC 440).toArray, .agg #[.int .i64 69, .int .i64 7]] w fun e w' => e = .returned (.tuple #[.int .i64 (-1), .int .i64 0]) ∧ Below w.heap.size w w' := by
 have := bDirection_any eqC 440 69 7 0 (-1) w ht (plan_tm (nm_pln 0)) (by unfold I64; omega) (by unfold I64; omega) (by rw [eq_tuE 440 (by decide) 0]; decide) (fun _ W hT => by
  have := bdir_pl (nm_pln 0) 440 7 (by decide) (l := 69) (n := 76) (by decide) (by decide) W hT
  rw [eq_dir] at this
  exact this)
 exact this
theorem kn_bts (w : World) (ht : Tab w) : Calls Tryz.prog 27 #[.agg (tuL eqC 440).toArray, .agg #[.int .i64 69, .int .i64 7]] w fun e w' => e = .returned (.tuple #[.agg #[.int .i64 1488960, .int .i64 1489840], .int .i64 0]) ∧ Below w.heap.size w w' := by
 have := bBeats_any eqC 440 69 7 0 1488960 1489840 0 w ht (plan_tm (nm_pln 0)) (by unfold I64; omega) (by unfold I64; omega) (by rw [eq_tuE 440 (by decide) 0]; decide)
  (fun _ W g hT hg => bsizes_pl (nm_pln 0) 440 g 1 [(69, 7)] W hT hg (by decide) (fun x hx => by rw [List.mem_singleton] at hx; subst hx; decide))
  (fun _ W hT => by
   have := bbeats_pl (nm_pln 0) 440 7 (by decide) (by decide) (l := 69) (n := 76) (by decide) (by decide) W hT
   rw [eq_bts] at this
   exact this)
 exact this
set_option maxRecDepth 1000000 in
set_option maxHeartbeats 4000000 in
theorem bknown_any (w : World) (ht : Tab w) : Calls Tryz.prog 11 #[] w fun e w' => e = .returned (.bool true) ∧ Below w.heap.size w w' := by
 obtain ⟨C, hC⟩ : ∃ C, C = eqC := ⟨_, rfl⟩
 have hnm := fun W => tNamed_at 0 (by decide) W
 have hfr := fun W hT => kn_freq W hT
 have hdr := fun W hT => kn_dir W hT
 have hbt := fun W hT => kn_bts W hT
 rw [← hC] at hfr hdr hbt
 simp only [← hC] at hnm
 have HNM := Lib.hid hnm
 have HFR := Lib.hid hfr
 have HDR := Lib.hid hdr
 have HBT := Lib.hid hbt
 have HT := Lib.hid ht
 clear ht hnm hfr hdr hbt hC
 go_enter Tryz.func11, Tryz.ntmps11
 go_wp2_with fail
 refine (HNM.out _).mono ?_
 rintro e w1 ⟨rfl, hb1⟩
 have hm1 := ((Hp.start w).step hb1).new 38 (cirL (fun _ => (0, 0, 0, 0)))
 simp only [List.nil_append, List.cons_append] at hm1
 have HM1 := Lib.hid hm1
 have hm2 := (hm1.row 0 rfl (cirL C)).cast (L' := [(w1.heap.size, 38, cirL C)]) rfl
 have HM2 := Lib.hid hm2
 have hm3 := HM2.out.new 41 (tuL (fun _ => (0, 0, 0, 0)) 0)
 have HM3 := Lib.hid (hm3.cast (L' := [(w1.heap.size, 38, cirL C), (w1.heap.size + 1, 41, tuL (fun _ => (0, 0, 0, 0)) 0)]) (by simp))
 have HM4 := Lib.hid ((HM3.out.row 1 rfl (tuL C 440)).cast (L' := [(w1.heap.size, 38, cirL C), (w1.heap.size + 1, 41, tuL C 440)]) rfl)
 clear hb1 hm1 hm2 hm3
 go_wp2_with (first | (refine wpList_bldTun rfl _ _ rfl C 440 rfl rfl ?_) | (refine wpList_store_rowTo rfl 38 _ _ rfl rfl (w1.heap.size) (cirL C).toArray rfl rfl 38 (cirL (fun _ => (0, 0, 0, 0))).toArray (HM1.out.at_ 0 rfl) (by rw [infoCircle, List.size_toArray, cirL_len]) (by rw [List.size_toArray, List.size_toArray, cirL_len, cirL_len]) (cir_one _) ?_) | (refine wpList_load_row rfl 38 _ rfl (w1.heap.size) rfl 38 (cirL C).toArray (0, 0) _ (HM2.out.at_ 0 rfl) Tryz.underlying38 rfl (by rw [infoCircle, List.size_toArray, cirL_len]) ?_) | (refine wpList_store_rowTo rfl 41 _ _ rfl rfl (w1.heap.size + 1) (tuL C 440).toArray rfl rfl 41 (tuL (fun _ => (0, 0, 0, 0)) 0).toArray (HM3.out.at_ 1 rfl) (by rw [infoTun, List.size_toArray, tuL_len]) (by rw [List.size_toArray, List.size_toArray, tuL_len, tuL_len]) (tu_one C 440) ?_) | (refine wpList_load_row rfl 41 _ rfl (w1.heap.size + 1) rfl 41 (tuL C 440).toArray (0, 0) _ (HM4.out.at_ 1 rfl) Tryz.underlying41 rfl (by rw [infoTun, List.size_toArray, tuL_len]) ?_))
 refine (HFR.out _ (HT.out.below HM4.out.below)).mono ?_
 rintro e w2 ⟨rfl, hb2⟩
 have hm5 := (HM4.out.step hb2).new 53 [.int .i64 659255080, .int .i64 659255520]
 simp only [List.nil_append, List.cons_append] at hm5
 have HM5 := Lib.hid hm5
 clear hb2 HM1 HM2 HM3 HM4 hm5
 go_wp2_with (first | (refine wpList_load_row rfl 41 _ rfl (w1.heap.size + 1) rfl 41 (tuL C 440).toArray (0, 0) _ (HM5.out.at_ 1 rfl) Tryz.underlying41 rfl (by rw [infoTun, List.size_toArray, tuL_len]) ?_))
 refine (HBT.out _ (HT.out.below HM5.out.below)).mono ?_
 rintro e w3 ⟨rfl, hb3⟩
 have hm6 := (HM5.out.step hb3).new 53 [.int .i64 1488960, .int .i64 1489840]
 simp only [List.nil_append, List.cons_append] at hm6
 have HM6 := Lib.hid hm6
 clear hb3 HM5 hm6
 go_wp2_with (first | (refine wpList_load_row rfl 41 _ rfl (w1.heap.size + 1) rfl 41 (tuL C 440).toArray (0, 0) _ (HM6.out.at_ 1 rfl) Tryz.underlying41 rfl (by rw [infoTun, List.size_toArray, tuL_len]) ?_))
 refine (HDR.out _ (HT.out.below HM6.out.below)).mono ?_
 rintro e w4 ⟨rfl, hb4⟩
 have hm7 := HM6.out.step hb4
 have HM7 := Lib.hid hm7
 obtain ⟨y0, y1⟩ := two_of (hm7.at_ 2 rfl)
 obtain ⟨y2, y3⟩ := two_of (hm7.at_ 3 rfl)
 clear hb4 HM6 hm7
 go_wp2_with fail
 exact bodyPost_ret (v := .bool true) (by simp [results, Tryz.results11, go_sem]) rfl ⟨rfl, HM7.out.below⟩
end Go.Proofs.YtendjepcjmfmfaaGreatDoor
namespace Go.Proofs.YtendjepcjmfmfaaGreatDoor
open Go.RowKit
def cmT (c e1 e2 u0 u1 v0 v1 : Int) : Int × Int := if c ≠ 0 then (0, c) else if e1 ≠ 0 then (0, e1) else if e2 ≠ 0 then (0, e2) else if v1 < u0 then (1, 0) else if u1 < v0 then (-1, 0) else (0, 0)
end Go.Proofs.YtendjepcjmfmfaaGreatDoor
namespace Go.Proofs.YtendjepcjmfmfaaGreatDoor
open Go.RowKit
abbrev lpV : List Value := [.int .i64 3, .int .i64 6, .int .i64 5, .int .i64 4, .int .i64 5, .int .i64 4, .int .i64 5, .int .i64 4, .int .i64 3, .int .i64 7, .int .i64 3, .int .i64 2, .int .i64 8, .int .i64 8, .int .i64 5, .int .i64 9, .int .i64 5, .int .i64 3, .int .i64 12, .int .i64 2, .int .i64 1]
def LpRel (w : World) (g : Nat) (n : Int) (i : Value) (W : World) : Prop :=
 ∃ k : Nat, k ≤ 7 ∧ i = .int .i64 (k : Int) ∧ (0 < k → n ≠ 3) ∧ (1 < k → n ≠ 4) ∧ (2 < k → n ≠ 5) ∧ (3 < k → n ≠ 7) ∧ (4 < k → n ≠ 8) ∧ (5 < k → n ≠ 9) ∧ (6 < k → n ≠ 12) ∧ Hp w [(g, 57, lpV)] W
theorem cells3 {W : World} {g : Nat} {t : TypeId} {L : List Value} (h : Blk W g t L) (i : Nat) {a b c : Value} (h0 : L[i]? = some a) (h1 : L[i + 1]? = some b) (h2 : L[i + 2]? = some c) : W.cell? ⟨g, i, none⟩ = some a ∧ W.cell? ⟨g, i + 1, none⟩ = some b ∧ W.cell? ⟨g, i + 2, none⟩ = some c :=
 ⟨(h.cell i).trans h0, (h.cell (i + 1)).trans h1, (h.cell (i + 2)).trans h2⟩
set_option maxRecDepth 100000 in
set_option maxHeartbeats 4000000 in
theorem lpart42 (n : Int) (w : World) : Calls Tryz.prog 13 #[.int .i64 n] w fun e w' => e = .returned (.tuple #[.int .i64 (ptP n).1, .int .i64 (ptP n).2, .bool (decide (ptB n))]) ∧ Below w.heap.size w w' := by
 have hm0 := (Hp.start w).new 57 lpV
 simp only [List.nil_append] at hm0
 have HM0 := Lib.hid hm0
 clear hm0
 go_enter Tryz.func13, Tryz.ntmps13
 go_wp2_with fail
 go_loopw [16] (fun i wr => LpRel w w.heap.size n i wr) (fun i _ => 7 - (intOf i).toNat)
 case atStart => exact ⟨0, by omega, rfl, fun h => absurd h (by omega), fun h => absurd h (by omega), fun h => absurd h (by omega), fun h => absurd h (by omega), fun h => absurd h (by omega), fun h => absurd h (by omega), fun h => absurd h (by omega), HM0.out⟩
 case round =>
  obtain ⟨k, hk, rfl, h0, h1, h2, h3, h4, h5, h6, hm⟩ := hrel
  have HM := Lib.hid hm
  clear hm HM0
  rcases (show k = 0 ∨ k = 1 ∨ k = 2 ∨ k = 3 ∨ k = 4 ∨ k = 5 ∨ k = 6 ∨ k = 7 by omega) with rfl | rfl | rfl | rfl | rfl | rfl | rfl | rfl
  ·obtain ⟨c0, c1, c2⟩ := cells3 (HM.out.at_ 0 rfl) 0 rfl rfl rfl
   have HM2 := Lib.hid (HM.out.new 57 [.int .i64 3, .int .i64 6, .int .i64 5])
   obtain ⟨y0, y1, y2⟩ := cells3 (HM2.out.at_ 1 rfl) 0 rfl rfl rfl
   by_cases hn : n = 3
   ·subst hn
    clear HM
    go_wp2_with fail
    go_quiet (fail)
    go_wp2_with fail
    exact bodyPost_ret (v := .tuple #[.int .i64 6, .int .i64 5, .bool true]) (by simp [results, Tryz.results13, go_sem]) rfl ⟨rfl, (HM2.out.drewN _).below⟩
   ·have hb : ((3 : Int) == n) = false := by rw [beq_eq_false_iff_ne]; omega
    have HN := Lib.hid hn
    have HH := Lib.hid (And.intro (h0) (And.intro h1 (And.intro h2 (And.intro h3 (And.intro h4 (And.intro h5 h6))))))
    have HM3 := Lib.hid (show Hp w [(w.heap.size, 57, lpV)] _ from HM2.out.sub (by simp))
    clear hn h0 h1 h2 h3 h4 h5 h6 HM HM2 y1 y2
    go_wp2_with fail
    go_roundw
    case rel =>
     obtain ⟨h0, h1, h2, h3, h4, h5, h6⟩ := HH.out
     have hn := HN.out
     exact ⟨1, by omega, rfl, fun _ => hn, fun h => absurd h (by omega), fun h => absurd h (by omega), fun h => absurd h (by omega), fun h => absurd h (by omega), fun h => absurd h (by omega), fun h => absurd h (by omega), HM3.out⟩
    case measure => simp [intOf]
  ·obtain ⟨c0, c1, c2⟩ := cells3 (HM.out.at_ 0 rfl) 3 rfl rfl rfl
   have HM2 := Lib.hid (HM.out.new 57 [.int .i64 4, .int .i64 5, .int .i64 4])
   obtain ⟨y0, y1, y2⟩ := cells3 (HM2.out.at_ 1 rfl) 0 rfl rfl rfl
   by_cases hn : n = 4
   ·subst hn
    clear HM
    go_wp2_with fail
    go_quiet (fail)
    go_wp2_with fail
    exact bodyPost_ret (v := .tuple #[.int .i64 5, .int .i64 4, .bool true]) (by simp [results, Tryz.results13, go_sem]) rfl ⟨rfl, (HM2.out.drewN _).below⟩
   ·have hb : ((4 : Int) == n) = false := by rw [beq_eq_false_iff_ne]; omega
    have HN := Lib.hid hn
    have HH := Lib.hid (And.intro (h0) (And.intro h1 (And.intro h2 (And.intro h3 (And.intro h4 (And.intro h5 h6))))))
    have HM3 := Lib.hid (show Hp w [(w.heap.size, 57, lpV)] _ from HM2.out.sub (by simp))
    clear hn h0 h1 h2 h3 h4 h5 h6 HM HM2 y1 y2
    go_wp2_with fail
    go_roundw
    case rel =>
     obtain ⟨h0, h1, h2, h3, h4, h5, h6⟩ := HH.out
     have hn := HN.out
     exact ⟨2, by omega, rfl, fun _ => h0 (by omega), fun _ => hn, fun h => absurd h (by omega), fun h => absurd h (by omega), fun h => absurd h (by omega), fun h => absurd h (by omega), fun h => absurd h (by omega), HM3.out⟩
    case measure => simp [intOf]
  ·obtain ⟨c0, c1, c2⟩ := cells3 (HM.out.at_ 0 rfl) 6 rfl rfl rfl
   have HM2 := Lib.hid (HM.out.new 57 [.int .i64 5, .int .i64 4, .int .i64 3])
   obtain ⟨y0, y1, y2⟩ := cells3 (HM2.out.at_ 1 rfl) 0 rfl rfl rfl
   by_cases hn : n = 5
   ·subst hn
    clear HM
    go_wp2_with fail
    go_quiet (fail)
    go_wp2_with fail
    exact bodyPost_ret (v := .tuple #[.int .i64 4, .int .i64 3, .bool true]) (by simp [results, Tryz.results13, go_sem]) rfl ⟨rfl, (HM2.out.drewN _).below⟩
   ·have hb : ((5 : Int) == n) = false := by rw [beq_eq_false_iff_ne]; omega
    have HN := Lib.hid hn
    have HH := Lib.hid (And.intro (h0) (And.intro h1 (And.intro h2 (And.intro h3 (And.intro h4 (And.intro h5 h6))))))
    have HM3 := Lib.hid (show Hp w [(w.heap.size, 57, lpV)] _ from HM2.out.sub (by simp))
    clear hn h0 h1 h2 h3 h4 h5 h6 HM HM2 y1 y2
    go_wp2_with fail
    go_roundw
    case rel =>
     obtain ⟨h0, h1, h2, h3, h4, h5, h6⟩ := HH.out
     have hn := HN.out
     exact ⟨3, by omega, rfl, fun _ => h0 (by omega), fun _ => h1 (by omega), fun _ => hn, fun h => absurd h (by omega), fun h => absurd h (by omega), fun h => absurd h (by omega), fun h => absurd h (by omega), HM3.out⟩
    case measure => simp [intOf]
  ·obtain ⟨c0, c1, c2⟩ := cells3 (HM.out.at_ 0 rfl) 9 rfl rfl rfl
   have HM2 := Lib.hid (HM.out.new 57 [.int .i64 7, .int .i64 3, .int .i64 2])
   obtain ⟨y0, y1, y2⟩ := cells3 (HM2.out.at_ 1 rfl) 0 rfl rfl rfl
   by_cases hn : n = 7
   ·subst hn
    clear HM
    go_wp2_with fail
    go_quiet (fail)
    go_wp2_with fail
    exact bodyPost_ret (v := .tuple #[.int .i64 3, .int .i64 2, .bool true]) (by simp [results, Tryz.results13, go_sem]) rfl ⟨rfl, (HM2.out.drewN _).below⟩
   ·have hb : ((7 : Int) == n) = false := by rw [beq_eq_false_iff_ne]; omega
    have HN := Lib.hid hn
    have HH := Lib.hid (And.intro (h0) (And.intro h1 (And.intro h2 (And.intro h3 (And.intro h4 (And.intro h5 h6))))))
    have HM3 := Lib.hid (show Hp w [(w.heap.size, 57, lpV)] _ from HM2.out.sub (by simp))
    clear hn h0 h1 h2 h3 h4 h5 h6 HM HM2 y1 y2
    go_wp2_with fail
    go_roundw
    case rel =>
     obtain ⟨h0, h1, h2, h3, h4, h5, h6⟩ := HH.out
     have hn := HN.out
     exact ⟨4, by omega, rfl, fun _ => h0 (by omega), fun _ => h1 (by omega), fun _ => h2 (by omega), fun _ => hn, fun h => absurd h (by omega), fun h => absurd h (by omega), fun h => absurd h (by omega), HM3.out⟩
    case measure => simp [intOf]
  ·obtain ⟨c0, c1, c2⟩ := cells3 (HM.out.at_ 0 rfl) 12 rfl rfl rfl
   have HM2 := Lib.hid (HM.out.new 57 [.int .i64 8, .int .i64 8, .int .i64 5])
   obtain ⟨y0, y1, y2⟩ := cells3 (HM2.out.at_ 1 rfl) 0 rfl rfl rfl
   by_cases hn : n = 8
   ·subst hn
    clear HM
    go_wp2_with fail
    go_quiet (fail)
    go_wp2_with fail
    exact bodyPost_ret (v := .tuple #[.int .i64 8, .int .i64 5, .bool true]) (by simp [results, Tryz.results13, go_sem]) rfl ⟨rfl, (HM2.out.drewN _).below⟩
   ·have hb : ((8 : Int) == n) = false := by rw [beq_eq_false_iff_ne]; omega
    have HN := Lib.hid hn
    have HH := Lib.hid (And.intro (h0) (And.intro h1 (And.intro h2 (And.intro h3 (And.intro h4 (And.intro h5 h6))))))
    have HM3 := Lib.hid (show Hp w [(w.heap.size, 57, lpV)] _ from HM2.out.sub (by simp))
    clear hn h0 h1 h2 h3 h4 h5 h6 HM HM2 y1 y2
    go_wp2_with fail
    go_roundw
    case rel =>
     obtain ⟨h0, h1, h2, h3, h4, h5, h6⟩ := HH.out
     have hn := HN.out
     exact ⟨5, by omega, rfl, fun _ => h0 (by omega), fun _ => h1 (by omega), fun _ => h2 (by omega), fun _ => h3 (by omega), fun _ => hn, fun h => absurd h (by omega), fun h => absurd h (by omega), HM3.out⟩
    case measure => simp [intOf]
  ·obtain ⟨c0, c1, c2⟩ := cells3 (HM.out.at_ 0 rfl) 15 rfl rfl rfl
   have HM2 := Lib.hid (HM.out.new 57 [.int .i64 9, .int .i64 5, .int .i64 3])
   obtain ⟨y0, y1, y2⟩ := cells3 (HM2.out.at_ 1 rfl) 0 rfl rfl rfl
   by_cases hn : n = 9
   ·subst hn
    clear HM
    go_wp2_with fail
    go_quiet (fail)
    go_wp2_with fail
    exact bodyPost_ret (v := .tuple #[.int .i64 5, .int .i64 3, .bool true]) (by simp [results, Tryz.results13, go_sem]) rfl ⟨rfl, (HM2.out.drewN _).below⟩
   ·have hb : ((9 : Int) == n) = false := by rw [beq_eq_false_iff_ne]; omega
    have HN := Lib.hid hn
    have HH := Lib.hid (And.intro (h0) (And.intro h1 (And.intro h2 (And.intro h3 (And.intro h4 (And.intro h5 h6))))))
    have HM3 := Lib.hid (show Hp w [(w.heap.size, 57, lpV)] _ from HM2.out.sub (by simp))
    clear hn h0 h1 h2 h3 h4 h5 h6 HM HM2 y1 y2
    go_wp2_with fail
    go_roundw
    case rel =>
     obtain ⟨h0, h1, h2, h3, h4, h5, h6⟩ := HH.out
     have hn := HN.out
     exact ⟨6, by omega, rfl, fun _ => h0 (by omega), fun _ => h1 (by omega), fun _ => h2 (by omega), fun _ => h3 (by omega), fun _ => h4 (by omega), fun _ => hn, fun h => absurd h (by omega), HM3.out⟩
    case measure => simp [intOf]
  ·obtain ⟨c0, c1, c2⟩ := cells3 (HM.out.at_ 0 rfl) 18 rfl rfl rfl
   have HM2 := Lib.hid (HM.out.new 57 [.int .i64 12, .int .i64 2, .int .i64 1])
   obtain ⟨y0, y1, y2⟩ := cells3 (HM2.out.at_ 1 rfl) 0 rfl rfl rfl
   by_cases hn : n = 12
   ·subst hn
    clear HM
    go_wp2_with fail
    go_quiet (fail)
    go_wp2_with fail
    exact bodyPost_ret (v := .tuple #[.int .i64 2, .int .i64 1, .bool true]) (by simp [results, Tryz.results13, go_sem]) rfl ⟨rfl, (HM2.out.drewN _).below⟩
   ·have hb : ((12 : Int) == n) = false := by rw [beq_eq_false_iff_ne]; omega
    have HN := Lib.hid hn
    have HH := Lib.hid (And.intro (h0) (And.intro h1 (And.intro h2 (And.intro h3 (And.intro h4 (And.intro h5 h6))))))
    have HM3 := Lib.hid (show Hp w [(w.heap.size, 57, lpV)] _ from HM2.out.sub (by simp))
    clear hn h0 h1 h2 h3 h4 h5 h6 HM HM2 y1 y2
    go_wp2_with fail
    go_roundw
    case rel =>
     obtain ⟨h0, h1, h2, h3, h4, h5, h6⟩ := HH.out
     have hn := HN.out
     exact ⟨7, by omega, rfl, fun _ => h0 (by omega), fun _ => h1 (by omega), fun _ => h2 (by omega), fun _ => h3 (by omega), fun _ => h4 (by omega), fun _ => h5 (by omega), fun _ => hn, HM3.out⟩
    case measure => simp [intOf]
  ·have hno : ¬ ptB n := by
    have := h0 (by omega)
    have := h1 (by omega)
    have := h2 (by omega)
    have := h3 (by omega)
    have := h4 (by omega)
    have := h5 (by omega)
    have := h6 (by omega)
    unfold ptB; omega
   have HZ := Lib.hid (show (ptP n).1 = 0 ∧ (ptP n).2 = 0 ∧ decide (ptB n) = false from by
    have e : ptP n = (0, 0) := by unfold ptP; unfold ptB at hno; (repeat' split) <;> first | rfl | omega
    rw [e]
    exact ⟨rfl, rfl, decide_eq_false hno⟩)
   clear hno h0 h1 h2 h3 h4 h5 h6 hk
   go_wp2_with fail
   exact bodyPost_ret (v := .tuple #[.int .i64 0, .int .i64 0, .bool false]) (by simp [results, Tryz.results13, go_sem]) rfl ⟨by rw [HZ.out.1, HZ.out.2.1, HZ.out.2.2], HM.out.below⟩
end Go.Proofs.YtendjepcjmfmfaaGreatDoor
namespace Go.Proofs.YtendjepcjmfmfaaGreatDoor
section
open Go.RowKit Go.Op
theorem wpList_load_rowW {P : Program} {ops : Array Oper} {rest : List Oper} {o : Oper} {a : Act} {w : World} {Q : Exit → Act → World → Prop} (hw : Region.wanted o (yielded ops a.tmps) = true) (ty : TypeId) (x : Operand) (ho : o.op = .load ty x)
  (g : Nat) (hx : a.eval x = .pointer (some ⟨g, 0, none⟩)) (t : TypeId) (cs : Array Value) (fr : Nat × Nat) (d : TypeDesc) (hg : w.heap[g]? = some (.cells cs t fr))
  (hu : P.underlying ty = some d) (hd : (match d with | .struct _ | .array _ _ => true | _ => false) = true) (hi : (P.info? ty).map (·.size) = some cs.size)
  (h : wpList P ops Q rest (a.put o.dst (.agg cs)) w) : wpList P ops Q (o :: rest) a w :=
 wpList_step fun _ hK => by
  rw [if_pos hw]
  exact wp_load_row ty x ho g hx t cs fr d hg hu hd hi (hK _ _ h)
end
end Go.Proofs.YtendjepcjmfmfaaGreatDoor
namespace Go.Proofs.YtendjepcjmfmfaaGreatDoor
open Go.RowKit
theorem bPart_any (n : Int) (w : World) : Calls Tryz.prog 12 #[.int .i64 n] w fun e w' => e = .returned (.tuple #[.int .i64 (ptP n).1, .int .i64 (ptP n).2, .int .i64 (if ptB n then 0 else 18)]) ∧ w = w' := by
 by_cases h : ptB n
 ·rw [if_pos h]; exact bPart_ok n w h
 ·rw [if_neg h]
  have e : ptP n = (0, 0) := by
   unfold ptP; unfold ptB at h
   (repeat' split) <;> first | rfl | omega
  rw [e]
  exact bPart_no n w h
set_option maxRecDepth 1000000 in
set_option maxHeartbeats 8000000 in
theorem bparts_gen (n pt : Int) (m d : Int) (X : Nat → Int × Int) (C : Nat → Tm) (w : World) (ht : Tab w) (hC : ∀ i, i < 12 → Tm64 (C i)) (hck : ckE C = 0)
  (hM : ∀ W, Calls Tryz.prog 14 #[.agg (plC m X d).toArray] W fun e w' => e = .returned (.agg (cirL C).toArray) ∧ Below W.heap.size W w') :
  Calls Tryz.prog 3 #[.int .i64 n, .agg (plC m X d).toArray, .int .i64 pt] w fun e w' => e = .returned (.bool true) ∧ Below w.heap.size w w' := by
 have hkn := fun W hT => bknown_any W hT
 have hp1 := fun W => bPart_any n W
 have hp2 := fun W => lpart42 n W
 have hbc := fun W => bCheck_any C pt W hC
 have htc := fun W => tcheck_any C W hC
 have hte : tuE C pt = if pt < 1 ∨ 1000 < pt then 3 else 0 := by unfold tuE; rw [hck, if_neg (by simp)]
 rw [hck] at htc
 obtain ⟨u, hu⟩ : ∃ u, u = (ptP n).1 := ⟨_, rfl⟩
 obtain ⟨v, hv⟩ : ∃ u, u = (ptP n).2 := ⟨_, rfl⟩
 obtain ⟨q, hq⟩ : ∃ q, q = decide (ptB n) := ⟨_, rfl⟩
 obtain ⟨r, hr⟩ : ∃ r : Int, r = if ptB n then 0 else 18 := ⟨_, rfl⟩
 obtain ⟨E, hE⟩ : ∃ E, E = tuE C pt := ⟨_, rfl⟩
 rw [← hu, ← hv, ← hr] at hp1
 rw [← hu, ← hv, ← hq] at hp2
 rw [← hE] at hbc hte
 have hqr : (q = true ∧ r = 0) ∨ (q = false ∧ r = 18) := by
  by_cases h : ptB n
  ·exact .inl ⟨hq.trans (decide_eq_true h), hr.trans (if_pos h)⟩
  ·exact .inr ⟨hq.trans (decide_eq_false h), hr.trans (if_neg h)⟩
 have HKN := Lib.hid hkn
 have HP1 := Lib.hid hp1
 have HP2 := Lib.hid hp2
 have HBC := Lib.hid hbc
 have HTC := Lib.hid htc
 have HTE := Lib.hid hte
 have HQR := Lib.hid hqr
 have HT := Lib.hid ht
 have HM := Lib.hid hM
 have hm0 := (Hp.start w).new 26 (plC m X d)
 simp only [List.nil_append, List.cons_append] at hm0
 have HM0 := Lib.hid hm0
 clear hkn hp1 hp2 hbc htc hte hqr ht hM hm0 hu hv hq hr hE hC hck
 go_enter Tryz.func3, Tryz.ntmps3
 go_wp2_with fail
 refine (HKN.out _ (HT.out.below HM0.out.below)).mono ?_
 rintro e w1 ⟨rfl, hb1⟩
 have HM1 := Lib.hid (HM0.out.step hb1)
 clear hb1 HM0
 go_wp2_with fail
 refine (HP1.out _).mono ?_
 rintro e wx ⟨rfl, rfl⟩
 go_wp2_with fail
 refine (HP2.out _).mono ?_
 rintro e w2 ⟨rfl, hb2⟩
 have HM2 := Lib.hid (HM1.out.step hb2)
 clear hb2 HM1
 go_wp2_with (refine wpList_load_row rfl 26 _ rfl (w.heap.size) rfl 26 (plC m X d).toArray (0, 0) _ (HM2.out.at_ 0 rfl) Tryz.underlying26 rfl (by rw [infoPlan42, List.size_toArray, pl_len]) ?_)
 refine (HM.out _).mono ?_
 rintro e w3 ⟨rfl, hb3⟩
 have hm3 := (HM2.out.step hb3).new 41 (tuL (fun _ => (0, 0, 0, 0)) 0)
 simp only [List.nil_append, List.cons_append] at hm3
 have HM3 := Lib.hid hm3
 have HM4 := Lib.hid ((hm3.row 1 rfl (tuL C pt)).cast (L' := [(w.heap.size, 26, plC m X d), (w3.heap.size, 41, tuL C pt)]) rfl)
 clear hb3 HM2 hm3
 go_wp2_with (first | (refine wpList_bldTun rfl _ _ rfl C pt rfl rfl ?_) | (refine wpList_store_rowTo rfl 41 _ _ rfl rfl (w3.heap.size) (tuL C pt).toArray rfl rfl 41 (tuL (fun _ => (0, 0, 0, 0)) 0).toArray (HM3.out.at_ 1 rfl) (by rw [infoTun, List.size_toArray, tuL_len]) (by rw [List.size_toArray, List.size_toArray, tuL_len, tuL_len]) (tu_one C pt) ?_) | (refine wpList_load_pre rfl 38 _ rfl w3.heap.size rfl (cirL C).toArray _ (tu_cir (HM4.out.at_ 1 rfl)) Tryz.underlying38 rfl (by rw [infoCircle, List.size_toArray, cirL_len]) ?_))
 refine (HTC.out _).mono ?_
 rintro e w4 ⟨rfl, hb4⟩
 have HM5 := Lib.hid (HM4.out.step hb4)
 clear hb4 HM4 HM3
 have hE : E = if pt < 1 ∨ 1000 < pt then 3 else 0 := HTE.out
 by_cases h1 : pt < 1
 ·obtain rfl : E = 3 := hE.trans (if_pos (.inl h1))
  clear hE HTE
  rcases HQR.out with ⟨rfl, rfl⟩ | ⟨rfl, rfl⟩
  ·go_wp2_with (first | (refine wpList_load_rowW rfl 41 _ rfl w3.heap.size rfl 41 (tuL C pt).toArray (0, 0) _ (HM5.out.at_ 1 rfl) Tryz.underlying41 rfl (by rw [infoTun, List.size_toArray, tuL_len]) ?_))
   refine (HBC.out _).mono ?_
   rintro e w5 ⟨rfl, hb5⟩
   have HZ := Lib.hid (HM5.out.step hb5)
   clear hb5
   go_wp2_with fail
   exact bodyPost_ret (v := .bool true) (by simp [results, Tryz.results3, go_sem]) rfl ⟨rfl, HZ.out.below⟩
  ·go_wp2_with (first | (refine wpList_load_rowW rfl 41 _ rfl w3.heap.size rfl 41 (tuL C pt).toArray (0, 0) _ (HM5.out.at_ 1 rfl) Tryz.underlying41 rfl (by rw [infoTun, List.size_toArray, tuL_len]) ?_))
   refine (HBC.out _).mono ?_
   rintro e w5 ⟨rfl, hb5⟩
   have HZ := Lib.hid (HM5.out.step hb5)
   clear hb5
   go_wp2_with fail
   exact bodyPost_ret (v := .bool true) (by simp [results, Tryz.results3, go_sem]) rfl ⟨rfl, HZ.out.below⟩
 ·by_cases h2 : 1000 < pt
  ·obtain rfl : E = 3 := hE.trans (if_pos (.inr h2))
   clear hE HTE
   rcases HQR.out with ⟨rfl, rfl⟩ | ⟨rfl, rfl⟩
   ·go_wp2_with (first | (refine wpList_load_rowW rfl 41 _ rfl w3.heap.size rfl 41 (tuL C pt).toArray (0, 0) _ (HM5.out.at_ 1 rfl) Tryz.underlying41 rfl (by rw [infoTun, List.size_toArray, tuL_len]) ?_))
    refine (HBC.out _).mono ?_
    rintro e w5 ⟨rfl, hb5⟩
    have HZ := Lib.hid (HM5.out.step hb5)
    clear hb5
    go_wp2_with fail
    exact bodyPost_ret (v := .bool true) (by simp [results, Tryz.results3, go_sem]) rfl ⟨rfl, HZ.out.below⟩
   ·go_wp2_with (first | (refine wpList_load_rowW rfl 41 _ rfl w3.heap.size rfl 41 (tuL C pt).toArray (0, 0) _ (HM5.out.at_ 1 rfl) Tryz.underlying41 rfl (by rw [infoTun, List.size_toArray, tuL_len]) ?_))
    refine (HBC.out _).mono ?_
    rintro e w5 ⟨rfl, hb5⟩
    have HZ := Lib.hid (HM5.out.step hb5)
    clear hb5
    go_wp2_with fail
    exact bodyPost_ret (v := .bool true) (by simp [results, Tryz.results3, go_sem]) rfl ⟨rfl, HZ.out.below⟩
  ·obtain rfl : E = 0 := hE.trans (if_neg (by omega))
   clear hE HTE
   rcases HQR.out with ⟨rfl, rfl⟩ | ⟨rfl, rfl⟩
   ·go_wp2_with (first | (refine wpList_load_rowW rfl 41 _ rfl w3.heap.size rfl 41 (tuL C pt).toArray (0, 0) _ (HM5.out.at_ 1 rfl) Tryz.underlying41 rfl (by rw [infoTun, List.size_toArray, tuL_len]) ?_))
    refine (HBC.out _).mono ?_
    rintro e w5 ⟨rfl, hb5⟩
    have HZ := Lib.hid (HM5.out.step hb5)
    clear hb5
    go_wp2_with fail
    exact bodyPost_ret (v := .bool true) (by simp [results, Tryz.results3, go_sem]) rfl ⟨rfl, HZ.out.below⟩
   ·go_wp2_with (first | (refine wpList_load_rowW rfl 41 _ rfl w3.heap.size rfl 41 (tuL C pt).toArray (0, 0) _ (HM5.out.at_ 1 rfl) Tryz.underlying41 rfl (by rw [infoTun, List.size_toArray, tuL_len]) ?_))
    refine (HBC.out _).mono ?_
    rintro e w5 ⟨rfl, hb5⟩
    have HZ := Lib.hid (HM5.out.step hb5)
    clear hb5
    go_wp2_with fail
    exact bodyPost_ret (v := .bool true) (by simp [results, Tryz.results3, go_sem]) rfl ⟨rfl, HZ.out.below⟩
theorem bparts_any (n pt m d : Int) (X : Nat → Int × Int) (w : World) (ht : Tab w) (hm : 0 ≤ m ∧ m < 256) (hd : 0 ≤ d ∧ d < 256) (hX : ∀ i, i < 12 → (-128 ≤ (X i).1 ∧ (X i).1 ≤ 127) ∧ (-128 ≤ (X i).2 ∧ (X i).2 ≤ 127)) :
  Calls Tryz.prog 3 #[.int .i64 n, .agg (plC m X d).toArray, .int .i64 pt] w fun e w' => e = .returned (.bool true) ∧ Below w.heap.size w w' := by
 have hpl := pl_pln m d X
 exact bparts_gen n pt m d X _ w ht (plan_tm hpl) (ckE_pl hpl) (fun W => lMake_any m d X W hm hd hX)
end Go.Proofs.YtendjepcjmfmfaaGreatDoor
