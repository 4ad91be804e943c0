/- Part 44 of 47 of the proof of the law: contracts of the functions that it reaches, and plain facts. Conditions: those that each contract names. -/
import Derived.Test.YtendjepcjmfmfaaGreatDoorOrdB43
import Derived.Deep.QuietTactic
import Derived.BigQuiet
namespace Go.Proofs.YtendjepcjmfmfaaGreatDoor
open Go.RowKit
abbrev lpV : List Value := [.int .i64 3, .int .i64 6, .int .i64 5, .int .i64 4, .int .i64 5, .int .i64 4, .int .i64 5, .int .i64 4, .int .i64 3, .int .i64 7, .int .i64 3, .int .i64 2, .int .i64 8, .int .i64 8, .int .i64 5, .int .i64 9, .int .i64 5, .int .i64 3, .int .i64 12, .int .i64 2, .int .i64 1]
def LpRel (w : World) (g : Nat) (n : Int) (i : Value) (W : World) : Prop :=
 ∃ k : Nat, k ≤ 7 ∧ i = .int .i64 (k : Int) ∧ (0 < k → n ≠ 3) ∧ (1 < k → n ≠ 4) ∧ (2 < k → n ≠ 5) ∧ (3 < k → n ≠ 7) ∧ (4 < k → n ≠ 8) ∧ (5 < k → n ≠ 9) ∧ (6 < k → n ≠ 12) ∧ Hp w [(g, 57, lpV)] W
theorem cells3 {W : World} {g : Nat} {t : TypeId} {L : List Value} (h : Blk W g t L) (i : Nat) {a b c : Value} (h0 : L[i]? = some a) (h1 : L[i + 1]? = some b) (h2 : L[i + 2]? = some c) : W.cell? ⟨g, i, none⟩ = some a ∧ W.cell? ⟨g, i + 1, none⟩ = some b ∧ W.cell? ⟨g, i + 2, none⟩ = some c :=
 ⟨(h.cell i).trans h0, (h.cell (i + 1)).trans h1, (h.cell (i + 2)).trans h2⟩
set_option maxRecDepth 100000 in
set_option maxHeartbeats 4000000 in
theorem lpart42 (n : Int) (w : World) : Calls Tryz.prog 13 #[.int .i64 n] w fun e w' => e = .returned (.tuple #[.int .i64 (ptP n).1, .int .i64 (ptP n).2, .bool (decide (ptB n))]) ∧ Below w.heap.size w w' := by
 have hm0 := (Hp.start w).new 57 lpV
 simp only [List.nil_append] at hm0
 have HM0 := Lib.hid hm0
 clear hm0
 go_enter Tryz.func13, Tryz.ntmps13
 go_wp2_with fail
 go_loopw [16] (fun i wr => LpRel w w.heap.size n i wr) (fun i _ => 7 - (intOf i).toNat)
 case atStart => exact ⟨0, by omega, rfl, fun h => absurd h (by omega), fun h => absurd h (by omega), fun h => absurd h (by omega), fun h => absurd h (by omega), fun h => absurd h (by omega), fun h => absurd h (by omega), fun h => absurd h (by omega), HM0.out⟩
 case round =>
  obtain ⟨k, hk, rfl, h0, h1, h2, h3, h4, h5, h6, hm⟩ := hrel
  have HM := Lib.hid hm
  clear hm HM0
  rcases (show k = 0 ∨ k = 1 ∨ k = 2 ∨ k = 3 ∨ k = 4 ∨ k = 5 ∨ k = 6 ∨ k = 7 by omega) with rfl | rfl | rfl | rfl | rfl | rfl | rfl | rfl
  ·obtain ⟨c0, c1, c2⟩ := cells3 (HM.out.at_ 0 rfl) 0 rfl rfl rfl
   have HM2 := Lib.hid (HM.out.new 57 [.int .i64 3, .int .i64 6, .int .i64 5])
   obtain ⟨y0, y1, y2⟩ := cells3 (HM2.out.at_ 1 rfl) 0 rfl rfl rfl
   by_cases hn : n = 3
   ·subst hn
    clear HM
    go_wp2_with fail
    go_quiet (fail)
    go_wp2_with fail
    exact bodyPost_ret (v := .tuple #[.int .i64 6, .int .i64 5, .bool true]) (by simp [results, Tryz.results13, go_sem]) rfl ⟨rfl, (HM2.out.drewN _).below⟩
   ·have hb : ((3 : Int) == n) = false := by rw [beq_eq_false_iff_ne]; omega
    have HN := Lib.hid hn
    have HH := Lib.hid (And.intro (h0) (And.intro h1 (And.intro h2 (And.intro h3 (And.intro h4 (And.intro h5 h6))))))
    have HM3 := Lib.hid (show Hp w [(w.heap.size, 57, lpV)] _ from HM2.out.sub (by simp))
    clear hn h0 h1 h2 h3 h4 h5 h6 HM HM2 y1 y2
    go_wp2_with fail
    go_roundw
    case rel =>
     obtain ⟨h0, h1, h2, h3, h4, h5, h6⟩ := HH.out
     have hn := HN.out
     exact ⟨1, by omega, rfl, fun _ => hn, fun h => absurd h (by omega), fun h => absurd h (by omega), fun h => absurd h (by omega), fun h => absurd h (by omega), fun h => absurd h (by omega), fun h => absurd h (by omega), HM3.out⟩
    case measure => simp [intOf]
  ·obtain ⟨c0, c1, c2⟩ := cells3 (HM.out.at_ 0 rfl) 3 rfl rfl rfl
   have HM2 := Lib.hid (HM.out.new 57 [.int .i64 4, .int .i64 5, .int .i64 4])
   obtain ⟨y0, y1, y2⟩ := cells3 (HM2.out.at_ 1 rfl) 0 rfl rfl rfl
   by_cases hn : n = 4
   ·subst hn
    clear HM
    go_wp2_with fail
    go_quiet (fail)
    go_wp2_with fail
    exact bodyPost_ret (v := .tuple #[.int .i64 5, .int .i64 4, .bool true]) (by simp [results, Tryz.results13, go_sem]) rfl ⟨rfl, (HM2.out.drewN _).below⟩
   ·have hb : ((4 : Int) == n) = false := by rw [beq_eq_false_iff_ne]; omega
    have HN := Lib.hid hn
    have HH := Lib.hid (And.intro (h0) (And.intro h1 (And.intro h2 (And.intro h3 (And.intro h4 (And.intro h5 h6))))))
    have HM3 := Lib.hid (show Hp w [(w.heap.size, 57, lpV)] _ from HM2.out.sub (by simp))
    clear hn h0 h1 h2 h3 h4 h5 h6 HM HM2 y1 y2
    go_wp2_with fail
    go_roundw
    case rel =>
     obtain ⟨h0, h1, h2, h3, h4, h5, h6⟩ := HH.out
     have hn := HN.out
     exact ⟨2, by omega, rfl, fun _ => h0 (by omega), fun _ => hn, fun h => absurd h (by omega), fun h => absurd h (by omega), fun h => absurd h (by omega), fun h => absurd h (by omega), fun h => absurd h (by omega), HM3.out⟩
    case measure => simp [intOf]
  ·obtain ⟨c0, c1, c2⟩ := cells3 (HM.out.at_ 0 rfl) 6 rfl rfl rfl
   have HM2 := Lib.hid (HM.out.new 57 [.int .i64 5, .int .i64 4, .int .i64 3])
   obtain ⟨y0, y1, y2⟩ := cells3 (HM2.out.at_ 1 rfl) 0 rfl rfl rfl
   by_cases hn : n = 5
   ·subst hn
    clear HM
    go_wp2_with fail
    go_quiet (fail)
    go_wp2_with fail
    exact bodyPost_ret (v := .tuple #[.int .i64 4, .int .i64 3, .bool true]) (by simp [results, Tryz.results13, go_sem]) rfl ⟨rfl, (HM2.out.drewN _).below⟩
   ·have hb : ((5 : Int) == n) = false := by rw [beq_eq_false_iff_ne]; omega
    have HN := Lib.hid hn
    have HH := Lib.hid (And.intro (h0) (And.intro h1 (And.intro h2 (And.intro h3 (And.intro h4 (And.intro h5 h6))))))
    have HM3 := Lib.hid (show Hp w [(w.heap.size, 57, lpV)] _ from HM2.out.sub (by simp))
    clear hn h0 h1 h2 h3 h4 h5 h6 HM HM2 y1 y2
    go_wp2_with fail
    go_roundw
    case rel =>
     obtain ⟨h0, h1, h2, h3, h4, h5, h6⟩ := HH.out
     have hn := HN.out
     exact ⟨3, by omega, rfl, fun _ => h0 (by omega), fun _ => h1 (by omega), fun _ => hn, fun h => absurd h (by omega), fun h => absurd h (by omega), fun h => absurd h (by omega), fun h => absurd h (by omega), HM3.out⟩
    case measure => simp [intOf]
  ·obtain ⟨c0, c1, c2⟩ := cells3 (HM.out.at_ 0 rfl) 9 rfl rfl rfl
   have HM2 := Lib.hid (HM.out.new 57 [.int .i64 7, .int .i64 3, .int .i64 2])
   obtain ⟨y0, y1, y2⟩ := cells3 (HM2.out.at_ 1 rfl) 0 rfl rfl rfl
   by_cases hn : n = 7
   ·subst hn
    clear HM
    go_wp2_with fail
    go_quiet (fail)
    go_wp2_with fail
    exact bodyPost_ret (v := .tuple #[.int .i64 3, .int .i64 2, .bool true]) (by simp [results, Tryz.results13, go_sem]) rfl ⟨rfl, (HM2.out.drewN _).below⟩
   ·have hb : ((7 : Int) == n) = false := by rw [beq_eq_false_iff_ne]; omega
    have HN := Lib.hid hn
    have HH := Lib.hid (And.intro (h0) (And.intro h1 (And.intro h2 (And.intro h3 (And.intro h4 (And.intro h5 h6))))))
    have HM3 := Lib.hid (show Hp w [(w.heap.size, 57, lpV)] _ from HM2.out.sub (by simp))
    clear hn h0 h1 h2 h3 h4 h5 h6 HM HM2 y1 y2
    go_wp2_with fail
    go_roundw
    case rel =>
     obtain ⟨h0, h1, h2, h3, h4, h5, h6⟩ := HH.out
     have hn := HN.out
     exact ⟨4, by omega, rfl, fun _ => h0 (by omega), fun _ => h1 (by omega), fun _ => h2 (by omega), fun _ => hn, fun h => absurd h (by omega), fun h => absurd h (by omega), fun h => absurd h (by omega), HM3.out⟩
    case measure => simp [intOf]
  ·obtain ⟨c0, c1, c2⟩ := cells3 (HM.out.at_ 0 rfl) 12 rfl rfl rfl
   have HM2 := Lib.hid (HM.out.new 57 [.int .i64 8, .int .i64 8, .int .i64 5])
   obtain ⟨y0, y1, y2⟩ := cells3 (HM2.out.at_ 1 rfl) 0 rfl rfl rfl
   by_cases hn : n = 8
   ·subst hn
    clear HM
    go_wp2_with fail
    go_quiet (fail)
    go_wp2_with fail
    exact bodyPost_ret (v := .tuple #[.int .i64 8, .int .i64 5, .bool true]) (by simp [results, Tryz.results13, go_sem]) rfl ⟨rfl, (HM2.out.drewN _).below⟩
   ·have hb : ((8 : Int) == n) = false := by rw [beq_eq_false_iff_ne]; omega
    have HN := Lib.hid hn
    have HH := Lib.hid (And.intro (h0) (And.intro h1 (And.intro h2 (And.intro h3 (And.intro h4 (And.intro h5 h6))))))
    have HM3 := Lib.hid (show Hp w [(w.heap.size, 57, lpV)] _ from HM2.out.sub (by simp))
    clear hn h0 h1 h2 h3 h4 h5 h6 HM HM2 y1 y2
    go_wp2_with fail
    go_roundw
    case rel =>
     obtain ⟨h0, h1, h2, h3, h4, h5, h6⟩ := HH.out
     have hn := HN.out
     exact ⟨5, by omega, rfl, fun _ => h0 (by omega), fun _ => h1 (by omega), fun _ => h2 (by omega), fun _ => h3 (by omega), fun _ => hn, fun h => absurd h (by omega), fun h => absurd h (by omega), HM3.out⟩
    case measure => simp [intOf]
  ·obtain ⟨c0, c1, c2⟩ := cells3 (HM.out.at_ 0 rfl) 15 rfl rfl rfl
   have HM2 := Lib.hid (HM.out.new 57 [.int .i64 9, .int .i64 5, .int .i64 3])
   obtain ⟨y0, y1, y2⟩ := cells3 (HM2.out.at_ 1 rfl) 0 rfl rfl rfl
   by_cases hn : n = 9
   ·subst hn
    clear HM
    go_wp2_with fail
    go_quiet (fail)
    go_wp2_with fail
    exact bodyPost_ret (v := .tuple #[.int .i64 5, .int .i64 3, .bool true]) (by simp [results, Tryz.results13, go_sem]) rfl ⟨rfl, (HM2.out.drewN _).below⟩
   ·have hb : ((9 : Int) == n) = false := by rw [beq_eq_false_iff_ne]; omega
    have HN := Lib.hid hn
    have HH := Lib.hid (And.intro (h0) (And.intro h1 (And.intro h2 (And.intro h3 (And.intro h4 (And.intro h5 h6))))))
    have HM3 := Lib.hid (show Hp w [(w.heap.size, 57, lpV)] _ from HM2.out.sub (by simp))
    clear hn h0 h1 h2 h3 h4 h5 h6 HM HM2 y1 y2
    go_wp2_with fail
    go_roundw
    case rel =>
     obtain ⟨h0, h1, h2, h3, h4, h5, h6⟩ := HH.out
     have hn := HN.out
     exact ⟨6, by omega, rfl, fun _ => h0 (by omega), fun _ => h1 (by omega), fun _ => h2 (by omega), fun _ => h3 (by omega), fun _ => h4 (by omega), fun _ => hn, fun h => absurd h (by omega), HM3.out⟩
    case measure => simp [intOf]
  ·obtain ⟨c0, c1, c2⟩ := cells3 (HM.out.at_ 0 rfl) 18 rfl rfl rfl
   have HM2 := Lib.hid (HM.out.new 57 [.int .i64 12, .int .i64 2, .int .i64 1])
   obtain ⟨y0, y1, y2⟩ := cells3 (HM2.out.at_ 1 rfl) 0 rfl rfl rfl
   by_cases hn : n = 12
   ·subst hn
    clear HM
    go_wp2_with fail
    go_quiet (fail)
    go_wp2_with fail
    exact bodyPost_ret (v := .tuple #[.int .i64 2, .int .i64 1, .bool true]) (by simp [results, Tryz.results13, go_sem]) rfl ⟨rfl, (HM2.out.drewN _).below⟩
   ·have hb : ((12 : Int) == n) = false := by rw [beq_eq_false_iff_ne]; omega
    have HN := Lib.hid hn
    have HH := Lib.hid (And.intro (h0) (And.intro h1 (And.intro h2 (And.intro h3 (And.intro h4 (And.intro h5 h6))))))
    have HM3 := Lib.hid (show Hp w [(w.heap.size, 57, lpV)] _ from HM2.out.sub (by simp))
    clear hn h0 h1 h2 h3 h4 h5 h6 HM HM2 y1 y2
    go_wp2_with fail
    go_roundw
    case rel =>
     obtain ⟨h0, h1, h2, h3, h4, h5, h6⟩ := HH.out
     have hn := HN.out
     exact ⟨7, by omega, rfl, fun _ => h0 (by omega), fun _ => h1 (by omega), fun _ => h2 (by omega), fun _ => h3 (by omega), fun _ => h4 (by omega), fun _ => h5 (by omega), fun _ => hn, HM3.out⟩
    case measure => simp [intOf]
  ·have hno : ¬ ptB n := by
    have := h0 (by omega)
    have := h1 (by omega)
    have := h2 (by omega)
    have := h3 (by omega)
    have := h4 (by omega)
    have := h5 (by omega)
    have := h6 (by omega)
    unfold ptB; omega
   have HZ := Lib.hid (show (ptP n).1 = 0 ∧ (ptP n).2 = 0 ∧ decide (ptB n) = false from by
    have e : ptP n = (0, 0) := by unfold ptP; unfold ptB at hno; (repeat' split) <;> first | rfl | omega
    rw [e]
    exact ⟨rfl, rfl, decide_eq_false hno⟩)
   clear hno h0 h1 h2 h3 h4 h5 h6 hk
   go_wp2_with fail
   exact bodyPost_ret (v := .tuple #[.int .i64 0, .int .i64 0, .bool false]) (by simp [results, Tryz.results13, go_sem]) rfl ⟨by rw [HZ.out.1, HZ.out.2.1, HZ.out.2.2], HM.out.below⟩
set_option maxRecDepth 1000000 in
set_option maxHeartbeats 4000000 in
theorem ldir_gen (C : Nat → Tm) (p l s t dv s0 s1 s2 s3 s4 s5 r0 r1 r2 r3 r4 r5 : Int) (w : World) (ht : Tab w) (hs : ptB s) (hl : 0 ≤ l ∧ l ≤ 127) (hlt : l + s = t)
  (hB : ∀ W, Tab W → Calls Tryz.prog 56 #[.agg (cirL C).toArray, .int .i64 l, .int .i64 t] W fun e w' => e = .returned (.tuple #[szv s0 s1 s2 s3 s4 s5, .int .i64 0]) ∧ Below W.heap.size W w')
  (hR : ∀ W, Calls Tryz.prog 61 #[.int .i64 (ptP s).1, .int .i64 (ptP s).2] W fun e w' => e = .returned (.tuple #[szv r0 r1 r2 r3 r4 r5, .int .i64 0]) ∧ Below W.heap.size W w')
  (hC : ∀ W, Tab W → Calls Tryz.prog 46 #[szv s0 s1 s2 s3 s4 s5, szv r0 r1 r2 r3 r4 r5] W fun e w' => e = .returned (.tuple #[.int .i64 dv, .int .i64 0]) ∧ Below W.heap.size W w') :
  Calls Tryz.prog 28 #[.agg (tuL C p).toArray, .agg #[.int .i64 l, .int .i64 s]] w fun e w' => e = .returned (.tuple #[.int .i64 dv, .int .i64 0]) ∧ Below w.heap.size w w' := by
 have hp := fun W => lpart42 s W
 have hs12 : 0 ≤ s ∧ s ≤ 12 := by unfold ptB at hs; omega
 have hw : IntKind.i64.wrap (l + s) = t := by rw [hlt]; exact IntWalk.i64_in _ (by omega)
 obtain ⟨u, hu⟩ : ∃ u, u = (ptP s).1 := ⟨_, rfl⟩
 obtain ⟨v, hv⟩ : ∃ u, u = (ptP s).2 := ⟨_, rfl⟩
 obtain ⟨q, hq⟩ : ∃ q, q = decide (ptB s) := ⟨_, rfl⟩
 rw [← hu, ← hv, ← hq] at hp
 rw [← hu, ← hv] at hR
 have HP := Lib.hid hp
 have HB := Lib.hid hB
 have HR := Lib.hid hR
 have HC := Lib.hid hC
 have HT := Lib.hid ht
 have HW := Lib.hid hw
 have hm0 := ((Hp.start w).new 41 (tuL C p)).new 67 [.int .i64 l, .int .i64 s]
 simp only [World.size_alloc, List.nil_append, List.cons_append] at hm0
 have HM0 := Lib.hid hm0
 obtain ⟨y0, y1⟩ := two_of (hm0.at_ 1 rfl)
 clear hm0 hp hB hR hC ht hw hs hl hlt hs12 hu hv hq
 go_enter Tryz.func28, Tryz.ntmps28
 go_wp2_with fail
 refine (HP.out _).mono ?_
 rintro e w1 ⟨rfl, hb1⟩
 have HM1 := Lib.hid (HM0.out.step hb1)
 clear hb1 HM0 y0 y1
 obtain ⟨y0, y1⟩ := two_of (HM1.out.at_ 1 rfl)
 have hw := HW.out
 go_wp2_with (refine wpList_load_pre rfl 38 _ rfl w.heap.size rfl (cirL C).toArray _ (tu_cir (HM1.out.at_ 0 rfl)) Tryz.underlying38 rfl (by rw [infoCircle, List.size_toArray, cirL_len]) ?_)
 refine (HB.out _ (HT.out.below HM1.out.below)).mono ?_
 rintro e w2 ⟨rfl, hb2⟩
 have HM3 := Lib.hid (HM1.out.step hb2)
 clear hb2 HM1 y0 y1 hw
 have hm4 := HM3.out.new 49 [.int .i64 s0, .int .i64 s1, .int .i64 s2, .int .i64 s3, .int .i64 s4, .int .i64 s5]
 simp only [List.nil_append, List.cons_append] at hm4
 have HM4 := Lib.hid hm4
 clear hm4 HM3
 go_wp2_with fail
 refine (HR.out _).mono ?_
 rintro e w3 ⟨rfl, hb3⟩
 have HM5 := Lib.hid (HM4.out.step hb3)
 clear hb3 HM4
 have hm6 := HM5.out.new 49 [.int .i64 r0, .int .i64 r1, .int .i64 r2, .int .i64 r3, .int .i64 r4, .int .i64 r5]
 simp only [List.nil_append, List.cons_append] at hm6
 have HM6 := Lib.hid hm6
 obtain ⟨p0, p1, p2, p3, p4, p5⟩ := six_of (hm6.at_ 2 rfl)
 obtain ⟨q0, q1, q2, q3, q4, q5⟩ := six_of (hm6.at_ 3 rfl)
 clear hm6 HM5
 go_wp2_with fail
 refine (HC.out _ (HT.out.below HM6.out.below)).mono ?_
 rintro e w4 ⟨rfl, hb4⟩
 have HZ := Lib.hid (HM6.out.step hb4)
 clear hb4 HM6 p0 p1 p2 p3 p4 p5 q0 q1 q2 q3 q4 q5
 go_wp2_with fail
 exact bodyPost_ret (v := .tuple #[.int .i64 dv, .int .i64 0]) (by simp [results, Tryz.results28, go_sem]) rfl ⟨rfl, HZ.out.below⟩
theorem ldir_pl {d : Int} {P S : Nat → Int} (h : PlnC d P S) (p s : Int) (hs : ptB s) {l n : Nat} (hn : n ≤ 127) (hls : (l : Int) + s = n) (w : World) (ht : Tab w) :
  Calls Tryz.prog 28 #[.agg (tuL (cirP d P S) p).toArray, .agg #[.int .i64 (l : Int), .int .i64 s]] w fun e w' => e = .returned (.tuple #[.int .i64 (drT d P S l n s), .int .i64 0]) ∧ Below w.heap.size w w' := by
 have hs12 : 3 ≤ s ∧ s ≤ 12 := by unfold ptB at hs; omega
 have hb := vB_Bx h (m := l) (n := n) (by omega) (by omega)
 have hd := pl_d h
 have hp := ppE_bd s
 refine ldir_gen (cirP d P S) p l s n _ _ _ _ _ _ _ _ _ _ _ _ _ w ht hs (by omega) hls (fun W hT => tBetween_pl h (m := l) (by omega) hn W hT) (fun W => ppR hs W) (fun W hT => ?_)
 rw [szv_szD (d := d) (by omega)]
 have k : ∀ x : Int, -3 ≤ x ∧ x ≤ 3 → -720 ≤ d * x ∧ d * x ≤ 720 := fun x hx => by
  have a1 : d * x ≤ d * 3 := Int.mul_le_mul_of_nonneg_left hx.2 (by omega)
  have a2 : d * -3 ≤ d * x := Int.mul_le_mul_of_nonneg_left hx.1 (by omega)
  omega
 exact tcmp_any _ _ _ _ _ _ d W hd hT hb ⟨by have := k _ hp.1; omega, by have := k (ppE s).2.1 (by omega); omega, by have := k (ppE s).2.2 (by omega); omega⟩
set_option maxRecDepth 1000000 in
set_option maxHeartbeats 4000000 in
theorem lfreq_gen (C : Nat → Tm) (p n b0 b1 b2 s0 s1 s2 s3 s4 s5 : Int) (w : World) (ht : Tab w) (hp : 1 ≤ p ∧ p ≤ 1000) (hb0 : 0 ≤ b0 ∧ b0 ≤ 128000001) (hb1 : 0 ≤ b1 ∧ b1 ≤ 128000001)
  (hB : ∀ W, Tab W → Calls Tryz.prog 56 #[.agg (cirL C).toArray, .int .i64 69, .int .i64 n] W fun e w' => e = .returned (.tuple #[szv s0 s1 s2 s3 s4 s5, .int .i64 0]) ∧ Below W.heap.size W w')
  (hR : ∀ W, Tab W → Calls Tryz.prog 18 #[szv s0 s1 s2 s3 s4 s5] W fun e w' => e = .returned (.tuple #[.agg #[.int .i64 b0, .int .i64 b1], .int .i64 b2]) ∧ Below W.heap.size W w') :
  Calls Tryz.prog 24 #[.agg (tuL C p).toArray, .int .i64 n] w fun e w' => e = .returned (.tuple #[.agg #[.int .i64 (p * b0), .int .i64 (p * b1)], .int .i64 b2]) ∧ Below w.heap.size w w' := by
 have HB := Lib.hid hB
 have HR := Lib.hid hR
 have HT := Lib.hid ht
 have m0 : 0 ≤ p * b0 := Int.mul_nonneg (by omega) hb0.1
 have l0 : p * b0 ≤ 1000 * 128000001 := Int.mul_le_mul hp.2 hb0.2 hb0.1 (by decide)
 have m1 : 0 ≤ p * b1 := Int.mul_nonneg (by omega) hb1.1
 have l1 : p * b1 ≤ 1000 * 128000001 := Int.mul_le_mul hp.2 hb1.2 hb1.1 (by decide)
 obtain ⟨v0, hv0⟩ : ∃ v, v = p * b0 := ⟨_, rfl⟩
 obtain ⟨v1, hv1⟩ : ∃ v, v = p * b1 := ⟨_, rfl⟩
 have hw0 : IntKind.i64.wrap (p * b0) = v0 := by rw [hv0]; exact IntWalk.i64_in _ (by omega)
 have hw1 : IntKind.i64.wrap (p * b1) = v1 := by rw [hv1]; exact IntWalk.i64_in _ (by omega)
 rw [← hv0, ← hv1]
 have HW := Lib.hid (And.intro hw0 hw1)
 have hm0 := ((Hp.start w).new 41 (tuL C p)).new 53 [.int .i64 0, .int .i64 0]
 simp only [World.size_alloc, List.nil_append, List.cons_append] at hm0
 have HM0 := Lib.hid hm0
 clear hm0 hB hR ht hp hb0 hb1 m0 m1 l0 l1 hv0 hv1 hw0 hw1
 go_enter Tryz.func24, Tryz.ntmps24
 go_wp2_with (refine wpList_load_pre rfl 38 _ rfl w.heap.size rfl (cirL C).toArray _ (tu_cir (HM0.out.at_ 0 rfl)) Tryz.underlying38 rfl (by rw [infoCircle, List.size_toArray, cirL_len]) ?_)
 refine (HB.out _ (HT.out.below HM0.out.below)).mono ?_
 rintro e w1 ⟨rfl, hb1⟩
 have HM1 := Lib.hid (HM0.out.step hb1)
 clear hb1 HM0
 obtain ⟨g2, hg2⟩ : ∃ g, g = w1.heap.size := ⟨_, rfl⟩
 have hm2 := HM1.out.new 49 [.int .i64 s0, .int .i64 s1, .int .i64 s2, .int .i64 s3, .int .i64 s4, .int .i64 s5]
 rw [← hg2] at hm2
 simp only [List.nil_append, List.cons_append] at hm2
 have HM2 := Lib.hid hm2
 obtain ⟨p0, p1, p2, p3, p4, p5⟩ := six_of (hm2.at_ 2 rfl)
 clear hm2 HM1
 go_wp2_with fail
 refine (HR.out _ (HT.out.below HM2.out.below)).mono ?_
 rintro e w2 ⟨rfl, hb2⟩
 have HM3 := Lib.hid (HM2.out.step hb2)
 clear hb2 HM2 p0 p1 p2 p3 p4 p5
 obtain ⟨g3, hg3⟩ : ∃ g, g = w2.heap.size := ⟨_, rfl⟩
 have hm4 := HM3.out.new 53 [.int .i64 b0, .int .i64 b1]
 rw [← hg3] at hm4
 simp only [List.nil_append, List.cons_append] at hm4
 have HM4 := Lib.hid hm4
 have y9 := tu_pitch (hm4.at_ 0 rfl)
 obtain ⟨y0, y1⟩ := two_of (hm4.at_ 1 rfl)
 obtain ⟨y2, y3⟩ := two_of (hm4.at_ 3 rfl)
 have f0 := (hm4.at_ 1 rfl).frozen 0
 have f1 := (hm4.at_ 1 rfl).frozen 1
 have HZ := Lib.hid (hm4.put2 1 rfl (.int .i64 v0) (.int .i64 v1))
 obtain ⟨hw0, hw1⟩ := HW.out
 clear hm4 HM3
 go_wp2_with fail
 obtain ⟨WZ, hWZ⟩ : ∃ WZ, WZ = ((w2.alloc (.cells #[.int .i64 b0, .int .i64 b1] 53)).setCell ⟨w.heap.size + 1, 0, none⟩ (.int .i64 v0)).setCell ⟨w.heap.size + 1, 1, none⟩ (.int .i64 v1) := ⟨_, rfl⟩
 rw [← hWZ] at HZ ⊢
 obtain ⟨z0, z1⟩ := two_of (HZ.out.at_ 1 rfl)
 exact bodyPost_ret (v := .tuple #[.agg #[.int .i64 v0, .int .i64 v1], .int .i64 b2]) (by simp [results, Tryz.results24, go_sem, z0, z1]) rfl ⟨rfl, HZ.out.below⟩
theorem lfreq_pl {d : Int} {P S : Nat → Int} (h : PlnC d P S) (p : Int) (hp : 1 ≤ p ∧ p ≤ 1000) {n : Nat} (hn : n ≤ 127) (w : World) (ht : Tab w) :
  Calls Tryz.prog 24 #[.agg (tuL (cirP d P S) p).toArray, .int .i64 (n : Int)] w fun e w' => e = .returned (.tuple #[.agg #[.int .i64 (frT d P S p n).1, .int .i64 (frT d P S p n).2.1], .int .i64 (frT d P S p n).2.2]) ∧ Below w.heap.size w w' := by
 have hb := vB_Bx h (m := 69) (n := n) (by decide) (by omega)
 have hd := pl_d h
 have h2 := rtT_bd hb.1 hb.2.1 hb.2.2 hd
 exact lfreq_gen (cirP d P S) p n _ _ _ _ _ _ _ _ _ w ht hp (by omega) (by omega) (fun W hT => tBetween_pl h (m := 69) (by decide) hn W hT) (fun W hT => ratio_szD hd hb W hT)
def LbRel (w : World) (C : Nat → Tm) (p l s a0 a1 b0 b1 e1 e2 : Int) (gA gB gE : Nat) (i : Value) (W : World) : Prop :=
 ∃ k : Nat, k ≤ 3 ∧ i = .int .i64 (k : Int) ∧ Hp w [(w.heap.size, 41, tuL C p), (w.heap.size + 1, 67, [.int .i64 l, .int .i64 s]), (w.heap.size + 1 + 1, 53, [.int .i64 0, .int .i64 0]), (gA, 53, [.int .i64 a0, .int .i64 a1]), (gB, 53, [.int .i64 b0, .int .i64 b1]), (gE, 28, [.int .i64 0, .int .i64 e1, .int .i64 e2])] W
def LcRel (w : World) (C : Nat → Tm) (p l s a0 a1 b0 b1 e1 e2 : Int) (gA gB gE : Nat) (i : Value) (W : World) : Prop :=
 ∃ k : Nat, k ≤ 3 ∧ i = .int .i64 (k : Int) ∧ (1 < k → e1 = 0) ∧ (2 < k → e2 = 0) ∧ Hp w [(w.heap.size, 41, tuL C p), (w.heap.size + 1, 67, [.int .i64 l, .int .i64 s]), (w.heap.size + 1 + 1, 53, [.int .i64 0, .int .i64 0]), (gA, 53, [.int .i64 a0, .int .i64 a1]), (gB, 53, [.int .i64 b0, .int .i64 b1]), (gE, 28, [.int .i64 0, .int .i64 e1, .int .i64 e2])] W
set_option maxRecDepth 1000000 in
set_option maxHeartbeats 8000000 in
theorem lbeats_gen (C : Nat → Tm) (p l s t dv a0 a1 e1 b0 b1 e2 : Int) (w : World) (ht : Tab w) (hs : ptB s) (hl : 0 ≤ l ∧ l ≤ 127) (hlt : l + s = t) (hdv : dv = 0 ∨ dv = -1 ∨ dv = 1) (he1 : e1 ≠ 4) (he2 : e2 ≠ 4)
  (ha0 : 0 ≤ a0 ∧ a0 ≤ 130000000000) (ha1 : 0 ≤ a1 ∧ a1 ≤ 130000000000) (hb0 : 0 ≤ b0 ∧ b0 ≤ 130000000000) (hb1 : 0 ≤ b1 ∧ b1 ≤ 130000000000)
  (hD : ∀ W, Tab W → Calls Tryz.prog 28 #[.agg (tuL C p).toArray, .agg #[.int .i64 l, .int .i64 s]] W fun e w' => e = .returned (.tuple #[.int .i64 dv, .int .i64 0]) ∧ Below W.heap.size W w')
  (hF : ∀ W, Tab W → Calls Tryz.prog 24 #[.agg (tuL C p).toArray, .int .i64 l] W fun e w' => e = .returned (.tuple #[.agg #[.int .i64 a0, .int .i64 a1], .int .i64 e1]) ∧ Below W.heap.size W w')
  (hG : ∀ W, Tab W → Calls Tryz.prog 24 #[.agg (tuL C p).toArray, .int .i64 t] W fun e w' => e = .returned (.tuple #[.agg #[.int .i64 b0, .int .i64 b1], .int .i64 e2]) ∧ Below W.heap.size W w') :
  Calls Tryz.prog 29 #[.agg (tuL C p).toArray, .agg #[.int .i64 l, .int .i64 s]] w fun e w' => e = .returned (.tuple #[.agg #[.int .i64 (btT (ptP s).1 (ptP s).2 dv a0 a1 e1 b0 b1 e2).1, .int .i64 (btT (ptP s).1 (ptP s).2 dv a0 a1 e1 b0 b1 e2).2.1], .int .i64 (btT (ptP s).1 (ptP s).2 dv a0 a1 e1 b0 b1 e2).2.2]) ∧ Below w.heap.size w w' := by
 have hp := fun W => lpart42 s W
 have hs12 : 0 ≤ s ∧ s ≤ 12 := by unfold ptB at hs; omega
 have hw : IntKind.i64.wrap (l + s) = t := by rw [hlt]; exact IntWalk.i64_in _ (by omega)
 have hpb := ptP_bd s
 obtain ⟨u, hu⟩ : ∃ u, u = (ptP s).1 := ⟨_, rfl⟩
 obtain ⟨v, hv⟩ : ∃ u, u = (ptP s).2 := ⟨_, rfl⟩
 obtain ⟨q, hq⟩ : ∃ q, q = decide (ptB s) := ⟨_, rfl⟩
 rw [← hu, ← hv, ← hq] at hp
 rw [← hu, ← hv] at hpb ⊢
 have hT0 : ∃ T, T = btT u v dv a0 a1 e1 b0 b1 e2 := ⟨_, rfl⟩
 obtain ⟨T, hT0⟩ := hT0
 rw [← hT0]
 have HV := Lib.hid hT0
 have HP := Lib.hid hp
 have HD := Lib.hid hD
 have HF := Lib.hid hF
 have HG := Lib.hid hG
 have HT := Lib.hid ht
 have HW := Lib.hid hw
 have HDV := Lib.hid hdv
 have HE4 := Lib.hid (And.intro he1 he2)
 have n1 := bt_mul hpb.2 hb0
 have n2 := bt_mul hpb.1 ha1
 have n3 := bt_mul hpb.2 hb1
 have n4 := bt_mul hpb.1 ha0
 obtain ⟨x1, hx1⟩ : ∃ x, x = v * b0 := ⟨_, rfl⟩
 obtain ⟨x2, hx2⟩ : ∃ x, x = u * a1 := ⟨_, rfl⟩
 obtain ⟨x3, hx3⟩ : ∃ x, x = v * b1 := ⟨_, rfl⟩
 obtain ⟨x4, hx4⟩ : ∃ x, x = u * a0 := ⟨_, rfl⟩
 have w1 : IntKind.i64.wrap (v * b0) = x1 := by rw [hx1]; exact IntWalk.i64_in _ (by omega)
 have w2 : IntKind.i64.wrap (u * a1) = x2 := by rw [hx2]; exact IntWalk.i64_in _ (by omega)
 have w3 : IntKind.i64.wrap (v * b1) = x3 := by rw [hx3]; exact IntWalk.i64_in _ (by omega)
 have w4 : IntKind.i64.wrap (u * a0) = x4 := by rw [hx4]; exact IntWalk.i64_in _ (by omega)
 rw [← hx1] at n1
 rw [← hx2] at n2
 rw [← hx3] at n3
 rw [← hx4] at n4
 obtain ⟨z1, hz1⟩ : ∃ x, x = x1 - x2 := ⟨_, rfl⟩
 obtain ⟨z2, hz2⟩ : ∃ x, x = x3 - x4 := ⟨_, rfl⟩
 obtain ⟨z3, hz3⟩ : ∃ x, x = x4 - x3 := ⟨_, rfl⟩
 obtain ⟨z4, hz4⟩ : ∃ x, x = x2 - x1 := ⟨_, rfl⟩
 have v1 : IntKind.i64.wrap (x1 - x2) = z1 := by rw [hz1]; exact IntWalk.i64_in _ (by omega)
 have v2 : IntKind.i64.wrap (x3 - x4) = z2 := by rw [hz2]; exact IntWalk.i64_in _ (by omega)
 have v3 : IntKind.i64.wrap (-z2) = z3 := by rw [show -z2 = z3 by omega]; exact IntWalk.i64_in _ (by omega)
 have v4 : IntKind.i64.wrap (-z1) = z4 := by rw [show -z1 = z4 by omega]; exact IntWalk.i64_in _ (by omega)
 have v5 : IntKind.i64.wrap (0 - z2) = z3 := by rw [show 0 - z2 = z3 by omega]; exact IntWalk.i64_in _ (by omega)
 have v6 : IntKind.i64.wrap (0 - z1) = z4 := by rw [show 0 - z1 = z4 by omega]; exact IntWalk.i64_in _ (by omega)
 have HN := Lib.hid (show btT u v dv a0 a1 e1 b0 b1 e2 = if e1 ≠ 0 then (0, 0, e1) else if e2 ≠ 0 then (0, 0, e2) else if dv = 1 then (max 0 z1, z2, 0) else if dv = -1 then (max 0 z3, z4, 0) else (0, 0, 0) by
  unfold btT; rw [← hx1, ← hx2, ← hx3, ← hx4, ← hz1, ← hz2, ← hz3, ← hz4])
 have HWS := Lib.hid (And.intro (And.intro w1 (And.intro w2 (And.intro w3 w4))) (And.intro v1 (And.intro v2 (And.intro v3 (And.intro v4 (And.intro v5 v6))))))
 have hm0 := (((Hp.start w).new 41 (tuL C p)).new 67 [.int .i64 l, .int .i64 s]).new 53 [.int .i64 0, .int .i64 0]
 simp only [World.size_alloc, List.nil_append, List.cons_append] at hm0
 have HM0 := Lib.hid hm0
 obtain ⟨y0, y1⟩ := two_of (hm0.at_ 1 rfl)
 clear hm0 hp hD hF hG ht hw hs hl hlt hs12 hu hv hq hpb n1 n2 n3 n4 hx1 hx2 hx3 hx4 w1 w2 w3 w4 hz1 hz2 hz3 hz4 v1 v2 v3 v4 v5 v6 ha0 ha1 hb0 hb1 hT0 hdv he1 he2
 go_enter Tryz.func29, Tryz.ntmps29
 go_wp2_with fail
 refine (HP.out _).mono ?_
 rintro e wx ⟨rfl, hbx⟩
 have HMX := Lib.hid (HM0.out.step hbx)
 clear hbx HM0 y0 y1
 obtain ⟨y0, y1⟩ := two_of (HMX.out.at_ 1 rfl)
 go_wp2_with (refine wpList_load_row rfl 41 _ rfl w.heap.size rfl 41 (tuL C p).toArray (0, 0) _ (HMX.out.at_ 0 rfl) Tryz.underlying41 rfl (by rw [infoTun, List.size_toArray, tuL_len]) ?_)
 refine (HD.out _ (HT.out.below HMX.out.below)).mono ?_
 rintro e w1 ⟨rfl, hb1⟩
 have HM1 := Lib.hid (HMX.out.step hb1)
 clear hb1 HMX y0 y1
 obtain ⟨y0, y1⟩ := two_of (HM1.out.at_ 1 rfl)
 go_wp2_with (refine wpList_load_row rfl 41 _ rfl w.heap.size rfl 41 (tuL C p).toArray (0, 0) _ (HM1.out.at_ 0 rfl) Tryz.underlying41 rfl (by rw [infoTun, List.size_toArray, tuL_len]) ?_)
 refine (HF.out _ (HT.out.below HM1.out.below)).mono ?_
 rintro e w2 ⟨rfl, hb2⟩
 have hm3 := (HM1.out.step hb2).new 53 [.int .i64 a0, .int .i64 a1]
 simp only [List.nil_append, List.cons_append] at hm3
 have HM3 := Lib.hid hm3
 clear hb2 HM1 y0 y1
 obtain ⟨y0, y1⟩ := two_of (hm3.at_ 1 rfl)
 have hw := HW.out
 clear hm3
 go_wp2_with (refine wpList_load_row rfl 41 _ rfl w.heap.size rfl 41 (tuL C p).toArray (0, 0) _ (HM3.out.at_ 0 rfl) Tryz.underlying41 rfl (by rw [infoTun, List.size_toArray, tuL_len]) ?_)
 refine (HG.out _ (HT.out.below HM3.out.below)).mono ?_
 rintro e w3 ⟨rfl, hb3⟩
 have hm4 := (HM3.out.step hb3).new 53 [.int .i64 b0, .int .i64 b1]
 simp only [List.nil_append, List.cons_append] at hm4
 have hm5 := hm4.new 28 [.int .i64 0, .int .i64 e1, .int .i64 e2]
 simp only [World.size_alloc, List.nil_append, List.cons_append] at hm5
 have HM5 := Lib.hid hm5
 clear hb3 HM3 y0 y1 hw hm4 hm5
 go_wp2_with fail
 go_loopw [56] (fun i wr => LbRel w C p l s a0 a1 b0 b1 e1 e2 w2.heap.size w3.heap.size (w3.heap.size + 1) i wr) (fun i _ => 3 - (intOf i).toNat)
 case atStart => exact ⟨0, by omega, rfl, HM5.out⟩
 case round =>
  obtain ⟨k, hk, rfl, hm⟩ := hrel
  have HM := Lib.hid hm
  clear hm HM5
  obtain ⟨c0, c1, c2⟩ := three_of (HM.out.at_ 5 rfl)
  rcases (show k = 0 ∨ k = 1 ∨ k = 2 ∨ k = 3 by omega) with rfl | rfl | rfl | rfl
  ·clear hk
   go_wp2_with fail
   go_roundw
   case rel => exact ⟨1, by omega, rfl, HM.out⟩
   case measure => simp [intOf]
  ·have hz : (e1 == 4) = false := by rw [beq_eq_false_iff_ne]; exact HE4.out.1
   clear hk
   go_wp2_with fail
   go_roundw
   case rel => exact ⟨2, by omega, rfl, HM.out⟩
   case measure => simp [intOf]
  ·have hz : (e2 == 4) = false := by rw [beq_eq_false_iff_ne]; exact HE4.out.2
   clear hk
   go_wp2_with fail
   go_roundw
   case rel => exact ⟨3, by omega, rfl, HM.out⟩
   case measure => simp [intOf]
  ·have hm6 := HM.out.new 28 [.int .i64 0, .int .i64 e1, .int .i64 e2]
   simp only [World.size_alloc, List.nil_append, List.cons_append] at hm6
   have HM6 := Lib.hid hm6
   have HM7 := Lib.hid (show Hp w [(w.heap.size, 41, tuL C p), (w.heap.size + 1, 67, [.int .i64 l, .int .i64 s]), (w.heap.size + 1 + 1, 53, [.int .i64 0, .int .i64 0]), (w2.heap.size, 53, [.int .i64 a0, .int .i64 a1]), (w3.heap.size, 53, [.int .i64 b0, .int .i64 b1]), (wr.heap.size, 28, [.int .i64 0, .int .i64 e1, .int .i64 e2])] _ from HM6.out.sub (by simp))
   clear hk c0 c1 c2 hm6 HM6 HM
   go_wp2_with fail
   go_loopw [70] (fun i wx => LcRel w C p l s a0 a1 b0 b1 e1 e2 w2.heap.size w3.heap.size wr.heap.size i wx) (fun i _ => 3 - (intOf i).toNat)
   case atStart => exact ⟨0, by omega, rfl, fun h => absurd h (by omega), fun h => absurd h (by omega), HM7.out⟩
   case round =>
    obtain ⟨j, hj, rfl, k1, k2, hm⟩ := hrel
    have HM := Lib.hid hm
    clear HM7
    obtain ⟨c0, c1, c2⟩ := three_of (hm.at_ 5 rfl)
    rcases (show j = 0 ∨ j = 1 ∨ j = 2 ∨ j = 3 by omega) with rfl | rfl | rfl | rfl
    ·clear hj k1 k2 hm
     go_wp2_with fail
     go_roundw
     case rel => exact ⟨1, by omega, rfl, fun h => absurd h (by omega), fun h => absurd h (by omega), HM.out⟩
     case measure => simp [intOf]

    ·clear hj k1 k2
     by_cases h1 : e1 = 0
     ·have HO := Lib.hid h1
      have hz : (e1 != 0) = false := by rw [h1]; rfl
      clear hm h1
      go_wp2_with fail
      go_roundw
      case rel => exact ⟨2, by omega, rfl, fun _ => HO.out, fun h => absurd h (by omega), HM.out⟩
      case measure => simp [intOf]
     ·have HE := Lib.hid (HV.out.trans (HN.out.trans (by rw [if_pos h1])))
      have hz : (e1 != 0) = true := by simpa using h1
      have f0 := (hm.at_ 2 rfl).frozen 0
      have f1 := (hm.at_ 2 rfl).frozen 1
      obtain ⟨m0, m1⟩ := two_of (hm.at_ 2 rfl)
      have HZ := Lib.hid (hm.put2 2 rfl (.int .i64 0) (.int .i64 0))
      clear hm HM h1
      go_wp2_with fail
      obtain ⟨WZ, hWZ⟩ : ∃ WZ, WZ = (wr.setCell ⟨w.heap.size + 1 + 1, 0, none⟩ (.int .i64 0)).setCell ⟨w.heap.size + 1 + 1, 1, none⟩ (.int .i64 0) := ⟨_, rfl⟩
      rw [← hWZ] at HZ ⊢
      obtain ⟨j0, j1⟩ := two_of (HZ.out.at_ 2 rfl)
      exact bodyPost_ret (v := .tuple #[.agg #[.int .i64 0, .int .i64 0], .int .i64 e1]) (by simp [results, Tryz.results29, go_sem, j0, j1]) rfl ⟨by rw [HE.out], HZ.out.below⟩

    ·have HK1 := Lib.hid (k1 (by omega))
     clear hj k1 k2
     by_cases h1 : e2 = 0
     ·have HO := Lib.hid h1
      have hz : (e2 != 0) = false := by rw [h1]; rfl
      clear hm h1
      go_wp2_with fail
      go_roundw
      case rel => exact ⟨3, by omega, rfl, fun _ => HK1.out, fun _ => HO.out, HM.out⟩
      case measure => simp [intOf]
     ·have HE := Lib.hid (HV.out.trans (HN.out.trans (by rw [if_neg (fun h => h HK1.out), if_pos h1])))
      have hz : (e2 != 0) = true := by simpa using h1
      have f0 := (hm.at_ 2 rfl).frozen 0
      have f1 := (hm.at_ 2 rfl).frozen 1
      obtain ⟨m0, m1⟩ := two_of (hm.at_ 2 rfl)
      have HZ := Lib.hid (hm.put2 2 rfl (.int .i64 0) (.int .i64 0))
      clear hm HM h1
      go_wp2_with fail
      obtain ⟨WZ, hWZ⟩ : ∃ WZ, WZ = (wr.setCell ⟨w.heap.size + 1 + 1, 0, none⟩ (.int .i64 0)).setCell ⟨w.heap.size + 1 + 1, 1, none⟩ (.int .i64 0) := ⟨_, rfl⟩
      rw [← hWZ] at HZ ⊢
      obtain ⟨j0, j1⟩ := two_of (HZ.out.at_ 2 rfl)
      exact bodyPost_ret (v := .tuple #[.agg #[.int .i64 0, .int .i64 0], .int .i64 e2]) (by simp [results, Tryz.results29, go_sem, j0, j1]) rfl ⟨by rw [HE.out], HZ.out.below⟩

    ·have HK1 := Lib.hid (k1 (by omega))
     have HK2 := Lib.hid (k2 (by omega))
     clear hj k1 k2 c0 c1 c2
     obtain ⟨q0, q1⟩ := two_of (hm.at_ 3 rfl)
     obtain ⟨q2, q3⟩ := two_of (hm.at_ 4 rfl)
     obtain ⟨⟨w1', w2', w3', w4'⟩, v1', v2', v3', v4', v5', v6'⟩ := HWS.out
     have HN2 := Lib.hid (HV.out.trans (HN.out.trans (by rw [if_neg (fun h => h HK1.out), if_neg (fun h => h HK2.out)])))
     clear hm
     go_wp2_with fail
     go_quiet (fail)
     have hm := HM.out.drewN nq
     clear q0 q1 q2 q3 HM
     obtain ⟨m0, m1⟩ := two_of (hm.at_ 2 rfl)
     have f0 := (hm.at_ 2 rfl).frozen 0
     have f1 := (hm.at_ 2 rfl).frozen 1
     rcases HDV.out with rfl | rfl | rfl
     ·have HE := Lib.hid (show T = (0, 0, 0) from HN2.out.trans (by rw [if_neg (by decide), if_neg (by decide)]))
      have HZ := Lib.hid (hm.put2 2 rfl (.int .i64 0) (.int .i64 0))
      clear hm
      go_wp2_with fail
      obtain ⟨WZ, hWZ⟩ : ∃ WZ, WZ = ((wr.drewN nq).setCell ⟨w.heap.size + 1 + 1, 0, none⟩ (.int .i64 0)).setCell ⟨w.heap.size + 1 + 1, 1, none⟩ (.int .i64 0) := ⟨_, rfl⟩
      rw [← hWZ] at HZ ⊢
      obtain ⟨j0, j1⟩ := two_of (HZ.out.at_ 2 rfl)
      exact bodyPost_ret (v := .tuple #[.agg #[.int .i64 0, .int .i64 0], .int .i64 0]) (by simp [results, Tryz.results29, go_sem, j0, j1]) rfl ⟨by rw [HE.out], HZ.out.below⟩
     ·have HE := Lib.hid (show T = ((max 0 z3), z4, 0) from HN2.out.trans (by rw [if_neg (by decide), if_pos rfl]))
      have HZ := Lib.hid (hm.put2 2 rfl (.int .i64 (max 0 z3)) (.int .i64 z4))
      clear hm
      go_wp2_with fail
      obtain ⟨WZ, hWZ⟩ : ∃ WZ, WZ = ((wr.drewN nq).setCell ⟨w.heap.size + 1 + 1, 0, none⟩ (.int .i64 (max 0 z3))).setCell ⟨w.heap.size + 1 + 1, 1, none⟩ (.int .i64 z4) := ⟨_, rfl⟩
      rw [← hWZ] at HZ ⊢
      obtain ⟨j0, j1⟩ := two_of (HZ.out.at_ 2 rfl)
      exact bodyPost_ret (v := .tuple #[.agg #[.int .i64 (max 0 z3), .int .i64 z4], .int .i64 0]) (by simp [results, Tryz.results29, go_sem, j0, j1]) rfl ⟨by rw [HE.out], HZ.out.below⟩
     ·have HE := Lib.hid (show T = ((max 0 z1), z2, 0) from HN2.out.trans (by rw [if_pos rfl]))
      have HZ := Lib.hid (hm.put2 2 rfl (.int .i64 (max 0 z1)) (.int .i64 z2))
      clear hm
      go_wp2_with fail
      obtain ⟨WZ, hWZ⟩ : ∃ WZ, WZ = ((wr.drewN nq).setCell ⟨w.heap.size + 1 + 1, 0, none⟩ (.int .i64 (max 0 z1))).setCell ⟨w.heap.size + 1 + 1, 1, none⟩ (.int .i64 z2) := ⟨_, rfl⟩
      rw [← hWZ] at HZ ⊢
      obtain ⟨j0, j1⟩ := two_of (HZ.out.at_ 2 rfl)
      exact bodyPost_ret (v := .tuple #[.agg #[.int .i64 (max 0 z1), .int .i64 z2], .int .i64 0]) (by simp [results, Tryz.results29, go_sem, j0, j1]) rfl ⟨by rw [HE.out], HZ.out.below⟩
theorem frT_er {d : Int} (P S : Nat → Int) (p : Int) (n : Nat) : (frT d P S p n).2.2 = 0 ∨ (frT d P S p n).2.2 = 3 := by
 unfold frT rtT
 dsimp only
 split
 ·exact .inr rfl
 ·exact .inl rfl
theorem drT_sg (d : Int) (P S : Nat → Int) (l n : Nat) (s : Int) : drT d P S l n s = 0 ∨ drT d P S l n s = -1 ∨ drT d P S l n s = 1 := by
 unfold drT sgn
 split
 ·exact .inr (.inl rfl)
 ·split
  ·exact .inl rfl
  ·exact .inr (.inr rfl)
theorem lbeats_pl {d : Int} {P S : Nat → Int} (h : PlnC d P S) (p s : Int) (hp : 1 ≤ p ∧ p ≤ 1000) (hs : ptB s) {l n : Nat} (hn : n ≤ 127) (hls : (l : Int) + s = n) (w : World) (ht : Tab w) :
  Calls Tryz.prog 29 #[.agg (tuL (cirP d P S) p).toArray, .agg #[.int .i64 (l : Int), .int .i64 s]] w fun e w' => e = .returned (.tuple #[.agg #[.int .i64 (bbT d P S p l n s).1, .int .i64 (bbT d P S p l n s).2.1], .int .i64 (bbT d P S p l n s).2.2]) ∧ Below w.heap.size w w' := by
 have hs12 : 3 ≤ s ∧ s ≤ 12 := by unfold ptB at hs; omega
 have b1 := frT_bd h hp (n := l) (by omega)
 have b2 := frT_bd h hp hn
 have r1 := frT_er (d := d) P S p l
 have r2 := frT_er (d := d) P S p n
 exact lbeats_gen (cirP d P S) p l s n _ _ _ _ _ _ _ w ht hs (by omega) hls (drT_sg d P S l n s) (by omega) (by omega) b1.1 b1.2.1 b2.1 b2.2.1 (fun W hT => ldir_pl h p s hs hn hls W hT) (fun W hT => lfreq_pl h p hp (by omega) W hT) (fun W hT => lfreq_pl h p hp hn W hT)
end Go.Proofs.YtendjepcjmfmfaaGreatDoor
