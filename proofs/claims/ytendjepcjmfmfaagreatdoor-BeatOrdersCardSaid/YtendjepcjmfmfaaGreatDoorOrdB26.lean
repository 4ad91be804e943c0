/- Part 26 of 47 of the proof of the law: contracts of the functions that it reaches, and plain facts. Conditions: those that each contract names. -/
import Derived.Test.YtendjepcjmfmfaaGreatDoorOrdB06
import Derived.Test.YtendjepcjmfmfaaGreatDoorOrdB19
import Derived.Test.YtendjepcjmfmfaaGreatDoorOrdB07
import Derived.Deep.QuietTactic
import Derived.BigQuiet
namespace Go.Proofs.YtendjepcjmfmfaaGreatDoor
open Go.RowKit
def EaRel (w : World) (TT : TypeId) (a0 b0 a1 b1 a2 b2 c0 d0 c1 d1 c2 d2 p0 q0 p1 q1 p2 q2 : Int) (i : Value) (W : World) : Prop :=
 ∃ k : Nat, k ≤ 3 ∧ i = .int .i64 (k : Int) ∧ Hp w [(w.heap.size + 1 + 1, 49, [.int .i64 0, .int .i64 0, .int .i64 0, .int .i64 0, .int .i64 0, .int .i64 0]), (w.heap.size + 1 + 1 + 1, 49, [.int .i64 (if 0 < k then p0 else 0), .int .i64 (if 0 < k then q0 else 0), .int .i64 (if 1 < k then p1 else 0), .int .i64 (if 1 < k then q1 else 0), .int .i64 (if 2 < k then p2 else 0), .int .i64 (if 2 < k then q2 else 0)]), (w.heap.size + 1 + 1 + 1 + 1, TT, [.pointer (some ⟨w.heap.size + 1 + 1 + 1, 0, none⟩), .int .i64 a0, .int .i64 b0, .int .i64 c0, .int .i64 d0, .pointer (some ⟨w.heap.size + 1 + 1 + 1, 2, none⟩), .int .i64 a1, .int .i64 b1, .int .i64 c1, .int .i64 d1, .pointer (some ⟨w.heap.size + 1 + 1 + 1, 4, none⟩), .int .i64 a2, .int .i64 b2, .int .i64 c2, .int .i64 d2])] W
def EaFn (F : FuncId) (a b c d p q : Int) : Prop :=
 (Right p q ∧ ∀ W, Calls Tryz.prog F #[.agg #[.int .i64 a, .int .i64 b], .agg #[.int .i64 c, .int .i64 d]] W fun e W' => e = .returned (.tuple #[.agg #[.int .i64 p, .int .i64 q], .int .i64 0]) ∧ Below W.heap.size W W') ∨
 (¬ Right p q ∧ ∀ W, Calls Tryz.prog F #[.agg #[.int .i64 a, .int .i64 b], .agg #[.int .i64 c, .int .i64 d]] W fun e W' => e = .returned (.tuple #[.agg #[.int .i64 0, .int .i64 0], .int .i64 4]) ∧ Below W.heap.size W W')
theorem five_of {W : World} {g : Nat} {t : TypeId} {a b c d e : Value} (h : Blk W g t [a, b, c, d, e]) : W.cell? ⟨g, 0, none⟩ = some a ∧ W.cell? ⟨g, 1, none⟩ = some b ∧ W.cell? ⟨g, 2, none⟩ = some c ∧ W.cell? ⟨g, 3, none⟩ = some d ∧ W.cell? ⟨g, 4, none⟩ = some e := ⟨h.cell 0, h.cell 1, h.cell 2, h.cell 3, h.cell 4⟩
set_option maxRecDepth 100000 in
set_option maxHeartbeats 8000000 in
theorem ieach_any (F : FuncId) (hFn : ∀ args w, Sem.run Tryz.prog (callFunc F args) w = .ok (.enter F args) w) (a0 b0 a1 b1 a2 b2 c0 d0 c1 d1 c2 d2 p0 q0 p1 q1 p2 q2 : Int) (w : World)
  (h0 : EaFn F a0 b0 c0 d0 p0 q0) (h1 : EaFn F a1 b1 c1 d1 p1 q1) (h2 : EaFn F a2 b2 c2 d2 p2 q2) (i0 : I64 p0) (i1 : I64 q0) (i2 : I64 p1) (i3 : I64 q1) (i4 : I64 p2) (i5 : I64 q2) :
  Calls Tryz.prog 125 #[szv a0 b0 a1 b1 a2 b2, szv c0 d0 c1 d1 c2 d2, (.func (.func F) #[] #[])] w fun e w' => e = .returned (ivR p0 q0 p1 q1 p2 q2) ∧ Below w.heap.size w w' := by
 obtain ⟨TT, hTT⟩ : ∃ TT, TT = 224 := ⟨_, rfl⟩
 have hM0 : Hp w [(w.heap.size + 1 + 1, 49, [.int .i64 0, .int .i64 0, .int .i64 0, .int .i64 0, .int .i64 0, .int .i64 0]), (w.heap.size + 1 + 1 + 1, 49, [.int .i64 0, .int .i64 0, .int .i64 0, .int .i64 0, .int .i64 0, .int .i64 0]), (w.heap.size + 1 + 1 + 1 + 1, TT, [.pointer (some ⟨w.heap.size + 1 + 1 + 1, 0, none⟩), .int .i64 a0, .int .i64 b0, .int .i64 c0, .int .i64 d0, .pointer (some ⟨w.heap.size + 1 + 1 + 1, 2, none⟩), .int .i64 a1, .int .i64 b1, .int .i64 c1, .int .i64 d1, .pointer (some ⟨w.heap.size + 1 + 1 + 1, 4, none⟩), .int .i64 a2, .int .i64 b2, .int .i64 c2, .int .i64 d2])] (((((w.alloc (.cells #[.int .i64 a0, .int .i64 b0, .int .i64 a1, .int .i64 b1, .int .i64 a2, .int .i64 b2] 49)).alloc (.cells #[.int .i64 c0, .int .i64 d0, .int .i64 c1, .int .i64 d1, .int .i64 c2, .int .i64 d2] 49)).alloc (.cells #[.int .i64 0, .int .i64 0, .int .i64 0, .int .i64 0, .int .i64 0, .int .i64 0] 49)).alloc (.cells #[.int .i64 0, .int .i64 0, .int .i64 0, .int .i64 0, .int .i64 0, .int .i64 0] 49)).alloc (.cells #[.pointer (some ⟨w.heap.size + 1 + 1 + 1, 0, none⟩), .int .i64 a0, .int .i64 b0, .int .i64 c0, .int .i64 d0, .pointer (some ⟨w.heap.size + 1 + 1 + 1, 2, none⟩), .int .i64 a1, .int .i64 b1, .int .i64 c1, .int .i64 d1, .pointer (some ⟨w.heap.size + 1 + 1 + 1, 4, none⟩), .int .i64 a2, .int .i64 b2, .int .i64 c2, .int .i64 d2] TT)) := by
  have h := (((((Hp.start w).new 49 [.int .i64 a0, .int .i64 b0, .int .i64 a1, .int .i64 b1, .int .i64 a2, .int .i64 b2]).new 49 [.int .i64 c0, .int .i64 d0, .int .i64 c1, .int .i64 d1, .int .i64 c2, .int .i64 d2]).new 49 [.int .i64 0, .int .i64 0, .int .i64 0, .int .i64 0, .int .i64 0, .int .i64 0]).new 49 [.int .i64 0, .int .i64 0, .int .i64 0, .int .i64 0, .int .i64 0, .int .i64 0]).new TT [.pointer (some ⟨w.heap.size + 1 + 1 + 1, 0, none⟩), .int .i64 a0, .int .i64 b0, .int .i64 c0, .int .i64 d0, .pointer (some ⟨w.heap.size + 1 + 1 + 1, 2, none⟩), .int .i64 a1, .int .i64 b1, .int .i64 c1, .int .i64 d1, .pointer (some ⟨w.heap.size + 1 + 1 + 1, 4, none⟩), .int .i64 a2, .int .i64 b2, .int .i64 c2, .int .i64 d2]
  simp only [World.size_alloc] at h
  exact h.sub (by simp)
 have HM0 := Lib.hid hM0
 have HR := Lib.hid (fun W => iresult_any p0 q0 p1 q1 p2 q2 W i0 i1 i2 i3 i4 i5)
 have H0 := Lib.hid h0
 have H1 := Lib.hid h1
 have H2 := Lib.hid h2
 rw [hTT] at HM0
 clear hM0 h0 h1 h2 i0 i1 i2 i3 i4 i5 hTT
 go_enter Tryz.func125, Tryz.ntmps125
 go_wp2_with fail
 go_loopw [32] (fun i wr => EaRel w 224 a0 b0 a1 b1 a2 b2 c0 d0 c1 d1 c2 d2 p0 q0 p1 q1 p2 q2 i wr) (fun i _ => 3 - (intOf i).toNat)
 case atStart => exact ⟨0, by omega, rfl, HM0.out⟩
 case round =>
  clear HM0
  obtain ⟨k, hk, rfl, hm⟩ := hrel
  have HM := Lib.hid hm
  clear hm
  by_cases hlt : k < 3
  ·rcases (show k = 0 ∨ k = 1 ∨ k = 2 by omega) with rfl | rfl | rfl
   ·have HM2 : Hid (Hp w [(w.heap.size + 1 + 1, 49, [.int .i64 0, .int .i64 0, .int .i64 0, .int .i64 0, .int .i64 0, .int .i64 0]), (w.heap.size + 1 + 1 + 1, 49, [.int .i64 0, .int .i64 0, .int .i64 0, .int .i64 0, .int .i64 0, .int .i64 0]), (w.heap.size + 1 + 1 + 1 + 1, 224, [.pointer (some ⟨w.heap.size + 1 + 1 + 1, 0, none⟩), .int .i64 a0, .int .i64 b0, .int .i64 c0, .int .i64 d0, .pointer (some ⟨w.heap.size + 1 + 1 + 1, 2, none⟩), .int .i64 a1, .int .i64 b1, .int .i64 c1, .int .i64 d1, .pointer (some ⟨w.heap.size + 1 + 1 + 1, 4, none⟩), .int .i64 a2, .int .i64 b2, .int .i64 c2, .int .i64 d2])] wr) := HM.out
    clear HM
    have hb15 := HM2.out.at_ 2 rfl
    have k0 := hb15.cell 0
    have k1 := hb15.cell 1
    have k2 := hb15.cell 2
    have k3 := hb15.cell 3
    have k4 := hb15.cell 4
    have hlt2 : w.heap.size + 1 + 1 + 1 + 1 < wr.heap.size := hb15.lt
    clear hb15
    go_wp2_with fail
    obtain ⟨W5, hW5⟩ : ∃ W5, W5 = wr.alloc (.cells #[.pointer (some ⟨w.heap.size + 1 + 1 + 1, 0, none⟩), .int .i64 a0, .int .i64 b0, .int .i64 c0, .int .i64 d0] 224) := ⟨_, rfl⟩
    have hm5 := HM2.out.new 224 [.pointer (some ⟨w.heap.size + 1 + 1 + 1, 0, none⟩), .int .i64 a0, .int .i64 b0, .int .i64 c0, .int .i64 d0]
    rw [← hW5] at hm5
    rw [← hW5]
    clear hW5 k0 k1 k2 k3 k4
    obtain ⟨g10, hg10⟩ : ∃ g, g = wr.heap.size := ⟨_, rfl⟩
    rw [← hg10] at hm5 hlt2 ⊢
    clear hg10
    have HM5 : Hid (Hp w [(w.heap.size + 1 + 1, 49, [.int .i64 0, .int .i64 0, .int .i64 0, .int .i64 0, .int .i64 0, .int .i64 0]), (w.heap.size + 1 + 1 + 1, 49, [.int .i64 0, .int .i64 0, .int .i64 0, .int .i64 0, .int .i64 0, .int .i64 0]), (w.heap.size + 1 + 1 + 1 + 1, 224, [.pointer (some ⟨w.heap.size + 1 + 1 + 1, 0, none⟩), .int .i64 a0, .int .i64 b0, .int .i64 c0, .int .i64 d0, .pointer (some ⟨w.heap.size + 1 + 1 + 1, 2, none⟩), .int .i64 a1, .int .i64 b1, .int .i64 c1, .int .i64 d1, .pointer (some ⟨w.heap.size + 1 + 1 + 1, 4, none⟩), .int .i64 a2, .int .i64 b2, .int .i64 c2, .int .i64 d2]), (g10, 224, [.pointer (some ⟨w.heap.size + 1 + 1 + 1, 0, none⟩), .int .i64 a0, .int .i64 b0, .int .i64 c0, .int .i64 d0])] W5) := Lib.hid hm5
    clear hm5 HM2
    have HD : Hid (Hp w [(w.heap.size + 1 + 1, 49, [.int .i64 0, .int .i64 0, .int .i64 0, .int .i64 0, .int .i64 0, .int .i64 0]), (w.heap.size + 1 + 1 + 1, 49, [.int .i64 0, .int .i64 0, .int .i64 0, .int .i64 0, .int .i64 0, .int .i64 0]), (w.heap.size + 1 + 1 + 1 + 1, 224, [.pointer (some ⟨w.heap.size + 1 + 1 + 1, 0, none⟩), .int .i64 a0, .int .i64 b0, .int .i64 c0, .int .i64 d0, .pointer (some ⟨w.heap.size + 1 + 1 + 1, 2, none⟩), .int .i64 a1, .int .i64 b1, .int .i64 c1, .int .i64 d1, .pointer (some ⟨w.heap.size + 1 + 1 + 1, 4, none⟩), .int .i64 a2, .int .i64 b2, .int .i64 c2, .int .i64 d2]), (g10, 224, [.pointer (some ⟨w.heap.size + 1 + 1 + 1, 0, none⟩), .int .i64 a0, .int .i64 b0, .int .i64 c0, .int .i64 d0])] W5.drew) := Lib.hid HM5.out.drew
    have hB := HD.out.at_ 3 rfl
    have hS : W5.drew.cell? ⟨g10, 0, none⟩ = some (.pointer (some ⟨w.heap.size + 1 + 1 + 1, 0, none⟩)) ∧ W5.drew.cell? ⟨g10, 1, none⟩ = some (.int .i64 a0) ∧ W5.drew.cell? ⟨g10, 2, none⟩ = some (.int .i64 b0) ∧ W5.drew.cell? ⟨g10, 3, none⟩ = some (.int .i64 c0) ∧ W5.drew.cell? ⟨g10, 4, none⟩ = some (.int .i64 d0) := five_of hB
    clear hB
    refine wp_regionE' 14 (fun w' => w'.cell? ⟨g10, 0, none⟩ = some (.pointer (some ⟨w.heap.size + 1 + 1 + 1, 0, none⟩)) ∧ w'.cell? ⟨g10, 1, none⟩ = some (.int .i64 a0) ∧ w'.cell? ⟨g10, 2, none⟩ = some (.int .i64 b0) ∧ w'.cell? ⟨g10, 3, none⟩ = some (.int .i64 c0) ∧ w'.cell? ⟨g10, 4, none⟩ = some (.int .i64 d0)) 14 #[false, false, false, false, false, false, false, false, false, false, false, false, false, false] (by kernel_rfl) (by kernel_rfl) (by kernel_rfl) ?_
    refine tkB 0 37 hS ?_
    simp only [Act.put]
    refine tkB 1 38 hS ?_
    simp only [Act.put]
    refine tkB 2 39 hS ?_
    simp only [Act.put]
    refine tkB 3 40 hS ?_
    simp only [Act.put]
    refine tkB 4 41 hS ?_
    simp only [Act.put]
    refine tkB 5 42 hS ?_
    simp only [Act.put]
    refine tkB 6 43 hS ?_
    simp only [Act.put]
    clear hS
    obtain ⟨WD, hWD⟩ : ∃ X, X = W5.drew := ⟨_, rfl⟩
    rw [← hWD] at HD ⊢
    clear hWD HM5
    rcases H0.out with ⟨hR, hF⟩ | ⟨hR, hF⟩
    ·have HF := Lib.hid hF
     clear hF
     refine wpAnyE_ready (rs := [7]) (by kernel_rfl) (by simp) ?_
     refine AllE.cons' (o := _) #[true, true, true, true, true, true, true, true, false, false, false, false, false, false] rfl (by kernel_rfl) (fun K hK => ?_) AllE.nil
     go_simp
     refine (HF.out _).mono ?_
     rintro e W1 ⟨rfl, hb⟩
     dsimp only
     have H6 := Lib.hid (HD.out.step hb)
     refine hK.out _ _ (fun _ => five_of (H6.out.at_ 3 rfl)) ?_
     clear hK K hb
     try simp only [Act.put]
     have hS : W1.cell? ⟨g10, 0, none⟩ = some (.pointer (some ⟨w.heap.size + 1 + 1 + 1, 0, none⟩)) ∧ W1.cell? ⟨g10, 1, none⟩ = some (.int .i64 a0) ∧ W1.cell? ⟨g10, 2, none⟩ = some (.int .i64 b0) ∧ W1.cell? ⟨g10, 3, none⟩ = some (.int .i64 c0) ∧ W1.cell? ⟨g10, 4, none⟩ = some (.int .i64 d0) := five_of (H6.out.at_ 3 rfl)
     refine tkB 8 36 hS ?_
     simp only [Act.put]
     refine tkB 9 45 hS ?_
     simp only [Act.put]
     refine tkB 10 46 hS ?_
     simp only [Act.put]
     have e0 := (H6.out.at_ 1 rfl).cell 0
     have e1 := (H6.out.at_ 1 rfl).cell 1
     have f0 := (H6.out.at_ 1 rfl).frozen 0
     have f1 := (H6.out.at_ 1 rfl).frozen 1
     refine tkB 11 47 hS ?_
     simp only [Act.put]
     clear hS
     refine wpAnyE_ready (rs := [12]) (by kernel_rfl) (by simp) ?_
     refine AllE.cons' (o := _) #[true, true, true, true, true, true, true, true, true, true, true, true, true, false] rfl (by kernel_rfl) (fun K hK => ?_) AllE.nil
     go_simp
     obtain ⟨X2, hX⟩ : ∃ X, X = (W1.setCell ⟨w.heap.size + 1 + 1 + 1, 0, none⟩ (.int .i64 p0)).setCell ⟨w.heap.size + 1 + 1 + 1, 1, none⟩ (.int .i64 q0) := ⟨_, rfl⟩
     rw [← hX]
     have hfin : Hp w [(w.heap.size + 1 + 1, 49, [.int .i64 0, .int .i64 0, .int .i64 0, .int .i64 0, .int .i64 0, .int .i64 0]), (w.heap.size + 1 + 1 + 1, 49, [.int .i64 p0, .int .i64 q0, .int .i64 0, .int .i64 0, .int .i64 0, .int .i64 0]), (w.heap.size + 1 + 1 + 1 + 1, 224, [.pointer (some ⟨w.heap.size + 1 + 1 + 1, 0, none⟩), .int .i64 a0, .int .i64 b0, .int .i64 c0, .int .i64 d0, .pointer (some ⟨w.heap.size + 1 + 1 + 1, 2, none⟩), .int .i64 a1, .int .i64 b1, .int .i64 c1, .int .i64 d1, .pointer (some ⟨w.heap.size + 1 + 1 + 1, 4, none⟩), .int .i64 a2, .int .i64 b2, .int .i64 c2, .int .i64 d2])] X2 := by
      rw [hX]
      exact ((H6.out.put 1 rfl 0 (.int .i64 p0)).put 1 rfl 1 (.int .i64 q0)).sub (L' := [(w.heap.size + 1 + 1, 49, [.int .i64 0, .int .i64 0, .int .i64 0, .int .i64 0, .int .i64 0, .int .i64 0]), (w.heap.size + 1 + 1 + 1, 49, [.int .i64 p0, .int .i64 q0, .int .i64 0, .int .i64 0, .int .i64 0, .int .i64 0]), (w.heap.size + 1 + 1 + 1 + 1, 224, [.pointer (some ⟨w.heap.size + 1 + 1 + 1, 0, none⟩), .int .i64 a0, .int .i64 b0, .int .i64 c0, .int .i64 d0, .pointer (some ⟨w.heap.size + 1 + 1 + 1, 2, none⟩), .int .i64 a1, .int .i64 b1, .int .i64 c1, .int .i64 d1, .pointer (some ⟨w.heap.size + 1 + 1 + 1, 4, none⟩), .int .i64 a2, .int .i64 b2, .int .i64 c2, .int .i64 d2])]) (by simp)
     have HFIN := Lib.hid hfin
     have hs2 : X2.cell? ⟨g10, 0, none⟩ = some (.pointer (some ⟨w.heap.size + 1 + 1 + 1, 0, none⟩)) ∧ X2.cell? ⟨g10, 1, none⟩ = some (.int .i64 a0) ∧ X2.cell? ⟨g10, 2, none⟩ = some (.int .i64 b0) ∧ X2.cell? ⟨g10, 3, none⟩ = some (.int .i64 c0) ∧ X2.cell? ⟨g10, 4, none⟩ = some (.int .i64 d0) := by
      rw [hX]
      exact five_of (((H6.out.put 1 rfl 0 (.int .i64 p0)).put 1 rfl 1 (.int .i64 q0)).at_ 3 rfl)
     refine hK.out _ _ (fun _ => hs2) ?_
     have hS := hs2
     clear hK K hX e0 e1 f0 f1 hfin hs2
     try simp only [Act.put]
     refine tkB 13 11 hS ?_
     simp only [Act.put]
     clear hS
     refine wpAnyE_done (by kernel_rfl) ?_ _
     have HRL := Lib.hid (show EaRel w 224 a0 b0 a1 b1 a2 b2 c0 d0 c1 d1 c2 d2 p0 q0 p1 q1 p2 q2 (.int .i64 ((0 + 1 : Nat) : Int)) X2 from ⟨0 + 1, by omega, rfl, HFIN.out⟩)
     go_wp2_with fail
     go_roundw
     case rel => exact HRL.out
     case measure => simp [intOf]
    ·have HF := Lib.hid hF
     clear hF
     refine wpAnyE_ready (rs := [7]) (by kernel_rfl) (by simp) ?_
     refine AllE.cons' (o := _) #[true, true, true, true, true, true, true, true, false, false, false, false, false, false] rfl (by kernel_rfl) (fun K hK => ?_) AllE.nil
     go_simp
     refine (HF.out _).mono ?_
     rintro e W1 ⟨rfl, hb⟩
     dsimp only
     have H6 := Lib.hid (HD.out.step hb)
     refine hK.out _ _ (fun _ => five_of (H6.out.at_ 3 rfl)) ?_
     clear hK K hb
     try simp only [Act.put]
     have hS : W1.cell? ⟨g10, 0, none⟩ = some (.pointer (some ⟨w.heap.size + 1 + 1 + 1, 0, none⟩)) ∧ W1.cell? ⟨g10, 1, none⟩ = some (.int .i64 a0) ∧ W1.cell? ⟨g10, 2, none⟩ = some (.int .i64 b0) ∧ W1.cell? ⟨g10, 3, none⟩ = some (.int .i64 c0) ∧ W1.cell? ⟨g10, 4, none⟩ = some (.int .i64 d0) := five_of (H6.out.at_ 3 rfl)
     refine tkB 8 36 hS ?_
     simp only [Act.put]
     refine tkB 9 45 hS ?_
     simp only [Act.put]
     refine tkB 10 46 hS ?_
     simp only [Act.put]
     have e0 := (H6.out.at_ 1 rfl).cell 0
     have e1 := (H6.out.at_ 1 rfl).cell 1
     have f0 := (H6.out.at_ 1 rfl).frozen 0
     have f1 := (H6.out.at_ 1 rfl).frozen 1
     refine tkB 11 47 hS ?_
     simp only [Act.put]
     clear hS
     refine wpAnyE_ready (rs := [12]) (by kernel_rfl) (by simp) ?_
     refine AllE.cons' (o := _) #[true, true, true, true, true, true, true, true, true, true, true, true, true, false] rfl (by kernel_rfl) (fun K hK => ?_) AllE.nil
     go_simp
     obtain ⟨X2, hX⟩ : ∃ X, X = (W1.setCell ⟨w.heap.size + 1 + 1 + 1, 0, none⟩ (.int .i64 0)).setCell ⟨w.heap.size + 1 + 1 + 1, 1, none⟩ (.int .i64 0) := ⟨_, rfl⟩
     rw [← hX]
     have hfin : Hp w [(w.heap.size + 1 + 1, 49, [.int .i64 0, .int .i64 0, .int .i64 0, .int .i64 0, .int .i64 0, .int .i64 0]), (w.heap.size + 1 + 1 + 1, 49, [.int .i64 0, .int .i64 0, .int .i64 0, .int .i64 0, .int .i64 0, .int .i64 0]), (w.heap.size + 1 + 1 + 1 + 1, 224, [.pointer (some ⟨w.heap.size + 1 + 1 + 1, 0, none⟩), .int .i64 a0, .int .i64 b0, .int .i64 c0, .int .i64 d0, .pointer (some ⟨w.heap.size + 1 + 1 + 1, 2, none⟩), .int .i64 a1, .int .i64 b1, .int .i64 c1, .int .i64 d1, .pointer (some ⟨w.heap.size + 1 + 1 + 1, 4, none⟩), .int .i64 a2, .int .i64 b2, .int .i64 c2, .int .i64 d2])] X2 := by
      rw [hX]
      exact ((H6.out.put 1 rfl 0 (.int .i64 0)).put 1 rfl 1 (.int .i64 0)).sub (L' := [(w.heap.size + 1 + 1, 49, [.int .i64 0, .int .i64 0, .int .i64 0, .int .i64 0, .int .i64 0, .int .i64 0]), (w.heap.size + 1 + 1 + 1, 49, [.int .i64 0, .int .i64 0, .int .i64 0, .int .i64 0, .int .i64 0, .int .i64 0]), (w.heap.size + 1 + 1 + 1 + 1, 224, [.pointer (some ⟨w.heap.size + 1 + 1 + 1, 0, none⟩), .int .i64 a0, .int .i64 b0, .int .i64 c0, .int .i64 d0, .pointer (some ⟨w.heap.size + 1 + 1 + 1, 2, none⟩), .int .i64 a1, .int .i64 b1, .int .i64 c1, .int .i64 d1, .pointer (some ⟨w.heap.size + 1 + 1 + 1, 4, none⟩), .int .i64 a2, .int .i64 b2, .int .i64 c2, .int .i64 d2])]) (by simp)
     have HFIN := Lib.hid hfin
     have hs2 : X2.cell? ⟨g10, 0, none⟩ = some (.pointer (some ⟨w.heap.size + 1 + 1 + 1, 0, none⟩)) ∧ X2.cell? ⟨g10, 1, none⟩ = some (.int .i64 a0) ∧ X2.cell? ⟨g10, 2, none⟩ = some (.int .i64 b0) ∧ X2.cell? ⟨g10, 3, none⟩ = some (.int .i64 c0) ∧ X2.cell? ⟨g10, 4, none⟩ = some (.int .i64 d0) := by
      rw [hX]
      exact five_of (((H6.out.put 1 rfl 0 (.int .i64 0)).put 1 rfl 1 (.int .i64 0)).at_ 3 rfl)
     refine hK.out _ _ (fun _ => hs2) ?_
     have hS := hs2
     clear hK K hX e0 e1 f0 f1 hfin hs2
     try simp only [Act.put]
     refine tkB 13 11 hS ?_
     simp only [Act.put]
     clear hS
     refine wpAnyE_done (by kernel_rfl) ?_ _
     obtain ⟨e0, e1, e2, e3, e4, e5⟩ := six_of (HFIN.out.at_ 0 rfl)
     obtain ⟨f0, f1, f2, f3, f4, f5⟩ := six_free (HFIN.out.at_ 0 rfl)
     go_wp2
     obtain ⟨WZ, hWZ⟩ : ∃ WZ, WZ = (((((X2.setCell ⟨w.heap.size + 1 + 1, 0, none⟩ (.int .i64 0)).setCell ⟨w.heap.size + 1 + 1, 1, none⟩ (.int .i64 0)).setCell ⟨w.heap.size + 1 + 1, 2, none⟩ (.int .i64 0)).setCell ⟨w.heap.size + 1 + 1, 3, none⟩ (.int .i64 0)).setCell ⟨w.heap.size + 1 + 1, 4, none⟩ (.int .i64 0)).setCell ⟨w.heap.size + 1 + 1, 5, none⟩ (.int .i64 0) := ⟨_, rfl⟩
     have hz := HFIN.out.put6 0 rfl (.int .i64 0) (.int .i64 0) (.int .i64 0) (.int .i64 0) (.int .i64 0) (.int .i64 0)
     rw [← hWZ] at hz ⊢
     obtain ⟨g0, g1, g2, g3, g4, g5⟩ := six_of (hz.at_ 0 rfl)
     have hv : ivR p0 q0 p1 q1 p2 q2 = .tuple #[szv 0 0 0 0 0 0, .int .i64 4] := by
      unfold ivR
      rw [if_neg]
      rw [ivE_num (q := (p0, q0)) (by simp) hR]
      decide
     rw [hv]
     exact bodyPost_ret (v := .tuple #[szv 0 0 0 0 0 0, .int .i64 4]) (by simp [g0, g1, g2, g3, g4, g5, results, Tryz.results125, go_sem]) rfl ⟨rfl, hz.below⟩
   ·have HM2 : Hid (Hp w [(w.heap.size + 1 + 1, 49, [.int .i64 0, .int .i64 0, .int .i64 0, .int .i64 0, .int .i64 0, .int .i64 0]), (w.heap.size + 1 + 1 + 1, 49, [.int .i64 p0, .int .i64 q0, .int .i64 0, .int .i64 0, .int .i64 0, .int .i64 0]), (w.heap.size + 1 + 1 + 1 + 1, 224, [.pointer (some ⟨w.heap.size + 1 + 1 + 1, 0, none⟩), .int .i64 a0, .int .i64 b0, .int .i64 c0, .int .i64 d0, .pointer (some ⟨w.heap.size + 1 + 1 + 1, 2, none⟩), .int .i64 a1, .int .i64 b1, .int .i64 c1, .int .i64 d1, .pointer (some ⟨w.heap.size + 1 + 1 + 1, 4, none⟩), .int .i64 a2, .int .i64 b2, .int .i64 c2, .int .i64 d2])] wr) := HM.out
    clear HM
    have hb15 := HM2.out.at_ 2 rfl
    have k0 := hb15.cell 5
    have k1 := hb15.cell 6
    have k2 := hb15.cell 7
    have k3 := hb15.cell 8
    have k4 := hb15.cell 9
    have hlt2 : w.heap.size + 1 + 1 + 1 + 1 < wr.heap.size := hb15.lt
    clear hb15
    go_wp2_with fail
    obtain ⟨W5, hW5⟩ : ∃ W5, W5 = wr.alloc (.cells #[.pointer (some ⟨w.heap.size + 1 + 1 + 1, 2, none⟩), .int .i64 a1, .int .i64 b1, .int .i64 c1, .int .i64 d1] 224) := ⟨_, rfl⟩
    have hm5 := HM2.out.new 224 [.pointer (some ⟨w.heap.size + 1 + 1 + 1, 2, none⟩), .int .i64 a1, .int .i64 b1, .int .i64 c1, .int .i64 d1]
    rw [← hW5] at hm5
    rw [← hW5]
    clear hW5 k0 k1 k2 k3 k4
    obtain ⟨g10, hg10⟩ : ∃ g, g = wr.heap.size := ⟨_, rfl⟩
    rw [← hg10] at hm5 hlt2 ⊢
    clear hg10
    have HM5 : Hid (Hp w [(w.heap.size + 1 + 1, 49, [.int .i64 0, .int .i64 0, .int .i64 0, .int .i64 0, .int .i64 0, .int .i64 0]), (w.heap.size + 1 + 1 + 1, 49, [.int .i64 p0, .int .i64 q0, .int .i64 0, .int .i64 0, .int .i64 0, .int .i64 0]), (w.heap.size + 1 + 1 + 1 + 1, 224, [.pointer (some ⟨w.heap.size + 1 + 1 + 1, 0, none⟩), .int .i64 a0, .int .i64 b0, .int .i64 c0, .int .i64 d0, .pointer (some ⟨w.heap.size + 1 + 1 + 1, 2, none⟩), .int .i64 a1, .int .i64 b1, .int .i64 c1, .int .i64 d1, .pointer (some ⟨w.heap.size + 1 + 1 + 1, 4, none⟩), .int .i64 a2, .int .i64 b2, .int .i64 c2, .int .i64 d2]), (g10, 224, [.pointer (some ⟨w.heap.size + 1 + 1 + 1, 2, none⟩), .int .i64 a1, .int .i64 b1, .int .i64 c1, .int .i64 d1])] W5) := Lib.hid hm5
    clear hm5 HM2
    have HD : Hid (Hp w [(w.heap.size + 1 + 1, 49, [.int .i64 0, .int .i64 0, .int .i64 0, .int .i64 0, .int .i64 0, .int .i64 0]), (w.heap.size + 1 + 1 + 1, 49, [.int .i64 p0, .int .i64 q0, .int .i64 0, .int .i64 0, .int .i64 0, .int .i64 0]), (w.heap.size + 1 + 1 + 1 + 1, 224, [.pointer (some ⟨w.heap.size + 1 + 1 + 1, 0, none⟩), .int .i64 a0, .int .i64 b0, .int .i64 c0, .int .i64 d0, .pointer (some ⟨w.heap.size + 1 + 1 + 1, 2, none⟩), .int .i64 a1, .int .i64 b1, .int .i64 c1, .int .i64 d1, .pointer (some ⟨w.heap.size + 1 + 1 + 1, 4, none⟩), .int .i64 a2, .int .i64 b2, .int .i64 c2, .int .i64 d2]), (g10, 224, [.pointer (some ⟨w.heap.size + 1 + 1 + 1, 2, none⟩), .int .i64 a1, .int .i64 b1, .int .i64 c1, .int .i64 d1])] W5.drew) := Lib.hid HM5.out.drew
    have hB := HD.out.at_ 3 rfl
    have hS : W5.drew.cell? ⟨g10, 0, none⟩ = some (.pointer (some ⟨w.heap.size + 1 + 1 + 1, 2, none⟩)) ∧ W5.drew.cell? ⟨g10, 1, none⟩ = some (.int .i64 a1) ∧ W5.drew.cell? ⟨g10, 2, none⟩ = some (.int .i64 b1) ∧ W5.drew.cell? ⟨g10, 3, none⟩ = some (.int .i64 c1) ∧ W5.drew.cell? ⟨g10, 4, none⟩ = some (.int .i64 d1) := five_of hB
    clear hB
    refine wp_regionE' 14 (fun w' => w'.cell? ⟨g10, 0, none⟩ = some (.pointer (some ⟨w.heap.size + 1 + 1 + 1, 2, none⟩)) ∧ w'.cell? ⟨g10, 1, none⟩ = some (.int .i64 a1) ∧ w'.cell? ⟨g10, 2, none⟩ = some (.int .i64 b1) ∧ w'.cell? ⟨g10, 3, none⟩ = some (.int .i64 c1) ∧ w'.cell? ⟨g10, 4, none⟩ = some (.int .i64 d1)) 14 #[false, false, false, false, false, false, false, false, false, false, false, false, false, false] (by kernel_rfl) (by kernel_rfl) (by kernel_rfl) ?_
    refine tkB 0 37 hS ?_
    simp only [Act.put]
    refine tkB 1 38 hS ?_
    simp only [Act.put]
    refine tkB 2 39 hS ?_
    simp only [Act.put]
    refine tkB 3 40 hS ?_
    simp only [Act.put]
    refine tkB 4 41 hS ?_
    simp only [Act.put]
    refine tkB 5 42 hS ?_
    simp only [Act.put]
    refine tkB 6 43 hS ?_
    simp only [Act.put]
    clear hS
    obtain ⟨WD, hWD⟩ : ∃ X, X = W5.drew := ⟨_, rfl⟩
    rw [← hWD] at HD ⊢
    clear hWD HM5
    rcases H1.out with ⟨hR, hF⟩ | ⟨hR, hF⟩
    ·have HF := Lib.hid hF
     clear hF
     refine wpAnyE_ready (rs := [7]) (by kernel_rfl) (by simp) ?_
     refine AllE.cons' (o := _) #[true, true, true, true, true, true, true, true, false, false, false, false, false, false] rfl (by kernel_rfl) (fun K hK => ?_) AllE.nil
     go_simp
     refine (HF.out _).mono ?_
     rintro e W1 ⟨rfl, hb⟩
     dsimp only
     have H6 := Lib.hid (HD.out.step hb)
     refine hK.out _ _ (fun _ => five_of (H6.out.at_ 3 rfl)) ?_
     clear hK K hb
     try simp only [Act.put]
     have hS : W1.cell? ⟨g10, 0, none⟩ = some (.pointer (some ⟨w.heap.size + 1 + 1 + 1, 2, none⟩)) ∧ W1.cell? ⟨g10, 1, none⟩ = some (.int .i64 a1) ∧ W1.cell? ⟨g10, 2, none⟩ = some (.int .i64 b1) ∧ W1.cell? ⟨g10, 3, none⟩ = some (.int .i64 c1) ∧ W1.cell? ⟨g10, 4, none⟩ = some (.int .i64 d1) := five_of (H6.out.at_ 3 rfl)
     refine tkB 8 36 hS ?_
     simp only [Act.put]
     refine tkB 9 45 hS ?_
     simp only [Act.put]
     refine tkB 10 46 hS ?_
     simp only [Act.put]
     have e0 := (H6.out.at_ 1 rfl).cell 2
     have e1 := (H6.out.at_ 1 rfl).cell 3
     have f0 := (H6.out.at_ 1 rfl).frozen 2
     have f1 := (H6.out.at_ 1 rfl).frozen 3
     refine tkB 11 47 hS ?_
     simp only [Act.put]
     clear hS
     refine wpAnyE_ready (rs := [12]) (by kernel_rfl) (by simp) ?_
     refine AllE.cons' (o := _) #[true, true, true, true, true, true, true, true, true, true, true, true, true, false] rfl (by kernel_rfl) (fun K hK => ?_) AllE.nil
     go_simp
     obtain ⟨X2, hX⟩ : ∃ X, X = (W1.setCell ⟨w.heap.size + 1 + 1 + 1, 2, none⟩ (.int .i64 p1)).setCell ⟨w.heap.size + 1 + 1 + 1, 3, none⟩ (.int .i64 q1) := ⟨_, rfl⟩
     rw [← hX]
     have hfin : Hp w [(w.heap.size + 1 + 1, 49, [.int .i64 0, .int .i64 0, .int .i64 0, .int .i64 0, .int .i64 0, .int .i64 0]), (w.heap.size + 1 + 1 + 1, 49, [.int .i64 p0, .int .i64 q0, .int .i64 p1, .int .i64 q1, .int .i64 0, .int .i64 0]), (w.heap.size + 1 + 1 + 1 + 1, 224, [.pointer (some ⟨w.heap.size + 1 + 1 + 1, 0, none⟩), .int .i64 a0, .int .i64 b0, .int .i64 c0, .int .i64 d0, .pointer (some ⟨w.heap.size + 1 + 1 + 1, 2, none⟩), .int .i64 a1, .int .i64 b1, .int .i64 c1, .int .i64 d1, .pointer (some ⟨w.heap.size + 1 + 1 + 1, 4, none⟩), .int .i64 a2, .int .i64 b2, .int .i64 c2, .int .i64 d2])] X2 := by
      rw [hX]
      exact ((H6.out.put 1 rfl 2 (.int .i64 p1)).put 1 rfl 3 (.int .i64 q1)).sub (L' := [(w.heap.size + 1 + 1, 49, [.int .i64 0, .int .i64 0, .int .i64 0, .int .i64 0, .int .i64 0, .int .i64 0]), (w.heap.size + 1 + 1 + 1, 49, [.int .i64 p0, .int .i64 q0, .int .i64 p1, .int .i64 q1, .int .i64 0, .int .i64 0]), (w.heap.size + 1 + 1 + 1 + 1, 224, [.pointer (some ⟨w.heap.size + 1 + 1 + 1, 0, none⟩), .int .i64 a0, .int .i64 b0, .int .i64 c0, .int .i64 d0, .pointer (some ⟨w.heap.size + 1 + 1 + 1, 2, none⟩), .int .i64 a1, .int .i64 b1, .int .i64 c1, .int .i64 d1, .pointer (some ⟨w.heap.size + 1 + 1 + 1, 4, none⟩), .int .i64 a2, .int .i64 b2, .int .i64 c2, .int .i64 d2])]) (by simp)
     have HFIN := Lib.hid hfin
     have hs2 : X2.cell? ⟨g10, 0, none⟩ = some (.pointer (some ⟨w.heap.size + 1 + 1 + 1, 2, none⟩)) ∧ X2.cell? ⟨g10, 1, none⟩ = some (.int .i64 a1) ∧ X2.cell? ⟨g10, 2, none⟩ = some (.int .i64 b1) ∧ X2.cell? ⟨g10, 3, none⟩ = some (.int .i64 c1) ∧ X2.cell? ⟨g10, 4, none⟩ = some (.int .i64 d1) := by
      rw [hX]
      exact five_of (((H6.out.put 1 rfl 2 (.int .i64 p1)).put 1 rfl 3 (.int .i64 q1)).at_ 3 rfl)
     refine hK.out _ _ (fun _ => hs2) ?_
     have hS := hs2
     clear hK K hX e0 e1 f0 f1 hfin hs2
     try simp only [Act.put]
     refine tkB 13 11 hS ?_
     simp only [Act.put]
     clear hS
     refine wpAnyE_done (by kernel_rfl) ?_ _
     have HRL := Lib.hid (show EaRel w 224 a0 b0 a1 b1 a2 b2 c0 d0 c1 d1 c2 d2 p0 q0 p1 q1 p2 q2 (.int .i64 ((1 + 1 : Nat) : Int)) X2 from ⟨1 + 1, by omega, rfl, HFIN.out⟩)
     go_wp2_with fail
     go_roundw
     case rel => exact HRL.out
     case measure => simp [intOf]
    ·have HF := Lib.hid hF
     clear hF
     refine wpAnyE_ready (rs := [7]) (by kernel_rfl) (by simp) ?_
     refine AllE.cons' (o := _) #[true, true, true, true, true, true, true, true, false, false, false, false, false, false] rfl (by kernel_rfl) (fun K hK => ?_) AllE.nil
     go_simp
     refine (HF.out _).mono ?_
     rintro e W1 ⟨rfl, hb⟩
     dsimp only
     have H6 := Lib.hid (HD.out.step hb)
     refine hK.out _ _ (fun _ => five_of (H6.out.at_ 3 rfl)) ?_
     clear hK K hb
     try simp only [Act.put]
     have hS : W1.cell? ⟨g10, 0, none⟩ = some (.pointer (some ⟨w.heap.size + 1 + 1 + 1, 2, none⟩)) ∧ W1.cell? ⟨g10, 1, none⟩ = some (.int .i64 a1) ∧ W1.cell? ⟨g10, 2, none⟩ = some (.int .i64 b1) ∧ W1.cell? ⟨g10, 3, none⟩ = some (.int .i64 c1) ∧ W1.cell? ⟨g10, 4, none⟩ = some (.int .i64 d1) := five_of (H6.out.at_ 3 rfl)
     refine tkB 8 36 hS ?_
     simp only [Act.put]
     refine tkB 9 45 hS ?_
     simp only [Act.put]
     refine tkB 10 46 hS ?_
     simp only [Act.put]
     have e0 := (H6.out.at_ 1 rfl).cell 2
     have e1 := (H6.out.at_ 1 rfl).cell 3
     have f0 := (H6.out.at_ 1 rfl).frozen 2
     have f1 := (H6.out.at_ 1 rfl).frozen 3
     refine tkB 11 47 hS ?_
     simp only [Act.put]
     clear hS
     refine wpAnyE_ready (rs := [12]) (by kernel_rfl) (by simp) ?_
     refine AllE.cons' (o := _) #[true, true, true, true, true, true, true, true, true, true, true, true, true, false] rfl (by kernel_rfl) (fun K hK => ?_) AllE.nil
     go_simp
     obtain ⟨X2, hX⟩ : ∃ X, X = (W1.setCell ⟨w.heap.size + 1 + 1 + 1, 2, none⟩ (.int .i64 0)).setCell ⟨w.heap.size + 1 + 1 + 1, 3, none⟩ (.int .i64 0) := ⟨_, rfl⟩
     rw [← hX]
     have hfin : Hp w [(w.heap.size + 1 + 1, 49, [.int .i64 0, .int .i64 0, .int .i64 0, .int .i64 0, .int .i64 0, .int .i64 0]), (w.heap.size + 1 + 1 + 1, 49, [.int .i64 p0, .int .i64 q0, .int .i64 0, .int .i64 0, .int .i64 0, .int .i64 0]), (w.heap.size + 1 + 1 + 1 + 1, 224, [.pointer (some ⟨w.heap.size + 1 + 1 + 1, 0, none⟩), .int .i64 a0, .int .i64 b0, .int .i64 c0, .int .i64 d0, .pointer (some ⟨w.heap.size + 1 + 1 + 1, 2, none⟩), .int .i64 a1, .int .i64 b1, .int .i64 c1, .int .i64 d1, .pointer (some ⟨w.heap.size + 1 + 1 + 1, 4, none⟩), .int .i64 a2, .int .i64 b2, .int .i64 c2, .int .i64 d2])] X2 := by
      rw [hX]
      exact ((H6.out.put 1 rfl 2 (.int .i64 0)).put 1 rfl 3 (.int .i64 0)).sub (L' := [(w.heap.size + 1 + 1, 49, [.int .i64 0, .int .i64 0, .int .i64 0, .int .i64 0, .int .i64 0, .int .i64 0]), (w.heap.size + 1 + 1 + 1, 49, [.int .i64 p0, .int .i64 q0, .int .i64 0, .int .i64 0, .int .i64 0, .int .i64 0]), (w.heap.size + 1 + 1 + 1 + 1, 224, [.pointer (some ⟨w.heap.size + 1 + 1 + 1, 0, none⟩), .int .i64 a0, .int .i64 b0, .int .i64 c0, .int .i64 d0, .pointer (some ⟨w.heap.size + 1 + 1 + 1, 2, none⟩), .int .i64 a1, .int .i64 b1, .int .i64 c1, .int .i64 d1, .pointer (some ⟨w.heap.size + 1 + 1 + 1, 4, none⟩), .int .i64 a2, .int .i64 b2, .int .i64 c2, .int .i64 d2])]) (by simp)
     have HFIN := Lib.hid hfin
     have hs2 : X2.cell? ⟨g10, 0, none⟩ = some (.pointer (some ⟨w.heap.size + 1 + 1 + 1, 2, none⟩)) ∧ X2.cell? ⟨g10, 1, none⟩ = some (.int .i64 a1) ∧ X2.cell? ⟨g10, 2, none⟩ = some (.int .i64 b1) ∧ X2.cell? ⟨g10, 3, none⟩ = some (.int .i64 c1) ∧ X2.cell? ⟨g10, 4, none⟩ = some (.int .i64 d1) := by
      rw [hX]
      exact five_of (((H6.out.put 1 rfl 2 (.int .i64 0)).put 1 rfl 3 (.int .i64 0)).at_ 3 rfl)
     refine hK.out _ _ (fun _ => hs2) ?_
     have hS := hs2
     clear hK K hX e0 e1 f0 f1 hfin hs2
     try simp only [Act.put]
     refine tkB 13 11 hS ?_
     simp only [Act.put]
     clear hS
     refine wpAnyE_done (by kernel_rfl) ?_ _
     obtain ⟨e0, e1, e2, e3, e4, e5⟩ := six_of (HFIN.out.at_ 0 rfl)
     obtain ⟨f0, f1, f2, f3, f4, f5⟩ := six_free (HFIN.out.at_ 0 rfl)
     go_wp2
     obtain ⟨WZ, hWZ⟩ : ∃ WZ, WZ = (((((X2.setCell ⟨w.heap.size + 1 + 1, 0, none⟩ (.int .i64 0)).setCell ⟨w.heap.size + 1 + 1, 1, none⟩ (.int .i64 0)).setCell ⟨w.heap.size + 1 + 1, 2, none⟩ (.int .i64 0)).setCell ⟨w.heap.size + 1 + 1, 3, none⟩ (.int .i64 0)).setCell ⟨w.heap.size + 1 + 1, 4, none⟩ (.int .i64 0)).setCell ⟨w.heap.size + 1 + 1, 5, none⟩ (.int .i64 0) := ⟨_, rfl⟩
     have hz := HFIN.out.put6 0 rfl (.int .i64 0) (.int .i64 0) (.int .i64 0) (.int .i64 0) (.int .i64 0) (.int .i64 0)
     rw [← hWZ] at hz ⊢
     obtain ⟨g0, g1, g2, g3, g4, g5⟩ := six_of (hz.at_ 0 rfl)
     have hv : ivR p0 q0 p1 q1 p2 q2 = .tuple #[szv 0 0 0 0 0 0, .int .i64 4] := by
      unfold ivR
      rw [if_neg]
      rw [ivE_num (q := (p1, q1)) (by simp) hR]
      decide
     rw [hv]
     exact bodyPost_ret (v := .tuple #[szv 0 0 0 0 0 0, .int .i64 4]) (by simp [g0, g1, g2, g3, g4, g5, results, Tryz.results125, go_sem]) rfl ⟨rfl, hz.below⟩
   ·have HM2 : Hid (Hp w [(w.heap.size + 1 + 1, 49, [.int .i64 0, .int .i64 0, .int .i64 0, .int .i64 0, .int .i64 0, .int .i64 0]), (w.heap.size + 1 + 1 + 1, 49, [.int .i64 p0, .int .i64 q0, .int .i64 p1, .int .i64 q1, .int .i64 0, .int .i64 0]), (w.heap.size + 1 + 1 + 1 + 1, 224, [.pointer (some ⟨w.heap.size + 1 + 1 + 1, 0, none⟩), .int .i64 a0, .int .i64 b0, .int .i64 c0, .int .i64 d0, .pointer (some ⟨w.heap.size + 1 + 1 + 1, 2, none⟩), .int .i64 a1, .int .i64 b1, .int .i64 c1, .int .i64 d1, .pointer (some ⟨w.heap.size + 1 + 1 + 1, 4, none⟩), .int .i64 a2, .int .i64 b2, .int .i64 c2, .int .i64 d2])] wr) := HM.out
    clear HM
    have hb15 := HM2.out.at_ 2 rfl
    have k0 := hb15.cell 10
    have k1 := hb15.cell 11
    have k2 := hb15.cell 12
    have k3 := hb15.cell 13
    have k4 := hb15.cell 14
    have hlt2 : w.heap.size + 1 + 1 + 1 + 1 < wr.heap.size := hb15.lt
    clear hb15
    go_wp2_with fail
    obtain ⟨W5, hW5⟩ : ∃ W5, W5 = wr.alloc (.cells #[.pointer (some ⟨w.heap.size + 1 + 1 + 1, 4, none⟩), .int .i64 a2, .int .i64 b2, .int .i64 c2, .int .i64 d2] 224) := ⟨_, rfl⟩
    have hm5 := HM2.out.new 224 [.pointer (some ⟨w.heap.size + 1 + 1 + 1, 4, none⟩), .int .i64 a2, .int .i64 b2, .int .i64 c2, .int .i64 d2]
    rw [← hW5] at hm5
    rw [← hW5]
    clear hW5 k0 k1 k2 k3 k4
    obtain ⟨g10, hg10⟩ : ∃ g, g = wr.heap.size := ⟨_, rfl⟩
    rw [← hg10] at hm5 hlt2 ⊢
    clear hg10
    have HM5 : Hid (Hp w [(w.heap.size + 1 + 1, 49, [.int .i64 0, .int .i64 0, .int .i64 0, .int .i64 0, .int .i64 0, .int .i64 0]), (w.heap.size + 1 + 1 + 1, 49, [.int .i64 p0, .int .i64 q0, .int .i64 p1, .int .i64 q1, .int .i64 0, .int .i64 0]), (w.heap.size + 1 + 1 + 1 + 1, 224, [.pointer (some ⟨w.heap.size + 1 + 1 + 1, 0, none⟩), .int .i64 a0, .int .i64 b0, .int .i64 c0, .int .i64 d0, .pointer (some ⟨w.heap.size + 1 + 1 + 1, 2, none⟩), .int .i64 a1, .int .i64 b1, .int .i64 c1, .int .i64 d1, .pointer (some ⟨w.heap.size + 1 + 1 + 1, 4, none⟩), .int .i64 a2, .int .i64 b2, .int .i64 c2, .int .i64 d2]), (g10, 224, [.pointer (some ⟨w.heap.size + 1 + 1 + 1, 4, none⟩), .int .i64 a2, .int .i64 b2, .int .i64 c2, .int .i64 d2])] W5) := Lib.hid hm5
    clear hm5 HM2
    have HD : Hid (Hp w [(w.heap.size + 1 + 1, 49, [.int .i64 0, .int .i64 0, .int .i64 0, .int .i64 0, .int .i64 0, .int .i64 0]), (w.heap.size + 1 + 1 + 1, 49, [.int .i64 p0, .int .i64 q0, .int .i64 p1, .int .i64 q1, .int .i64 0, .int .i64 0]), (w.heap.size + 1 + 1 + 1 + 1, 224, [.pointer (some ⟨w.heap.size + 1 + 1 + 1, 0, none⟩), .int .i64 a0, .int .i64 b0, .int .i64 c0, .int .i64 d0, .pointer (some ⟨w.heap.size + 1 + 1 + 1, 2, none⟩), .int .i64 a1, .int .i64 b1, .int .i64 c1, .int .i64 d1, .pointer (some ⟨w.heap.size + 1 + 1 + 1, 4, none⟩), .int .i64 a2, .int .i64 b2, .int .i64 c2, .int .i64 d2]), (g10, 224, [.pointer (some ⟨w.heap.size + 1 + 1 + 1, 4, none⟩), .int .i64 a2, .int .i64 b2, .int .i64 c2, .int .i64 d2])] W5.drew) := Lib.hid HM5.out.drew
    have hB := HD.out.at_ 3 rfl
    have hS : W5.drew.cell? ⟨g10, 0, none⟩ = some (.pointer (some ⟨w.heap.size + 1 + 1 + 1, 4, none⟩)) ∧ W5.drew.cell? ⟨g10, 1, none⟩ = some (.int .i64 a2) ∧ W5.drew.cell? ⟨g10, 2, none⟩ = some (.int .i64 b2) ∧ W5.drew.cell? ⟨g10, 3, none⟩ = some (.int .i64 c2) ∧ W5.drew.cell? ⟨g10, 4, none⟩ = some (.int .i64 d2) := five_of hB
    clear hB
    refine wp_regionE' 14 (fun w' => w'.cell? ⟨g10, 0, none⟩ = some (.pointer (some ⟨w.heap.size + 1 + 1 + 1, 4, none⟩)) ∧ w'.cell? ⟨g10, 1, none⟩ = some (.int .i64 a2) ∧ w'.cell? ⟨g10, 2, none⟩ = some (.int .i64 b2) ∧ w'.cell? ⟨g10, 3, none⟩ = some (.int .i64 c2) ∧ w'.cell? ⟨g10, 4, none⟩ = some (.int .i64 d2)) 14 #[false, false, false, false, false, false, false, false, false, false, false, false, false, false] (by kernel_rfl) (by kernel_rfl) (by kernel_rfl) ?_
    refine tkB 0 37 hS ?_
    simp only [Act.put]
    refine tkB 1 38 hS ?_
    simp only [Act.put]
    refine tkB 2 39 hS ?_
    simp only [Act.put]
    refine tkB 3 40 hS ?_
    simp only [Act.put]
    refine tkB 4 41 hS ?_
    simp only [Act.put]
    refine tkB 5 42 hS ?_
    simp only [Act.put]
    refine tkB 6 43 hS ?_
    simp only [Act.put]
    clear hS
    obtain ⟨WD, hWD⟩ : ∃ X, X = W5.drew := ⟨_, rfl⟩
    rw [← hWD] at HD ⊢
    clear hWD HM5
    rcases H2.out with ⟨hR, hF⟩ | ⟨hR, hF⟩
    ·have HF := Lib.hid hF
     clear hF
     refine wpAnyE_ready (rs := [7]) (by kernel_rfl) (by simp) ?_
     refine AllE.cons' (o := _) #[true, true, true, true, true, true, true, true, false, false, false, false, false, false] rfl (by kernel_rfl) (fun K hK => ?_) AllE.nil
     go_simp
     refine (HF.out _).mono ?_
     rintro e W1 ⟨rfl, hb⟩
     dsimp only
     have H6 := Lib.hid (HD.out.step hb)
     refine hK.out _ _ (fun _ => five_of (H6.out.at_ 3 rfl)) ?_
     clear hK K hb
     try simp only [Act.put]
     have hS : W1.cell? ⟨g10, 0, none⟩ = some (.pointer (some ⟨w.heap.size + 1 + 1 + 1, 4, none⟩)) ∧ W1.cell? ⟨g10, 1, none⟩ = some (.int .i64 a2) ∧ W1.cell? ⟨g10, 2, none⟩ = some (.int .i64 b2) ∧ W1.cell? ⟨g10, 3, none⟩ = some (.int .i64 c2) ∧ W1.cell? ⟨g10, 4, none⟩ = some (.int .i64 d2) := five_of (H6.out.at_ 3 rfl)
     refine tkB 8 36 hS ?_
     simp only [Act.put]
     refine tkB 9 45 hS ?_
     simp only [Act.put]
     refine tkB 10 46 hS ?_
     simp only [Act.put]
     have e0 := (H6.out.at_ 1 rfl).cell 4
     have e1 := (H6.out.at_ 1 rfl).cell 5
     have f0 := (H6.out.at_ 1 rfl).frozen 4
     have f1 := (H6.out.at_ 1 rfl).frozen 5
     refine tkB 11 47 hS ?_
     simp only [Act.put]
     clear hS
     refine wpAnyE_ready (rs := [12]) (by kernel_rfl) (by simp) ?_
     refine AllE.cons' (o := _) #[true, true, true, true, true, true, true, true, true, true, true, true, true, false] rfl (by kernel_rfl) (fun K hK => ?_) AllE.nil
     go_simp
     obtain ⟨X2, hX⟩ : ∃ X, X = (W1.setCell ⟨w.heap.size + 1 + 1 + 1, 4, none⟩ (.int .i64 p2)).setCell ⟨w.heap.size + 1 + 1 + 1, 5, none⟩ (.int .i64 q2) := ⟨_, rfl⟩
     rw [← hX]
     have hfin : Hp w [(w.heap.size + 1 + 1, 49, [.int .i64 0, .int .i64 0, .int .i64 0, .int .i64 0, .int .i64 0, .int .i64 0]), (w.heap.size + 1 + 1 + 1, 49, [.int .i64 p0, .int .i64 q0, .int .i64 p1, .int .i64 q1, .int .i64 p2, .int .i64 q2]), (w.heap.size + 1 + 1 + 1 + 1, 224, [.pointer (some ⟨w.heap.size + 1 + 1 + 1, 0, none⟩), .int .i64 a0, .int .i64 b0, .int .i64 c0, .int .i64 d0, .pointer (some ⟨w.heap.size + 1 + 1 + 1, 2, none⟩), .int .i64 a1, .int .i64 b1, .int .i64 c1, .int .i64 d1, .pointer (some ⟨w.heap.size + 1 + 1 + 1, 4, none⟩), .int .i64 a2, .int .i64 b2, .int .i64 c2, .int .i64 d2])] X2 := by
      rw [hX]
      exact ((H6.out.put 1 rfl 4 (.int .i64 p2)).put 1 rfl 5 (.int .i64 q2)).sub (L' := [(w.heap.size + 1 + 1, 49, [.int .i64 0, .int .i64 0, .int .i64 0, .int .i64 0, .int .i64 0, .int .i64 0]), (w.heap.size + 1 + 1 + 1, 49, [.int .i64 p0, .int .i64 q0, .int .i64 p1, .int .i64 q1, .int .i64 p2, .int .i64 q2]), (w.heap.size + 1 + 1 + 1 + 1, 224, [.pointer (some ⟨w.heap.size + 1 + 1 + 1, 0, none⟩), .int .i64 a0, .int .i64 b0, .int .i64 c0, .int .i64 d0, .pointer (some ⟨w.heap.size + 1 + 1 + 1, 2, none⟩), .int .i64 a1, .int .i64 b1, .int .i64 c1, .int .i64 d1, .pointer (some ⟨w.heap.size + 1 + 1 + 1, 4, none⟩), .int .i64 a2, .int .i64 b2, .int .i64 c2, .int .i64 d2])]) (by simp)
     have HFIN := Lib.hid hfin
     have hs2 : X2.cell? ⟨g10, 0, none⟩ = some (.pointer (some ⟨w.heap.size + 1 + 1 + 1, 4, none⟩)) ∧ X2.cell? ⟨g10, 1, none⟩ = some (.int .i64 a2) ∧ X2.cell? ⟨g10, 2, none⟩ = some (.int .i64 b2) ∧ X2.cell? ⟨g10, 3, none⟩ = some (.int .i64 c2) ∧ X2.cell? ⟨g10, 4, none⟩ = some (.int .i64 d2) := by
      rw [hX]
      exact five_of (((H6.out.put 1 rfl 4 (.int .i64 p2)).put 1 rfl 5 (.int .i64 q2)).at_ 3 rfl)
     refine hK.out _ _ (fun _ => hs2) ?_
     have hS := hs2
     clear hK K hX e0 e1 f0 f1 hfin hs2
     try simp only [Act.put]
     refine tkB 13 11 hS ?_
     simp only [Act.put]
     clear hS
     refine wpAnyE_done (by kernel_rfl) ?_ _
     have HRL := Lib.hid (show EaRel w 224 a0 b0 a1 b1 a2 b2 c0 d0 c1 d1 c2 d2 p0 q0 p1 q1 p2 q2 (.int .i64 ((2 + 1 : Nat) : Int)) X2 from ⟨2 + 1, by omega, rfl, HFIN.out⟩)
     go_wp2_with fail
     go_roundw
     case rel => exact HRL.out
     case measure => simp [intOf]
    ·have HF := Lib.hid hF
     clear hF
     refine wpAnyE_ready (rs := [7]) (by kernel_rfl) (by simp) ?_
     refine AllE.cons' (o := _) #[true, true, true, true, true, true, true, true, false, false, false, false, false, false] rfl (by kernel_rfl) (fun K hK => ?_) AllE.nil
     go_simp
     refine (HF.out _).mono ?_
     rintro e W1 ⟨rfl, hb⟩
     dsimp only
     have H6 := Lib.hid (HD.out.step hb)
     refine hK.out _ _ (fun _ => five_of (H6.out.at_ 3 rfl)) ?_
     clear hK K hb
     try simp only [Act.put]
     have hS : W1.cell? ⟨g10, 0, none⟩ = some (.pointer (some ⟨w.heap.size + 1 + 1 + 1, 4, none⟩)) ∧ W1.cell? ⟨g10, 1, none⟩ = some (.int .i64 a2) ∧ W1.cell? ⟨g10, 2, none⟩ = some (.int .i64 b2) ∧ W1.cell? ⟨g10, 3, none⟩ = some (.int .i64 c2) ∧ W1.cell? ⟨g10, 4, none⟩ = some (.int .i64 d2) := five_of (H6.out.at_ 3 rfl)
     refine tkB 8 36 hS ?_
     simp only [Act.put]
     refine tkB 9 45 hS ?_
     simp only [Act.put]
     refine tkB 10 46 hS ?_
     simp only [Act.put]
     have e0 := (H6.out.at_ 1 rfl).cell 4
     have e1 := (H6.out.at_ 1 rfl).cell 5
     have f0 := (H6.out.at_ 1 rfl).frozen 4
     have f1 := (H6.out.at_ 1 rfl).frozen 5
     refine tkB 11 47 hS ?_
     simp only [Act.put]
     clear hS
     refine wpAnyE_ready (rs := [12]) (by kernel_rfl) (by simp) ?_
     refine AllE.cons' (o := _) #[true, true, true, true, true, true, true, true, true, true, true, true, true, false] rfl (by kernel_rfl) (fun K hK => ?_) AllE.nil
     go_simp
     obtain ⟨X2, hX⟩ : ∃ X, X = (W1.setCell ⟨w.heap.size + 1 + 1 + 1, 4, none⟩ (.int .i64 0)).setCell ⟨w.heap.size + 1 + 1 + 1, 5, none⟩ (.int .i64 0) := ⟨_, rfl⟩
     rw [← hX]
     have hfin : Hp w [(w.heap.size + 1 + 1, 49, [.int .i64 0, .int .i64 0, .int .i64 0, .int .i64 0, .int .i64 0, .int .i64 0]), (w.heap.size + 1 + 1 + 1, 49, [.int .i64 p0, .int .i64 q0, .int .i64 p1, .int .i64 q1, .int .i64 0, .int .i64 0]), (w.heap.size + 1 + 1 + 1 + 1, 224, [.pointer (some ⟨w.heap.size + 1 + 1 + 1, 0, none⟩), .int .i64 a0, .int .i64 b0, .int .i64 c0, .int .i64 d0, .pointer (some ⟨w.heap.size + 1 + 1 + 1, 2, none⟩), .int .i64 a1, .int .i64 b1, .int .i64 c1, .int .i64 d1, .pointer (some ⟨w.heap.size + 1 + 1 + 1, 4, none⟩), .int .i64 a2, .int .i64 b2, .int .i64 c2, .int .i64 d2])] X2 := by
      rw [hX]
      exact ((H6.out.put 1 rfl 4 (.int .i64 0)).put 1 rfl 5 (.int .i64 0)).sub (L' := [(w.heap.size + 1 + 1, 49, [.int .i64 0, .int .i64 0, .int .i64 0, .int .i64 0, .int .i64 0, .int .i64 0]), (w.heap.size + 1 + 1 + 1, 49, [.int .i64 p0, .int .i64 q0, .int .i64 p1, .int .i64 q1, .int .i64 0, .int .i64 0]), (w.heap.size + 1 + 1 + 1 + 1, 224, [.pointer (some ⟨w.heap.size + 1 + 1 + 1, 0, none⟩), .int .i64 a0, .int .i64 b0, .int .i64 c0, .int .i64 d0, .pointer (some ⟨w.heap.size + 1 + 1 + 1, 2, none⟩), .int .i64 a1, .int .i64 b1, .int .i64 c1, .int .i64 d1, .pointer (some ⟨w.heap.size + 1 + 1 + 1, 4, none⟩), .int .i64 a2, .int .i64 b2, .int .i64 c2, .int .i64 d2])]) (by simp)
     have HFIN := Lib.hid hfin
     have hs2 : X2.cell? ⟨g10, 0, none⟩ = some (.pointer (some ⟨w.heap.size + 1 + 1 + 1, 4, none⟩)) ∧ X2.cell? ⟨g10, 1, none⟩ = some (.int .i64 a2) ∧ X2.cell? ⟨g10, 2, none⟩ = some (.int .i64 b2) ∧ X2.cell? ⟨g10, 3, none⟩ = some (.int .i64 c2) ∧ X2.cell? ⟨g10, 4, none⟩ = some (.int .i64 d2) := by
      rw [hX]
      exact five_of (((H6.out.put 1 rfl 4 (.int .i64 0)).put 1 rfl 5 (.int .i64 0)).at_ 3 rfl)
     refine hK.out _ _ (fun _ => hs2) ?_
     have hS := hs2
     clear hK K hX e0 e1 f0 f1 hfin hs2
     try simp only [Act.put]
     refine tkB 13 11 hS ?_
     simp only [Act.put]
     clear hS
     refine wpAnyE_done (by kernel_rfl) ?_ _
     obtain ⟨e0, e1, e2, e3, e4, e5⟩ := six_of (HFIN.out.at_ 0 rfl)
     obtain ⟨f0, f1, f2, f3, f4, f5⟩ := six_free (HFIN.out.at_ 0 rfl)
     go_wp2
     obtain ⟨WZ, hWZ⟩ : ∃ WZ, WZ = (((((X2.setCell ⟨w.heap.size + 1 + 1, 0, none⟩ (.int .i64 0)).setCell ⟨w.heap.size + 1 + 1, 1, none⟩ (.int .i64 0)).setCell ⟨w.heap.size + 1 + 1, 2, none⟩ (.int .i64 0)).setCell ⟨w.heap.size + 1 + 1, 3, none⟩ (.int .i64 0)).setCell ⟨w.heap.size + 1 + 1, 4, none⟩ (.int .i64 0)).setCell ⟨w.heap.size + 1 + 1, 5, none⟩ (.int .i64 0) := ⟨_, rfl⟩
     have hz := HFIN.out.put6 0 rfl (.int .i64 0) (.int .i64 0) (.int .i64 0) (.int .i64 0) (.int .i64 0) (.int .i64 0)
     rw [← hWZ] at hz ⊢
     obtain ⟨g0, g1, g2, g3, g4, g5⟩ := six_of (hz.at_ 0 rfl)
     have hv : ivR p0 q0 p1 q1 p2 q2 = .tuple #[szv 0 0 0 0 0 0, .int .i64 4] := by
      unfold ivR
      rw [if_neg]
      rw [ivE_num (q := (p2, q2)) (by simp) hR]
      decide
     rw [hv]
     exact bodyPost_ret (v := .tuple #[szv 0 0 0 0 0 0, .int .i64 4]) (by simp [g0, g1, g2, g3, g4, g5, results, Tryz.results125, go_sem]) rfl ⟨rfl, hz.below⟩
  ·obtain rfl : k = 3 := by omega
   have HM2 : Hid (Hp w [(w.heap.size + 1 + 1, 49, [.int .i64 0, .int .i64 0, .int .i64 0, .int .i64 0, .int .i64 0, .int .i64 0]), (w.heap.size + 1 + 1 + 1, 49, [.int .i64 p0, .int .i64 q0, .int .i64 p1, .int .i64 q1, .int .i64 p2, .int .i64 q2]), (w.heap.size + 1 + 1 + 1 + 1, 224, [.pointer (some ⟨w.heap.size + 1 + 1 + 1, 0, none⟩), .int .i64 a0, .int .i64 b0, .int .i64 c0, .int .i64 d0, .pointer (some ⟨w.heap.size + 1 + 1 + 1, 2, none⟩), .int .i64 a1, .int .i64 b1, .int .i64 c1, .int .i64 d1, .pointer (some ⟨w.heap.size + 1 + 1 + 1, 4, none⟩), .int .i64 a2, .int .i64 b2, .int .i64 c2, .int .i64 d2])] wr) := HM.out
   clear HM H0 H1 H2
   obtain ⟨c0, c1, c2, c3, c4, c5⟩ := six_of (HM2.out.at_ 1 rfl)
   go_wp2_with fail
   refine (HR.out _).mono ?_
   rintro e W1 ⟨rfl, hb⟩
   have HM3 := Lib.hid (HM2.out.step hb)
   clear hb HM2
   obtain ⟨r0, r1, r2, r3, r4, r5, q, hrr⟩ : ∃ s0 s1 s2 s3 s4 s5 q, ivR p0 q0 p1 q1 p2 q2 = .tuple #[szv s0 s1 s2 s3 s4 s5, .int .i64 q] := by
    unfold ivR; split
    ·exact ⟨_, _, _, _, _, _, _, rfl⟩
    ·exact ⟨_, _, _, _, _, _, _, rfl⟩
   have HRR := Lib.hid hrr
   rw [hrr]
   clear hrr
   obtain ⟨e0, e1, e2, e3, e4, e5⟩ := six_of (HM3.out.at_ 0 rfl)
   obtain ⟨f0, f1, f2, f3, f4, f5⟩ := six_free (HM3.out.at_ 0 rfl)
   go_wp2
   obtain ⟨WZ, hWZ⟩ : ∃ WZ, WZ = (((((W1.setCell ⟨w.heap.size + 1 + 1, 0, none⟩ (.int .i64 r0)).setCell ⟨w.heap.size + 1 + 1, 1, none⟩ (.int .i64 r1)).setCell ⟨w.heap.size + 1 + 1, 2, none⟩ (.int .i64 r2)).setCell ⟨w.heap.size + 1 + 1, 3, none⟩ (.int .i64 r3)).setCell ⟨w.heap.size + 1 + 1, 4, none⟩ (.int .i64 r4)).setCell ⟨w.heap.size + 1 + 1, 5, none⟩ (.int .i64 r5) := ⟨_, rfl⟩
   have hz := HM3.out.put6 0 rfl (.int .i64 r0) (.int .i64 r1) (.int .i64 r2) (.int .i64 r3) (.int .i64 r4) (.int .i64 r5)
   rw [← hWZ] at hz ⊢
   obtain ⟨g0, g1, g2, g3, g4, g5⟩ := six_of (hz.at_ 0 rfl)
   exact bodyPost_ret (v := .tuple #[szv r0 r1 r2 r3 r4 r5, .int .i64 q]) (by simp [g0, g1, g2, g3, g4, g5, results, Tryz.results125, go_sem]) rfl ⟨by rw [HRR.out], hz.below⟩
theorem ieachAdd_any (a0 b0 a1 b1 a2 b2 c0 d0 c1 d1 c2 d2 p0 q0 p1 q1 p2 q2 : Int) (w : World)
  (h0 : EaFn 150 a0 b0 c0 d0 p0 q0) (h1 : EaFn 150 a1 b1 c1 d1 p1 q1) (h2 : EaFn 150 a2 b2 c2 d2 p2 q2) (i0 : I64 p0) (i1 : I64 q0) (i2 : I64 p1) (i3 : I64 q1) (i4 : I64 p2) (i5 : I64 q2) :
  Calls Tryz.prog 125 #[szv a0 b0 a1 b1 a2 b2, szv c0 d0 c1 d1 c2 d2, (.func (.func 150) #[] #[])] w fun e w' => e = .returned (ivR p0 q0 p1 q1 p2 q2) ∧ Below w.heap.size w w' :=
 ieach_any 150 (fun args w => by kernel_rfl) a0 b0 a1 b1 a2 b2 c0 d0 c1 d1 c2 d2 p0 q0 p1 q1 p2 q2 w h0 h1 h2 i0 i1 i2 i3 i4 i5
theorem ieachSub_any (a0 b0 a1 b1 a2 b2 c0 d0 c1 d1 c2 d2 p0 q0 p1 q1 p2 q2 : Int) (w : World)
  (h0 : EaFn 99 a0 b0 c0 d0 p0 q0) (h1 : EaFn 99 a1 b1 c1 d1 p1 q1) (h2 : EaFn 99 a2 b2 c2 d2 p2 q2) (i0 : I64 p0) (i1 : I64 q0) (i2 : I64 p1) (i3 : I64 q1) (i4 : I64 p2) (i5 : I64 q2) :
  Calls Tryz.prog 125 #[szv a0 b0 a1 b1 a2 b2, szv c0 d0 c1 d1 c2 d2, (.func (.func 99) #[] #[])] w fun e w' => e = .returned (ivR p0 q0 p1 q1 p2 q2) ∧ Below w.heap.size w w' :=
 ieach_any 99 (fun args w => by kernel_rfl) a0 b0 a1 b1 a2 b2 c0 d0 c1 d1 c2 d2 p0 q0 p1 q1 p2 q2 w h0 h1 h2 i0 i1 i2 i3 i4 i5
theorem ieachMul_any (a0 b0 a1 b1 a2 b2 c0 d0 c1 d1 c2 d2 p0 q0 p1 q1 p2 q2 : Int) (w : World)
  (h0 : EaFn 98 a0 b0 c0 d0 p0 q0) (h1 : EaFn 98 a1 b1 c1 d1 p1 q1) (h2 : EaFn 98 a2 b2 c2 d2 p2 q2) (i0 : I64 p0) (i1 : I64 q0) (i2 : I64 p1) (i3 : I64 q1) (i4 : I64 p2) (i5 : I64 q2) :
  Calls Tryz.prog 125 #[szv a0 b0 a1 b1 a2 b2, szv c0 d0 c1 d1 c2 d2, (.func (.func 98) #[] #[])] w fun e w' => e = .returned (ivR p0 q0 p1 q1 p2 q2) ∧ Below w.heap.size w w' :=
 ieach_any 98 (fun args w => by kernel_rfl) a0 b0 a1 b1 a2 b2 c0 d0 c1 d1 c2 d2 p0 q0 p1 q1 p2 q2 w h0 h1 h2 i0 i1 i2 i3 i4 i5
set_option maxRecDepth 100000 in
set_option maxHeartbeats 1000000 in
theorem tgcd_any (a b : Int) (w : World) (ha : 0 ≤ a) (ha' : a ≤ 4611686018427387904) (hb : 0 ≤ b) (hb' : b ≤ 4611686018427387904) :
  Calls Tryz.prog 42 #[.int .i64 a, .int .i64 b] w fun e w' => e = .returned (.int .i64 (Nat.gcd a.natAbs b.natAbs : Int)) ∧ ∃ k, w' = w.drewN k := by
 go_enter Tryz.func42, Tryz.ntmps42
 go_wp2
 go_loopw [0, 1] (fun u v wr => ∃ (x y : Int) (k : Nat), 0 ≤ x ∧ x ≤ 4611686018427387904 ∧ 0 ≤ y ∧ y ≤ 4611686018427387904 ∧ u = .int .i64 x ∧ v = .int .i64 y ∧ Nat.gcd x.natAbs y.natAbs = Nat.gcd a.natAbs b.natAbs ∧ wr = w.drewN k) (fun _ v _ => (intOf v).natAbs)
 case atStart => exact ⟨a, b, 0, ha, ha', hb, hb', rfl, rfl, rfl, rfl⟩
 case round =>
  obtain ⟨x, y, k, hx0, hx1, hy0, hy1, rfl, rfl, hg, rfl⟩ := hrel
  have HG := Lib.hid hg
  clear hg
  by_cases h0 : y = 0
  ·subst h0
   have hG := HG.out
   rw [Int.natAbs_zero, Nat.gcd_zero_right] at hG
   have HM := Lib.hid (show x = (Nat.gcd a.natAbs b.natAbs : Int) by rw [← hG]; omega)
   clear hG
   go_wp2
   go_ret
   exact ⟨ret_int (by rw [← HM.out]), k, rfl⟩
  ·have hyz : (y == 0) = false := by simpa using h0
   have hyz2 : (y != 0) = true := by simpa using h0
   obtain ⟨r, hr⟩ : ∃ r, r = x % y := ⟨_, rfl⟩
   have hrn : r.natAbs = x.natAbs % y.natAbs := by rw [hr, ← Int.tmod_eq_emod_of_nonneg hx0, Int.natAbs_tmod]
   have hrl : r.natAbs < y.natAbs := by rw [hrn]; exact Nat.mod_lt _ (by omega)
   have hr0 : 0 ≤ r := by rw [hr]; exact Int.emod_nonneg x h0
   have HN := Lib.hid hrn
   have HL := Lib.hid hrl
   have HR := Lib.hid hr
   have HR0 := Lib.hid hr0
   clear hr hrn hrl hr0
   go_wp2
   go_quiet (fail)
   go_wp2
   rw [← HR.out]
   go_roundw
   case rel => exact ⟨y, r, k + nq, hy0, hy1, HR0.out, by have := HL.out; omega, rfl, rfl, by rw [← HG.out, HN.out, Nat.gcd_comm y.natAbs, ← Nat.gcd_rec, Nat.gcd_comm], by rw [World.drewN_drewN]⟩
   case measure => simp only [intOf]; exact HL.out
def scn (g : Nat → Int) (i : Nat) : Nat → Int
 | 0 => 0
 | n + 1 => if g i ≠ 0 then g i else scn g (i + 1) n
theorem scn_hit {g : Nat → Int} : ∀ {n i k : Nat}, (∀ j, i ≤ j → j < i + k → g j = 0) → k < n → g (i + k) ≠ 0 → scn g i n = g (i + k)
 | 0, _, _, _, h, _ => absurd h (by omega)
 | n + 1, i, 0, _, _, hg => by unfold scn; rw [Nat.add_zero] at hg; rw [if_pos hg, Nat.add_zero]
 | n + 1, i, k + 1, h, hk, hg => by
  unfold scn
  rw [if_neg (fun e => e (h i (Nat.le_refl _) (by omega)))]
  have := scn_hit (g := g) (n := n) (i := i + 1) (k := k) (fun j h1 h2 => h j (by omega) (by omega)) (by omega) (by rw [show i + 1 + k = i + (k + 1) by omega]; exact hg)
  rw [this, show i + 1 + k = i + (k + 1) by omega]
theorem scn_zero {g : Nat → Int} : ∀ {n i : Nat}, (∀ j, i ≤ j → j < i + n → g j = 0) → scn g i n = 0
 | 0, _, _ => rfl
 | n + 1, i, h => by
  unfold scn
  rw [if_neg (fun e => e (h i (Nat.le_refl _) (by omega)))]
  exact scn_zero (fun j h1 h2 => h j (by omega) (by omega))
abbrev rgP (n d : Int) : Prop := -12 * d ≤ n ∧ n ≤ 12 * d
def tmE (x : Tm) : Int := if ¬ (Right x.1 x.2.1 ∧ Right x.2.2.1 x.2.2.2) then 2 else if ¬ (rgP x.1 x.2.1 ∧ rgP x.2.2.1 x.2.2.2) then 3 else 0
theorem tmE_num {x : Tm} (h : ¬ (Right x.1 x.2.1 ∧ Right x.2.2.1 x.2.2.2)) : tmE x = 2 := if_pos h
theorem tmE_rg {x : Tm} (h : Right x.1 x.2.1 ∧ Right x.2.2.1 x.2.2.2) (h2 : ¬ (rgP x.1 x.2.1 ∧ rgP x.2.2.1 x.2.2.2)) : tmE x = 3 := by unfold tmE; rw [if_neg (fun e => e h), if_pos h2]
theorem tmE_ok {x : Tm} (h : Right x.1 x.2.1 ∧ Right x.2.2.1 x.2.2.2) (h2 : rgP x.1 x.2.1 ∧ rgP x.2.2.1 x.2.2.2) : tmE x = 0 := by unfold tmE; rw [if_neg (fun e => e h), if_neg (fun e => e h2)]
def frsL (C : Nat → Tm) (i : Nat) : List (Int × Int) := (List.range i).flatMap fun j => [((C j).1, (C j).2.1), ((C j).2.2.1, (C j).2.2.2)]
theorem frsL_succ (C : Nat → Tm) (i : Nat) : frsL C (i + 1) = (frsL C i ++ [((C i).1, (C i).2.1)]) ++ [((C i).2.2.1, (C i).2.2.2)] := by
 unfold frsL
 rw [List.range_succ, List.flatMap_append, List.append_assoc]
 rfl
theorem prD_append : ∀ (S T : List (Int × Int)) (x : Int), prD (S ++ T) x = (prD S x).bind fun D => prD T D
 | [], _, _ => rfl
 | (n, d) :: S, T, x => by
  rw [List.cons_append, show prD ((n, d) :: (S ++ T)) x = if 240 < d then none else if 240 < lcmA x d then none else prD (S ++ T) (lcmA x d) from rfl, show prD ((n, d) :: S) x = if 240 < d then none else if 240 < lcmA x d then none else prD S (lcmA x d) from rfl]
  split
  ·rfl
  ·split
   ·rfl
   ·exact prD_append S T _
def DenS (S : List (Int × Int)) (c : Int) (L : Bool) : Prop := (1 ≤ c ∧ c ≤ 1000000) ∧ ((L = false ∧ prD S 1 = some c ∧ c ≤ 240) ∨ (L = true ∧ prD S 1 = none))
theorem DenS.nil : DenS [] 1 false := ⟨by decide, .inl ⟨rfl, rfl, by decide⟩⟩
theorem DenS.stay {S : List (Int × Int)} {c : Int} (h : DenS S c true) (q : Int × Int) : DenS (S ++ [q]) c true := by
 refine ⟨h.1, .inr ⟨rfl, ?_⟩⟩
 rcases h.2 with ⟨e, _⟩ | ⟨_, e⟩
 ·cases e
 ·rw [prD_append, e]; rfl
theorem DenS.far {S : List (Int × Int)} {c : Int} (h : DenS S c false) {n d : Int} (hd : 240 < d) : DenS (S ++ [(n, d)]) c true := by
 refine ⟨h.1, .inr ⟨rfl, ?_⟩⟩
 rcases h.2 with ⟨_, e, _⟩ | ⟨e, _⟩
 ·rw [prD_append, e]
  show prD [(n, d)] c = none
  unfold prD; rw [if_pos hd]
 ·cases e
theorem DenS.next {S : List (Int × Int)} {c : Int} (h : DenS S c false) {n d : Int} (hd : 1 ≤ d ∧ d ≤ 240) : (1 ≤ lcmA c d ∧ lcmA c d ≤ 1000000) ∧ c ≤ 240 ∧ DenS (S ++ [(n, d)]) (lcmA c d) (decide (240 < lcmA c d)) := by
 rcases h.2 with ⟨_, e, hc⟩ | ⟨e, _⟩
 ·have hb := lcmA_bd ⟨h.1.1, hc⟩ hd
  have hl : 1 ≤ lcmA c d ∧ lcmA c d ≤ 1000000 := by
   have := hb.2.2
   omega
  refine ⟨hl, hc, hl, ?_⟩
  by_cases q : 240 < lcmA c d
  ·right
   refine ⟨decide_eq_true q, ?_⟩
   rw [prD_append, e]
   show prD [(n, d)] c = none
   unfold prD; rw [if_neg (by omega), if_pos q]
  ·left
   refine ⟨decide_eq_false q, ?_, by omega⟩
   rw [prD_append, e]
   show prD [(n, d)] c = some _
   unfold prD; rw [if_neg (by omega), if_neg q]; rfl
 ·cases e
def ckE (C : Nat → Tm) : Int := if scn (fun i => tmE (C i)) 0 12 ≠ 0 then scn (fun i => tmE (C i)) 0 12 else if prD (frsL C 12) 1 = none then 4 else 0
theorem ckE_at {C : Nat → Tm} {k : Nat} (h : ∀ j, j < k → tmE (C j) = 0) (hk : k < 12) (hg : tmE (C k) ≠ 0) : ckE C = tmE (C k) := by
 have := scn_hit (g := fun i => tmE (C i)) (n := 12) (i := 0) (k := k) (fun j _ h2 => h j (by omega)) hk (by rw [Nat.zero_add]; exact hg)
 rw [Nat.zero_add] at this
 unfold ckE
 rw [this, if_pos hg]
theorem ckE_end {C : Nat → Tm} (h : ∀ j, j < 12 → tmE (C j) = 0) : ckE C = if prD (frsL C 12) 1 = none then 4 else 0 := by
 unfold ckE
 rw [scn_zero (fun j _ h2 => h j (by omega)), if_neg (fun e => e rfl)]
end Go.Proofs.YtendjepcjmfmfaaGreatDoor
