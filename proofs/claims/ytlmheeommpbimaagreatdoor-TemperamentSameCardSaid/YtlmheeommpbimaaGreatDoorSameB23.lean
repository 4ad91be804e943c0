/- Part 23 of 44 of the proof of the law: contracts of the functions that it reaches, and plain facts. Conditions: those that each contract names. -/
import Derived.Test.YtlmheeommpbimaaGreatDoorSameB06
import Derived.Test.YtlmheeommpbimaaGreatDoorSameB19
namespace Go.Proofs.YtlmheeommpbimaaGreatDoor
open Go.RowKit
def EaRel (w : World) (TT : TypeId) (a0 b0 a1 b1 a2 b2 c0 d0 c1 d1 c2 d2 p0 q0 p1 q1 p2 q2 : Int) (i : Value) (W : World) : Prop :=
 ∃ k : Nat, k ≤ 3 ∧ i = .int .i64 (k : Int) ∧ Hp w [(w.heap.size + 1 + 1, 36, [.int .i64 0, .int .i64 0, .int .i64 0, .int .i64 0, .int .i64 0, .int .i64 0]), (w.heap.size + 1 + 1 + 1, 36, [.int .i64 (if 0 < k then p0 else 0), .int .i64 (if 0 < k then q0 else 0), .int .i64 (if 1 < k then p1 else 0), .int .i64 (if 1 < k then q1 else 0), .int .i64 (if 2 < k then p2 else 0), .int .i64 (if 2 < k then q2 else 0)]), (w.heap.size + 1 + 1 + 1 + 1, TT, [.pointer (some ⟨w.heap.size + 1 + 1 + 1, 0, none⟩), .int .i64 a0, .int .i64 b0, .int .i64 c0, .int .i64 d0, .pointer (some ⟨w.heap.size + 1 + 1 + 1, 2, none⟩), .int .i64 a1, .int .i64 b1, .int .i64 c1, .int .i64 d1, .pointer (some ⟨w.heap.size + 1 + 1 + 1, 4, none⟩), .int .i64 a2, .int .i64 b2, .int .i64 c2, .int .i64 d2])] W
def EaFn (F : FuncId) (a b c d p q : Int) : Prop :=
 (Right p q ∧ ∀ W, Calls Tryz.prog F #[.agg #[.int .i64 a, .int .i64 b], .agg #[.int .i64 c, .int .i64 d]] W fun e W' => e = .returned (.tuple #[.agg #[.int .i64 p, .int .i64 q], .int .i64 0]) ∧ Below W.heap.size W W') ∨
 (¬ Right p q ∧ ∀ W, Calls Tryz.prog F #[.agg #[.int .i64 a, .int .i64 b], .agg #[.int .i64 c, .int .i64 d]] W fun e W' => e = .returned (.tuple #[.agg #[.int .i64 0, .int .i64 0], .int .i64 4]) ∧ Below W.heap.size W W')
theorem five_of {W : World} {g : Nat} {t : TypeId} {a b c d e : Value} (h : Blk W g t [a, b, c, d, e]) : W.cell? ⟨g, 0, none⟩ = some a ∧ W.cell? ⟨g, 1, none⟩ = some b ∧ W.cell? ⟨g, 2, none⟩ = some c ∧ W.cell? ⟨g, 3, none⟩ = some d ∧ W.cell? ⟨g, 4, none⟩ = some e := ⟨h.cell 0, h.cell 1, h.cell 2, h.cell 3, h.cell 4⟩
set_option maxRecDepth 100000 in
set_option maxHeartbeats 8000000 in
theorem ieach_any (F : FuncId) (hFn : ∀ args w, Sem.run Tryz.prog (callFunc F args) w = .ok (.enter F args) w) (a0 b0 a1 b1 a2 b2 c0 d0 c1 d1 c2 d2 p0 q0 p1 q1 p2 q2 : Int) (w : World)
  (h0 : EaFn F a0 b0 c0 d0 p0 q0) (h1 : EaFn F a1 b1 c1 d1 p1 q1) (h2 : EaFn F a2 b2 c2 d2 p2 q2) (i0 : I64 p0) (i1 : I64 q0) (i2 : I64 p1) (i3 : I64 q1) (i4 : I64 p2) (i5 : I64 q2) :
  Calls Tryz.prog 65 #[szv a0 b0 a1 b1 a2 b2, szv c0 d0 c1 d1 c2 d2, (.func (.func F) #[] #[])] w fun e w' => e = .returned (ivR p0 q0 p1 q1 p2 q2) ∧ Below w.heap.size w w' := by
 obtain ⟨TT, hTT⟩ : ∃ TT, TT = 129 := ⟨_, rfl⟩
 have hM0 : Hp w [(w.heap.size + 1 + 1, 36, [.int .i64 0, .int .i64 0, .int .i64 0, .int .i64 0, .int .i64 0, .int .i64 0]), (w.heap.size + 1 + 1 + 1, 36, [.int .i64 0, .int .i64 0, .int .i64 0, .int .i64 0, .int .i64 0, .int .i64 0]), (w.heap.size + 1 + 1 + 1 + 1, TT, [.pointer (some ⟨w.heap.size + 1 + 1 + 1, 0, none⟩), .int .i64 a0, .int .i64 b0, .int .i64 c0, .int .i64 d0, .pointer (some ⟨w.heap.size + 1 + 1 + 1, 2, none⟩), .int .i64 a1, .int .i64 b1, .int .i64 c1, .int .i64 d1, .pointer (some ⟨w.heap.size + 1 + 1 + 1, 4, none⟩), .int .i64 a2, .int .i64 b2, .int .i64 c2, .int .i64 d2])] (((((w.alloc (.cells #[.int .i64 a0, .int .i64 b0, .int .i64 a1, .int .i64 b1, .int .i64 a2, .int .i64 b2] 36)).alloc (.cells #[.int .i64 c0, .int .i64 d0, .int .i64 c1, .int .i64 d1, .int .i64 c2, .int .i64 d2] 36)).alloc (.cells #[.int .i64 0, .int .i64 0, .int .i64 0, .int .i64 0, .int .i64 0, .int .i64 0] 36)).alloc (.cells #[.int .i64 0, .int .i64 0, .int .i64 0, .int .i64 0, .int .i64 0, .int .i64 0] 36)).alloc (.cells #[.pointer (some ⟨w.heap.size + 1 + 1 + 1, 0, none⟩), .int .i64 a0, .int .i64 b0, .int .i64 c0, .int .i64 d0, .pointer (some ⟨w.heap.size + 1 + 1 + 1, 2, none⟩), .int .i64 a1, .int .i64 b1, .int .i64 c1, .int .i64 d1, .pointer (some ⟨w.heap.size + 1 + 1 + 1, 4, none⟩), .int .i64 a2, .int .i64 b2, .int .i64 c2, .int .i64 d2] TT)) := by
  have h := (((((Hp.start w).new 36 [.int .i64 a0, .int .i64 b0, .int .i64 a1, .int .i64 b1, .int .i64 a2, .int .i64 b2]).new 36 [.int .i64 c0, .int .i64 d0, .int .i64 c1, .int .i64 d1, .int .i64 c2, .int .i64 d2]).new 36 [.int .i64 0, .int .i64 0, .int .i64 0, .int .i64 0, .int .i64 0, .int .i64 0]).new 36 [.int .i64 0, .int .i64 0, .int .i64 0, .int .i64 0, .int .i64 0, .int .i64 0]).new TT [.pointer (some ⟨w.heap.size + 1 + 1 + 1, 0, none⟩), .int .i64 a0, .int .i64 b0, .int .i64 c0, .int .i64 d0, .pointer (some ⟨w.heap.size + 1 + 1 + 1, 2, none⟩), .int .i64 a1, .int .i64 b1, .int .i64 c1, .int .i64 d1, .pointer (some ⟨w.heap.size + 1 + 1 + 1, 4, none⟩), .int .i64 a2, .int .i64 b2, .int .i64 c2, .int .i64 d2]
  simp only [World.size_alloc] at h
  exact h.sub (by simp)
 have HM0 := Lib.hid hM0
 have HR := Lib.hid (fun W => iresult_any p0 q0 p1 q1 p2 q2 W i0 i1 i2 i3 i4 i5)
 have H0 := Lib.hid h0
 have H1 := Lib.hid h1
 have H2 := Lib.hid h2
 rw [hTT] at HM0
 clear hM0 h0 h1 h2 i0 i1 i2 i3 i4 i5 hTT
 go_enter Tryz.func65, Tryz.ntmps65
 go_wp2_with fail
 go_loopw [32] (fun i wr => EaRel w 129 a0 b0 a1 b1 a2 b2 c0 d0 c1 d1 c2 d2 p0 q0 p1 q1 p2 q2 i wr) (fun i _ => 3 - (intOf i).toNat)
 case atStart => exact ⟨0, by omega, rfl, HM0.out⟩
 case round =>
  clear HM0
  obtain ⟨k, hk, rfl, hm⟩ := hrel
  have HM := Lib.hid hm
  clear hm
  by_cases hlt : k < 3
  ·rcases (show k = 0 ∨ k = 1 ∨ k = 2 by omega) with rfl | rfl | rfl
   ·have HM2 : Hid (Hp w [(w.heap.size + 1 + 1, 36, [.int .i64 0, .int .i64 0, .int .i64 0, .int .i64 0, .int .i64 0, .int .i64 0]), (w.heap.size + 1 + 1 + 1, 36, [.int .i64 0, .int .i64 0, .int .i64 0, .int .i64 0, .int .i64 0, .int .i64 0]), (w.heap.size + 1 + 1 + 1 + 1, 129, [.pointer (some ⟨w.heap.size + 1 + 1 + 1, 0, none⟩), .int .i64 a0, .int .i64 b0, .int .i64 c0, .int .i64 d0, .pointer (some ⟨w.heap.size + 1 + 1 + 1, 2, none⟩), .int .i64 a1, .int .i64 b1, .int .i64 c1, .int .i64 d1, .pointer (some ⟨w.heap.size + 1 + 1 + 1, 4, none⟩), .int .i64 a2, .int .i64 b2, .int .i64 c2, .int .i64 d2])] wr) := HM.out
    clear HM
    have hb15 := HM2.out.at_ 2 rfl
    have k0 := hb15.cell 0
    have k1 := hb15.cell 1
    have k2 := hb15.cell 2
    have k3 := hb15.cell 3
    have k4 := hb15.cell 4
    have hlt2 : w.heap.size + 1 + 1 + 1 + 1 < wr.heap.size := hb15.lt
    clear hb15
    go_wp2_with fail
    obtain ⟨W5, hW5⟩ : ∃ W5, W5 = wr.alloc (.cells #[.pointer (some ⟨w.heap.size + 1 + 1 + 1, 0, none⟩), .int .i64 a0, .int .i64 b0, .int .i64 c0, .int .i64 d0] 129) := ⟨_, rfl⟩
    have hm5 := HM2.out.new 129 [.pointer (some ⟨w.heap.size + 1 + 1 + 1, 0, none⟩), .int .i64 a0, .int .i64 b0, .int .i64 c0, .int .i64 d0]
    rw [← hW5] at hm5
    rw [← hW5]
    clear hW5 k0 k1 k2 k3 k4
    obtain ⟨g10, hg10⟩ : ∃ g, g = wr.heap.size := ⟨_, rfl⟩
    rw [← hg10] at hm5 hlt2 ⊢
    clear hg10
    have HM5 : Hid (Hp w [(w.heap.size + 1 + 1, 36, [.int .i64 0, .int .i64 0, .int .i64 0, .int .i64 0, .int .i64 0, .int .i64 0]), (w.heap.size + 1 + 1 + 1, 36, [.int .i64 0, .int .i64 0, .int .i64 0, .int .i64 0, .int .i64 0, .int .i64 0]), (w.heap.size + 1 + 1 + 1 + 1, 129, [.pointer (some ⟨w.heap.size + 1 + 1 + 1, 0, none⟩), .int .i64 a0, .int .i64 b0, .int .i64 c0, .int .i64 d0, .pointer (some ⟨w.heap.size + 1 + 1 + 1, 2, none⟩), .int .i64 a1, .int .i64 b1, .int .i64 c1, .int .i64 d1, .pointer (some ⟨w.heap.size + 1 + 1 + 1, 4, none⟩), .int .i64 a2, .int .i64 b2, .int .i64 c2, .int .i64 d2]), (g10, 129, [.pointer (some ⟨w.heap.size + 1 + 1 + 1, 0, none⟩), .int .i64 a0, .int .i64 b0, .int .i64 c0, .int .i64 d0])] W5) := Lib.hid hm5
    clear hm5 HM2
    have HD : Hid (Hp w [(w.heap.size + 1 + 1, 36, [.int .i64 0, .int .i64 0, .int .i64 0, .int .i64 0, .int .i64 0, .int .i64 0]), (w.heap.size + 1 + 1 + 1, 36, [.int .i64 0, .int .i64 0, .int .i64 0, .int .i64 0, .int .i64 0, .int .i64 0]), (w.heap.size + 1 + 1 + 1 + 1, 129, [.pointer (some ⟨w.heap.size + 1 + 1 + 1, 0, none⟩), .int .i64 a0, .int .i64 b0, .int .i64 c0, .int .i64 d0, .pointer (some ⟨w.heap.size + 1 + 1 + 1, 2, none⟩), .int .i64 a1, .int .i64 b1, .int .i64 c1, .int .i64 d1, .pointer (some ⟨w.heap.size + 1 + 1 + 1, 4, none⟩), .int .i64 a2, .int .i64 b2, .int .i64 c2, .int .i64 d2]), (g10, 129, [.pointer (some ⟨w.heap.size + 1 + 1 + 1, 0, none⟩), .int .i64 a0, .int .i64 b0, .int .i64 c0, .int .i64 d0])] W5.drew) := Lib.hid HM5.out.drew
    have hB := HD.out.at_ 3 rfl
    have hS : W5.drew.cell? ⟨g10, 0, none⟩ = some (.pointer (some ⟨w.heap.size + 1 + 1 + 1, 0, none⟩)) ∧ W5.drew.cell? ⟨g10, 1, none⟩ = some (.int .i64 a0) ∧ W5.drew.cell? ⟨g10, 2, none⟩ = some (.int .i64 b0) ∧ W5.drew.cell? ⟨g10, 3, none⟩ = some (.int .i64 c0) ∧ W5.drew.cell? ⟨g10, 4, none⟩ = some (.int .i64 d0) := five_of hB
    clear hB
    refine wp_regionE' 14 (fun w' => w'.cell? ⟨g10, 0, none⟩ = some (.pointer (some ⟨w.heap.size + 1 + 1 + 1, 0, none⟩)) ∧ w'.cell? ⟨g10, 1, none⟩ = some (.int .i64 a0) ∧ w'.cell? ⟨g10, 2, none⟩ = some (.int .i64 b0) ∧ w'.cell? ⟨g10, 3, none⟩ = some (.int .i64 c0) ∧ w'.cell? ⟨g10, 4, none⟩ = some (.int .i64 d0)) 14 #[false, false, false, false, false, false, false, false, false, false, false, false, false, false] (by kernel_rfl) (by kernel_rfl) (by kernel_rfl) ?_
    refine wpAnyE_tk (i := 0) (v := ?_) #[true, false, false, false, false, false, false, false, false, false, false, false, false, false] (some 37) rfl rfl (by kernel_rfl) (by kernel_rfl) (by kernel_rfl) (by kernel_rfl) (by kernel_rfl) (fun _ _ _ h => h) (Or.inl ⟨by rfl, ?_⟩) hS ?_
    rotate_left
    ·(intro w hSw; (try dsimp only at hSw); go_simp; all_goals with_reducible rfl)
    simp only [Act.put]
    refine wpAnyE_tk (i := 1) (v := ?_) #[true, true, false, false, false, false, false, false, false, false, false, false, false, false] (some 38) rfl rfl (by kernel_rfl) (by kernel_rfl) (by kernel_rfl) (by kernel_rfl) (by kernel_rfl) (fun _ _ _ h => h) (Or.inl ⟨by rfl, ?_⟩) hS ?_
    rotate_left
    ·(intro w hSw; (try dsimp only at hSw); go_simp; all_goals with_reducible rfl)
    simp only [Act.put]
    refine wpAnyE_tk (i := 2) (v := ?_) #[true, true, true, false, false, false, false, false, false, false, false, false, false, false] (some 39) rfl rfl (by kernel_rfl) (by kernel_rfl) (by kernel_rfl) (by kernel_rfl) (by kernel_rfl) (fun _ _ _ h => h) (Or.inl ⟨by rfl, ?_⟩) hS ?_
    rotate_left
    ·(intro w hSw; (try dsimp only at hSw); go_simp; all_goals with_reducible rfl)
    simp only [Act.put]
    refine wpAnyE_tk (i := 3) (v := ?_) #[true, true, true, true, false, false, false, false, false, false, false, false, false, false] (some 40) rfl rfl (by kernel_rfl) (by kernel_rfl) (by kernel_rfl) (by kernel_rfl) (by kernel_rfl) (fun _ _ _ h => h) (Or.inl ⟨by rfl, ?_⟩) hS ?_
    rotate_left
    ·(intro w hSw; (try dsimp only at hSw); go_simp; all_goals with_reducible rfl)
    simp only [Act.put]
    refine wpAnyE_tk (i := 4) (v := ?_) #[true, true, true, true, true, false, false, false, false, false, false, false, false, false] (some 41) rfl rfl (by kernel_rfl) (by kernel_rfl) (by kernel_rfl) (by kernel_rfl) (by kernel_rfl) (fun _ _ _ h => h) (Or.inl ⟨by rfl, ?_⟩) hS ?_
    rotate_left
    ·(intro w hSw; (try dsimp only at hSw); go_simp; all_goals with_reducible rfl)
    simp only [Act.put]
    refine wpAnyE_tk (i := 5) (v := ?_) #[true, true, true, true, true, true, false, false, false, false, false, false, false, false] (some 42) rfl rfl (by kernel_rfl) (by kernel_rfl) (by kernel_rfl) (by kernel_rfl) (by kernel_rfl) (fun _ _ _ h => h) (Or.inl ⟨by rfl, ?_⟩) hS ?_
    rotate_left
    ·(intro w hSw; (try dsimp only at hSw); go_simp; all_goals with_reducible rfl)
    simp only [Act.put]
    refine wpAnyE_tk (i := 6) (v := ?_) #[true, true, true, true, true, true, true, false, false, false, false, false, false, false] (some 43) rfl rfl (by kernel_rfl) (by kernel_rfl) (by kernel_rfl) (by kernel_rfl) (by kernel_rfl) (fun _ _ _ h => h) (Or.inl ⟨by rfl, ?_⟩) hS ?_
    rotate_left
    ·(intro w hSw; (try dsimp only at hSw); go_simp; all_goals with_reducible rfl)
    simp only [Act.put]
    clear hS
    obtain ⟨WD, hWD⟩ : ∃ X, X = W5.drew := ⟨_, rfl⟩
    rw [← hWD] at HD ⊢
    clear hWD HM5
    rcases H0.out with ⟨hR, hF⟩ | ⟨hR, hF⟩
    ·have HF := Lib.hid hF
     clear hF
     refine wpAnyE_ready (rs := [7]) (by kernel_rfl) (by simp) ?_
     refine AllE.cons' (o := _) #[true, true, true, true, true, true, true, true, false, false, false, false, false, false] rfl (by kernel_rfl) (fun K hK => ?_) AllE.nil
     go_simp
     refine (HF.out _).mono ?_
     rintro e W1 ⟨rfl, hb⟩
     dsimp only
     have H6 := Lib.hid (HD.out.step hb)
     refine hK.out _ _ (fun _ => five_of (H6.out.at_ 3 rfl)) ?_
     clear hK K hb
     try simp only [Act.put]
     have hS : W1.cell? ⟨g10, 0, none⟩ = some (.pointer (some ⟨w.heap.size + 1 + 1 + 1, 0, none⟩)) ∧ W1.cell? ⟨g10, 1, none⟩ = some (.int .i64 a0) ∧ W1.cell? ⟨g10, 2, none⟩ = some (.int .i64 b0) ∧ W1.cell? ⟨g10, 3, none⟩ = some (.int .i64 c0) ∧ W1.cell? ⟨g10, 4, none⟩ = some (.int .i64 d0) := five_of (H6.out.at_ 3 rfl)
     refine wpAnyE_tk (i := 8) (v := ?_) #[true, true, true, true, true, true, true, true, true, false, false, false, false, false] (some 36) rfl rfl (by kernel_rfl) (by kernel_rfl) (by kernel_rfl) (by kernel_rfl) (by kernel_rfl) (fun _ _ _ h => h) (Or.inl ⟨by rfl, ?_⟩) hS ?_
     rotate_left
     ·(intro w hSw; (try dsimp only at hSw); go_simp; all_goals with_reducible rfl)
     simp only [Act.put]
     refine wpAnyE_tk (i := 9) (v := ?_) #[true, true, true, true, true, true, true, true, true, true, false, false, false, false] (some 45) rfl rfl (by kernel_rfl) (by kernel_rfl) (by kernel_rfl) (by kernel_rfl) (by kernel_rfl) (fun _ _ _ h => h) (Or.inl ⟨by rfl, ?_⟩) hS ?_
     rotate_left
     ·(intro w hSw; (try dsimp only at hSw); go_simp; all_goals with_reducible rfl)
     simp only [Act.put]
     refine wpAnyE_tk (i := 10) (v := ?_) #[true, true, true, true, true, true, true, true, true, true, true, false, false, false] (some 46) rfl rfl (by kernel_rfl) (by kernel_rfl) (by kernel_rfl) (by kernel_rfl) (by kernel_rfl) (fun _ _ _ h => h) (Or.inl ⟨by rfl, ?_⟩) hS ?_
     rotate_left
     ·(intro w hSw; (try dsimp only at hSw); go_simp; all_goals with_reducible rfl)
     simp only [Act.put]
     have e0 := (H6.out.at_ 1 rfl).cell 0
     have e1 := (H6.out.at_ 1 rfl).cell 1
     have f0 := (H6.out.at_ 1 rfl).frozen 0
     have f1 := (H6.out.at_ 1 rfl).frozen 1
     refine wpAnyE_tk (i := 11) (v := ?_) #[true, true, true, true, true, true, true, true, true, true, true, true, false, false] (some 47) rfl rfl (by kernel_rfl) (by kernel_rfl) (by kernel_rfl) (by kernel_rfl) (by kernel_rfl) (fun _ _ _ h => h) (Or.inl ⟨by rfl, ?_⟩) hS ?_
     rotate_left
     ·(intro w hSw; (try dsimp only at hSw); go_simp; all_goals with_reducible rfl)
     simp only [Act.put]
     clear hS
     refine wpAnyE_ready (rs := [12]) (by kernel_rfl) (by simp) ?_
     refine AllE.cons' (o := _) #[true, true, true, true, true, true, true, true, true, true, true, true, true, false] rfl (by kernel_rfl) (fun K hK => ?_) AllE.nil
     go_simp
     obtain ⟨X2, hX⟩ : ∃ X, X = (W1.setCell ⟨w.heap.size + 1 + 1 + 1, 0, none⟩ (.int .i64 p0)).setCell ⟨w.heap.size + 1 + 1 + 1, 1, none⟩ (.int .i64 q0) := ⟨_, rfl⟩
     rw [← hX]
     have hfin : Hp w [(w.heap.size + 1 + 1, 36, [.int .i64 0, .int .i64 0, .int .i64 0, .int .i64 0, .int .i64 0, .int .i64 0]), (w.heap.size + 1 + 1 + 1, 36, [.int .i64 p0, .int .i64 q0, .int .i64 0, .int .i64 0, .int .i64 0, .int .i64 0]), (w.heap.size + 1 + 1 + 1 + 1, 129, [.pointer (some ⟨w.heap.size + 1 + 1 + 1, 0, none⟩), .int .i64 a0, .int .i64 b0, .int .i64 c0, .int .i64 d0, .pointer (some ⟨w.heap.size + 1 + 1 + 1, 2, none⟩), .int .i64 a1, .int .i64 b1, .int .i64 c1, .int .i64 d1, .pointer (some ⟨w.heap.size + 1 + 1 + 1, 4, none⟩), .int .i64 a2, .int .i64 b2, .int .i64 c2, .int .i64 d2])] X2 := by
      rw [hX]
      exact ((H6.out.put 1 rfl 0 (.int .i64 p0)).put 1 rfl 1 (.int .i64 q0)).sub (L' := [(w.heap.size + 1 + 1, 36, [.int .i64 0, .int .i64 0, .int .i64 0, .int .i64 0, .int .i64 0, .int .i64 0]), (w.heap.size + 1 + 1 + 1, 36, [.int .i64 p0, .int .i64 q0, .int .i64 0, .int .i64 0, .int .i64 0, .int .i64 0]), (w.heap.size + 1 + 1 + 1 + 1, 129, [.pointer (some ⟨w.heap.size + 1 + 1 + 1, 0, none⟩), .int .i64 a0, .int .i64 b0, .int .i64 c0, .int .i64 d0, .pointer (some ⟨w.heap.size + 1 + 1 + 1, 2, none⟩), .int .i64 a1, .int .i64 b1, .int .i64 c1, .int .i64 d1, .pointer (some ⟨w.heap.size + 1 + 1 + 1, 4, none⟩), .int .i64 a2, .int .i64 b2, .int .i64 c2, .int .i64 d2])]) (by simp)
     have HFIN := Lib.hid hfin
     have hs2 : X2.cell? ⟨g10, 0, none⟩ = some (.pointer (some ⟨w.heap.size + 1 + 1 + 1, 0, none⟩)) ∧ X2.cell? ⟨g10, 1, none⟩ = some (.int .i64 a0) ∧ X2.cell? ⟨g10, 2, none⟩ = some (.int .i64 b0) ∧ X2.cell? ⟨g10, 3, none⟩ = some (.int .i64 c0) ∧ X2.cell? ⟨g10, 4, none⟩ = some (.int .i64 d0) := by
      rw [hX]
      exact five_of (((H6.out.put 1 rfl 0 (.int .i64 p0)).put 1 rfl 1 (.int .i64 q0)).at_ 3 rfl)
     refine hK.out _ _ (fun _ => hs2) ?_
     have hS := hs2
     clear hK K hX e0 e1 f0 f1 hfin hs2
     try simp only [Act.put]
     refine wpAnyE_tk (i := 13) (v := ?_) #[true, true, true, true, true, true, true, true, true, true, true, true, true, true] (some 11) rfl rfl (by kernel_rfl) (by kernel_rfl) (by kernel_rfl) (by kernel_rfl) (by kernel_rfl) (fun _ _ _ h => h) (Or.inl ⟨by rfl, ?_⟩) hS ?_
     rotate_left
     ·(intro w hSw; (try dsimp only at hSw); go_simp; all_goals with_reducible rfl)
     simp only [Act.put]
     clear hS
     refine wpAnyE_done (by kernel_rfl) ?_ _
     have HRL := Lib.hid (show EaRel w 129 a0 b0 a1 b1 a2 b2 c0 d0 c1 d1 c2 d2 p0 q0 p1 q1 p2 q2 (.int .i64 ((0 + 1 : Nat) : Int)) X2 from ⟨0 + 1, by omega, rfl, HFIN.out⟩)
     go_wp2_with fail
     go_roundw
     case rel => exact HRL.out
     case measure => simp [intOf]
    ·have HF := Lib.hid hF
     clear hF
     refine wpAnyE_ready (rs := [7]) (by kernel_rfl) (by simp) ?_
     refine AllE.cons' (o := _) #[true, true, true, true, true, true, true, true, false, false, false, false, false, false] rfl (by kernel_rfl) (fun K hK => ?_) AllE.nil
     go_simp
     refine (HF.out _).mono ?_
     rintro e W1 ⟨rfl, hb⟩
     dsimp only
     have H6 := Lib.hid (HD.out.step hb)
     refine hK.out _ _ (fun _ => five_of (H6.out.at_ 3 rfl)) ?_
     clear hK K hb
     try simp only [Act.put]
     have hS : W1.cell? ⟨g10, 0, none⟩ = some (.pointer (some ⟨w.heap.size + 1 + 1 + 1, 0, none⟩)) ∧ W1.cell? ⟨g10, 1, none⟩ = some (.int .i64 a0) ∧ W1.cell? ⟨g10, 2, none⟩ = some (.int .i64 b0) ∧ W1.cell? ⟨g10, 3, none⟩ = some (.int .i64 c0) ∧ W1.cell? ⟨g10, 4, none⟩ = some (.int .i64 d0) := five_of (H6.out.at_ 3 rfl)
     refine wpAnyE_tk (i := 8) (v := ?_) #[true, true, true, true, true, true, true, true, true, false, false, false, false, false] (some 36) rfl rfl (by kernel_rfl) (by kernel_rfl) (by kernel_rfl) (by kernel_rfl) (by kernel_rfl) (fun _ _ _ h => h) (Or.inl ⟨by rfl, ?_⟩) hS ?_
     rotate_left
     ·(intro w hSw; (try dsimp only at hSw); go_simp; all_goals with_reducible rfl)
     simp only [Act.put]
     refine wpAnyE_tk (i := 9) (v := ?_) #[true, true, true, true, true, true, true, true, true, true, false, false, false, false] (some 45) rfl rfl (by kernel_rfl) (by kernel_rfl) (by kernel_rfl) (by kernel_rfl) (by kernel_rfl) (fun _ _ _ h => h) (Or.inl ⟨by rfl, ?_⟩) hS ?_
     rotate_left
     ·(intro w hSw; (try dsimp only at hSw); go_simp; all_goals with_reducible rfl)
     simp only [Act.put]
     refine wpAnyE_tk (i := 10) (v := ?_) #[true, true, true, true, true, true, true, true, true, true, true, false, false, false] (some 46) rfl rfl (by kernel_rfl) (by kernel_rfl) (by kernel_rfl) (by kernel_rfl) (by kernel_rfl) (fun _ _ _ h => h) (Or.inl ⟨by rfl, ?_⟩) hS ?_
     rotate_left
     ·(intro w hSw; (try dsimp only at hSw); go_simp; all_goals with_reducible rfl)
     simp only [Act.put]
     have e0 := (H6.out.at_ 1 rfl).cell 0
     have e1 := (H6.out.at_ 1 rfl).cell 1
     have f0 := (H6.out.at_ 1 rfl).frozen 0
     have f1 := (H6.out.at_ 1 rfl).frozen 1
     refine wpAnyE_tk (i := 11) (v := ?_) #[true, true, true, true, true, true, true, true, true, true, true, true, false, false] (some 47) rfl rfl (by kernel_rfl) (by kernel_rfl) (by kernel_rfl) (by kernel_rfl) (by kernel_rfl) (fun _ _ _ h => h) (Or.inl ⟨by rfl, ?_⟩) hS ?_
     rotate_left
     ·(intro w hSw; (try dsimp only at hSw); go_simp; all_goals with_reducible rfl)
     simp only [Act.put]
     clear hS
     refine wpAnyE_ready (rs := [12]) (by kernel_rfl) (by simp) ?_
     refine AllE.cons' (o := _) #[true, true, true, true, true, true, true, true, true, true, true, true, true, false] rfl (by kernel_rfl) (fun K hK => ?_) AllE.nil
     go_simp
     obtain ⟨X2, hX⟩ : ∃ X, X = (W1.setCell ⟨w.heap.size + 1 + 1 + 1, 0, none⟩ (.int .i64 0)).setCell ⟨w.heap.size + 1 + 1 + 1, 1, none⟩ (.int .i64 0) := ⟨_, rfl⟩
     rw [← hX]
     have hfin : Hp w [(w.heap.size + 1 + 1, 36, [.int .i64 0, .int .i64 0, .int .i64 0, .int .i64 0, .int .i64 0, .int .i64 0]), (w.heap.size + 1 + 1 + 1, 36, [.int .i64 0, .int .i64 0, .int .i64 0, .int .i64 0, .int .i64 0, .int .i64 0]), (w.heap.size + 1 + 1 + 1 + 1, 129, [.pointer (some ⟨w.heap.size + 1 + 1 + 1, 0, none⟩), .int .i64 a0, .int .i64 b0, .int .i64 c0, .int .i64 d0, .pointer (some ⟨w.heap.size + 1 + 1 + 1, 2, none⟩), .int .i64 a1, .int .i64 b1, .int .i64 c1, .int .i64 d1, .pointer (some ⟨w.heap.size + 1 + 1 + 1, 4, none⟩), .int .i64 a2, .int .i64 b2, .int .i64 c2, .int .i64 d2])] X2 := by
      rw [hX]
      exact ((H6.out.put 1 rfl 0 (.int .i64 0)).put 1 rfl 1 (.int .i64 0)).sub (L' := [(w.heap.size + 1 + 1, 36, [.int .i64 0, .int .i64 0, .int .i64 0, .int .i64 0, .int .i64 0, .int .i64 0]), (w.heap.size + 1 + 1 + 1, 36, [.int .i64 0, .int .i64 0, .int .i64 0, .int .i64 0, .int .i64 0, .int .i64 0]), (w.heap.size + 1 + 1 + 1 + 1, 129, [.pointer (some ⟨w.heap.size + 1 + 1 + 1, 0, none⟩), .int .i64 a0, .int .i64 b0, .int .i64 c0, .int .i64 d0, .pointer (some ⟨w.heap.size + 1 + 1 + 1, 2, none⟩), .int .i64 a1, .int .i64 b1, .int .i64 c1, .int .i64 d1, .pointer (some ⟨w.heap.size + 1 + 1 + 1, 4, none⟩), .int .i64 a2, .int .i64 b2, .int .i64 c2, .int .i64 d2])]) (by simp)
     have HFIN := Lib.hid hfin
     have hs2 : X2.cell? ⟨g10, 0, none⟩ = some (.pointer (some ⟨w.heap.size + 1 + 1 + 1, 0, none⟩)) ∧ X2.cell? ⟨g10, 1, none⟩ = some (.int .i64 a0) ∧ X2.cell? ⟨g10, 2, none⟩ = some (.int .i64 b0) ∧ X2.cell? ⟨g10, 3, none⟩ = some (.int .i64 c0) ∧ X2.cell? ⟨g10, 4, none⟩ = some (.int .i64 d0) := by
      rw [hX]
      exact five_of (((H6.out.put 1 rfl 0 (.int .i64 0)).put 1 rfl 1 (.int .i64 0)).at_ 3 rfl)
     refine hK.out _ _ (fun _ => hs2) ?_
     have hS := hs2
     clear hK K hX e0 e1 f0 f1 hfin hs2
     try simp only [Act.put]
     refine wpAnyE_tk (i := 13) (v := ?_) #[true, true, true, true, true, true, true, true, true, true, true, true, true, true] (some 11) rfl rfl (by kernel_rfl) (by kernel_rfl) (by kernel_rfl) (by kernel_rfl) (by kernel_rfl) (fun _ _ _ h => h) (Or.inl ⟨by rfl, ?_⟩) hS ?_
     rotate_left
     ·(intro w hSw; (try dsimp only at hSw); go_simp; all_goals with_reducible rfl)
     simp only [Act.put]
     clear hS
     refine wpAnyE_done (by kernel_rfl) ?_ _
     obtain ⟨e0, e1, e2, e3, e4, e5⟩ := six_of (HFIN.out.at_ 0 rfl)
     obtain ⟨f0, f1, f2, f3, f4, f5⟩ := six_free (HFIN.out.at_ 0 rfl)
     go_wp2
     obtain ⟨WZ, hWZ⟩ : ∃ WZ, WZ = (((((X2.setCell ⟨w.heap.size + 1 + 1, 0, none⟩ (.int .i64 0)).setCell ⟨w.heap.size + 1 + 1, 1, none⟩ (.int .i64 0)).setCell ⟨w.heap.size + 1 + 1, 2, none⟩ (.int .i64 0)).setCell ⟨w.heap.size + 1 + 1, 3, none⟩ (.int .i64 0)).setCell ⟨w.heap.size + 1 + 1, 4, none⟩ (.int .i64 0)).setCell ⟨w.heap.size + 1 + 1, 5, none⟩ (.int .i64 0) := ⟨_, rfl⟩
     have hz := HFIN.out.put6 0 rfl (.int .i64 0) (.int .i64 0) (.int .i64 0) (.int .i64 0) (.int .i64 0) (.int .i64 0)
     rw [← hWZ] at hz ⊢
     obtain ⟨g0, g1, g2, g3, g4, g5⟩ := six_of (hz.at_ 0 rfl)
     have hv : ivR p0 q0 p1 q1 p2 q2 = .tuple #[szv 0 0 0 0 0 0, .int .i64 4] := by
      unfold ivR
      rw [if_neg]
      rw [ivE_num (q := (p0, q0)) (by simp) hR]
      decide
     rw [hv]
     exact bodyPost_ret (v := .tuple #[szv 0 0 0 0 0 0, .int .i64 4]) (by simp [g0, g1, g2, g3, g4, g5, results, Tryz.results65, go_sem]) rfl ⟨rfl, hz.below⟩
   ·have HM2 : Hid (Hp w [(w.heap.size + 1 + 1, 36, [.int .i64 0, .int .i64 0, .int .i64 0, .int .i64 0, .int .i64 0, .int .i64 0]), (w.heap.size + 1 + 1 + 1, 36, [.int .i64 p0, .int .i64 q0, .int .i64 0, .int .i64 0, .int .i64 0, .int .i64 0]), (w.heap.size + 1 + 1 + 1 + 1, 129, [.pointer (some ⟨w.heap.size + 1 + 1 + 1, 0, none⟩), .int .i64 a0, .int .i64 b0, .int .i64 c0, .int .i64 d0, .pointer (some ⟨w.heap.size + 1 + 1 + 1, 2, none⟩), .int .i64 a1, .int .i64 b1, .int .i64 c1, .int .i64 d1, .pointer (some ⟨w.heap.size + 1 + 1 + 1, 4, none⟩), .int .i64 a2, .int .i64 b2, .int .i64 c2, .int .i64 d2])] wr) := HM.out
    clear HM
    have hb15 := HM2.out.at_ 2 rfl
    have k0 := hb15.cell 5
    have k1 := hb15.cell 6
    have k2 := hb15.cell 7
    have k3 := hb15.cell 8
    have k4 := hb15.cell 9
    have hlt2 : w.heap.size + 1 + 1 + 1 + 1 < wr.heap.size := hb15.lt
    clear hb15
    go_wp2_with fail
    obtain ⟨W5, hW5⟩ : ∃ W5, W5 = wr.alloc (.cells #[.pointer (some ⟨w.heap.size + 1 + 1 + 1, 2, none⟩), .int .i64 a1, .int .i64 b1, .int .i64 c1, .int .i64 d1] 129) := ⟨_, rfl⟩
    have hm5 := HM2.out.new 129 [.pointer (some ⟨w.heap.size + 1 + 1 + 1, 2, none⟩), .int .i64 a1, .int .i64 b1, .int .i64 c1, .int .i64 d1]
    rw [← hW5] at hm5
    rw [← hW5]
    clear hW5 k0 k1 k2 k3 k4
    obtain ⟨g10, hg10⟩ : ∃ g, g = wr.heap.size := ⟨_, rfl⟩
    rw [← hg10] at hm5 hlt2 ⊢
    clear hg10
    have HM5 : Hid (Hp w [(w.heap.size + 1 + 1, 36, [.int .i64 0, .int .i64 0, .int .i64 0, .int .i64 0, .int .i64 0, .int .i64 0]), (w.heap.size + 1 + 1 + 1, 36, [.int .i64 p0, .int .i64 q0, .int .i64 0, .int .i64 0, .int .i64 0, .int .i64 0]), (w.heap.size + 1 + 1 + 1 + 1, 129, [.pointer (some ⟨w.heap.size + 1 + 1 + 1, 0, none⟩), .int .i64 a0, .int .i64 b0, .int .i64 c0, .int .i64 d0, .pointer (some ⟨w.heap.size + 1 + 1 + 1, 2, none⟩), .int .i64 a1, .int .i64 b1, .int .i64 c1, .int .i64 d1, .pointer (some ⟨w.heap.size + 1 + 1 + 1, 4, none⟩), .int .i64 a2, .int .i64 b2, .int .i64 c2, .int .i64 d2]), (g10, 129, [.pointer (some ⟨w.heap.size + 1 + 1 + 1, 2, none⟩), .int .i64 a1, .int .i64 b1, .int .i64 c1, .int .i64 d1])] W5) := Lib.hid hm5
    clear hm5 HM2
    have HD : Hid (Hp w [(w.heap.size + 1 + 1, 36, [.int .i64 0, .int .i64 0, .int .i64 0, .int .i64 0, .int .i64 0, .int .i64 0]), (w.heap.size + 1 + 1 + 1, 36, [.int .i64 p0, .int .i64 q0, .int .i64 0, .int .i64 0, .int .i64 0, .int .i64 0]), (w.heap.size + 1 + 1 + 1 + 1, 129, [.pointer (some ⟨w.heap.size + 1 + 1 + 1, 0, none⟩), .int .i64 a0, .int .i64 b0, .int .i64 c0, .int .i64 d0, .pointer (some ⟨w.heap.size + 1 + 1 + 1, 2, none⟩), .int .i64 a1, .int .i64 b1, .int .i64 c1, .int .i64 d1, .pointer (some ⟨w.heap.size + 1 + 1 + 1, 4, none⟩), .int .i64 a2, .int .i64 b2, .int .i64 c2, .int .i64 d2]), (g10, 129, [.pointer (some ⟨w.heap.size + 1 + 1 + 1, 2, none⟩), .int .i64 a1, .int .i64 b1, .int .i64 c1, .int .i64 d1])] W5.drew) := Lib.hid HM5.out.drew
    have hB := HD.out.at_ 3 rfl
    have hS : W5.drew.cell? ⟨g10, 0, none⟩ = some (.pointer (some ⟨w.heap.size + 1 + 1 + 1, 2, none⟩)) ∧ W5.drew.cell? ⟨g10, 1, none⟩ = some (.int .i64 a1) ∧ W5.drew.cell? ⟨g10, 2, none⟩ = some (.int .i64 b1) ∧ W5.drew.cell? ⟨g10, 3, none⟩ = some (.int .i64 c1) ∧ W5.drew.cell? ⟨g10, 4, none⟩ = some (.int .i64 d1) := five_of hB
    clear hB
    refine wp_regionE' 14 (fun w' => w'.cell? ⟨g10, 0, none⟩ = some (.pointer (some ⟨w.heap.size + 1 + 1 + 1, 2, none⟩)) ∧ w'.cell? ⟨g10, 1, none⟩ = some (.int .i64 a1) ∧ w'.cell? ⟨g10, 2, none⟩ = some (.int .i64 b1) ∧ w'.cell? ⟨g10, 3, none⟩ = some (.int .i64 c1) ∧ w'.cell? ⟨g10, 4, none⟩ = some (.int .i64 d1)) 14 #[false, false, false, false, false, false, false, false, false, false, false, false, false, false] (by kernel_rfl) (by kernel_rfl) (by kernel_rfl) ?_
    refine wpAnyE_tk (i := 0) (v := ?_) #[true, false, false, false, false, false, false, false, false, false, false, false, false, false] (some 37) rfl rfl (by kernel_rfl) (by kernel_rfl) (by kernel_rfl) (by kernel_rfl) (by kernel_rfl) (fun _ _ _ h => h) (Or.inl ⟨by rfl, ?_⟩) hS ?_
    rotate_left
    ·(intro w hSw; (try dsimp only at hSw); go_simp; all_goals with_reducible rfl)
    simp only [Act.put]
    refine wpAnyE_tk (i := 1) (v := ?_) #[true, true, false, false, false, false, false, false, false, false, false, false, false, false] (some 38) rfl rfl (by kernel_rfl) (by kernel_rfl) (by kernel_rfl) (by kernel_rfl) (by kernel_rfl) (fun _ _ _ h => h) (Or.inl ⟨by rfl, ?_⟩) hS ?_
    rotate_left
    ·(intro w hSw; (try dsimp only at hSw); go_simp; all_goals with_reducible rfl)
    simp only [Act.put]
    refine wpAnyE_tk (i := 2) (v := ?_) #[true, true, true, false, false, false, false, false, false, false, false, false, false, false] (some 39) rfl rfl (by kernel_rfl) (by kernel_rfl) (by kernel_rfl) (by kernel_rfl) (by kernel_rfl) (fun _ _ _ h => h) (Or.inl ⟨by rfl, ?_⟩) hS ?_
    rotate_left
    ·(intro w hSw; (try dsimp only at hSw); go_simp; all_goals with_reducible rfl)
    simp only [Act.put]
    refine wpAnyE_tk (i := 3) (v := ?_) #[true, true, true, true, false, false, false, false, false, false, false, false, false, false] (some 40) rfl rfl (by kernel_rfl) (by kernel_rfl) (by kernel_rfl) (by kernel_rfl) (by kernel_rfl) (fun _ _ _ h => h) (Or.inl ⟨by rfl, ?_⟩) hS ?_
    rotate_left
    ·(intro w hSw; (try dsimp only at hSw); go_simp; all_goals with_reducible rfl)
    simp only [Act.put]
    refine wpAnyE_tk (i := 4) (v := ?_) #[true, true, true, true, true, false, false, false, false, false, false, false, false, false] (some 41) rfl rfl (by kernel_rfl) (by kernel_rfl) (by kernel_rfl) (by kernel_rfl) (by kernel_rfl) (fun _ _ _ h => h) (Or.inl ⟨by rfl, ?_⟩) hS ?_
    rotate_left
    ·(intro w hSw; (try dsimp only at hSw); go_simp; all_goals with_reducible rfl)
    simp only [Act.put]
    refine wpAnyE_tk (i := 5) (v := ?_) #[true, true, true, true, true, true, false, false, false, false, false, false, false, false] (some 42) rfl rfl (by kernel_rfl) (by kernel_rfl) (by kernel_rfl) (by kernel_rfl) (by kernel_rfl) (fun _ _ _ h => h) (Or.inl ⟨by rfl, ?_⟩) hS ?_
    rotate_left
    ·(intro w hSw; (try dsimp only at hSw); go_simp; all_goals with_reducible rfl)
    simp only [Act.put]
    refine wpAnyE_tk (i := 6) (v := ?_) #[true, true, true, true, true, true, true, false, false, false, false, false, false, false] (some 43) rfl rfl (by kernel_rfl) (by kernel_rfl) (by kernel_rfl) (by kernel_rfl) (by kernel_rfl) (fun _ _ _ h => h) (Or.inl ⟨by rfl, ?_⟩) hS ?_
    rotate_left
    ·(intro w hSw; (try dsimp only at hSw); go_simp; all_goals with_reducible rfl)
    simp only [Act.put]
    clear hS
    obtain ⟨WD, hWD⟩ : ∃ X, X = W5.drew := ⟨_, rfl⟩
    rw [← hWD] at HD ⊢
    clear hWD HM5
    rcases H1.out with ⟨hR, hF⟩ | ⟨hR, hF⟩
    ·have HF := Lib.hid hF
     clear hF
     refine wpAnyE_ready (rs := [7]) (by kernel_rfl) (by simp) ?_
     refine AllE.cons' (o := _) #[true, true, true, true, true, true, true, true, false, false, false, false, false, false] rfl (by kernel_rfl) (fun K hK => ?_) AllE.nil
     go_simp
     refine (HF.out _).mono ?_
     rintro e W1 ⟨rfl, hb⟩
     dsimp only
     have H6 := Lib.hid (HD.out.step hb)
     refine hK.out _ _ (fun _ => five_of (H6.out.at_ 3 rfl)) ?_
     clear hK K hb
     try simp only [Act.put]
     have hS : W1.cell? ⟨g10, 0, none⟩ = some (.pointer (some ⟨w.heap.size + 1 + 1 + 1, 2, none⟩)) ∧ W1.cell? ⟨g10, 1, none⟩ = some (.int .i64 a1) ∧ W1.cell? ⟨g10, 2, none⟩ = some (.int .i64 b1) ∧ W1.cell? ⟨g10, 3, none⟩ = some (.int .i64 c1) ∧ W1.cell? ⟨g10, 4, none⟩ = some (.int .i64 d1) := five_of (H6.out.at_ 3 rfl)
     refine wpAnyE_tk (i := 8) (v := ?_) #[true, true, true, true, true, true, true, true, true, false, false, false, false, false] (some 36) rfl rfl (by kernel_rfl) (by kernel_rfl) (by kernel_rfl) (by kernel_rfl) (by kernel_rfl) (fun _ _ _ h => h) (Or.inl ⟨by rfl, ?_⟩) hS ?_
     rotate_left
     ·(intro w hSw; (try dsimp only at hSw); go_simp; all_goals with_reducible rfl)
     simp only [Act.put]
     refine wpAnyE_tk (i := 9) (v := ?_) #[true, true, true, true, true, true, true, true, true, true, false, false, false, false] (some 45) rfl rfl (by kernel_rfl) (by kernel_rfl) (by kernel_rfl) (by kernel_rfl) (by kernel_rfl) (fun _ _ _ h => h) (Or.inl ⟨by rfl, ?_⟩) hS ?_
     rotate_left
     ·(intro w hSw; (try dsimp only at hSw); go_simp; all_goals with_reducible rfl)
     simp only [Act.put]
     refine wpAnyE_tk (i := 10) (v := ?_) #[true, true, true, true, true, true, true, true, true, true, true, false, false, false] (some 46) rfl rfl (by kernel_rfl) (by kernel_rfl) (by kernel_rfl) (by kernel_rfl) (by kernel_rfl) (fun _ _ _ h => h) (Or.inl ⟨by rfl, ?_⟩) hS ?_
     rotate_left
     ·(intro w hSw; (try dsimp only at hSw); go_simp; all_goals with_reducible rfl)
     simp only [Act.put]
     have e0 := (H6.out.at_ 1 rfl).cell 2
     have e1 := (H6.out.at_ 1 rfl).cell 3
     have f0 := (H6.out.at_ 1 rfl).frozen 2
     have f1 := (H6.out.at_ 1 rfl).frozen 3
     refine wpAnyE_tk (i := 11) (v := ?_) #[true, true, true, true, true, true, true, true, true, true, true, true, false, false] (some 47) rfl rfl (by kernel_rfl) (by kernel_rfl) (by kernel_rfl) (by kernel_rfl) (by kernel_rfl) (fun _ _ _ h => h) (Or.inl ⟨by rfl, ?_⟩) hS ?_
     rotate_left
     ·(intro w hSw; (try dsimp only at hSw); go_simp; all_goals with_reducible rfl)
     simp only [Act.put]
     clear hS
     refine wpAnyE_ready (rs := [12]) (by kernel_rfl) (by simp) ?_
     refine AllE.cons' (o := _) #[true, true, true, true, true, true, true, true, true, true, true, true, true, false] rfl (by kernel_rfl) (fun K hK => ?_) AllE.nil
     go_simp
     obtain ⟨X2, hX⟩ : ∃ X, X = (W1.setCell ⟨w.heap.size + 1 + 1 + 1, 2, none⟩ (.int .i64 p1)).setCell ⟨w.heap.size + 1 + 1 + 1, 3, none⟩ (.int .i64 q1) := ⟨_, rfl⟩
     rw [← hX]
     have hfin : Hp w [(w.heap.size + 1 + 1, 36, [.int .i64 0, .int .i64 0, .int .i64 0, .int .i64 0, .int .i64 0, .int .i64 0]), (w.heap.size + 1 + 1 + 1, 36, [.int .i64 p0, .int .i64 q0, .int .i64 p1, .int .i64 q1, .int .i64 0, .int .i64 0]), (w.heap.size + 1 + 1 + 1 + 1, 129, [.pointer (some ⟨w.heap.size + 1 + 1 + 1, 0, none⟩), .int .i64 a0, .int .i64 b0, .int .i64 c0, .int .i64 d0, .pointer (some ⟨w.heap.size + 1 + 1 + 1, 2, none⟩), .int .i64 a1, .int .i64 b1, .int .i64 c1, .int .i64 d1, .pointer (some ⟨w.heap.size + 1 + 1 + 1, 4, none⟩), .int .i64 a2, .int .i64 b2, .int .i64 c2, .int .i64 d2])] X2 := by
      rw [hX]
      exact ((H6.out.put 1 rfl 2 (.int .i64 p1)).put 1 rfl 3 (.int .i64 q1)).sub (L' := [(w.heap.size + 1 + 1, 36, [.int .i64 0, .int .i64 0, .int .i64 0, .int .i64 0, .int .i64 0, .int .i64 0]), (w.heap.size + 1 + 1 + 1, 36, [.int .i64 p0, .int .i64 q0, .int .i64 p1, .int .i64 q1, .int .i64 0, .int .i64 0]), (w.heap.size + 1 + 1 + 1 + 1, 129, [.pointer (some ⟨w.heap.size + 1 + 1 + 1, 0, none⟩), .int .i64 a0, .int .i64 b0, .int .i64 c0, .int .i64 d0, .pointer (some ⟨w.heap.size + 1 + 1 + 1, 2, none⟩), .int .i64 a1, .int .i64 b1, .int .i64 c1, .int .i64 d1, .pointer (some ⟨w.heap.size + 1 + 1 + 1, 4, none⟩), .int .i64 a2, .int .i64 b2, .int .i64 c2, .int .i64 d2])]) (by simp)
     have HFIN := Lib.hid hfin
     have hs2 : X2.cell? ⟨g10, 0, none⟩ = some (.pointer (some ⟨w.heap.size + 1 + 1 + 1, 2, none⟩)) ∧ X2.cell? ⟨g10, 1, none⟩ = some (.int .i64 a1) ∧ X2.cell? ⟨g10, 2, none⟩ = some (.int .i64 b1) ∧ X2.cell? ⟨g10, 3, none⟩ = some (.int .i64 c1) ∧ X2.cell? ⟨g10, 4, none⟩ = some (.int .i64 d1) := by
      rw [hX]
      exact five_of (((H6.out.put 1 rfl 2 (.int .i64 p1)).put 1 rfl 3 (.int .i64 q1)).at_ 3 rfl)
     refine hK.out _ _ (fun _ => hs2) ?_
     have hS := hs2
     clear hK K hX e0 e1 f0 f1 hfin hs2
     try simp only [Act.put]
     refine wpAnyE_tk (i := 13) (v := ?_) #[true, true, true, true, true, true, true, true, true, true, true, true, true, true] (some 11) rfl rfl (by kernel_rfl) (by kernel_rfl) (by kernel_rfl) (by kernel_rfl) (by kernel_rfl) (fun _ _ _ h => h) (Or.inl ⟨by rfl, ?_⟩) hS ?_
     rotate_left
     ·(intro w hSw; (try dsimp only at hSw); go_simp; all_goals with_reducible rfl)
     simp only [Act.put]
     clear hS
     refine wpAnyE_done (by kernel_rfl) ?_ _
     have HRL := Lib.hid (show EaRel w 129 a0 b0 a1 b1 a2 b2 c0 d0 c1 d1 c2 d2 p0 q0 p1 q1 p2 q2 (.int .i64 ((1 + 1 : Nat) : Int)) X2 from ⟨1 + 1, by omega, rfl, HFIN.out⟩)
     go_wp2_with fail
     go_roundw
     case rel => exact HRL.out
     case measure => simp [intOf]
    ·have HF := Lib.hid hF
     clear hF
     refine wpAnyE_ready (rs := [7]) (by kernel_rfl) (by simp) ?_
     refine AllE.cons' (o := _) #[true, true, true, true, true, true, true, true, false, false, false, false, false, false] rfl (by kernel_rfl) (fun K hK => ?_) AllE.nil
     go_simp
     refine (HF.out _).mono ?_
     rintro e W1 ⟨rfl, hb⟩
     dsimp only
     have H6 := Lib.hid (HD.out.step hb)
     refine hK.out _ _ (fun _ => five_of (H6.out.at_ 3 rfl)) ?_
     clear hK K hb
     try simp only [Act.put]
     have hS : W1.cell? ⟨g10, 0, none⟩ = some (.pointer (some ⟨w.heap.size + 1 + 1 + 1, 2, none⟩)) ∧ W1.cell? ⟨g10, 1, none⟩ = some (.int .i64 a1) ∧ W1.cell? ⟨g10, 2, none⟩ = some (.int .i64 b1) ∧ W1.cell? ⟨g10, 3, none⟩ = some (.int .i64 c1) ∧ W1.cell? ⟨g10, 4, none⟩ = some (.int .i64 d1) := five_of (H6.out.at_ 3 rfl)
     refine wpAnyE_tk (i := 8) (v := ?_) #[true, true, true, true, true, true, true, true, true, false, false, false, false, false] (some 36) rfl rfl (by kernel_rfl) (by kernel_rfl) (by kernel_rfl) (by kernel_rfl) (by kernel_rfl) (fun _ _ _ h => h) (Or.inl ⟨by rfl, ?_⟩) hS ?_
     rotate_left
     ·(intro w hSw; (try dsimp only at hSw); go_simp; all_goals with_reducible rfl)
     simp only [Act.put]
     refine wpAnyE_tk (i := 9) (v := ?_) #[true, true, true, true, true, true, true, true, true, true, false, false, false, false] (some 45) rfl rfl (by kernel_rfl) (by kernel_rfl) (by kernel_rfl) (by kernel_rfl) (by kernel_rfl) (fun _ _ _ h => h) (Or.inl ⟨by rfl, ?_⟩) hS ?_
     rotate_left
     ·(intro w hSw; (try dsimp only at hSw); go_simp; all_goals with_reducible rfl)
     simp only [Act.put]
     refine wpAnyE_tk (i := 10) (v := ?_) #[true, true, true, true, true, true, true, true, true, true, true, false, false, false] (some 46) rfl rfl (by kernel_rfl) (by kernel_rfl) (by kernel_rfl) (by kernel_rfl) (by kernel_rfl) (fun _ _ _ h => h) (Or.inl ⟨by rfl, ?_⟩) hS ?_
     rotate_left
     ·(intro w hSw; (try dsimp only at hSw); go_simp; all_goals with_reducible rfl)
     simp only [Act.put]
     have e0 := (H6.out.at_ 1 rfl).cell 2
     have e1 := (H6.out.at_ 1 rfl).cell 3
     have f0 := (H6.out.at_ 1 rfl).frozen 2
     have f1 := (H6.out.at_ 1 rfl).frozen 3
     refine wpAnyE_tk (i := 11) (v := ?_) #[true, true, true, true, true, true, true, true, true, true, true, true, false, false] (some 47) rfl rfl (by kernel_rfl) (by kernel_rfl) (by kernel_rfl) (by kernel_rfl) (by kernel_rfl) (fun _ _ _ h => h) (Or.inl ⟨by rfl, ?_⟩) hS ?_
     rotate_left
     ·(intro w hSw; (try dsimp only at hSw); go_simp; all_goals with_reducible rfl)
     simp only [Act.put]
     clear hS
     refine wpAnyE_ready (rs := [12]) (by kernel_rfl) (by simp) ?_
     refine AllE.cons' (o := _) #[true, true, true, true, true, true, true, true, true, true, true, true, true, false] rfl (by kernel_rfl) (fun K hK => ?_) AllE.nil
     go_simp
     obtain ⟨X2, hX⟩ : ∃ X, X = (W1.setCell ⟨w.heap.size + 1 + 1 + 1, 2, none⟩ (.int .i64 0)).setCell ⟨w.heap.size + 1 + 1 + 1, 3, none⟩ (.int .i64 0) := ⟨_, rfl⟩
     rw [← hX]
     have hfin : Hp w [(w.heap.size + 1 + 1, 36, [.int .i64 0, .int .i64 0, .int .i64 0, .int .i64 0, .int .i64 0, .int .i64 0]), (w.heap.size + 1 + 1 + 1, 36, [.int .i64 p0, .int .i64 q0, .int .i64 0, .int .i64 0, .int .i64 0, .int .i64 0]), (w.heap.size + 1 + 1 + 1 + 1, 129, [.pointer (some ⟨w.heap.size + 1 + 1 + 1, 0, none⟩), .int .i64 a0, .int .i64 b0, .int .i64 c0, .int .i64 d0, .pointer (some ⟨w.heap.size + 1 + 1 + 1, 2, none⟩), .int .i64 a1, .int .i64 b1, .int .i64 c1, .int .i64 d1, .pointer (some ⟨w.heap.size + 1 + 1 + 1, 4, none⟩), .int .i64 a2, .int .i64 b2, .int .i64 c2, .int .i64 d2])] X2 := by
      rw [hX]
      exact ((H6.out.put 1 rfl 2 (.int .i64 0)).put 1 rfl 3 (.int .i64 0)).sub (L' := [(w.heap.size + 1 + 1, 36, [.int .i64 0, .int .i64 0, .int .i64 0, .int .i64 0, .int .i64 0, .int .i64 0]), (w.heap.size + 1 + 1 + 1, 36, [.int .i64 p0, .int .i64 q0, .int .i64 0, .int .i64 0, .int .i64 0, .int .i64 0]), (w.heap.size + 1 + 1 + 1 + 1, 129, [.pointer (some ⟨w.heap.size + 1 + 1 + 1, 0, none⟩), .int .i64 a0, .int .i64 b0, .int .i64 c0, .int .i64 d0, .pointer (some ⟨w.heap.size + 1 + 1 + 1, 2, none⟩), .int .i64 a1, .int .i64 b1, .int .i64 c1, .int .i64 d1, .pointer (some ⟨w.heap.size + 1 + 1 + 1, 4, none⟩), .int .i64 a2, .int .i64 b2, .int .i64 c2, .int .i64 d2])]) (by simp)
     have HFIN := Lib.hid hfin
     have hs2 : X2.cell? ⟨g10, 0, none⟩ = some (.pointer (some ⟨w.heap.size + 1 + 1 + 1, 2, none⟩)) ∧ X2.cell? ⟨g10, 1, none⟩ = some (.int .i64 a1) ∧ X2.cell? ⟨g10, 2, none⟩ = some (.int .i64 b1) ∧ X2.cell? ⟨g10, 3, none⟩ = some (.int .i64 c1) ∧ X2.cell? ⟨g10, 4, none⟩ = some (.int .i64 d1) := by
      rw [hX]
      exact five_of (((H6.out.put 1 rfl 2 (.int .i64 0)).put 1 rfl 3 (.int .i64 0)).at_ 3 rfl)
     refine hK.out _ _ (fun _ => hs2) ?_
     have hS := hs2
     clear hK K hX e0 e1 f0 f1 hfin hs2
     try simp only [Act.put]
     refine wpAnyE_tk (i := 13) (v := ?_) #[true, true, true, true, true, true, true, true, true, true, true, true, true, true] (some 11) rfl rfl (by kernel_rfl) (by kernel_rfl) (by kernel_rfl) (by kernel_rfl) (by kernel_rfl) (fun _ _ _ h => h) (Or.inl ⟨by rfl, ?_⟩) hS ?_
     rotate_left
     ·(intro w hSw; (try dsimp only at hSw); go_simp; all_goals with_reducible rfl)
     simp only [Act.put]
     clear hS
     refine wpAnyE_done (by kernel_rfl) ?_ _
     obtain ⟨e0, e1, e2, e3, e4, e5⟩ := six_of (HFIN.out.at_ 0 rfl)
     obtain ⟨f0, f1, f2, f3, f4, f5⟩ := six_free (HFIN.out.at_ 0 rfl)
     go_wp2
     obtain ⟨WZ, hWZ⟩ : ∃ WZ, WZ = (((((X2.setCell ⟨w.heap.size + 1 + 1, 0, none⟩ (.int .i64 0)).setCell ⟨w.heap.size + 1 + 1, 1, none⟩ (.int .i64 0)).setCell ⟨w.heap.size + 1 + 1, 2, none⟩ (.int .i64 0)).setCell ⟨w.heap.size + 1 + 1, 3, none⟩ (.int .i64 0)).setCell ⟨w.heap.size + 1 + 1, 4, none⟩ (.int .i64 0)).setCell ⟨w.heap.size + 1 + 1, 5, none⟩ (.int .i64 0) := ⟨_, rfl⟩
     have hz := HFIN.out.put6 0 rfl (.int .i64 0) (.int .i64 0) (.int .i64 0) (.int .i64 0) (.int .i64 0) (.int .i64 0)
     rw [← hWZ] at hz ⊢
     obtain ⟨g0, g1, g2, g3, g4, g5⟩ := six_of (hz.at_ 0 rfl)
     have hv : ivR p0 q0 p1 q1 p2 q2 = .tuple #[szv 0 0 0 0 0 0, .int .i64 4] := by
      unfold ivR
      rw [if_neg]
      rw [ivE_num (q := (p1, q1)) (by simp) hR]
      decide
     rw [hv]
     exact bodyPost_ret (v := .tuple #[szv 0 0 0 0 0 0, .int .i64 4]) (by simp [g0, g1, g2, g3, g4, g5, results, Tryz.results65, go_sem]) rfl ⟨rfl, hz.below⟩
   ·have HM2 : Hid (Hp w [(w.heap.size + 1 + 1, 36, [.int .i64 0, .int .i64 0, .int .i64 0, .int .i64 0, .int .i64 0, .int .i64 0]), (w.heap.size + 1 + 1 + 1, 36, [.int .i64 p0, .int .i64 q0, .int .i64 p1, .int .i64 q1, .int .i64 0, .int .i64 0]), (w.heap.size + 1 + 1 + 1 + 1, 129, [.pointer (some ⟨w.heap.size + 1 + 1 + 1, 0, none⟩), .int .i64 a0, .int .i64 b0, .int .i64 c0, .int .i64 d0, .pointer (some ⟨w.heap.size + 1 + 1 + 1, 2, none⟩), .int .i64 a1, .int .i64 b1, .int .i64 c1, .int .i64 d1, .pointer (some ⟨w.heap.size + 1 + 1 + 1, 4, none⟩), .int .i64 a2, .int .i64 b2, .int .i64 c2, .int .i64 d2])] wr) := HM.out
    clear HM
    have hb15 := HM2.out.at_ 2 rfl
    have k0 := hb15.cell 10
    have k1 := hb15.cell 11
    have k2 := hb15.cell 12
    have k3 := hb15.cell 13
    have k4 := hb15.cell 14
    have hlt2 : w.heap.size + 1 + 1 + 1 + 1 < wr.heap.size := hb15.lt
    clear hb15
    go_wp2_with fail
    obtain ⟨W5, hW5⟩ : ∃ W5, W5 = wr.alloc (.cells #[.pointer (some ⟨w.heap.size + 1 + 1 + 1, 4, none⟩), .int .i64 a2, .int .i64 b2, .int .i64 c2, .int .i64 d2] 129) := ⟨_, rfl⟩
    have hm5 := HM2.out.new 129 [.pointer (some ⟨w.heap.size + 1 + 1 + 1, 4, none⟩), .int .i64 a2, .int .i64 b2, .int .i64 c2, .int .i64 d2]
    rw [← hW5] at hm5
    rw [← hW5]
    clear hW5 k0 k1 k2 k3 k4
    obtain ⟨g10, hg10⟩ : ∃ g, g = wr.heap.size := ⟨_, rfl⟩
    rw [← hg10] at hm5 hlt2 ⊢
    clear hg10
    have HM5 : Hid (Hp w [(w.heap.size + 1 + 1, 36, [.int .i64 0, .int .i64 0, .int .i64 0, .int .i64 0, .int .i64 0, .int .i64 0]), (w.heap.size + 1 + 1 + 1, 36, [.int .i64 p0, .int .i64 q0, .int .i64 p1, .int .i64 q1, .int .i64 0, .int .i64 0]), (w.heap.size + 1 + 1 + 1 + 1, 129, [.pointer (some ⟨w.heap.size + 1 + 1 + 1, 0, none⟩), .int .i64 a0, .int .i64 b0, .int .i64 c0, .int .i64 d0, .pointer (some ⟨w.heap.size + 1 + 1 + 1, 2, none⟩), .int .i64 a1, .int .i64 b1, .int .i64 c1, .int .i64 d1, .pointer (some ⟨w.heap.size + 1 + 1 + 1, 4, none⟩), .int .i64 a2, .int .i64 b2, .int .i64 c2, .int .i64 d2]), (g10, 129, [.pointer (some ⟨w.heap.size + 1 + 1 + 1, 4, none⟩), .int .i64 a2, .int .i64 b2, .int .i64 c2, .int .i64 d2])] W5) := Lib.hid hm5
    clear hm5 HM2
    have HD : Hid (Hp w [(w.heap.size + 1 + 1, 36, [.int .i64 0, .int .i64 0, .int .i64 0, .int .i64 0, .int .i64 0, .int .i64 0]), (w.heap.size + 1 + 1 + 1, 36, [.int .i64 p0, .int .i64 q0, .int .i64 p1, .int .i64 q1, .int .i64 0, .int .i64 0]), (w.heap.size + 1 + 1 + 1 + 1, 129, [.pointer (some ⟨w.heap.size + 1 + 1 + 1, 0, none⟩), .int .i64 a0, .int .i64 b0, .int .i64 c0, .int .i64 d0, .pointer (some ⟨w.heap.size + 1 + 1 + 1, 2, none⟩), .int .i64 a1, .int .i64 b1, .int .i64 c1, .int .i64 d1, .pointer (some ⟨w.heap.size + 1 + 1 + 1, 4, none⟩), .int .i64 a2, .int .i64 b2, .int .i64 c2, .int .i64 d2]), (g10, 129, [.pointer (some ⟨w.heap.size + 1 + 1 + 1, 4, none⟩), .int .i64 a2, .int .i64 b2, .int .i64 c2, .int .i64 d2])] W5.drew) := Lib.hid HM5.out.drew
    have hB := HD.out.at_ 3 rfl
    have hS : W5.drew.cell? ⟨g10, 0, none⟩ = some (.pointer (some ⟨w.heap.size + 1 + 1 + 1, 4, none⟩)) ∧ W5.drew.cell? ⟨g10, 1, none⟩ = some (.int .i64 a2) ∧ W5.drew.cell? ⟨g10, 2, none⟩ = some (.int .i64 b2) ∧ W5.drew.cell? ⟨g10, 3, none⟩ = some (.int .i64 c2) ∧ W5.drew.cell? ⟨g10, 4, none⟩ = some (.int .i64 d2) := five_of hB
    clear hB
    refine wp_regionE' 14 (fun w' => w'.cell? ⟨g10, 0, none⟩ = some (.pointer (some ⟨w.heap.size + 1 + 1 + 1, 4, none⟩)) ∧ w'.cell? ⟨g10, 1, none⟩ = some (.int .i64 a2) ∧ w'.cell? ⟨g10, 2, none⟩ = some (.int .i64 b2) ∧ w'.cell? ⟨g10, 3, none⟩ = some (.int .i64 c2) ∧ w'.cell? ⟨g10, 4, none⟩ = some (.int .i64 d2)) 14 #[false, false, false, false, false, false, false, false, false, false, false, false, false, false] (by kernel_rfl) (by kernel_rfl) (by kernel_rfl) ?_
    refine wpAnyE_tk (i := 0) (v := ?_) #[true, false, false, false, false, false, false, false, false, false, false, false, false, false] (some 37) rfl rfl (by kernel_rfl) (by kernel_rfl) (by kernel_rfl) (by kernel_rfl) (by kernel_rfl) (fun _ _ _ h => h) (Or.inl ⟨by rfl, ?_⟩) hS ?_
    rotate_left
    ·(intro w hSw; (try dsimp only at hSw); go_simp; all_goals with_reducible rfl)
    simp only [Act.put]
    refine wpAnyE_tk (i := 1) (v := ?_) #[true, true, false, false, false, false, false, false, false, false, false, false, false, false] (some 38) rfl rfl (by kernel_rfl) (by kernel_rfl) (by kernel_rfl) (by kernel_rfl) (by kernel_rfl) (fun _ _ _ h => h) (Or.inl ⟨by rfl, ?_⟩) hS ?_
    rotate_left
    ·(intro w hSw; (try dsimp only at hSw); go_simp; all_goals with_reducible rfl)
    simp only [Act.put]
    refine wpAnyE_tk (i := 2) (v := ?_) #[true, true, true, false, false, false, false, false, false, false, false, false, false, false] (some 39) rfl rfl (by kernel_rfl) (by kernel_rfl) (by kernel_rfl) (by kernel_rfl) (by kernel_rfl) (fun _ _ _ h => h) (Or.inl ⟨by rfl, ?_⟩) hS ?_
    rotate_left
    ·(intro w hSw; (try dsimp only at hSw); go_simp; all_goals with_reducible rfl)
    simp only [Act.put]
    refine wpAnyE_tk (i := 3) (v := ?_) #[true, true, true, true, false, false, false, false, false, false, false, false, false, false] (some 40) rfl rfl (by kernel_rfl) (by kernel_rfl) (by kernel_rfl) (by kernel_rfl) (by kernel_rfl) (fun _ _ _ h => h) (Or.inl ⟨by rfl, ?_⟩) hS ?_
    rotate_left
    ·(intro w hSw; (try dsimp only at hSw); go_simp; all_goals with_reducible rfl)
    simp only [Act.put]
    refine wpAnyE_tk (i := 4) (v := ?_) #[true, true, true, true, true, false, false, false, false, false, false, false, false, false] (some 41) rfl rfl (by kernel_rfl) (by kernel_rfl) (by kernel_rfl) (by kernel_rfl) (by kernel_rfl) (fun _ _ _ h => h) (Or.inl ⟨by rfl, ?_⟩) hS ?_
    rotate_left
    ·(intro w hSw; (try dsimp only at hSw); go_simp; all_goals with_reducible rfl)
    simp only [Act.put]
    refine wpAnyE_tk (i := 5) (v := ?_) #[true, true, true, true, true, true, false, false, false, false, false, false, false, false] (some 42) rfl rfl (by kernel_rfl) (by kernel_rfl) (by kernel_rfl) (by kernel_rfl) (by kernel_rfl) (fun _ _ _ h => h) (Or.inl ⟨by rfl, ?_⟩) hS ?_
    rotate_left
    ·(intro w hSw; (try dsimp only at hSw); go_simp; all_goals with_reducible rfl)
    simp only [Act.put]
    refine wpAnyE_tk (i := 6) (v := ?_) #[true, true, true, true, true, true, true, false, false, false, false, false, false, false] (some 43) rfl rfl (by kernel_rfl) (by kernel_rfl) (by kernel_rfl) (by kernel_rfl) (by kernel_rfl) (fun _ _ _ h => h) (Or.inl ⟨by rfl, ?_⟩) hS ?_
    rotate_left
    ·(intro w hSw; (try dsimp only at hSw); go_simp; all_goals with_reducible rfl)
    simp only [Act.put]
    clear hS
    obtain ⟨WD, hWD⟩ : ∃ X, X = W5.drew := ⟨_, rfl⟩
    rw [← hWD] at HD ⊢
    clear hWD HM5
    rcases H2.out with ⟨hR, hF⟩ | ⟨hR, hF⟩
    ·have HF := Lib.hid hF
     clear hF
     refine wpAnyE_ready (rs := [7]) (by kernel_rfl) (by simp) ?_
     refine AllE.cons' (o := _) #[true, true, true, true, true, true, true, true, false, false, false, false, false, false] rfl (by kernel_rfl) (fun K hK => ?_) AllE.nil
     go_simp
     refine (HF.out _).mono ?_
     rintro e W1 ⟨rfl, hb⟩
     dsimp only
     have H6 := Lib.hid (HD.out.step hb)
     refine hK.out _ _ (fun _ => five_of (H6.out.at_ 3 rfl)) ?_
     clear hK K hb
     try simp only [Act.put]
     have hS : W1.cell? ⟨g10, 0, none⟩ = some (.pointer (some ⟨w.heap.size + 1 + 1 + 1, 4, none⟩)) ∧ W1.cell? ⟨g10, 1, none⟩ = some (.int .i64 a2) ∧ W1.cell? ⟨g10, 2, none⟩ = some (.int .i64 b2) ∧ W1.cell? ⟨g10, 3, none⟩ = some (.int .i64 c2) ∧ W1.cell? ⟨g10, 4, none⟩ = some (.int .i64 d2) := five_of (H6.out.at_ 3 rfl)
     refine wpAnyE_tk (i := 8) (v := ?_) #[true, true, true, true, true, true, true, true, true, false, false, false, false, false] (some 36) rfl rfl (by kernel_rfl) (by kernel_rfl) (by kernel_rfl) (by kernel_rfl) (by kernel_rfl) (fun _ _ _ h => h) (Or.inl ⟨by rfl, ?_⟩) hS ?_
     rotate_left
     ·(intro w hSw; (try dsimp only at hSw); go_simp; all_goals with_reducible rfl)
     simp only [Act.put]
     refine wpAnyE_tk (i := 9) (v := ?_) #[true, true, true, true, true, true, true, true, true, true, false, false, false, false] (some 45) rfl rfl (by kernel_rfl) (by kernel_rfl) (by kernel_rfl) (by kernel_rfl) (by kernel_rfl) (fun _ _ _ h => h) (Or.inl ⟨by rfl, ?_⟩) hS ?_
     rotate_left
     ·(intro w hSw; (try dsimp only at hSw); go_simp; all_goals with_reducible rfl)
     simp only [Act.put]
     refine wpAnyE_tk (i := 10) (v := ?_) #[true, true, true, true, true, true, true, true, true, true, true, false, false, false] (some 46) rfl rfl (by kernel_rfl) (by kernel_rfl) (by kernel_rfl) (by kernel_rfl) (by kernel_rfl) (fun _ _ _ h => h) (Or.inl ⟨by rfl, ?_⟩) hS ?_
     rotate_left
     ·(intro w hSw; (try dsimp only at hSw); go_simp; all_goals with_reducible rfl)
     simp only [Act.put]
     have e0 := (H6.out.at_ 1 rfl).cell 4
     have e1 := (H6.out.at_ 1 rfl).cell 5
     have f0 := (H6.out.at_ 1 rfl).frozen 4
     have f1 := (H6.out.at_ 1 rfl).frozen 5
     refine wpAnyE_tk (i := 11) (v := ?_) #[true, true, true, true, true, true, true, true, true, true, true, true, false, false] (some 47) rfl rfl (by kernel_rfl) (by kernel_rfl) (by kernel_rfl) (by kernel_rfl) (by kernel_rfl) (fun _ _ _ h => h) (Or.inl ⟨by rfl, ?_⟩) hS ?_
     rotate_left
     ·(intro w hSw; (try dsimp only at hSw); go_simp; all_goals with_reducible rfl)
     simp only [Act.put]
     clear hS
     refine wpAnyE_ready (rs := [12]) (by kernel_rfl) (by simp) ?_
     refine AllE.cons' (o := _) #[true, true, true, true, true, true, true, true, true, true, true, true, true, false] rfl (by kernel_rfl) (fun K hK => ?_) AllE.nil
     go_simp
     obtain ⟨X2, hX⟩ : ∃ X, X = (W1.setCell ⟨w.heap.size + 1 + 1 + 1, 4, none⟩ (.int .i64 p2)).setCell ⟨w.heap.size + 1 + 1 + 1, 5, none⟩ (.int .i64 q2) := ⟨_, rfl⟩
     rw [← hX]
     have hfin : Hp w [(w.heap.size + 1 + 1, 36, [.int .i64 0, .int .i64 0, .int .i64 0, .int .i64 0, .int .i64 0, .int .i64 0]), (w.heap.size + 1 + 1 + 1, 36, [.int .i64 p0, .int .i64 q0, .int .i64 p1, .int .i64 q1, .int .i64 p2, .int .i64 q2]), (w.heap.size + 1 + 1 + 1 + 1, 129, [.pointer (some ⟨w.heap.size + 1 + 1 + 1, 0, none⟩), .int .i64 a0, .int .i64 b0, .int .i64 c0, .int .i64 d0, .pointer (some ⟨w.heap.size + 1 + 1 + 1, 2, none⟩), .int .i64 a1, .int .i64 b1, .int .i64 c1, .int .i64 d1, .pointer (some ⟨w.heap.size + 1 + 1 + 1, 4, none⟩), .int .i64 a2, .int .i64 b2, .int .i64 c2, .int .i64 d2])] X2 := by
      rw [hX]
      exact ((H6.out.put 1 rfl 4 (.int .i64 p2)).put 1 rfl 5 (.int .i64 q2)).sub (L' := [(w.heap.size + 1 + 1, 36, [.int .i64 0, .int .i64 0, .int .i64 0, .int .i64 0, .int .i64 0, .int .i64 0]), (w.heap.size + 1 + 1 + 1, 36, [.int .i64 p0, .int .i64 q0, .int .i64 p1, .int .i64 q1, .int .i64 p2, .int .i64 q2]), (w.heap.size + 1 + 1 + 1 + 1, 129, [.pointer (some ⟨w.heap.size + 1 + 1 + 1, 0, none⟩), .int .i64 a0, .int .i64 b0, .int .i64 c0, .int .i64 d0, .pointer (some ⟨w.heap.size + 1 + 1 + 1, 2, none⟩), .int .i64 a1, .int .i64 b1, .int .i64 c1, .int .i64 d1, .pointer (some ⟨w.heap.size + 1 + 1 + 1, 4, none⟩), .int .i64 a2, .int .i64 b2, .int .i64 c2, .int .i64 d2])]) (by simp)
     have HFIN := Lib.hid hfin
     have hs2 : X2.cell? ⟨g10, 0, none⟩ = some (.pointer (some ⟨w.heap.size + 1 + 1 + 1, 4, none⟩)) ∧ X2.cell? ⟨g10, 1, none⟩ = some (.int .i64 a2) ∧ X2.cell? ⟨g10, 2, none⟩ = some (.int .i64 b2) ∧ X2.cell? ⟨g10, 3, none⟩ = some (.int .i64 c2) ∧ X2.cell? ⟨g10, 4, none⟩ = some (.int .i64 d2) := by
      rw [hX]
      exact five_of (((H6.out.put 1 rfl 4 (.int .i64 p2)).put 1 rfl 5 (.int .i64 q2)).at_ 3 rfl)
     refine hK.out _ _ (fun _ => hs2) ?_
     have hS := hs2
     clear hK K hX e0 e1 f0 f1 hfin hs2
     try simp only [Act.put]
     refine wpAnyE_tk (i := 13) (v := ?_) #[true, true, true, true, true, true, true, true, true, true, true, true, true, true] (some 11) rfl rfl (by kernel_rfl) (by kernel_rfl) (by kernel_rfl) (by kernel_rfl) (by kernel_rfl) (fun _ _ _ h => h) (Or.inl ⟨by rfl, ?_⟩) hS ?_
     rotate_left
     ·(intro w hSw; (try dsimp only at hSw); go_simp; all_goals with_reducible rfl)
     simp only [Act.put]
     clear hS
     refine wpAnyE_done (by kernel_rfl) ?_ _
     have HRL := Lib.hid (show EaRel w 129 a0 b0 a1 b1 a2 b2 c0 d0 c1 d1 c2 d2 p0 q0 p1 q1 p2 q2 (.int .i64 ((2 + 1 : Nat) : Int)) X2 from ⟨2 + 1, by omega, rfl, HFIN.out⟩)
     go_wp2_with fail
     go_roundw
     case rel => exact HRL.out
     case measure => simp [intOf]
    ·have HF := Lib.hid hF
     clear hF
     refine wpAnyE_ready (rs := [7]) (by kernel_rfl) (by simp) ?_
     refine AllE.cons' (o := _) #[true, true, true, true, true, true, true, true, false, false, false, false, false, false] rfl (by kernel_rfl) (fun K hK => ?_) AllE.nil
     go_simp
     refine (HF.out _).mono ?_
     rintro e W1 ⟨rfl, hb⟩
     dsimp only
     have H6 := Lib.hid (HD.out.step hb)
     refine hK.out _ _ (fun _ => five_of (H6.out.at_ 3 rfl)) ?_
     clear hK K hb
     try simp only [Act.put]
     have hS : W1.cell? ⟨g10, 0, none⟩ = some (.pointer (some ⟨w.heap.size + 1 + 1 + 1, 4, none⟩)) ∧ W1.cell? ⟨g10, 1, none⟩ = some (.int .i64 a2) ∧ W1.cell? ⟨g10, 2, none⟩ = some (.int .i64 b2) ∧ W1.cell? ⟨g10, 3, none⟩ = some (.int .i64 c2) ∧ W1.cell? ⟨g10, 4, none⟩ = some (.int .i64 d2) := five_of (H6.out.at_ 3 rfl)
     refine wpAnyE_tk (i := 8) (v := ?_) #[true, true, true, true, true, true, true, true, true, false, false, false, false, false] (some 36) rfl rfl (by kernel_rfl) (by kernel_rfl) (by kernel_rfl) (by kernel_rfl) (by kernel_rfl) (fun _ _ _ h => h) (Or.inl ⟨by rfl, ?_⟩) hS ?_
     rotate_left
     ·(intro w hSw; (try dsimp only at hSw); go_simp; all_goals with_reducible rfl)
     simp only [Act.put]
     refine wpAnyE_tk (i := 9) (v := ?_) #[true, true, true, true, true, true, true, true, true, true, false, false, false, false] (some 45) rfl rfl (by kernel_rfl) (by kernel_rfl) (by kernel_rfl) (by kernel_rfl) (by kernel_rfl) (fun _ _ _ h => h) (Or.inl ⟨by rfl, ?_⟩) hS ?_
     rotate_left
     ·(intro w hSw; (try dsimp only at hSw); go_simp; all_goals with_reducible rfl)
     simp only [Act.put]
     refine wpAnyE_tk (i := 10) (v := ?_) #[true, true, true, true, true, true, true, true, true, true, true, false, false, false] (some 46) rfl rfl (by kernel_rfl) (by kernel_rfl) (by kernel_rfl) (by kernel_rfl) (by kernel_rfl) (fun _ _ _ h => h) (Or.inl ⟨by rfl, ?_⟩) hS ?_
     rotate_left
     ·(intro w hSw; (try dsimp only at hSw); go_simp; all_goals with_reducible rfl)
     simp only [Act.put]
     have e0 := (H6.out.at_ 1 rfl).cell 4
     have e1 := (H6.out.at_ 1 rfl).cell 5
     have f0 := (H6.out.at_ 1 rfl).frozen 4
     have f1 := (H6.out.at_ 1 rfl).frozen 5
     refine wpAnyE_tk (i := 11) (v := ?_) #[true, true, true, true, true, true, true, true, true, true, true, true, false, false] (some 47) rfl rfl (by kernel_rfl) (by kernel_rfl) (by kernel_rfl) (by kernel_rfl) (by kernel_rfl) (fun _ _ _ h => h) (Or.inl ⟨by rfl, ?_⟩) hS ?_
     rotate_left
     ·(intro w hSw; (try dsimp only at hSw); go_simp; all_goals with_reducible rfl)
     simp only [Act.put]
     clear hS
     refine wpAnyE_ready (rs := [12]) (by kernel_rfl) (by simp) ?_
     refine AllE.cons' (o := _) #[true, true, true, true, true, true, true, true, true, true, true, true, true, false] rfl (by kernel_rfl) (fun K hK => ?_) AllE.nil
     go_simp
     obtain ⟨X2, hX⟩ : ∃ X, X = (W1.setCell ⟨w.heap.size + 1 + 1 + 1, 4, none⟩ (.int .i64 0)).setCell ⟨w.heap.size + 1 + 1 + 1, 5, none⟩ (.int .i64 0) := ⟨_, rfl⟩
     rw [← hX]
     have hfin : Hp w [(w.heap.size + 1 + 1, 36, [.int .i64 0, .int .i64 0, .int .i64 0, .int .i64 0, .int .i64 0, .int .i64 0]), (w.heap.size + 1 + 1 + 1, 36, [.int .i64 p0, .int .i64 q0, .int .i64 p1, .int .i64 q1, .int .i64 0, .int .i64 0]), (w.heap.size + 1 + 1 + 1 + 1, 129, [.pointer (some ⟨w.heap.size + 1 + 1 + 1, 0, none⟩), .int .i64 a0, .int .i64 b0, .int .i64 c0, .int .i64 d0, .pointer (some ⟨w.heap.size + 1 + 1 + 1, 2, none⟩), .int .i64 a1, .int .i64 b1, .int .i64 c1, .int .i64 d1, .pointer (some ⟨w.heap.size + 1 + 1 + 1, 4, none⟩), .int .i64 a2, .int .i64 b2, .int .i64 c2, .int .i64 d2])] X2 := by
      rw [hX]
      exact ((H6.out.put 1 rfl 4 (.int .i64 0)).put 1 rfl 5 (.int .i64 0)).sub (L' := [(w.heap.size + 1 + 1, 36, [.int .i64 0, .int .i64 0, .int .i64 0, .int .i64 0, .int .i64 0, .int .i64 0]), (w.heap.size + 1 + 1 + 1, 36, [.int .i64 p0, .int .i64 q0, .int .i64 p1, .int .i64 q1, .int .i64 0, .int .i64 0]), (w.heap.size + 1 + 1 + 1 + 1, 129, [.pointer (some ⟨w.heap.size + 1 + 1 + 1, 0, none⟩), .int .i64 a0, .int .i64 b0, .int .i64 c0, .int .i64 d0, .pointer (some ⟨w.heap.size + 1 + 1 + 1, 2, none⟩), .int .i64 a1, .int .i64 b1, .int .i64 c1, .int .i64 d1, .pointer (some ⟨w.heap.size + 1 + 1 + 1, 4, none⟩), .int .i64 a2, .int .i64 b2, .int .i64 c2, .int .i64 d2])]) (by simp)
     have HFIN := Lib.hid hfin
     have hs2 : X2.cell? ⟨g10, 0, none⟩ = some (.pointer (some ⟨w.heap.size + 1 + 1 + 1, 4, none⟩)) ∧ X2.cell? ⟨g10, 1, none⟩ = some (.int .i64 a2) ∧ X2.cell? ⟨g10, 2, none⟩ = some (.int .i64 b2) ∧ X2.cell? ⟨g10, 3, none⟩ = some (.int .i64 c2) ∧ X2.cell? ⟨g10, 4, none⟩ = some (.int .i64 d2) := by
      rw [hX]
      exact five_of (((H6.out.put 1 rfl 4 (.int .i64 0)).put 1 rfl 5 (.int .i64 0)).at_ 3 rfl)
     refine hK.out _ _ (fun _ => hs2) ?_
     have hS := hs2
     clear hK K hX e0 e1 f0 f1 hfin hs2
     try simp only [Act.put]
     refine wpAnyE_tk (i := 13) (v := ?_) #[true, true, true, true, true, true, true, true, true, true, true, true, true, true] (some 11) rfl rfl (by kernel_rfl) (by kernel_rfl) (by kernel_rfl) (by kernel_rfl) (by kernel_rfl) (fun _ _ _ h => h) (Or.inl ⟨by rfl, ?_⟩) hS ?_
     rotate_left
     ·(intro w hSw; (try dsimp only at hSw); go_simp; all_goals with_reducible rfl)
     simp only [Act.put]
     clear hS
     refine wpAnyE_done (by kernel_rfl) ?_ _
     obtain ⟨e0, e1, e2, e3, e4, e5⟩ := six_of (HFIN.out.at_ 0 rfl)
     obtain ⟨f0, f1, f2, f3, f4, f5⟩ := six_free (HFIN.out.at_ 0 rfl)
     go_wp2
     obtain ⟨WZ, hWZ⟩ : ∃ WZ, WZ = (((((X2.setCell ⟨w.heap.size + 1 + 1, 0, none⟩ (.int .i64 0)).setCell ⟨w.heap.size + 1 + 1, 1, none⟩ (.int .i64 0)).setCell ⟨w.heap.size + 1 + 1, 2, none⟩ (.int .i64 0)).setCell ⟨w.heap.size + 1 + 1, 3, none⟩ (.int .i64 0)).setCell ⟨w.heap.size + 1 + 1, 4, none⟩ (.int .i64 0)).setCell ⟨w.heap.size + 1 + 1, 5, none⟩ (.int .i64 0) := ⟨_, rfl⟩
     have hz := HFIN.out.put6 0 rfl (.int .i64 0) (.int .i64 0) (.int .i64 0) (.int .i64 0) (.int .i64 0) (.int .i64 0)
     rw [← hWZ] at hz ⊢
     obtain ⟨g0, g1, g2, g3, g4, g5⟩ := six_of (hz.at_ 0 rfl)
     have hv : ivR p0 q0 p1 q1 p2 q2 = .tuple #[szv 0 0 0 0 0 0, .int .i64 4] := by
      unfold ivR
      rw [if_neg]
      rw [ivE_num (q := (p2, q2)) (by simp) hR]
      decide
     rw [hv]
     exact bodyPost_ret (v := .tuple #[szv 0 0 0 0 0 0, .int .i64 4]) (by simp [g0, g1, g2, g3, g4, g5, results, Tryz.results65, go_sem]) rfl ⟨rfl, hz.below⟩
  ·obtain rfl : k = 3 := by omega
   have HM2 : Hid (Hp w [(w.heap.size + 1 + 1, 36, [.int .i64 0, .int .i64 0, .int .i64 0, .int .i64 0, .int .i64 0, .int .i64 0]), (w.heap.size + 1 + 1 + 1, 36, [.int .i64 p0, .int .i64 q0, .int .i64 p1, .int .i64 q1, .int .i64 p2, .int .i64 q2]), (w.heap.size + 1 + 1 + 1 + 1, 129, [.pointer (some ⟨w.heap.size + 1 + 1 + 1, 0, none⟩), .int .i64 a0, .int .i64 b0, .int .i64 c0, .int .i64 d0, .pointer (some ⟨w.heap.size + 1 + 1 + 1, 2, none⟩), .int .i64 a1, .int .i64 b1, .int .i64 c1, .int .i64 d1, .pointer (some ⟨w.heap.size + 1 + 1 + 1, 4, none⟩), .int .i64 a2, .int .i64 b2, .int .i64 c2, .int .i64 d2])] wr) := HM.out
   clear HM H0 H1 H2
   obtain ⟨c0, c1, c2, c3, c4, c5⟩ := six_of (HM2.out.at_ 1 rfl)
   go_wp2_with fail
   refine (HR.out _).mono ?_
   rintro e W1 ⟨rfl, hb⟩
   have HM3 := Lib.hid (HM2.out.step hb)
   clear hb HM2
   obtain ⟨r0, r1, r2, r3, r4, r5, q, hrr⟩ : ∃ s0 s1 s2 s3 s4 s5 q, ivR p0 q0 p1 q1 p2 q2 = .tuple #[szv s0 s1 s2 s3 s4 s5, .int .i64 q] := by
    unfold ivR; split
    ·exact ⟨_, _, _, _, _, _, _, rfl⟩
    ·exact ⟨_, _, _, _, _, _, _, rfl⟩
   have HRR := Lib.hid hrr
   rw [hrr]
   clear hrr
   obtain ⟨e0, e1, e2, e3, e4, e5⟩ := six_of (HM3.out.at_ 0 rfl)
   obtain ⟨f0, f1, f2, f3, f4, f5⟩ := six_free (HM3.out.at_ 0 rfl)
   go_wp2
   obtain ⟨WZ, hWZ⟩ : ∃ WZ, WZ = (((((W1.setCell ⟨w.heap.size + 1 + 1, 0, none⟩ (.int .i64 r0)).setCell ⟨w.heap.size + 1 + 1, 1, none⟩ (.int .i64 r1)).setCell ⟨w.heap.size + 1 + 1, 2, none⟩ (.int .i64 r2)).setCell ⟨w.heap.size + 1 + 1, 3, none⟩ (.int .i64 r3)).setCell ⟨w.heap.size + 1 + 1, 4, none⟩ (.int .i64 r4)).setCell ⟨w.heap.size + 1 + 1, 5, none⟩ (.int .i64 r5) := ⟨_, rfl⟩
   have hz := HM3.out.put6 0 rfl (.int .i64 r0) (.int .i64 r1) (.int .i64 r2) (.int .i64 r3) (.int .i64 r4) (.int .i64 r5)
   rw [← hWZ] at hz ⊢
   obtain ⟨g0, g1, g2, g3, g4, g5⟩ := six_of (hz.at_ 0 rfl)
   exact bodyPost_ret (v := .tuple #[szv r0 r1 r2 r3 r4 r5, .int .i64 q]) (by simp [g0, g1, g2, g3, g4, g5, results, Tryz.results65, go_sem]) rfl ⟨by rw [HRR.out], hz.below⟩
theorem ieachAdd_any (a0 b0 a1 b1 a2 b2 c0 d0 c1 d1 c2 d2 p0 q0 p1 q1 p2 q2 : Int) (w : World)
  (h0 : EaFn 67 a0 b0 c0 d0 p0 q0) (h1 : EaFn 67 a1 b1 c1 d1 p1 q1) (h2 : EaFn 67 a2 b2 c2 d2 p2 q2) (i0 : I64 p0) (i1 : I64 q0) (i2 : I64 p1) (i3 : I64 q1) (i4 : I64 p2) (i5 : I64 q2) :
  Calls Tryz.prog 65 #[szv a0 b0 a1 b1 a2 b2, szv c0 d0 c1 d1 c2 d2, (.func (.func 67) #[] #[])] w fun e w' => e = .returned (ivR p0 q0 p1 q1 p2 q2) ∧ Below w.heap.size w w' :=
 ieach_any 67 (fun args w => by kernel_rfl) a0 b0 a1 b1 a2 b2 c0 d0 c1 d1 c2 d2 p0 q0 p1 q1 p2 q2 w h0 h1 h2 i0 i1 i2 i3 i4 i5
theorem ieachSub_any (a0 b0 a1 b1 a2 b2 c0 d0 c1 d1 c2 d2 p0 q0 p1 q1 p2 q2 : Int) (w : World)
  (h0 : EaFn 62 a0 b0 c0 d0 p0 q0) (h1 : EaFn 62 a1 b1 c1 d1 p1 q1) (h2 : EaFn 62 a2 b2 c2 d2 p2 q2) (i0 : I64 p0) (i1 : I64 q0) (i2 : I64 p1) (i3 : I64 q1) (i4 : I64 p2) (i5 : I64 q2) :
  Calls Tryz.prog 65 #[szv a0 b0 a1 b1 a2 b2, szv c0 d0 c1 d1 c2 d2, (.func (.func 62) #[] #[])] w fun e w' => e = .returned (ivR p0 q0 p1 q1 p2 q2) ∧ Below w.heap.size w w' :=
 ieach_any 62 (fun args w => by kernel_rfl) a0 b0 a1 b1 a2 b2 c0 d0 c1 d1 c2 d2 p0 q0 p1 q1 p2 q2 w h0 h1 h2 i0 i1 i2 i3 i4 i5
theorem ieachMul_any (a0 b0 a1 b1 a2 b2 c0 d0 c1 d1 c2 d2 p0 q0 p1 q1 p2 q2 : Int) (w : World)
  (h0 : EaFn 61 a0 b0 c0 d0 p0 q0) (h1 : EaFn 61 a1 b1 c1 d1 p1 q1) (h2 : EaFn 61 a2 b2 c2 d2 p2 q2) (i0 : I64 p0) (i1 : I64 q0) (i2 : I64 p1) (i3 : I64 q1) (i4 : I64 p2) (i5 : I64 q2) :
  Calls Tryz.prog 65 #[szv a0 b0 a1 b1 a2 b2, szv c0 d0 c1 d1 c2 d2, (.func (.func 61) #[] #[])] w fun e w' => e = .returned (ivR p0 q0 p1 q1 p2 q2) ∧ Below w.heap.size w w' :=
 ieach_any 61 (fun args w => by kernel_rfl) a0 b0 a1 b1 a2 b2 c0 d0 c1 d1 c2 d2 p0 q0 p1 q1 p2 q2 w h0 h1 h2 i0 i1 i2 i3 i4 i5
end Go.Proofs.YtlmheeommpbimaaGreatDoor
