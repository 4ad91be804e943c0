/- Package bombarderef05: Write. Conditions: ints, a denominator from 1. Printed by genwrite.py. -/
import Derived.Test.YtplonkeipdbchaaGreatDoorIvCheck
import Derived.Test.YtplonkeipdbchaaGreatDoorRef05
import Derived.Test.YtplonkeipdbchaaGreatDoorRegE
namespace Go.Proofs.YtplonkeipdbchaaGreatDoor
open Go.RowKit

/-- Exponents over a denominator, in one value. -/
abbrev ovv (x y z D : Int) : Value := .agg #[.int .i64 x, .int .i64 y, .int .i64 z, .int .i64 D]
/-- What Write carries: the box of its argument, the zero result, the array. -/
def WrB (w : World) (n0 n1 n2 D : Int) (cs : List Value) (W : World) : Prop :=
  Blk W w.heap.size 28 [.int .i64 n0, .int .i64 n1, .int .i64 n2, .int .i64 D] ∧ Blk W (w.heap.size + 1) 40 [.int .i64 0, .int .i64 0, .int .i64 0, .int .i64 0, .int .i64 0, .int .i64 0] ∧
  Blk W (w.heap.size + 1 + 1) 40 cs ∧ Below w.heap.size w W
abbrev WrM (w : World) (n0 n1 n2 D : Int) (a b c d e f : Int) (W : World) : Prop := WrB w n0 n1 n2 D [.int .i64 a, .int .i64 b, .int .i64 c, .int .i64 d, .int .i64 e, .int .i64 f] W
section
variable {w W W' : World} {n0 n1 n2 D : Int} {cs cs' : List Value}
theorem WrB.below (h : WrB w n0 n1 n2 D cs W) (hb : Below W.heap.size W W') : WrB w n0 n1 n2 D cs W' := ⟨h.1.below hb h.1.lt, h.2.1.below hb h.2.1.lt, h.2.2.1.below hb h.2.2.1.lt, h.2.2.2.trans (hb.mono h.2.2.2.size)⟩
theorem WrB.drew (h : WrB w n0 n1 n2 D cs W) : WrB w n0 n1 n2 D cs W.drew := h.below (bw_drew (Below.refl _ _))
theorem WrB.put2 (h : WrB w n0 n1 n2 D cs W) (k : Nat) (u v : Value) (e : (cs.set k u).set (k + 1) v = cs') : WrB w n0 n1 n2 D cs' ((W.setCell ⟨w.heap.size + 1 + 1, k, none⟩ u).setCell ⟨w.heap.size + 1 + 1, k + 1, none⟩ v) := by
  subst e
  have e1 : w.heap.size ≠ w.heap.size + 1 + 1 := by omega
  have e2 : w.heap.size + 1 ≠ w.heap.size + 1 + 1 := by omega
  exact ⟨(h.1.far (p := ⟨w.heap.size + 1 + 1, k, none⟩) e1 _).far (p := ⟨w.heap.size + 1 + 1, k + 1, none⟩) e1 _, (h.2.1.far (p := ⟨w.heap.size + 1 + 1, k, none⟩) e2 _).far (p := ⟨w.heap.size + 1 + 1, k + 1, none⟩) e2 _, (h.2.2.1.put k u).put (k + 1) v, bw_set (bw_set h.2.2.2 (by omega) _) (by omega) _⟩
end
def WrRel (w : World) (n0 n1 n2 D : Int) (i : Value) (W : World) : Prop :=
  ∃ k : Nat, k ≤ 3 ∧ i = .int .i64 (k : Int) ∧ WrM w n0 n1 n2 D (if 0 < k then lowN n0 D else 0) (if 0 < k then lowD n0 D else 0) (if 1 < k then lowN n1 D else 0) (if 1 < k then lowD n1 D else 0) (if 2 < k then lowN n2 D else 0) (if 2 < k then lowD n2 D else 0) W
set_option maxRecDepth 100000 in
set_option maxHeartbeats 4000000 in
theorem write_any (n0 n1 n2 D : Int) (w : World) (h0 : -4611686018427387904 ≤ n0 ∧ n0 ≤ 4611686018427387904) (h1 : -4611686018427387904 ≤ n1 ∧ n1 ≤ 4611686018427387904) (h2 : -4611686018427387904 ≤ n2 ∧ n2 ≤ 4611686018427387904) (hD : 0 < D) (hD2 : D ≤ 4611686018427387904) :
    Calls Tryz.prog 12 #[ovv n0 n1 n2 D] w fun e w' => e = .returned (szv (lowN n0 D) (lowD n0 D) (lowN n1 D) (lowD n1 D) (lowN n2 D) (lowD n2 D)) ∧ Below w.heap.size w w' := by
  have HL := Lib.hid (fun (n : Int) (W : World) (a : -4611686018427387904 ≤ n ∧ n ≤ 4611686018427387904) => lowest_any n D W a.1 a.2 hD hD2)
  have HN0 := Lib.hid h0
  have HN1 := Lib.hid h1
  have HN2 := Lib.hid h2
  clear h0 h1 h2 hD hD2
  have hM0 : WrM w n0 n1 n2 D 0 0 0 0 0 0 (((w.alloc (.cells #[.int .i64 n0, .int .i64 n1, .int .i64 n2, .int .i64 D] 28)).alloc (.cells #[.int .i64 0, .int .i64 0, .int .i64 0, .int .i64 0, .int .i64 0, .int .i64 0] 40)).alloc (.cells #[.int .i64 0, .int .i64 0, .int .i64 0, .int .i64 0, .int .i64 0, .int .i64 0] 40)) := by
    refine ⟨Blk.alloc (t := 28) (cs := [.int .i64 n0, .int .i64 n1, .int .i64 n2, .int .i64 D]) (Blk.alloc (t := 28) (cs := [.int .i64 n0, .int .i64 n1, .int .i64 n2, .int .i64 D]) (heap_alloc_new w _) _) _, ?_, ?_, bw_new (bw_new (bw_new (Below.refl _ _) _) _) _⟩
    · have := heap_alloc_new (w.alloc (.cells #[.int .i64 n0, .int .i64 n1, .int .i64 n2, .int .i64 D] 28)) (.cells #[.int .i64 0, .int .i64 0, .int .i64 0, .int .i64 0, .int .i64 0, .int .i64 0] 40)
      rw [World.size_alloc] at this
      exact Blk.alloc (t := 40) (cs := [.int .i64 0, .int .i64 0, .int .i64 0, .int .i64 0, .int .i64 0, .int .i64 0]) this _
    · have := heap_alloc_new ((w.alloc (.cells #[.int .i64 n0, .int .i64 n1, .int .i64 n2, .int .i64 D] 28)).alloc (.cells #[.int .i64 0, .int .i64 0, .int .i64 0, .int .i64 0, .int .i64 0, .int .i64 0] 40)) (.cells #[.int .i64 0, .int .i64 0, .int .i64 0, .int .i64 0, .int .i64 0, .int .i64 0] 40)
      rw [World.size_alloc, World.size_alloc] at this
      exact this
  have HM0 := Lib.hid hM0
  clear hM0
  go_enter Tryz.func12, Tryz.ntmps12
  go_wp2_with fail
  go_loopw [4] (fun i wr => WrRel w n0 n1 n2 D i wr) (fun i _ => 3 - (intOf i).toNat)
  case atStart => exact ⟨0, by omega, rfl, HM0.out⟩
  case round =>
    clear HM0
    obtain ⟨k, hk, rfl, hm⟩ := hrel
    have HM := Lib.hid hm
    clear hm
    by_cases hlt : k < 3
    · rcases (show k = 0 ∨ k = 1 ∨ k = 2 by omega) with rfl | rfl | rfl
      · have HM2 : Hid (WrM w n0 n1 n2 D 0 0 0 0 0 0 wr) := HM.out
        clear HM
        have hB : Blk wr w.heap.size 28 [.int .i64 n0, .int .i64 n1, .int .i64 n2, .int .i64 D] := HM2.out.1
        go_wp2_with fail
        have HD : Hid (WrM w n0 n1 n2 D 0 0 0 0 0 0 wr.drew) := HM2.out.drew
        have hS : wr.drew.cell? ⟨w.heap.size, 0, none⟩ = some (.int .i64 n0) ∧ wr.drew.cell? ⟨w.heap.size, 3, none⟩ = some (.int .i64 D) := ⟨hB.cell 0, hB.cell 3⟩
        clear hB
        refine wp_regionE' 9 (fun w' => w'.cell? ⟨w.heap.size, 0, none⟩ = some (.int .i64 n0) ∧ w'.cell? ⟨w.heap.size, 3, none⟩ = some (.int .i64 D)) 10 #[false, false, false, false, false, false, false, false, false, false] (by kernel_rfl) (by kernel_rfl) (by kernel_rfl) ?_
        refine wpAnyE_tk (i := 0) (v := ?_) #[true, false, false, false, false, false, false, false, false, false] (some 9) rfl rfl (by kernel_rfl) (by kernel_rfl) (by kernel_rfl) (by kernel_rfl) (by kernel_rfl) (fun _ _ _ h => h) (Or.inl ⟨by rfl, ?_⟩) hS ?_
        rotate_left
        · (intro w hSw; (try dsimp only at hSw); go_simp; all_goals with_reducible rfl)
        simp only [Act.put]
        refine wpAnyE_tk (i := 1) (v := ?_) #[true, true, false, false, false, false, false, false, false, false] (some 10) rfl rfl (by kernel_rfl) (by kernel_rfl) (by kernel_rfl) (by kernel_rfl) (by kernel_rfl) (fun _ _ _ h => h) (Or.inl ⟨by rfl, ?_⟩) hS ?_
        rotate_left
        · (intro w hSw; (try dsimp only at hSw); go_simp; all_goals with_reducible rfl)
        simp only [Act.put]
        refine wpAnyE_tk (i := 2) (v := ?_) #[true, true, true, false, false, false, false, false, false, false] (some 11) rfl rfl (by kernel_rfl) (by kernel_rfl) (by kernel_rfl) (by kernel_rfl) (by kernel_rfl) (fun _ _ _ h => h) (Or.inl ⟨by rfl, ?_⟩) hS ?_
        rotate_left
        · (intro w hSw; (try dsimp only at hSw); go_simp; all_goals with_reducible rfl)
        simp only [Act.put]
        refine wpAnyE_tk (i := 3) (v := ?_) #[true, true, true, true, false, false, false, false, false, false] (some 12) rfl rfl (by kernel_rfl) (by kernel_rfl) (by kernel_rfl) (by kernel_rfl) (by kernel_rfl) (fun _ _ _ h => h) (Or.inl ⟨by rfl, ?_⟩) hS ?_
        rotate_left
        · (intro w hSw; (try dsimp only at hSw); go_simp; all_goals with_reducible rfl)
        simp only [Act.put]
        refine wpAnyE_tk (i := 4) (v := ?_) #[true, true, true, true, true, false, false, false, false, false] (some 13) rfl rfl (by kernel_rfl) (by kernel_rfl) (by kernel_rfl) (by kernel_rfl) (by kernel_rfl) (fun _ _ _ h => h) (Or.inl ⟨by rfl, ?_⟩) hS ?_
        rotate_left
        · (intro w hSw; (try dsimp only at hSw); go_simp; all_goals with_reducible rfl)
        simp only [Act.put]
        refine wpAnyE_tk (i := 5) (v := ?_) #[true, true, true, true, true, true, false, false, false, false] (some 14) rfl rfl (by kernel_rfl) (by kernel_rfl) (by kernel_rfl) (by kernel_rfl) (by kernel_rfl) (fun _ _ _ h => h) (Or.inl ⟨by rfl, ?_⟩) hS ?_
        rotate_left
        · (intro w hSw; (try dsimp only at hSw); go_simp; all_goals with_reducible rfl)
        simp only [Act.put]
        refine wpAnyE_tk (i := 6) (v := ?_) #[true, true, true, true, true, true, true, false, false, false] (some 15) rfl rfl (by kernel_rfl) (by kernel_rfl) (by kernel_rfl) (by kernel_rfl) (by kernel_rfl) (fun _ _ _ h => h) (Or.inl ⟨by rfl, ?_⟩) hS ?_
        rotate_left
        · (intro w hSw; (try dsimp only at hSw); go_simp; all_goals with_reducible rfl)
        simp only [Act.put]
        clear hS
        obtain ⟨WD, hWD⟩ : ∃ X, X = wr.drew := ⟨_, rfl⟩
        rw [← hWD] at HD ⊢
        clear hWD HM2
        refine wpAnyE_ready (rs := [7]) (by kernel_rfl) (by simp) ?_
        refine AllE.cons' (o := _) #[true, true, true, true, true, true, true, true, false, false] rfl (by kernel_rfl) (fun K hK => ?_) AllE.nil
        go_simp
        refine (HL.out n0 _ HN0.out).mono ?_
        rintro e W1 ⟨rfl, hb⟩
        dsimp only
        have H1 := Lib.hid (HD.out.below hb)
        refine hK.out _ _ (fun _ => ⟨H1.out.1.cell 0, H1.out.1.cell 3⟩) ?_
        clear hK K hb
        try simp only [Act.put]
        have hS : W1.cell? ⟨w.heap.size, 0, none⟩ = some (.int .i64 n0) ∧ W1.cell? ⟨w.heap.size, 3, none⟩ = some (.int .i64 D) := ⟨H1.out.1.cell 0, H1.out.1.cell 3⟩
        refine wpAnyE_tk (i := 8) (v := ?_) #[true, true, true, true, true, true, true, true, true, false] (some 17) rfl rfl (by kernel_rfl) (by kernel_rfl) (by kernel_rfl) (by kernel_rfl) (by kernel_rfl) (fun _ _ _ h => h) (Or.inl ⟨by rfl, ?_⟩) hS ?_
        rotate_left
        · (intro w hSw; (try dsimp only at hSw); go_simp; all_goals with_reducible rfl)
        simp only [Act.put]
        clear hS
        have q0 := H1.out.2.2.1.cell 0
        have q1 := H1.out.2.2.1.cell 1
        have f0 := H1.out.2.2.1.frozen 0
        have f1 := H1.out.2.2.1.frozen 1
        refine wpAnyE_ready (rs := [9]) (by kernel_rfl) (by simp) ?_
        refine AllE.cons' (o := _) #[true, true, true, true, true, true, true, true, true, true] rfl (by kernel_rfl) (fun K hK => ?_) AllE.nil
        go_simp
        obtain ⟨X2, hX⟩ : ∃ X, X = (W1.setCell ⟨w.heap.size + 1 + 1, 0, none⟩ (.int .i64 (lowN n0 D))).setCell ⟨w.heap.size + 1 + 1, 1, none⟩ (.int .i64 (lowD n0 D)) := ⟨_, rfl⟩
        rw [← hX]
        have hfin : WrRel w n0 n1 n2 D (.int .i64 ((0 + 1 : Nat) : Int)) X2 := by
          rw [hX]
          exact ⟨0 + 1, by omega, rfl, H1.out.put2 0 (.int .i64 (lowN n0 D)) (.int .i64 (lowD n0 D)) rfl⟩
        have HFIN := Lib.hid hfin
        refine hK.out _ _ (fun h => absurd rfl h) ?_
        clear hK K hX q0 q1 f0 f1 hfin
        try simp only [Act.put]
        refine wpAnyE_done (by kernel_rfl) ?_ _
        go_wp2_with fail
        go_roundw
        case rel => exact HFIN.out
        case measure => simp [intOf]
      · have HM2 : Hid (WrM w n0 n1 n2 D (lowN n0 D) (lowD n0 D) 0 0 0 0 wr) := HM.out
        clear HM
        have hB : Blk wr w.heap.size 28 [.int .i64 n0, .int .i64 n1, .int .i64 n2, .int .i64 D] := HM2.out.1
        go_wp2_with fail
        have HD : Hid (WrM w n0 n1 n2 D (lowN n0 D) (lowD n0 D) 0 0 0 0 wr.drew) := HM2.out.drew
        have hS : wr.drew.cell? ⟨w.heap.size, 1, none⟩ = some (.int .i64 n1) ∧ wr.drew.cell? ⟨w.heap.size, 3, none⟩ = some (.int .i64 D) := ⟨hB.cell 1, hB.cell 3⟩
        clear hB
        refine wp_regionE' 9 (fun w' => w'.cell? ⟨w.heap.size, 1, none⟩ = some (.int .i64 n1) ∧ w'.cell? ⟨w.heap.size, 3, none⟩ = some (.int .i64 D)) 10 #[false, false, false, false, false, false, false, false, false, false] (by kernel_rfl) (by kernel_rfl) (by kernel_rfl) ?_
        refine wpAnyE_tk (i := 0) (v := ?_) #[true, false, false, false, false, false, false, false, false, false] (some 9) rfl rfl (by kernel_rfl) (by kernel_rfl) (by kernel_rfl) (by kernel_rfl) (by kernel_rfl) (fun _ _ _ h => h) (Or.inl ⟨by rfl, ?_⟩) hS ?_
        rotate_left
        · (intro w hSw; (try dsimp only at hSw); go_simp; all_goals with_reducible rfl)
        simp only [Act.put]
        refine wpAnyE_tk (i := 1) (v := ?_) #[true, true, false, false, false, false, false, false, false, false] (some 10) rfl rfl (by kernel_rfl) (by kernel_rfl) (by kernel_rfl) (by kernel_rfl) (by kernel_rfl) (fun _ _ _ h => h) (Or.inl ⟨by rfl, ?_⟩) hS ?_
        rotate_left
        · (intro w hSw; (try dsimp only at hSw); go_simp; all_goals with_reducible rfl)
        simp only [Act.put]
        refine wpAnyE_tk (i := 2) (v := ?_) #[true, true, true, false, false, false, false, false, false, false] (some 11) rfl rfl (by kernel_rfl) (by kernel_rfl) (by kernel_rfl) (by kernel_rfl) (by kernel_rfl) (fun _ _ _ h => h) (Or.inl ⟨by rfl, ?_⟩) hS ?_
        rotate_left
        · (intro w hSw; (try dsimp only at hSw); go_simp; all_goals with_reducible rfl)
        simp only [Act.put]
        refine wpAnyE_tk (i := 3) (v := ?_) #[true, true, true, true, false, false, false, false, false, false] (some 12) rfl rfl (by kernel_rfl) (by kernel_rfl) (by kernel_rfl) (by kernel_rfl) (by kernel_rfl) (fun _ _ _ h => h) (Or.inl ⟨by rfl, ?_⟩) hS ?_
        rotate_left
        · (intro w hSw; (try dsimp only at hSw); go_simp; all_goals with_reducible rfl)
        simp only [Act.put]
        refine wpAnyE_tk (i := 4) (v := ?_) #[true, true, true, true, true, false, false, false, false, false] (some 13) rfl rfl (by kernel_rfl) (by kernel_rfl) (by kernel_rfl) (by kernel_rfl) (by kernel_rfl) (fun _ _ _ h => h) (Or.inl ⟨by rfl, ?_⟩) hS ?_
        rotate_left
        · (intro w hSw; (try dsimp only at hSw); go_simp; all_goals with_reducible rfl)
        simp only [Act.put]
        refine wpAnyE_tk (i := 5) (v := ?_) #[true, true, true, true, true, true, false, false, false, false] (some 14) rfl rfl (by kernel_rfl) (by kernel_rfl) (by kernel_rfl) (by kernel_rfl) (by kernel_rfl) (fun _ _ _ h => h) (Or.inl ⟨by rfl, ?_⟩) hS ?_
        rotate_left
        · (intro w hSw; (try dsimp only at hSw); go_simp; all_goals with_reducible rfl)
        simp only [Act.put]
        refine wpAnyE_tk (i := 6) (v := ?_) #[true, true, true, true, true, true, true, false, false, false] (some 15) rfl rfl (by kernel_rfl) (by kernel_rfl) (by kernel_rfl) (by kernel_rfl) (by kernel_rfl) (fun _ _ _ h => h) (Or.inl ⟨by rfl, ?_⟩) hS ?_
        rotate_left
        · (intro w hSw; (try dsimp only at hSw); go_simp; all_goals with_reducible rfl)
        simp only [Act.put]
        clear hS
        obtain ⟨WD, hWD⟩ : ∃ X, X = wr.drew := ⟨_, rfl⟩
        rw [← hWD] at HD ⊢
        clear hWD HM2
        refine wpAnyE_ready (rs := [7]) (by kernel_rfl) (by simp) ?_
        refine AllE.cons' (o := _) #[true, true, true, true, true, true, true, true, false, false] rfl (by kernel_rfl) (fun K hK => ?_) AllE.nil
        go_simp
        refine (HL.out n1 _ HN1.out).mono ?_
        rintro e W1 ⟨rfl, hb⟩
        dsimp only
        have H1 := Lib.hid (HD.out.below hb)
        refine hK.out _ _ (fun _ => ⟨H1.out.1.cell 1, H1.out.1.cell 3⟩) ?_
        clear hK K hb
        try simp only [Act.put]
        have hS : W1.cell? ⟨w.heap.size, 1, none⟩ = some (.int .i64 n1) ∧ W1.cell? ⟨w.heap.size, 3, none⟩ = some (.int .i64 D) := ⟨H1.out.1.cell 1, H1.out.1.cell 3⟩
        refine wpAnyE_tk (i := 8) (v := ?_) #[true, true, true, true, true, true, true, true, true, false] (some 17) rfl rfl (by kernel_rfl) (by kernel_rfl) (by kernel_rfl) (by kernel_rfl) (by kernel_rfl) (fun _ _ _ h => h) (Or.inl ⟨by rfl, ?_⟩) hS ?_
        rotate_left
        · (intro w hSw; (try dsimp only at hSw); go_simp; all_goals with_reducible rfl)
        simp only [Act.put]
        clear hS
        have q0 := H1.out.2.2.1.cell 2
        have q1 := H1.out.2.2.1.cell 3
        have f0 := H1.out.2.2.1.frozen 2
        have f1 := H1.out.2.2.1.frozen 3
        refine wpAnyE_ready (rs := [9]) (by kernel_rfl) (by simp) ?_
        refine AllE.cons' (o := _) #[true, true, true, true, true, true, true, true, true, true] rfl (by kernel_rfl) (fun K hK => ?_) AllE.nil
        go_simp
        obtain ⟨X2, hX⟩ : ∃ X, X = (W1.setCell ⟨w.heap.size + 1 + 1, 2, none⟩ (.int .i64 (lowN n1 D))).setCell ⟨w.heap.size + 1 + 1, 3, none⟩ (.int .i64 (lowD n1 D)) := ⟨_, rfl⟩
        rw [← hX]
        have hfin : WrRel w n0 n1 n2 D (.int .i64 ((1 + 1 : Nat) : Int)) X2 := by
          rw [hX]
          exact ⟨1 + 1, by omega, rfl, H1.out.put2 2 (.int .i64 (lowN n1 D)) (.int .i64 (lowD n1 D)) rfl⟩
        have HFIN := Lib.hid hfin
        refine hK.out _ _ (fun h => absurd rfl h) ?_
        clear hK K hX q0 q1 f0 f1 hfin
        try simp only [Act.put]
        refine wpAnyE_done (by kernel_rfl) ?_ _
        go_wp2_with fail
        go_roundw
        case rel => exact HFIN.out
        case measure => simp [intOf]
      · have HM2 : Hid (WrM w n0 n1 n2 D (lowN n0 D) (lowD n0 D) (lowN n1 D) (lowD n1 D) 0 0 wr) := HM.out
        clear HM
        have hB : Blk wr w.heap.size 28 [.int .i64 n0, .int .i64 n1, .int .i64 n2, .int .i64 D] := HM2.out.1
        go_wp2_with fail
        have HD : Hid (WrM w n0 n1 n2 D (lowN n0 D) (lowD n0 D) (lowN n1 D) (lowD n1 D) 0 0 wr.drew) := HM2.out.drew
        have hS : wr.drew.cell? ⟨w.heap.size, 2, none⟩ = some (.int .i64 n2) ∧ wr.drew.cell? ⟨w.heap.size, 3, none⟩ = some (.int .i64 D) := ⟨hB.cell 2, hB.cell 3⟩
        clear hB
        refine wp_regionE' 9 (fun w' => w'.cell? ⟨w.heap.size, 2, none⟩ = some (.int .i64 n2) ∧ w'.cell? ⟨w.heap.size, 3, none⟩ = some (.int .i64 D)) 10 #[false, false, false, false, false, false, false, false, false, false] (by kernel_rfl) (by kernel_rfl) (by kernel_rfl) ?_
        refine wpAnyE_tk (i := 0) (v := ?_) #[true, false, false, false, false, false, false, false, false, false] (some 9) rfl rfl (by kernel_rfl) (by kernel_rfl) (by kernel_rfl) (by kernel_rfl) (by kernel_rfl) (fun _ _ _ h => h) (Or.inl ⟨by rfl, ?_⟩) hS ?_
        rotate_left
        · (intro w hSw; (try dsimp only at hSw); go_simp; all_goals with_reducible rfl)
        simp only [Act.put]
        refine wpAnyE_tk (i := 1) (v := ?_) #[true, true, false, false, false, false, false, false, false, false] (some 10) rfl rfl (by kernel_rfl) (by kernel_rfl) (by kernel_rfl) (by kernel_rfl) (by kernel_rfl) (fun _ _ _ h => h) (Or.inl ⟨by rfl, ?_⟩) hS ?_
        rotate_left
        · (intro w hSw; (try dsimp only at hSw); go_simp; all_goals with_reducible rfl)
        simp only [Act.put]
        refine wpAnyE_tk (i := 2) (v := ?_) #[true, true, true, false, false, false, false, false, false, false] (some 11) rfl rfl (by kernel_rfl) (by kernel_rfl) (by kernel_rfl) (by kernel_rfl) (by kernel_rfl) (fun _ _ _ h => h) (Or.inl ⟨by rfl, ?_⟩) hS ?_
        rotate_left
        · (intro w hSw; (try dsimp only at hSw); go_simp; all_goals with_reducible rfl)
        simp only [Act.put]
        refine wpAnyE_tk (i := 3) (v := ?_) #[true, true, true, true, false, false, false, false, false, false] (some 12) rfl rfl (by kernel_rfl) (by kernel_rfl) (by kernel_rfl) (by kernel_rfl) (by kernel_rfl) (fun _ _ _ h => h) (Or.inl ⟨by rfl, ?_⟩) hS ?_
        rotate_left
        · (intro w hSw; (try dsimp only at hSw); go_simp; all_goals with_reducible rfl)
        simp only [Act.put]
        refine wpAnyE_tk (i := 4) (v := ?_) #[true, true, true, true, true, false, false, false, false, false] (some 13) rfl rfl (by kernel_rfl) (by kernel_rfl) (by kernel_rfl) (by kernel_rfl) (by kernel_rfl) (fun _ _ _ h => h) (Or.inl ⟨by rfl, ?_⟩) hS ?_
        rotate_left
        · (intro w hSw; (try dsimp only at hSw); go_simp; all_goals with_reducible rfl)
        simp only [Act.put]
        refine wpAnyE_tk (i := 5) (v := ?_) #[true, true, true, true, true, true, false, false, false, false] (some 14) rfl rfl (by kernel_rfl) (by kernel_rfl) (by kernel_rfl) (by kernel_rfl) (by kernel_rfl) (fun _ _ _ h => h) (Or.inl ⟨by rfl, ?_⟩) hS ?_
        rotate_left
        · (intro w hSw; (try dsimp only at hSw); go_simp; all_goals with_reducible rfl)
        simp only [Act.put]
        refine wpAnyE_tk (i := 6) (v := ?_) #[true, true, true, true, true, true, true, false, false, false] (some 15) rfl rfl (by kernel_rfl) (by kernel_rfl) (by kernel_rfl) (by kernel_rfl) (by kernel_rfl) (fun _ _ _ h => h) (Or.inl ⟨by rfl, ?_⟩) hS ?_
        rotate_left
        · (intro w hSw; (try dsimp only at hSw); go_simp; all_goals with_reducible rfl)
        simp only [Act.put]
        clear hS
        obtain ⟨WD, hWD⟩ : ∃ X, X = wr.drew := ⟨_, rfl⟩
        rw [← hWD] at HD ⊢
        clear hWD HM2
        refine wpAnyE_ready (rs := [7]) (by kernel_rfl) (by simp) ?_
        refine AllE.cons' (o := _) #[true, true, true, true, true, true, true, true, false, false] rfl (by kernel_rfl) (fun K hK => ?_) AllE.nil
        go_simp
        refine (HL.out n2 _ HN2.out).mono ?_
        rintro e W1 ⟨rfl, hb⟩
        dsimp only
        have H1 := Lib.hid (HD.out.below hb)
        refine hK.out _ _ (fun _ => ⟨H1.out.1.cell 2, H1.out.1.cell 3⟩) ?_
        clear hK K hb
        try simp only [Act.put]
        have hS : W1.cell? ⟨w.heap.size, 2, none⟩ = some (.int .i64 n2) ∧ W1.cell? ⟨w.heap.size, 3, none⟩ = some (.int .i64 D) := ⟨H1.out.1.cell 2, H1.out.1.cell 3⟩
        refine wpAnyE_tk (i := 8) (v := ?_) #[true, true, true, true, true, true, true, true, true, false] (some 17) rfl rfl (by kernel_rfl) (by kernel_rfl) (by kernel_rfl) (by kernel_rfl) (by kernel_rfl) (fun _ _ _ h => h) (Or.inl ⟨by rfl, ?_⟩) hS ?_
        rotate_left
        · (intro w hSw; (try dsimp only at hSw); go_simp; all_goals with_reducible rfl)
        simp only [Act.put]
        clear hS
        have q0 := H1.out.2.2.1.cell 4
        have q1 := H1.out.2.2.1.cell 5
        have f0 := H1.out.2.2.1.frozen 4
        have f1 := H1.out.2.2.1.frozen 5
        refine wpAnyE_ready (rs := [9]) (by kernel_rfl) (by simp) ?_
        refine AllE.cons' (o := _) #[true, true, true, true, true, true, true, true, true, true] rfl (by kernel_rfl) (fun K hK => ?_) AllE.nil
        go_simp
        obtain ⟨X2, hX⟩ : ∃ X, X = (W1.setCell ⟨w.heap.size + 1 + 1, 4, none⟩ (.int .i64 (lowN n2 D))).setCell ⟨w.heap.size + 1 + 1, 5, none⟩ (.int .i64 (lowD n2 D)) := ⟨_, rfl⟩
        rw [← hX]
        have hfin : WrRel w n0 n1 n2 D (.int .i64 ((2 + 1 : Nat) : Int)) X2 := by
          rw [hX]
          exact ⟨2 + 1, by omega, rfl, H1.out.put2 4 (.int .i64 (lowN n2 D)) (.int .i64 (lowD n2 D)) rfl⟩
        have HFIN := Lib.hid hfin
        refine hK.out _ _ (fun h => absurd rfl h) ?_
        clear hK K hX q0 q1 f0 f1 hfin
        try simp only [Act.put]
        refine wpAnyE_done (by kernel_rfl) ?_ _
        go_wp2_with fail
        go_roundw
        case rel => exact HFIN.out
        case measure => simp [intOf]
    · obtain rfl : k = 3 := by omega
      have HM2 : Hid (WrM w n0 n1 n2 D (lowN n0 D) (lowD n0 D) (lowN n1 D) (lowD n1 D) (lowN n2 D) (lowD n2 D) wr) := HM.out
      clear HM
      obtain ⟨c0, c1, c2, c3, c4, c5⟩ := six_of HM2.out.2.2.1
      obtain ⟨e0, e1, e2, e3, e4, e5⟩ := six_of HM2.out.2.1
      obtain ⟨f0, f1, f2, f3, f4, f5⟩ := six_free HM2.out.2.1
      go_wp2
      obtain ⟨WZ, hWZ⟩ : ∃ WZ, WZ = ((((((wr.setCell ⟨w.heap.size + 1, 0, none⟩ (.int .i64 (lowN n0 D))).setCell ⟨w.heap.size + 1, 1, none⟩ (.int .i64 (lowD n0 D))).setCell ⟨w.heap.size + 1, 2, none⟩ (.int .i64 (lowN n1 D))).setCell ⟨w.heap.size + 1, 3, none⟩ (.int .i64 (lowD n1 D))).setCell ⟨w.heap.size + 1, 4, none⟩ (.int .i64 (lowN n2 D))).setCell ⟨w.heap.size + 1, 5, none⟩ (.int .i64 (lowD n2 D))) := ⟨_, rfl⟩
      obtain ⟨g0, g1, g2, g3, g4, g5⟩ := six_of (show Blk WZ _ _ _ by rw [hWZ]; exact six_put HM2.out.2.1 _ _ _ _ _ _)
      have hww : Below w.heap.size w WZ := by rw [hWZ]; exact six_below HM2.out.2.2.2 (by omega) _ _ _ _ _ _
      rw [← hWZ]
      exact bodyPost_ret (v := szv (lowN n0 D) (lowD n0 D) (lowN n1 D) (lowD n1 D) (lowN n2 D) (lowD n2 D)) (by simp [g0, g1, g2, g3, g4, g5, results, Tryz.results12, go_sem]) rfl ⟨rfl, hww⟩
end Go.Proofs.YtplonkeipdbchaaGreatDoor
