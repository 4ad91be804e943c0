/- Package bombarderef05: Named. Conditions: none. Printed by genrefnamed.py. -/
import Derived.Test.YtplonkeipdbchaaDoorRefRatio
import Derived.Test.YtplonkeipdbchaaDoorIvNamed
namespace Go.Proofs.YtplonkeipdbchaaDoor
open Go.RowKit

theorem bytes_lit (s : ByteArray) (l : List UInt8) : (s.toList == l) = decide (s = ⟨l.toArray⟩) := by
  rw [ByteArray.toList_eq, Bool.eq_iff_iff]
  simp only [beq_iff_eq, decide_eq_true_eq]
  constructor
  · intro h
    apply ByteArray.ext
    apply Array.toList_inj.1
    simpa using h
  · rintro rfl; simp
/-- What the reference's Named returns. -/
def RrNamed (k : ByteArray) (w : World) (e : Ending) (w' : World) : Prop :=
  match nmGet k nmTab with
  | none => e = .returned (.tuple #[ovv 0 0 0 0, .bool false]) ∧ Below w.heap.size w w'
  | some q => RrRet (q.1 / Nat.gcd q.1 q.2) (q.2 / Nat.gcd q.1 q.2) w e w'
theorem RrRet.tup {n d : Nat} {w w' : World} {e : Ending} (h : RrRet n d w e w') : ∃ r0 r1 r2 q, e = .returned (.tuple #[ovv r0 r1 r2 1, .bool q]) := by
  obtain ⟨⟨rn, rd, a0, b0, a1, b1, a2, b2, _, _, _, _, he⟩, _⟩ := h
  exact ⟨_, _, _, _, he⟩
set_option maxRecDepth 100000 in
set_option maxHeartbeats 8000000 in
theorem refnamed_any (k : ByteArray) (w : World) :
    Calls Tryd.prog 13 #[.string k] w (RrNamed k w) := by
  have hM0 : Hp w [(w.heap.size, 34, [.int .i64 0, .int .i64 0, .int .i64 0, .int .i64 0])] (w.alloc (.cells #[.int .i64 0, .int .i64 0, .int .i64 0, .int .i64 0] 34)) := (Hp.start w).new 34 [.int .i64 0, .int .i64 0, .int .i64 0, .int .i64 0]
  have HM := Lib.hid hM0
  clear hM0
  by_cases h0 : k = ⟨#[117, 110, 105, 115, 111, 110]⟩
  · have HR := Lib.hid (fun W => refratio_any 1 1 W (by decide) (by decide) (by decide) (by decide))
    have HRT := Lib.hid (show ∀ e W, RrRet (1 / Nat.gcd 1 1) (1 / Nat.gcd 1 1) w e W → RrNamed k w e W from fun e W h => by unfold RrNamed; rw [show nmGet k nmTab = some (1, 1) from by rw [h0]; decide]; exact h)
    have g0 : (k.toList == [117, 110, 105, 115, 111, 110]) = true := by rw [bytes_lit]; exact decide_eq_true h0
    clear h0
    go_enter Tryd.func13, Tryd.ntmps13
    go_wp2_with fail
    refine (HR.out _).mono ?_
    intro e W' hret
    have HM2 := Lib.hid (HM.out.step hret.2)
    obtain ⟨r0, r1, r2, q, rfl⟩ := hret.tup
    have HRET := Lib.hid hret.1
    clear hret
    obtain ⟨e0, e1, e2, e3⟩ := four_of (HM2.out.at_ 0 rfl)
    obtain ⟨f0, f1, f2, f3⟩ := four_free (HM2.out.at_ 0 rfl)
    go_wp2
    obtain ⟨WZ, hWZ⟩ : ∃ WZ, WZ = ((((W'.setCell ⟨w.heap.size, 0, none⟩ (.int .i64 r0)).setCell ⟨w.heap.size, 1, none⟩ (.int .i64 r1)).setCell ⟨w.heap.size, 2, none⟩ (.int .i64 r2)).setCell ⟨w.heap.size, 3, none⟩ (.int .i64 1)) := ⟨_, rfl⟩
    have hz := HM2.out.put4 0 rfl (.int .i64 r0) (.int .i64 r1) (.int .i64 r2) (.int .i64 1)
    rw [← hWZ] at hz ⊢
    obtain ⟨g0, g1, g2, g3⟩ := four_of (hz.at_ 0 rfl)
    exact bodyPost_ret (v := .tuple #[ovv r0 r1 r2 1, .bool q]) (by simp [g0, g1, g2, g3, results, Tryd.results13, go_sem]) rfl (HRT.out _ _ ⟨HRET.out, hz.below⟩)
  · skip
    by_cases h1 : k = ⟨#[111, 99, 116, 97, 118, 101]⟩
    · have HR := Lib.hid (fun W => refratio_any 2 1 W (by decide) (by decide) (by decide) (by decide))
      have HRT := Lib.hid (show ∀ e W, RrRet (2 / Nat.gcd 2 1) (1 / Nat.gcd 2 1) w e W → RrNamed k w e W from fun e W h => by unfold RrNamed; rw [show nmGet k nmTab = some (2, 1) from by rw [h1]; decide]; exact h)
      have g0 : (k.toList == [117, 110, 105, 115, 111, 110]) = false := by rw [bytes_lit]; exact decide_eq_false h0
      have g1 : (k.toList == [111, 99, 116, 97, 118, 101]) = true := by rw [bytes_lit]; exact decide_eq_true h1
      clear h0 h1
      go_enter Tryd.func13, Tryd.ntmps13
      go_wp2_with fail
      refine (HR.out _).mono ?_
      intro e W' hret
      have HM2 := Lib.hid (HM.out.step hret.2)
      obtain ⟨r0, r1, r2, q, rfl⟩ := hret.tup
      have HRET := Lib.hid hret.1
      clear hret
      obtain ⟨e0, e1, e2, e3⟩ := four_of (HM2.out.at_ 0 rfl)
      obtain ⟨f0, f1, f2, f3⟩ := four_free (HM2.out.at_ 0 rfl)
      go_wp2
      obtain ⟨WZ, hWZ⟩ : ∃ WZ, WZ = ((((W'.setCell ⟨w.heap.size, 0, none⟩ (.int .i64 r0)).setCell ⟨w.heap.size, 1, none⟩ (.int .i64 r1)).setCell ⟨w.heap.size, 2, none⟩ (.int .i64 r2)).setCell ⟨w.heap.size, 3, none⟩ (.int .i64 1)) := ⟨_, rfl⟩
      have hz := HM2.out.put4 0 rfl (.int .i64 r0) (.int .i64 r1) (.int .i64 r2) (.int .i64 1)
      rw [← hWZ] at hz ⊢
      obtain ⟨g0, g1, g2, g3⟩ := four_of (hz.at_ 0 rfl)
      exact bodyPost_ret (v := .tuple #[ovv r0 r1 r2 1, .bool q]) (by simp [g0, g1, g2, g3, results, Tryd.results13, go_sem]) rfl (HRT.out _ _ ⟨HRET.out, hz.below⟩)
    · skip
      by_cases h2 : k = ⟨#[102, 105, 102, 116, 104]⟩
      · have HR := Lib.hid (fun W => refratio_any 3 2 W (by decide) (by decide) (by decide) (by decide))
        have HRT := Lib.hid (show ∀ e W, RrRet (3 / Nat.gcd 3 2) (2 / Nat.gcd 3 2) w e W → RrNamed k w e W from fun e W h => by unfold RrNamed; rw [show nmGet k nmTab = some (3, 2) from by rw [h2]; decide]; exact h)
        have g0 : (k.toList == [117, 110, 105, 115, 111, 110]) = false := by rw [bytes_lit]; exact decide_eq_false h0
        have g1 : (k.toList == [111, 99, 116, 97, 118, 101]) = false := by rw [bytes_lit]; exact decide_eq_false h1
        have g2 : (k.toList == [102, 105, 102, 116, 104]) = true := by rw [bytes_lit]; exact decide_eq_true h2
        clear h0 h1 h2
        go_enter Tryd.func13, Tryd.ntmps13
        go_wp2_with fail
        refine (HR.out _).mono ?_
        intro e W' hret
        have HM2 := Lib.hid (HM.out.step hret.2)
        obtain ⟨r0, r1, r2, q, rfl⟩ := hret.tup
        have HRET := Lib.hid hret.1
        clear hret
        obtain ⟨e0, e1, e2, e3⟩ := four_of (HM2.out.at_ 0 rfl)
        obtain ⟨f0, f1, f2, f3⟩ := four_free (HM2.out.at_ 0 rfl)
        go_wp2
        obtain ⟨WZ, hWZ⟩ : ∃ WZ, WZ = ((((W'.setCell ⟨w.heap.size, 0, none⟩ (.int .i64 r0)).setCell ⟨w.heap.size, 1, none⟩ (.int .i64 r1)).setCell ⟨w.heap.size, 2, none⟩ (.int .i64 r2)).setCell ⟨w.heap.size, 3, none⟩ (.int .i64 1)) := ⟨_, rfl⟩
        have hz := HM2.out.put4 0 rfl (.int .i64 r0) (.int .i64 r1) (.int .i64 r2) (.int .i64 1)
        rw [← hWZ] at hz ⊢
        obtain ⟨g0, g1, g2, g3⟩ := four_of (hz.at_ 0 rfl)
        exact bodyPost_ret (v := .tuple #[ovv r0 r1 r2 1, .bool q]) (by simp [g0, g1, g2, g3, results, Tryd.results13, go_sem]) rfl (HRT.out _ _ ⟨HRET.out, hz.below⟩)
      · skip
        by_cases h3 : k = ⟨#[102, 111, 117, 114, 116, 104]⟩
        · have HR := Lib.hid (fun W => refratio_any 4 3 W (by decide) (by decide) (by decide) (by decide))
          have HRT := Lib.hid (show ∀ e W, RrRet (4 / Nat.gcd 4 3) (3 / Nat.gcd 4 3) w e W → RrNamed k w e W from fun e W h => by unfold RrNamed; rw [show nmGet k nmTab = some (4, 3) from by rw [h3]; decide]; exact h)
          have g0 : (k.toList == [117, 110, 105, 115, 111, 110]) = false := by rw [bytes_lit]; exact decide_eq_false h0
          have g1 : (k.toList == [111, 99, 116, 97, 118, 101]) = false := by rw [bytes_lit]; exact decide_eq_false h1
          have g2 : (k.toList == [102, 105, 102, 116, 104]) = false := by rw [bytes_lit]; exact decide_eq_false h2
          have g3 : (k.toList == [102, 111, 117, 114, 116, 104]) = true := by rw [bytes_lit]; exact decide_eq_true h3
          clear h0 h1 h2 h3
          go_enter Tryd.func13, Tryd.ntmps13
          go_wp2_with fail
          refine (HR.out _).mono ?_
          intro e W' hret
          have HM2 := Lib.hid (HM.out.step hret.2)
          obtain ⟨r0, r1, r2, q, rfl⟩ := hret.tup
          have HRET := Lib.hid hret.1
          clear hret
          obtain ⟨e0, e1, e2, e3⟩ := four_of (HM2.out.at_ 0 rfl)
          obtain ⟨f0, f1, f2, f3⟩ := four_free (HM2.out.at_ 0 rfl)
          go_wp2
          obtain ⟨WZ, hWZ⟩ : ∃ WZ, WZ = ((((W'.setCell ⟨w.heap.size, 0, none⟩ (.int .i64 r0)).setCell ⟨w.heap.size, 1, none⟩ (.int .i64 r1)).setCell ⟨w.heap.size, 2, none⟩ (.int .i64 r2)).setCell ⟨w.heap.size, 3, none⟩ (.int .i64 1)) := ⟨_, rfl⟩
          have hz := HM2.out.put4 0 rfl (.int .i64 r0) (.int .i64 r1) (.int .i64 r2) (.int .i64 1)
          rw [← hWZ] at hz ⊢
          obtain ⟨g0, g1, g2, g3⟩ := four_of (hz.at_ 0 rfl)
          exact bodyPost_ret (v := .tuple #[ovv r0 r1 r2 1, .bool q]) (by simp [g0, g1, g2, g3, results, Tryd.results13, go_sem]) rfl (HRT.out _ _ ⟨HRET.out, hz.below⟩)
        · skip
          by_cases h4 : k = ⟨#[116, 104, 105, 114, 100]⟩
          · have HR := Lib.hid (fun W => refratio_any 5 4 W (by decide) (by decide) (by decide) (by decide))
            have HRT := Lib.hid (show ∀ e W, RrRet (5 / Nat.gcd 5 4) (4 / Nat.gcd 5 4) w e W → RrNamed k w e W from fun e W h => by unfold RrNamed; rw [show nmGet k nmTab = some (5, 4) from by rw [h4]; decide]; exact h)
            have g0 : (k.toList == [117, 110, 105, 115, 111, 110]) = false := by rw [bytes_lit]; exact decide_eq_false h0
            have g1 : (k.toList == [111, 99, 116, 97, 118, 101]) = false := by rw [bytes_lit]; exact decide_eq_false h1
            have g2 : (k.toList == [102, 105, 102, 116, 104]) = false := by rw [bytes_lit]; exact decide_eq_false h2
            have g3 : (k.toList == [102, 111, 117, 114, 116, 104]) = false := by rw [bytes_lit]; exact decide_eq_false h3
            have g4 : (k.toList == [116, 104, 105, 114, 100]) = true := by rw [bytes_lit]; exact decide_eq_true h4
            clear h0 h1 h2 h3 h4
            go_enter Tryd.func13, Tryd.ntmps13
            go_wp2_with fail
            refine (HR.out _).mono ?_
            intro e W' hret
            have HM2 := Lib.hid (HM.out.step hret.2)
            obtain ⟨r0, r1, r2, q, rfl⟩ := hret.tup
            have HRET := Lib.hid hret.1
            clear hret
            obtain ⟨e0, e1, e2, e3⟩ := four_of (HM2.out.at_ 0 rfl)
            obtain ⟨f0, f1, f2, f3⟩ := four_free (HM2.out.at_ 0 rfl)
            go_wp2
            obtain ⟨WZ, hWZ⟩ : ∃ WZ, WZ = ((((W'.setCell ⟨w.heap.size, 0, none⟩ (.int .i64 r0)).setCell ⟨w.heap.size, 1, none⟩ (.int .i64 r1)).setCell ⟨w.heap.size, 2, none⟩ (.int .i64 r2)).setCell ⟨w.heap.size, 3, none⟩ (.int .i64 1)) := ⟨_, rfl⟩
            have hz := HM2.out.put4 0 rfl (.int .i64 r0) (.int .i64 r1) (.int .i64 r2) (.int .i64 1)
            rw [← hWZ] at hz ⊢
            obtain ⟨g0, g1, g2, g3⟩ := four_of (hz.at_ 0 rfl)
            exact bodyPost_ret (v := .tuple #[ovv r0 r1 r2 1, .bool q]) (by simp [g0, g1, g2, g3, results, Tryd.results13, go_sem]) rfl (HRT.out _ _ ⟨HRET.out, hz.below⟩)
          · skip
            by_cases h5 : k = ⟨#[109, 105, 110, 111, 114]⟩
            · have HR := Lib.hid (fun W => refratio_any 6 5 W (by decide) (by decide) (by decide) (by decide))
              have HRT := Lib.hid (show ∀ e W, RrRet (6 / Nat.gcd 6 5) (5 / Nat.gcd 6 5) w e W → RrNamed k w e W from fun e W h => by unfold RrNamed; rw [show nmGet k nmTab = some (6, 5) from by rw [h5]; decide]; exact h)
              have g0 : (k.toList == [117, 110, 105, 115, 111, 110]) = false := by rw [bytes_lit]; exact decide_eq_false h0
              have g1 : (k.toList == [111, 99, 116, 97, 118, 101]) = false := by rw [bytes_lit]; exact decide_eq_false h1
              have g2 : (k.toList == [102, 105, 102, 116, 104]) = false := by rw [bytes_lit]; exact decide_eq_false h2
              have g3 : (k.toList == [102, 111, 117, 114, 116, 104]) = false := by rw [bytes_lit]; exact decide_eq_false h3
              have g4 : (k.toList == [116, 104, 105, 114, 100]) = false := by rw [bytes_lit]; exact decide_eq_false h4
              have g5 : (k.toList == [109, 105, 110, 111, 114]) = true := by rw [bytes_lit]; exact decide_eq_true h5
              clear h0 h1 h2 h3 h4 h5
              go_enter Tryd.func13, Tryd.ntmps13
              go_wp2_with fail
              refine (HR.out _).mono ?_
              intro e W' hret
              have HM2 := Lib.hid (HM.out.step hret.2)
              obtain ⟨r0, r1, r2, q, rfl⟩ := hret.tup
              have HRET := Lib.hid hret.1
              clear hret
              obtain ⟨e0, e1, e2, e3⟩ := four_of (HM2.out.at_ 0 rfl)
              obtain ⟨f0, f1, f2, f3⟩ := four_free (HM2.out.at_ 0 rfl)
              go_wp2
              obtain ⟨WZ, hWZ⟩ : ∃ WZ, WZ = ((((W'.setCell ⟨w.heap.size, 0, none⟩ (.int .i64 r0)).setCell ⟨w.heap.size, 1, none⟩ (.int .i64 r1)).setCell ⟨w.heap.size, 2, none⟩ (.int .i64 r2)).setCell ⟨w.heap.size, 3, none⟩ (.int .i64 1)) := ⟨_, rfl⟩
              have hz := HM2.out.put4 0 rfl (.int .i64 r0) (.int .i64 r1) (.int .i64 r2) (.int .i64 1)
              rw [← hWZ] at hz ⊢
              obtain ⟨g0, g1, g2, g3⟩ := four_of (hz.at_ 0 rfl)
              exact bodyPost_ret (v := .tuple #[ovv r0 r1 r2 1, .bool q]) (by simp [g0, g1, g2, g3, results, Tryd.results13, go_sem]) rfl (HRT.out _ _ ⟨HRET.out, hz.below⟩)
            · skip
              by_cases h6 : k = ⟨#[116, 111, 110, 101]⟩
              · have HR := Lib.hid (fun W => refratio_any 9 8 W (by decide) (by decide) (by decide) (by decide))
                have HRT := Lib.hid (show ∀ e W, RrRet (9 / Nat.gcd 9 8) (8 / Nat.gcd 9 8) w e W → RrNamed k w e W from fun e W h => by unfold RrNamed; rw [show nmGet k nmTab = some (9, 8) from by rw [h6]; decide]; exact h)
                have g0 : (k.toList == [117, 110, 105, 115, 111, 110]) = false := by rw [bytes_lit]; exact decide_eq_false h0
                have g1 : (k.toList == [111, 99, 116, 97, 118, 101]) = false := by rw [bytes_lit]; exact decide_eq_false h1
                have g2 : (k.toList == [102, 105, 102, 116, 104]) = false := by rw [bytes_lit]; exact decide_eq_false h2
                have g3 : (k.toList == [102, 111, 117, 114, 116, 104]) = false := by rw [bytes_lit]; exact decide_eq_false h3
                have g4 : (k.toList == [116, 104, 105, 114, 100]) = false := by rw [bytes_lit]; exact decide_eq_false h4
                have g5 : (k.toList == [109, 105, 110, 111, 114]) = false := by rw [bytes_lit]; exact decide_eq_false h5
                have g6 : (k.toList == [116, 111, 110, 101]) = true := by rw [bytes_lit]; exact decide_eq_true h6
                clear h0 h1 h2 h3 h4 h5 h6
                go_enter Tryd.func13, Tryd.ntmps13
                go_wp2_with fail
                refine (HR.out _).mono ?_
                intro e W' hret
                have HM2 := Lib.hid (HM.out.step hret.2)
                obtain ⟨r0, r1, r2, q, rfl⟩ := hret.tup
                have HRET := Lib.hid hret.1
                clear hret
                obtain ⟨e0, e1, e2, e3⟩ := four_of (HM2.out.at_ 0 rfl)
                obtain ⟨f0, f1, f2, f3⟩ := four_free (HM2.out.at_ 0 rfl)
                go_wp2
                obtain ⟨WZ, hWZ⟩ : ∃ WZ, WZ = ((((W'.setCell ⟨w.heap.size, 0, none⟩ (.int .i64 r0)).setCell ⟨w.heap.size, 1, none⟩ (.int .i64 r1)).setCell ⟨w.heap.size, 2, none⟩ (.int .i64 r2)).setCell ⟨w.heap.size, 3, none⟩ (.int .i64 1)) := ⟨_, rfl⟩
                have hz := HM2.out.put4 0 rfl (.int .i64 r0) (.int .i64 r1) (.int .i64 r2) (.int .i64 1)
                rw [← hWZ] at hz ⊢
                obtain ⟨g0, g1, g2, g3⟩ := four_of (hz.at_ 0 rfl)
                exact bodyPost_ret (v := .tuple #[ovv r0 r1 r2 1, .bool q]) (by simp [g0, g1, g2, g3, results, Tryd.results13, go_sem]) rfl (HRT.out _ _ ⟨HRET.out, hz.below⟩)
              · skip
                by_cases h7 : k = ⟨#[115, 121, 110, 116, 111, 110, 105, 99]⟩
                · have HR := Lib.hid (fun W => refratio_any 81 80 W (by decide) (by decide) (by decide) (by decide))
                  have HRT := Lib.hid (show ∀ e W, RrRet (81 / Nat.gcd 81 80) (80 / Nat.gcd 81 80) w e W → RrNamed k w e W from fun e W h => by unfold RrNamed; rw [show nmGet k nmTab = some (81, 80) from by rw [h7]; decide]; exact h)
                  have g0 : (k.toList == [117, 110, 105, 115, 111, 110]) = false := by rw [bytes_lit]; exact decide_eq_false h0
                  have g1 : (k.toList == [111, 99, 116, 97, 118, 101]) = false := by rw [bytes_lit]; exact decide_eq_false h1
                  have g2 : (k.toList == [102, 105, 102, 116, 104]) = false := by rw [bytes_lit]; exact decide_eq_false h2
                  have g3 : (k.toList == [102, 111, 117, 114, 116, 104]) = false := by rw [bytes_lit]; exact decide_eq_false h3
                  have g4 : (k.toList == [116, 104, 105, 114, 100]) = false := by rw [bytes_lit]; exact decide_eq_false h4
                  have g5 : (k.toList == [109, 105, 110, 111, 114]) = false := by rw [bytes_lit]; exact decide_eq_false h5
                  have g6 : (k.toList == [116, 111, 110, 101]) = false := by rw [bytes_lit]; exact decide_eq_false h6
                  have g7 : (k.toList == [115, 121, 110, 116, 111, 110, 105, 99]) = true := by rw [bytes_lit]; exact decide_eq_true h7
                  clear h0 h1 h2 h3 h4 h5 h6 h7
                  go_enter Tryd.func13, Tryd.ntmps13
                  go_wp2_with fail
                  refine (HR.out _).mono ?_
                  intro e W' hret
                  have HM2 := Lib.hid (HM.out.step hret.2)
                  obtain ⟨r0, r1, r2, q, rfl⟩ := hret.tup
                  have HRET := Lib.hid hret.1
                  clear hret
                  obtain ⟨e0, e1, e2, e3⟩ := four_of (HM2.out.at_ 0 rfl)
                  obtain ⟨f0, f1, f2, f3⟩ := four_free (HM2.out.at_ 0 rfl)
                  go_wp2
                  obtain ⟨WZ, hWZ⟩ : ∃ WZ, WZ = ((((W'.setCell ⟨w.heap.size, 0, none⟩ (.int .i64 r0)).setCell ⟨w.heap.size, 1, none⟩ (.int .i64 r1)).setCell ⟨w.heap.size, 2, none⟩ (.int .i64 r2)).setCell ⟨w.heap.size, 3, none⟩ (.int .i64 1)) := ⟨_, rfl⟩
                  have hz := HM2.out.put4 0 rfl (.int .i64 r0) (.int .i64 r1) (.int .i64 r2) (.int .i64 1)
                  rw [← hWZ] at hz ⊢
                  obtain ⟨g0, g1, g2, g3⟩ := four_of (hz.at_ 0 rfl)
                  exact bodyPost_ret (v := .tuple #[ovv r0 r1 r2 1, .bool q]) (by simp [g0, g1, g2, g3, results, Tryd.results13, go_sem]) rfl (HRT.out _ _ ⟨HRET.out, hz.below⟩)
                · skip
                  by_cases h8 : k = ⟨#[112, 121, 116, 104, 97, 103, 111, 114, 101, 97, 110]⟩
                  · have HR := Lib.hid (fun W => refratio_any 531441 524288 W (by decide) (by decide) (by decide) (by decide))
                    have HRT := Lib.hid (show ∀ e W, RrRet (531441 / Nat.gcd 531441 524288) (524288 / Nat.gcd 531441 524288) w e W → RrNamed k w e W from fun e W h => by unfold RrNamed; rw [show nmGet k nmTab = some (531441, 524288) from by rw [h8]; decide]; exact h)
                    have g0 : (k.toList == [117, 110, 105, 115, 111, 110]) = false := by rw [bytes_lit]; exact decide_eq_false h0
                    have g1 : (k.toList == [111, 99, 116, 97, 118, 101]) = false := by rw [bytes_lit]; exact decide_eq_false h1
                    have g2 : (k.toList == [102, 105, 102, 116, 104]) = false := by rw [bytes_lit]; exact decide_eq_false h2
                    have g3 : (k.toList == [102, 111, 117, 114, 116, 104]) = false := by rw [bytes_lit]; exact decide_eq_false h3
                    have g4 : (k.toList == [116, 104, 105, 114, 100]) = false := by rw [bytes_lit]; exact decide_eq_false h4
                    have g5 : (k.toList == [109, 105, 110, 111, 114]) = false := by rw [bytes_lit]; exact decide_eq_false h5
                    have g6 : (k.toList == [116, 111, 110, 101]) = false := by rw [bytes_lit]; exact decide_eq_false h6
                    have g7 : (k.toList == [115, 121, 110, 116, 111, 110, 105, 99]) = false := by rw [bytes_lit]; exact decide_eq_false h7
                    have g8 : (k.toList == [112, 121, 116, 104, 97, 103, 111, 114, 101, 97, 110]) = true := by rw [bytes_lit]; exact decide_eq_true h8
                    clear h0 h1 h2 h3 h4 h5 h6 h7 h8
                    go_enter Tryd.func13, Tryd.ntmps13
                    go_wp2_with fail
                    refine (HR.out _).mono ?_
                    intro e W' hret
                    have HM2 := Lib.hid (HM.out.step hret.2)
                    obtain ⟨r0, r1, r2, q, rfl⟩ := hret.tup
                    have HRET := Lib.hid hret.1
                    clear hret
                    obtain ⟨e0, e1, e2, e3⟩ := four_of (HM2.out.at_ 0 rfl)
                    obtain ⟨f0, f1, f2, f3⟩ := four_free (HM2.out.at_ 0 rfl)
                    go_wp2
                    obtain ⟨WZ, hWZ⟩ : ∃ WZ, WZ = ((((W'.setCell ⟨w.heap.size, 0, none⟩ (.int .i64 r0)).setCell ⟨w.heap.size, 1, none⟩ (.int .i64 r1)).setCell ⟨w.heap.size, 2, none⟩ (.int .i64 r2)).setCell ⟨w.heap.size, 3, none⟩ (.int .i64 1)) := ⟨_, rfl⟩
                    have hz := HM2.out.put4 0 rfl (.int .i64 r0) (.int .i64 r1) (.int .i64 r2) (.int .i64 1)
                    rw [← hWZ] at hz ⊢
                    obtain ⟨g0, g1, g2, g3⟩ := four_of (hz.at_ 0 rfl)
                    exact bodyPost_ret (v := .tuple #[ovv r0 r1 r2 1, .bool q]) (by simp [g0, g1, g2, g3, results, Tryd.results13, go_sem]) rfl (HRT.out _ _ ⟨HRET.out, hz.below⟩)
                  · skip
                    by_cases h9 : k = ⟨#[115, 99, 104, 105, 115, 109, 97]⟩
                    · have HR := Lib.hid (fun W => refratio_any 32805 32768 W (by decide) (by decide) (by decide) (by decide))
                      have HRT := Lib.hid (show ∀ e W, RrRet (32805 / Nat.gcd 32805 32768) (32768 / Nat.gcd 32805 32768) w e W → RrNamed k w e W from fun e W h => by unfold RrNamed; rw [show nmGet k nmTab = some (32805, 32768) from by rw [h9]; decide]; exact h)
                      have g0 : (k.toList == [117, 110, 105, 115, 111, 110]) = false := by rw [bytes_lit]; exact decide_eq_false h0
                      have g1 : (k.toList == [111, 99, 116, 97, 118, 101]) = false := by rw [bytes_lit]; exact decide_eq_false h1
                      have g2 : (k.toList == [102, 105, 102, 116, 104]) = false := by rw [bytes_lit]; exact decide_eq_false h2
                      have g3 : (k.toList == [102, 111, 117, 114, 116, 104]) = false := by rw [bytes_lit]; exact decide_eq_false h3
                      have g4 : (k.toList == [116, 104, 105, 114, 100]) = false := by rw [bytes_lit]; exact decide_eq_false h4
                      have g5 : (k.toList == [109, 105, 110, 111, 114]) = false := by rw [bytes_lit]; exact decide_eq_false h5
                      have g6 : (k.toList == [116, 111, 110, 101]) = false := by rw [bytes_lit]; exact decide_eq_false h6
                      have g7 : (k.toList == [115, 121, 110, 116, 111, 110, 105, 99]) = false := by rw [bytes_lit]; exact decide_eq_false h7
                      have g8 : (k.toList == [112, 121, 116, 104, 97, 103, 111, 114, 101, 97, 110]) = false := by rw [bytes_lit]; exact decide_eq_false h8
                      have g9 : (k.toList == [115, 99, 104, 105, 115, 109, 97]) = true := by rw [bytes_lit]; exact decide_eq_true h9
                      clear h0 h1 h2 h3 h4 h5 h6 h7 h8 h9
                      go_enter Tryd.func13, Tryd.ntmps13
                      go_wp2_with fail
                      refine (HR.out _).mono ?_
                      intro e W' hret
                      have HM2 := Lib.hid (HM.out.step hret.2)
                      obtain ⟨r0, r1, r2, q, rfl⟩ := hret.tup
                      have HRET := Lib.hid hret.1
                      clear hret
                      obtain ⟨e0, e1, e2, e3⟩ := four_of (HM2.out.at_ 0 rfl)
                      obtain ⟨f0, f1, f2, f3⟩ := four_free (HM2.out.at_ 0 rfl)
                      go_wp2
                      obtain ⟨WZ, hWZ⟩ : ∃ WZ, WZ = ((((W'.setCell ⟨w.heap.size, 0, none⟩ (.int .i64 r0)).setCell ⟨w.heap.size, 1, none⟩ (.int .i64 r1)).setCell ⟨w.heap.size, 2, none⟩ (.int .i64 r2)).setCell ⟨w.heap.size, 3, none⟩ (.int .i64 1)) := ⟨_, rfl⟩
                      have hz := HM2.out.put4 0 rfl (.int .i64 r0) (.int .i64 r1) (.int .i64 r2) (.int .i64 1)
                      rw [← hWZ] at hz ⊢
                      obtain ⟨g0, g1, g2, g3⟩ := four_of (hz.at_ 0 rfl)
                      exact bodyPost_ret (v := .tuple #[ovv r0 r1 r2 1, .bool q]) (by simp [g0, g1, g2, g3, results, Tryd.results13, go_sem]) rfl (HRT.out _ _ ⟨HRET.out, hz.below⟩)
                    · skip
                      by_cases h10 : k = ⟨#[100, 105, 101, 115, 105, 115]⟩
                      · have HR := Lib.hid (fun W => refratio_any 128 125 W (by decide) (by decide) (by decide) (by decide))
                        have HRT := Lib.hid (show ∀ e W, RrRet (128 / Nat.gcd 128 125) (125 / Nat.gcd 128 125) w e W → RrNamed k w e W from fun e W h => by unfold RrNamed; rw [show nmGet k nmTab = some (128, 125) from by rw [h10]; decide]; exact h)
                        have g0 : (k.toList == [117, 110, 105, 115, 111, 110]) = false := by rw [bytes_lit]; exact decide_eq_false h0
                        have g1 : (k.toList == [111, 99, 116, 97, 118, 101]) = false := by rw [bytes_lit]; exact decide_eq_false h1
                        have g2 : (k.toList == [102, 105, 102, 116, 104]) = false := by rw [bytes_lit]; exact decide_eq_false h2
                        have g3 : (k.toList == [102, 111, 117, 114, 116, 104]) = false := by rw [bytes_lit]; exact decide_eq_false h3
                        have g4 : (k.toList == [116, 104, 105, 114, 100]) = false := by rw [bytes_lit]; exact decide_eq_false h4
                        have g5 : (k.toList == [109, 105, 110, 111, 114]) = false := by rw [bytes_lit]; exact decide_eq_false h5
                        have g6 : (k.toList == [116, 111, 110, 101]) = false := by rw [bytes_lit]; exact decide_eq_false h6
                        have g7 : (k.toList == [115, 121, 110, 116, 111, 110, 105, 99]) = false := by rw [bytes_lit]; exact decide_eq_false h7
                        have g8 : (k.toList == [112, 121, 116, 104, 97, 103, 111, 114, 101, 97, 110]) = false := by rw [bytes_lit]; exact decide_eq_false h8
                        have g9 : (k.toList == [115, 99, 104, 105, 115, 109, 97]) = false := by rw [bytes_lit]; exact decide_eq_false h9
                        have g10 : (k.toList == [100, 105, 101, 115, 105, 115]) = true := by rw [bytes_lit]; exact decide_eq_true h10
                        clear h0 h1 h2 h3 h4 h5 h6 h7 h8 h9 h10
                        go_enter Tryd.func13, Tryd.ntmps13
                        go_wp2_with fail
                        refine (HR.out _).mono ?_
                        intro e W' hret
                        have HM2 := Lib.hid (HM.out.step hret.2)
                        obtain ⟨r0, r1, r2, q, rfl⟩ := hret.tup
                        have HRET := Lib.hid hret.1
                        clear hret
                        obtain ⟨e0, e1, e2, e3⟩ := four_of (HM2.out.at_ 0 rfl)
                        obtain ⟨f0, f1, f2, f3⟩ := four_free (HM2.out.at_ 0 rfl)
                        go_wp2
                        obtain ⟨WZ, hWZ⟩ : ∃ WZ, WZ = ((((W'.setCell ⟨w.heap.size, 0, none⟩ (.int .i64 r0)).setCell ⟨w.heap.size, 1, none⟩ (.int .i64 r1)).setCell ⟨w.heap.size, 2, none⟩ (.int .i64 r2)).setCell ⟨w.heap.size, 3, none⟩ (.int .i64 1)) := ⟨_, rfl⟩
                        have hz := HM2.out.put4 0 rfl (.int .i64 r0) (.int .i64 r1) (.int .i64 r2) (.int .i64 1)
                        rw [← hWZ] at hz ⊢
                        obtain ⟨g0, g1, g2, g3⟩ := four_of (hz.at_ 0 rfl)
                        exact bodyPost_ret (v := .tuple #[ovv r0 r1 r2 1, .bool q]) (by simp [g0, g1, g2, g3, results, Tryd.results13, go_sem]) rfl (HRT.out _ _ ⟨HRET.out, hz.below⟩)
                      · skip
                        have HRT := Lib.hid (show ∀ e W, (e = .returned (.tuple #[ovv 0 0 0 0, .bool false]) ∧ Below w.heap.size w W) → RrNamed k w e W from fun e W h => by unfold RrNamed; rw [show nmGet k nmTab = none from by simp [nmGet, nmTab, h0, h1, h2, h3, h4, h5, h6, h7, h8, h9, h10]]; exact h)
                        have g0 : (k.toList == [117, 110, 105, 115, 111, 110]) = false := by rw [bytes_lit]; exact decide_eq_false h0
                        have g1 : (k.toList == [111, 99, 116, 97, 118, 101]) = false := by rw [bytes_lit]; exact decide_eq_false h1
                        have g2 : (k.toList == [102, 105, 102, 116, 104]) = false := by rw [bytes_lit]; exact decide_eq_false h2
                        have g3 : (k.toList == [102, 111, 117, 114, 116, 104]) = false := by rw [bytes_lit]; exact decide_eq_false h3
                        have g4 : (k.toList == [116, 104, 105, 114, 100]) = false := by rw [bytes_lit]; exact decide_eq_false h4
                        have g5 : (k.toList == [109, 105, 110, 111, 114]) = false := by rw [bytes_lit]; exact decide_eq_false h5
                        have g6 : (k.toList == [116, 111, 110, 101]) = false := by rw [bytes_lit]; exact decide_eq_false h6
                        have g7 : (k.toList == [115, 121, 110, 116, 111, 110, 105, 99]) = false := by rw [bytes_lit]; exact decide_eq_false h7
                        have g8 : (k.toList == [112, 121, 116, 104, 97, 103, 111, 114, 101, 97, 110]) = false := by rw [bytes_lit]; exact decide_eq_false h8
                        have g9 : (k.toList == [115, 99, 104, 105, 115, 109, 97]) = false := by rw [bytes_lit]; exact decide_eq_false h9
                        have g10 : (k.toList == [100, 105, 101, 115, 105, 115]) = false := by rw [bytes_lit]; exact decide_eq_false h10
                        clear h0 h1 h2 h3 h4 h5 h6 h7 h8 h9 h10
                        go_enter Tryd.func13, Tryd.ntmps13
                        go_wp2
                        obtain ⟨z0, z1, z2, z3⟩ := four_of (HM.out.at_ 0 rfl)
                        exact bodyPost_ret (v := .tuple #[ovv 0 0 0 0, .bool false]) (by simp [z0, z1, z2, z3, results, Tryd.results13, go_sem]) rfl (HRT.out _ _ ⟨rfl, HM.out.below⟩)
end Go.Proofs.YtplonkeipdbchaaDoor
