/- Sounding and Exact of right feet. Conditions: right feet; the library's table of powers of ten reads as its text lays it. -/
import Derived.Test.YtiokjnfhopdleaaGreatDoorMem
import Derived.Test.YtiokjnfhopdleaaGreatDoorPitch2
import Derived.BigQuiet
import Derived.Deep.QuietTactic
import Derived.Test.YtiokjnfhopdleaaGreatDoorShift
namespace Go.Proofs.YtiokjnfhopdleaaGreatDoor
open Go.RowKit

theorem pr81' : PR 8 1 := ⟨by decide, by decide, by decide, by decide⟩

set_option maxRecDepth 100000 in
theorem sounding_range (n d : Nat) (k : Int) (w : World) (h : PR n d) (hk : k < 0 ∨ 127 < k) :
    Calls Tryz.prog 8 #[.agg #[.int .i64 n, .int .i64 d], .int .i64 k] w fun e w' => e = .returned (.tuple #[.int .i64 0, .bool false, .int .i64 3]) ∧ Below w.heap.size w w' := by
  have hc := fun W => pcheck_any n d W h.i64.1 h.i64.2
  rw [pErr_ok h] at hc
  have HC := Lib.hid hc
  clear hc h
  rcases hk with hk | hk
  all_goals
    go_enter Tryz.func8, Tryz.ntmps8
    go_wp2_with fail
    refine (HC.out _).mono ?_
    rintro e w1 ⟨rfl, hb⟩
    go_wp2
    refine bodyPost_ret (v := .tuple #[.int .i64 0, .bool false, .int .i64 3]) (by simp [results, Tryz.results8, go_sem]) rfl ⟨rfl, (bw_new (Below.refl _ w) _).trans (hb.mono (by simp))⟩

/-- What Sounding returns for a key in range. -/
def RetSound (n d : Nat) (k : Int) (w : World) (e : Ending) (w' : World) : Prop :=
  Below w.heap.size w w' ∧ ∃ s : Int, IsShift (8 * d) (1 * n) s ∧ -300 ≤ s ∧ s ≤ 600 ∧
    (((k + s < 0 ∨ 127 < k + s) ∧ e = .returned (.tuple #[.int .i64 0, .bool false, .int .i64 0])) ∨ ((0 ≤ k + s ∧ k + s ≤ 127) ∧ e = .returned (.tuple #[.int .i64 (k + s), .bool true, .int .i64 0])))

set_option maxRecDepth 100000 in
set_option maxHeartbeats 1000000 in
theorem sounding_in (n d : Nat) (k : Int) (w : World) (ht : Tab w) (h : PR n d) (hk0 : 0 ≤ k) (hk1 : k ≤ 127) :
    Calls Tryz.prog 8 #[.agg #[.int .i64 n, .int .i64 d], .int .i64 k] w (RetSound n d k w) := by
  have hc := fun W => pcheck_any n d W h.i64.1 h.i64.2
  rw [pErr_ok h] at hc
  have hs := fun W hW => shift_any n d 8 1 W hW h pr81'
  have HC := Lib.hid hc
  have HS := Lib.hid hs
  clear hc hs h
  go_enter Tryz.func8, Tryz.ntmps8
  go_wp2_with fail
  refine (HC.out _).mono ?_
  rintro e w1 ⟨rfl, hb⟩
  have X := (Two.new w n d 23).below hb
  replace hb := (bw_new (Below.refl _ w) (.cells #[.int .i64 n, .int .i64 d] 23)).trans (hb.mono (by simp))
  have ⟨a0, a1, a2, a3, _⟩ := X
  go_wp2_with fail
  refine (HS.out _ (ht.below hb)).mono ?_
  rintro e w2 ⟨s, hs, hs1, hs2, rfl, hk⟩
  have HB := Lib.hid (hb.trans (hk.mono hb.size))
  have HIS := Lib.hid hs
  clear hk hb hs X a0 a1 a2 a3
  by_cases hlo : k + s < 0
  · go_wp2
    exact bodyPost_ret (v := .tuple #[.int .i64 0, .bool false, .int .i64 0]) (by simp [results, Tryz.results8, go_sem]) rfl ⟨HB.out, s, HIS.out, hs1, hs2, .inl ⟨.inl hlo, rfl⟩⟩
  · by_cases hhi : 127 < k + s
    · go_wp2
      exact bodyPost_ret (v := .tuple #[.int .i64 0, .bool false, .int .i64 0]) (by simp [results, Tryz.results8, go_sem]) rfl ⟨HB.out, s, HIS.out, hs1, hs2, .inl ⟨.inr hhi, rfl⟩⟩
    · go_wp2
      exact bodyPost_ret (v := .tuple #[.int .i64 (k + s), .bool true, .int .i64 0]) (by simp [results, Tryz.results8, go_sem]) rfl ⟨HB.out, s, HIS.out, hs1, hs2, .inr ⟨⟨by omega, by omega⟩, rfl⟩⟩

set_option maxRecDepth 100000 in
set_option maxHeartbeats 1000000 in
theorem exact_ok (fn fd gn gd : Nat) (w : World) (hf : PR fn fd) (hg : PR gn gd) :
    Calls Tryz.prog 12 #[.agg #[.int .i64 fn, .int .i64 fd], .agg #[.int .i64 gn, .int .i64 gd]] w fun e w' => e = .returned (.tuple #[.bool ((oddOf (gn * fd) : Int) == (oddOf (gd * fn) : Int)), .int .i64 0]) ∧ Below w.heap.size w w' := by
  have h1 := fun W => pboth_any fn fd gn gd W hf.i64.1 hf.i64.2 hg.i64.1 hg.i64.2
  have h0 : pErr2 fn fd gn gd = 0 := by unfold pErr2; rw [pErr_ok hf, pErr_ok hg]; rfl
  rw [h0] at h1
  obtain ⟨⟨f0, _, _, _, _⟩, f1, f2, f3⟩ := hf
  obtain ⟨⟨g0, _, _, _, _⟩, g1, g2, g3⟩ := hg
  obtain ⟨N, hN⟩ : ∃ N, N = gn * fd := ⟨_, rfl⟩
  obtain ⟨D, hD⟩ : ∃ D, D = gd * fn := ⟨_, rfl⟩
  rw [← hN, ← hD]
  have hN0 : 0 < N := by rw [hN]; exact Nat.mul_pos (by omega) (by omega)
  have hD0 : 0 < D := by rw [hD]; exact Nat.mul_pos (by omega) (by omega)
  have hN1 : N ≤ 2097152 := by rw [hN]; exact Nat.le_trans (Nat.mul_le_mul (show gn ≤ 16384 by omega) (show fd ≤ 128 by omega)) (by decide)
  have hD1 : D ≤ 2097152 := by rw [hD]; exact Nat.le_trans (Nat.mul_le_mul (show gd ≤ 128 by omega) (show fn ≤ 16384 by omega)) (by decide)
  have hNi : (gn : Int) * (fd : Int) = (N : Int) := by rw [hN]; simp
  have hDi : (gd : Int) * (fn : Int) = (D : Int) := by rw [hD]; simp
  have hwN : IntKind.i64.wrap ((gn : Int) * (fd : Int)) = (N : Int) := by rw [hNi, IntWalk.i64_in _ (by omega)]
  have hwD : IntKind.i64.wrap ((gd : Int) * (fn : Int)) = (D : Int) := by rw [hDi, IntWalk.i64_in _ (by omega)]
  have HO := Lib.hid (fun (n : Nat) (W : World) (h0 : 0 < n) (h1 : n ≤ 2097152) => odd_any n W h0 (by omega))
  have H1 := Lib.hid h1
  have HWN := Lib.hid hwN
  have HWD := Lib.hid hwD
  clear h1 hN hD hNi hDi hwN hwD f0 f1 f2 f3 g0 g1 g2 g3 h0
  go_enter Tryz.func12, Tryz.ntmps12
  go_wp2_with fail
  refine (H1.out _).mono ?_
  rintro e w1 ⟨rfl, hk⟩
  have X := ((Two.new w fn fd 23).alloc (.cells #[.int .i64 gn, .int .i64 gd] 23)).below hk
  have Y := (Two.new (w.alloc (.cells #[.int .i64 fn, .int .i64 fd] 23)) gn gd 23).below hk
  simp only [World.size_alloc] at Y
  have HB := Lib.hid ((bw_new (bw_new (Below.refl _ w) (.cells #[.int .i64 fn, .int .i64 fd] 23)) (.cells #[.int .i64 gn, .int .i64 gd] 23)).trans (hk.mono (by simp; omega)))
  clear hk
  have ⟨aX0, aX1, aX2, aX3, _⟩ := X
  have ⟨aY0, aY1, aY2, aY3, _⟩ := Y
  clear X Y
  go_wp2_with fail
  have hwN := HWN.out
  have hwD := HWD.out
  go_quiet ((go_at_call 30; exact Calls.quiet_of_same ((HO.out _ _ (by assumption) (by assumption)).mono fun e w' h => ⟨h.1, h.2.symm⟩)))
  go_wp2
  go_ret2
  exact ⟨rfl, bw_drewN HB.out _⟩

end Go.Proofs.YtiokjnfhopdleaaGreatDoor
