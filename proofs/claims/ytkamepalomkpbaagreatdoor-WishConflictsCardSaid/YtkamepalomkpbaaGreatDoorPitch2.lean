/- Package pitch: both, Shift, Class and IsMutation. Conditions: the parts are ints; the library's table of powers of ten reads as its text lays it. -/
import Derived.Test.YtkamepalomkpbaaGreatDoorShift
namespace Go.Proofs.YtkamepalomkpbaaGreatDoor
open Go.RowKit

/-- The first error of two feet. -/
def pErr2 (a b c d : Int) : Int := if pErr a b = 0 then pErr c d else pErr a b

set_option maxRecDepth 100000 in
theorem pboth_any (a b c d : Int) (w : World) (ha : I64 a) (hb : I64 b) (hc : I64 c) (hd : I64 d) :
    Calls Tryz.prog 52 #[.agg #[.int .i64 a, .int .i64 b], .agg #[.int .i64 c, .int .i64 d]] w fun e w' => e = .returned (.int .i64 (pErr2 a b c d)) ∧ Below w.heap.size w w' := by
  have h1 := fun W => pcheck_any a b W ha hb
  have h2 := fun W => pcheck_any c d W hc hd
  obtain ⟨x, hx⟩ : ∃ x, x = pErr a b := ⟨_, rfl⟩
  obtain ⟨y, hy⟩ : ∃ y, y = pErr c d := ⟨_, rfl⟩
  have hr : pErr2 a b c d = if x = 0 then y else x := by rw [hx, hy]; rfl
  rw [← hx] at h1
  rw [← hy] at h2
  have H1 := Lib.hid h1
  have H2 := Lib.hid h2
  have HR := Lib.hid hr
  clear h1 h2 hr hx hy ha hb hc hd
  by_cases h0 : x = 0
  · have hz : (x == 0) = true := by simpa using h0
    have hz2 : (x != 0) = false := by simpa using h0
    have HR2 := Lib.hid (show pErr2 a b c d = y by rw [HR.out, if_pos h0])
    clear h0
    go_enter Tryz.func52, Tryz.ntmps52
    go_wp2_with fail
    refine (H1.out _).mono ?_
    rintro e w1 ⟨rfl, hb⟩
    obtain ⟨hc1, hf1⟩ := bcell hb
    go_wp2_with fail
    refine (H2.out _).mono ?_
    rintro e w2 ⟨rfl, hb2⟩
    go_wp2
    go_ret
    exact ⟨ret_int HR2.out.symm, ((bw_new (bw_new (Below.refl _ w) _) _).trans (hb.mono (by simp; omega))).trans (hb2.mono (by have := hb.size; simp at this; omega))⟩
  · have hz : (x == 0) = false := by simpa using h0
    have hz2 : (x != 0) = true := by simpa using h0
    have HR2 := Lib.hid (show pErr2 a b c d = x by rw [HR.out, if_neg h0])
    clear h0
    go_enter Tryz.func52, Tryz.ntmps52
    go_wp2_with fail
    refine (H1.out _).mono ?_
    rintro e w1 ⟨rfl, hb⟩
    go_wp2
    go_ret
    exact ⟨ret_int HR2.out.symm, (bw_new (bw_new (Below.refl _ w) _) _).trans (hb.mono (by simp; omega))⟩

set_option maxRecDepth 100000 in
/-- Shift of wrong feet: the first error. -/
theorem pshift_err (a b c d : Int) (w : World) (ha : I64 a) (hb : I64 b) (hc : I64 c) (hd : I64 d) (he : pErr2 a b c d ≠ 0) :
    Calls Tryz.prog 45 #[.agg #[.int .i64 a, .int .i64 b], .agg #[.int .i64 c, .int .i64 d]] w fun e w' => e = .returned (.tuple #[.int .i64 0, .int .i64 (pErr2 a b c d)]) ∧ Below w.heap.size w w' := by
  have h1 := fun W => pboth_any a b c d W ha hb hc hd
  obtain ⟨x, hx⟩ : ∃ x, x = pErr2 a b c d := ⟨_, rfl⟩
  rw [← hx] at h1 he ⊢
  have hz : (x == 0) = false := by simpa using he
  have hz2 : (x != 0) = true := by simpa using he
  have H1 := Lib.hid h1
  clear h1 hx ha hb hc hd he
  go_enter Tryz.func45, Tryz.ntmps45
  go_wp2_with fail
  refine (H1.out _).mono ?_
  rintro e w1 ⟨rfl, hb⟩
  go_wp2
  go_ret2
  exact ⟨rfl, (bw_new (bw_new (Below.refl _ w) _) _).trans (hb.mono (by simp; omega))⟩

/-- A call returns a shift of the quotient and no error. -/
def RetShift2 (N D : Nat) (w : World) (e : Ending) (w' : World) : Prop := ∃ s : Int, IsShift N D s ∧ -300 ≤ s ∧ s ≤ 600 ∧ e = .returned (.tuple #[.int .i64 s, .int .i64 0]) ∧ Below w.heap.size w w'

theorem PR.i64 {n d : Int} (h : PR n d) : I64 n ∧ I64 d := by
  obtain ⟨⟨a, b, c, d, _⟩, _, _, _⟩ := h
  exact ⟨⟨by omega, by omega⟩, ⟨by omega, by omega⟩⟩

set_option maxRecDepth 100000 in
theorem pshift_ok (fn fd gn gd : Nat) (w : World) (ht : Tab w) (hf : PR fn fd) (hg : PR gn gd) :
    Calls Tryz.prog 45 #[.agg #[.int .i64 fn, .int .i64 fd], .agg #[.int .i64 gn, .int .i64 gd]] w (RetShift2 (gn * fd) (gd * fn) w) := by
  have h1 := fun W => pboth_any fn fd gn gd W hf.i64.1 hf.i64.2 hg.i64.1 hg.i64.2
  have h0 : pErr2 fn fd gn gd = 0 := by unfold pErr2; rw [pErr_ok hf, pErr_ok hg]; rfl
  rw [h0] at h1
  have h2 := fun W h => shift_any fn fd gn gd W h hf hg
  have H1 := Lib.hid h1
  have H2 := Lib.hid h2
  clear h1 h2 h0 hf hg
  go_enter Tryz.func45, Tryz.ntmps45
  go_wp2_with fail
  refine (H1.out _).mono ?_
  rintro e w1 ⟨rfl, hb⟩
  obtain ⟨hc1, hf1⟩ := bcell hb
  have hb1 := (bw_new (bw_new (Below.refl _ w) (.cells #[.int .i64 fn, .int .i64 fd] 47)) (.cells #[.int .i64 gn, .int .i64 gd] 47)).trans (hb.mono (by simp; omega))
  have ht1 := ht.below hb1
  have HB1 := Lib.hid hb1
  clear hb1 hb ht
  go_wp2_with fail
  refine (H2.out _ ht1).mono ?_
  rintro e w2 ⟨s, hs, h3, h4, rfl, hb2⟩
  have HS := Lib.hid hs
  have HB2 := Lib.hid hb2
  clear hs hb2
  go_wp2
  go_ret2
  exact ⟨s, HS.out, h3, h4, rfl, HB1.out.trans (HB2.out.mono HB1.out.size)⟩


end Go.Proofs.YtkamepalomkpbaaGreatDoor
