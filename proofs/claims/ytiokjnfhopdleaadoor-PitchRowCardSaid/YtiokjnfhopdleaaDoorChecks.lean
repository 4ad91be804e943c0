/- The statement PitchChecks: the walk. For any two ints as a fraction the call returns true. Conditions: the library's table of powers of ten reads as its text lays it. -/
import Derived.Test.YtiokjnfhopdleaaDoorErrs
import Derived.Test.YtiokjnfhopdleaaDoorLaw
import Derived.Deep.RegionHeld3
namespace Go.Proofs.YtiokjnfhopdleaaDoor
open Go.RowKit

theorem pErr2_left {a b : Int} (c d : Int) (h : pErr a b ≠ 0) : pErr2 a b c d = pErr a b := if_neg h
theorem pErr2_right (a b : Int) {c d : Int} (h : pErr c d = 0) : pErr2 c d a b = pErr a b := if_pos h
theorem pr81 : PR 8 1 := ⟨by decide, by decide, by decide, by decide⟩

/-- Two boxes of two ints, and below the call's heap nothing has changed. -/
def TwoX (w : World) (b c : Nat) (n d x y : Int) (w' : World) : Prop :=
  w'.cell? ⟨b, 0, none⟩ = some (.int .i64 n) ∧ w'.cell? ⟨b, 1, none⟩ = some (.int .i64 d) ∧ w'.cell? ⟨c, 0, none⟩ = some (.int .i64 x) ∧ w'.cell? ⟨c, 1, none⟩ = some (.int .i64 y) ∧
  b < w'.heap.size ∧ c < w'.heap.size ∧ Below w.heap.size w w'
theorem TwoX.below {w w1 w2 : World} {b c : Nat} {n d x y : Int} (h : TwoX w b c n d x y w1) (hb : Below w1.heap.size w1 w2) : TwoX w b c n d x y w2 := by
  obtain ⟨h1, h2, h3, h4, h5, h6, h7⟩ := h
  exact ⟨(hb.cell h5).trans h1, (hb.cell h5).trans h2, (hb.cell h6).trans h3, (hb.cell h6).trans h4, Nat.lt_of_lt_of_le h5 hb.size, Nat.lt_of_lt_of_le h6 hb.size, h7.trans (hb.mono h7.size)⟩
theorem TwoX.drew {w w1 : World} {b c : Nat} {n d x y : Int} (h : TwoX w b c n d x y w1) : TwoX w b c n d x y w1.drew := ⟨h.1, h.2.1, h.2.2.1, h.2.2.2.1, h.2.2.2.2.1, h.2.2.2.2.2.1, h.2.2.2.2.2.2.drew⟩
theorem TwoX.of {w w' : World} {b c : Nat} {n d x y : Int} (hb : Two w' b n d) (hc : Two w' c x y) (h : Below w.heap.size w w') : TwoX w b c n d x y w' := ⟨hb.1, hb.2.1, hc.1, hc.2.1, hb.2.2.2.2, hc.2.2.2.2, h⟩

theorem f81_any (w : World) : Calls Tryd.prog 11 #[.int .i64 8, .int .i64 1] w fun e w' => e = .returned (.agg #[.int .i64 8, .int .i64 1]) ∧ Below w.heap.size w w' :=
  f_ct 8 1 8 1 w (by decide) (by decide) (by decide) (by decide) (by decide)

set_option maxRecDepth 100000 in
set_option maxHeartbeats 2000000 in
theorem checks_err (n d : Int) (w : World) (ht : Tab w) (hn : I64 n) (hd : I64 d) (he : pErr n d ≠ 0) :
    Calls Tryd.prog 6 #[.agg #[.int .i64 n, .int .i64 d]] w fun e w' => e = .returned (.bool true) ∧ Below w.heap.size w w' := by
  have i8 : I64 8 := ⟨by decide, by decide⟩
  have i1 : I64 1 := ⟨by decide, by decide⟩
  have e1 := pErr2_left 8 1 he
  have e2 := pErr2_right n d (pErr_ok pr81)
  have hc := fun W => lcheck_any n d W
  have hp := fun W => pcheck_any n d W hn hd
  have h81 := f81_any
  have hh := fun W => harm_err n d W hn hd he
  have hs := fun W => pshift_err 8 1 n d W i8 i1 hn hd (by rw [e2]; exact he)
  have hx := fun W => exact_err n d 8 1 W hn hd i8 i1 (by rw [e1]; exact he)
  have hcl := fun W => class_err n d W hn hd he
  have hmu := fun W => isMut_err n d W hn hd he
  have hcm := fun W => pcompare_err 8 1 n d W i8 i1 hn hd (by rw [e2]; exact he)
  have hso := fun W => sounding_err n d 60 W hn hd he
  rw [e2] at hs hcm
  rw [e1] at hx
  unfold fRet at hh
  dsimp only at hh
  obtain ⟨x, hx0⟩ : ∃ x, x = pErr n d := ⟨_, rfl⟩
  rw [← hx0] at hc hp hh hs hx hcl hmu hcm hso he
  have hz : (x == 0) = false := by simpa using he
  have hz2 : (x != 0) = true := by simpa using he
  have HC := Lib.hid hc
  have HP := Lib.hid hp
  have H81 := Lib.hid h81
  have HH := Lib.hid hh
  have HS := Lib.hid hs
  have HX := Lib.hid hx
  have HCL := Lib.hid hcl
  have HMU := Lib.hid hmu
  have HCM := Lib.hid hcm
  have HSO := Lib.hid hso
  clear hc hp h81 hh hs hx hcl hmu hcm hso hx0 he e1 e2 i8 i1 hn hd
  go_enter Tryd.func6, Tryd.ntmps6
  go_wp2_with fail
  refine (known_any _ (ht.alloc _)).mono ?_
  rintro e w1 ⟨rfl, hk⟩
  have X := (Two.new w n d 23).below hk
  have hb := (bw_new (Below.refl _ w) (.cells #[.int .i64 n, .int .i64 d] 23)).trans (hk.mono (by simp))
  clear hk
  have ⟨aX0, aX1, aX2, aX3, _⟩ := X
  go_wp2_with fail
  refine (HC.out _).mono ?_
  rintro e w2 ⟨rfl, hk⟩
  replace X := X.below hk
  replace hb := hb.trans (hk.mono hb.size)
  clear hk aX0 aX1 aX2 aX3
  have ⟨aX0, aX1, aX2, aX3, _⟩ := X
  go_wp2_with fail
  refine (H81.out _).mono ?_
  rintro e w3 ⟨rfl, hk⟩
  replace X := X.below hk
  replace hb := hb.trans (hk.mono hb.size)
  clear hk aX0 aX1 aX2 aX3
  have ⟨aX0, aX1, aX2, aX3, _⟩ := X
  go_wp2_with fail
  refine (HP.out _).mono ?_
  rintro e w4 ⟨rfl, hk⟩
  replace X := (X.alloc (.cells #[.int .i64 8, .int .i64 1] 23)).below hk
  have E := (Two.new w3 (8 : Int) (1 : Int) 23).below hk
  replace hb := bw_new hb (.cells #[.int .i64 8, .int .i64 1] 23)
  replace hb := hb.trans (hk.mono hb.size)
  clear hk aX0 aX1 aX2 aX3
  have ⟨aX0, aX1, aX2, aX3, _⟩ := X
  have ⟨aE0, aE1, aE2, aE3, _⟩ := E
  go_wp2_with fail
  refine (HH.out _).mono ?_
  rintro e w5 ⟨rfl, hk⟩
  replace X := X.below hk
  replace E := E.below hk
  replace hb := hb.trans (hk.mono hb.size)
  clear hk aX0 aX1 aX2 aX3 aE0 aE1 aE2 aE3
  have ⟨aX0, aX1, aX2, aX3, _⟩ := X
  have ⟨aE0, aE1, aE2, aE3, _⟩ := E
  go_wp2_with fail
  refine (HS.out _).mono ?_
  rintro e w6 ⟨rfl, hk⟩
  replace X := (X.alloc (.cells #[.int .i64 0, .int .i64 0] 23)).below hk
  replace E := (E.alloc (.cells #[.int .i64 0, .int .i64 0] 23)).below hk
  have G := (Two.new w5 (0 : Int) (0 : Int) 23).below hk
  replace hb := bw_new hb (.cells #[.int .i64 0, .int .i64 0] 23)
  replace hb := hb.trans (hk.mono hb.size)
  clear hk aX0 aX1 aX2 aX3 aE0 aE1 aE2 aE3
  have ⟨aX0, aX1, aX2, aX3, _⟩ := X
  have ⟨aE0, aE1, aE2, aE3, _⟩ := E
  have ⟨aG0, aG1, aG2, aG3, _⟩ := G
  go_wp2_with fail
  refine (HX.out _).mono ?_
  rintro e w7 ⟨rfl, hk⟩
  replace X := X.below hk
  replace E := E.below hk
  replace G := G.below hk
  replace hb := hb.trans (hk.mono hb.size)
  clear hk aX0 aX1 aX2 aX3 aE0 aE1 aE2 aE3 aG0 aG1 aG2 aG3
  have ⟨aX0, aX1, aX2, aX3, _⟩ := X
  have ⟨aE0, aE1, aE2, aE3, _⟩ := E
  have ⟨aG0, aG1, aG2, aG3, _⟩ := G
  go_wp2_with fail
  refine (HCL.out _).mono ?_
  rintro e w8 ⟨rfl, hk⟩
  replace X := X.below hk
  replace E := E.below hk
  replace G := G.below hk
  replace hb := hb.trans (hk.mono hb.size)
  clear hk aX0 aX1 aX2 aX3 aE0 aE1 aE2 aE3 aG0 aG1 aG2 aG3
  have ⟨aX0, aX1, aX2, aX3, _⟩ := X
  have ⟨aE0, aE1, aE2, aE3, _⟩ := E
  have ⟨aG0, aG1, aG2, aG3, _⟩ := G
  go_wp2_with fail
  refine (HMU.out _).mono ?_
  rintro e w9 ⟨rfl, hk⟩
  replace X := X.below hk
  replace E := E.below hk
  replace G := G.below hk
  replace hb := hb.trans (hk.mono hb.size)
  clear hk aX0 aX1 aX2 aX3 aE0 aE1 aE2 aE3 aG0 aG1 aG2 aG3
  have ⟨aX0, aX1, aX2, aX3, _⟩ := X
  have ⟨aE0, aE1, aE2, aE3, _⟩ := E
  have ⟨aG0, aG1, aG2, aG3, _⟩ := G
  go_wp2_with fail
  refine (HCM.out _).mono ?_
  rintro e w10 ⟨rfl, hk⟩
  replace X := X.below hk
  replace E := E.below hk
  replace G := G.below hk
  replace hb := hb.trans (hk.mono hb.size)
  clear hk aX0 aX1 aX2 aX3 aE0 aE1 aE2 aE3 aG0 aG1 aG2 aG3
  have ⟨aX0, aX1, aX2, aX3, _⟩ := X
  have ⟨aE0, aE1, aE2, aE3, _⟩ := E
  have ⟨aG0, aG1, aG2, aG3, _⟩ := G
  go_wp2_with fail
  refine (HSO.out _).mono ?_
  rintro e w11 ⟨rfl, hk⟩
  replace X := X.below hk
  replace E := E.below hk
  replace G := G.below hk
  replace hb := hb.trans (hk.mono hb.size)
  clear hk aX0 aX1 aX2 aX3 aE0 aE1 aE2 aE3 aG0 aG1 aG2 aG3
  have ⟨aX0, aX1, aX2, aX3, _⟩ := X
  have ⟨aE0, aE1, aE2, aE3, _⟩ := E
  have ⟨aG0, aG1, aG2, aG3, _⟩ := G
  go_wp2
  go_ret
  exact ⟨rfl, hb⟩

set_option maxRecDepth 100000 in
set_option maxHeartbeats 2000000 in
theorem checks_ok (n d : Nat) (w : World) (ht : Tab w) (h : PR n d) :
    Calls Tryd.prog 6 #[.agg #[.int .i64 n, .int .i64 d]] w fun e w' => e = .returned (.bool true) ∧ Below w.heap.size w w' := by
  have hc := fun W => lcheck_any n d W
  have hp := fun W => pcheck_any n d W h.i64.1 h.i64.2
  rw [pErr_ok h] at hc hp
  have h81 := f81_any
  have hh := fun W => harm_ok n d W h
  have hn0 : 0 < n := by have := h.2.1; omega
  have hn1 : n ≤ 16384 := by have := h.2.2.1; have := h.2.2.2; omega
  have hd0 : 0 < d := by have := h.1.1; omega
  have hd1 : d ≤ 128 := by have := h.2.2.2; omega
  have hf := fun W => lf_any (8 * (d : Int)) n W (by omega) (by omega) (by omega) (by omega)
  obtain ⟨x, hx⟩ : ∃ x, x = lowN (8 * (d : Int)) n := ⟨_, rfl⟩
  obtain ⟨y, hy⟩ : ∃ y, y = lowD (8 * (d : Int)) n := ⟨_, rfl⟩
  rw [← hx, ← hy] at hh hf
  have hw8 : 8 * (d : Int) = IntKind.i64.wrap (8 * (d : Int)) := by rw [IntWalk.i64_in _ (by omega)]
  rw [hw8] at hf
  have HC := Lib.hid hc
  have HP := Lib.hid hp
  have H81 := Lib.hid h81
  have HH := Lib.hid hh
  clear hw8
  have HF := Lib.hid hf
  clear hc hp h81 hh hf hx hy h hn0 hn1 hd0
  go_enter Tryd.func6, Tryd.ntmps6
  go_wp2_with fail
  refine (known_any _ (ht.alloc _)).mono ?_
  rintro e w1 ⟨rfl, hk⟩
  have X := (Two.new w n d 23).below hk
  have hb := (bw_new (Below.refl _ w) (.cells #[.int .i64 n, .int .i64 d] 23)).trans (hk.mono (by simp))
  clear hk
  have ⟨aX0, aX1, aX2, aX3, _⟩ := X
  go_wp2_with fail
  refine (HC.out _).mono ?_
  rintro e w2 ⟨rfl, hk⟩
  replace X := X.below hk
  replace hb := hb.trans (hk.mono hb.size)
  clear hk aX0 aX1 aX2 aX3
  have ⟨aX0, aX1, aX2, aX3, _⟩ := X
  go_wp2_with fail
  refine (H81.out _).mono ?_
  rintro e w3 ⟨rfl, hk⟩
  replace X := X.below hk
  replace hb := hb.trans (hk.mono hb.size)
  clear hk aX0 aX1 aX2 aX3
  have ⟨aX0, aX1, aX2, aX3, _⟩ := X
  go_wp2_with fail
  refine (HP.out _).mono ?_
  rintro e w4 ⟨rfl, hk⟩
  replace X := (X.alloc (.cells #[.int .i64 8, .int .i64 1] 23)).below hk
  have E := (Two.new w3 (8 : Int) (1 : Int) 23).below hk
  replace hb := bw_new hb (.cells #[.int .i64 8, .int .i64 1] 23)
  replace hb := hb.trans (hk.mono hb.size)
  clear hk aX0 aX1 aX2 aX3
  have ⟨aX0, aX1, aX2, aX3, _⟩ := X
  have ⟨aE0, aE1, aE2, aE3, _⟩ := E
  go_wp2_with fail
  refine (HH.out _).mono ?_
  rintro e w5 ⟨rfl, hk⟩
  replace X := X.below hk
  replace E := E.below hk
  replace hb := hb.trans (hk.mono hb.size)
  clear hk aX0 aX1 aX2 aX3 aE0 aE1 aE2 aE3
  have ⟨aX0, aX1, aX2, aX3, _⟩ := X
  have ⟨aE0, aE1, aE2, aE3, _⟩ := E
  go_wp2_with fail
  obtain ⟨W, hW⟩ : ∃ W, W = w5.alloc (.cells #[.int .i64 x, .int .i64 y] 23) := ⟨_, rfl⟩
  have hT : TwoX w w.heap.size w5.heap.size n d x y W := by
    rw [hW]
    exact .of (X.alloc _) (Two.new w5 x y _) (bw_new hb _)
  rw [← hW]
  clear hW hb aX0 aX1 aX2 aX3 aE0 aE1 aE2 aE3 X E ht
  go_region_held3 (fun w' => w'.cell? ⟨w.heap.size, 0, none⟩ = some (.int .i64 n) ∧ w'.cell? ⟨w.heap.size, 1, none⟩ = some (.int .i64 d) ∧ w'.cell? ⟨w5.heap.size, 0, none⟩ = some (.int .i64 x) ∧ w'.cell? ⟨w5.heap.size, 1, none⟩ = some (.int .i64 y) ∧
    w.heap.size < w'.heap.size ∧ w5.heap.size < w'.heap.size ∧ Below w.heap.size w w') (first | assumption | exact TwoX.drew hT | exact TwoX.below (by assumption) hbel)
    (first
     | (go_at_call 11; refine (HF.out _).mono ?_; rintro e w' ⟨rfl, hbel⟩))
  have hf : TwoX w w.heap.size w5.heap.size n d x y w' := by assumption
  have HR := Lib.hid hf
  clear hf
  go_wp2
  go_ret
  exact ⟨rfl, HR.out.2.2.2.2.2.2⟩

theorem checks_any (n d : Int) (w : World) (ht : Tab w) (hn : I64 n) (hd : I64 d) :
    Calls Tryd.prog 6 #[.agg #[.int .i64 n, .int .i64 d]] w fun e w' => e = .returned (.bool true) ∧ Below w.heap.size w w' := by
  by_cases he : pErr n d = 0
  · have h := PR_of he
    obtain ⟨x, rfl⟩ := Int.eq_ofNat_of_zero_le (show 0 ≤ n by have := h.2.1; omega)
    obtain ⟨y, rfl⟩ := Int.eq_ofNat_of_zero_le (show 0 ≤ d by have := h.1.1; omega)
    exact checks_ok x y w ht h
  · exact checks_err n d w ht hn hd he

end Go.Proofs.YtiokjnfhopdleaaDoor
