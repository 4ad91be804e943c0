/- The statement PitchTurns: the walk. For any two fractions the call returns true. Conditions: the library's table of powers of ten reads as its text lays it. -/
import Derived.Test.YtiokjnfhopdleaaDoorTurnsNum
import Derived.Test.YtiokjnfhopdleaaDoorChecks
import Derived.Test.YtiokjnfhopdleaaDoorPitch3
namespace Go.Proofs.YtiokjnfhopdleaaDoor
open Go.RowKit

/-- Three boxes of two ints, and below the call's heap nothing has changed. -/
def Pack3 (w : World) (b1 : Nat) (n1 d1 : Int) (b2 : Nat) (n2 d2 : Int) (b3 : Nat) (n3 d3 : Int) (w' : World) : Prop := Two w' b1 n1 d1 ∧ Two w' b2 n2 d2 ∧ Two w' b3 n3 d3 ∧ Below w.heap.size w w'
/-- .. with the first one's cells at hand. -/
def Held3 (w : World) (b1 : Nat) (n1 d1 : Int) (b2 : Nat) (n2 d2 : Int) (b3 : Nat) (n3 d3 : Int) (w' : World) : Prop :=
  w'.cell? ⟨b1, 0, none⟩ = some (.int .i64 n1) ∧ w'.cell? ⟨b1, 1, none⟩ = some (.int .i64 d1) ∧ Pack3 w b1 n1 d1 b2 n2 d2 b3 n3 d3 w'
theorem Held3.below {w w1 w2 : World} {b1 b2 b3 : Nat} {n1 d1 n2 d2 n3 d3 : Int} (h : Held3 w b1 n1 d1 b2 n2 d2 b3 n3 d3 w1) (hb : Below w1.heap.size w1 w2) : Held3 w b1 n1 d1 b2 n2 d2 b3 n3 d3 w2 := by
  obtain ⟨_, _, h1, h2, h3, h4⟩ := h
  have k1 := h1.below hb
  exact ⟨k1.1, k1.2.1, k1, h2.below hb, h3.below hb, h4.trans (hb.mono h4.size)⟩
theorem Held3.drew {w w1 : World} {b1 b2 b3 : Nat} {n1 d1 n2 d2 n3 d3 : Int} (h : Held3 w b1 n1 d1 b2 n2 d2 b3 n3 d3 w1) : Held3 w b1 n1 d1 b2 n2 d2 b3 n3 d3 w1.drew := h.below (bw_drew (Below.refl _ _))
theorem Held3.tab {w w1 : World} {b1 b2 b3 : Nat} {n1 d1 n2 d2 n3 d3 : Int} (ht : Tab w) (h : Held3 w b1 n1 d1 b2 n2 d2 b3 n3 d3 w1) : Tab w1 := ht.below h.2.2.2.2.2

set_option maxRecDepth 100000 in
set_option maxHeartbeats 2000000 in
theorem turns_err1 (a b c d : Int) (w : World) (ht : Tab w) (he : pErr a b ≠ 0) :
    Calls Tryd.prog 5 #[.agg #[.int .i64 a, .int .i64 b], .agg #[.int .i64 c, .int .i64 d]] w fun e w' => e = .returned (.bool true) ∧ Below w.heap.size w w' := by
  have hc := fun W => lcheck_any a b W
  obtain ⟨x, hx0⟩ : ∃ x, x = pErr a b := ⟨_, rfl⟩
  rw [← hx0] at hc he
  have hz : (x == 0) = false := by simpa using he
  have hz2 : (x != 0) = true := by simpa using he
  have HC := Lib.hid hc
  clear hc hx0 he
  go_enter Tryd.func5, Tryd.ntmps5
  go_wp2_with fail
  refine (known_any _ ((ht.alloc _).alloc _)).mono ?_
  rintro e w1 ⟨rfl, hk⟩
  have X := ((Two.new w a b 23).alloc (.cells #[.int .i64 c, .int .i64 d] 23)).below hk
  have hb := (bw_new (bw_new (Below.refl _ w) (.cells #[.int .i64 a, .int .i64 b] 23)) (.cells #[.int .i64 c, .int .i64 d] 23)).trans (hk.mono (by simp; omega))
  replace ht := ht.below hb
  clear hk
  have ⟨aX0, aX1, aX2, aX3, _⟩ := X
  go_wp2_with fail
  refine (HC.out _).mono ?_
  rintro e w2 ⟨rfl, hk⟩
  replace X := X.below hk
  replace hb := hb.trans (hk.mono hb.size)
  replace ht := ht.below hk
  clear hk aX0 aX1 aX2 aX3
  have ⟨aX0, aX1, aX2, aX3, _⟩ := X
  go_wp2_with fail
  refine (known_any _ ht).mono ?_
  rintro e w3 ⟨rfl, hk⟩
  replace X := X.below hk
  replace hb := hb.trans (hk.mono hb.size)
  replace ht := ht.below hk
  clear hk aX0 aX1 aX2 aX3
  have ⟨aX0, aX1, aX2, aX3, _⟩ := X
  go_wp2
  go_ret
  exact ⟨rfl, hb⟩

set_option maxRecDepth 100000 in
set_option maxHeartbeats 2000000 in
theorem turns_err2 (a b c d : Int) (w : World) (ht : Tab w) (h0 : pErr a b = 0) (he : pErr c d ≠ 0) :
    Calls Tryd.prog 5 #[.agg #[.int .i64 a, .int .i64 b], .agg #[.int .i64 c, .int .i64 d]] w fun e w' => e = .returned (.bool true) ∧ Below w.heap.size w w' := by
  have hc := fun W => lcheck_any a b W
  have hd := fun W => lcheck_any c d W
  rw [h0] at hc
  obtain ⟨x, hx0⟩ : ∃ x, x = pErr c d := ⟨_, rfl⟩
  rw [← hx0] at hd he
  have hz : (x == 0) = false := by simpa using he
  have hz2 : (x != 0) = true := by simpa using he
  have HC := Lib.hid hc
  have HD := Lib.hid hd
  clear hc hd hx0 he h0
  go_enter Tryd.func5, Tryd.ntmps5
  go_wp2_with fail
  refine (known_any _ ((ht.alloc _).alloc _)).mono ?_
  rintro e w1 ⟨rfl, hk⟩
  have X := ((Two.new w a b 23).alloc (.cells #[.int .i64 c, .int .i64 d] 23)).below hk
  have Y := (Two.new (w.alloc (.cells #[.int .i64 a, .int .i64 b] 23)) c d 23).below hk
  simp only [World.size_alloc] at Y
  have hb := (bw_new (bw_new (Below.refl _ w) (.cells #[.int .i64 a, .int .i64 b] 23)) (.cells #[.int .i64 c, .int .i64 d] 23)).trans (hk.mono (by simp; omega))
  replace ht := ht.below hb
  clear hk
  have ⟨aX0, aX1, aX2, aX3, _⟩ := X
  have ⟨aY0, aY1, aY2, aY3, _⟩ := Y
  go_wp2_with fail
  refine (HC.out _).mono ?_
  rintro e w2 ⟨rfl, hk⟩
  replace X := X.below hk
  replace Y := Y.below hk
  replace hb := hb.trans (hk.mono hb.size)
  replace ht := ht.below hk
  clear hk aX0 aX1 aX2 aX3 aY0 aY1 aY2 aY3
  have ⟨aX0, aX1, aX2, aX3, _⟩ := X
  have ⟨aY0, aY1, aY2, aY3, _⟩ := Y
  go_wp2_with fail
  refine (HD.out _).mono ?_
  rintro e w3 ⟨rfl, hk⟩
  replace X := X.below hk
  replace Y := Y.below hk
  replace hb := hb.trans (hk.mono hb.size)
  replace ht := ht.below hk
  clear hk aX0 aX1 aX2 aX3 aY0 aY1 aY2 aY3
  have ⟨aX0, aX1, aX2, aX3, _⟩ := X
  have ⟨aY0, aY1, aY2, aY3, _⟩ := Y
  go_wp2_with fail
  refine (known_any _ ht).mono ?_
  rintro e w4 ⟨rfl, hk⟩
  replace X := X.below hk
  replace Y := Y.below hk
  replace hb := hb.trans (hk.mono hb.size)
  replace ht := ht.below hk
  clear hk aX0 aX1 aX2 aX3 aY0 aY1 aY2 aY3
  have ⟨aX0, aX1, aX2, aX3, _⟩ := X
  have ⟨aY0, aY1, aY2, aY3, _⟩ := Y
  go_wp2
  go_ret
  exact ⟨rfl, hb⟩

set_option maxRecDepth 100000 in
set_option maxHeartbeats 4000000 in
theorem turns_ok (an ad bn bd : Nat) (w : World) (ht : Tab w) (ha : PR an ad) (hb0 : PR bn bd) :
    Calls Tryd.prog 5 #[.agg #[.int .i64 an, .int .i64 ad], .agg #[.int .i64 bn, .int .i64 bd]] w fun e w' => e = .returned (.bool true) ∧ Below w.heap.size w w' := by
  have hca := fun W => lcheck_any an ad W
  have hcb := fun W => lcheck_any bn bd W
  rw [pErr_ok ha] at hca
  rw [pErr_ok hb0] at hcb
  have han : 0 < an := by have := ha.2.1; omega
  have han1 : an ≤ 16384 := by have := ha.2.2.1; have := ha.2.2.2; omega
  have had : 0 < ad := by have := ha.1.1; omega
  have had1 : ad ≤ 128 := by have := ha.2.2.2; omega
  have hbn : 0 < bn := by have := hb0.2.1; omega
  obtain ⟨A, B, g, eA, eB, hg, h1, h2, oA, oB⟩ := half_num an ad ha
  have hf := fun W => lf_any an (2 * (ad : Int)) W (by omega) (by omega) (by omega) (by omega)
  rw [eA, eB] at hf
  have hsame := fun W h => pshift_ok an ad an ad W h ha ha
  have hab := fun W h => pshift_ok an ad bn bd W h ha hb0
  have hba := fun W h => pshift_ok bn bd an ad W h hb0 ha
  have ha8 := fun W h => pshift_ok an ad 8 1 W h ha pr81
  have hb8 := fun W h => pshift_ok bn bd 8 1 W h hb0 pr81
  have hcm := fun W => pcompare_ok an ad bn bd W ha hb0
  obtain ⟨m, em, hm⟩ := order_cases an ad bn bd
  rw [em] at hcm
  have hch := fun W => lcheck_any A B W
  have hcla := fun W => class_ok an ad W ha
  have HCA := Lib.hid hca
  have HCB := Lib.hid hcb
  have HF := Lib.hid hf
  have HSM := Lib.hid hsame
  have HAB := Lib.hid hab
  have HBA := Lib.hid hba
  have HA8 := Lib.hid ha8
  have HB8 := Lib.hid hb8
  have HCM := Lib.hid hcm
  have HM := Lib.hid hm
  have HCLA := Lib.hid hcla
  have H81 := Lib.hid f81_any
  have HCH := Lib.hid hch
  have HG := Lib.hid (And.intro hg (And.intro h1 (And.intro h2 (And.intro oA oB))))
  have HA := Lib.hid ha
  have HB := Lib.hid hb0
  clear hca hcb hf hsame hab hba ha8 hb8 hcm hm hcla hch hg h1 h2 oA oB eA eB ha hb0 em
  go_enter Tryd.func5, Tryd.ntmps5
  go_wp2_with fail
  refine (known_any _ ((ht.alloc _).alloc _)).mono ?_
  rintro e w1 ⟨rfl, hk⟩
  have X := ((Two.new w an ad 23).alloc (.cells #[.int .i64 bn, .int .i64 bd] 23)).below hk
  have Y := (Two.new (w.alloc (.cells #[.int .i64 an, .int .i64 ad] 23)) bn bd 23).below hk
  simp only [World.size_alloc] at Y
  have hb := (bw_new (bw_new (Below.refl _ w) (.cells #[.int .i64 an, .int .i64 ad] 23)) (.cells #[.int .i64 bn, .int .i64 bd] 23)).trans (hk.mono (by simp; omega))
  have ht0 := ht
  replace ht := ht.below hb
  clear hk
  have ⟨aX0, aX1, aX2, aX3, _⟩ := X
  have ⟨aY0, aY1, aY2, aY3, _⟩ := Y
  go_wp2_with fail
  refine (HCA.out _).mono ?_
  rintro e w2 ⟨rfl, hk⟩
  replace X := X.below hk
  replace Y := Y.below hk
  replace hb := hb.trans (hk.mono hb.size)
  replace ht := ht.below hk
  clear hk aX0 aX1 aX2 aX3 aY0 aY1 aY2 aY3
  have ⟨aX0, aX1, aX2, aX3, _⟩ := X
  have ⟨aY0, aY1, aY2, aY3, _⟩ := Y
  go_wp2_with fail
  refine (HCB.out _).mono ?_
  rintro e w3 ⟨rfl, hk⟩
  replace X := X.below hk
  replace Y := Y.below hk
  replace hb := hb.trans (hk.mono hb.size)
  replace ht := ht.below hk
  clear hk aX0 aX1 aX2 aX3 aY0 aY1 aY2 aY3
  have ⟨aX0, aX1, aX2, aX3, _⟩ := X
  have ⟨aY0, aY1, aY2, aY3, _⟩ := Y
  go_wp2_with fail
  refine (HF.out _).mono ?_
  rintro e w4 ⟨rfl, hk⟩
  replace X := X.below hk
  replace Y := Y.below hk
  replace hb := hb.trans (hk.mono hb.size)
  replace ht := ht.below hk
  clear hk aX0 aX1 aX2 aX3 aY0 aY1 aY2 aY3
  have ⟨aX0, aX1, aX2, aX3, _⟩ := X
  have ⟨aY0, aY1, aY2, aY3, _⟩ := Y
  go_wp2_with fail
  refine (HSM.out _ (ht.alloc _)).mono ?_
  rintro e w5 ⟨s, hs, hs1, hs2, rfl, hk⟩
  replace X := (X.alloc (.cells #[.int .i64 A, .int .i64 B] 23)).below hk
  replace Y := (Y.alloc (.cells #[.int .i64 A, .int .i64 B] 23)).below hk
  have Z := (Two.new w4 (A : Int) (B : Int) 23).below hk
  replace hb := bw_new hb (.cells #[.int .i64 A, .int .i64 B] 23)
  replace hb := hb.trans (hk.mono hb.size)
  replace ht := ht.alloc (.cells #[.int .i64 A, .int .i64 B] 23)
  replace ht := ht.below hk
  clear hk aX0 aX1 aX2 aX3 aY0 aY1 aY2 aY3
  have ⟨aX0, aX1, aX2, aX3, _⟩ := X
  have ⟨aY0, aY1, aY2, aY3, _⟩ := Y
  have ⟨aZ0, aZ1, aZ2, aZ3, _⟩ := Z
  obtain rfl : s = 0 := by
    rw [Nat.mul_comm ad an] at hs
    exact hs.unique (.same (Nat.mul_pos han had))
  clear hs hs1 hs2
  go_wp2_with fail
  refine (HAB.out _ ht).mono ?_
  rintro e w6 ⟨x, hx, hx1, hx2, rfl, hk⟩
  replace X := X.below hk
  replace Y := Y.below hk
  replace Z := Z.below hk
  replace hb := hb.trans (hk.mono hb.size)
  replace ht := ht.below hk
  clear hk aX0 aX1 aX2 aX3 aY0 aY1 aY2 aY3 aZ0 aZ1 aZ2 aZ3
  have ⟨aX0, aX1, aX2, aX3, _⟩ := X
  have ⟨aY0, aY1, aY2, aY3, _⟩ := Y
  have ⟨aZ0, aZ1, aZ2, aZ3, _⟩ := Z
  have HX := Lib.hid hx
  clear hx
  go_wp2_with fail
  refine (HBA.out _ ht).mono ?_
  rintro e w7 ⟨y, hy, hy1, hy2, rfl, hk⟩
  replace X := X.below hk
  replace Y := Y.below hk
  replace Z := Z.below hk
  replace hb := hb.trans (hk.mono hb.size)
  replace ht := ht.below hk
  clear hk aX0 aX1 aX2 aX3 aY0 aY1 aY2 aY3 aZ0 aZ1 aZ2 aZ3
  have ⟨aX0, aX1, aX2, aX3, _⟩ := X
  have ⟨aY0, aY1, aY2, aY3, _⟩ := Y
  have ⟨aZ0, aZ1, aZ2, aZ3, _⟩ := Z
  obtain rfl : y = -x := by
    rw [Nat.mul_comm an bd, Nat.mul_comm ad bn] at hy
    exact hy.unique HX.out.symm
  clear hy hy1 hy2
  go_wp2_with fail
  refine (HCM.out _).mono ?_
  rintro e w8 ⟨rfl, hk⟩
  replace X := X.below hk
  replace Y := Y.below hk
  replace Z := Z.below hk
  replace hb := hb.trans (hk.mono hb.size)
  replace ht := ht.below hk
  clear hk aX0 aX1 aX2 aX3 aY0 aY1 aY2 aY3 aZ0 aZ1 aZ2 aZ3
  have ⟨aX0, aX1, aX2, aX3, _⟩ := X
  have ⟨aY0, aY1, aY2, aY3, _⟩ := Y
  have ⟨aZ0, aZ1, aZ2, aZ3, _⟩ := Z
  go_wp2_with fail
  have hT : Held3 w w.heap.size an ad (w.heap.size + 1) bn bd w4.heap.size A B w8 := ⟨X.1, X.2.1, X, Y, Z, hb⟩
  clear hb ht aX0 aX1 aX2 aX3 aY0 aY1 aY2 aY3 aZ0 aZ1 aZ2 aZ3 X Y Z
  go_region_held3 (fun w' => w'.cell? ⟨w.heap.size, 0, none⟩ = some (.int .i64 an) ∧ w'.cell? ⟨w.heap.size, 1, none⟩ = some (.int .i64 ad) ∧ Pack3 w w.heap.size an ad (w.heap.size + 1) bn bd w4.heap.size A B w') (first | assumption | exact Held3.drew hT | exact Held3.below (by assumption) hbel)
    (first
     | (go_at_call 11; refine (H81.out _).mono ?_; rintro e w' ⟨rfl, hbel⟩)
     | (go_at_call 14; refine (HA8.out _ (Held3.tab ht0 (by assumption))).mono ?_; rintro e w' ⟨u, hu, hu1, hu2, rfl, hbel⟩))
  have hf : Held3 w w.heap.size an ad (w.heap.size + 1) bn bd w4.heap.size A B w' := by assumption
  have hT : Held3 w (w.heap.size + 1) bn bd w.heap.size an ad w4.heap.size A B w' := ⟨hf.2.2.2.1.1, hf.2.2.2.1.2.1, hf.2.2.2.1, hf.2.2.1, hf.2.2.2.2.1, hf.2.2.2.2.2⟩
  have HU := Lib.hid hu
  clear hf hu
  rename_i hH1
  clear hH1 hbel
  rename_i wa hbel
  clear hbel
  go_wp2_with fail
  go_region_held3 (fun w' => w'.cell? ⟨w.heap.size + 1, 0, none⟩ = some (.int .i64 bn) ∧ w'.cell? ⟨w.heap.size + 1, 1, none⟩ = some (.int .i64 bd) ∧ Pack3 w (w.heap.size + 1) bn bd w.heap.size an ad w4.heap.size A B w') (first | assumption | exact Held3.drew hT | exact Held3.below (by assumption) hbel)
    (first
     | (go_at_call 11; refine (H81.out _).mono ?_; rintro e w' ⟨rfl, hbel⟩)
     | (go_at_call 14; refine (HB8.out _ (Held3.tab ht0 (by assumption))).mono ?_; rintro e w' ⟨v, hv, hv1, hv2, rfl, hbel⟩))
  have hf : Held3 w (w.heap.size + 1) bn bd w.heap.size an ad w4.heap.size A B w' := by assumption
  obtain ⟨_, _, Y, X, Z, hb⟩ := hf
  have hord : (m = 1 ∧ v ≤ u) ∨ (m = -1 ∧ u ≤ v) ∨ m = 0 := by
    rcases HM.out with ⟨h1, h2⟩ | ⟨h1, h2⟩ | h1
    · exact .inl ⟨h1, turn_mono han hbn HU.out hv h2⟩
    · exact .inr (.inl ⟨h1, turn_mono hbn han hv HU.out h2⟩)
    · exact .inr (.inr h1)
  rename_i hH2
  clear hH2 hbel hv
  rename_i wb hbel
  clear hbel
  have ht := ht0.below hb
  clear ht0
  have hclB := cls_half HG.out.2.2.2.1 HG.out.2.2.2.2
  have hcla := HCLA.out
  obtain ⟨c, hcc⟩ : ∃ c, c = cls an ad := ⟨_, rfl⟩
  rw [← hcc] at hclB hcla
  clear HCLA
  have HCLA := Lib.hid hcla
  have HCB := Lib.hid hclB
  clear hclB hcla hcc
  have ⟨aX0, aX1, aX2, aX3, _⟩ := X
  have ⟨aY0, aY1, aY2, aY3, _⟩ := Y
  have ⟨aZ0, aZ1, aZ2, aZ3, _⟩ := Z
  by_cases he : pErr A B = 0
  · have hch := HCH.out
    rw [he] at hch
    have hAB := PR_of he
    have hz := fun W h => pshift_ok A B bn bd W h hAB HB.out
    have hclz := fun W => class_ok A B W hAB
    rw [HCB.out] at hclz
    have HCH := Lib.hid hch
    have HZ := Lib.hid hz
    have HCZ := Lib.hid hclz
    clear hch hz hclz hAB he
    rcases hord with ⟨rfl, ho⟩ | ⟨rfl, ho⟩ | rfl
    all_goals
      go_wp2_with fail
      refine (HCH.out _).mono ?_
      rintro e w10 ⟨rfl, hk⟩
      replace X := X.below hk
      replace Y := Y.below hk
      replace Z := Z.below hk
      replace hb := hb.trans (hk.mono hb.size)
      replace ht := ht.below hk
      clear hk aX0 aX1 aX2 aX3 aY0 aY1 aY2 aY3 aZ0 aZ1 aZ2 aZ3
      have ⟨aX0, aX1, aX2, aX3, _⟩ := X
      have ⟨aY0, aY1, aY2, aY3, _⟩ := Y
      have ⟨aZ0, aZ1, aZ2, aZ3, _⟩ := Z
      go_wp2_with fail
      refine (HZ.out _ ht).mono ?_
      rintro e w11 ⟨z, hz, hz1, hz2, rfl, hk⟩
      replace X := X.below hk
      replace Y := Y.below hk
      replace Z := Z.below hk
      replace hb := hb.trans (hk.mono hb.size)
      replace ht := ht.below hk
      clear hk aX0 aX1 aX2 aX3 aY0 aY1 aY2 aY3 aZ0 aZ1 aZ2 aZ3
      have ⟨aX0, aX1, aX2, aX3, _⟩ := X
      have ⟨aY0, aY1, aY2, aY3, _⟩ := Y
      have ⟨aZ0, aZ1, aZ2, aZ3, _⟩ := Z
      obtain rfl : z = x + 12 := half_shift HG.out.1 HG.out.2.1 HG.out.2.2.1 HX.out hz
      clear hz hz1 hz2
      go_wp2_with fail
      refine (HCLA.out _).mono ?_
      rintro e w12 ⟨rfl, hk⟩
      replace X := X.below hk
      replace Y := Y.below hk
      replace Z := Z.below hk
      replace hb := hb.trans (hk.mono hb.size)
      replace ht := ht.below hk
      clear hk aX0 aX1 aX2 aX3 aY0 aY1 aY2 aY3 aZ0 aZ1 aZ2 aZ3
      have ⟨aX0, aX1, aX2, aX3, _⟩ := X
      have ⟨aY0, aY1, aY2, aY3, _⟩ := Y
      have ⟨aZ0, aZ1, aZ2, aZ3, _⟩ := Z
      go_wp2_with fail
      refine (HCZ.out _).mono ?_
      rintro e w13 ⟨rfl, hk⟩
      replace X := X.below hk
      replace Y := Y.below hk
      replace Z := Z.below hk
      replace hb := hb.trans (hk.mono hb.size)
      replace ht := ht.below hk
      clear hk aX0 aX1 aX2 aX3 aY0 aY1 aY2 aY3 aZ0 aZ1 aZ2 aZ3
      have ⟨aX0, aX1, aX2, aX3, _⟩ := X
      have ⟨aY0, aY1, aY2, aY3, _⟩ := Y
      have ⟨aZ0, aZ1, aZ2, aZ3, _⟩ := Z
      go_wp2
      go_ret
      exact ⟨rfl, hb⟩
  · have hch := HCH.out
    obtain ⟨p, hp⟩ : ∃ p, p = pErr A B := ⟨_, rfl⟩
    rw [← hp] at hch he
    have hz : (p == 0) = false := by simpa using he
    have hz2 : (p != 0) = true := by simpa using he
    have HCH := Lib.hid hch
    clear hch he hp
    rcases hord with ⟨rfl, ho⟩ | ⟨rfl, ho⟩ | rfl
    all_goals
      go_wp2_with fail
      refine (HCH.out _).mono ?_
      rintro e w10 ⟨rfl, hk⟩
      replace X := X.below hk
      replace Y := Y.below hk
      replace Z := Z.below hk
      replace hb := hb.trans (hk.mono hb.size)
      replace ht := ht.below hk
      clear hk aX0 aX1 aX2 aX3 aY0 aY1 aY2 aY3 aZ0 aZ1 aZ2 aZ3
      have ⟨aX0, aX1, aX2, aX3, _⟩ := X
      have ⟨aY0, aY1, aY2, aY3, _⟩ := Y
      have ⟨aZ0, aZ1, aZ2, aZ3, _⟩ := Z
      go_wp2
      go_ret
      exact ⟨rfl, hb⟩

theorem turns_any (a b c d : Int) (w : World) (ht : Tab w) :
    Calls Tryd.prog 5 #[.agg #[.int .i64 a, .int .i64 b], .agg #[.int .i64 c, .int .i64 d]] w fun e w' => e = .returned (.bool true) ∧ Below w.heap.size w w' := by
  by_cases he : pErr a b = 0
  · by_cases hf : pErr c d = 0
    · have h := PR_of he
      have k := PR_of hf
      obtain ⟨x, rfl⟩ := Int.eq_ofNat_of_zero_le (show 0 ≤ a by have := h.2.1; omega)
      obtain ⟨y, rfl⟩ := Int.eq_ofNat_of_zero_le (show 0 ≤ b by have := h.1.1; omega)
      obtain ⟨z, rfl⟩ := Int.eq_ofNat_of_zero_le (show 0 ≤ c by have := k.2.1; omega)
      obtain ⟨t, rfl⟩ := Int.eq_ofNat_of_zero_le (show 0 ≤ d by have := k.1.1; omega)
      exact turns_ok x y z t w ht h k
    · exact turns_err2 a b c d w ht he hf
  · exact turns_err1 a b c d w ht he

end Go.Proofs.YtiokjnfhopdleaaDoor
