/- The statement PitchShifts: the walk. For any two fractions the call returns true. Conditions: the library's table of powers of ten reads as its text lays it. -/
import Derived.Test.YtiokjnfhopdleaaGreatDoorSounds
import Derived.Test.YtiokjnfhopdleaaGreatDoorShiftsNum
import Derived.Test.YtiokjnfhopdleaaGreatDoorPitch3
namespace Go.Proofs.YtiokjnfhopdleaaGreatDoor
open Go.RowKit

set_option maxRecDepth 100000 in
theorem shifts_err1 (a b c d : Int) (w : World) (ht : Tab w) (he : pErr a b ≠ 0) :
    Calls Tryz.prog 4 #[.agg #[.int .i64 a, .int .i64 b], .agg #[.int .i64 c, .int .i64 d]] w fun e w' => e = .returned (.bool true) ∧ Below w.heap.size w w' := by
  have hc := fun W => lcheck_any a b W
  obtain ⟨x, hx0⟩ : ∃ x, x = pErr a b := ⟨_, rfl⟩
  rw [← hx0] at hc he
  have hz : (x == 0) = false := by simpa using he
  have hz2 : (x != 0) = true := by simpa using he
  have HC := Lib.hid hc
  clear hc hx0 he
  go_enter Tryz.func4, Tryz.ntmps4
  go_wp2_with fail
  refine (known_any _ ((ht.alloc _).alloc _)).mono ?_
  rintro e w1 ⟨rfl, hk⟩
  have X := ((Two.new w a b 23).alloc (.cells #[.int .i64 c, .int .i64 d] 23)).below hk
  have hb := (bw_new (bw_new (Below.refl _ w) (.cells #[.int .i64 a, .int .i64 b] 23)) (.cells #[.int .i64 c, .int .i64 d] 23)).trans (hk.mono (by simp; omega))
  replace ht := ht.below hb
  clear hk
  have ⟨aX0, aX1, aX2, aX3, _⟩ := X
  go_wp2_with fail
  refine (HC.out _).mono ?_
  rintro e w2 ⟨rfl, hk⟩
  replace X := X.below hk
  replace hb := hb.trans (hk.mono hb.size)
  replace ht := ht.below hk
  clear hk aX0 aX1 aX2 aX3
  have ⟨aX0, aX1, aX2, aX3, _⟩ := X
  go_wp2_with fail
  refine (known_any _ ht).mono ?_
  rintro e w3 ⟨rfl, hk⟩
  replace hb := hb.trans (hk.mono hb.size)
  clear hk aX0 aX1 aX2 aX3
  go_wp2
  go_ret
  exact ⟨rfl, hb⟩

set_option maxRecDepth 100000 in
set_option maxHeartbeats 2000000 in
theorem shifts_err2 (a b c d : Int) (w : World) (ht : Tab w) (h0 : pErr a b = 0) (he : pErr c d ≠ 0) :
    Calls Tryz.prog 4 #[.agg #[.int .i64 a, .int .i64 b], .agg #[.int .i64 c, .int .i64 d]] w fun e w' => e = .returned (.bool true) ∧ Below w.heap.size w w' := by
  have hc := fun W => lcheck_any a b W
  rw [h0] at hc
  have hd := fun W => lcheck_any c d W
  obtain ⟨x, hx0⟩ : ∃ x, x = pErr c d := ⟨_, rfl⟩
  rw [← hx0] at hd he
  have hz : (x == 0) = false := by simpa using he
  have hz2 : (x != 0) = true := by simpa using he
  have HC := Lib.hid hc
  have HD := Lib.hid hd
  clear hc hd hx0 he h0
  go_enter Tryz.func4, Tryz.ntmps4
  go_wp2_with fail
  refine (known_any _ ((ht.alloc _).alloc _)).mono ?_
  rintro e w1 ⟨rfl, hk⟩
  have X := ((Two.new w a b 23).alloc (.cells #[.int .i64 c, .int .i64 d] 23)).below hk
  have Y := (Two.new (w.alloc (.cells #[.int .i64 a, .int .i64 b] 23)) c d 23).below hk
  simp only [World.size_alloc] at Y
  have hb := (bw_new (bw_new (Below.refl _ w) (.cells #[.int .i64 a, .int .i64 b] 23)) (.cells #[.int .i64 c, .int .i64 d] 23)).trans (hk.mono (by simp; omega))
  replace ht := ht.below hb
  clear hk
  have ⟨aX0, aX1, aX2, aX3, _⟩ := X
  have ⟨aY0, aY1, aY2, aY3, _⟩ := Y
  go_wp2_with fail
  refine (HC.out _).mono ?_
  rintro e w2 ⟨rfl, hk⟩
  replace X := X.below hk
  replace Y := Y.below hk
  replace hb := hb.trans (hk.mono hb.size)
  replace ht := ht.below hk
  clear hk aX0 aX1 aX2 aX3 aY0 aY1 aY2 aY3
  have ⟨aX0, aX1, aX2, aX3, _⟩ := X
  have ⟨aY0, aY1, aY2, aY3, _⟩ := Y
  go_wp2_with fail
  refine (HD.out _).mono ?_
  rintro e w3 ⟨rfl, hk⟩
  replace hb := hb.trans (hk.mono hb.size)
  replace ht := ht.below hk
  clear hk aX0 aX1 aX2 aX3 aY0 aY1 aY2 aY3
  go_wp2_with fail
  refine (known_any _ ht).mono ?_
  rintro e w4 ⟨rfl, hk⟩
  replace hb := hb.trans (hk.mono hb.size)
  clear hk
  go_wp2
  go_ret
  exact ⟨rfl, hb⟩

/-- Three boxes of two ints, and below the call's heap nothing has changed. -/
def Pack3 (w : World) (b1 : Nat) (n1 d1 : Int) (b2 : Nat) (n2 d2 : Int) (b3 : Nat) (n3 d3 : Int) (w' : World) : Prop := Two w' b1 n1 d1 ∧ Two w' b2 n2 d2 ∧ Two w' b3 n3 d3 ∧ Below w.heap.size w w'
/-- .. with all cells at hand. -/
def Held6 (w : World) (b1 : Nat) (n1 d1 : Int) (b2 : Nat) (n2 d2 : Int) (b3 : Nat) (n3 d3 : Int) (w' : World) : Prop :=
  w'.cell? ⟨b1, 0, none⟩ = some (.int .i64 n1) ∧ w'.cell? ⟨b1, 1, none⟩ = some (.int .i64 d1) ∧ w'.cell? ⟨b2, 0, none⟩ = some (.int .i64 n2) ∧ w'.cell? ⟨b2, 1, none⟩ = some (.int .i64 d2) ∧
  w'.cell? ⟨b3, 0, none⟩ = some (.int .i64 n3) ∧ w'.cell? ⟨b3, 1, none⟩ = some (.int .i64 d3) ∧ Pack3 w b1 n1 d1 b2 n2 d2 b3 n3 d3 w'
theorem Held6.of {w w' : World} {b1 b2 b3 : Nat} {n1 d1 n2 d2 n3 d3 : Int} (h : Pack3 w b1 n1 d1 b2 n2 d2 b3 n3 d3 w') : Held6 w b1 n1 d1 b2 n2 d2 b3 n3 d3 w' :=
  ⟨h.1.1, h.1.2.1, h.2.1.1, h.2.1.2.1, h.2.2.1.1, h.2.2.1.2.1, h⟩
theorem Held6.below {w w1 w2 : World} {b1 b2 b3 : Nat} {n1 d1 n2 d2 n3 d3 : Int} (h : Held6 w b1 n1 d1 b2 n2 d2 b3 n3 d3 w1) (hb : Below w1.heap.size w1 w2) : Held6 w b1 n1 d1 b2 n2 d2 b3 n3 d3 w2 := by
  obtain ⟨_, _, _, _, _, _, h1, h2, h3, h4⟩ := h
  exact .of ⟨h1.below hb, h2.below hb, h3.below hb, h4.trans (hb.mono h4.size)⟩
theorem Held6.drew {w w1 : World} {b1 b2 b3 : Nat} {n1 d1 n2 d2 n3 d3 : Int} (h : Held6 w b1 n1 d1 b2 n2 d2 b3 n3 d3 w1) : Held6 w b1 n1 d1 b2 n2 d2 b3 n3 d3 w1.drew := h.below (bw_drew (Below.refl _ _))
theorem Held6.tab {w w1 : World} {b1 b2 b3 : Nat} {n1 d1 n2 d2 n3 d3 : Int} (ht : Tab w) (h : Held6 w b1 n1 d1 b2 n2 d2 b3 n3 d3 w1) : Tab w1 := ht.below h.2.2.2.2.2.2.2.2.2

theorem calls_args {P : Program} {f : Nat} {a b : Array Value} {w : World} {Q : Ending → World → Prop} (e : a = b) (h : Calls P f a w Q) : Calls P f b w Q := e ▸ h

set_option maxRecDepth 100000 in
set_option maxHeartbeats 4000000 in
theorem shifts_ok (fn fd gn gd : Nat) (w : World) (ht : Tab w) (hf : PR fn fd) (hg : PR gn gd) :
    Calls Tryz.prog 4 #[.agg #[.int .i64 fn, .int .i64 fd], .agg #[.int .i64 gn, .int .i64 gd]] w fun e w' => e = .returned (.bool true) ∧ Below w.heap.size w w' := by
  have hca := fun W => lcheck_any fn fd W
  have hcb := fun W => lcheck_any gn gd W
  rw [pErr_ok hf] at hca
  rw [pErr_ok hg] at hcb
  have hsh := fun W h => pshift_ok fn fd gn gd W h hf hg
  have hls := fun W h => lshift_any fn fd gn gd W h hf hg
  have hex := fun W => exact_ok fn fd gn gd W hf hg
  have hcm := fun W => pcompare_ok fn fd gn gd W hf hg
  obtain ⟨⟨f0, _, _, _, _⟩, f1, f2, f3⟩ := hf
  obtain ⟨⟨g0, _, _, _, _⟩, g1, g2, g3⟩ := hg
  obtain ⟨N, hN⟩ : ∃ N, N = gn * fd := ⟨_, rfl⟩
  obtain ⟨D, hD⟩ : ∃ D, D = gd * fn := ⟨_, rfl⟩
  have hN0 : 0 < N := by rw [hN]; exact Nat.mul_pos (by omega) (by omega)
  have hD0 : 0 < D := by rw [hD]; exact Nat.mul_pos (by omega) (by omega)
  have hN1 : N ≤ 2097152 := by rw [hN]; exact Nat.le_trans (Nat.mul_le_mul (show gn ≤ 16384 by omega) (show fd ≤ 128 by omega)) (by decide)
  have hD1 : D ≤ 2097152 := by rw [hD]; exact Nat.le_trans (Nat.mul_le_mul (show gd ≤ 128 by omega) (show fn ≤ 16384 by omega)) (by decide)
  have hNi : (gn : Int) * (fd : Int) = (N : Int) := by rw [hN]; simp
  have hDi : (gd : Int) * (fn : Int) = (D : Int) := by rw [hD]; simp
  have hDi2 : (fn : Int) * (gd : Int) = (D : Int) := by rw [Int.mul_comm]; exact hDi
  rw [← hN, ← hD] at hsh hls hex
  rw [hNi, hDi2] at hcm
  obtain ⟨A, B, g, eA, eB, hA0, hB0, hg0, hNA, hDB, hcop⟩ := low_nat N D hN0 hD0
  have hlf := fun W => lf_any (N : Int) (D : Int) W (by omega) (by omega) (by omega) (by omega)
  rw [eA, eB] at hlf
  have hoA := fun W => lodd_any A W hA0 (by have : A ≤ N := by rw [hNA]; exact Nat.le_mul_of_pos_left _ hg0
                                            omega)
  have hoB := fun W => lodd_any B W hB0 (by have : B ≤ D := by rw [hDB]; exact Nat.le_mul_of_pos_left _ hg0
                                            omega)
  have hwN : wrap64 ((gn : Int) * (fd : Int)) = (N : Int) := by rw [hNi]; exact IntWalk.wrap64_in _ ⟨by omega, by omega⟩
  have hwD : wrap64 ((gd : Int) * (fn : Int)) = (D : Int) := by rw [hDi]; exact IntWalk.wrap64_in _ ⟨by omega, by omega⟩
  have hlf := fun W => calls_args (show (#[.int .i64 (N : Int), .int .i64 (D : Int)] : Array Value) = #[.int .i64 (wrap64 ((gn : Int) * (fd : Int))), .int .i64 (wrap64 ((gd : Int) * (fn : Int)))] by rw [hwN, hwD]) (hlf W)
  have HLF := Lib.hid hlf
  clear hwN hwD hlf
  have hiff := exact_iff hA0 hB0 hg0 hcop
  have hord := order_low (A := A) (B := B) hg0
  rw [← hNA, ← hDB] at hiff hord
  obtain ⟨m, hm⟩ : ∃ m, m = sgnI ((N : Int) - (D : Int)) := ⟨_, rfl⟩
  rw [← hm] at hcm hord
  obtain ⟨oN, hoN⟩ : ∃ o, o = oddOf N := ⟨_, rfl⟩
  obtain ⟨oD, hoD⟩ : ∃ o, o = oddOf D := ⟨_, rfl⟩
  obtain ⟨oA, hoA'⟩ : ∃ o, o = oddOf A := ⟨_, rfl⟩
  obtain ⟨oB, hoB'⟩ : ∃ o, o = oddOf B := ⟨_, rfl⟩
  rw [← hoN, ← hoD] at hex hiff
  rw [← hoA', ← hoB'] at hiff
  rw [← hoA'] at hoA
  rw [← hoB'] at hoB
  have HCA := Lib.hid hca
  have HCB := Lib.hid hcb
  have HSH := Lib.hid hsh
  have HLS := Lib.hid hls
  have HEX := Lib.hid hex
  have HCM := Lib.hid hcm
  have HOA := Lib.hid hoA
  have HOB := Lib.hid hoB
  have HIFF := Lib.hid hiff
  have HORD := Lib.hid hord
  clear hca hcb hsh hls hex hcm hoA hoB hiff hord hNi hDi hDi2 hN hD hNA hDB hcop hoN hoD hoA' hoB' eA eB hm f0 f1 f2 f3 g0 g1 g2 g3
  go_enter Tryz.func4, Tryz.ntmps4
  go_wp2_with fail
  refine (known_any _ ((ht.alloc _).alloc _)).mono ?_
  rintro e w1 ⟨rfl, hk⟩
  have X := ((Two.new w fn fd 23).alloc (.cells #[.int .i64 gn, .int .i64 gd] 23)).below hk
  have Y := (Two.new (w.alloc (.cells #[.int .i64 fn, .int .i64 fd] 23)) gn gd 23).below hk
  simp only [World.size_alloc] at Y
  have hb := (bw_new (bw_new (Below.refl _ w) (.cells #[.int .i64 fn, .int .i64 fd] 23)) (.cells #[.int .i64 gn, .int .i64 gd] 23)).trans (hk.mono (by simp; omega))
  have ht0 := ht
  replace ht := ht.below hb
  clear hk
  have ⟨aX0, aX1, aX2, aX3, _⟩ := X
  have ⟨aY0, aY1, aY2, aY3, _⟩ := Y
  go_wp2_with fail
  refine (HCA.out _).mono ?_
  rintro e w2 ⟨rfl, hk⟩
  replace X := X.below hk
  replace Y := Y.below hk
  replace hb := hb.trans (hk.mono hb.size)
  replace ht := ht.below hk
  clear hk aX0 aX1 aX2 aX3 aY0 aY1 aY2 aY3
  have ⟨aX0, aX1, aX2, aX3, _⟩ := X
  have ⟨aY0, aY1, aY2, aY3, _⟩ := Y
  go_wp2_with fail
  refine (HCB.out _).mono ?_
  rintro e w3 ⟨rfl, hk⟩
  replace X := X.below hk
  replace Y := Y.below hk
  replace hb := hb.trans (hk.mono hb.size)
  replace ht := ht.below hk
  clear hk aX0 aX1 aX2 aX3 aY0 aY1 aY2 aY3
  have ⟨aX0, aX1, aX2, aX3, _⟩ := X
  have ⟨aY0, aY1, aY2, aY3, _⟩ := Y
  go_wp2_with fail
  refine (HSH.out _ ht).mono ?_
  rintro e w4 ⟨s, hs, hs1, hs2, rfl, hk⟩
  replace X := X.below hk
  replace Y := Y.below hk
  replace hb := hb.trans (hk.mono hb.size)
  replace ht := ht.below hk
  have HIS := Lib.hid hs
  clear hk aX0 aX1 aX2 aX3 aY0 aY1 aY2 aY3 hs
  have ⟨aX0, aX1, aX2, aX3, _⟩ := X
  have ⟨aY0, aY1, aY2, aY3, _⟩ := Y
  go_wp2_with fail
  refine (HEX.out _).mono ?_
  rintro e w5 ⟨rfl, hk⟩
  replace X := X.below hk
  replace Y := Y.below hk
  replace hb := hb.trans (hk.mono hb.size)
  replace ht := ht.below hk
  clear hk aX0 aX1 aX2 aX3 aY0 aY1 aY2 aY3
  have ⟨aX0, aX1, aX2, aX3, _⟩ := X
  have ⟨aY0, aY1, aY2, aY3, _⟩ := Y
  go_wp2_with fail
  refine (HCM.out _).mono ?_
  rintro e w6 ⟨rfl, hk⟩
  replace X := X.below hk
  replace Y := Y.below hk
  replace hb := hb.trans (hk.mono hb.size)
  replace ht := ht.below hk
  clear hk aX0 aX1 aX2 aX3 aY0 aY1 aY2 aY3
  have ⟨aX0, aX1, aX2, aX3, _⟩ := X
  have ⟨aY0, aY1, aY2, aY3, _⟩ := Y
  go_wp2_with fail
  refine (HLF.out _).mono ?_
  rintro e w7 ⟨rfl, hk⟩
  replace X := X.below hk
  replace Y := Y.below hk
  replace hb := hb.trans (hk.mono hb.size)
  replace ht := ht.below hk
  clear hk aX0 aX1 aX2 aX3 aY0 aY1 aY2 aY3
  have ⟨aX0, aX1, aX2, aX3, _⟩ := X
  have ⟨aY0, aY1, aY2, aY3, _⟩ := Y
  have hls : ∀ W, Tab W → Calls Tryz.prog 9 #[.agg #[.int .i64 fn, .int .i64 fd], .agg #[.int .i64 gn, .int .i64 gd]] W fun e W' => e = .returned (.int .i64 s) ∧ Below W.heap.size W W' := fun W hW =>
    (HLS.out W hW).mono fun e W' ⟨s', hs', _, _, he, hb⟩ => ⟨by rw [he, hs'.unique HIS.out], hb⟩
  have HLS2 := Lib.hid hls
  clear hls HLS HIS
  have hcs : (((oA : Int) == 1) = true ∧ ((oB : Int) == 1) = true ∧ ((oN : Int) == (oD : Int)) = true) ∨ (((oA : Int) == 1) = true ∧ ((oB : Int) == 1) = false ∧ ((oN : Int) == (oD : Int)) = false) ∨ (((oA : Int) == 1) = false ∧ ((oN : Int) == (oD : Int)) = false) := by
    have h := HIFF.out
    by_cases h1 : oA = 1
    · by_cases h2 : oB = 1
      · exact .inl ⟨by rw [beq_iff_eq]; omega, by rw [beq_iff_eq]; omega, by rw [beq_iff_eq]; exact congrArg _ (h.2 ⟨h1, h2⟩)⟩
      · exact .inr (.inl ⟨by rw [beq_iff_eq]; omega, by rw [beq_eq_false_iff_ne]; omega, by rw [beq_eq_false_iff_ne]; exact fun k => h2 (h.1 (by omega)).2⟩)
    · exact .inr (.inr ⟨by rw [beq_eq_false_iff_ne]; omega, by rw [beq_eq_false_iff_ne]; exact fun k => h1 (h.1 (by omega)).1⟩)
  have HCS := Lib.hid hcs
  clear hcs HIFF
  have hq : (((A : Int) != (B : Int)) = false ∧ m = 0) ∨ (((A : Int) != (B : Int)) = true ∧ m = -1 ∧ A < B) ∨ (((A : Int) != (B : Int)) = true ∧ m = 1 ∧ ¬ A < B) := by
    rcases HORD.out with ⟨h1, h2⟩ | ⟨h1, h2⟩ | ⟨h1, h2⟩
    · exact .inl ⟨by simp [h1], h2⟩
    · exact .inr (.inl ⟨by rw [bne_iff_ne]; omega, h2, h1⟩)
    · exact .inr (.inr ⟨by rw [bne_iff_ne]; omega, h2, by omega⟩)
  clear HORD
  rcases hq with ⟨hq1, rfl⟩ | ⟨hq1, rfl, hAB⟩ | ⟨hq1, rfl, hAB⟩
  all_goals
    go_wp2_with fail
    refine (HLS2.out _ (by first | exact ht | exact ht.alloc _)).mono ?_
    rintro e w8 ⟨rfl, hk⟩
    have Z := (Two.new w7 (A : Int) (B : Int) 23).below hk
    replace hb := bw_new hb (.cells #[.int .i64 A, .int .i64 B] 23)
    replace hb := hb.trans (hk.mono hb.size)
    have HB := Lib.hid hb
    clear hk hb X Y aX0 aX1 aX2 aX3 aY0 aY1 aY2 aY3
    have ⟨aZ0, aZ1, aZ2, aZ3, _⟩ := Z
    clear Z
    rcases HCS.out with ⟨t1, t2, t3⟩ | ⟨t1, t2, t3⟩ | ⟨t1, t3⟩
    · go_wp2_with fail
      refine (HOA.out _).mono ?_
      rintro e w9 ⟨rfl, rfl⟩
      go_wp2_with fail
      refine (HOB.out _).mono ?_
      rintro e w10 ⟨rfl, rfl⟩
      go_wp2
      go_ret
      exact ⟨rfl, HB.out⟩
    · go_wp2_with fail
      refine (HOA.out _).mono ?_
      rintro e w9 ⟨rfl, rfl⟩
      go_wp2_with fail
      refine (HOB.out _).mono ?_
      rintro e w10 ⟨rfl, rfl⟩
      go_wp2
      go_ret
      exact ⟨rfl, HB.out⟩
    · go_wp2_with fail
      refine (HOA.out _).mono ?_
      rintro e w9 ⟨rfl, rfl⟩
      go_wp2
      go_ret
      exact ⟨rfl, HB.out⟩

theorem shifts_any (a b c d : Int) (w : World) (ht : Tab w) :
    Calls Tryz.prog 4 #[.agg #[.int .i64 a, .int .i64 b], .agg #[.int .i64 c, .int .i64 d]] w fun e w' => e = .returned (.bool true) ∧ Below w.heap.size w w' := by
  by_cases he : pErr a b = 0
  · by_cases he2 : pErr c d = 0
    · have h := PR_of he
      have h2 := PR_of he2
      obtain ⟨x, rfl⟩ := Int.eq_ofNat_of_zero_le (show 0 ≤ a by have := h.2.1; omega)
      obtain ⟨y, rfl⟩ := Int.eq_ofNat_of_zero_le (show 0 ≤ b by have := h.1.1; omega)
      obtain ⟨u, rfl⟩ := Int.eq_ofNat_of_zero_le (show 0 ≤ c by have := h2.2.1; omega)
      obtain ⟨v, rfl⟩ := Int.eq_ofNat_of_zero_le (show 0 ≤ d by have := h2.1.1; omega)
      exact shifts_ok x y u v w ht h h2
    · exact shifts_err2 a b c d w ht he he2
  · exact shifts_err1 a b c d w ht he

end Go.Proofs.YtiokjnfhopdleaaGreatDoor
