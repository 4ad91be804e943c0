/- Package fraction: both. Conditions: the parts are ints. Package fraction: Add, Sub, Mul of right fractions. Conditions: right fractions. Printed by genfrop.py. -/
import Derived.Test.YtplonkeipdbchaaGreatDoorFrac2
import Derived.BigQuiet
import Derived.Test.YtplonkeipdbchaaGreatDoorMake
namespace Go.Proofs.YtplonkeipdbchaaGreatDoor
section
open Go.RowKit

set_option maxRecDepth 100000 in
set_option maxHeartbeats 1000000 in
theorem fboth_any (a b c d : Int) (w : World) (ha : I64 a) (hb : I64 b) (hc : I64 c) (hd : I64 d) :
    Calls Tryz.prog 94 #[.agg #[.int .i64 a, .int .i64 b], .agg #[.int .i64 c, .int .i64 d]] w fun e w' => e = .returned (.int .i64 (max (fErr a b) (fErr c d))) ∧ Below w.heap.size w w' := by
  go_enter Tryz.func94, Tryz.ntmps94
  go_wp2
  obtain ⟨W2, hW2⟩ : ∃ W2, W2 = (w.alloc (Obj.cells #[Value.int IntKind.i64 a, Value.int IntKind.i64 b] 23)).alloc (Obj.cells #[Value.int IntKind.i64 c, Value.int IntKind.i64 d] 23) := ⟨_, rfl⟩
  rw [← hW2]
  have hT : TwoBox w a b c d W2 := by rw [hW2]; exact TwoBox.start w a b c d _ _
  clear hW2
  go_region_held3 (fun w' => w'.cell? ⟨w.heap.size, 0, none⟩ = some (.int .i64 a) ∧ w'.cell? ⟨w.heap.size, 1, none⟩ = some (.int .i64 b) ∧
  w'.cell? ⟨w.heap.size + 1, 0, none⟩ = some (.int .i64 c) ∧ w'.cell? ⟨w.heap.size + 1, 1, none⟩ = some (.int .i64 d) ∧ w.heap.size + 2 ≤ w'.heap.size ∧ Below w.heap.size w w') (first | assumption | exact TwoBox.drew hT | exact TwoBox.below (by assumption) hbel)
    (first
     | (go_at_call 51; refine (fcheck_any _ _ _ (by first | exact ha.1 | exact hc.1) (by first | exact ha.2 | exact hc.2) (by first | exact hb.1 | exact hd.1) (by first | exact hb.2 | exact hd.2)).mono ?_; rintro e w' ⟨rfl, hbel⟩))
  have hf : TwoBox w a b c d w' := by assumption
  have HF := Lib.hid hf
  clear hf
  go_wp2
  all_goals
    go_ret
    exact ⟨ret_int (by omega), HF.out.2.2.2.2.2⟩
end

section
open Go.RowKit

set_option maxRecDepth 100000 in
set_option maxHeartbeats 1000000 in
theorem fnSub_any (a b c d : Int) (g h : Nat) (w : World) (e0 : w.cell? ⟨g, 0, none⟩ = some (.int .i64 a)) (e1 : w.cell? ⟨g, 1, none⟩ = some (.int .i64 b)) (e2 : w.cell? ⟨h, 0, none⟩ = some (.int .i64 c)) (e3 : w.cell? ⟨h, 1, none⟩ = some (.int .i64 d)) (hab : Right a b) (hcd : Right c d) :
    Calls Tryz.prog 76 #[.pointer (some ⟨g, 0, none⟩), .pointer (some ⟨h, 0, none⟩)] w fun e w' => e = .returned (.tuple #[.int .i64 (a * d - c * b), .int .i64 (b * d)]) ∧ Below w.heap.size w w' := by
  obtain ⟨hb0, hb1, ha0, ha1, hg1⟩ := hab
  obtain ⟨hd0, hd1, hc0, hc1, hg2⟩ := hcd
  obtain ⟨m1, m2⟩ := mul_bd ha0 ha1 (show -1000000 ≤ d by omega) hd1
  obtain ⟨m3, m4⟩ := mul_bd hc0 hc1 (show -1000000 ≤ b by omega) hb1
  obtain ⟨m5, m6⟩ := mul_bd (show -1000000 ≤ b by omega) hb1 (show -1000000 ≤ d by omega) hd1
  obtain ⟨m7, m8⟩ := mul_bd ha0 ha1 hc0 hc1
  clear hg1 hg2
  go_enter Tryz.func76, Tryz.ntmps76
  go_wp2
  go_quiet (fail)
  go_wp2
  go_ret2
  exact ⟨rfl, below_drewN _ _ _⟩
set_option maxRecDepth 100000 in
set_option maxHeartbeats 2000000 in
theorem lowSub_any (a b c d : Int) (g h : Nat) (w : World) (hg : g < w.heap.size) (hh : h < w.heap.size) (e0 : w.cell? ⟨g, 0, none⟩ = some (.int .i64 a)) (e1 : w.cell? ⟨g, 1, none⟩ = some (.int .i64 b)) (e2 : w.cell? ⟨h, 0, none⟩ = some (.int .i64 c)) (e3 : w.cell? ⟨h, 1, none⟩ = some (.int .i64 d)) (hab : Right a b) (hcd : Right c d) :
    Calls Tryz.prog 75 #[.agg #[.int .i64 a, .int .i64 b], .agg #[.int .i64 c, .int .i64 d], .func (.func 76) #[] #[.pointer (some ⟨g, 0, none⟩), .pointer (some ⟨h, 0, none⟩)]] w fun e w' => e = .returned (fRet (fMake (a * d - c * b) (b * d))) ∧ Below w.heap.size w w' := by
  have HAB := Lib.hid hab
  have HCD := Lib.hid hcd
  obtain ⟨hb0, hb1, ha0, ha1, hg1⟩ := hab
  obtain ⟨hd0, hd1, hc0, hc1, hg2⟩ := hcd
  have hboth := fun W => fboth_any a b c d W ⟨by omega, by omega⟩ ⟨by omega, by omega⟩ ⟨by omega, by omega⟩ ⟨by omega, by omega⟩
  rw [fErr_ok HAB.out, fErr_ok HCD.out] at hboth
  have HB := Lib.hid hboth
  obtain ⟨m1, m2⟩ := mul_bd ha0 ha1 (show -1000000 ≤ d by omega) hd1
  obtain ⟨m3, m4⟩ := mul_bd hc0 hc1 (show -1000000 ≤ b by omega) hb1
  obtain ⟨m5, m6⟩ := mul_bd (show -1000000 ≤ b by omega) hb1 (show -1000000 ≤ d by omega) hd1
  obtain ⟨m7, m8⟩ := mul_bd ha0 ha1 hc0 hc1
  have hmk := fun W => make_any (a * d - c * b) (b * d) W ⟨by omega, by omega⟩ ⟨by omega, by omega⟩
  obtain ⟨r0, r1, r2, hr⟩ : ∃ r0 r1 r2, fMake (a * d - c * b) (b * d) = (r0, r1, r2) := ⟨_, _, _, rfl⟩
  rw [hr] at hmk ⊢
  have HM := Lib.hid hmk
  obtain ⟨W3, hW3⟩ : ∃ W3, W3 = ((w.alloc (.cells #[.int .i64 a, .int .i64 b] 23)).alloc (.cells #[.int .i64 c, .int .i64 d] 23)).alloc (.cells #[.int .i64 0, .int .i64 0] 23) := ⟨_, rfl⟩
  have hby : Blk W3 (w.heap.size + 1 + 1) 23 [.int .i64 0, .int .i64 0] := by
    rw [hW3]
    have := heap_alloc_new ((w.alloc (.cells #[.int .i64 a, .int .i64 b] 23)).alloc (.cells #[.int .i64 c, .int .i64 d] 23)) (.cells #[.int .i64 0, .int .i64 0] 23)
    rw [World.size_alloc, World.size_alloc] at this
    exact this
  have hbw : Below w.heap.size w W3 := by rw [hW3]; exact bw_new (bw_new (bw_new (Below.refl _ w) _) _) _
  have HBY := Lib.hid hby
  have HBW := Lib.hid hbw
  have HE := Lib.hid (And.intro (And.intro e0 e1) (And.intro e2 e3))
  have HR := Lib.hid hr
  clear hboth hg1 hg2 hmk hr hby hbw e0 e1 e2 e3
  go_enter Tryz.func75, Tryz.ntmps75
  go_wp2_with fail
  rw [← hW3]
  refine (HB.out _).mono ?_
  rintro e w1 ⟨rfl, hb1⟩
  have HB1 := Lib.hid hb1
  have HBW1 := Lib.hid (HBW.out.trans (hb1.mono HBW.out.size))
  have HBY1 := Lib.hid (HBY.out.below hb1 HBY.out.lt)
  clear hb1 hW3
  go_wp2_with fail
  refine (fnSub_any a b c d g h w1 ((HBW1.out.cell hg).trans HE.out.1.1) ((HBW1.out.cell hg).trans HE.out.1.2) ((HBW1.out.cell hh).trans HE.out.2.1) ((HBW1.out.cell hh).trans HE.out.2.2) HAB.out HCD.out).mono ?_
  rintro e w2 ⟨rfl, hb2⟩
  have HBW2 := Lib.hid (HBW1.out.trans (hb2.mono HBW1.out.size))
  have HBY2 := Lib.hid (HBY1.out.below hb2 HBY1.out.lt)
  clear hb2
  go_wp2_with fail
  refine (HM.out _).mono ?_
  rintro e w3 ⟨rfl, hb3⟩
  have HBW3 := Lib.hid (HBW2.out.trans (hb3.mono HBW2.out.size))
  have HBY3 := Lib.hid (HBY2.out.below hb3 HBY2.out.lt)
  clear hb3
  have c0 := HBY3.out.cell 0
  have c1 := HBY3.out.cell 1
  have f0 := HBY3.out.frozen 0
  have f1 := HBY3.out.frozen 1
  unfold fRet
  dsimp only
  go_wp2
  refine bodyPost_ret (v := .tuple #[.agg #[.int .i64 r0, .int .i64 r1], .int .i64 r2]) (by simp [results, Tryz.results75, go_sem, c0, c1]) rfl ⟨rfl, ?_⟩
  exact bw_set (bw_set HBW3.out (show w.heap.size ≤ w.heap.size + 1 + 1 by omega) _) (show w.heap.size ≤ w.heap.size + 1 + 1 by omega) _
set_option maxRecDepth 100000 in
set_option maxHeartbeats 2000000 in
theorem fSub_any (a b c d : Int) (w : World) (hab : Right a b) (hcd : Right c d) :
    Calls Tryz.prog 47 #[.agg #[.int .i64 a, .int .i64 b], .agg #[.int .i64 c, .int .i64 d]] w fun e w' => e = .returned (fRet (fMake (a * d - c * b) (b * d))) ∧ Below w.heap.size w w' := by
  obtain ⟨W3, hW3⟩ : ∃ W3, W3 = ((w.alloc (.cells #[.int .i64 a, .int .i64 b] 23)).alloc (.cells #[.int .i64 c, .int .i64 d] 23)).alloc (.cells #[.int .i64 0, .int .i64 0] 23) := ⟨_, rfl⟩
  have hby : Blk W3 (w.heap.size + 1 + 1) 23 [.int .i64 0, .int .i64 0] := by
    rw [hW3]
    have := heap_alloc_new ((w.alloc (.cells #[.int .i64 a, .int .i64 b] 23)).alloc (.cells #[.int .i64 c, .int .i64 d] 23)) (.cells #[.int .i64 0, .int .i64 0] 23)
    rw [World.size_alloc, World.size_alloc] at this
    exact this
  have hbw : Below w.heap.size w W3 := by rw [hW3]; exact bw_new (bw_new (bw_new (Below.refl _ w) _) _) _
  have htb : TwoBox w a b c d W3 := by
    rw [hW3]
    exact (TwoBox.start w a b c d _ _).below (bw_new (Below.refl _ _) _)
  obtain ⟨r0, r1, r2, hr⟩ : ∃ r0 r1 r2, fMake (a * d - c * b) (b * d) = (r0, r1, r2) := ⟨_, _, _, rfl⟩
  have hl := lowSub_any a b c d w.heap.size (w.heap.size + 1) W3 (by have := hby.lt; omega) (by have := hby.lt; omega) htb.1 htb.2.1 htb.2.2.1 htb.2.2.2.1 hab hcd
  rw [hr] at hl ⊢
  have HL := Lib.hid hl
  have HBY := Lib.hid hby
  have HBW := Lib.hid hbw
  have HR := Lib.hid hr
  clear hl hby hbw htb hr hab hcd
  go_enter Tryz.func47, Tryz.ntmps47
  go_wp2_with fail
  rw [← hW3]
  refine HL.out.mono ?_
  rintro e w3 ⟨rfl, hb3⟩
  have HBW3 := Lib.hid (HBW.out.trans (hb3.mono HBW.out.size))
  have HBY3 := Lib.hid (HBY.out.below hb3 HBY.out.lt)
  clear hb3 hW3
  have c0 := HBY3.out.cell 0
  have c1 := HBY3.out.cell 1
  have f0 := HBY3.out.frozen 0
  have f1 := HBY3.out.frozen 1
  unfold fRet
  dsimp only
  go_wp2
  refine bodyPost_ret (v := .tuple #[.agg #[.int .i64 r0, .int .i64 r1], .int .i64 r2]) (by simp [results, Tryz.results47, go_sem, c0, c1]) rfl ⟨rfl, ?_⟩
  exact bw_set (bw_set HBW3.out (show w.heap.size ≤ w.heap.size + 1 + 1 by omega) _) (show w.heap.size ≤ w.heap.size + 1 + 1 by omega) _

end
end Go.Proofs.YtplonkeipdbchaaGreatDoor
