/- Package fraction: Compare of right fractions. Conditions: right fractions. -/
import Derived.Test.YtiokjnfhopdleaaGreatDoorFrac2
import Derived.BigQuiet
namespace Go.Proofs.YtiokjnfhopdleaaGreatDoor
open Go.RowKit

set_option maxRecDepth 100000 in
set_option maxHeartbeats 1000000 in
/-- Compare of two right fractions. -/
theorem fcompare_any (a b c d : Int) (w : World) (hab : Right a b) (hcd : Right c d) :
    Calls Tryz.prog 31 #[.agg #[.int .i64 a, .int .i64 b], .agg #[.int .i64 c, .int .i64 d]] w fun e w' => e = .returned (.tuple #[.int .i64 (sgnI (a * d - c * b)), .int .i64 0]) ∧ Below w.heap.size w w' := by
  obtain ⟨hb0, hb1, ha0, ha1, hg1⟩ := hab
  obtain ⟨hd0, hd1, hc0, hc1, hg2⟩ := hcd
  have hboth := fun W => fboth_any a b c d W ⟨by omega, by omega⟩ ⟨by omega, by omega⟩ ⟨by omega, by omega⟩ ⟨by omega, by omega⟩
  rw [fErr_ok ⟨hb0, hb1, ha0, ha1, hg1⟩, fErr_ok ⟨hd0, hd1, hc0, hc1, hg2⟩] at hboth
  have HB := Lib.hid hboth
  obtain ⟨m1, m2⟩ := mul_bd ha0 ha1 (show -1000000 ≤ d by omega) hd1
  obtain ⟨m3, m4⟩ := mul_bd hc0 hc1 (show -1000000 ≤ b by omega) hb1
  clear hboth hg1 hg2
  go_enter Tryz.func31, Tryz.ntmps31
  go_wp2_with fail
  refine (HB.out _).mono ?_
  rintro e w1 ⟨rfl, hbel⟩
  obtain ⟨W2, hW2⟩ : ∃ W2, W2 = (w.alloc (Obj.cells #[Value.int IntKind.i64 a, Value.int IntKind.i64 b] 23)).alloc (Obj.cells #[Value.int IntKind.i64 c, Value.int IntKind.i64 d] 23) := ⟨_, rfl⟩
  rw [← hW2] at hbel
  have hT : TwoBox w a b c d W2 := by rw [hW2]; exact TwoBox.start w a b c d _ _
  obtain ⟨k1, k2, k3, k4, k5, k6⟩ := hT.below hbel
  have HK := Lib.hid k6
  clear hW2 hbel hT k6
  go_wp2
  go_quiet (fail)
  rcases Int.lt_trichotomy (a * d) (c * b) with h | h | h
  · have hs : sgnI (a * d - c * b) = -1 := sgnI_neg (by omega)
    have HS := Lib.hid hs
    clear hs
    go_wp2
    go_ret2
    rw [HS.out]
    exact ⟨rfl, HK.out.trans (below_drewN _ _ _)⟩
  · have hs : sgnI (a * d - c * b) = 0 := by rw [h, Int.sub_self]; rfl
    have HS := Lib.hid hs
    have h1 : ¬ a * d < c * b := by omega
    have h2 : ¬ c * b < a * d := by omega
    clear hs h
    go_wp2
    go_ret2
    rw [HS.out]
    exact ⟨rfl, HK.out.trans (below_drewN _ _ _)⟩
  · have hs : sgnI (a * d - c * b) = 1 := sgnI_pos (by omega)
    have HS := Lib.hid hs
    have h1 : ¬ a * d < c * b := by omega
    clear hs
    go_wp2
    go_ret2
    rw [HS.out]
    exact ⟨rfl, HK.out.trans (below_drewN _ _ _)⟩

end Go.Proofs.YtiokjnfhopdleaaGreatDoor
