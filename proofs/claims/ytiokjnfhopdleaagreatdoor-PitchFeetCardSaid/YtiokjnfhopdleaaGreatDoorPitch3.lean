/- Compare of right feet. Conditions: right feet. -/
import Derived.Test.YtiokjnfhopdleaaGreatDoorClass
import Derived.Test.YtiokjnfhopdleaaGreatDoorFracCmp
import Derived.Test.YtiokjnfhopdleaaGreatDoorMem
namespace Go.Proofs.YtiokjnfhopdleaaGreatDoor
open Go.RowKit

set_option maxRecDepth 100000 in
theorem pcompare_ok (an ad bn bd : Nat) (w : World) (hf : PR an ad) (hg : PR bn bd) :
    Calls Tryz.prog 13 #[.agg #[.int .i64 an, .int .i64 ad], .agg #[.int .i64 bn, .int .i64 bd]] w fun e w' => e = .returned (.tuple #[.int .i64 (sgnI ((bn : Int) * ad - an * bd)), .int .i64 0]) ∧ Below w.heap.size w w' := by
  have h1 := fun W => pboth_any an ad bn bd W hf.i64.1 hf.i64.2 hg.i64.1 hg.i64.2
  have h0 : pErr2 an ad bn bd = 0 := by unfold pErr2; rw [pErr_ok hf, pErr_ok hg]; rfl
  rw [h0] at h1
  have h2 := fun W => fcompare_any bn bd an ad W hg.1 hf.1
  obtain ⟨m, hm⟩ : ∃ m, m = sgnI ((bn : Int) * ad - an * bd) := ⟨_, rfl⟩
  rw [← hm] at h2 ⊢
  have H1 := Lib.hid h1
  have H2 := Lib.hid h2
  clear h1 h2 h0 hf hg hm
  go_enter Tryz.func13, Tryz.ntmps13
  go_wp2_with fail
  refine (H1.out _).mono ?_
  rintro e w1 ⟨rfl, hk⟩
  have X := ((Two.new w an ad 23).alloc (.cells #[.int .i64 bn, .int .i64 bd] 23)).below hk
  have Y := (Two.new (w.alloc (.cells #[.int .i64 an, .int .i64 ad] 23)) bn bd 23).below hk
  simp only [World.size_alloc] at Y
  have hb := (bw_new (bw_new (Below.refl _ w) (.cells #[.int .i64 an, .int .i64 ad] 23)) (.cells #[.int .i64 bn, .int .i64 bd] 23)).trans (hk.mono (by simp; omega))
  clear hk
  have ⟨aX0, aX1, aX2, aX3, _⟩ := X
  have ⟨aY0, aY1, aY2, aY3, _⟩ := Y
  go_wp2_with fail
  refine (H2.out _).mono ?_
  rintro e w2 ⟨rfl, hk⟩
  replace hb := hb.trans (hk.mono hb.size)
  clear hk
  go_wp2
  go_ret2
  exact ⟨rfl, hb⟩

end Go.Proofs.YtiokjnfhopdleaaGreatDoor
