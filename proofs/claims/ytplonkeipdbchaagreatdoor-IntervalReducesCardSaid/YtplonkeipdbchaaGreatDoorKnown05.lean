/- Package bombardelaw05: known. Conditions: the library's table of powers of ten reads as its text lays it. Printed by genknown05.py. -/
import Derived.Test.YtplonkeipdbchaaGreatDoorIvSgn
import Derived.Test.YtplonkeipdbchaaGreatDoorIvSign
import Derived.Test.YtplonkeipdbchaaGreatDoorIvNamed
import Derived.Test.YtplonkeipdbchaaGreatDoorIvRatio
import Derived.Test.YtplonkeipdbchaaGreatDoorRegE
namespace Go.Proofs.YtplonkeipdbchaaGreatDoor
open Go.RowKit

theorem ivR_ok {n0 d0 n1 d1 n2 d2 : Int} (h : ∀ q ∈ [(n0, d0), (n1, d1), (n2, d2)], Right q.1 q.2) (h2 : prt [(n0, d0), (n1, d1), (n2, d2)] ≠ none) : ivR n0 d0 n1 d1 n2 d2 = .tuple #[szv n0 d0 n1 d1 n2 d2, .int .i64 0] := by
  unfold ivR; rw [if_pos (ivE_ok h h2)]
theorem kn_ratio (w : World) : Calls Tryz.prog 21 #[.int .i64 81, .int .i64 80] w fun e w' => e = .returned (.tuple #[szv (-4) 1 4 1 (-1) 1, .int .i64 0]) ∧ Below w.heap.size w w' := by
  refine (ratio_any 81 80 w (by decide) (by decide) (by decide) (by decide)).mono ?_
  rintro e w' ⟨⟨rn, rd, a0, b0, a1, b1, a2, b2, ⟨f1, f2⟩, m2, m3, m5, he⟩, hb⟩
  obtain ⟨rfl, rfl, rfl, rfl⟩ := fac_uniq f1 (⟨by decide⟩ : Fac 81 0 4 0 1) m2.1 m3.1 m5.1 (by decide) (by decide) (by decide)
  obtain ⟨rfl, rfl, rfl, rfl⟩ := fac_uniq f2 (⟨by decide⟩ : Fac 80 4 0 1 1) m2.2 m3.2 m5.2 (by decide) (by decide) (by decide)
  rw [if_pos rfl] at he
  refine ⟨he.trans ?_, hb⟩
  rw [show ivR (((0 : Nat) : Int) - ((4 : Nat) : Int)) 1 (((4 : Nat) : Int) - ((0 : Nat) : Int)) 1 (((0 : Nat) : Int) - ((1 : Nat) : Int)) 1 = ivR (-4) 1 4 1 (-1) 1 from rfl, ivR_ok (by decide) (by decide)]
theorem kn_of (w : World) : Calls Tryz.prog 22 #[.int .i64 (-4), .int .i64 4, .int .i64 (-1)] w fun e w' => e = .returned (.tuple #[szv (-4) 1 4 1 (-1) 1, .int .i64 0]) ∧ Below w.heap.size w w' := by
  refine (iof_any (-4) 4 (-1) w ⟨by decide, by decide⟩ ⟨by decide, by decide⟩ ⟨by decide, by decide⟩).mono ?_
  rintro e w' ⟨he, hb⟩
  exact ⟨he.trans (by rw [ivR_ok (by decide) (by decide)]), hb⟩
theorem kn_fifth (w : World) : Calls Tryz.prog 23 #[.string ⟨#[102, 105, 102, 116, 104]⟩] w fun e w' => e = .returned (.tuple #[szv (-1) 1 1 1 0 1, .int .i64 0]) ∧ Below w.heap.size w w' := by
  refine (named_any _ w).mono ?_
  intro e w' h
  unfold RetNamed at h
  rw [show nmGet ⟨#[102, 105, 102, 116, 104]⟩ nmTab = some (3, 2) by decide] at h
  obtain ⟨⟨rn, rd, a0, b0, a1, b1, a2, b2, ⟨f1, f2⟩, m2, m3, m5, he⟩, hb⟩ := h
  obtain ⟨rfl, rfl, rfl, rfl⟩ := fac_uniq f1 (⟨by decide⟩ : Fac 3 0 1 0 1) m2.1 m3.1 m5.1 (by decide) (by decide) (by decide)
  obtain ⟨rfl, rfl, rfl, rfl⟩ := fac_uniq f2 (⟨by decide⟩ : Fac 2 1 0 0 1) m2.2 m3.2 m5.2 (by decide) (by decide) (by decide)
  rw [if_pos rfl] at he
  refine ⟨he.trans ?_, hb⟩
  rw [show ivR (((0 : Nat) : Int) - ((1 : Nat) : Int)) 1 (((1 : Nat) : Int) - ((0 : Nat) : Int)) 1 (((0 : Nat) : Int) - ((0 : Nat) : Int)) 1 = ivR (-1) 1 1 1 0 1 from rfl, ivR_ok (by decide) (by decide)]
theorem kn_cents (w : World) (ht : Tab w) : Calls Tryz.prog 8 #[szv (-1) 1 1 1 0 1] w fun e w' => e = .returned (.tuple #[.int .i64 70196, .int .i64 0]) ∧ Below w.heap.size w w' := by
  have h := icents_any (-1) 1 1 1 0 1 (-1) 1 0 1 w ht ⟨by decide, by decide⟩ ⟨by decide, by decide⟩ ⟨by decide, by decide⟩ ⟨by decide, by decide⟩ ⟨by decide, by decide⟩ ⟨by decide, by decide⟩ (ivE_ok (by decide) (by decide)) (by decide)
  rw [show cenZ (-1) 1 0 1 = 70196 by decide] at h
  exact h
theorem kn_cmp (w : World) (ht : Tab w) : Calls Tryz.prog 15 #[szv (-1) 1 1 1 0 1, szv (-4) 1 4 1 (-1) 1] w fun e w' => e = .returned (.tuple #[.int .i64 1, .int .i64 0]) ∧ Below w.heap.size w w' := by
  have h := icompare_all (-1) 1 1 1 0 1 (-4) 1 4 1 (-1) 1 (-1) 1 0 1 (-4) 4 (-1) 1 w ht (by decide) (by decide) (by decide) (by decide)
  rw [show sgn (1 * lgZ (-1) 1 0 - 1 * lgZ (-4) 4 (-1)) = 1 by decide] at h
  exact h

set_option maxRecDepth 100000 in
set_option maxHeartbeats 4000000 in
theorem lknown_any (w : World) (ht : Tab w) : Calls Tryz.prog 7 #[] w fun e w' => e = .returned (.bool true) ∧ Below w.heap.size w w' := by
  have heq := fun W => eql_size W (-4) 1 4 1 (-1) 1 (-4) 1 4 1 (-1) 1
  simp only [szB_self] at heq
  have HT := Lib.hid ht
  clear ht
  go_enter Tryz.func7, Tryz.ntmps7
  go_wp2_with fail
  refine (kn_ratio _).mono ?_
  rintro e w1 ⟨rfl, hb⟩
  have HM1 := Lib.hid (((Hp.start w).step hb).new 25 [.int .i64 (-4), .int .i64 1, .int .i64 4, .int .i64 1, .int .i64 (-1), .int .i64 1])
  clear hb
  go_wp2_with fail
  refine (kn_of _).mono ?_
  rintro e w2 ⟨rfl, hb⟩
  have hM : Hp w [(w1.heap.size, 25, [.int .i64 (-4), .int .i64 1, .int .i64 4, .int .i64 1, .int .i64 (-1), .int .i64 1]), (w2.heap.size, 25, [.int .i64 (-4), .int .i64 1, .int .i64 4, .int .i64 1, .int .i64 (-1), .int .i64 1])] _ := (HM1.out.step hb).new 25 [.int .i64 (-4), .int .i64 1, .int .i64 4, .int .i64 1, .int .i64 (-1), .int .i64 1]
  have HM2 := Lib.hid hM
  clear hb hM HM1
  go_wp2_with fail
  refine (kn_fifth _).mono ?_
  rintro e w3 ⟨rfl, hb⟩
  have hM : Hp w [(w1.heap.size, 25, [.int .i64 (-4), .int .i64 1, .int .i64 4, .int .i64 1, .int .i64 (-1), .int .i64 1]), (w2.heap.size, 25, [.int .i64 (-4), .int .i64 1, .int .i64 4, .int .i64 1, .int .i64 (-1), .int .i64 1]), (w3.heap.size, 25, [.int .i64 (-1), .int .i64 1, .int .i64 1, .int .i64 1, .int .i64 0, .int .i64 1])] _ := (HM2.out.step hb).new 25 [.int .i64 (-1), .int .i64 1, .int .i64 1, .int .i64 1, .int .i64 0, .int .i64 1]
  have HM3 := Lib.hid hM
  clear hb hM HM2
  go_wp2_with fail
  refine (kn_cents _ (HT.out.below HM3.out.below)).mono ?_
  rintro e w4 ⟨rfl, hb⟩
  have HM4 := Lib.hid (HM3.out.step hb)
  clear hb HM3
  obtain ⟨u0, u1, u2, u3, u4, u5⟩ := six_of (HM4.out.at_ 2 rfl)
  obtain ⟨v0, v1, v2, v3, v4, v5⟩ := six_of (HM4.out.at_ 0 rfl)
  go_wp2_with fail
  refine (kn_cmp _ (HT.out.below HM4.out.below)).mono ?_
  rintro e w5 ⟨rfl, hb⟩
  have HM5 := Lib.hid (HM4.out.step hb)
  clear hb HM4 u0 u1 u2 u3 u4 u5 v0 v1 v2 v3 v4 v5
  obtain ⟨u0, u1, u2, u3, u4, u5⟩ := six_of (HM5.out.at_ 1 rfl)
  obtain ⟨v0, v1, v2, v3, v4, v5⟩ := six_of (HM5.out.at_ 0 rfl)
  go_wp2
  go_ret
  exact ⟨rfl, HM5.out.below⟩
end Go.Proofs.YtplonkeipdbchaaGreatDoor
