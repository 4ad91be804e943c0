/- Part 5 of 33 of the proof of the law: contracts of the functions that it reaches, and plain facts. Conditions: those that each contract names. -/
import Derived.Test.YtaegjpancbmppaaGreatDoorTabB02
import Derived.Deep.DeepCutAuto
set_option linter.unusedVariables false
set_option linter.unusedSimpArgs false
namespace Go.Proofs.YtaegjpancbmppaaGreatDoor
open Go.RowKit
def AddW (w : World) (g k : Nat) (v : Value) (b : Bool) (W : World) : Prop := W = if b = true then w.drew.setCell ⟨g, k, none⟩ v else w.drew
set_option maxRecDepth 1000000 in
set_option maxHeartbeats 4000000 in
theorem iadd_any (M r g : Nat) (t : TypeId) (w : World) (h : Blk w g t (setL M)) (hr : r < 256) :
  Calls Tryz.prog 73 #[.pointer (some ⟨g, 0, none⟩), .int .i64 (r : Int)] w fun e w' => e = .returned (.tuple #[]) ∧ w' = w.drew.setCell ⟨g, r / 64, none⟩ (.int .u64 (wd (M ||| 2 ^ r) (r / 64) : Nat)) := by
 have hc : w.drew.cell? ⟨g, r / 64, none⟩ = some (.int .u64 (wd M (r / 64) : Nat)) := set_at h (by omega)
 have hf := h.frozen (r / 64)
 have HC := Lib.hid hc
 have HFR := Lib.hid (show w.drew.frozen? ⟨g, r / 64, none⟩ = false from hf)
 have hp64 : 2 ^ (r % 64) < 18446744073709551616 := Nat.pow_lt_pow_right (a := 2) (n := 64) (by decide) (show r % 64 < 64 by omega)
 have hwd := wd_add M r (r / 64)
 rw [if_pos rfl] at hwd
 have hsl : IntKind.u64.wrap (2 ^ ((r : Int) % 64).toNat) = ((2 ^ (r % 64) : Nat) : Int) := by
  rw [show ((r : Int) % 64).toNat = r % 64 by omega]
  have := u64_nat hp64
  rwa [Int.natCast_pow] at this
 obtain ⟨b, hb⟩ : ∃ b, b = 2 ^ (r % 64) := ⟨_, rfl⟩
 rw [← hb] at hp64 hwd hsl
 have hor : bits .or .u64 (wd M (r / 64) : Nat) (b : Int) = ((wd (M ||| 2 ^ r) (r / 64) : Nat) : Int) := by
  rw [or_u64 (wd_lt _ _) hp64, hwd]
 have HOR := Lib.hid hor
 have hq1 : (0 : Int) ≤ (r : Int) / 64 ∧ (r : Int) / 64 < 4 := by omega
 have HQ := Lib.hid (And.intro hq1 (And.intro (show IntKind.i64.wrap ((r : Int) / 64) = (r : Int) / 64 from IntWalk.i64_in _ (by omega)) hsl))
 clear hc hf hor hq1 h hp64 hwd hsl hb
 go_enter Tryz.func73, Tryz.ntmps73
 go_upto_region 0 with fail
 refine wp_regionJ 13 #[false, false, false, false, false, false, false, false, false, false, false, false, false] (fun l a W => ∃ (m0 m1 m2 m3 m4 m5 m6 m7 m8 m9 m10 m11 m12 : Bool), l = #[m0, m1, m2, m3, m4, m5, m6, m7, m8, m9, m10, m11, m12] ∧ a = ({ tmps := #[.pointer (some ⟨g, 0, none⟩), .int .i64 (r : Int), undef, undef, cwX m0 (.pointer (some ⟨g, 0, none⟩)) (undef), cwX m1 (.int .i64 (r : Int)) (undef), cwX m2 (.int .i64 ((r : Int) / 64)) (undef), cwX m3 (.pointer (some ⟨g, 0, none⟩)) (undef), cwX m4 (.pointer (some ⟨g, r / 64, none⟩)) (undef), cwX m5 (.int .u64 (wd M (r / 64) : Nat)) (undef), cwX m6 (.int .i64 (r : Int)) (undef), cwX m7 (.int .i64 ((r : Int) % 64)) (undef), cwX m8 (.int .u64 (b : Int)) (undef), cwX m9 (.int .u64 (wd (M ||| 2 ^ r) (r / 64) : Nat)) (undef), cwX m10 (.pointer (some ⟨g, 0, none⟩)) (undef), cwX m11 (.pointer (some ⟨g, r / 64, none⟩)) (undef)], defers := [] } : Act) ∧ (m12 = true → m5 = true) ∧ AddW w g (r / 64) (.int .u64 (wd (M ||| 2 ^ r) (r / 64) : Nat)) m12 W) (by kernel_rfl) (by kernel_rfl) (by kernel_rfl) (by kernel_rfl) ?_ ?_ ?_ ?_
 ·rintro l a W ⟨m0, m1, m2, m3, m4, m5, m6, m7, m8, m9, m10, m11, m12, rfl, _⟩
  rfl
 ·exact ⟨false, false, false, false, false, false, false, false, false, false, false, false, false, rfl, rfl, fun h => absurd h (by simp), rfl⟩
 ·rintro l a W i o ⟨m0, m1, m2, m3, m4, m5, m6, m7, m8, m9, m10, m11, m12, rfl, rfl, hi0, hm⟩ ho hun hall K hK
  have hi : i < 13 := (Array.getElem?_eq_some_iff.1 ho).1
  have HM := Lib.hid hm
  have HI := Lib.hid hi0
  clear hm hi0
  rcases (show i = 0 ∨ i = 1 ∨ i = 2 ∨ i = 3 ∨ i = 4 ∨ i = 5 ∨ i = 6 ∨ i = 7 ∨ i = 8 ∨ i = 9 ∨ i = 10 ∨ i = 11 ∨ i = 12 by omega) with rfl | rfl | rfl | rfl | rfl | rfl | rfl | rfl | rfl | rfl | rfl | rfl | rfl
  ·cases ho
   simp at hun; subst hun
   clear hall hi
   go_simp
   exact hK.out _ _ ⟨true, m1, m2, m3, m4, m5, m6, m7, m8, m9, m10, m11, m12, rfl, rfl, by have h0 := HI.out; exact fun e => by first | rfl | exact h0 e, HM.out⟩
  ·cases ho
   simp at hun; subst hun
   clear hall hi
   go_simp
   exact hK.out _ _ ⟨m0, true, m2, m3, m4, m5, m6, m7, m8, m9, m10, m11, m12, rfl, rfl, by have h0 := HI.out; exact fun e => by first | rfl | exact h0 e, HM.out⟩
  ·cases ho
   cases (getBX hall 1 rfl : m1 = true)
   simp at hun; subst hun
   clear hall hi
   have hq := HQ.out.2.1
   go_simp
   exact hK.out _ _ ⟨m0, true, true, m3, m4, m5, m6, m7, m8, m9, m10, m11, m12, rfl, rfl, by have h0 := HI.out; exact fun e => by first | rfl | exact h0 e, HM.out⟩
  ·cases ho
   cases (getBX hall 0 rfl : m0 = true)
   simp at hun; subst hun
   clear hall hi
   go_simp
   exact hK.out _ _ ⟨true, m1, m2, true, m4, m5, m6, m7, m8, m9, m10, m11, m12, rfl, rfl, by have h0 := HI.out; exact fun e => by first | rfl | exact h0 e, HM.out⟩
  ·cases ho
   cases (getBX hall 2 rfl : m2 = true)
   cases (getBX hall 3 rfl : m3 = true)
   simp at hun; subst hun
   clear hall hi
   have hq := HQ.out.1
   go_simp
   exact hK.out _ _ ⟨m0, m1, true, true, true, m5, m6, m7, m8, m9, m10, m11, m12, rfl, rfl, by have h0 := HI.out; exact fun e => by first | rfl | exact h0 e, HM.out⟩
  ·cases ho
   cases (getBX hall 4 rfl : m4 = true)
   simp at hun; subst hun
   clear hall hi
   obtain rfl : m12 = false := by
    cases m12
    ·rfl
    ·exact absurd (HI.out rfl) (by simp)
   have c0 : W.cell? ⟨g, r / 64, none⟩ = some (.int .u64 (wd M (r / 64) : Nat)) := by rw [show W = w.drew from HM.out]; exact HC.out
   go_simp
   exact hK.out _ _ ⟨m0, m1, m2, m3, true, true, m6, m7, m8, m9, m10, m11, false, rfl, rfl, by have h0 := HI.out; exact fun e => by first | rfl | exact h0 e, HM.out⟩
  ·cases ho
   simp at hun; subst hun
   clear hall hi
   go_simp
   exact hK.out _ _ ⟨m0, m1, m2, m3, m4, m5, true, m7, m8, m9, m10, m11, m12, rfl, rfl, by have h0 := HI.out; exact fun e => by first | rfl | exact h0 e, HM.out⟩
  ·cases ho
   cases (getBX hall 6 rfl : m6 = true)
   simp at hun; subst hun
   clear hall hi
   go_simp
   exact hK.out _ _ ⟨m0, m1, m2, m3, m4, m5, true, true, m8, m9, m10, m11, m12, rfl, rfl, by have h0 := HI.out; exact fun e => by first | rfl | exact h0 e, HM.out⟩
  ·cases ho
   cases (getBX hall 7 rfl : m7 = true)
   simp at hun; subst hun
   clear hall hi
   have hq := HQ.out.2.2
   go_simp
   exact hK.out _ _ ⟨m0, m1, m2, m3, m4, m5, m6, true, true, m9, m10, m11, m12, rfl, rfl, by have h0 := HI.out; exact fun e => by first | rfl | exact h0 e, HM.out⟩
  ·cases ho
   cases (getBX hall 5 rfl : m5 = true)
   cases (getBX hall 8 rfl : m8 = true)
   simp at hun; subst hun
   clear hall hi
   have hor := HOR.out
   go_simp
   exact hK.out _ _ ⟨m0, m1, m2, m3, m4, true, m6, m7, true, true, m10, m11, m12, rfl, rfl, by have h0 := HI.out; exact fun e => by first | rfl | exact h0 e, HM.out⟩
  ·cases ho
   cases (getBX hall 0 rfl : m0 = true)
   simp at hun; subst hun
   clear hall hi
   go_simp
   exact hK.out _ _ ⟨true, m1, m2, m3, m4, m5, m6, m7, m8, m9, true, m11, m12, rfl, rfl, by have h0 := HI.out; exact fun e => by first | rfl | exact h0 e, HM.out⟩
  ·cases ho
   cases (getBX hall 2 rfl : m2 = true)
   cases (getBX hall 10 rfl : m10 = true)
   simp at hun; subst hun
   clear hall hi
   have hq := HQ.out.1
   go_simp
   exact hK.out _ _ ⟨m0, m1, true, m3, m4, m5, m6, m7, m8, m9, true, true, m12, rfl, rfl, by have h0 := HI.out; exact fun e => by first | rfl | exact h0 e, HM.out⟩
  ·cases ho
   cases (getBX hall 5 rfl : m5 = true)
   cases (getBX hall 9 rfl : m9 = true)
   cases (getBX hall 11 rfl : m11 = true)
   simp at hun; subst hun
   clear hall hi
   have hW : W = w.drew := HM.out
   subst hW
   have c0 := HC.out
   have f0 := HFR.out
   go_simp
   exact hK.out _ _ ⟨m0, m1, m2, m3, m4, true, m6, m7, m8, true, m10, true, true, rfl, rfl, by have h0 := HI.out; exact fun e => by first | rfl | exact h0 e, rfl⟩
 ·rintro l a W ⟨m0, m1, m2, m3, m4, m5, m6, m7, m8, m9, m10, m11, m12, rfl, rfl, _, hm⟩ hall
  cases (hall 0 (by decide) : m0 = true)
  cases (hall 1 (by decide) : m1 = true)
  cases (hall 2 (by decide) : m2 = true)
  cases (hall 3 (by decide) : m3 = true)
  cases (hall 4 (by decide) : m4 = true)
  cases (hall 5 (by decide) : m5 = true)
  cases (hall 6 (by decide) : m6 = true)
  cases (hall 7 (by decide) : m7 = true)
  cases (hall 8 (by decide) : m8 = true)
  cases (hall 9 (by decide) : m9 = true)
  cases (hall 10 (by decide) : m10 = true)
  cases (hall 11 (by decide) : m11 = true)
  cases (hall 12 (by decide) : m12 = true)
  clear hall
  dsimp only [cwX, cond_true]
  obtain rfl : W = w.drew.setCell ⟨g, r / 64, none⟩ (.int .u64 (wd (M ||| 2 ^ r) (r / 64) : Nat)) := hm
  go_end0
  exact ⟨rfl, rfl⟩
end Go.Proofs.YtaegjpancbmppaaGreatDoor
