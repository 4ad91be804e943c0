/- Part 5 of 47 of the proof of the law: contracts of the functions that it reaches, and plain facts. Conditions: those that each contract names. -/
import Derived.Test.YtendjepcjmfmfaaGreatDoorOrdB01
import Derived.Test.YtendjepcjmfmfaaGreatDoorRows
import Derived.Deep.QuietTactic
import Derived.BigQuiet
namespace Go.Proofs.YtendjepcjmfmfaaGreatDoor
open Go.RowKit
set_option maxRecDepth 100000 in
theorem gcd_any (a b : Nat) (w : World) (ha : a < 18446744073709551616) (hb : b < 18446744073709551616) :
  Calls Tryz.prog 78 #[.int .u64 a, .int .u64 b] w fun e w' => e = .returned (.int .u64 (Nat.gcd a b : Int)) ∧ ∃ k, w' = w.drewN k := by
 go_enter Tryz.func78, Tryz.ntmps78
 go_wp2
 go_loopw [0, 1] (fun u v wr => ∃ x y k : Nat, x < 18446744073709551616 ∧ y < 18446744073709551616 ∧ u = .int .u64 x ∧ v = .int .u64 y ∧ Nat.gcd x y = Nat.gcd a b ∧ wr = w.drewN k) (fun _ v _ => (intOf v).toNat)
 case atStart => exact ⟨a, b, 0, ha, hb, rfl, rfl, rfl, rfl⟩
 case round =>
  obtain ⟨x, y, k, hx, hy, rfl, rfl, hg, rfl⟩ := hrel
  have HG := Lib.hid hg
  clear hg
  by_cases h0 : y = 0
  ·subst h0
   go_wp2
   go_ret
   exact ⟨ret_int (by rw [← HG.out, Nat.gcd_zero_right]), k, rfl⟩
  ·have hy0 : 0 < y := by omega
   have hyz : ((y : Int) == 0) = false := by simp; omega
   go_wp2
   go_quiet (fail)
   go_wp2
   go_roundw
   case rel => exact ⟨y, x % y, k + nq, hy, Nat.lt_trans (Nat.mod_lt _ hy0) hy, rfl, by simp, by rw [← HG.out, Nat.gcd_comm y, ← Nat.gcd_rec, Nat.gcd_comm], by rw [World.drewN_drewN]⟩
   case measure =>
    have := Nat.mod_lt x hy0
    have e : ((x : Int) % (y : Int)) = ((x % y : Nat) : Int) := by simp
    rw [e]; simp [intOf]; omega
theorem gcd_int (a b : Int) (w : World) (ha0 : 0 ≤ a) (ha : a < 18446744073709551616) (hb0 : 0 ≤ b) (hb : b < 18446744073709551616) :
  Calls Tryz.prog 78 #[.int .u64 a, .int .u64 b] w fun e w' => e = .returned (.int .u64 (Nat.gcd a.natAbs b.natAbs : Int)) ∧ ∃ k, w' = w.drewN k := by
 obtain ⟨x, rfl⟩ := Int.eq_ofNat_of_zero_le ha0
 obtain ⟨y, rfl⟩ := Int.eq_ofNat_of_zero_le hb0
 exact gcd_any x y w (by omega) (by omega)
set_option maxRecDepth 100000 in
theorem magnitude_any (n : Int) (w : World) (h0 : -9223372036854775808 ≤ n) (h1 : n ≤ 9223372036854775807) :
  Calls Tryz.prog 79 #[.int .i64 n] w fun e w' => e = .returned (.int .u64 (n.natAbs : Int)) ∧ w = w' := by
 by_cases hn : n < 0
 ·obtain ⟨u, rfl⟩ : ∃ u : Nat, n = -(u : Int) := ⟨n.natAbs, by omega⟩
  have hu : 0 < u := by omega
  have hwr : IntKind.u64.wrap (-IntKind.u64.wrap (-(u : Int))) = (u : Int) := by rw [IntKind.wrap_u64, IntKind.wrap_u64]; omega
  go_enter Tryz.func79, Tryz.ntmps79
  go_wp2
  go_ret
  exact ⟨ret_int (by simp), rfl⟩
 ·obtain ⟨u, rfl⟩ : ∃ u : Nat, n = (u : Int) := ⟨n.toNat, by omega⟩
  go_enter Tryz.func79, Tryz.ntmps79
  go_wp2
  go_ret
  exact ⟨ret_int (by simp), rfl⟩
def Right (n d : Int) : Prop := 0 < d ∧ d ≤ 1000000 ∧ -1000000 ≤ n ∧ n ≤ 1000000 ∧ Nat.gcd n.natAbs d.natAbs = 1
instance (n d : Int) : Decidable (Right n d) := by unfold Right; infer_instance
def fErr (n d : Int) : Int := if Right n d then 0 else 2
theorem fErr_no {n d : Int} (h : ¬ Right n d) : fErr n d = 2 := if_neg h
theorem fErr_ok {n d : Int} (h : Right n d) : fErr n d = 0 := if_pos h
set_option maxRecDepth 100000 in
set_option maxHeartbeats 1000000 in
theorem fcheck_any (n d : Int) (w : World) (hn0 : -9223372036854775808 ≤ n) (hn1 : n ≤ 9223372036854775807) (hd0 : -9223372036854775808 ≤ d) (hd1 : d ≤ 9223372036854775807) :
  Calls Tryz.prog 41 #[.agg #[.int .i64 n, .int .i64 d]] w fun e w' => e = .returned (.int .i64 (fErr n d)) ∧ Below w.heap.size w w' := by
 by_cases h1 : d ≤ 0
 ·have HE := Lib.hid (fErr_no (n := n) (d := d) (fun h => by have := h.1; omega))
  go_enter Tryz.func41, Tryz.ntmps41
  go_wp2
  go_quiet (fail)
  go_wp2
  go_ret
  exact ⟨ret_int HE.out.symm, ((Below.refl _ _).alloc (Nat.le_refl _) _).trans (below_drewN _ _ _)⟩
 ·have h1' : decide (d ≤ 0) = false := by simpa using h1
  by_cases h2 : 1000000 < d
  ·have HE := Lib.hid (fErr_no (n := n) (d := d) (fun h => by have := h.2.1; omega))
   go_enter Tryz.func41, Tryz.ntmps41
   go_wp2
   go_quiet (fail)
   go_wp2
   go_ret
   exact ⟨ret_int HE.out.symm, ((Below.refl _ _).alloc (Nat.le_refl _) _).trans (below_drewN _ _ _)⟩
  ·have h2' : decide (1000000 < d) = false := by simpa using h2
   by_cases h3 : n < -1000000
   ·have HE := Lib.hid (fErr_no (n := n) (d := d) (fun h => by have := h.2.2.1; omega))
    go_enter Tryz.func41, Tryz.ntmps41
    go_wp2
    go_quiet (fail)
    go_wp2
    go_ret
    exact ⟨ret_int HE.out.symm, ((Below.refl _ _).alloc (Nat.le_refl _) _).trans (below_drewN _ _ _)⟩
   ·have h3' : decide (n < -1000000) = false := by simpa using h3
    by_cases h4 : 1000000 < n
    ·have HE := Lib.hid (fErr_no (n := n) (d := d) (fun h => by have := h.2.2.2.1; omega))
     go_enter Tryz.func41, Tryz.ntmps41
     go_wp2
     go_quiet (fail)
     go_wp2
     go_ret
     exact ⟨ret_int HE.out.symm, ((Below.refl _ _).alloc (Nat.le_refl _) _).trans (below_drewN _ _ _)⟩
    ·have h4' : decide (1000000 < n) = false := by simpa using h4
     have hdp : 0 ≤ d := by omega
     obtain ⟨g, hg0⟩ : ∃ g, g = Nat.gcd n.natAbs d.natAbs := ⟨_, rfl⟩
     have hg := fun W => gcd_int n.natAbs d W (by omega) (by omega) (by omega) (by omega)
     rw [Int.natAbs_natCast, ← hg0] at hg
     have HG := Lib.hid hg
     have H0 := Lib.hid hg0
     clear hg hg0
     by_cases h5 : g = 1
     ·have h5' : ((g : Int) != 1) = false := by subst h5; rfl
      have HE := Lib.hid (fErr_ok (n := n) (d := d) ⟨by omega, by omega, by omega, by omega, by rw [← H0.out]; exact h5⟩)
      clear h5
      go_enter Tryz.func41, Tryz.ntmps41
      go_wp2
      go_quiet (first | (go_at_call 79; exact Calls.quiet_of_same ((magnitude_any n _ hn0 hn1).mono fun _ _ ⟨a, b⟩ => ⟨a, b.symm⟩)) | (go_at_call 78; exact Calls.quiet_of (HG.out _)))
      go_wp2
      go_ret
      exact ⟨ret_int HE.out.symm, ((Below.refl _ _).alloc (Nat.le_refl _) _).trans (below_drewN _ _ _)⟩
     ·have h5' : ((g : Int) != 1) = true := by rw [bne_iff_ne]; omega
      have HE := Lib.hid (fErr_no (n := n) (d := d) (fun h => h5 (by rw [H0.out]; exact h.2.2.2.2)))
      clear h5
      go_enter Tryz.func41, Tryz.ntmps41
      go_wp2
      go_quiet (first | (go_at_call 79; exact Calls.quiet_of_same ((magnitude_any n _ hn0 hn1).mono fun _ _ ⟨a, b⟩ => ⟨a, b.symm⟩)) | (go_at_call 78; exact Calls.quiet_of (HG.out _)))
      go_wp2
      go_ret
      exact ⟨ret_int HE.out.symm, ((Below.refl _ _).alloc (Nat.le_refl _) _).trans (below_drewN _ _ _)⟩
end Go.Proofs.YtendjepcjmfmfaaGreatDoor
