/- Part 7 of 25 of the proof of the law: contracts of the functions that it reaches, and plain facts. Conditions: those that each contract names. -/
import Derived.Test.YtaegjpancbmppaaGreatDoorLimB03
import Derived.Test.YtaegjpancbmppaaGreatDoorLimB06
import Derived.BigQuiet
namespace Go.Proofs.YtaegjpancbmppaaGreatDoor
open Go.RowKit
def rgB (n : Nat) (c v : Int) : Bool := decide (0 ≤ c) && (decide (c < ((2 ^ n : Nat) : Int)) && (bits .andNot .i64 v c == 0 && decide (0 ≤ v)))
set_option maxRecDepth 1000000 in
set_option maxHeartbeats 4000000 in
theorem iright_any (n : Nat) (c v : Int) (w : World) (hn : n ≤ 8) :
  Calls Tryz.prog 55 #[.agg #[.int .i64 c, .int .i64 v], .int .i64 (n : Int)] w fun e w' => e = .returned (.bool (rgB n c v)) ∧ Below w.heap.size w w' := by
 obtain ⟨N, hN⟩ : ∃ N, N = 2 ^ n := ⟨_, rfl⟩
 have hN8 : N ≤ 256 := by rw [hN]; exact pow_le8 hn
 have hsh : wrap64 (2 ^ n) = (N : Int) := by
  have e : ((2 : Int) ^ n) = (N : Int) := by rw [hN, Int.natCast_pow]; rfl
  rw [e]; unfold wrap64; omega
 obtain ⟨R, hR⟩ : ∃ R, R = rgB n c v := ⟨_, rfl⟩
 rw [← hR]
 have HR := Lib.hid (show R = (decide (0 ≤ c) && (decide (c < (N : Int)) && (bits .andNot .i64 v c == 0 && decide (0 ≤ v)))) by rw [hR, hN]; rfl)
 obtain ⟨x, hx⟩ : ∃ x, bits .andNot .i64 v c = x := ⟨_, rfl⟩
 rw [hx] at HR
 have hm0 := (Hp.start w).new 37 [.int .i64 c, .int .i64 v]
 simp only [List.nil_append] at hm0
 have HM0 := Lib.hid hm0
 have c0 : (w.alloc (.cells #[.int .i64 c, .int .i64 v] 37)).drew.cell? ⟨w.heap.size, 0, none⟩ = some (.int .i64 c) := (hm0.at_ 0 rfl).cell 0
 have c1 : (w.alloc (.cells #[.int .i64 c, .int .i64 v] 37)).drew.cell? ⟨w.heap.size, 1, none⟩ = some (.int .i64 v) := (hm0.at_ 0 rfl).cell 1
 have C0 : (w.alloc (.cells #[.int .i64 c, .int .i64 v] 37)).cell? ⟨w.heap.size, 0, none⟩ = some (.int .i64 c) := (hm0.at_ 0 rfl).cell 0
 have C1 : (w.alloc (.cells #[.int .i64 c, .int .i64 v] 37)).cell? ⟨w.heap.size, 1, none⟩ = some (.int .i64 v) := (hm0.at_ 0 rfl).cell 1
 have hn64 : (n : Int) < 64 := by omega
 clear hm0 hN hN8 hR hn
 go_enter Tryz.func55, Tryz.ntmps55
 by_cases h1 : 0 ≤ c
 ·have d1 : decide (0 ≤ c) = true := decide_eq_true h1
  by_cases h2 : c < (N : Int)
  ·have d2 : decide (c < (N : Int)) = true := decide_eq_true h2
   by_cases h3 : x = 0
   ·subst h3
    have HE := Lib.hid (show R = decide (0 ≤ v) by rw [HR.out, d1, d2]; simp)
    go_wp2_with fail
    go_quiet (fail)
    go_wp2_with fail
    exact bodyPost_ret (v := .bool (decide (0 ≤ v))) (by simp [results, Tryz.results55, go_sem]) rfl ⟨by rw [HE.out], (HM0.out.drewN nq).below⟩
   ·have d3 : (x == 0) = false := by simpa using h3
    have HE := Lib.hid (show R = false by rw [HR.out, d1, d2, d3]; rfl)
    go_wp2_with fail
    go_quiet (fail)
    go_wp2_with fail
    exact bodyPost_ret (v := .bool false) (by simp [results, Tryz.results55, go_sem]) rfl ⟨by rw [HE.out], (HM0.out.drewN nq).below⟩
  ·have d2 : decide (c < (N : Int)) = false := decide_eq_false h2
   have HE := Lib.hid (show R = false by rw [HR.out, d1, d2]; rfl)
   go_wp2_with fail
   go_quiet (fail)
   go_wp2_with fail
   exact bodyPost_ret (v := .bool false) (by simp [results, Tryz.results55, go_sem]) rfl ⟨by rw [HE.out], (HM0.out.drewN nq).below⟩
 ·have d1 : decide (0 ≤ c) = false := decide_eq_false h1
  have HE := Lib.hid (show R = false by rw [HR.out, d1]; rfl)
  go_wp2_with fail
  go_quiet (fail)
  go_wp2_with fail
  exact bodyPost_ret (v := .bool false) (by simp [results, Tryz.results55, go_sem]) rfl ⟨by rw [HE.out], (HM0.out.drewN nq).below⟩
theorem rg_of {n : Nat} {c v : Int} (hv : v ≤ 9223372036854775807) (hn : n ≤ 8) (h : rgB n c v = true) : ∃ a b : Nat, c = (a : Int) ∧ v = (b : Int) ∧ a < 2 ^ n ∧ b ≤ a ∧ adn b a = 0 := by
 unfold rgB at h
 simp only [Bool.and_eq_true, decide_eq_true_eq, beq_iff_eq] at h
 obtain ⟨h1, h2, h3, h4⟩ := h
 have hp := pow_le8 hn
 obtain ⟨a, rfl⟩ : ∃ a : Nat, c = (a : Int) := ⟨c.toNat, by omega⟩
 obtain ⟨b, rfl⟩ : ∃ b : Nat, v = (b : Int) := ⟨v.toNat, by omega⟩
 have ha : a < 2 ^ n := by omega
 rw [adn_i64 (by omega) (by omega)] at h3
 have h0 : adn b a = 0 := Int.natCast_inj.1 h3
 refine ⟨a, b, rfl, rfl, ha, Nat.le_of_testBit fun i hi => ?_, h0⟩
 exact (adn_nil.1 h0) i hi
def rwsE (n c v : Int) : Int := if n < 0 ∨ 8 < n then 3 else if rgB n.toNat c v = true then 0 else 7
structure TabAt (w : World) (Bd : Nat) (A B : Option Addr) (n m : Nat) (L K : List Int) : Prop where
 on : Rd iz w Bd A L
 free : Rd iz w Bd B K
 n_ : n = L.length
 m_ : m = K.length
 nm : n ≤ 1000 ∧ m ≤ 1000
theorem TabAt.below {w W : World} {A B : Option Addr} {n m : Nat} {L K : List Int} (h : TabAt w w.heap.size A B n m L K) (hb : Below w.heap.size w W) : TabAt W W.heap.size A B n m L K :=
 ⟨(h.on.below hb).more hb.size, (h.free.below hb).more hb.size, h.n_, h.m_, h.nm⟩
abbrev onR (L : List Int) : List Nat := L.map Int.toNat
def mayM (L K : List Int) : Nat := rowM (L.map Int.toNat) ||| rowM (K.map Int.toNat)
theorem icheck_tab {w : World} {A B : Option Addr} {n m c d : Nat} {v : Int} {L K : List Int} (h : TabAt w w.heap.size A B n m L K) (W : World) (hb : Below w.heap.size w W) :
  Calls Tryz.prog 33 #[.agg #[.int .i64 v, .slice A n c, .slice B m d]] W fun e w' => e = .returned (.int .i64 (chkE v L K)) ∧ Below W.heap.size W w' :=
 icheck_any A B c d n m v L K W (h.below hb).on (h.below hb).free h.n_ h.m_ h.nm.1 h.nm.2
def smlE (v : Int) (L K : List Int) : Int := if chkE v L K ≠ 0 then chkE v L K else if 5 < v then 4 else 0
set_option maxRecDepth 1000000 in
set_option maxHeartbeats 4000000 in
theorem ismall_any (A B : Option Addr) (c d n m : Nat) (v : Int) (L K : List Int) (w : World) (h : TabAt w w.heap.size A B n m L K) :
  Calls Tryz.prog 41 #[.agg #[.int .i64 v, .slice A n c, .slice B m d]] w fun e w' => e = .returned (.int .i64 (smlE v L K)) ∧ Below w.heap.size w w' := by
 obtain ⟨E, hE⟩ : ∃ E, E = smlE v L K := ⟨_, rfl⟩
 rw [← hE]
 obtain ⟨x, hx⟩ : ∃ x, x = chkE v L K := ⟨_, rfl⟩
 have hCK := fun W hb => icheck_tab (c := c) (d := d) (v := v) h W hb
 rw [← hx] at hCK
 have HCK := Lib.hid hCK
 have HE := Lib.hid (show E = if x ≠ 0 then x else if 5 < v then 4 else 0 by rw [hE, hx]; rfl)
 have hm0 := (Hp.start w).new 26 [.int .i64 v, .slice A n c, .slice B m d]
 simp only [List.nil_append] at hm0
 have HM0 := Lib.hid hm0
 have c0 : (w.alloc (.cells #[.int .i64 v, .slice A n c, .slice B m d] 26)).cell? ⟨w.heap.size, 0, none⟩ = some (.int .i64 v) := (hm0.at_ 0 rfl).cell 0
 have c1 : (w.alloc (.cells #[.int .i64 v, .slice A n c, .slice B m d] 26)).cell? ⟨w.heap.size, 1, none⟩ = some (.slice A n c) := (hm0.at_ 0 rfl).cell 1
 have c2 : (w.alloc (.cells #[.int .i64 v, .slice A n c, .slice B m d] 26)).cell? ⟨w.heap.size, 2, none⟩ = some (.slice B m d) := (hm0.at_ 0 rfl).cell 2
 clear hm0 hE hx hCK h
 go_enter Tryz.func41, Tryz.ntmps41
 go_wp2_with fail
 refine (HCK.out _ HM0.out.below).mono ?_
 rintro e w1 ⟨rfl, hb1⟩
 have HM1 := Lib.hid (HM0.out.step hb1)
 clear hb1 HM0 c0 c1 c2
 by_cases h0 : x = 0
 ·subst h0
  have c0 : w1.cell? ⟨w.heap.size, 0, none⟩ = some (.int .i64 v) := (HM1.out.at_ 0 rfl).cell 0
  by_cases h5 : 5 < v
  ·have HEE := Lib.hid (show E = 4 by rw [HE.out, if_neg (by simp), if_pos h5])
   go_wp2_with fail
   exact bodyPost_ret (v := .int .i64 4) (by simp [results, Tryz.results41, go_sem]) rfl ⟨by rw [HEE.out], HM1.out.below⟩
  ·have HEE := Lib.hid (show E = 0 by rw [HE.out, if_neg (by simp), if_neg h5])
   go_wp2_with fail
   exact bodyPost_ret (v := .int .i64 0) (by simp [results, Tryz.results41, go_sem]) rfl ⟨by rw [HEE.out], HM1.out.below⟩
 ·have HEE := Lib.hid (show E = x by rw [HE.out, if_pos h0])
  have hz : (x != 0) = true := by simpa using h0
  clear h0
  go_wp2_with fail
  exact bodyPost_ret (v := .int .i64 x) (by simp [results, Tryz.results41, go_sem]) rfl ⟨by rw [HEE.out], HM1.out.below⟩
set_option maxRecDepth 1000000 in
set_option maxHeartbeats 4000000 in
theorem iApart_err (A B : Option Addr) (c d n m : Nat) (v : Int) (L K : List Int) (w : World) (h : TabAt w w.heap.size A B n m L K) (hk : smlE v L K ≠ 0) :
  Calls Tryz.prog 20 #[.agg #[.int .i64 v, .slice A n c, .slice B m d]] w fun e w' => e = .returned (.tuple #[.slice none 0 0, .int .i64 (smlE v L K)]) ∧ Below w.heap.size w w' := by
 obtain ⟨E, hE⟩ : ∃ E, E = smlE v L K := ⟨_, rfl⟩
 have hCK := fun W (hb : Below w.heap.size w W) => ismall_any A B c d n m v L K W (h.below hb)
 rw [← hE] at hCK hk ⊢
 have HCK := Lib.hid hCK
 have hz : (E != 0) = true := by simpa using hk
 have hm0 := (Hp.start w).new 26 [.int .i64 v, .slice A n c, .slice B m d]
 simp only [List.nil_append] at hm0
 have HM0 := Lib.hid hm0
 have c0 : (w.alloc (.cells #[.int .i64 v, .slice A n c, .slice B m d] 26)).cell? ⟨w.heap.size, 0, none⟩ = some (.int .i64 v) := (hm0.at_ 0 rfl).cell 0
 have c1 : (w.alloc (.cells #[.int .i64 v, .slice A n c, .slice B m d] 26)).cell? ⟨w.heap.size, 1, none⟩ = some (.slice A n c) := (hm0.at_ 0 rfl).cell 1
 have c2 : (w.alloc (.cells #[.int .i64 v, .slice A n c, .slice B m d] 26)).cell? ⟨w.heap.size, 2, none⟩ = some (.slice B m d) := (hm0.at_ 0 rfl).cell 2
 clear hm0 hE hCK h hk
 go_enter Tryz.func20, Tryz.ntmps20
 go_wp2_with fail
 refine (HCK.out _ HM0.out.below).mono ?_
 rintro e w1 ⟨rfl, hb1⟩
 have HM1 := Lib.hid (HM0.out.step hb1)
 clear hb1 HM0 c0 c1 c2
 go_wp2_with fail
 exact bodyPost_ret (v := .tuple #[.slice none 0 0, .int .i64 (E)]) (by simp [results, Tryz.results20, go_sem]) rfl ⟨rfl, HM1.out.below⟩
set_option maxRecDepth 1000000 in
set_option maxHeartbeats 4000000 in
theorem iLeast_err (A B : Option Addr) (c d n m : Nat) (v : Int) (L K : List Int) (w : World) (h : TabAt w w.heap.size A B n m L K) (hk : smlE v L K ≠ 0) :
  Calls Tryz.prog 14 #[.agg #[.int .i64 v, .slice A n c, .slice B m d]] w fun e w' => e = .returned (.tuple #[.slice none 0 0, .int .i64 (smlE v L K)]) ∧ Below w.heap.size w w' := by
 obtain ⟨E, hE⟩ : ∃ E, E = smlE v L K := ⟨_, rfl⟩
 have hCK := fun W (hb : Below w.heap.size w W) => ismall_any A B c d n m v L K W (h.below hb)
 rw [← hE] at hCK hk ⊢
 have HCK := Lib.hid hCK
 have hz : (E != 0) = true := by simpa using hk
 have hm0 := (Hp.start w).new 26 [.int .i64 v, .slice A n c, .slice B m d]
 simp only [List.nil_append] at hm0
 have HM0 := Lib.hid hm0
 have c0 : (w.alloc (.cells #[.int .i64 v, .slice A n c, .slice B m d] 26)).cell? ⟨w.heap.size, 0, none⟩ = some (.int .i64 v) := (hm0.at_ 0 rfl).cell 0
 have c1 : (w.alloc (.cells #[.int .i64 v, .slice A n c, .slice B m d] 26)).cell? ⟨w.heap.size, 1, none⟩ = some (.slice A n c) := (hm0.at_ 0 rfl).cell 1
 have c2 : (w.alloc (.cells #[.int .i64 v, .slice A n c, .slice B m d] 26)).cell? ⟨w.heap.size, 2, none⟩ = some (.slice B m d) := (hm0.at_ 0 rfl).cell 2
 clear hm0 hE hCK h hk
 go_enter Tryz.func14, Tryz.ntmps14
 go_wp2_with fail
 refine (HCK.out _ HM0.out.below).mono ?_
 rintro e w1 ⟨rfl, hb1⟩
 have HM1 := Lib.hid (HM0.out.step hb1)
 clear hb1 HM0 c0 c1 c2
 go_wp2_with fail
 exact bodyPost_ret (v := .tuple #[.slice none 0 0, .int .i64 (E)]) (by simp [results, Tryz.results14, go_sem]) rfl ⟨rfl, HM1.out.below⟩
end Go.Proofs.YtaegjpancbmppaaGreatDoor
