/- Part 7 of 26 of the proof of the law: contracts of the functions that it reaches, and plain facts. Conditions: those that each contract names. -/
import Derived.Test.YtaegjpancbmppaaGreatDoorChkB03
import Derived.Test.YtaegjpancbmppaaGreatDoorChkB06
import Derived.BigQuiet
import Derived.Test.YtaegjpancbmppaaGreatDoorChkB01
namespace Go.Proofs.YtaegjpancbmppaaGreatDoor
open Go.RowKit
def rgB (n : Nat) (c v : Int) : Bool := decide (0 ≤ c) && (decide (c < ((2 ^ n : Nat) : Int)) && (bits .andNot .i64 v c == 0 && decide (0 ≤ v)))
set_option maxRecDepth 1000000 in
set_option maxHeartbeats 4000000 in
theorem iright_any (n : Nat) (c v : Int) (w : World) (hn : n ≤ 8) :
  Calls Tryz.prog 55 #[.agg #[.int .i64 c, .int .i64 v], .int .i64 (n : Int)] w fun e w' => e = .returned (.bool (rgB n c v)) ∧ Below w.heap.size w w' := by
 obtain ⟨N, hN⟩ : ∃ N, N = 2 ^ n := ⟨_, rfl⟩
 have hN8 : N ≤ 256 := by rw [hN]; exact pow_le8 hn
 have hsh : wrap64 (2 ^ n) = (N : Int) := by
  have e : ((2 : Int) ^ n) = (N : Int) := by rw [hN, Int.natCast_pow]; rfl
  rw [e]; unfold wrap64; omega
 obtain ⟨R, hR⟩ : ∃ R, R = rgB n c v := ⟨_, rfl⟩
 rw [← hR]
 have HR := Lib.hid (show R = (decide (0 ≤ c) && (decide (c < (N : Int)) && (bits .andNot .i64 v c == 0 && decide (0 ≤ v)))) by rw [hR, hN]; rfl)
 obtain ⟨x, hx⟩ : ∃ x, bits .andNot .i64 v c = x := ⟨_, rfl⟩
 rw [hx] at HR
 have hm0 := (Hp.start w).new 37 [.int .i64 c, .int .i64 v]
 simp only [List.nil_append] at hm0
 have HM0 := Lib.hid hm0
 have c0 : (w.alloc (.cells #[.int .i64 c, .int .i64 v] 37)).drew.cell? ⟨w.heap.size, 0, none⟩ = some (.int .i64 c) := (hm0.at_ 0 rfl).cell 0
 have c1 : (w.alloc (.cells #[.int .i64 c, .int .i64 v] 37)).drew.cell? ⟨w.heap.size, 1, none⟩ = some (.int .i64 v) := (hm0.at_ 0 rfl).cell 1
 have C0 : (w.alloc (.cells #[.int .i64 c, .int .i64 v] 37)).cell? ⟨w.heap.size, 0, none⟩ = some (.int .i64 c) := (hm0.at_ 0 rfl).cell 0
 have C1 : (w.alloc (.cells #[.int .i64 c, .int .i64 v] 37)).cell? ⟨w.heap.size, 1, none⟩ = some (.int .i64 v) := (hm0.at_ 0 rfl).cell 1
 have hn64 : (n : Int) < 64 := by omega
 clear hm0 hN hN8 hR hn
 go_enter Tryz.func55, Tryz.ntmps55
 by_cases h1 : 0 ≤ c
 ·have d1 : decide (0 ≤ c) = true := decide_eq_true h1
  by_cases h2 : c < (N : Int)
  ·have d2 : decide (c < (N : Int)) = true := decide_eq_true h2
   by_cases h3 : x = 0
   ·subst h3
    have HE := Lib.hid (show R = decide (0 ≤ v) by rw [HR.out, d1, d2]; simp)
    go_wp2_with fail
    go_quiet (fail)
    go_wp2_with fail
    exact bodyPost_ret (v := .bool (decide (0 ≤ v))) (by simp [results, Tryz.results55, go_sem]) rfl ⟨by rw [HE.out], (HM0.out.drewN nq).below⟩
   ·have d3 : (x == 0) = false := by simpa using h3
    have HE := Lib.hid (show R = false by rw [HR.out, d1, d2, d3]; rfl)
    go_wp2_with fail
    go_quiet (fail)
    go_wp2_with fail
    exact bodyPost_ret (v := .bool false) (by simp [results, Tryz.results55, go_sem]) rfl ⟨by rw [HE.out], (HM0.out.drewN nq).below⟩
  ·have d2 : decide (c < (N : Int)) = false := decide_eq_false h2
   have HE := Lib.hid (show R = false by rw [HR.out, d1, d2]; rfl)
   go_wp2_with fail
   go_quiet (fail)
   go_wp2_with fail
   exact bodyPost_ret (v := .bool false) (by simp [results, Tryz.results55, go_sem]) rfl ⟨by rw [HE.out], (HM0.out.drewN nq).below⟩
 ·have d1 : decide (0 ≤ c) = false := decide_eq_false h1
  have HE := Lib.hid (show R = false by rw [HR.out, d1]; rfl)
  go_wp2_with fail
  go_quiet (fail)
  go_wp2_with fail
  exact bodyPost_ret (v := .bool false) (by simp [results, Tryz.results55, go_sem]) rfl ⟨by rw [HE.out], (HM0.out.drewN nq).below⟩
theorem rg_of {n : Nat} {c v : Int} (hv : v ≤ 9223372036854775807) (hn : n ≤ 8) (h : rgB n c v = true) : ∃ a b : Nat, c = (a : Int) ∧ v = (b : Int) ∧ a < 2 ^ n ∧ b ≤ a ∧ adn b a = 0 := by
 unfold rgB at h
 simp only [Bool.and_eq_true, decide_eq_true_eq, beq_iff_eq] at h
 obtain ⟨h1, h2, h3, h4⟩ := h
 have hp := pow_le8 hn
 obtain ⟨a, rfl⟩ : ∃ a : Nat, c = (a : Int) := ⟨c.toNat, by omega⟩
 obtain ⟨b, rfl⟩ : ∃ b : Nat, v = (b : Int) := ⟨v.toNat, by omega⟩
 have ha : a < 2 ^ n := by omega
 rw [adn_i64 (by omega) (by omega)] at h3
 have h0 : adn b a = 0 := Int.natCast_inj.1 h3
 refine ⟨a, b, rfl, rfl, ha, Nat.le_of_testBit fun i hi => ?_, h0⟩
 exact (adn_nil.1 h0) i hi
def rwsE (n c v : Int) : Int := if n < 0 ∨ 8 < n then 3 else if rgB n.toNat c v = true then 0 else 7
structure TabAt (w : World) (Bd : Nat) (A B : Option Addr) (n m : Nat) (L K : List Int) : Prop where
 on : Rd iz w Bd A L
 free : Rd iz w Bd B K
 n_ : n = L.length
 m_ : m = K.length
 nm : n ≤ 1000 ∧ m ≤ 1000
theorem TabAt.below {w W : World} {A B : Option Addr} {n m : Nat} {L K : List Int} (h : TabAt w w.heap.size A B n m L K) (hb : Below w.heap.size w W) : TabAt W W.heap.size A B n m L K :=
 ⟨(h.on.below hb).more hb.size, (h.free.below hb).more hb.size, h.n_, h.m_, h.nm⟩
abbrev onR (L : List Int) : List Nat := L.map Int.toNat
def mayM (L K : List Int) : Nat := rowM (L.map Int.toNat) ||| rowM (K.map Int.toNat)
theorem icheck_tab {w : World} {A B : Option Addr} {n m c d : Nat} {v : Int} {L K : List Int} (h : TabAt w w.heap.size A B n m L K) (W : World) (hb : Below w.heap.size w W) :
  Calls Tryz.prog 33 #[.agg #[.int .i64 v, .slice A n c, .slice B m d]] W fun e w' => e = .returned (.int .i64 (chkE v L K)) ∧ Below W.heap.size W w' :=
 icheck_any A B c d n m v L K W (h.below hb).on (h.below hb).free h.n_ h.m_ h.nm.1 h.nm.2
def smlE (v : Int) (L K : List Int) : Int := if chkE v L K ≠ 0 then chkE v L K else if 5 < v then 4 else 0
set_option maxRecDepth 1000000 in
set_option maxHeartbeats 4000000 in
theorem ismall_any (A B : Option Addr) (c d n m : Nat) (v : Int) (L K : List Int) (w : World) (h : TabAt w w.heap.size A B n m L K) :
  Calls Tryz.prog 41 #[.agg #[.int .i64 v, .slice A n c, .slice B m d]] w fun e w' => e = .returned (.int .i64 (smlE v L K)) ∧ Below w.heap.size w w' := by
 obtain ⟨E, hE⟩ : ∃ E, E = smlE v L K := ⟨_, rfl⟩
 rw [← hE]
 obtain ⟨x, hx⟩ : ∃ x, x = chkE v L K := ⟨_, rfl⟩
 have hCK := fun W hb => icheck_tab (c := c) (d := d) (v := v) h W hb
 rw [← hx] at hCK
 have HCK := Lib.hid hCK
 have HE := Lib.hid (show E = if x ≠ 0 then x else if 5 < v then 4 else 0 by rw [hE, hx]; rfl)
 have hm0 := (Hp.start w).new 26 [.int .i64 v, .slice A n c, .slice B m d]
 simp only [List.nil_append] at hm0
 have HM0 := Lib.hid hm0
 have c0 : (w.alloc (.cells #[.int .i64 v, .slice A n c, .slice B m d] 26)).cell? ⟨w.heap.size, 0, none⟩ = some (.int .i64 v) := (hm0.at_ 0 rfl).cell 0
 have c1 : (w.alloc (.cells #[.int .i64 v, .slice A n c, .slice B m d] 26)).cell? ⟨w.heap.size, 1, none⟩ = some (.slice A n c) := (hm0.at_ 0 rfl).cell 1
 have c2 : (w.alloc (.cells #[.int .i64 v, .slice A n c, .slice B m d] 26)).cell? ⟨w.heap.size, 2, none⟩ = some (.slice B m d) := (hm0.at_ 0 rfl).cell 2
 clear hm0 hE hx hCK h
 go_enter Tryz.func41, Tryz.ntmps41
 go_wp2_with fail
 refine (HCK.out _ HM0.out.below).mono ?_
 rintro e w1 ⟨rfl, hb1⟩
 have HM1 := Lib.hid (HM0.out.step hb1)
 clear hb1 HM0 c0 c1 c2
 by_cases h0 : x = 0
 ·subst h0
  have c0 : w1.cell? ⟨w.heap.size, 0, none⟩ = some (.int .i64 v) := (HM1.out.at_ 0 rfl).cell 0
  by_cases h5 : 5 < v
  ·have HEE := Lib.hid (show E = 4 by rw [HE.out, if_neg (by simp), if_pos h5])
   go_wp2_with fail
   exact bodyPost_ret (v := .int .i64 4) (by simp [results, Tryz.results41, go_sem]) rfl ⟨by rw [HEE.out], HM1.out.below⟩
  ·have HEE := Lib.hid (show E = 0 by rw [HE.out, if_neg (by simp), if_neg h5])
   go_wp2_with fail
   exact bodyPost_ret (v := .int .i64 0) (by simp [results, Tryz.results41, go_sem]) rfl ⟨by rw [HEE.out], HM1.out.below⟩
 ·have HEE := Lib.hid (show E = x by rw [HE.out, if_pos h0])
  have hz : (x != 0) = true := by simpa using h0
  clear h0
  go_wp2_with fail
  exact bodyPost_ret (v := .int .i64 x) (by simp [results, Tryz.results41, go_sem]) rfl ⟨by rw [HEE.out], HM1.out.below⟩
set_option maxRecDepth 1000000 in
set_option maxHeartbeats 4000000 in
theorem iPrimes_err (A B : Option Addr) (c d n m : Nat) (v : Int) (L K : List Int) (w : World) (h : TabAt w w.heap.size A B n m L K) (hk : chkE v L K ≠ 0) :
  Calls Tryz.prog 22 #[.agg #[.int .i64 v, .slice A n c, .slice B m d]] w fun e w' => e = .returned (.tuple #[.slice none 0 0, .int .i64 (chkE v L K)]) ∧ Below w.heap.size w w' := by
 obtain ⟨E, hE⟩ : ∃ E, E = chkE v L K := ⟨_, rfl⟩
 have hCK := fun W (hb : Below w.heap.size w W) => icheck_tab (c := c) (d := d) (v := v) h W hb
 rw [← hE] at hCK hk ⊢
 have HCK := Lib.hid hCK
 have hz : (E != 0) = true := by simpa using hk
 have hm0 := (Hp.start w).new 26 [.int .i64 v, .slice A n c, .slice B m d]
 simp only [List.nil_append] at hm0
 have HM0 := Lib.hid hm0
 have c0 : (w.alloc (.cells #[.int .i64 v, .slice A n c, .slice B m d] 26)).cell? ⟨w.heap.size, 0, none⟩ = some (.int .i64 v) := (hm0.at_ 0 rfl).cell 0
 have c1 : (w.alloc (.cells #[.int .i64 v, .slice A n c, .slice B m d] 26)).cell? ⟨w.heap.size, 1, none⟩ = some (.slice A n c) := (hm0.at_ 0 rfl).cell 1
 have c2 : (w.alloc (.cells #[.int .i64 v, .slice A n c, .slice B m d] 26)).cell? ⟨w.heap.size, 2, none⟩ = some (.slice B m d) := (hm0.at_ 0 rfl).cell 2
 clear hm0 hE hCK h hk
 go_enter Tryz.func22, Tryz.ntmps22
 go_wp2_with fail
 refine (HCK.out _ HM0.out.below).mono ?_
 rintro e w1 ⟨rfl, hb1⟩
 have HM1 := Lib.hid (HM0.out.step hb1)
 clear hb1 HM0 c0 c1 c2
 go_wp2_with fail
 exact bodyPost_ret (v := .tuple #[.slice none 0 0, .int .i64 (E)]) (by simp [results, Tryz.results22, go_sem]) rfl ⟨rfl, HM1.out.below⟩
set_option maxRecDepth 1000000 in
set_option maxHeartbeats 4000000 in
theorem iEssential_err (A B : Option Addr) (c d n m : Nat) (v : Int) (L K : List Int) (w : World) (h : TabAt w w.heap.size A B n m L K) (hk : chkE v L K ≠ 0) :
  Calls Tryz.prog 26 #[.agg #[.int .i64 v, .slice A n c, .slice B m d]] w fun e w' => e = .returned (.tuple #[.slice none 0 0, .int .i64 (chkE v L K)]) ∧ Below w.heap.size w w' := by
 obtain ⟨E, hE⟩ : ∃ E, E = chkE v L K := ⟨_, rfl⟩
 have hCK := fun W (hb : Below w.heap.size w W) => icheck_tab (c := c) (d := d) (v := v) h W hb
 rw [← hE] at hCK hk ⊢
 have HCK := Lib.hid hCK
 have hz : (E != 0) = true := by simpa using hk
 have hm0 := (Hp.start w).new 26 [.int .i64 v, .slice A n c, .slice B m d]
 simp only [List.nil_append] at hm0
 have HM0 := Lib.hid hm0
 have c0 : (w.alloc (.cells #[.int .i64 v, .slice A n c, .slice B m d] 26)).cell? ⟨w.heap.size, 0, none⟩ = some (.int .i64 v) := (hm0.at_ 0 rfl).cell 0
 have c1 : (w.alloc (.cells #[.int .i64 v, .slice A n c, .slice B m d] 26)).cell? ⟨w.heap.size, 1, none⟩ = some (.slice A n c) := (hm0.at_ 0 rfl).cell 1
 have c2 : (w.alloc (.cells #[.int .i64 v, .slice A n c, .slice B m d] 26)).cell? ⟨w.heap.size, 2, none⟩ = some (.slice B m d) := (hm0.at_ 0 rfl).cell 2
 clear hm0 hE hCK h hk
 go_enter Tryz.func26, Tryz.ntmps26
 go_wp2_with fail
 refine (HCK.out _ HM0.out.below).mono ?_
 rintro e w1 ⟨rfl, hb1⟩
 have HM1 := Lib.hid (HM0.out.step hb1)
 clear hb1 HM0 c0 c1 c2
 go_wp2_with fail
 exact bodyPost_ret (v := .tuple #[.slice none 0 0, .int .i64 (E)]) (by simp [results, Tryz.results26, go_sem]) rfl ⟨rfl, HM1.out.below⟩
set_option maxRecDepth 1000000 in
set_option maxHeartbeats 4000000 in
theorem iApart_err (A B : Option Addr) (c d n m : Nat) (v : Int) (L K : List Int) (w : World) (h : TabAt w w.heap.size A B n m L K) (hk : smlE v L K ≠ 0) :
  Calls Tryz.prog 20 #[.agg #[.int .i64 v, .slice A n c, .slice B m d]] w fun e w' => e = .returned (.tuple #[.slice none 0 0, .int .i64 (smlE v L K)]) ∧ Below w.heap.size w w' := by
 obtain ⟨E, hE⟩ : ∃ E, E = smlE v L K := ⟨_, rfl⟩
 have hCK := fun W (hb : Below w.heap.size w W) => ismall_any A B c d n m v L K W (h.below hb)
 rw [← hE] at hCK hk ⊢
 have HCK := Lib.hid hCK
 have hz : (E != 0) = true := by simpa using hk
 have hm0 := (Hp.start w).new 26 [.int .i64 v, .slice A n c, .slice B m d]
 simp only [List.nil_append] at hm0
 have HM0 := Lib.hid hm0
 have c0 : (w.alloc (.cells #[.int .i64 v, .slice A n c, .slice B m d] 26)).cell? ⟨w.heap.size, 0, none⟩ = some (.int .i64 v) := (hm0.at_ 0 rfl).cell 0
 have c1 : (w.alloc (.cells #[.int .i64 v, .slice A n c, .slice B m d] 26)).cell? ⟨w.heap.size, 1, none⟩ = some (.slice A n c) := (hm0.at_ 0 rfl).cell 1
 have c2 : (w.alloc (.cells #[.int .i64 v, .slice A n c, .slice B m d] 26)).cell? ⟨w.heap.size, 2, none⟩ = some (.slice B m d) := (hm0.at_ 0 rfl).cell 2
 clear hm0 hE hCK h hk
 go_enter Tryz.func20, Tryz.ntmps20
 go_wp2_with fail
 refine (HCK.out _ HM0.out.below).mono ?_
 rintro e w1 ⟨rfl, hb1⟩
 have HM1 := Lib.hid (HM0.out.step hb1)
 clear hb1 HM0 c0 c1 c2
 go_wp2_with fail
 exact bodyPost_ret (v := .tuple #[.slice none 0 0, .int .i64 (E)]) (by simp [results, Tryz.results20, go_sem]) rfl ⟨rfl, HM1.out.below⟩
set_option maxRecDepth 1000000 in
set_option maxHeartbeats 4000000 in
theorem iLeast_err (A B : Option Addr) (c d n m : Nat) (v : Int) (L K : List Int) (w : World) (h : TabAt w w.heap.size A B n m L K) (hk : smlE v L K ≠ 0) :
  Calls Tryz.prog 14 #[.agg #[.int .i64 v, .slice A n c, .slice B m d]] w fun e w' => e = .returned (.tuple #[.slice none 0 0, .int .i64 (smlE v L K)]) ∧ Below w.heap.size w w' := by
 obtain ⟨E, hE⟩ : ∃ E, E = smlE v L K := ⟨_, rfl⟩
 have hCK := fun W (hb : Below w.heap.size w W) => ismall_any A B c d n m v L K W (h.below hb)
 rw [← hE] at hCK hk ⊢
 have HCK := Lib.hid hCK
 have hz : (E != 0) = true := by simpa using hk
 have hm0 := (Hp.start w).new 26 [.int .i64 v, .slice A n c, .slice B m d]
 simp only [List.nil_append] at hm0
 have HM0 := Lib.hid hm0
 have c0 : (w.alloc (.cells #[.int .i64 v, .slice A n c, .slice B m d] 26)).cell? ⟨w.heap.size, 0, none⟩ = some (.int .i64 v) := (hm0.at_ 0 rfl).cell 0
 have c1 : (w.alloc (.cells #[.int .i64 v, .slice A n c, .slice B m d] 26)).cell? ⟨w.heap.size, 1, none⟩ = some (.slice A n c) := (hm0.at_ 0 rfl).cell 1
 have c2 : (w.alloc (.cells #[.int .i64 v, .slice A n c, .slice B m d] 26)).cell? ⟨w.heap.size, 2, none⟩ = some (.slice B m d) := (hm0.at_ 0 rfl).cell 2
 clear hm0 hE hCK h hk
 go_enter Tryz.func14, Tryz.ntmps14
 go_wp2_with fail
 refine (HCK.out _ HM0.out.below).mono ?_
 rintro e w1 ⟨rfl, hb1⟩
 have HM1 := Lib.hid (HM0.out.step hb1)
 clear hb1 HM0 c0 c1 c2
 go_wp2_with fail
 exact bodyPost_ret (v := .tuple #[.slice none 0 0, .int .i64 (E)]) (by simp [results, Tryz.results14, go_sem]) rfl ⟨rfl, HM1.out.below⟩
set_option maxRecDepth 1000000 in
set_option maxHeartbeats 4000000 in
theorem iVerify_err (A B : Option Addr) (c d n m : Nat) (v : Int) (L K : List Int) (S : Value) (w : World) (h : TabAt w w.heap.size A B n m L K) (hk : chkE v L K ≠ 0) :
  Calls Tryz.prog 29 #[.agg #[.int .i64 v, .slice A n c, .slice B m d], S] w fun e w' => e = .returned (.int .i64 (chkE v L K)) ∧ Below w.heap.size w w' := by
 obtain ⟨E, hE⟩ : ∃ E, E = chkE v L K := ⟨_, rfl⟩
 have hCK := fun W (hb : Below w.heap.size w W) => icheck_tab (c := c) (d := d) (v := v) h W hb
 rw [← hE] at hCK hk ⊢
 have HCK := Lib.hid hCK
 have hz : (E != 0) = true := by simpa using hk
 have hm0 := (Hp.start w).new 26 [.int .i64 v, .slice A n c, .slice B m d]
 simp only [List.nil_append] at hm0
 have HM0 := Lib.hid hm0
 have c0 : (w.alloc (.cells #[.int .i64 v, .slice A n c, .slice B m d] 26)).cell? ⟨w.heap.size, 0, none⟩ = some (.int .i64 v) := (hm0.at_ 0 rfl).cell 0
 have c1 : (w.alloc (.cells #[.int .i64 v, .slice A n c, .slice B m d] 26)).cell? ⟨w.heap.size, 1, none⟩ = some (.slice A n c) := (hm0.at_ 0 rfl).cell 1
 have c2 : (w.alloc (.cells #[.int .i64 v, .slice A n c, .slice B m d] 26)).cell? ⟨w.heap.size, 2, none⟩ = some (.slice B m d) := (hm0.at_ 0 rfl).cell 2
 clear hm0 hE hCK h hk
 go_enter Tryz.func29, Tryz.ntmps29
 go_wp2_with fail
 refine (HCK.out _ HM0.out.below).mono ?_
 rintro e w1 ⟨rfl, hb1⟩
 have HM1 := Lib.hid (HM0.out.step hb1)
 clear hb1 HM0 c0 c1 c2
 go_wp2_with fail
 exact bodyPost_ret (v := .int .i64 (E)) (by simp [results, Tryz.results29, go_sem]) rfl ⟨rfl, HM1.out.below⟩
set_option maxRecDepth 1000000 in
set_option maxHeartbeats 4000000 in
theorem lin_any (A : Option Addr) (c n : Nat) (z : Int) (L : List Int) (w : World) (h : Rd iz w w.heap.size A L) (hn : n = L.length) (hm : n ≤ 1000) :
  Calls Tryz.prog 39 #[.slice A n c, .int .i64 z] w fun e w' => e = .returned (.bool (decide (z ∈ L))) ∧ w = w' := by
 have HR := Lib.hid h
 have HN := Lib.hid (And.intro hn hm)
 clear h hn hm
 go_enter Tryz.func39, Tryz.ntmps39
 go_wp2_with fail
 go_loopw [5] (fun x wr => ∃ k : Nat, k ≤ n ∧ x = .int .i64 (k : Int) ∧ z ∉ L.take k ∧ wr = w) (fun x _ => n - (intOf x).toNat)
 case atStart => exact ⟨0, Nat.zero_le _, rfl, by simp, rfl⟩
 case round =>
  obtain ⟨k, hk, rfl, hz, rfl⟩ := hrel
  have HZ := Lib.hid hz
  clear hz
  by_cases hlt : k < n
  ·have hkl : k < L.length := by rw [← HN.out.1]; exact hlt
   obtain ⟨b, off, hA, hb, hc⟩ := HR.out (by omega)
   subst hA
   obtain ⟨x, hx⟩ : ∃ x, x = L[k] := ⟨_, rfl⟩
   have hc0 : wr.cell? ⟨b, off + k, none⟩ = some (.int .i64 x) := by rw [hx]; exact hc k hkl
   have hlk : (k : Int) < (n : Int) := by omega
   obtain ⟨k2, hk2⟩ : ∃ z : Int, z = (k : Int) + 1 := ⟨_, rfl⟩
   have hwk : IntKind.i64.wrap ((k : Int) + 1) = k2 := by rw [hk2]; exact IntWalk.i64_in _ (by have := HN.out.2; omega)
   have HK2 := Lib.hid hk2
   have HLT := Lib.hid hlt
   have HT := Lib.hid (show L.take (k + 1) = L.take k ++ [x] by rw [hx, List.take_succ_eq_append_getElem hkl])
   have HM := Lib.hid (show x ∈ L by rw [hx]; exact List.getElem_mem hkl)
   clear hk2 hx hc hb hk hkl hlt
   by_cases hxz : x = z
   ·subst hxz
    have HD := Lib.hid (show decide (x ∈ L) = true from decide_eq_true HM.out)
    go_wp2_with fail
    go_ret
    exact ⟨by rw [HD.out]; rfl, rfl⟩
   ·go_wp2_with fail
    go_roundw
    case rel => exact ⟨k + 1, HLT.out, by rw [HK2.out]; rfl, by rw [HT.out, List.mem_append, List.mem_singleton]; exact fun h => h.elim HZ.out (fun h => hxz h.symm), trivial⟩
    case measure => have := HLT.out; have := HK2.out; simp only [intOf]; omega
  ·obtain rfl : k = n := by omega
   have HD := Lib.hid (show decide (z ∈ L) = false from decide_eq_false (by have := HZ.out; rwa [HN.out.1, List.take_length] at this))
   have hkn : ¬ (k : Int) < (k : Int) := by omega
   clear hk hlt
   go_wp2_with fail
   go_ret
   exact ⟨by rw [HD.out]; rfl, rfl⟩
set_option maxRecDepth 1000000 in
set_option maxHeartbeats 8000000 in
theorem llist_any (A : Option Addr) (c n v : Nat) (L : List Int) (w : World) (h : Rd iz w w.heap.size A L) (hn : n = L.length) (hm : n ≤ 1000) (hv : v ≤ 8) :
  Calls Tryz.prog 59 #[.slice A n c, .int .i64 (v : Int)] w fun e w' => e = .returned (.int .i64 (ordE ((2 ^ v : Nat) : Int) none L)) ∧ Below w.heap.size w w' := by
 obtain ⟨N, hN⟩ : ∃ N, N = 2 ^ v := ⟨_, rfl⟩
 have hN8 : N ≤ 256 := by rw [hN]; exact pow_le8 hv
 rw [← hN]
 have hsh : wrap64 (2 ^ v) = (N : Int) := by
  have e : ((2 : Int) ^ v) = (N : Int) := by rw [hN, Int.natCast_pow]; rfl
  rw [e]; unfold wrap64; omega
 have HSH := Lib.hid hsh
 have HR := Lib.hid h
 have HN := Lib.hid hn
 have HX := Lib.hid hm
 obtain ⟨E, hE⟩ : ∃ E, E = ordE (N : Int) none L := ⟨_, rfl⟩
 have HE := Lib.hid hE
 rw [← hE]
 have HVV := Lib.hid hv
 clear h hn hm hN hN8 hsh hE hv
 go_enter Tryz.func59, Tryz.ntmps59
 go_wp2_with fail
 go_loopw [5] (fun x wr => ∃ k : Nat, k ≤ L.length ∧ x = .int .i64 (k : Int) ∧ ordE (N : Int) none L = ordE (N : Int) (pvO L k) (L.drop k) ∧ Below w.heap.size w wr) (fun x _ => n - (intOf x).toNat)
 case atStart => exact ⟨0, by omega, rfl, rfl, Below.refl _ _⟩
 case round =>
  obtain ⟨k, hk, rfl, hrd, hbw⟩ := hrel
  have HD := Lib.hid hrd
  have HB := Lib.hid hbw
  rw [← HN.out] at hk
  clear hrd hbw
  by_cases hlt : k < n
  ·obtain ⟨b, off, hA, hb, hc⟩ := ((HR.out.below HB.out).more HB.out.size) (by rw [← HN.out]; omega)
   subst hA
   have hkl : k < L.length := by rw [← HN.out]; exact hlt
   obtain ⟨x, hx⟩ : ∃ x, x = L[k] := ⟨_, rfl⟩
   have hc0 : wr.cell? ⟨b, off + k, none⟩ = some (.int .i64 x) := by rw [hx]; exact hc k hkl
   have hd0 : wr.drew.cell? ⟨b, off + k, none⟩ = some (.int .i64 x) := hc0
   have hlk : (k : Int) < (n : Int) := by omega
   obtain ⟨k2, hk2⟩ : ∃ z : Int, z = (k : Int) + 1 := ⟨_, rfl⟩
   have hwk : IntKind.i64.wrap ((k : Int) + 1) = k2 := by rw [hk2]; exact IntWalk.i64_in _ (by have := HX.out; omega)
   have HK2 := Lib.hid hk2
   have HLT := Lib.hid hlt
   have hdr : L.drop k = x :: L.drop (k + 1) := by rw [hx]; exact List.drop_eq_getElem_cons hkl
   have hst := HD.out
   rw [hdr] at hst
   have HST := Lib.hid (show E = (if x < 0 ∨ (N : Int) ≤ x then 3 else if leB (pvO L k) x = true then 6 else ordE (N : Int) (some x) (L.drop (k + 1))) from HE.out.trans hst)
   have HPV := Lib.hid (show pvO L (k + 1) = some x by show L[k]? = some x; rw [hx]; exact List.getElem?_eq_getElem hkl)
   have hsh := HSH.out
   have hv2 : (v : Int) < 64 := by have := HVV.out; omega
   have hwn : IntKind.u64.wrap (v : Int) = (v : Int) := IntWalk.u64_in _ ⟨by omega, by omega⟩
   clear hk hlt hk2 hdr hst hx hb
   by_cases h1 : x < 0
   ·have HEE := Lib.hid (show E = 3 by rw [HST.out, if_pos (.inl h1)])
    have d1 : decide (x < 0) = true := decide_eq_true h1
    clear hc hd0
    go_wp2_with fail
    go_ret
    exact ⟨by rw [HEE.out]; rfl, HB.out⟩
   ·have d1 : decide (x < 0) = false := decide_eq_false h1
    by_cases h2 : (N : Int) ≤ x
    ·have HEE := Lib.hid (show E = 3 by rw [HST.out, if_pos (.inr h2)])
     clear hc hd0
     go_wp2_with fail
     go_ret
     exact ⟨by rw [HEE.out]; rfl, HB.out⟩
    ·have hn2 : ¬ (x < 0 ∨ (N : Int) ≤ x) := by omega
     by_cases hz : k = 0
     ·subst hz
      have HRE := Lib.hid (show E = ordE (N : Int) (some x) (L.drop 1) by rw [HST.out, if_neg hn2, if_neg (by simp [pvO, leB])])
      rw [Nat.add_zero] at hc0 hd0
      have hg : decide (((0 : Nat) : Int) > 0) = false := by decide
      clear hc hn2
      go_wp2_with fail
      go_quiet (fail)
      go_wp2_with fail
      go_roundw
      case rel => exact ⟨1, by have := HLT.out; have := HN.out; omega, rfl, by rw [← HE.out, HRE.out, HPV.out], bw_drewN HB.out nq⟩
      case measure => have := HLT.out; have := HK2.out; simp only [intOf]; omega
     ·obtain ⟨j, hjk⟩ : ∃ j, k = j + 1 := ⟨k - 1, by omega⟩
      obtain ⟨y, hy⟩ : ∃ y, y = L[j]'(by omega) := ⟨_, rfl⟩
      obtain ⟨jz, hjz⟩ : ∃ z : Int, z = (k : Int) - 1 := ⟨_, rfl⟩
      have hcj := hc j (by omega)
      rw [← hy, show j = jz.toNat by omega] at hcj
      have hcj0 : wr.cell? ⟨b, off + jz.toNat, none⟩ = some (.int .i64 y) := hcj
      have hdj0 : wr.drew.cell? ⟨b, off + jz.toNat, none⟩ = some (.int .i64 y) := hcj
      have hpv : pvO L k = some y := by rw [hjk]; show L[j]? = some y; rw [hy]; exact List.getElem?_eq_getElem (by omega)
      have hwj : IntKind.i64.wrap ((k : Int) - 1) = jz := by rw [hjz]; exact IntWalk.i64_in _ (by have := HX.out; have := HLT.out; omega)
      have hjp : decide (0 < k) = true := decide_eq_true (by omega)
      have hj0 : (0 : Int) ≤ jz := by omega
      have hj1 : jz < (n : Int) := by have := HLT.out; omega
      have hst := HST.out
      rw [hpv, if_neg hn2] at hst
      have HST2 := Lib.hid (show E = if x ≤ y then 6 else ordE (N : Int) (some x) (L.drop (k + 1)) by rw [hst]; simp only [leB, decide_eq_true_eq])
      clear hc hcj hn2 hz hy hpv hst hkl hjk hjz
      by_cases h3 : x ≤ y
      ·have HEE := Lib.hid (show E = 6 by rw [HST2.out, if_pos h3])
       have d3 : decide (x ≤ y) = true := decide_eq_true h3
       go_wp2_with fail
       go_quiet (fail)
       go_wp2_with fail
       go_ret
       exact ⟨by rw [HEE.out]; rfl, bw_drewN HB.out nq⟩
      ·have HRE := Lib.hid (show E = ordE (N : Int) (some x) (L.drop (k + 1)) by rw [HST2.out, if_neg h3])
       have d3 : decide (x ≤ y) = false := decide_eq_false h3
       go_wp2_with fail
       go_quiet (fail)
       go_wp2_with fail
       go_roundw
       case rel => exact ⟨k + 1, by have := HLT.out; have := HN.out; omega, by rw [HK2.out]; rfl, by rw [← HE.out, HRE.out, HPV.out], bw_drewN HB.out nq⟩
       case measure => have := HLT.out; have := HK2.out; simp only [intOf]; omega
  ·obtain rfl : k = n := by omega
   have HEE := Lib.hid (show E = 0 by rw [HE.out, HD.out, HN.out, List.drop_length, ordE])
   have hkn : ¬ (k : Int) < (k : Int) := by omega
   clear hk hlt
   go_wp2_with fail
   go_ret
   exact ⟨by rw [HEE.out]; rfl, HB.out⟩
set_option maxRecDepth 1000000 in
set_option maxHeartbeats 8000000 in
theorem lcheck_any (A B : Option Addr) (c d n m : Nat) (v : Int) (L K : List Int) (w : World) (h : TabAt w w.heap.size A B n m L K) :
  Calls Tryz.prog 32 #[.agg #[.int .i64 v, .slice A n c, .slice B m d]] w fun e w' => e = .returned (.int .i64 (chkE v L K)) ∧ Below w.heap.size w w' := by
 obtain ⟨E, hE⟩ : ∃ E, E = chkE v L K := ⟨_, rfl⟩
 rw [← hE]
 have HE := Lib.hid hE
 have H := Lib.hid h
 have hm0 := (Hp.start w).new 26 [.int .i64 v, .slice A n c, .slice B m d]
 simp only [List.nil_append] at hm0
 have HM0 := Lib.hid hm0
 have c0 : (w.alloc (.cells #[.int .i64 v, .slice A n c, .slice B m d] 26)).cell? ⟨w.heap.size, 0, none⟩ = some (.int .i64 v) := (hm0.at_ 0 rfl).cell 0
 have c1 : (w.alloc (.cells #[.int .i64 v, .slice A n c, .slice B m d] 26)).cell? ⟨w.heap.size, 1, none⟩ = some (.slice A n c) := (hm0.at_ 0 rfl).cell 1
 have c2 : (w.alloc (.cells #[.int .i64 v, .slice A n c, .slice B m d] 26)).cell? ⟨w.heap.size, 2, none⟩ = some (.slice B m d) := (hm0.at_ 0 rfl).cell 2
 clear hE h hm0
 by_cases hv0 : v < 0
 ·have HEE := Lib.hid (show E = 3 by rw [HE.out]; unfold chkE; rw [if_pos (.inl hv0)])
  clear c1 c2
  go_enter Tryz.func32, Tryz.ntmps32
  go_wp2_with fail
  exact bodyPost_ret (v := .int .i64 3) (by simp [results, Tryz.results32, go_sem]) rfl ⟨by rw [HEE.out], HM0.out.below⟩
 by_cases hv8 : 8 < v
 ·have HEE := Lib.hid (show E = 3 by rw [HE.out]; unfold chkE; rw [if_pos (.inr hv8)])
  clear c1 c2
  go_enter Tryz.func32, Tryz.ntmps32
  go_wp2_with fail
  exact bodyPost_ret (v := .int .i64 3) (by simp [results, Tryz.results32, go_sem]) rfl ⟨by rw [HEE.out], HM0.out.below⟩
 obtain ⟨q, rfl⟩ : ∃ q : Nat, v = (q : Int) := ⟨v.toNat, by omega⟩
 have hq8 : q ≤ 8 := by omega
 have hE2 := HE.out
 unfold chkE at hE2
 rw [if_neg (by omega), show (q : Int).toNat = q by omega] at hE2
 have H1 := Lib.hid (fun W (hb : Below w.heap.size w W) => llist_any A c n q L W (((H.out.below hb).on)) H.out.n_ H.out.nm.1 hq8)
 have H2 := Lib.hid (fun W (hb : Below w.heap.size w W) => llist_any B d m q K W (((H.out.below hb).free)) H.out.m_ H.out.nm.2 hq8)
 have H3 := Lib.hid (fun W (hb : Below w.heap.size w W) z => lin_any A c n z L W (((H.out.below hb).on)) H.out.n_ H.out.nm.1)
 have HMM := Lib.hid (fun (h1 : ordE ((2 ^ q : Nat) : Int) none L = 0) (h2 : ordE ((2 ^ q : Nat) : Int) none K = 0) => meetM (L := L) (K := K) (fun x hx => ((ordE_zero L none h1).1 x hx).1) (fun x hx => ((ordE_zero K none h2).1 x hx).1))
 obtain ⟨e1, he1⟩ : ∃ e, e = ordE ((2 ^ q : Nat) : Int) none L := ⟨_, rfl⟩
 obtain ⟨e2, he2⟩ : ∃ e, e = ordE ((2 ^ q : Nat) : Int) none K := ⟨_, rfl⟩
 rw [← he1] at H1 HMM hE2
 rw [← he2] at H2 HMM hE2
 have HE2 := Lib.hid hE2
 clear he1 he2 hE2 HE
 have hg0 : decide ((q : Int) < 0) = false := decide_eq_false hv0
 have hg8 : ¬ 8 < (q : Int) := hv8
 clear hv0 hv8
 go_enter Tryz.func32, Tryz.ntmps32
 go_wp2_with fail
 refine (H1.out _ HM0.out.below).mono ?_
 rintro e w1 ⟨rfl, hb1⟩
 have HM1 := Lib.hid (HM0.out.step hb1)
 clear hb1 HM0 c0 c1 c2
 have c0 : w1.cell? ⟨w.heap.size, 0, none⟩ = some (.int .i64 (q : Int)) := (HM1.out.at_ 0 rfl).cell 0
 have c1 : w1.cell? ⟨w.heap.size, 1, none⟩ = some (.slice A n c) := (HM1.out.at_ 0 rfl).cell 1
 have c2 : w1.cell? ⟨w.heap.size, 2, none⟩ = some (.slice B m d) := (HM1.out.at_ 0 rfl).cell 2
 by_cases h1 : e1 = 0
 ·subst h1
  go_wp2_with fail
  refine (H2.out _ HM1.out.below).mono ?_
  rintro e w2 ⟨rfl, hb2⟩
  have HM2 := Lib.hid (HM1.out.step hb2)
  clear hb2 HM1 c0 c1 c2
  have c0 : w2.cell? ⟨w.heap.size, 0, none⟩ = some (.int .i64 (q : Int)) := (HM2.out.at_ 0 rfl).cell 0
  have c1 : w2.cell? ⟨w.heap.size, 1, none⟩ = some (.slice A n c) := (HM2.out.at_ 0 rfl).cell 1
  have c2 : w2.cell? ⟨w.heap.size, 2, none⟩ = some (.slice B m d) := (HM2.out.at_ 0 rfl).cell 2
  by_cases h2 : e2 = 0
  ·subst h2
   have hE3 := HE2.out
   have hMM := HMM.out (by trivial) (by trivial)
   rw [if_neg (by simp), if_neg (by simp)] at hE3
   have HE3 := Lib.hid (show E = if ∀ z ∈ K, z ∉ L then 0 else 14 by
    rw [hE3]
    by_cases hh : ∀ z ∈ K, z ∉ L
    ·rw [if_pos (hMM.2 hh), if_pos hh]
    ·rw [if_neg (fun e => hh (hMM.1 e)), if_neg hh])
   clear hMM
   clear hE3 HE2 HMM c0 c1 c2
   go_wp2_with fail
   go_loopw [5] (fun x wr => ∃ k : Nat, k ≤ m ∧ x = .int .i64 (k : Int) ∧ (∀ z ∈ K.take k, z ∉ L) ∧ Hp w [(w.heap.size, 26, [.int .i64 (q : Int), .slice A n c, .slice B m d])] wr) (fun x _ => m - (intOf x).toNat)
   case atStart => exact ⟨0, Nat.zero_le _, rfl, by simp, HM2.out⟩
   case round =>
    obtain ⟨k, hk, rfl, hz, hp⟩ := hrel
    have HZ := Lib.hid hz
    have HP := Lib.hid hp
    have c1 : wr.cell? ⟨w.heap.size, 1, none⟩ = some (.slice A n c) := (hp.at_ 0 rfl).cell 1
    have c2 : wr.cell? ⟨w.heap.size, 2, none⟩ = some (.slice B m d) := (hp.at_ 0 rfl).cell 2
    clear hz hp
    by_cases hlt : k < m
    ·have hkl : k < K.length := by rw [← H.out.m_]; exact hlt
     obtain ⟨b, off, hB, hbb, hcc⟩ := ((H.out.free.below HP.out.below).more HP.out.below.size) (by omega)
     subst hB
     obtain ⟨x, hx⟩ : ∃ x, x = K[k] := ⟨_, rfl⟩
     have d0 : wr.cell? ⟨b, off + k, none⟩ = some (.int .i64 x) := by rw [hx]; exact hcc k hkl
     have HQ := Lib.hid (fun j => H3.out (wr.drewN j) (HP.out.drewN j).below x)
     have hlk : (k : Int) < (m : Int) := by omega
     have hm1000 := H.out.nm.2
     obtain ⟨k2, hk2⟩ : ∃ z : Int, z = (k : Int) + 1 := ⟨_, rfl⟩
     have hwk : IntKind.i64.wrap ((k : Int) + 1) = k2 := by rw [hk2]; exact IntWalk.i64_in _ (by omega)
     have HK2 := Lib.hid hk2
     have HLT := Lib.hid hlt
     have HT := Lib.hid (show K.take (k + 1) = K.take k ++ [x] by rw [hx, List.take_succ_eq_append_getElem hkl])
     have HXM := Lib.hid (show x ∈ K by rw [hx]; exact List.getElem_mem hkl)
     clear hk2 hx hcc hbb hk hkl hlt hm1000
     cases hin : decide (x ∈ L) with
     | true =>
      rw [hin] at HQ
      have HEE := Lib.hid (show E = 14 by rw [HE3.out, if_neg (fun h => h x HXM.out (of_decide_eq_true hin))])
      clear hin
      go_wp2_with fail
      go_quiet (first | (go_at_call 39; exact Calls.quiet_of_same ((HQ.out _).mono fun _ _ ⟨a, b⟩ => ⟨a, b.symm⟩)))
      go_wp2_with fail
      exact bodyPost_ret (v := .int .i64 14) (by simp [results, Tryz.results32, go_sem]) rfl ⟨by rw [HEE.out], bw_drewN HP.out.below nq⟩
     | false =>
      rw [hin] at HQ
      have HNI := Lib.hid (of_decide_eq_false hin)
      clear hin
      go_wp2_with fail
      go_quiet (first | (go_at_call 39; exact Calls.quiet_of_same ((HQ.out _).mono fun _ _ ⟨a, b⟩ => ⟨a, b.symm⟩)))
      go_wp2_with fail
      go_roundw
      case rel => exact ⟨k + 1, HLT.out, by rw [HK2.out]; rfl, by rw [HT.out]; intro z hz; rcases List.mem_append.1 hz with hz | hz; exact HZ.out z hz; rw [List.mem_singleton] at hz; rw [hz]; exact HNI.out, HP.out.drewN nq⟩
      case measure => have := HLT.out; have := HK2.out; simp only [intOf]; omega
    ·obtain rfl : k = m := by omega
     have hkm : ¬ (k : Int) < (k : Int) := by omega
     have HEE := Lib.hid (show E = 0 by
      rw [HE3.out, if_pos]
      have := HZ.out
      rwa [H.out.m_, List.take_length] at this)
     clear hk hlt
     go_wp2_with fail
     exact bodyPost_ret (v := .int .i64 0) (by simp [results, Tryz.results32, go_sem]) rfl ⟨by rw [HEE.out], HP.out.below⟩
  ·have hE3 := HE2.out
   rw [if_neg (by simp), if_pos h2] at hE3
   have HE3 := Lib.hid hE3
   clear hE3
   go_wp2_with fail
   exact bodyPost_ret (v := .int .i64 e2) (by simp [results, Tryz.results32, go_sem]) rfl ⟨by rw [HE3.out], HM2.out.below⟩
 ·have hE3 := HE2.out
  rw [if_pos h1] at hE3
  have HE3 := Lib.hid hE3
  clear hE3
  go_wp2_with fail
  exact bodyPost_ret (v := .int .i64 e1) (by simp [results, Tryz.results32, go_sem]) rfl ⟨by rw [HE3.out], HM1.out.below⟩
end Go.Proofs.YtaegjpancbmppaaGreatDoor
