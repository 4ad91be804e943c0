/- Part 7 of 33 of the proof of the law: contracts of the functions that it reaches, and plain facts. Conditions: those that each contract names. -/
import Derived.Test.YtaegjpancbmppaaGreatDoorTabB03
import Derived.Test.YtaegjpancbmppaaGreatDoorTabB06
import Derived.BigQuiet
import Derived.Test.YtaegjpancbmppaaGreatDoorTabB01
set_option linter.unusedVariables false
set_option linter.unusedSimpArgs false
namespace Go.Proofs.YtaegjpancbmppaaGreatDoor
open Go.RowKit
def rgB (n : Nat) (c v : Int) : Bool := decide (0 ≤ c) && (decide (c < ((2 ^ n : Nat) : Int)) && (bits .andNot .i64 v c == 0 && decide (0 ≤ v)))
set_option maxRecDepth 1000000 in
set_option maxHeartbeats 4000000 in
theorem iright_any (n : Nat) (c v : Int) (w : World) (hn : n ≤ 8) :
  Calls Tryz.prog 55 #[.agg #[.int .i64 c, .int .i64 v], .int .i64 (n : Int)] w fun e w' => e = .returned (.bool (rgB n c v)) ∧ Below w.heap.size w w' := by
 obtain ⟨N, hN⟩ : ∃ N, N = 2 ^ n := ⟨_, rfl⟩
 have hN8 : N ≤ 256 := by rw [hN]; exact pow_le8 hn
 have hsh : wrap64 (2 ^ n) = (N : Int) := by
  have e : ((2 : Int) ^ n) = (N : Int) := by rw [hN, Int.natCast_pow]; rfl
  rw [e]; unfold wrap64; omega
 obtain ⟨R, hR⟩ : ∃ R, R = rgB n c v := ⟨_, rfl⟩
 rw [← hR]
 have HR := Lib.hid (show R = (decide (0 ≤ c) && (decide (c < (N : Int)) && (bits .andNot .i64 v c == 0 && decide (0 ≤ v)))) by rw [hR, hN]; rfl)
 obtain ⟨x, hx⟩ : ∃ x, bits .andNot .i64 v c = x := ⟨_, rfl⟩
 rw [hx] at HR
 have hm0 := (Hp.start w).new 37 [.int .i64 c, .int .i64 v]
 simp only [List.nil_append] at hm0
 have HM0 := Lib.hid hm0
 have c0 : (w.alloc (.cells #[.int .i64 c, .int .i64 v] 37)).drew.cell? ⟨w.heap.size, 0, none⟩ = some (.int .i64 c) := (hm0.at_ 0 rfl).cell 0
 have c1 : (w.alloc (.cells #[.int .i64 c, .int .i64 v] 37)).drew.cell? ⟨w.heap.size, 1, none⟩ = some (.int .i64 v) := (hm0.at_ 0 rfl).cell 1
 have C0 : (w.alloc (.cells #[.int .i64 c, .int .i64 v] 37)).cell? ⟨w.heap.size, 0, none⟩ = some (.int .i64 c) := (hm0.at_ 0 rfl).cell 0
 have C1 : (w.alloc (.cells #[.int .i64 c, .int .i64 v] 37)).cell? ⟨w.heap.size, 1, none⟩ = some (.int .i64 v) := (hm0.at_ 0 rfl).cell 1
 have hn64 : (n : Int) < 64 := by omega
 clear hm0 hN hN8 hR hn
 go_enter Tryz.func55, Tryz.ntmps55
 by_cases h1 : 0 ≤ c
 ·have d1 : decide (0 ≤ c) = true := decide_eq_true h1
  by_cases h2 : c < (N : Int)
  ·have d2 : decide (c < (N : Int)) = true := decide_eq_true h2
   by_cases h3 : x = 0
   ·subst h3
    have HE := Lib.hid (show R = decide (0 ≤ v) by rw [HR.out, d1, d2]; simp)
    go_wp2_with fail
    go_quiet (fail)
    go_wp2_with fail
    exact bodyPost_ret (v := .bool (decide (0 ≤ v))) (by simp [results, Tryz.results55, go_sem]) rfl ⟨by rw [HE.out], (HM0.out.drewN nq).below⟩
   ·have d3 : (x == 0) = false := by simpa using h3
    have HE := Lib.hid (show R = false by rw [HR.out, d1, d2, d3]; rfl)
    go_wp2_with fail
    go_quiet (fail)
    go_wp2_with fail
    exact bodyPost_ret (v := .bool false) (by simp [results, Tryz.results55, go_sem]) rfl ⟨by rw [HE.out], (HM0.out.drewN nq).below⟩
  ·have d2 : decide (c < (N : Int)) = false := decide_eq_false h2
   have HE := Lib.hid (show R = false by rw [HR.out, d1, d2]; rfl)
   go_wp2_with fail
   go_quiet (fail)
   go_wp2_with fail
   exact bodyPost_ret (v := .bool false) (by simp [results, Tryz.results55, go_sem]) rfl ⟨by rw [HE.out], (HM0.out.drewN nq).below⟩
 ·have d1 : decide (0 ≤ c) = false := decide_eq_false h1
  have HE := Lib.hid (show R = false by rw [HR.out, d1]; rfl)
  go_wp2_with fail
  go_quiet (fail)
  go_wp2_with fail
  exact bodyPost_ret (v := .bool false) (by simp [results, Tryz.results55, go_sem]) rfl ⟨by rw [HE.out], (HM0.out.drewN nq).below⟩
end Go.Proofs.YtaegjpancbmppaaGreatDoor
namespace Go.Proofs.YtaegjpancbmppaaGreatDoor
open Go.RowKit
theorem rg_of {n : Nat} {c v : Int} (hv : v ≤ 9223372036854775807) (hn : n ≤ 8) (h : rgB n c v = true) : ∃ a b : Nat, c = (a : Int) ∧ v = (b : Int) ∧ a < 2 ^ n ∧ b ≤ a ∧ adn b a = 0 := by
 unfold rgB at h
 simp only [Bool.and_eq_true, decide_eq_true_eq, beq_iff_eq] at h
 obtain ⟨h1, h2, h3, h4⟩ := h
 have hp := pow_le8 hn
 obtain ⟨a, rfl⟩ : ∃ a : Nat, c = (a : Int) := ⟨c.toNat, by omega⟩
 obtain ⟨b, rfl⟩ : ∃ b : Nat, v = (b : Int) := ⟨v.toNat, by omega⟩
 have ha : a < 2 ^ n := by omega
 rw [adn_i64 (by omega) (by omega)] at h3
 have h0 : adn b a = 0 := Int.natCast_inj.1 h3
 refine ⟨a, b, rfl, rfl, ha, Nat.le_of_testBit fun i hi => ?_, h0⟩
 exact (adn_nil.1 h0) i hi
def rwsE (n c v : Int) : Int := if n < 0 ∨ 8 < n then 3 else if rgB n.toNat c v = true then 0 else 7
end Go.Proofs.YtaegjpancbmppaaGreatDoor
namespace Go.Proofs.YtaegjpancbmppaaGreatDoor
open Go.RowKit
structure TabAt (w : World) (Bd : Nat) (A B : Option Addr) (n m : Nat) (L K : List Int) : Prop where
 on : Rd iz w Bd A L
 free : Rd iz w Bd B K
 n_ : n = L.length
 m_ : m = K.length
 nm : n ≤ 1000 ∧ m ≤ 1000
theorem TabAt.below {w W : World} {A B : Option Addr} {n m : Nat} {L K : List Int} (h : TabAt w w.heap.size A B n m L K) (hb : Below w.heap.size w W) : TabAt W W.heap.size A B n m L K :=
 ⟨(h.on.below hb).more hb.size, (h.free.below hb).more hb.size, h.n_, h.m_, h.nm⟩
abbrev onR (L : List Int) : List Nat := L.map Int.toNat
def mayM (L K : List Int) : Nat := rowM (L.map Int.toNat) ||| rowM (K.map Int.toNat)
theorem icheck_tab {w : World} {A B : Option Addr} {n m c d : Nat} {v : Int} {L K : List Int} (h : TabAt w w.heap.size A B n m L K) (W : World) (hb : Below w.heap.size w W) :
  Calls Tryz.prog 33 #[.agg #[.int .i64 v, .slice A n c, .slice B m d]] W fun e w' => e = .returned (.int .i64 (chkE v L K)) ∧ Below W.heap.size W w' :=
 icheck_any A B c d n m v L K W (h.below hb).on (h.below hb).free h.n_ h.m_ h.nm.1 h.nm.2
def smlE (v : Int) (L K : List Int) : Int := if chkE v L K ≠ 0 then chkE v L K else if 5 < v then 4 else 0
set_option maxRecDepth 1000000 in
set_option maxHeartbeats 4000000 in
theorem ismall_any (A B : Option Addr) (c d n m : Nat) (v : Int) (L K : List Int) (w : World) (h : TabAt w w.heap.size A B n m L K) :
  Calls Tryz.prog 41 #[.agg #[.int .i64 v, .slice A n c, .slice B m d]] w fun e w' => e = .returned (.int .i64 (smlE v L K)) ∧ Below w.heap.size w w' := by
 obtain ⟨E, hE⟩ : ∃ E, E = smlE v L K := ⟨_, rfl⟩
 rw [← hE]
 obtain ⟨x, hx⟩ : ∃ x, x = chkE v L K := ⟨_, rfl⟩
 have hCK := fun W hb => icheck_tab (c := c) (d := d) (v := v) h W hb
 rw [← hx] at hCK
 have HCK := Lib.hid hCK
 have HE := Lib.hid (show E = if x ≠ 0 then x else if 5 < v then 4 else 0 by rw [hE, hx]; rfl)
 have hm0 := (Hp.start w).new 26 [.int .i64 v, .slice A n c, .slice B m d]
 simp only [List.nil_append] at hm0
 have HM0 := Lib.hid hm0
 have c0 : (w.alloc (.cells #[.int .i64 v, .slice A n c, .slice B m d] 26)).cell? ⟨w.heap.size, 0, none⟩ = some (.int .i64 v) := (hm0.at_ 0 rfl).cell 0
 have c1 : (w.alloc (.cells #[.int .i64 v, .slice A n c, .slice B m d] 26)).cell? ⟨w.heap.size, 1, none⟩ = some (.slice A n c) := (hm0.at_ 0 rfl).cell 1
 have c2 : (w.alloc (.cells #[.int .i64 v, .slice A n c, .slice B m d] 26)).cell? ⟨w.heap.size, 2, none⟩ = some (.slice B m d) := (hm0.at_ 0 rfl).cell 2
 clear hm0 hE hx hCK h
 go_enter Tryz.func41, Tryz.ntmps41
 go_wp2_with fail
 refine (HCK.out _ HM0.out.below).mono ?_
 rintro e w1 ⟨rfl, hb1⟩
 have HM1 := Lib.hid (HM0.out.step hb1)
 clear hb1 HM0 c0 c1 c2
 by_cases h0 : x = 0
 ·subst h0
  have c0 : w1.cell? ⟨w.heap.size, 0, none⟩ = some (.int .i64 v) := (HM1.out.at_ 0 rfl).cell 0
  by_cases h5 : 5 < v
  ·have HEE := Lib.hid (show E = 4 by rw [HE.out, if_neg (by simp), if_pos h5])
   go_wp2_with fail
   exact bodyPost_ret (v := .int .i64 4) (by simp [results, Tryz.results41, go_sem]) rfl ⟨by rw [HEE.out], HM1.out.below⟩
  ·have HEE := Lib.hid (show E = 0 by rw [HE.out, if_neg (by simp), if_neg h5])
   go_wp2_with fail
   exact bodyPost_ret (v := .int .i64 0) (by simp [results, Tryz.results41, go_sem]) rfl ⟨by rw [HEE.out], HM1.out.below⟩
 ·have HEE := Lib.hid (show E = x by rw [HE.out, if_pos h0])
  have hz : (x != 0) = true := by simpa using h0
  clear h0
  go_wp2_with fail
  exact bodyPost_ret (v := .int .i64 x) (by simp [results, Tryz.results41, go_sem]) rfl ⟨by rw [HEE.out], HM1.out.below⟩
end Go.Proofs.YtaegjpancbmppaaGreatDoor
namespace Go.Proofs.YtaegjpancbmppaaGreatDoor
open Go.RowKit
theorem own_keep {w w' : World} {base : Nat} {e : TypeId} {size n : Nat} {v : Value} {xs : List Value} (h : w.ownsRow base e size v n xs) (hk : ∀ g, v.ownBlock = some g → w'.heap[g]? = w.heap[g]?) : w'.ownsRow base e size v n xs := by
 refine ⟨h.1, ?_⟩
 rcases h.2 with h0 | ⟨g, cap, cur, rfl, hbs, hg, hr⟩
 ·exact .inl h0
 ·exact .inr ⟨g, cap, cur, rfl, hbs, (hk g rfl).trans hg, hr⟩
structure TwoR (w W : World) (q : Nat) (A B : Option Addr) (n c m d : Nat) (X Y : List Value) : Prop where
 hp : Hp w [(w.heap.size, 26, [.int .i64 0, .slice none 0 0, .slice none 0 0]), (w.heap.size + 1, 26, [.int .i64 (q : Int), .slice A n c, .slice B m d])] W
 a : W.ownsRow (w.heap.size + 2) 3 1 (.slice A n c) n X
 b : W.ownsRow (w.heap.size + 2) 3 1 (.slice B m d) m Y
 apart : ∀ g, (Value.slice A n c).ownBlock = some g → (Value.slice B m d).ownBlock ≠ some g
theorem hp_grown {w W Wb w4 : World} {Ls : List (Nat × TypeId × List Value)} {base n size : Nat} {e : TypeId} {v : Value} {xs : List Value} (hp : Hp w Ls W) (hL : ∀ p ∈ Ls, p.1 < base) (hw : w.heap.size ≤ base) (hb : Below W.heap.size W Wb) (ho : W.ownsRow base e size v n xs) (hg : Wb.grownBy w4 v.ownBlock) : Hp w Ls w4 :=
 (hp.step hb).grwI hg fun q hq => ⟨Nat.le_trans hw (ho.lt q hq).1, fun p hp' e => by
  have h1 := (ho.lt q hq).1
  have h2 := hL p hp'
  omega⟩
abbrev zR (l : List Nat) : List Int := l.map Int.ofNat
def MkPost (a on fr : Nat) (w : World) (e : Ending) (w' : World) : Prop :=
 ∃ (A B : Option Addr) (c d : Nat), e = .returned (.agg #[.int .i64 ((a % 5 : Nat) : Int), .slice A (mkOn on (2 ^ (a % 5))).length c, .slice B (mkFr on fr (2 ^ (a % 5))).length d]) ∧ (mkOn on (2 ^ (a % 5))).length ≤ c ∧ c ≤ 9223372036854775807 ∧ (∀ p, A = some p → w.heap.size ≤ p.block) ∧ (∀ p, B = some p → w.heap.size ≤ p.block) ∧
  TabAt w' w'.heap.size A B (mkOn on (2 ^ (a % 5))).length (mkFr on fr (2 ^ (a % 5))).length (zR (mkOn on (2 ^ (a % 5)))) (zR (mkFr on fr (2 ^ (a % 5)))) ∧ Below w.heap.size w w'
theorem own_rd {W : World} {base n c : Nat} {A : Option Addr} {l : List Nat} (h : W.ownsRow base 3 1 (.slice A n c) n (l.map nv)) (hn : n = l.length) : Rd iz W W.heap.size A (zR l) := fun hl => by
 rw [List.length_map] at hl
 rcases h.2 with ⟨h0, h1⟩ | ⟨g, cap, cur, hv, hbs, hg, hr⟩
 ·cases h0
  omega
 ·cases hv
  refine ⟨g, 0, rfl, (h.lt g rfl).2, fun i hi => ?_⟩
  rw [List.length_map] at hi
  have hc := World.ownsRow.cellAt h i (by omega)
  rw [List.getElem?_map, List.getElem?_eq_getElem hi] at hc
  rw [Nat.zero_add, hc, List.getElem_map]
  rfl
end Go.Proofs.YtaegjpancbmppaaGreatDoor
namespace Go.Proofs.YtaegjpancbmppaaGreatDoor
def vrX (n on may : Nat) (x : Int × Int) : Int := if rgB n x.1 x.2 = true then if (impB n may x.1.toNat x.2.toNat && (cM n x.1.toNat x.2.toNat &&& on != 0)) = true then 0 else 20 else 7
def vrF (n on may : Nat) : List (Int × Int) → Int
 | [] => 0
 | x :: l => if vrX n on may x = 0 then vrF n on may l else vrX n on may x
def vrH (n : Nat) : List (Int × Int) → Nat
 | [] => 0
 | x :: l => cM n x.1.toNat x.2.toNat ||| vrH n l
def vrE (n on may : Nat) (S : List (Int × Int)) : Int := if vrF n on may S = 0 then if adn on (vrH n S) = 0 then 0 else 20 else vrF n on may S
def cvB (S : List (Int × Int)) (r : Nat) : Bool := S.any fun x => bits .and .i64 (r : Int) x.1 == x.2
end Go.Proofs.YtaegjpancbmppaaGreatDoor
namespace Go.Proofs.YtaegjpancbmppaaGreatDoor
def SumP (q may : Nat) (no : List Nat) (S : List (Nat × Nat)) : Prop := (∀ x ∈ S, x ∈ prS q (rowM no) may) ∧ ∀ r ∈ no, ∃ x ∈ S, hasB x r = true
def cqI (S : List (Nat × Nat)) : List (Int × Int) := S.map fun x => ((x.1 : Int), (x.2 : Int))
end Go.Proofs.YtaegjpancbmppaaGreatDoor
