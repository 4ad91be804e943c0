/- Part 8 of 33 of the proof of the law: contracts of the functions that it reaches, and plain facts. Conditions: those that each contract names. -/
import Derived.Test.YtaegjpancbmppaaGreatDoorSumB03
import Derived.Test.YtaegjpancbmppaaGreatDoorSumB06
import Derived.BigQuiet
import Derived.Test.YtaegjpancbmppaaGreatDoorSumB07
set_option linter.unusedVariables false
set_option linter.unusedSimpArgs false
namespace Go.Proofs.YtaegjpancbmppaaGreatDoor
open Go.RowKit
def rgB (n : Nat) (c v : Int) : Bool := decide (0 ≤ c) && (decide (c < ((2 ^ n : Nat) : Int)) && (bits .andNot .i64 v c == 0 && decide (0 ≤ v)))
set_option maxRecDepth 1000000 in
set_option maxHeartbeats 4000000 in
theorem iright_any (n : Nat) (c v : Int) (w : World) (hn : n ≤ 8) :
  Calls Tryz.prog 55 #[.agg #[.int .i64 c, .int .i64 v], .int .i64 (n : Int)] w fun e w' => e = .returned (.bool (rgB n c v)) ∧ Below w.heap.size w w' := by
 obtain ⟨N, hN⟩ : ∃ N, N = 2 ^ n := ⟨_, rfl⟩
 have hN8 : N ≤ 256 := by rw [hN]; exact pow_le8 hn
 have hsh : wrap64 (2 ^ n) = (N : Int) := by
  have e : ((2 : Int) ^ n) = (N : Int) := by rw [hN, Int.natCast_pow]; rfl
  rw [e]; unfold wrap64; omega
 obtain ⟨R, hR⟩ : ∃ R, R = rgB n c v := ⟨_, rfl⟩
 rw [← hR]
 have HR := Lib.hid (show R = (decide (0 ≤ c) && (decide (c < (N : Int)) && (bits .andNot .i64 v c == 0 && decide (0 ≤ v)))) by rw [hR, hN]; rfl)
 obtain ⟨x, hx⟩ : ∃ x, bits .andNot .i64 v c = x := ⟨_, rfl⟩
 rw [hx] at HR
 have hm0 := (Hp.start w).new 37 [.int .i64 c, .int .i64 v]
 simp only [List.nil_append] at hm0
 have HM0 := Lib.hid hm0
 have c0 : (w.alloc (.cells #[.int .i64 c, .int .i64 v] 37)).drew.cell? ⟨w.heap.size, 0, none⟩ = some (.int .i64 c) := (hm0.at_ 0 rfl).cell 0
 have c1 : (w.alloc (.cells #[.int .i64 c, .int .i64 v] 37)).drew.cell? ⟨w.heap.size, 1, none⟩ = some (.int .i64 v) := (hm0.at_ 0 rfl).cell 1
 have C0 : (w.alloc (.cells #[.int .i64 c, .int .i64 v] 37)).cell? ⟨w.heap.size, 0, none⟩ = some (.int .i64 c) := (hm0.at_ 0 rfl).cell 0
 have C1 : (w.alloc (.cells #[.int .i64 c, .int .i64 v] 37)).cell? ⟨w.heap.size, 1, none⟩ = some (.int .i64 v) := (hm0.at_ 0 rfl).cell 1
 have hn64 : (n : Int) < 64 := by omega
 clear hm0 hN hN8 hR hn
 go_enter Tryz.func55, Tryz.ntmps55
 by_cases h1 : 0 ≤ c
 ·have d1 : decide (0 ≤ c) = true := decide_eq_true h1
  by_cases h2 : c < (N : Int)
  ·have d2 : decide (c < (N : Int)) = true := decide_eq_true h2
   by_cases h3 : x = 0
   ·subst h3
    have HE := Lib.hid (show R = decide (0 ≤ v) by rw [HR.out, d1, d2]; simp)
    go_wp2_with fail
    go_quiet (fail)
    go_wp2_with fail
    exact bodyPost_ret (v := .bool (decide (0 ≤ v))) (by simp [results, Tryz.results55, go_sem]) rfl ⟨by rw [HE.out], (HM0.out.drewN nq).below⟩
   ·have d3 : (x == 0) = false := by simpa using h3
    have HE := Lib.hid (show R = false by rw [HR.out, d1, d2, d3]; rfl)
    go_wp2_with fail
    go_quiet (fail)
    go_wp2_with fail
    exact bodyPost_ret (v := .bool false) (by simp [results, Tryz.results55, go_sem]) rfl ⟨by rw [HE.out], (HM0.out.drewN nq).below⟩
  ·have d2 : decide (c < (N : Int)) = false := decide_eq_false h2
   have HE := Lib.hid (show R = false by rw [HR.out, d1, d2]; rfl)
   go_wp2_with fail
   go_quiet (fail)
   go_wp2_with fail
   exact bodyPost_ret (v := .bool false) (by simp [results, Tryz.results55, go_sem]) rfl ⟨by rw [HE.out], (HM0.out.drewN nq).below⟩
 ·have d1 : decide (0 ≤ c) = false := decide_eq_false h1
  have HE := Lib.hid (show R = false by rw [HR.out, d1]; rfl)
  go_wp2_with fail
  go_quiet (fail)
  go_wp2_with fail
  exact bodyPost_ret (v := .bool false) (by simp [results, Tryz.results55, go_sem]) rfl ⟨by rw [HE.out], (HM0.out.drewN nq).below⟩
end Go.Proofs.YtaegjpancbmppaaGreatDoor
namespace Go.Proofs.YtaegjpancbmppaaGreatDoor
open Go.RowKit
theorem rg_of {n : Nat} {c v : Int} (hv : v ≤ 9223372036854775807) (hn : n ≤ 8) (h : rgB n c v = true) : ∃ a b : Nat, c = (a : Int) ∧ v = (b : Int) ∧ a < 2 ^ n ∧ b ≤ a ∧ adn b a = 0 := by
 unfold rgB at h
 simp only [Bool.and_eq_true, decide_eq_true_eq, beq_iff_eq] at h
 obtain ⟨h1, h2, h3, h4⟩ := h
 have hp := pow_le8 hn
 obtain ⟨a, rfl⟩ : ∃ a : Nat, c = (a : Int) := ⟨c.toNat, by omega⟩
 obtain ⟨b, rfl⟩ : ∃ b : Nat, v = (b : Int) := ⟨v.toNat, by omega⟩
 have ha : a < 2 ^ n := by omega
 rw [adn_i64 (by omega) (by omega)] at h3
 have h0 : adn b a = 0 := Int.natCast_inj.1 h3
 refine ⟨a, b, rfl, rfl, ha, Nat.le_of_testBit fun i hi => ?_, h0⟩
 exact (adn_nil.1 h0) i hi
def rwsE (n c v : Int) : Int := if n < 0 ∨ 8 < n then 3 else if rgB n.toNat c v = true then 0 else 7
end Go.Proofs.YtaegjpancbmppaaGreatDoor
namespace Go.Proofs.YtaegjpancbmppaaGreatDoor
open Go.RowKit
structure TabAt (w : World) (Bd : Nat) (A B : Option Addr) (n m : Nat) (L K : List Int) : Prop where
 on : Rd iz w Bd A L
 free : Rd iz w Bd B K
 n_ : n = L.length
 m_ : m = K.length
 nm : n ≤ 1000 ∧ m ≤ 1000
theorem TabAt.below {w W : World} {A B : Option Addr} {n m : Nat} {L K : List Int} (h : TabAt w w.heap.size A B n m L K) (hb : Below w.heap.size w W) : TabAt W W.heap.size A B n m L K :=
 ⟨(h.on.below hb).more hb.size, (h.free.below hb).more hb.size, h.n_, h.m_, h.nm⟩
abbrev onR (L : List Int) : List Nat := L.map Int.toNat
def mayM (L K : List Int) : Nat := rowM (L.map Int.toNat) ||| rowM (K.map Int.toNat)
theorem icheck_tab {w : World} {A B : Option Addr} {n m c d : Nat} {v : Int} {L K : List Int} (h : TabAt w w.heap.size A B n m L K) (W : World) (hb : Below w.heap.size w W) :
  Calls Tryz.prog 33 #[.agg #[.int .i64 v, .slice A n c, .slice B m d]] W fun e w' => e = .returned (.int .i64 (chkE v L K)) ∧ Below W.heap.size W w' :=
 icheck_any A B c d n m v L K W (h.below hb).on (h.below hb).free h.n_ h.m_ h.nm.1 h.nm.2
def smlE (v : Int) (L K : List Int) : Int := if chkE v L K ≠ 0 then chkE v L K else if 5 < v then 4 else 0
set_option maxRecDepth 1000000 in
set_option maxHeartbeats 4000000 in
theorem ismall_any (A B : Option Addr) (c d n m : Nat) (v : Int) (L K : List Int) (w : World) (h : TabAt w w.heap.size A B n m L K) :
  Calls Tryz.prog 41 #[.agg #[.int .i64 v, .slice A n c, .slice B m d]] w fun e w' => e = .returned (.int .i64 (smlE v L K)) ∧ Below w.heap.size w w' := by
 obtain ⟨E, hE⟩ : ∃ E, E = smlE v L K := ⟨_, rfl⟩
 rw [← hE]
 obtain ⟨x, hx⟩ : ∃ x, x = chkE v L K := ⟨_, rfl⟩
 have hCK := fun W hb => icheck_tab (c := c) (d := d) (v := v) h W hb
 rw [← hx] at hCK
 have HCK := Lib.hid hCK
 have HE := Lib.hid (show E = if x ≠ 0 then x else if 5 < v then 4 else 0 by rw [hE, hx]; rfl)
 have hm0 := (Hp.start w).new 26 [.int .i64 v, .slice A n c, .slice B m d]
 simp only [List.nil_append] at hm0
 have HM0 := Lib.hid hm0
 have c0 : (w.alloc (.cells #[.int .i64 v, .slice A n c, .slice B m d] 26)).cell? ⟨w.heap.size, 0, none⟩ = some (.int .i64 v) := (hm0.at_ 0 rfl).cell 0
 have c1 : (w.alloc (.cells #[.int .i64 v, .slice A n c, .slice B m d] 26)).cell? ⟨w.heap.size, 1, none⟩ = some (.slice A n c) := (hm0.at_ 0 rfl).cell 1
 have c2 : (w.alloc (.cells #[.int .i64 v, .slice A n c, .slice B m d] 26)).cell? ⟨w.heap.size, 2, none⟩ = some (.slice B m d) := (hm0.at_ 0 rfl).cell 2
 clear hm0 hE hx hCK h
 go_enter Tryz.func41, Tryz.ntmps41
 go_wp2_with fail
 refine (HCK.out _ HM0.out.below).mono ?_
 rintro e w1 ⟨rfl, hb1⟩
 have HM1 := Lib.hid (HM0.out.step hb1)
 clear hb1 HM0 c0 c1 c2
 by_cases h0 : x = 0
 ·subst h0
  have c0 : w1.cell? ⟨w.heap.size, 0, none⟩ = some (.int .i64 v) := (HM1.out.at_ 0 rfl).cell 0
  by_cases h5 : 5 < v
  ·have HEE := Lib.hid (show E = 4 by rw [HE.out, if_neg (by simp), if_pos h5])
   go_wp2_with fail
   exact bodyPost_ret (v := .int .i64 4) (by simp [results, Tryz.results41, go_sem]) rfl ⟨by rw [HEE.out], HM1.out.below⟩
  ·have HEE := Lib.hid (show E = 0 by rw [HE.out, if_neg (by simp), if_neg h5])
   go_wp2_with fail
   exact bodyPost_ret (v := .int .i64 0) (by simp [results, Tryz.results41, go_sem]) rfl ⟨by rw [HEE.out], HM1.out.below⟩
 ·have HEE := Lib.hid (show E = x by rw [HE.out, if_pos h0])
  have hz : (x != 0) = true := by simpa using h0
  clear h0
  go_wp2_with fail
  exact bodyPost_ret (v := .int .i64 x) (by simp [results, Tryz.results41, go_sem]) rfl ⟨by rw [HEE.out], HM1.out.below⟩
end Go.Proofs.YtaegjpancbmppaaGreatDoor
namespace Go.Proofs.YtaegjpancbmppaaGreatDoor
theorem rgB_nat {n : Nat} {c v : Int} (hn : n ≤ 8) (hv : v ≤ 9223372036854775807) (h : rgB n c v = true) : ∃ a b : Nat, c = (a : Int) ∧ v = (b : Int) ∧ a < 2 ^ n ∧ b < 2 ^ n ∧ adn b a = 0 := by
 unfold rgB at h
 rw [Bool.and_eq_true, Bool.and_eq_true, Bool.and_eq_true, decide_eq_true_eq, decide_eq_true_eq, decide_eq_true_eq, beq_iff_eq] at h
 obtain ⟨h1, h2, h3, h4⟩ := h
 have hp := pow_le8 hn
 obtain ⟨a, rfl⟩ : ∃ a : Nat, c = (a : Int) := ⟨c.toNat, by omega⟩
 obtain ⟨b, rfl⟩ : ∃ b : Nat, v = (b : Int) := ⟨v.toNat, by omega⟩
 rw [adn_i64 (by omega) (by omega)] at h3
 have h5 : adn b a = 0 := by omega
 have hba : b ≤ a := Nat.le_of_testBit fun i hi => (adn_nil.1 h5) i hi
 exact ⟨a, b, rfl, rfl, by omega, by omega, h5⟩
def vrX (n on may : Nat) (x : Int × Int) : Int := if rgB n x.1 x.2 = true then if (impB n may x.1.toNat x.2.toNat && (cM n x.1.toNat x.2.toNat &&& on != 0)) = true then 0 else 20 else 7
def vrF (n on may : Nat) : List (Int × Int) → Int
 | [] => 0
 | x :: l => if vrX n on may x = 0 then vrF n on may l else vrX n on may x
def vrH (n : Nat) : List (Int × Int) → Nat
 | [] => 0
 | x :: l => cM n x.1.toNat x.2.toNat ||| vrH n l
def vrE (n on may : Nat) (S : List (Int × Int)) : Int := if vrF n on may S = 0 then if adn on (vrH n S) = 0 then 0 else 20 else vrF n on may S
def cvB (S : List (Int × Int)) (r : Nat) : Bool := S.any fun x => bits .and .i64 (r : Int) x.1 == x.2
theorem vrH_bit {n : Nat} (hn : n ≤ 8) {r : Nat} (hr : r < 2 ^ n) : ∀ {S : List (Int × Int)}, (∀ x ∈ S, rgB n x.1 x.2 = true ∧ x.2 ≤ 9223372036854775807) → (vrH n S).testBit r = cvB S r
 | [], _ => by simp [vrH, cvB]
 | x :: l, h => by
  have ih := vrH_bit hn hr (S := l) fun y hy => h y (List.mem_cons_of_mem _ hy)
  obtain ⟨h1, h2⟩ := h x (List.mem_cons_self ..)
  obtain ⟨a, b, e1, e2, ha, hb, -⟩ := rgB_nat hn h2 h1
  have hp := pow_le8 hn
  have hx : (cM n x.1.toNat x.2.toNat).testBit r = (bits .and .i64 (r : Int) x.1 == x.2) := by
   rw [e1, e2, and_i64 (by omega) (by omega), Bool.eq_iff_iff, beq_iff_eq, cM_bit]
   simp only [Int.toNat_natCast]
   constructor
   ·rintro ⟨_, h⟩; rw [h]
   ·intro h; exact ⟨hr, by omega⟩
  unfold cvB at ih ⊢
  rw [vrH, Nat.testBit_or, ih, hx, List.any_cons]
theorem vrH_all {n : Nat} (hn : n ≤ 8) {rows : List Nat} (ho : ∀ r ∈ rows, r < 2 ^ n) {S : List (Int × Int)} (h : ∀ x ∈ S, rgB n x.1 x.2 = true ∧ x.2 ≤ 9223372036854775807) :
  adn (rowM rows) (vrH n S) = 0 ↔ ∀ r ∈ rows, cvB S r = true := by
 rw [adn_nil]
 constructor
 ·intro hk r hr
  rw [← vrH_bit hn (ho r hr) h]
  exact hk r (by rw [rowM_bit]; exact decide_eq_true hr)
 ·intro hk r hr
  rw [rowM_bit, decide_eq_true_eq] at hr
  rw [vrH_bit hn (ho r hr) h]
  exact hk r hr
theorem vrF_snoc (n on may : Nat) (x : Int × Int) : ∀ S, vrF n on may (S ++ [x]) = if vrF n on may S = 0 then vrX n on may x else vrF n on may S
 | [] => by
  show (if vrX n on may x = 0 then (0 : Int) else vrX n on may x) = _
  split
  ·rename_i h; rw [h]; rfl
  ·rfl
 | y :: l => by
  rw [List.cons_append, vrF, vrF_snoc n on may x l, vrF]
  by_cases h : vrX n on may y = 0
  ·rw [if_pos h, if_pos h]
  ·rw [if_neg h, if_neg h, if_neg h]
theorem vrF_append (n on may : Nat) (l2 : List (Int × Int)) : ∀ l1, vrF n on may (l1 ++ l2) = if vrF n on may l1 = 0 then vrF n on may l2 else vrF n on may l1
 | [] => by
  show vrF n on may l2 = if (0 : Int) = 0 then vrF n on may l2 else 0
  rw [if_pos rfl]
 | y :: l => by
  rw [List.cons_append, vrF, vrF_append n on may l2 l, vrF]
  by_cases h : vrX n on may y = 0
  ·rw [if_pos h, if_pos h]
  ·rw [if_neg h, if_neg h, if_neg h]
theorem vrH_snoc (n : Nat) (x : Int × Int) : ∀ S, vrH n (S ++ [x]) = vrH n S ||| cM n x.1.toNat x.2.toNat
 | [] => by
  show cM n x.1.toNat x.2.toNat ||| 0 = 0 ||| cM n x.1.toNat x.2.toNat
  rw [Nat.or_zero, Nat.zero_or]
 | y :: l => by rw [List.cons_append, vrH, vrH_snoc n x l, vrH, Nat.or_assoc]
theorem vrF_at {n on may : Nat} {S : List (Int × Int)} {k : Nat} (hk : k < S.length) (h : vrF n on may (S.take k) = 0) (hx : vrX n on may S[k] ≠ 0) : vrF n on may S = vrX n on may S[k] := by
 have e : S = S.take k ++ (S[k] :: S.drop (k + 1)) := by rw [← List.drop_eq_getElem_cons hk, List.take_append_drop]
 have h1 := vrF_append n on may (S[k] :: S.drop (k + 1)) (S.take k)
 rw [← e, if_pos h, vrF, if_neg hx] at h1
 exact h1
theorem vrF_next {n on may : Nat} {S : List (Int × Int)} {k : Nat} (hk : k < S.length) (h : vrF n on may (S.take k) = 0) (hx : vrX n on may S[k] = 0) : vrF n on may (S.take (k + 1)) = 0 := by
 rw [List.take_succ_eq_append_getElem hk, vrF_snoc, if_pos h]
 exact hx
end Go.Proofs.YtaegjpancbmppaaGreatDoor
namespace Go.Proofs.YtaegjpancbmppaaGreatDoor
def SumP (q may : Nat) (no : List Nat) (S : List (Nat × Nat)) : Prop := (∀ x ∈ S, x ∈ prS q (rowM no) may) ∧ ∀ r ∈ no, ∃ x ∈ S, hasB x r = true
theorem sum_primes {q may : Nat} {no : List Nat} (hq : q ≤ 8) (ho : ∀ r ∈ no, r < 2 ^ q) (hm : ∀ r ∈ no, may.testBit r = true) : SumP q may no (prS q (rowM no) may) :=
 ⟨fun _ h => h, fun r hr => by
  obtain ⟨y, hy, e⟩ := row_prime hq ho hm hr
  exact ⟨y, hy, by unfold hasB; rw [beq_iff_eq]; exact e⟩⟩
theorem sum_least {q may : Nat} {no : List Nat} (hq : q ≤ 8) (ho : ∀ r ∈ no, r < 2 ^ q) (hm : ∀ r ∈ no, may.testBit r = true) : SumP q may no (lsL q may no) ∧ (lsL q may no).length ≤ (prS q (rowM no) may).length := by
 obtain ⟨P, hP⟩ : ∃ P, P = prS q (rowM no) may := ⟨_, rfl⟩
 have hc : ∀ x ∈ no, ∃ j, j < (lsP q P).length ∧ ((lsP q P).getD j (0, 0)).1.testBit x = true := fun x hx => by
  obtain ⟨y, hy, he⟩ := row_prime hq ho hm hx
  rw [← hP] at hy
  obtain ⟨j, hj, rfl⟩ := List.getElem_of_mem hy
  have e : P.getD j (0, 0) = P[j] := by rw [List.getD_eq_getElem?_getD, List.getElem?_eq_getElem hj]; rfl
  refine ⟨j, by unfold lsP; rw [List.length_map]; exact hj, ?_⟩
  rw [lsP_getD hj, e]
  exact (cM_bit _ _ _ _).2 ⟨ho x hx, he⟩
 obtain ⟨S0, s1, s2, s3, -⟩ := cov_few (lsP q P) no hc
 obtain ⟨b, b1, b2, -⟩ := lsSeek_all (lsP q P) no ⟨(S0, lsLit (lsP q P) S0), s1, s2, fun _ h => (by cases h), s3, rfl⟩
 have hlen : (lsP q P).length = P.length := by unfold lsP; rw [List.length_map]
 have hmem : ∀ j, j < P.length → P.getD j (0, 0) ∈ P := fun j hj => by rw [List.getD_eq_getElem?_getD, List.getElem?_eq_getElem hj]; exact List.getElem_mem _
 have e : lsL q may no = b.1.map fun j => P.getD j (0, 0) := by
  unfold lsL
  simp only
  rw [← hP, b1]
 rw [e]
 have hle := (sub_sublist (List.range P.length) b.1 b2.1 List.pairwise_lt_range (fun x hx => List.mem_range.2 (by rw [← hlen]; exact b2.2.1 x hx))).length_le
 rw [List.length_range] at hle
 refine ⟨⟨fun x hx => ?_, fun r hr => ?_⟩, by rw [List.length_map, ← hP]; exact hle⟩
 ·obtain ⟨j, hj, rfl⟩ := List.mem_map.1 hx
  rw [← hP]
  exact hmem j (by rw [← hlen]; exact b2.2.1 j hj)
 ·obtain ⟨j, hj, hb⟩ := b2.2.2.2.1 r hr
  have hjl : j < P.length := by rw [← hlen]; exact b2.2.1 j hj
  rw [lsP_getD hjl] at hb
  refine ⟨_, List.mem_map.2 ⟨j, hj, rfl⟩, ?_⟩
  unfold hasB
  rw [beq_iff_eq]
  exact ((cM_bit _ _ _ _).1 hb).2
theorem count_same {α : Type} (f : α → Bool) {l : List α} (h : l.countP f = 1) {x y : α} (hx : x ∈ l) (hy : y ∈ l) (fx : f x = true) (fy : f y = true) : x = y := by
 rw [List.countP_eq_length_filter] at h
 obtain ⟨z, hz⟩ := List.length_eq_one_iff.1 h
 have h1 : x ∈ l.filter f := List.mem_filter.2 ⟨hx, fx⟩
 have h2 : y ∈ l.filter f := List.mem_filter.2 ⟨hy, fy⟩
 rw [hz, List.mem_singleton] at h1 h2
 rw [h1, h2]
theorem sum_ess {q may : Nat} {no : List Nat} {S : List (Nat × Nat)} (h : SumP q may no S) : ∀ x ∈ essL (prS q (rowM no) may) no, x ∈ S := fun x hx => by
 obtain ⟨hP, ha⟩ := List.mem_filter.1 hx
 obtain ⟨r, hr, hb⟩ := List.any_eq_true.1 ha
 rw [Bool.and_eq_true, beq_iff_eq] at hb
 obtain ⟨y, hy, hyr⟩ := h.2 r hr
 rw [count_same _ hb.1 hP (h.1 y hy) hb.2 hyr]
 exact hy
theorem cover_len {α β : Type} (f : β → α → Bool) : ∀ (S : List β) (A : List α), (∀ x ∈ S, A.countP (f x) ≤ 1) → (∀ r ∈ A, ∃ x ∈ S, f x r = true) → A.length ≤ S.length
 | [], A, _, h => by
  match A with
  | [] => exact Nat.le_refl _
  | r :: _ => obtain ⟨x, hx, -⟩ := h r (List.mem_cons_self ..); cases hx
 | x :: S, A, h1, h2 => by
  have ih := cover_len f S (A.filter fun r => !f x r) (fun y hy => Nat.le_trans ((List.filter_sublist (l := A)).countP_le) (h1 y (List.mem_cons_of_mem _ hy))) fun r hr => by
   obtain ⟨ha, hb⟩ := List.mem_filter.1 hr
   obtain ⟨y, hy, hyr⟩ := h2 r ha
   rcases List.mem_cons.1 hy with rfl | hy
   ·rw [hyr] at hb; cases hb
   ·exact ⟨y, hy, hyr⟩
  have hx := h1 x (List.mem_cons_self ..)
  have hl : A.length = A.countP (f x) + (A.filter fun r => !f x r).length := by
   rw [List.length_eq_countP_add_countP (p := f x), ← List.countP_eq_length_filter]
   congr 1
   exact List.countP_congr fun r _ => by simp
  rw [List.length_cons]
  omega
theorem sum_apart {q may : Nat} {no : List Nat} {S : List (Nat × Nat)} (hq : q ≤ 8) (hs : no.Pairwise (· < ·)) (ho : ∀ r ∈ no, r < 2 ^ q) (h : SumP q may no S) : (apL q may no).length ≤ S.length := by
 rw [← apL_eq hq no hs ho]
 obtain ⟨a, -, e, hg, -⟩ := apW_spec (apartB (prS q (rowM no) may)) no (by unfold apartB; simp) (2 ^ no.length) (Nat.le_refl _)
 rw [e]
 refine cover_len hasB S _ (fun x hx => ?_) fun r hr => h.2 r ((rowsM_sub no a).subset hr)
 unfold apartB at hg
 exact of_decide_eq_true (List.all_eq_true.1 hg x (h.1 x hx))
set_option maxRecDepth 100000 in
theorem prime_few {q on may : Nat} (hq : q ≤ 4) : (prS q on may).length ≤ 256 := by
 have hnd : (prS q on may).Nodup := (prS_sorted _ _ _).imp fun h e => by subst e; exact cLt_irr _ h
 have key : ∀ (L M : List (Nat × Nat)), L.Nodup → (∀ x ∈ L, x ∈ M) → L.length ≤ M.length := by
  intro L
  induction L with
  | nil => intro M _ _; exact Nat.zero_le _
  | cons x L ih =>
   intro M hn hs
   obtain ⟨h1, h2⟩ := List.nodup_cons.1 hn
   have h3 := ih (M.erase x) h2 fun y hy => (List.mem_erase_of_ne (fun e => by subst e; exact h1 hy)).2 (hs y (List.mem_cons_of_mem _ hy))
   have hx := hs x (List.mem_cons_self ..)
   rw [List.length_erase_of_mem hx] at h3
   have := List.length_pos_of_mem hx
   rw [List.length_cons]; omega
 have h1 := key _ ((List.range (2 ^ q)).flatMap fun c => (List.range (2 ^ q)).map fun v => (c, v)) hnd fun x hx => by
  obtain ⟨h1, h2⟩ := prF_mem.1 ((prS_mem (show q ≤ 8 by omega)).1 hx)
  have h3 := (prV_mem.1 h2).1
  exact List.mem_flatMap.2 ⟨x.1, List.mem_range.2 h1, List.mem_map.2 ⟨x.2, List.mem_range.2 (by omega), rfl⟩⟩
 refine Nat.le_trans h1 ?_
 rcases (show q = 0 ∨ q = 1 ∨ q = 2 ∨ q = 3 ∨ q = 4 by omega) with rfl | rfl | rfl | rfl | rfl <;> decide +kernel
def cqI (S : List (Nat × Nat)) : List (Int × Int) := S.map fun x => ((x.1 : Int), (x.2 : Int))
theorem prime_right {q on may : Nat} (hq : q ≤ 8) {x : Nat × Nat} (hx : x ∈ prS q on may) : rgB q (x.1 : Int) (x.2 : Int) = true ∧ x.1 < 256 ∧ x.2 < 256 ∧ adn x.2 x.1 = 0 := by
 have hp := pow_le8 hq
 obtain ⟨h1, h2⟩ := prF_mem.1 ((prS_mem hq).1 hx)
 obtain ⟨h3, h4, -⟩ := prV_mem.1 h2
 have hc : x.1 < 256 := by omega
 have hv : x.2 < 256 := by omega
 refine ⟨?_, hc, hv, h4⟩
 unfold rgB
 rw [adn_i64 (by omega) (by omega), h4, decide_eq_true (show (0 : Int) ≤ (x.1 : Int) by omega), decide_eq_true (show (x.1 : Int) < ((2 ^ q : Nat) : Int) by omega), decide_eq_true (show (0 : Int) ≤ (x.2 : Int) by omega)]
 rfl
theorem sum_ok {q may : Nat} {no : List Nat} {S : List (Nat × Nat)} (hq : q ≤ 8) (ho : ∀ r ∈ no, r < 2 ^ q) (h : SumP q may no S) : vrE q (rowM no) may (cqI S) = 0 := by
 have hF : ∀ T : List (Nat × Nat), (∀ x ∈ T, x ∈ prS q (rowM no) may) → vrF q (rowM no) may (cqI T) = 0 := by
  intro T
  induction T with
  | nil => intro _; rfl
  | cons x T ih =>
   intro hT
   have hx := hT x (List.mem_cons_self ..)
   have e : vrX q (rowM no) may ((x.1 : Int), (x.2 : Int)) = 0 := by
    obtain ⟨-, -, hp1, hp2, -⟩ := prV_mem.1 (prF_mem.1 ((prS_mem hq).1 hx)).2
    unfold vrX
    rw [if_pos (prime_right hq hx).1]
    exact if_pos (Bool.and_eq_true_iff.2 ⟨hp1, by simpa using hp2⟩)
   show vrF q (rowM no) may (((x.1 : Int), (x.2 : Int)) :: cqI T) = 0
   rw [vrF, if_pos e]
   exact ih fun y hy => hT y (List.mem_cons_of_mem _ hy)
 have h64 : ∀ x ∈ cqI S, rgB q x.1 x.2 = true ∧ x.2 ≤ 9223372036854775807 := fun x hx => by
  obtain ⟨y, hy, rfl⟩ := List.mem_map.1 hx
  obtain ⟨h1, -, h3, -⟩ := prime_right hq (h.1 y hy)
  exact ⟨h1, by show ((y.2 : Nat) : Int) ≤ _; omega⟩
 unfold vrE
 rw [if_pos (hF S h.1), if_pos ((vrH_all hq ho h64).2 fun r hr => ?_)]
 obtain ⟨x, hx, hb⟩ := h.2 r hr
 obtain ⟨-, h2, h3, -⟩ := prime_right hq (h.1 x hx)
 unfold hasB at hb
 rw [beq_iff_eq] at hb
 have hr2 := ho r hr
 have hp := pow_le8 hq
 unfold cvB
 rw [List.any_eq_true]
 refine ⟨_, List.mem_map.2 ⟨x, hx, rfl⟩, ?_⟩
 rw [beq_iff_eq, and_i64 (by omega) (by omega), hb]
end Go.Proofs.YtaegjpancbmppaaGreatDoor
namespace Go.Proofs.YtaegjpancbmppaaGreatDoor
open Go.RowKit
set_option maxRecDepth 1000000 in
set_option maxHeartbeats 4000000 in
theorem lin_any (A : Option Addr) (c n : Nat) (z : Int) (L : List Int) (w : World) (h : Rd iz w w.heap.size A L) (hn : n = L.length) (hm : n ≤ 1000) :
  Calls Tryz.prog 39 #[.slice A n c, .int .i64 z] w fun e w' => e = .returned (.bool (decide (z ∈ L))) ∧ w = w' := by
 have HR := Lib.hid h
 have HN := Lib.hid (And.intro hn hm)
 clear h hn hm
 go_enter Tryz.func39, Tryz.ntmps39
 go_wp2_with fail
 go_loopw [5] (fun x wr => ∃ k : Nat, k ≤ n ∧ x = .int .i64 (k : Int) ∧ z ∉ L.take k ∧ wr = w) (fun x _ => n - (intOf x).toNat)
 case atStart => exact ⟨0, Nat.zero_le _, rfl, by simp, rfl⟩
 case round =>
  obtain ⟨k, hk, rfl, hz, rfl⟩ := hrel
  have HZ := Lib.hid hz
  clear hz
  by_cases hlt : k < n
  ·have hkl : k < L.length := by rw [← HN.out.1]; exact hlt
   obtain ⟨b, off, hA, hb, hc⟩ := HR.out (by omega)
   subst hA
   obtain ⟨x, hx⟩ : ∃ x, x = L[k] := ⟨_, rfl⟩
   have hc0 : wr.cell? ⟨b, off + k, none⟩ = some (.int .i64 x) := by rw [hx]; exact hc k hkl
   have hlk : (k : Int) < (n : Int) := by omega
   obtain ⟨k2, hk2⟩ : ∃ z : Int, z = (k : Int) + 1 := ⟨_, rfl⟩
   have hwk : IntKind.i64.wrap ((k : Int) + 1) = k2 := by rw [hk2]; exact IntWalk.i64_in _ (by have := HN.out.2; omega)
   have HK2 := Lib.hid hk2
   have HLT := Lib.hid hlt
   have HT := Lib.hid (show L.take (k + 1) = L.take k ++ [x] by rw [hx, List.take_succ_eq_append_getElem hkl])
   have HM := Lib.hid (show x ∈ L by rw [hx]; exact List.getElem_mem hkl)
   clear hk2 hx hc hb hk hkl hlt
   by_cases hxz : x = z
   ·subst hxz
    have HD := Lib.hid (show decide (x ∈ L) = true from decide_eq_true HM.out)
    go_wp2_with fail
    go_ret
    exact ⟨by rw [HD.out]; rfl, rfl⟩
   ·go_wp2_with fail
    go_roundw
    case rel => exact ⟨k + 1, HLT.out, by rw [HK2.out]; rfl, by rw [HT.out, List.mem_append, List.mem_singleton]; exact fun h => h.elim HZ.out (fun h => hxz h.symm), trivial⟩
    case measure => have := HLT.out; have := HK2.out; simp only [intOf]; omega
  ·obtain rfl : k = n := by omega
   have HD := Lib.hid (show decide (z ∈ L) = false from decide_eq_false (by have := HZ.out; rwa [HN.out.1, List.take_length] at this))
   have hkn : ¬ (k : Int) < (k : Int) := by omega
   clear hk hlt
   go_wp2_with fail
   go_ret
   exact ⟨by rw [HD.out]; rfl, rfl⟩
end Go.Proofs.YtaegjpancbmppaaGreatDoor
namespace Go.Proofs.YtaegjpancbmppaaGreatDoor
open Go.RowKit
theorem own_keep {w w' : World} {base : Nat} {e : TypeId} {size n : Nat} {v : Value} {xs : List Value} (h : w.ownsRow base e size v n xs) (hk : ∀ g, v.ownBlock = some g → w'.heap[g]? = w.heap[g]?) : w'.ownsRow base e size v n xs := by
 refine ⟨h.1, ?_⟩
 rcases h.2 with h0 | ⟨g, cap, cur, rfl, hbs, hg, hr⟩
 ·exact .inl h0
 ·exact .inr ⟨g, cap, cur, rfl, hbs, (hk g rfl).trans hg, hr⟩
structure TwoR (w W : World) (q : Nat) (A B : Option Addr) (n c m d : Nat) (X Y : List Value) : Prop where
 hp : Hp w [(w.heap.size, 26, [.int .i64 0, .slice none 0 0, .slice none 0 0]), (w.heap.size + 1, 26, [.int .i64 (q : Int), .slice A n c, .slice B m d])] W
 a : W.ownsRow (w.heap.size + 2) 3 1 (.slice A n c) n X
 b : W.ownsRow (w.heap.size + 2) 3 1 (.slice B m d) m Y
 apart : ∀ g, (Value.slice A n c).ownBlock = some g → (Value.slice B m d).ownBlock ≠ some g
theorem hp_grown {w W Wb w4 : World} {Ls : List (Nat × TypeId × List Value)} {base n size : Nat} {e : TypeId} {v : Value} {xs : List Value} (hp : Hp w Ls W) (hL : ∀ p ∈ Ls, p.1 < base) (hw : w.heap.size ≤ base) (hb : Below W.heap.size W Wb) (ho : W.ownsRow base e size v n xs) (hg : Wb.grownBy w4 v.ownBlock) : Hp w Ls w4 :=
 (hp.step hb).grwI hg fun q hq => ⟨Nat.le_trans hw (ho.lt q hq).1, fun p hp' e => by
  have h1 := (ho.lt q hq).1
  have h2 := hL p hp'
  omega⟩
theorem TwoR.stepA {w W Wb w4 : World} {q : Nat} {A B : Option Addr} {n c m d g4 c4 : Nat} {X Y X' : List Value} (h : TwoR w W q A B n c m d X Y) (hb : Below W.heap.size W Wb)
  (ho : w4.ownsRow (w.heap.size + 2) 3 1 (.slice (some ⟨g4, 0, none⟩) (n + 1) c4) (n + 1) X') (hg : Wb.grownBy w4 (Value.slice A n c).ownBlock) (hor : (Value.slice A n c).ownBlock = some g4 ∨ g4 = Wb.heap.size) :
  TwoR w (w4.setCell ⟨w.heap.size + 1, 1, none⟩ (.slice (some ⟨g4, 0, none⟩) (n + 1) c4)) q (some ⟨g4, 0, none⟩) B (n + 1) c4 m d X' Y := by
 have h1 := (hp_grown h.hp (by simp) (by omega) hb h.a hg).put 1 rfl 1 (.slice (some ⟨g4, 0, none⟩) (n + 1) c4)
 have hge := (ho.lt g4 rfl).1
 refine ⟨h1, own_keep ho (fun g e => Below.heap_setCell w4 ⟨w.heap.size + 1, 1, none⟩ _ g (by have := (ho.lt g e).1; show g ≠ w.heap.size + 1; omega)), own_keep h.b (fun g e => ?_), fun g e hB => ?_⟩
 ·have hl := h.b.lt g e
  refine (Below.heap_setCell w4 ⟨w.heap.size + 1, 1, none⟩ _ g (by show g ≠ w.heap.size + 1; omega)).trans ?_
  exact (hg.block g (Nat.lt_of_lt_of_le hl.2 hb.size) (fun e' => h.apart g e'.symm e)).trans (hb.block g hl.2)
 ·obtain rfl : g = g4 := by simpa [Value.ownBlock] using e.symm
  rcases hor with h2 | h2
  ·exact h.apart g h2 hB
  ·have := (h.b.lt g hB).2
   have := hb.size
   omega
theorem TwoR.stepB {w W Wb w4 : World} {q : Nat} {A B : Option Addr} {n c m d g4 d4 : Nat} {X Y Y' : List Value} (h : TwoR w W q A B n c m d X Y) (hb : Below W.heap.size W Wb)
  (ho : w4.ownsRow (w.heap.size + 2) 3 1 (.slice (some ⟨g4, 0, none⟩) (m + 1) d4) (m + 1) Y') (hg : Wb.grownBy w4 (Value.slice B m d).ownBlock) (hor : (Value.slice B m d).ownBlock = some g4 ∨ g4 = Wb.heap.size) :
  TwoR w (w4.setCell ⟨w.heap.size + 1, 2, none⟩ (.slice (some ⟨g4, 0, none⟩) (m + 1) d4)) q A (some ⟨g4, 0, none⟩) n c (m + 1) d4 X Y' := by
 have h1 := (hp_grown h.hp (by simp) (by omega) hb h.b hg).put 1 rfl 2 (.slice (some ⟨g4, 0, none⟩) (m + 1) d4)
 have hge := (ho.lt g4 rfl).1
 refine ⟨h1, own_keep h.a (fun g e => ?_), own_keep ho (fun g e => Below.heap_setCell w4 ⟨w.heap.size + 1, 2, none⟩ _ g (by have := (ho.lt g e).1; show g ≠ w.heap.size + 1; omega)), fun g e hB => ?_⟩
 ·have hl := h.a.lt g e
  refine (Below.heap_setCell w4 ⟨w.heap.size + 1, 2, none⟩ _ g (by show g ≠ w.heap.size + 1; omega)).trans ?_
  exact (hg.block g (Nat.lt_of_lt_of_le hl.2 hb.size) (fun e' => h.apart g e e'.symm)).trans (hb.block g hl.2)
 ·obtain rfl : g = g4 := by simpa [Value.ownBlock] using hB.symm
  rcases hor with h2 | h2
  ·exact h.apart g e h2
  ·have := (h.a.lt g e).2
   have := hb.size
   omega
abbrev zR (l : List Nat) : List Int := l.map Int.ofNat
theorem zR_on (l : List Nat) : onR (zR l) = l := by
 unfold onR zR
 rw [List.map_map]
 exact List.map_id'' (fun _ => rfl) l
def MkPost (a on fr : Nat) (w : World) (e : Ending) (w' : World) : Prop :=
 ∃ (A B : Option Addr) (c d : Nat), e = .returned (.agg #[.int .i64 ((a % 5 : Nat) : Int), .slice A (mkOn on (2 ^ (a % 5))).length c, .slice B (mkFr on fr (2 ^ (a % 5))).length d]) ∧ (mkOn on (2 ^ (a % 5))).length ≤ c ∧ c ≤ 9223372036854775807 ∧ (∀ p, A = some p → w.heap.size ≤ p.block) ∧ (∀ p, B = some p → w.heap.size ≤ p.block) ∧
  TabAt w' w'.heap.size A B (mkOn on (2 ^ (a % 5))).length (mkFr on fr (2 ^ (a % 5))).length (zR (mkOn on (2 ^ (a % 5)))) (zR (mkFr on fr (2 ^ (a % 5)))) ∧ Below w.heap.size w w'
theorem own_mx {w : World} {base : Nat} {e : TypeId} {size n c m : Nat} {A : Option Addr} {xs : List Value} (h : w.ownsRow base e size (.slice A n c) m xs) : c ≤ 9223372036854775807 := by
 rcases h.2 with ⟨hv, h0⟩ | ⟨g, cap, cur, hv, _, _, hnc, hm, _⟩
 ·cases hv; omega
 ·cases hv; exact hm
theorem own_ge {w : World} {base : Nat} {e : TypeId} {size n c m : Nat} {A : Option Addr} {xs : List Value} (h : w.ownsRow base e size (.slice A n c) m xs) : ∀ p, A = some p → base ≤ p.block := by
 intro p hp
 rcases h.2 with ⟨hv, h0⟩ | ⟨g, cap, cur, hv, hb, _, hnc, hm, _⟩
 ·cases hv; cases hp
 ·cases hv; cases hp; exact hb
theorem own_rd {W : World} {base n c : Nat} {A : Option Addr} {l : List Nat} (h : W.ownsRow base 3 1 (.slice A n c) n (l.map nv)) (hn : n = l.length) : Rd iz W W.heap.size A (zR l) := fun hl => by
 rw [List.length_map] at hl
 rcases h.2 with ⟨h0, h1⟩ | ⟨g, cap, cur, hv, hbs, hg, hr⟩
 ·cases h0
  omega
 ·cases hv
  refine ⟨g, 0, rfl, (h.lt g rfl).2, fun i hi => ?_⟩
  rw [List.length_map] at hi
  have hc := World.ownsRow.cellAt h i (by omega)
  rw [List.getElem?_map, List.getElem?_eq_getElem hi] at hc
  rw [Nat.zero_add, hc, List.getElem_map]
  rfl
theorem bit_u16 {a x : Nat} (ha : a < 65536) : bits .and .u16 ((a : Int) / 2 ^ x) 1 = if a.testBit x then 1 else 0 := by
 have e : (a : Int) / 2 ^ x = ((a / 2 ^ x : Nat) : Int) := by
  rw [Int.natCast_ediv, Int.natCast_pow]; rfl
 have hl : a / 2 ^ x < 65536 := Nat.lt_of_le_of_lt (Nat.div_le_self _ _) ha
 have hbv : ∀ m : Nat, m < 65536 → (BitVec.ofInt 16 (m : Int)).toNat = m := fun m hm => by
  rw [BitVec.ofInt_natCast, BitVec.toNat_ofNat]; exact Nat.mod_eq_of_lt hm
 have h : bits .and .u16 ((a / 2 ^ x : Nat) : Int) ((1 : Nat) : Int) = IntKind.u16.wrap (((BitVec.ofInt 16 ((a / 2 ^ x : Nat) : Int) &&& BitVec.ofInt 16 ((1 : Nat) : Int)).toNat : Nat) : Int) := rfl
 rw [e, show (1 : Int) = ((1 : Nat) : Int) from rfl, h, BitVec.toNat_and, hbv _ hl, hbv 1 (by decide), Nat.and_one_is_mod, Nat.testBit_eq_decide_div_mod_eq]
 rcases Nat.mod_two_eq_zero_or_one (a / 2 ^ x) with h | h <;> rw [h] <;> rfl
set_option maxRecDepth 1000000 in
set_option maxHeartbeats 8000000 in
theorem lMake_any (a on fr : Nat) (w : World) (ha : a < 256) (h1 : on < 65536) (h2 : fr < 65536) :
  Calls Tryz.prog 13 #[.int .u8 (a : Int), .int .u16 (on : Int), .int .u16 (fr : Int)] w (MkPost a on fr w) := by
 obtain ⟨i0, hi0, hz0, hz1, hz2⟩ := info_parts infoIntI
 have HI0 := Lib.hid hi0
 have HZ0 := Lib.hid hz0
 have HZ1 := Lib.hid hz1
 have HZ2 := Lib.hid hz2
 obtain ⟨q, hq⟩ : ∃ q, q = a % 5 := ⟨_, rfl⟩
 have hqz : (a : Int) % 5 = (q : Int) := by omega
 have hq5 : q < 5 := by omega
 have HQ := Lib.hid hq
 have hm0 := ((Hp.start w).new 26 [.int .i64 0, .slice none 0 0, .slice none 0 0]).new 26 [.int .i64 (q : Int), .slice none 0 0, .slice none 0 0]
 simp only [List.nil_append, List.cons_append, World.size_alloc] at hm0
 have HM0 := Lib.hid hm0
 obtain ⟨N, hN⟩ : ∃ N, N = 2 ^ q := ⟨_, rfl⟩
 have hN8 : N ≤ 16 := by rw [hN]; exact Nat.pow_le_pow_right (n := 2) (by decide) (show q ≤ 4 by omega)
 have hsh : wrap64 (2 ^ q) = (N : Int) := by
  have e : ((2 : Int) ^ q) = (N : Int) := by rw [hN, Int.natCast_pow]; rfl
  rw [e]; unfold wrap64; omega
 have HSH := Lib.hid hsh
 have HNN := Lib.hid hN
 have hwn : IntKind.u64.wrap (q : Int) = (q : Int) := IntWalk.u64_in _ ⟨by omega, by omega⟩
 have hn64 : (q : Int) < 64 := by omega
 have HB := Lib.hid (And.intro h1 h2)
 clear hi0 hz0 hz1 hz2 hq hm0 hN hsh h1 h2 ha
 go_enter Tryz.func13, Tryz.ntmps13
 go_wp2_with fail
 clear hqz
 go_loopw [8] (fun x wr => ∃ (k : Nat) (A B : Option Addr) (c d : Nat), k ≤ N ∧ x = .int .i64 (k : Int) ∧ TwoR w wr q A B (mkOn on k).length c (mkFr on fr k).length d ((mkOn on k).map nv) ((mkFr on fr k).map nv)) (fun x _ => N - (intOf x).toNat)
 case atStart => exact ⟨0, none, none, 0, 0, Nat.zero_le _, rfl, HM0.out, World.ownsRow_nil _ _ _ _, World.ownsRow_nil _ _ _ _, fun g e => by cases e⟩
 case round =>
  obtain ⟨k, A, B, c, d, hk, rfl, hT⟩ := hrel
  have HT := Lib.hid hT
  have t0 : wr.cell? ⟨w.heap.size + 1, 0, none⟩ = some (.int .i64 (q : Int)) := (hT.hp.at_ 1 rfl).cell 0
  have t1 : wr.cell? ⟨w.heap.size + 1, 1, none⟩ = some (.slice A (mkOn on k).length c) := (hT.hp.at_ 1 rfl).cell 1
  have t2 : wr.cell? ⟨w.heap.size + 1, 2, none⟩ = some (.slice B (mkFr on fr k).length d) := (hT.hp.at_ 1 rfl).cell 2
  have hwl : w.heap.size + 1 < wr.heap.size := (hT.hp.at_ 1 rfl).lt
  have hsh := HSH.out
  clear hT
  by_cases hlt : k < N
  ·have hkz : (k : Int) < (N : Int) := by omega
   obtain ⟨k2, hk2⟩ : ∃ z : Int, z = (k : Int) + 1 := ⟨_, rfl⟩
   have hwk : IntKind.i64.wrap ((k : Int) + 1) = k2 := by rw [hk2]; exact IntWalk.i64_in _ (by omega)
   have HK2 := Lib.hid hk2
   have HLT := Lib.hid hlt
   have hwk64 : IntKind.u64.wrap (k : Int) = (k : Int) := IntWalk.u64_in _ ⟨by omega, by omega⟩
   have hno := mkOn_len on k
   have hnf := mkFr_len on fr k
   have hbo := bit_u16 (x := k) HB.out.1
   have hbf := bit_u16 (x := k) HB.out.2
   have hso := mkOn_succ on k
   have hsf := mkFr_succ on fr k
   have hlo : (mkOn on (k + 1)).length = (if on.testBit k = true then (mkOn on k).length + 1 else (mkOn on k).length) := by rw [hso]; split <;> simp
   have hlf : (mkFr on fr (k + 1)).length = (if on.testBit k = true then (mkFr on fr k).length else if fr.testBit k = true then (mkFr on fr k).length + 1 else (mkFr on fr k).length) := by rw [hsf]; split <;> (try split) <;> simp
   have hmo : (mkOn on (k + 1)).map nv = (if on.testBit k = true then (mkOn on k).map nv ++ [nv k] else (mkOn on k).map nv) := by rw [hso]; split <;> simp
   have hmf : (mkFr on fr (k + 1)).map nv = (if on.testBit k = true then (mkFr on fr k).map nv else if fr.testBit k = true then (mkFr on fr k).map nv ++ [nv k] else (mkFr on fr k).map nv) := by rw [hsf]; split <;> (try split) <;> simp
   have HSO := Lib.hid (And.intro hlo (And.intro hlf (And.intro hmo hmf)))
   obtain ⟨no, hnoo⟩ : ∃ x, x = (mkOn on k).length := ⟨_, rfl⟩
   obtain ⟨nf, hnff⟩ : ∃ x, x = (mkFr on fr k).length := ⟨_, rfl⟩
   rw [← hnoo] at t1 HT HSO hno
   rw [← hnff] at t2 HT HSO hnf
   clear hk2 hlt hk hso hsf hlo hlf hmo hmf hnoo hnff
   cases hb1 : on.testBit k with
   | true =>
    rw [hb1] at hbo HSO
    have hbo1 : bits .and .u16 ((on : Int) / 2 ^ k) 1 = 1 := hbo
    clear hbo hbf hb1
    go_wp2_with (at_builtin; refine wpList_append_lies _ rfl _ _ 24 rfl (w.heap.size + 2) 3 i0 (.int .i64 0) 1 8 Tryz.underlying24 HI0.out HZ0.out HZ1.out HZ2.out rfl (by decide) _ _ _ rfl (own_blI HT.out.a (bw_new (Below.refl _ _) _)) ⟨wr.heap.size, 0, none⟩ 1 1 [.int .i64 (k : Int)] rfl rfl (World.news_of_block (cs := #[.int .i64 (k : Int)]) (t := 3) (fr := (0, 0)) (heap_alloc_new wr _)) (by simp [Value.oneCell']) (by decide) (by unfold maxLen; omega) (by omega) (by simp; omega) _ rfl ?_)
    intro g4 c4 w4 hown4 hgrow4 hor4 hlt4
    have HST := Lib.hid (HT.out.stepA (bw_new (Below.refl _ _) (.cells #[.int .i64 (k : Int)] 3)) hown4 hgrow4 (by rw [World.size_alloc]; exact hor4))
    have u1 : w4.cell? ⟨w.heap.size + 1, 1, none⟩ = some (.slice A no c) := (hp_grown HT.out.hp (by simp) (by omega) (bw_new (Below.refl _ _) (.cells #[.int .i64 (k : Int)] 3)) HT.out.a hgrow4).at_ 1 rfl |>.cell 1
    have v1 : w4.frozen? ⟨w.heap.size + 1, 1, none⟩ = false := (hp_grown HT.out.hp (by simp) (by omega) (bw_new (Below.refl _ _) (.cells #[.int .i64 (k : Int)] 3)) HT.out.a hgrow4).at_ 1 rfl |>.frozen 1
    clear hown4 hgrow4 hor4 hlt4 t0 t1 t2
    go_wp2_with fail
    go_roundw
    case rel => exact ⟨k + 1, some ⟨g4, 0, none⟩, B, c4, d, HLT.out, by rw [HK2.out]; rfl, by
     have h := HSO.out
     rw [h.1, h.2.1, h.2.2.1, h.2.2.2]
     exact HST.out⟩
    case measure => have := HLT.out; have := HK2.out; simp only [intOf]; omega
   | false =>
    rw [hb1] at hbo HSO
    have hbo1 : bits .and .u16 ((on : Int) / 2 ^ k) 1 = 0 := hbo
    clear hbo hb1
    cases hb2 : fr.testBit k with
    | true =>
     rw [hb2] at hbf HSO
     have hbf1 : bits .and .u16 ((fr : Int) / 2 ^ k) 1 = 1 := hbf
     clear hbf hb2
     go_wp2_with (at_builtin; refine wpList_append_lies _ rfl _ _ 24 rfl (w.heap.size + 2) 3 i0 (.int .i64 0) 1 8 Tryz.underlying24 HI0.out HZ0.out HZ1.out HZ2.out rfl (by decide) _ _ _ rfl (own_blI HT.out.b (bw_new (Below.refl _ _) _)) ⟨wr.heap.size, 0, none⟩ 1 1 [.int .i64 (k : Int)] rfl rfl (World.news_of_block (cs := #[.int .i64 (k : Int)]) (t := 3) (fr := (0, 0)) (heap_alloc_new wr _)) (by simp [Value.oneCell']) (by decide) (by unfold maxLen; omega) (by omega) (by simp; omega) _ rfl ?_)
     intro g4 c4 w4 hown4 hgrow4 hor4 hlt4
     have HST := Lib.hid (HT.out.stepB (bw_new (Below.refl _ _) (.cells #[.int .i64 (k : Int)] 3)) hown4 hgrow4 (by rw [World.size_alloc]; exact hor4))
     have u2 : w4.cell? ⟨w.heap.size + 1, 2, none⟩ = some (.slice B nf d) := (hp_grown HT.out.hp (by simp) (by omega) (bw_new (Below.refl _ _) (.cells #[.int .i64 (k : Int)] 3)) HT.out.b hgrow4).at_ 1 rfl |>.cell 2
     have v2 : w4.frozen? ⟨w.heap.size + 1, 2, none⟩ = false := (hp_grown HT.out.hp (by simp) (by omega) (bw_new (Below.refl _ _) (.cells #[.int .i64 (k : Int)] 3)) HT.out.b hgrow4).at_ 1 rfl |>.frozen 2
     clear hown4 hgrow4 hor4 hlt4 t0 t1 t2
     go_wp2_with fail
     go_roundw
     case rel => exact ⟨k + 1, A, some ⟨g4, 0, none⟩, c, c4, HLT.out, by rw [HK2.out]; rfl, by
      have h := HSO.out
      rw [h.1, h.2.1, h.2.2.1, h.2.2.2]
      exact HST.out⟩
     case measure => have := HLT.out; have := HK2.out; simp only [intOf]; omega
    | false =>
     rw [hb2] at hbf HSO
     have hbf1 : bits .and .u16 ((fr : Int) / 2 ^ k) 1 = 0 := hbf
     clear hbf hb2
     go_wp2_with fail
     go_roundw
     case rel => exact ⟨k + 1, A, B, c, d, HLT.out, by rw [HK2.out]; rfl, by
      have h := HSO.out
      rw [h.1, h.2.1, h.2.2.1, h.2.2.2]
      exact HT.out⟩
     case measure => have := HLT.out; have := HK2.out; simp only [intOf]; omega
  ·obtain rfl : k = N := by omega
   have hkz : ¬ (k : Int) < (k : Int) := by omega
   have b0 := HT.out.hp.at_ 0 rfl
   have e0 : wr.cell? ⟨w.heap.size, 0, none⟩ = some (.int .i64 0) := b0.cell 0
   have e1 : wr.cell? ⟨w.heap.size, 1, none⟩ = some (.slice none 0 0) := b0.cell 1
   have e2 : wr.cell? ⟨w.heap.size, 2, none⟩ = some (.slice none 0 0) := b0.cell 2
   have f0 : wr.frozen? ⟨w.heap.size, 0, none⟩ = false := b0.frozen 0
   have f1 : wr.frozen? ⟨w.heap.size, 1, none⟩ = false := b0.frozen 1
   have f2 : wr.frozen? ⟨w.heap.size, 2, none⟩ = false := b0.frozen 2
   have HPF := Lib.hid (HT.out.hp.put3 0 rfl (.int .i64 (q : Int)) (.slice A (mkOn on k).length c) (.slice B (mkFr on fr k).length d))
   clear hk hlt b0
   go_wp2_with fail
   have bF := HPF.out.at_ 0 rfl
   have r0 := bF.cell 0
   have r1 := bF.cell 1
   have r2 := bF.cell 2
   simp only [List.getElem?_cons_zero, List.getElem?_cons_succ] at r0 r1 r2
   have hbl : ∀ b, b ≠ w.heap.size → (((wr.setCell ⟨w.heap.size, 0, none⟩ (.int .i64 (q : Int))).setCell ⟨w.heap.size, 1, none⟩ (.slice A (mkOn on k).length c)).setCell ⟨w.heap.size, 2, none⟩ (.slice B (mkFr on fr k).length d)).heap[b]? = wr.heap[b]? := fun b hb =>
    (Below.heap_setCell _ ⟨w.heap.size, 2, none⟩ _ b hb).trans ((Below.heap_setCell _ ⟨w.heap.size, 1, none⟩ _ b hb).trans (Below.heap_setCell _ ⟨w.heap.size, 0, none⟩ _ b hb))
   have oa := own_keep HT.out.a (w' := ((wr.setCell ⟨w.heap.size, 0, none⟩ (.int .i64 (q : Int))).setCell ⟨w.heap.size, 1, none⟩ (.slice A (mkOn on k).length c)).setCell ⟨w.heap.size, 2, none⟩ (.slice B (mkFr on fr k).length d)) (fun g e => hbl g (by have := (HT.out.a.lt g e).1; omega))
   have ob := own_keep HT.out.b (w' := ((wr.setCell ⟨w.heap.size, 0, none⟩ (.int .i64 (q : Int))).setCell ⟨w.heap.size, 1, none⟩ (.slice A (mkOn on k).length c)).setCell ⟨w.heap.size, 2, none⟩ (.slice B (mkFr on fr k).length d)) (fun g e => hbl g (by have := (HT.out.b.lt g e).1; omega))
   have hcp := own_cap HT.out.a
   have hcm := own_mx HT.out.a
   have hlo := mkOn_len on k
   have hlf := mkFr_len on fr k
   have hk16 : k ≤ 16 := by omega
   refine bodyPost_ret (v := .agg #[.int .i64 (q : Int), .slice A (mkOn on k).length c, .slice B (mkFr on fr k).length d]) (by simp [results, Tryz.results13, go_sem, r0, r1, r2]) rfl ⟨A, B, c, d, ?_, ?_, ?_, ?_, ?_, ?_, HPF.out.below⟩
   ·rw [← HQ.out, ← HNN.out]
   ·rw [← HQ.out, ← HNN.out]; exact hcp
   ·exact hcm
   ·intro p hp
    have := own_ge HT.out.a p hp
    omega
   ·intro p hp
    have := own_ge HT.out.b p hp
    omega
   ·rw [← HQ.out, ← HNN.out]
    exact ⟨own_rd oa rfl, own_rd ob rfl, by rw [List.length_map], by rw [List.length_map], by omega⟩
end Go.Proofs.YtaegjpancbmppaaGreatDoor
namespace Go.Proofs.YtaegjpancbmppaaGreatDoor
theorem ordE_ok {N : Int} : ∀ (L : List Int) (p : Option Int), (∀ x ∈ L, 0 ≤ x ∧ x < N) → L.Pairwise (· < ·) → (∀ y, p = some y → ∀ x ∈ L, y < x) → ordE N p L = 0
 | [], _, _, _, _ => rfl
 | x :: r, p, h1, h2, h3 => by
  obtain ⟨k1, k2⟩ := List.pairwise_cons.1 h2
  have hx := h1 x (List.mem_cons_self ..)
  rw [ordE, if_neg (by omega), if_neg]
  ·exact ordE_ok r (some x) (fun z hz => h1 z (List.mem_cons_of_mem _ hz)) k2 (fun y hy z hz => by cases hy; exact k1 z hz)
  ·cases p with
   | none => simp [leB]
   | some y =>
    have := h3 y rfl x (List.mem_cons_self ..)
    simp [leB]
    omega
structure MkF (q : Nat) (no nf : List Nat) : Prop where
 on : ∀ r ∈ no, r < 2 ^ q
 fr : ∀ r ∈ nf, r < 2 ^ q
 so : no.Pairwise (· < ·)
 sf : nf.Pairwise (· < ·)
 dj : ∀ r ∈ nf, r ∉ no
theorem mkF_of (on fr q : Nat) : MkF q (mkOn on (2 ^ q)) (mkFr on fr (2 ^ q)) where
 on := fun r h => (mkOn_mem.1 h).1
 fr := fun r h => (mkFr_mem.1 h).1
 so := mkOn_sorted _ _
 sf := mkFr_sorted _ _ _
 dj := fun r h k => by
  have h1 := (mkFr_mem.1 h).2.1
  rw [(mkOn_mem.1 k).2] at h1
  cases h1
theorem zR_pos {l : List Nat} : ∀ x ∈ zR l, 0 ≤ x := fun x hx => by
 obtain ⟨r, _, rfl⟩ := List.mem_map.1 hx
 exact Int.natCast_nonneg r
theorem zR_lt {l : List Nat} {N : Nat} (h : ∀ r ∈ l, r < N) : ∀ x ∈ zR l, 0 ≤ x ∧ x < (N : Int) := fun x hx => by
 obtain ⟨r, hr, rfl⟩ := List.mem_map.1 hx
 have := h r hr
 exact ⟨Int.natCast_nonneg r, by show (r : Int) < _; omega⟩
theorem zR_sorted {l : List Nat} (h : l.Pairwise (· < ·)) : (zR l).Pairwise (· < ·) := by
 unfold zR
 rw [List.pairwise_map]
 exact h.imp fun h => by show ((_ : Nat) : Int) < ((_ : Nat) : Int); omega
theorem chk_mk {q : Nat} {no nf : List Nat} (h : MkF q no nf) (hq : q ≤ 8) : chkE (q : Int) (zR no) (zR nf) = 0 := by
 unfold chkE
 rw [if_neg (by omega), show (q : Int).toNat = q by omega, ordE_ok _ none (zR_lt h.on) (zR_sorted h.so) (fun _ e => by cases e), if_neg (by simp), ordE_ok _ none (zR_lt h.fr) (zR_sorted h.sf) (fun _ e => by cases e), if_neg (by simp), if_pos]
 refine (meetM zR_pos zR_pos).2 fun z hz hz2 => ?_
 obtain ⟨r, hr, rfl⟩ := List.mem_map.1 hz
 obtain ⟨r', hr', e⟩ := List.mem_map.1 hz2
 have : r' = r := by have e' : (r' : Int) = (r : Int) := e; omega
 exact h.dj r hr (by rw [← this]; exact hr')
theorem sml_mk {q : Nat} {no nf : List Nat} (h : MkF q no nf) (hq : q ≤ 5) : smlE (q : Int) (zR no) (zR nf) = 0 := by
 unfold smlE
 rw [chk_mk h (by omega), if_neg (by simp), if_neg (by omega)]
end Go.Proofs.YtaegjpancbmppaaGreatDoor
