/- Part 36 of 47 of the proof of the law: contracts of the functions that it reaches, and plain facts. Conditions: those that each contract names. -/
import Derived.Test.YtendjepcjmfmfaaGreatDoorOrdB35
import Derived.Test.YtendjepcjmfmfaaGreatDoorOrdB28
namespace Go.Proofs.YtendjepcjmfmfaaGreatDoor
open Go.RowKit
set_option maxRecDepth 100000 in
set_option maxHeartbeats 4000000 in
theorem qcmp_any (D : Int) (m : Nat) (hD : D = (m : Int)) (L R : Int) (n : Nat) (w : World) (ht : Tab w) (hm : m ≤ 240) (hn : n ≤ 128000001) (hL : Lib.nDigits L.natAbs ≤ 200000) (hR : Lib.nDigits R.natAbs ≤ 200000) :
  Calls Tryz.prog 48 #[.agg #[.int .i64 D, .string (dec L), .string (dec R)], .int .i64 (n : Int)] w fun e w' => e = .returned (.int .i64 (sgn ((n : Int) ^ m * L - R))) ∧ Below w.heap.size w w' := by
 obtain ⟨P, hP⟩ : ∃ P : Int, P = (n : Int) ^ m := ⟨_, rfl⟩
 rw [← hP]
 have hdn : Lib.nDigits (n : Int).natAbs ≤ 9 := nDigits_le _ 9 (by decide) (by rw [Int.natAbs_natCast]; exact Nat.lt_of_le_of_lt hn (by decide))
 have hdP : Lib.nDigits P.natAbs ≤ 2161 := by
  have h1 := pow_digits (n : Int) m
  rw [← hP] at h1
  have h2 := Nat.mul_le_mul hm hdn
  omega
 have hpw := fun W h => power_any (n : Int) m W h (by omega) (Nat.le_trans (Nat.mul_le_mul hm hdn) (by decide)) (by omega)
 rw [← hP, ← hD] at hpw
 obtain ⟨x, hx⟩ : ∃ x : Int, x = (n : Int) := ⟨_, rfl⟩
 rw [← hx] at hpw ⊢
 obtain ⟨S, hS⟩ : ∃ S : Int, S = sgn (P * L - R) := ⟨_, rfl⟩
 have HOF := Lib.hid (fun W h => of_any x (by omega) (by omega) W h)
 have HPW := Lib.hid hpw
 have HML := Lib.hid (fun W h => mul_any P L W h (by omega) (by omega))
 have hcp : ∀ W, Tab W → Calls Tryz.prog 53 #[.string (dec (P * L)), .string (dec R)] W fun e W' => e = .returned (.int .i64 S) ∧ Below W.heap.size W W' := fun W _ => by
  have h1 := mul_digits P L
  refine (compare_any (P * L) R W (by omega) (by omega)).mono ?_
  rintro e W' ⟨he, rfl⟩
  exact ⟨by rw [hS]; exact he, Below.refl _ _⟩
 have HCP := Lib.hid hcp
 have HT := Lib.hid ht
 rw [← hS]
 have hm0 := (Hp.start w).new 116 [.int .i64 D, .string (dec L), .string (dec R)]
 simp only [World.size_alloc, List.nil_append, List.cons_append] at hm0
 have HM0 := Lib.hid hm0
 clear hm0 hpw hcp hP hdn hdP hx hS hm hn hL hR hD ht
 obtain ⟨W0, hW0⟩ : ∃ W, W = w.alloc (.cells #[.int .i64 D, .string (dec L), .string (dec R)] 116) := ⟨_, rfl⟩
 go_enter Tryz.func48, Tryz.ntmps48
 go_upto_region 1 with fail
 rw [← hW0] at HM0 ⊢
 clear hW0
 refine wp_regionJ 10 #[false, false, false, false, false, false, false, false, false, false] (fun l a W => ∃ (m0 m1 m2 m3 m4 m5 m6 m7 m8 m9 : Bool), l = #[m0, m1, m2, m3, m4, m5, m6, m7, m8, m9] ∧ a = ({ tmps := #[.agg #[.int .i64 D, .string (dec L), .string (dec R)], .int .i64 x, .pointer (some ⟨w.heap.size, 0, none⟩), undef, .int .i64 0, cwX m8 (.string (dec P)) (undef), cwX m9 (.int .i64 0) (undef), cwX m5 (.tuple #[.string (dec P), .int .i64 0]) (undef), cwX m0 (.int .i64 x) (undef), cwX m1 (.string (dec x)) (undef), cwX m2 (.pointer (some ⟨w.heap.size, 0, none⟩)) (undef), cwX m3 (.int .i64 D) (undef), cwX m4 (.tuple #[.string (dec P), .int .i64 0]) (undef), cwX m6 (.string (dec P)) (undef), cwX m7 (.int .i64 0) (undef), undef, undef, undef, undef, undef, undef, undef], defers := [] } : Act) ∧ (True) ∧ Hp w [(w.heap.size, 116, [.int .i64 D, .string (dec L), .string (dec R)])] W) (by kernel_rfl) (by kernel_rfl) (by kernel_rfl) (by kernel_rfl) ?_ ?_ ?_ ?_
 ·rintro l a W ⟨m0, m1, m2, m3, m4, m5, m6, m7, m8, m9, rfl, _⟩
  rfl
 ·exact ⟨false, false, false, false, false, false, false, false, false, false, rfl, rfl, trivial, HM0.out.drew⟩
 ·rintro l a W i o ⟨m0, m1, m2, m3, m4, m5, m6, m7, m8, m9, rfl, rfl, hi0, hm⟩ ho hun hall K hK
  have hi : i < 10 := (Array.getElem?_eq_some_iff.1 ho).1
  have HM := Lib.hid hm
  have HI := Lib.hid hi0
  clear hm hi0
  rcases (show i = 0 ∨ i = 1 ∨ i = 2 ∨ i = 3 ∨ i = 4 ∨ i = 5 ∨ i = 6 ∨ i = 7 ∨ i = 8 ∨ i = 9 by omega) with rfl | rfl | rfl | rfl | rfl | rfl | rfl | rfl | rfl | rfl
  ·cases ho
   simp at hun; subst hun
   clear hall hi
   go_simp
   exact hK.out _ _ ⟨true, m1, m2, m3, m4, m5, m6, m7, m8, m9, rfl, rfl, trivial, HM.out⟩
  ·cases ho
   cases (getBX hall 0 rfl : m0 = true)
   simp at hun; subst hun
   clear hall hi
   go_simp
   refine (HOF.out _ (HT.out.below HM.out.below)).mono ?_
   rintro e W' ⟨rfl, hb⟩
   exact hK.out _ _ ⟨true, true, m2, m3, m4, m5, m6, m7, m8, m9, rfl, rfl, trivial, HM.out.step hb⟩
  ·cases ho
   simp at hun; subst hun
   clear hall hi
   go_simp
   exact hK.out _ _ ⟨m0, m1, true, m3, m4, m5, m6, m7, m8, m9, rfl, rfl, trivial, HM.out⟩
  ·cases ho
   cases (getBX hall 2 rfl : m2 = true)
   simp at hun; subst hun
   clear hall hi
   obtain ⟨s0, s1, s2⟩ := three_of (HM.out.at_ 0 rfl)
   go_simp
   exact hK.out _ _ ⟨m0, m1, true, true, m4, m5, m6, m7, m8, m9, rfl, rfl, trivial, HM.out⟩
  ·cases ho
   cases (getBX hall 1 rfl : m1 = true)
   cases (getBX hall 3 rfl : m3 = true)
   simp at hun; subst hun
   clear hall hi
   go_simp
   refine (HPW.out _ (HT.out.below HM.out.below)).mono ?_
   rintro e W' ⟨rfl, hb⟩
   exact hK.out _ _ ⟨m0, true, m2, true, true, m5, m6, m7, m8, m9, rfl, rfl, trivial, HM.out.step hb⟩
  ·cases ho
   cases (getBX hall 4 rfl : m4 = true)
   simp at hun; subst hun
   clear hall hi
   go_simp
   exact hK.out _ _ ⟨m0, m1, m2, m3, true, true, m6, m7, m8, m9, rfl, rfl, trivial, HM.out⟩
  ·cases ho
   cases (getBX hall 5 rfl : m5 = true)
   simp at hun; subst hun
   clear hall hi
   go_simp
   exact hK.out _ _ ⟨m0, m1, m2, m3, m4, true, true, m7, m8, m9, rfl, rfl, trivial, HM.out⟩
  ·cases ho
   cases (getBX hall 5 rfl : m5 = true)
   simp at hun; subst hun
   clear hall hi
   go_simp
   exact hK.out _ _ ⟨m0, m1, m2, m3, m4, true, m6, true, m8, m9, rfl, rfl, trivial, HM.out⟩
  ·cases ho
   cases (getBX hall 6 rfl : m6 = true)
   simp at hun; subst hun
   clear hall hi
   go_simp
   exact hK.out _ _ ⟨m0, m1, m2, m3, m4, m5, true, m7, true, m9, rfl, rfl, trivial, HM.out⟩
  ·cases ho
   cases (getBX hall 7 rfl : m7 = true)
   simp at hun; subst hun
   clear hall hi
   go_simp
   exact hK.out _ _ ⟨m0, m1, m2, m3, m4, m5, m6, true, m8, true, rfl, rfl, trivial, HM.out⟩
 ·rintro l a W ⟨m0, m1, m2, m3, m4, m5, m6, m7, m8, m9, rfl, rfl, _, hm⟩ hall
  cases (hall 0 (by decide) : m0 = true)
  cases (hall 1 (by decide) : m1 = true)
  cases (hall 2 (by decide) : m2 = true)
  cases (hall 3 (by decide) : m3 = true)
  cases (hall 4 (by decide) : m4 = true)
  cases (hall 5 (by decide) : m5 = true)
  cases (hall 6 (by decide) : m6 = true)
  cases (hall 7 (by decide) : m7 = true)
  cases (hall 8 (by decide) : m8 = true)
  cases (hall 9 (by decide) : m9 = true)
  clear hall
  have HM1 := Lib.hid hm
  clear hm HM0
  dsimp only [cwX, cond_true]
  go_upto_region 2 with fail

  refine wp_regionJ 8 #[false, false, false, false, false, false, false, false] (fun l a W => ∃ (m0 m1 m2 m3 m4 m5 m6 m7 : Bool), l = #[m0, m1, m2, m3, m4, m5, m6, m7] ∧ a = ({ tmps := #[.agg #[.int .i64 D, .string (dec L), .string (dec R)], .int .i64 x, .pointer (some ⟨w.heap.size, 0, none⟩), undef, cwX m7 (.int .i64 S) (.int .i64 0), .string (dec P), .int .i64 0, .tuple #[.string (dec P), .int .i64 0], .int .i64 x, .string (dec x), .pointer (some ⟨w.heap.size, 0, none⟩), .int .i64 D, .tuple #[.string (dec P), .int .i64 0], .string (dec P), .int .i64 0, cwX m0 (.string (dec P)) (undef), cwX m1 (.pointer (some ⟨w.heap.size, 1, none⟩)) (undef), cwX m2 (.string (dec L)) (undef), cwX m3 (.string (dec (P * L))) (undef), cwX m4 (.pointer (some ⟨w.heap.size, 2, none⟩)) (undef), cwX m5 (.string (dec R)) (undef), cwX m6 (.int .i64 S) (undef)], defers := [] } : Act) ∧ (True) ∧ Hp w [(w.heap.size, 116, [.int .i64 D, .string (dec L), .string (dec R)])] W) (by kernel_rfl) (by kernel_rfl) (by kernel_rfl) (by kernel_rfl) ?_ ?_ ?_ ?_
  ·rintro l a W ⟨m0, m1, m2, m3, m4, m5, m6, m7, rfl, _⟩
   rfl
  ·exact ⟨false, false, false, false, false, false, false, false, rfl, rfl, trivial, HM1.out.drew⟩
  ·rintro l a W i o ⟨m0, m1, m2, m3, m4, m5, m6, m7, rfl, rfl, hi0, hm⟩ ho hun hall K hK
   have hi : i < 8 := (Array.getElem?_eq_some_iff.1 ho).1
   have HM := Lib.hid hm
   have HI := Lib.hid hi0
   clear hm hi0
   rcases (show i = 0 ∨ i = 1 ∨ i = 2 ∨ i = 3 ∨ i = 4 ∨ i = 5 ∨ i = 6 ∨ i = 7 by omega) with rfl | rfl | rfl | rfl | rfl | rfl | rfl | rfl
   ·cases ho
    simp at hun; subst hun
    clear hall hi
    go_simp
    exact hK.out _ _ ⟨true, m1, m2, m3, m4, m5, m6, m7, rfl, rfl, trivial, HM.out⟩
   ·cases ho
    simp at hun; subst hun
    clear hall hi
    go_simp
    exact hK.out _ _ ⟨m0, true, m2, m3, m4, m5, m6, m7, rfl, rfl, trivial, HM.out⟩
   ·cases ho
    cases (getBX hall 1 rfl : m1 = true)
    simp at hun; subst hun
    clear hall hi
    obtain ⟨s0, s1, s2⟩ := three_of (HM.out.at_ 0 rfl)
    go_simp
    exact hK.out _ _ ⟨m0, true, true, m3, m4, m5, m6, m7, rfl, rfl, trivial, HM.out⟩
   ·cases ho
    cases (getBX hall 0 rfl : m0 = true)
    cases (getBX hall 2 rfl : m2 = true)
    simp at hun; subst hun
    clear hall hi
    go_simp
    refine (HML.out _ (HT.out.below HM.out.below)).mono ?_
    rintro e W' ⟨rfl, hb⟩
    exact hK.out _ _ ⟨true, m1, true, true, m4, m5, m6, m7, rfl, rfl, trivial, HM.out.step hb⟩
   ·cases ho
    simp at hun; subst hun
    clear hall hi
    go_simp
    exact hK.out _ _ ⟨m0, m1, m2, m3, true, m5, m6, m7, rfl, rfl, trivial, HM.out⟩
   ·cases ho
    cases (getBX hall 4 rfl : m4 = true)
    simp at hun; subst hun
    clear hall hi
    obtain ⟨s0, s1, s2⟩ := three_of (HM.out.at_ 0 rfl)
    go_simp
    exact hK.out _ _ ⟨m0, m1, m2, m3, true, true, m6, m7, rfl, rfl, trivial, HM.out⟩
   ·cases ho
    cases (getBX hall 3 rfl : m3 = true)
    cases (getBX hall 5 rfl : m5 = true)
    simp at hun; subst hun
    clear hall hi
    go_simp
    refine (HCP.out _ (HT.out.below HM.out.below)).mono ?_
    rintro e W' ⟨rfl, hb⟩
    exact hK.out _ _ ⟨m0, m1, m2, true, m4, true, true, m7, rfl, rfl, trivial, HM.out.step hb⟩
   ·cases ho
    cases (getBX hall 6 rfl : m6 = true)
    simp at hun; subst hun
    clear hall hi
    go_simp
    exact hK.out _ _ ⟨m0, m1, m2, m3, m4, m5, true, true, rfl, rfl, trivial, HM.out⟩
  ·rintro l a W ⟨m0, m1, m2, m3, m4, m5, m6, m7, rfl, rfl, _, hm⟩ hall
   cases (hall 0 (by decide) : m0 = true)
   cases (hall 1 (by decide) : m1 = true)
   cases (hall 2 (by decide) : m2 = true)
   cases (hall 3 (by decide) : m3 = true)
   cases (hall 4 (by decide) : m4 = true)
   cases (hall 5 (by decide) : m5 = true)
   cases (hall 6 (by decide) : m6 = true)
   cases (hall 7 (by decide) : m7 = true)
   clear hall
   have HM2 := Lib.hid hm
   clear hm HM1
   dsimp only [cwX, cond_true]
   go_wp2_with fail
   go_ret
   exact ⟨rfl, HM2.out.below⟩
def RtRel (w : World) (g2 : Nat) (a0 b0 a1 b1 a2 b2 s1 s2 : Int) (i : Value) (W : World) : Prop :=
 ∃ k : Nat, k ≤ 2 ∧ i = .int .i64 (k : Int) ∧ ((0 < k → s1 ≠ -1) ∧ (1 < k → s2 ≠ 1)) ∧ Hp w ([(w.heap.size, 49, [.int .i64 a0, .int .i64 b0, .int .i64 a1, .int .i64 b1, .int .i64 a2, .int .i64 b2]), (w.heap.size + 1, 53, [.int .i64 0, .int .i64 0])] ++ [(g2, 110, [.int .i64 (-7), .int .i64 (-1), .int .i64 7, .int .i64 1])]) W
def RsRel (w : World) (g2 g3 : Nat) (a0 b0 a1 b1 a2 b2 n D : Int) (L R : ByteArray) (u v : Value) (W : World) : Prop :=
 ∃ X Y : Int, (0 ≤ X ∧ X ≤ n ∧ n < Y ∧ Y ≤ 128000001) ∧ u = .int .i64 X ∧ v = .int .i64 Y ∧ Hp w ([(w.heap.size, 49, [.int .i64 a0, .int .i64 b0, .int .i64 a1, .int .i64 b1, .int .i64 a2, .int .i64 b2]), (w.heap.size + 1, 53, [.int .i64 0, .int .i64 0])] ++ [(g2, 110, [.int .i64 (-7), .int .i64 (-1), .int .i64 7, .int .i64 1]), (g3, 116, [.int .i64 D, .string L, .string R])]) W
theorem pow_mono_int {a b : Int} (h0 : 0 ≤ a) (h : a ≤ b) : ∀ m : Nat, a ^ m ≤ b ^ m
 | 0 => by rw [Int.pow_zero, Int.pow_zero]; exact Int.le_refl _
 | m + 1 => by
  rw [Int.pow_succ, Int.pow_succ]
  exact Int.mul_le_mul (pow_mono_int h0 h m) h h0 (Int.pow_nonneg (Int.le_trans h0 h))
theorem sgn_le0 {x : Int} : sgn x ≤ 0 ↔ x ≤ 0 := by
 unfold sgn
 split
 ·constructor <;> intro <;> omega
 ·split <;> constructor <;> intro <;> omega
theorem sgn_eq0 {x : Int} : sgn x = 0 ↔ x = 0 := by
 unfold sgn
 split
 ·constructor <;> intro <;> omega
 ·split <;> constructor <;> intro <;> omega
theorem side_le {m : Nat} {L R n k : Int} (hL : 0 ≤ L) (hn : 0 ≤ n) (hk : 0 ≤ k) (h1 : n ^ m * L ≤ R) (h2 : R < (n + 1) ^ m * L) : sgn (k ^ m * L - R) ≤ 0 ↔ k ≤ n := by
 rw [sgn_le0]
 constructor
 ·intro h
  rcases Int.lt_or_le n k with h3 | h3
  ·have h4 := Int.mul_le_mul_of_nonneg_right (pow_mono_int (show 0 ≤ n + 1 by omega) (show n + 1 ≤ k by omega) m) hL
   omega
  ·exact h3
 ·intro h
  have h4 := Int.mul_le_mul_of_nonneg_right (pow_mono_int hk h m) hL
  omega
set_option maxRecDepth 100000 in
set_option maxHeartbeats 8000000 in
theorem ratio_walk (a0 b0 a1 b1 a2 b2 x y z D : Int) (V : Value) (w : World) (ht : Tab w) (hS : ∀ q ∈ [(a0, b0), (a1, b1), (a2, b2)], Right q.1 q.2) (hp : prt [(a0, b0), (a1, b1), (a2, b2)] = some ([x, y, z], D))
  (hfar : sgn (1 * lgZ x y z - D * lgZ (-7) 0 0) = -1 ∨ sgn (1 * lgZ x y z - D * lgZ 7 0 0) = 1 → V = .tuple #[.agg #[.int .i64 0, .int .i64 0], .int .i64 3])
  (hok : ¬ (sgn (1 * lgZ x y z - D * lgZ (-7) 0 0) = -1 ∨ sgn (1 * lgZ x y z - D * lgZ 7 0 0) = 1) → ∃ n : Int, (0 ≤ n ∧ n ≤ 128000000) ∧ n ^ D.toNat * rsT 1 (-x).toNat (-y).toNat (-z).toNat 3 ≤ rsT (1000000 ^ D.toNat) x.toNat y.toNat z.toNat 3 ∧
   rsT (1000000 ^ D.toNat) x.toNat y.toNat z.toNat 3 < (n + 1) ^ D.toNat * rsT 1 (-x).toNat (-y).toNat (-z).toNat 3 ∧
   V = .tuple #[.agg #[.int .i64 n, .int .i64 (if n ^ D.toNat * rsT 1 (-x).toNat (-y).toNat (-z).toNat 3 = rsT (1000000 ^ D.toNat) x.toNat y.toNat z.toNat 3 then n else n + 1)], .int .i64 0]) :
  Calls Tryz.prog 18 #[szv a0 b0 a1 b1 a2 b2] w fun e w' => e = .returned V ∧ Below w.heap.size w w' := by
 have hi : ∀ {n d : Int}, Right n d → I64 n ∧ I64 d := fun h => by
  obtain ⟨h1, h2, h3, h4, _⟩ := h
  exact ⟨⟨by omega, by omega⟩, ⟨by omega, by omega⟩⟩
 have R0 := hS (a0, b0) (by simp)
 have R1 := hS (a1, b1) (by simp)
 have R2 := hS (a2, b2) (by simp)
 have hck := fun W => icheck_any a0 b0 a1 b1 a2 b2 W (hi R0).1 (hi R0).2 (hi R1).1 (hi R1).2 (hi R2).1 (hi R2).2
 rw [ivE_ok hS (by rw [hp]; simp)] at hck
 have HCK := Lib.hid hck
 obtain ⟨s1, hs1⟩ : ∃ s, s = sgn (1 * lgZ x y z - D * lgZ (-7) 0 0) := ⟨_, rfl⟩
 obtain ⟨s2, hs2⟩ : ∃ s, s = sgn (1 * lgZ x y z - D * lgZ 7 0 0) := ⟨_, rfl⟩
 have hone : ∀ k : Int, k = -7 ∨ k = 7 → (∀ q ∈ [(k, (1 : Int)), (0, 1), (0, 1)], Right q.1 q.2) := fun k hk q hq => by
  simp only [List.mem_cons, List.not_mem_nil, or_false] at hq
  rcases hq with rfl | rfl | rfl <;> exact t_right_one (by dsimp only; omega)
 have hc1 := fun W hT => icompare_all a0 b0 a1 b1 a2 b2 (-7) 1 0 1 0 1 x y z D (-7) 0 0 1 W hT hS (hone (-7) (.inl rfl)) hp (t_prt_ones ⟨by decide, by decide⟩ ⟨by decide, by decide⟩ ⟨by decide, by decide⟩)
 have hc2 := fun W hT => icompare_all a0 b0 a1 b1 a2 b2 7 1 0 1 0 1 x y z D 7 0 0 1 W hT hS (hone 7 (.inr rfl)) hp (t_prt_ones ⟨by decide, by decide⟩ ⟨by decide, by decide⟩ ⟨by decide, by decide⟩)
 rw [← hs1] at hc1 hfar hok
 rw [← hs2] at hc2 hfar hok
 have HFAR := Lib.hid hfar
 have HOKK := Lib.hid hok
 clear hfar hok
 have HC1 := Lib.hid hc1
 have HC2 := Lib.hid hc2
 have ho1 := fun W => iof_any (-7) 0 0 W ⟨by decide, by decide⟩ ⟨by decide, by decide⟩ ⟨by decide, by decide⟩
 have ho2 := fun W => iof_any 7 0 0 W ⟨by decide, by decide⟩ ⟨by decide, by decide⟩ ⟨by decide, by decide⟩
 rw [t_ivR_ones ⟨by decide, by decide⟩ ⟨by decide, by decide⟩ ⟨by decide, by decide⟩] at ho1 ho2
 have HO1 := Lib.hid ho1
 have HO2 := Lib.hid ho2
 have HT := Lib.hid ht
 have hask := fun W h => ask_any a0 b0 a1 b1 a2 b2 x y z D W h hS hp
 obtain ⟨E1, E2, l0, l1, l2, ⟨r1, r2, r3⟩, hxs, bx, by_, bz⟩ := prt_inv hS hp
 have hdl := rsT_digits 1 (-x).toNat (-y).toNat (-z).toNat 3 (by omega) (by omega) (by omega)
 have hdr := rsT_digits (1000000 ^ D.toNat) x.toNat y.toNat z.toNat 3 (by omega) (by omega) (by omega)
 have hd6 := pow_digits 1000000 D.toNat
 rw [show Lib.nDigits (1000000 : Int).natAbs = 7 by decide +kernel] at hd6
 rw [show Lib.nDigits (1 : Int).natAbs = 1 by decide +kernel] at hdl
 have hL0 : 0 ≤ rsT 1 (-x).toNat (-y).toNat (-z).toNat 3 := by rw [rsT_eq, rsU_nat, Int.one_mul]; exact Int.natCast_nonneg _
 obtain ⟨L, hL⟩ : ∃ l, l = rsT 1 (-x).toNat (-y).toNat (-z).toNat 3 := ⟨_, rfl⟩
 obtain ⟨R, hR⟩ : ∃ l, l = rsT (1000000 ^ D.toNat) x.toNat y.toNat z.toNat 3 := ⟨_, rfl⟩
 rw [← hL, ← hR] at hask HOKK
 rw [← hL] at hdl hL0
 rw [← hR] at hdr
 have HASK := Lib.hid hask
 have hq : ∀ k : Int, 0 ≤ k → k ≤ 128000001 → ∀ W, Tab W → Calls Tryz.prog 48 #[.agg #[.int .i64 D, .string (dec L), .string (dec R)], .int .i64 k] W fun e w' => e = .returned (.int .i64 (sgn (k ^ D.toNat * L - R))) ∧ Below W.heap.size W w' := fun k k0 k1 W h => by
  have h1 := qcmp_any D D.toNat (by omega) L R k.toNat W h (by omega) (by omega) (by omega) (by omega)
  rw [show (k.toNat : Int) = k by omega] at h1
  exact h1
 have HQ := Lib.hid hq
 obtain ⟨m, hm⟩ : ∃ m, m = D.toNat := ⟨_, rfl⟩
 rw [← hm] at HQ HOKK
 have HL0 := Lib.hid hL0
 obtain ⟨BL, hBL⟩ : ∃ l, l = dec L := ⟨_, rfl⟩
 obtain ⟨BR, hBR⟩ : ∃ l, l = dec R := ⟨_, rfl⟩
 rw [← hBL, ← hBR] at HASK HQ
 clear hone hc1 hc2 ho1 ho2 hck hS hp R0 R1 R2 hi hs1 hs2 ht hask hq hL hR hdl hdr hL0 hd6 hm hBL hBR bx by_ bz r1 r2 r3 hxs l0 l1 l2
 have hm0 := ((Hp.start w).new 49 [.int .i64 a0, .int .i64 b0, .int .i64 a1, .int .i64 b1, .int .i64 a2, .int .i64 b2]).new 53 [.int .i64 0, .int .i64 0]
 simp only [World.size_alloc, List.nil_append, List.cons_append] at hm0
 have HM0 := Lib.hid hm0
 obtain ⟨p0, p1, p2, p3, p4, p5⟩ := six_of (hm0.at_ 0 rfl)
 clear hm0
 go_enter Tryz.func18, Tryz.ntmps18
 go_wp2_with fail
 refine (HCK.out _).mono ?_
 rintro e w1 ⟨rfl, hb1⟩
 have HM1 := Lib.hid (HM0.out.step hb1)
 obtain ⟨g2, hg2⟩ : ∃ g, g = w1.heap.size := ⟨_, rfl⟩
 have hmn := HM1.out.new 110 [.int .i64 (-7), .int .i64 (-1), .int .i64 7, .int .i64 1]
 rw [← hg2] at hmn
 have HM2 := Lib.hid hmn
 clear hb1 HM0 p0 p1 p2 p3 p4 p5 hmn
 go_wp2_with fail
 rw [← hg2]
 go_loopw [24] (fun i wr => RtRel w g2 a0 b0 a1 b1 a2 b2 s1 s2 i wr) (fun i _ => 2 - (intOf i).toNat)
 case atStart => exact ⟨0, by omega, rfl, ⟨fun h => absurd h (by decide), fun h => absurd h (by decide)⟩, HM2.out⟩
 case round =>
  obtain ⟨k, hk, rfl, hs, hm⟩ := hrel
  have HM := Lib.hid hm
  have HS := Lib.hid hs
  clear hm hs HM2 HM1 hg2
  by_cases hlt : k < 2
  ·rcases (show k = 0 ∨ k = 1 by omega) with rfl | rfl
   ·obtain ⟨t0, t1, t2, t3⟩ := four_of (HM.out.at_ 2 rfl)
    go_wp2_with fail
    refine (HO1.out _).mono ?_
    rintro e w2 ⟨rfl, hb2⟩
    have HM3 := Lib.hid ((HM.out.new 110 [.int .i64 (-7), .int .i64 (-1)]).step hb2)
    clear HM hb2 t0 t1 t2 t3
    obtain ⟨g3, hg3⟩ : ∃ g, g = wr.heap.size := ⟨_, rfl⟩
    rw [← hg3] at HM3 ⊢
    have hm4 := HM3.out.new 49 [.int .i64 (-7), .int .i64 1, .int .i64 0, .int .i64 1, .int .i64 0, .int .i64 1]
    have HM4 := Lib.hid hm4
    obtain ⟨p0, p1, p2, p3, p4, p5⟩ := six_of (hm4.at_ 0 rfl)
    clear hm4 HM3 hg3
    go_wp2_with fail
    refine (HC1.out _ (HT.out.below HM4.out.below)).mono ?_
    rintro e w3 ⟨rfl, hb3⟩
    have HM5 := Lib.hid (HM4.out.step hb3)
    clear HM4 hb3 p0 p1 p2 p3 p4 p5
    obtain ⟨t0, t1⟩ := two_of (HM5.out.at_ 3 rfl)
    by_cases hs : s1 = -1
    ·have hz : (s1 == -1) = true := by simpa using hs
     have HV := Lib.hid (HFAR.out (Or.inl hs))
     obtain ⟨y0, y1⟩ := two_of (HM5.out.at_ 1 rfl)
     have f0 := (HM5.out.at_ 1 rfl).frozen 0
     have f1 := (HM5.out.at_ 1 rfl).frozen 1
     have HZ := Lib.hid (HM5.out.put2 1 rfl (.int .i64 0) (.int .i64 0))
     clear HM5 hs
     go_wp2_with fail
     exact bodyPost_ret (v := .tuple #[.agg #[.int .i64 0, .int .i64 0], .int .i64 3]) (by simp [results, Tryz.results18, go_sem, y0, y1, f0, f1]) rfl ⟨by rw [HV.out], HZ.out.below⟩
    ·have hz : (s1 == -1) = false := by simpa using hs
     have HN := Lib.hid (show Hp w ([(w.heap.size, 49, [.int .i64 a0, .int .i64 b0, .int .i64 a1, .int .i64 b1, .int .i64 a2, .int .i64 b2]), (w.heap.size + 1, 53, [.int .i64 0, .int .i64 0])] ++ [(g2, 110, [.int .i64 (-7), .int .i64 (-1), .int .i64 7, .int .i64 1])]) w3 from HM5.out.sub (by simp))
     have HSN := Lib.hid hs
     clear HM5 hs
     go_wp2_with fail
     go_roundw
     case rel => exact ⟨0 + 1, by omega, rfl, ⟨fun _ => HSN.out, fun h => absurd h (by decide)⟩, HN.out⟩
     case measure => simp [intOf]
   ·obtain ⟨t0, t1, t2, t3⟩ := four_of (HM.out.at_ 2 rfl)
    go_wp2_with fail
    refine (HO2.out _).mono ?_
    rintro e w2 ⟨rfl, hb2⟩
    have HM3 := Lib.hid ((HM.out.new 110 [.int .i64 (7), .int .i64 (1)]).step hb2)
    clear HM hb2 t0 t1 t2 t3
    obtain ⟨g3, hg3⟩ : ∃ g, g = wr.heap.size := ⟨_, rfl⟩
    rw [← hg3] at HM3 ⊢
    have hm4 := HM3.out.new 49 [.int .i64 (7), .int .i64 1, .int .i64 0, .int .i64 1, .int .i64 0, .int .i64 1]
    have HM4 := Lib.hid hm4
    obtain ⟨p0, p1, p2, p3, p4, p5⟩ := six_of (hm4.at_ 0 rfl)
    clear hm4 HM3 hg3
    go_wp2_with fail
    refine (HC2.out _ (HT.out.below HM4.out.below)).mono ?_
    rintro e w3 ⟨rfl, hb3⟩
    have HM5 := Lib.hid (HM4.out.step hb3)
    clear HM4 hb3 p0 p1 p2 p3 p4 p5
    obtain ⟨t0, t1⟩ := two_of (HM5.out.at_ 3 rfl)
    by_cases hs : s2 = 1
    ·have hz : (s2 == 1) = true := by simpa using hs
     have HV := Lib.hid (HFAR.out (Or.inr hs))
     obtain ⟨y0, y1⟩ := two_of (HM5.out.at_ 1 rfl)
     have f0 := (HM5.out.at_ 1 rfl).frozen 0
     have f1 := (HM5.out.at_ 1 rfl).frozen 1
     have HZ := Lib.hid (HM5.out.put2 1 rfl (.int .i64 0) (.int .i64 0))
     clear HM5 hs
     go_wp2_with fail
     exact bodyPost_ret (v := .tuple #[.agg #[.int .i64 0, .int .i64 0], .int .i64 3]) (by simp [results, Tryz.results18, go_sem, y0, y1, f0, f1]) rfl ⟨by rw [HV.out], HZ.out.below⟩
    ·have hz : (s2 == 1) = false := by simpa using hs
     have HN := Lib.hid (show Hp w ([(w.heap.size, 49, [.int .i64 a0, .int .i64 b0, .int .i64 a1, .int .i64 b1, .int .i64 a2, .int .i64 b2]), (w.heap.size + 1, 53, [.int .i64 0, .int .i64 0])] ++ [(g2, 110, [.int .i64 (-7), .int .i64 (-1), .int .i64 7, .int .i64 1])]) w3 from HM5.out.sub (by simp))
     have HSN := Lib.hid hs
     clear HM5 hs
     go_wp2_with fail
     go_roundw
     case rel => exact ⟨1 + 1, by omega, rfl, ⟨fun _ => HS.out.1 (by decide), fun _ => HSN.out⟩, HN.out⟩
     case measure => simp [intOf]
  ·obtain rfl : k = 2 := by omega
   have hn := HOKK.out (fun h => h.elim (HS.out.1 (by decide)) (HS.out.2 (by decide)))
   obtain ⟨n, hn0, hn1, hn2, hV⟩ := hn
   have HSD := Lib.hid (fun (k : Int) (hk : 0 ≤ k) => side_le (m := m) HL0.out hn0.1 hk hn1 hn2)
   have HV := Lib.hid hV
   have HN0 := Lib.hid hn0
   obtain ⟨p0, p1, p2, p3, p4, p5⟩ := six_of (HM.out.at_ 0 rfl)
   clear hn0 hn1 hn2 hV HOKK HFAR HC1 HC2 HO1 HO2 HS hlt hk
   go_wp2_with fail
   refine (HASK.out _ (HT.out.below HM.out.below)).mono ?_
   rintro e w4 ⟨rfl, hb4⟩
   obtain ⟨g3, hg3⟩ : ∃ g, g = w4.heap.size := ⟨_, rfl⟩
   have hm5 := (HM.out.step hb4).new 116 [.int .i64 D, .string BL, .string BR]
   rw [← hg3] at hm5
   simp only [List.nil_append, List.cons_append] at hm5
   have HM5 := Lib.hid hm5
   clear hm5 HM hb4 p0 p1 p2 p3 p4 p5 HASK HCK
   go_wp2_with fail
   rw [← hg3]
   go_loopw [11, 12] (fun u v wr => RsRel w g2 g3 a0 b0 a1 b1 a2 b2 n D BL BR u v wr) (fun u v _ => (intOf v - intOf u).toNat)
   case atStart => exact ⟨0, 128000001, by have := HN0.out; omega, rfl, rfl, HM5.out⟩
   case round =>
    obtain ⟨X, Y, hXY, rfl, rfl, hm⟩ := hrel
    have HM := Lib.hid hm
    have HXY := Lib.hid hXY
    clear hm HM5 hg3
    obtain ⟨q0, q1, q2⟩ := three_of (HM.out.at_ 3 rfl)
    obtain ⟨d, hd⟩ : ∃ d, d = Y - X := ⟨_, rfl⟩
    have hw1 : IntKind.i64.wrap (Y - X) = d := by rw [hd]; exact IntWalk.i64_in _ (by omega)
    by_cases h1 : 1 < d
    ·obtain ⟨t, htt⟩ : ∃ t, t = X + Y := ⟨_, rfl⟩
     obtain ⟨mid, hmid⟩ : ∃ k, k = t / 2 := ⟨_, rfl⟩
     have hw2 : IntKind.i64.wrap (X + Y) = t := by rw [htt]; exact IntWalk.i64_in _ (by omega)
     have hw3 : IntKind.i64.wrap (t.tdiv 2) = mid := by rw [Int.tdiv_eq_ediv_of_nonneg (by omega), ← hmid]; exact IntWalk.i64_in _ (by omega)
     have hmd : X < mid ∧ mid < Y := by omega
     have HMD := Lib.hid hmd
     have hqm := HQ.out mid (by omega) (by omega)
     have hsd := HSD.out mid (by omega)
     obtain ⟨c, hc⟩ : ∃ c, c = sgn (mid ^ m * L - R) := ⟨_, rfl⟩
     rw [← hc] at hqm hsd
     have HQM := Lib.hid hqm
     have HSM := Lib.hid hsd
     clear hXY hd htt hmid hmd hqm hsd hc
     go_wp2_with fail
     refine (HQM.out _ (HT.out.below HM.out.below)).mono ?_
     rintro e w5 ⟨rfl, hb5⟩
     have HM6 := Lib.hid (HM.out.step hb5)
     clear HM hb5 q0 q1 q2
     by_cases hcl : c ≤ 0
     ·have HCL := Lib.hid (HSM.out.1 hcl)
      go_wp2_with fail
      go_roundw
      case rel => exact ⟨mid, Y, by have := HXY.out; have := HMD.out; have := HCL.out; omega, rfl, rfl, HM6.out⟩
      case measure => have := HXY.out; have := HMD.out; simp only [intOf]; omega
     ·have HCL := Lib.hid (show ¬ mid ≤ n from fun h => hcl (HSM.out.2 h))
      go_wp2_with fail
      go_roundw
      case rel => exact ⟨X, mid, by have := HXY.out; have := HMD.out; have := HCL.out; omega, rfl, rfl, HM6.out⟩
      case measure => have := HXY.out; have := HMD.out; simp only [intOf]; omega
    ·obtain rfl : X = n := by omega
     obtain rfl : Y = X + 1 := by omega
     have hqm := HQ.out X (by omega) (by omega)
     obtain ⟨c, hc⟩ : ∃ c, c = sgn (X ^ m * L - R) := ⟨_, rfl⟩
     rw [← hc] at hqm
     have HQM := Lib.hid hqm
     have HC := Lib.hid hc
     obtain ⟨Y, hY⟩ : ∃ y, y = X + 1 := ⟨_, rfl⟩
     rw [← hY] at hw1 HV ⊢
     clear hXY hd hqm hc hY HXY
     go_wp2_with fail
     refine (HQM.out _ (HT.out.below HM.out.below)).mono ?_
     rintro e w5 ⟨rfl, hb5⟩
     have HM6 := Lib.hid (HM.out.step hb5)
     clear HM hb5 q0 q1 q2
     obtain ⟨y0, y1⟩ := two_of (HM6.out.at_ 1 rfl)
     have f0 := (HM6.out.at_ 1 rfl).frozen 0
     have f1 := (HM6.out.at_ 1 rfl).frozen 1
     by_cases hcz : c = 0
     ·have HE := Lib.hid (show X ^ m * L = R by have h2 := HC.out.symm.trans hcz; rw [sgn_eq0] at h2; omega)
      have hcb : (c == 0) = true := by simpa using hcz
      have HZ := Lib.hid (HM6.out.put2 1 rfl (.int .i64 X) (.int .i64 X))
      clear HM6 hcz
      go_wp2_with fail
      exact bodyPost_ret (v := .tuple #[.agg #[.int .i64 X, .int .i64 X], .int .i64 0]) (by simp [results, Tryz.results18, go_sem, y0, y1, f0, f1]) rfl ⟨by rw [HV.out, if_pos HE.out], HZ.out.below⟩
     ·have HE := Lib.hid (show ¬ X ^ m * L = R from fun h => hcz (HC.out.trans (by rw [h, Int.sub_self]; rfl)))
      have hcb : (c == 0) = false := by simpa using hcz
      have HZ := Lib.hid (HM6.out.put2 1 rfl (.int .i64 X) (.int .i64 Y))
      clear HM6 hcz
      go_wp2_with fail
      exact bodyPost_ret (v := .tuple #[.agg #[.int .i64 X, .int .i64 Y], .int .i64 0]) (by simp [results, Tryz.results18, go_sem, y0, y1, f0, f1]) rfl ⟨by rw [HV.out, if_neg HE.out], HZ.out.below⟩
theorem pos_left (x y z : Int) : 0 < rsT 1 (-x).toNat (-y).toNat (-z).toNat 3 := by
 rw [rsT_eq, rsU_nat, Int.one_mul]
 have := Nat.mul_pos (Nat.mul_pos (Nat.pow_pos (n := (-x).toNat) (show 0 < 2 by decide)) (Nat.pow_pos (n := (-y).toNat) (show 0 < 3 by decide))) (Nat.pow_pos (n := (-z).toNat) (show 0 < 5 by decide))
 omega
def gtN (p : Int → Bool) : Nat → Int
 | 0 => 0
 | N + 1 => if p ((N : Int) + 1) then (N : Int) + 1 else gtN p N
theorem gtN_ok {p : Int → Bool} (h0 : p 0 = true) : ∀ N : Nat, (0 ≤ gtN p N ∧ gtN p N ≤ N) ∧ p (gtN p N) = true ∧ ∀ k : Int, gtN p N < k → k ≤ N → p k = false
 | 0 => ⟨⟨Int.le_refl _, Int.le_refl _⟩, h0, fun k h1 h2 => absurd h1 (by show ¬ (0 : Int) < k; have : k ≤ ((0 : Nat) : Int) := h2; omega)⟩
 | N + 1 => by
  obtain ⟨⟨h1, h2⟩, h3, h4⟩ := gtN_ok h0 N
  unfold gtN
  by_cases h : p ((N : Int) + 1) = true
  ·rw [if_pos h]
   exact ⟨⟨by omega, by omega⟩, h, fun k k1 k2 => absurd k1 (by omega)⟩
  ·rw [if_neg h]
   refine ⟨⟨h1, by omega⟩, h3, fun k k1 k2 => ?_⟩
   rcases (show k ≤ (N : Int) ∨ k = (N : Int) + 1 by omega) with k3 | rfl
   ·exact h4 k k1 k3
   ·exact Bool.eq_false_iff.2 h
abbrev qsL (x y z : Int) : Int := rsT 1 (-x).toNat (-y).toNat (-z).toNat 3
abbrev qsR (x y z D : Int) : Int := rsT (1000000 ^ D.toNat) x.toNat y.toNat z.toNat 3
def rtLo (x y z D : Int) : Int := gtN (fun k => decide (k ^ D.toNat * qsL x y z ≤ qsR x y z D)) 128000000
def rtHi (x y z D : Int) : Int := if rtLo x y z D ^ D.toNat * qsL x y z = qsR x y z D then rtLo x y z D else rtLo x y z D + 1
theorem qsR_pos (x y z D : Int) : 0 < qsR x y z D := by
 show 0 < rsT _ _ _ _ 3
 rw [rsT_eq, rsU_nat]
 refine Int.mul_pos (Int.pow_pos (by decide)) ?_
 have := Nat.mul_pos (Nat.mul_pos (Nat.pow_pos (n := x.toNat) (show 0 < 2 by decide)) (Nat.pow_pos (n := y.toNat) (show 0 < 3 by decide))) (Nat.pow_pos (n := z.toNat) (show 0 < 5 by decide))
 omega
theorem far_side {x y z s : Int} (hx : -6000 ≤ x ∧ x ≤ 6000) (hy : -6000 ≤ y ∧ y ≤ 6000) (hz : -6000 ≤ z ∧ z ≤ 6000) (hs : -3000 ≤ s ∧ s ≤ 3000) :
  sgn (rsU x.toNat y.toNat z.toNat 3 * 2 ^ (-s).toNat - rsU (-x).toNat (-y).toNat (-z).toNat 3 * 2 ^ s.toNat) = sgn (lgZ (x - s) y z) := by
 rw [← pow_sgn (x := x - s) (by omega) (by omega) (by omega)]
 have e : x.toNat + (-s).toNat + (-(x - s)).toNat = (-x).toNat + s.toNat + (x - s).toNat := by omega
 obtain ⟨a, ha⟩ : ∃ a, a = x.toNat := ⟨_, rfl⟩
 obtain ⟨a', ha'⟩ : ∃ a, a = (-x).toNat := ⟨_, rfl⟩
 obtain ⟨u, hu⟩ : ∃ a, a = s.toNat := ⟨_, rfl⟩
 obtain ⟨u', hu'⟩ : ∃ a, a = (-s).toNat := ⟨_, rfl⟩
 obtain ⟨c, hc⟩ : ∃ a, a = (x - s).toNat := ⟨_, rfl⟩
 obtain ⟨c', hc'⟩ : ∃ a, a = (-(x - s)).toNat := ⟨_, rfl⟩
 rw [← ha, ← ha', ← hu, ← hu', ← hc, ← hc'] at e ⊢
 obtain ⟨B, hB⟩ : ∃ B : Int, B = 3 ^ y.toNat * 5 ^ z.toNat := ⟨_, rfl⟩
 obtain ⟨C, hC⟩ : ∃ B : Int, B = 3 ^ (-y).toNat * 5 ^ (-z).toNat := ⟨_, rfl⟩
 have f : ∀ (k p q : Nat), rsU k p q 3 = 2 ^ k * (3 ^ p * 5 ^ q) := fun k p q => by
  show (1 : Int) * 2 ^ k * 3 ^ p * 5 ^ q = _
  rw [Int.one_mul, Int.mul_assoc]
 rw [f, f, f, f, ← hB, ← hC]
 have hm : (2 : Int) ^ c' * (2 ^ a * B * 2 ^ u' - 2 ^ a' * C * 2 ^ u) = 2 ^ (a' + u) * (2 ^ c * B - 2 ^ c' * C) := by
  rw [Int.mul_sub, Int.mul_sub]
  have e1 : (2 : Int) ^ c' * (2 ^ a * B * 2 ^ u') = 2 ^ (a + u' + c') * B := by
   rw [Int.pow_add, Int.pow_add]; simp only [Int.mul_comm, Int.mul_left_comm, Int.mul_assoc]
  have e2 : (2 : Int) ^ (a' + u) * (2 ^ c * B) = 2 ^ (a' + u + c) * B := by
   rw [Int.pow_add _ _ c, Int.mul_assoc]
  have e3 : (2 : Int) ^ c' * (2 ^ a' * C * 2 ^ u) = 2 ^ (a' + u) * (2 ^ c' * C) := by
   rw [Int.pow_add]; simp only [Int.mul_comm, Int.mul_left_comm, Int.mul_assoc]
  rw [e1, e2, e3, e]
 rw [← sgn_mul_pos (show (0 : Int) < 2 ^ c' from Int.pow_pos (by decide)), hm, sgn_mul_pos (Int.pow_pos (by decide))]
theorem sgn_neg_iff {x : Int} : sgn x = -1 ↔ x < 0 := by
 unfold sgn
 split
 ·constructor <;> intro <;> omega
 ·split <;> constructor <;> intro <;> omega
theorem sgn_pos_iff {x : Int} : sgn x = 1 ↔ 0 < x := by
 unfold sgn
 split
 ·constructor <;> intro <;> omega
 ·split <;> constructor <;> intro <;> omega
theorem lg_oct (x y z D s : Int) : 1 * lgZ x y z - D * lgZ s 0 0 = lgZ (x - D * s) y z := by
 rw [lg_eq, lg_eq, lg_eq, Int.sub_mul, Int.mul_assoc, Int.one_mul]
 simp only [Int.zero_mul, Int.add_zero]
 omega
theorem qs_eq (x y z D : Int) : qsL x y z = rsU (-x).toNat (-y).toNat (-z).toNat 3 ∧ qsR x y z D = 1000000 ^ D.toNat * rsU x.toNat y.toNat z.toNat 3 := by
 constructor
 ·show rsT 1 _ _ _ 3 = _
  rw [rsT_eq, Int.one_mul]
 ·show rsT _ _ _ _ 3 = _
  rw [rsT_eq]
theorem rtLo_ok {x y z D : Int} (hx : -6000 ≤ x ∧ x ≤ 6000) (hy : -6000 ≤ y ∧ y ≤ 6000) (hz : -6000 ≤ z ∧ z ≤ 6000) (hD : 1 ≤ D ∧ D ≤ 240)
  (h : ¬ (sgn (1 * lgZ x y z - D * lgZ (-7) 0 0) = -1 ∨ sgn (1 * lgZ x y z - D * lgZ 7 0 0) = 1)) :
  (1 ≤ rtLo x y z D ∧ rtLo x y z D ≤ 128000000) ∧ rtLo x y z D ^ D.toNat * qsL x y z ≤ qsR x y z D ∧ qsR x y z D < (rtLo x y z D + 1) ^ D.toNat * qsL x y z := by
 rw [lg_oct, lg_oct, sgn_neg_iff, sgn_pos_iff] at h
 have a1 := far_side (x := x) (y := y) (z := z) (s := D * -7) hx hy hz (by omega)
 have a2 := far_side (x := x) (y := y) (z := z) (s := D * 7) hx hy hz (by omega)
 obtain ⟨m, hm⟩ : ∃ m : Nat, D = (m : Int) := ⟨D.toNat, by omega⟩
 have hm1 : D.toNat = m := by omega
 have k1 : (-(D * -7)).toNat = 7 * m := by omega
 have k2 : (D * -7).toNat = 0 := by omega
 have k3 : (-(D * 7)).toNat = 0 := by omega
 have k4 : (D * 7).toNat = 7 * m := by omega
 obtain ⟨q1, q2⟩ := qs_eq x y z D
 rw [k1, k2, Int.pow_zero, Int.mul_one] at a1
 rw [k3, k4, Int.pow_zero, Int.mul_one] at a2
 rw [← q1] at a1 a2
 obtain ⟨L, hL⟩ : ∃ l, l = qsL x y z := ⟨_, rfl⟩
 obtain ⟨R, hR⟩ : ∃ l, l = qsR x y z D := ⟨_, rfl⟩
 obtain ⟨U, hU⟩ : ∃ l, l = rsU x.toNat y.toNat z.toNat 3 := ⟨_, rfl⟩
 have hLp : 0 < L := by rw [hL]; exact pos_left x y z
 have hRp : 0 < R := by rw [hR]; exact qsR_pos x y z D
 rw [← hR, ← hU, hm1] at q2
 rw [← hL, ← hU] at a1 a2
 have b1 : L ≤ U * 2 ^ (7 * m) := by
  rcases Int.lt_or_le (U * 2 ^ (7 * m)) L with h1 | h1
  ·exact absurd (Or.inl (sgn_neg_iff.1 (a1.symm.trans (sgn_neg_iff.2 (by omega))))) h
  ·exact h1
 have b2 : U ≤ L * 2 ^ (7 * m) := by
  rcases Int.lt_or_le (L * 2 ^ (7 * m)) U with h1 | h1
  ·exact absurd (Or.inr (sgn_pos_iff.1 (a2.symm.trans (sgn_pos_iff.2 (by omega))))) h
  ·exact h1
 have p7 : (2 : Int) ^ (7 * m) = 128 ^ m := by rw [Int.pow_mul]; rfl
 rw [p7] at b1 b2
 have hUp : 0 ≤ U := by rw [hU, rsU_nat]; exact Int.natCast_nonneg _
 have c0 : (0 : Int) ^ m * L ≤ R := by
  rcases m with _ | m
  ·omega
  ·rw [Int.pow_succ, Int.mul_zero, Int.zero_mul]; omega
 have c1 : (1 : Int) ^ m * L ≤ R := by
  rw [Int.one_pow, Int.one_mul, q2, Int.mul_comm]
  refine Int.le_trans b1 (Int.mul_le_mul_of_nonneg_left (pow_mono_int (by decide) (by decide) m) hUp)
 have c2 : R < (128000000 + 1 : Int) ^ m * L := by
  have e1 : R ≤ 128000000 ^ m * L := by
   rw [q2, show (128000000 : Int) = 1000000 * 128 by decide, Int.mul_pow, Int.mul_assoc, Int.mul_comm (128 ^ m) L]
   exact Int.mul_le_mul_of_nonneg_left b2 (Int.pow_nonneg (by decide))
  have e2 : (128000000 : Int) ^ m < (128000000 + 1) ^ m := by
   rw [show (128000000 + 1 : Int) = ((128000001 : Nat) : Int) by decide, show (128000000 : Int) = ((128000000 : Nat) : Int) by decide, ← Int.natCast_pow, ← Int.natCast_pow]
   exact Int.ofNat_lt.2 (Nat.pow_lt_pow_left (by decide) (by omega))
  exact Int.lt_of_le_of_lt e1 (Int.mul_lt_mul_of_pos_right e2 hLp)
 obtain ⟨p, hp⟩ : ∃ p : Int → Bool, p = fun k => decide (k ^ D.toNat * qsL x y z ≤ qsR x y z D) := ⟨_, rfl⟩
 have hpk : ∀ k, p k = true ↔ k ^ m * L ≤ R := fun k => by rw [hp, hL, hR, hm1]; exact decide_eq_true_iff
 have hlo : rtLo x y z D = gtN p 128000000 := by rw [hp]; rfl
 obtain ⟨⟨g1, g2⟩, g3, g4⟩ := gtN_ok (p := p) ((hpk 0).2 c0) 128000000
 rw [← hlo] at g1 g2 g3 g4
 rw [hm1, ← hL, ← hR]
 have g2' : rtLo x y z D ≤ 128000000 := g2
 refine ⟨⟨?_, g2'⟩, (hpk _).1 g3, ?_⟩
 ·rcases Int.lt_or_le (rtLo x y z D) 1 with h1 | h1
  ·have := g4 1 h1 (by decide)
   rw [(hpk 1).2 c1] at this; cases this
  ·exact h1
 ·rcases (show rtLo x y z D = 128000000 ∨ rtLo x y z D < 128000000 by omega) with h1 | h1
  ·rw [h1]; exact c2
  ·have := g4 (rtLo x y z D + 1) (by omega) (by show _ ≤ (128000000 : Int); omega)
   rcases Int.lt_or_le R ((rtLo x y z D + 1) ^ m * L) with h2 | h2
   ·exact h2
   ·rw [(hpk _).2 h2] at this; cases this
theorem rt_uniq {m : Nat} {L R a b : Int} (hL : 0 ≤ L) (ha : 0 ≤ a) (hb : 0 ≤ b) (a1 : a ^ m * L ≤ R) (a2 : R < (a + 1) ^ m * L) (b1 : b ^ m * L ≤ R) (b2 : R < (b + 1) ^ m * L) : a = b := by
 have h1 := (side_le hL hb ha b1 b2).1 (by rw [sgn_le0]; omega)
 have h2 := (side_le hL ha hb a1 a2).1 (by rw [sgn_le0]; omega)
 omega
def rtV (x y z D : Int) : Value :=
 if lgZ (x + 7 * D) y z < 0 ∨ 0 < lgZ (x - 7 * D) y z then .tuple #[.agg #[.int .i64 0, .int .i64 0], .int .i64 3] else .tuple #[.agg #[.int .i64 (rtLo x y z D), .int .i64 (rtHi x y z D)], .int .i64 0]
theorem far_iff (x y z D : Int) : (sgn (1 * lgZ x y z - D * lgZ (-7) 0 0) = -1 ∨ sgn (1 * lgZ x y z - D * lgZ 7 0 0) = 1) ↔ (lgZ (x + 7 * D) y z < 0 ∨ 0 < lgZ (x - 7 * D) y z) := by
 rw [lg_oct, lg_oct, sgn_neg_iff, sgn_pos_iff, show x - D * -7 = x + 7 * D by omega, show x - D * 7 = x - 7 * D by omega]
theorem ratio_all (a0 b0 a1 b1 a2 b2 x y z D : Int) (w : World) (ht : Tab w) (hS : ∀ q ∈ [(a0, b0), (a1, b1), (a2, b2)], Right q.1 q.2) (hp : prt [(a0, b0), (a1, b1), (a2, b2)] = some ([x, y, z], D)) :
  Calls Tryz.prog 18 #[szv a0 b0 a1 b1 a2 b2] w fun e w' => e = .returned (rtV x y z D) ∧ Below w.heap.size w w' := by
 obtain ⟨E1, E2, _, _, _, ⟨_, _, r3⟩, _, bx, by_, bz⟩ := prt_inv hS hp
 refine ratio_walk a0 b0 a1 b1 a2 b2 x y z D (rtV x y z D) w ht hS hp ?_ ?_
 ·intro h
  exact if_pos ((far_iff x y z D).1 h)
 ·intro h
  obtain ⟨⟨h1, h2⟩, h3, h4⟩ := rtLo_ok bx by_ bz r3 h
  exact ⟨rtLo x y z D, ⟨by omega, h2⟩, h3, h4, if_neg (fun k => h ((far_iff x y z D).2 k))⟩
theorem rsU_pow (a b c m : Nat) : rsU a b c 3 ^ m = rsU (a * m) (b * m) (c * m) 3 := by
 rw [rsU_nat, rsU_nat, ← Int.natCast_pow, Nat.mul_pow, Nat.mul_pow, Nat.pow_mul, Nat.pow_mul, Nat.pow_mul]
theorem toNat_mul' (x : Int) (m : Nat) : x.toNat * m = (x * m).toNat := by
 rcases Int.lt_or_le x 0 with h | h
 ·have h1 : x * m ≤ 0 := Int.mul_nonpos_of_nonpos_of_nonneg (by omega) (by omega)
  rw [show x.toNat = 0 by omega, Nat.zero_mul]; omega
 ·obtain ⟨k, rfl⟩ : ∃ k : Nat, x = (k : Int) := ⟨x.toNat, by omega⟩
  rw [Int.toNat_natCast, ← Int.natCast_mul, Int.toNat_natCast]
theorem qs_pow (x y z D : Int) (m : Nat) : qsL x y z ^ m = qsL (x * m) (y * m) (z * m) ∧ qsR x y z D ^ m = qsR (x * m) (y * m) (z * m) (D * m) := by
 obtain ⟨q1, q2⟩ := qs_eq x y z D
 obtain ⟨q3, q4⟩ := qs_eq (x * m) (y * m) (z * m) (D * m)
 rw [q1, q2, q3, q4, Int.mul_pow, rsU_pow, rsU_pow, ← Int.pow_mul]
 have e : ∀ k : Int, (-k).toNat * m = (-(k * m)).toNat := fun k => by rw [toNat_mul', Int.neg_mul]
 rw [e, e, e, toNat_mul', toNat_mul', toNat_mul', toNat_mul']
 exact ⟨rfl, rfl⟩
theorem pow_le_iff {a b : Int} (ha : 0 ≤ a) (hb : 0 ≤ b) {m : Nat} (hm : 0 < m) : a ^ m ≤ b ^ m ↔ a ≤ b := by
 obtain ⟨u, rfl⟩ : ∃ k : Nat, a = (k : Int) := ⟨a.toNat, by omega⟩
 obtain ⟨v, rfl⟩ : ∃ k : Nat, b = (k : Int) := ⟨b.toNat, by omega⟩
 rw [← Int.natCast_pow, ← Int.natCast_pow, Int.ofNat_le, Int.ofNat_le]
 exact Nat.pow_le_pow_iff_left (by omega)
theorem qs_tim {x y z D k : Int} (hD : 1 ≤ D) (hk : 0 ≤ k) {m : Nat} (hm : 0 < m) :
  (k ^ (D * m).toNat * qsL (x * m) (y * m) (z * m) ≤ qsR (x * m) (y * m) (z * m) (D * m) ↔ k ^ D.toNat * qsL x y z ≤ qsR x y z D) := by
 obtain ⟨q1, q2⟩ := qs_pow x y z D m
 rw [← q1, ← q2, ← toNat_mul', Int.pow_mul, ← Int.mul_pow]
 exact pow_le_iff (Int.mul_nonneg (Int.pow_nonneg hk) (Int.le_of_lt (pos_left x y z))) (Int.le_of_lt (qsR_pos x y z D)) hm
theorem qs_same {x y z D X Y Z E k : Int} (hD : 1 ≤ D) (hE : 1 ≤ E) (hk : 0 ≤ k) (h0 : X * D = x * E) (h1 : Y * D = y * E) (h2 : Z * D = z * E) :
  (k ^ E.toNat * qsL X Y Z ≤ qsR X Y Z E ↔ k ^ D.toNat * qsL x y z ≤ qsR x y z D) := by
 obtain ⟨d, rfl⟩ : ∃ d : Nat, D = (d : Int) := ⟨D.toNat, by omega⟩
 obtain ⟨e, rfl⟩ : ∃ d : Nat, E = (d : Int) := ⟨E.toNat, by omega⟩
 rw [← qs_tim (x := X) (y := Y) (z := Z) hE hk (m := d) (by omega), ← qs_tim (x := x) (y := y) (z := z) hD hk (m := e) (by omega), h0, h1, h2, Int.mul_comm (e : Int) d]
theorem qs_same' {x y z D X Y Z E k : Int} (hD : 1 ≤ D) (hE : 1 ≤ E) (hk : 0 ≤ k) (h0 : X * D = x * E) (h1 : Y * D = y * E) (h2 : Z * D = z * E) :
  (k ^ E.toNat * qsL X Y Z = qsR X Y Z E ↔ k ^ D.toNat * qsL x y z = qsR x y z D) := by
 obtain ⟨d, rfl⟩ : ∃ d : Nat, D = (d : Int) := ⟨D.toNat, by omega⟩
 obtain ⟨e, rfl⟩ : ∃ d : Nat, E = (d : Int) := ⟨E.toNat, by omega⟩
 have t : ∀ {x y z D : Int} {m : Nat}, 1 ≤ D → 0 < m → (k ^ (D * m).toNat * qsL (x * m) (y * m) (z * m) = qsR (x * m) (y * m) (z * m) (D * m) ↔ k ^ D.toNat * qsL x y z = qsR x y z D) := fun {x y z D m} hD hm => by
  obtain ⟨q1, q2⟩ := qs_pow x y z D m
  rw [← q1, ← q2, ← toNat_mul', Int.pow_mul, ← Int.mul_pow]
  have n1 : 0 ≤ k ^ D.toNat * qsL x y z := Int.mul_nonneg (Int.pow_nonneg hk) (Int.le_of_lt (pos_left x y z))
  have n2 : 0 ≤ qsR x y z D := Int.le_of_lt (qsR_pos x y z D)
  have i1 := pow_le_iff n1 n2 hm
  have i2 := pow_le_iff n2 n1 hm
  constructor
  ·intro h
   have := i1.1 (by omega)
   have := i2.1 (by omega)
   omega
  ·intro h
   rw [h]
 rw [← t (x := X) (y := Y) (z := Z) hE (m := d) (by omega), ← t (x := x) (y := y) (z := z) hD (m := e) (by omega), h0, h1, h2, Int.mul_comm (e : Int) d]
theorem rt_same {x y z D X Y Z E : Int} (hD : 1 ≤ D) (hE : 1 ≤ E) (h0 : X * D = x * E) (h1 : Y * D = y * E) (h2 : Z * D = z * E) : rtLo X Y Z E = rtLo x y z D ∧ rtHi X Y Z E = rtHi x y z D := by
 have e : ∀ (p q : Int → Bool) (N : Nat), (∀ k : Int, 0 ≤ k → p k = q k) → gtN p N = gtN q N := fun p q N h => by
  induction N with
  | zero => rfl
  | succ N ih => unfold gtN; rw [h _ (by omega), ih]
 have hlo : rtLo X Y Z E = rtLo x y z D := e _ _ _ (fun k hk => by
  have := qs_same (k := k) hD hE hk h0 h1 h2
  exact decide_eq_decide.2 this)
 refine ⟨hlo, ?_⟩
 unfold rtHi
 rw [hlo]
 have hn : 0 ≤ rtLo x y z D := by
  have h00 : (0 : Int) ^ D.toNat * qsL x y z ≤ qsR x y z D := by
   have := qsR_pos x y z D
   obtain ⟨n, hn⟩ : ∃ n, D.toNat = n + 1 := ⟨D.toNat - 1, by omega⟩
   rw [hn, Int.pow_succ, Int.mul_zero, Int.zero_mul]; omega
  exact (gtN_ok (p := fun k => decide (k ^ D.toNat * qsL x y z ≤ qsR x y z D)) (decide_eq_true h00) 128000000).1.1
 have := qs_same' (k := rtLo x y z D) hD hE hn h0 h1 h2
 by_cases h : rtLo x y z D ^ D.toNat * qsL x y z = qsR x y z D
 ·rw [if_pos h, if_pos (this.2 h)]
 ·rw [if_neg h, if_neg (fun k => h (this.1 k))]
end Go.Proofs.YtendjepcjmfmfaaGreatDoor
