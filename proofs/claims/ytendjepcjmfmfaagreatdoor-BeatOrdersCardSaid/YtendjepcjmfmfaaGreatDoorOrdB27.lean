/- Part 27 of 47 of the proof of the law: contracts of the functions that it reaches, and plain facts. Conditions: those that each contract names. -/
import Derived.Test.YtendjepcjmfmfaaGreatDoorOrdB07
import Derived.Test.YtendjepcjmfmfaaGreatDoorOrdB19
import Derived.Test.YtendjepcjmfmfaaGreatDoorOrdB22
import Derived.Test.YtendjepcjmfmfaaGreatDoorOrdB26
namespace Go.Proofs.YtendjepcjmfmfaaGreatDoor
section
section
open Go.RowKit
theorem low_mul (n d : Int) (hd : 0 < d) : ∃ g : Int, 0 < g ∧ g * lowN n d = n ∧ g * lowD n d = d ∧ 0 < lowD n d ∧ Nat.gcd (lowN n d).natAbs (lowD n d).natAbs = 1 := by
 have hg : 0 < Nat.gcd n.natAbs d.natAbs := Nat.gcd_pos_of_pos_right _ (by omega)
 have h1 : ((Nat.gcd n.natAbs d.natAbs : Nat) : Int) ∣ n := by rw [← Int.dvd_natAbs]; exact Int.natCast_dvd_natCast.2 (Nat.gcd_dvd_left _ _)
 have h2 : ((Nat.gcd n.natAbs d.natAbs : Nat) : Int) ∣ d := by rw [← Int.dvd_natAbs]; exact Int.natCast_dvd_natCast.2 (Nat.gcd_dvd_right _ _)
 have e1 : ((Nat.gcd n.natAbs d.natAbs : Nat) : Int) * lowN n d = n := Int.mul_tdiv_cancel' h1
 have e2 : ((Nat.gcd n.natAbs d.natAbs : Nat) : Int) * lowD n d = d := Int.mul_tdiv_cancel' h2
 have hp : 0 < lowD n d := by
  rcases Int.lt_or_le 0 (lowD n d) with h | h
  ·exact h
  ·have := Int.mul_nonneg (show (0 : Int) ≤ ((Nat.gcd n.natAbs d.natAbs : Nat) : Int) by omega) (show 0 ≤ -lowD n d by omega)
   rw [Int.mul_neg, e2] at this
   omega
 refine ⟨_, by omega, e1, e2, hp, ?_⟩
 have a1 : Nat.gcd n.natAbs d.natAbs * (lowN n d).natAbs = n.natAbs := by
  have := congrArg Int.natAbs e1
  rw [Int.natAbs_mul] at this
  simpa using this
 have a2 : Nat.gcd n.natAbs d.natAbs * (lowD n d).natAbs = d.natAbs := by
  have := congrArg Int.natAbs e2
  rw [Int.natAbs_mul] at this
  simpa using this
 have a3 : Nat.gcd (Nat.gcd n.natAbs d.natAbs * (lowN n d).natAbs) (Nat.gcd n.natAbs d.natAbs * (lowD n d).natAbs) = Nat.gcd n.natAbs d.natAbs := by rw [a1, a2]
 rw [Nat.gcd_mul_left] at a3
 have a4 : Nat.gcd n.natAbs d.natAbs * Nat.gcd (lowN n d).natAbs (lowD n d).natAbs = Nat.gcd n.natAbs d.natAbs * 1 := by rw [a3, Nat.mul_one]
 exact Nat.eq_of_mul_eq_mul_left hg a4
theorem low_uniq {a b c d : Int} (hb : 0 < b) (hd : 0 < d) (h1 : Nat.gcd a.natAbs b.natAbs = 1) (h2 : Nat.gcd c.natAbs d.natAbs = 1) (h : a * d = c * b) : a = c ∧ b = d := by
 have e := congrArg Int.natAbs h
 rw [Int.natAbs_mul, Int.natAbs_mul] at e
 have k1 : b.natAbs ∣ d.natAbs := Nat.Coprime.dvd_of_dvd_mul_left (k := b.natAbs) (m := a.natAbs) (by rw [Nat.coprime_iff_gcd_eq_one, Nat.gcd_comm]; exact h1) ⟨c.natAbs, by rw [e, Nat.mul_comm]⟩
 have k2 : d.natAbs ∣ b.natAbs := Nat.Coprime.dvd_of_dvd_mul_left (k := d.natAbs) (m := c.natAbs) (by rw [Nat.coprime_iff_gcd_eq_one, Nat.gcd_comm]; exact h2) ⟨a.natAbs, by rw [← e, Nat.mul_comm]⟩
 have k3 := Nat.dvd_antisymm k1 k2
 have hbd : b = d := by omega
 subst hbd
 exact ⟨Int.eq_of_mul_eq_mul_right (by omega) h, rfl⟩
theorem low_cross {n d m e : Int} (hd : 0 < d) (he : 0 < e) (h : n * e = m * d) : lowN n d = lowN m e ∧ lowD n d = lowD m e := by
 obtain ⟨g, hg, h1, h2, h3, h4⟩ := low_mul n d hd
 obtain ⟨k, hk, k1, k2, k3, k4⟩ := low_mul m e he
 refine low_uniq h3 k3 h4 k4 ?_
 have : (g * k) * (lowN n d * lowD m e) = (g * k) * (lowN m e * lowD n d) := by
  calc (g * k) * (lowN n d * lowD m e) = (g * lowN n d) * (k * lowD m e) := by simp only [Int.mul_comm, Int.mul_left_comm, Int.mul_assoc]
   _ = (k * lowN m e) * (g * lowD n d) := by rw [h1, k2, k1, h2, h]
   _ = (g * k) * (lowN m e * lowD n d) := by simp only [Int.mul_comm, Int.mul_left_comm, Int.mul_assoc]
 exact Int.eq_of_mul_eq_mul_left (Int.ne_of_gt (Int.mul_pos hg hk)) this
theorem fmake_low (num den : Int) (hd : 0 < den) : fMake num den = if Right (lowN num den) (lowD num den) then (lowN num den, lowD num den, 0) else (0, 0, 4) := by
 obtain ⟨g, hg, h1, h2, h3, h4⟩ := low_mul num den hd
 have hG : 0 < Nat.gcd num.natAbs den.natAbs := Nat.gcd_pos_of_pos_right _ (by omega)
 have q1 : num.natAbs / Nat.gcd num.natAbs den.natAbs = (lowN num den).natAbs := by
  unfold lowN; rw [Int.natAbs_tdiv]; rfl
 have q2 : den.natAbs / Nat.gcd num.natAbs den.natAbs = (lowD num den).natAbs := by
  unfold lowD; rw [Int.natAbs_tdiv]; rfl
 have hs : num < 0 ↔ lowN num den < 0 := by
  constructor
  ·intro h
   rcases Int.lt_or_le (lowN num den) 0 with k | k
   ·exact k
   ·have := Int.mul_nonneg (Int.le_of_lt hg) k
    omega
  ·intro h
   have := Int.mul_neg_of_pos_of_neg hg h
   omega
 unfold fMake
 rw [if_neg (by omega), q1, q2]
 by_cases hR : Right (lowN num den) (lowD num den)
 ·rw [if_pos hR]
  obtain ⟨r1, r2, r3, r4, r5⟩ := hR
  rw [if_neg (by omega)]
  have : (decide (num < 0) = decide (den < 0)) ↔ ¬ (lowN num den < 0) := by
   rw [show decide (den < 0) = false from decide_eq_false (by omega), decide_eq_false_iff_not, hs]
  congr 1
  ·by_cases k : lowN num den < 0
   ·rw [if_neg (fun hh => this.1 hh k)]; omega
   ·rw [if_pos (this.2 k)]; omega
  ·congr 1
   omega
 ·rw [if_neg hR]
  rw [if_pos]
  apply Decidable.byContradiction
  intro hc
  exact hR ⟨h3, by omega, by omega, by omega, h4⟩
theorem lcmA_dvd {x d : Int} (hx : 1 ≤ x) : x ∣ lcmA x d ∧ d ∣ lcmA x d := by
 obtain ⟨g, hg0⟩ : ∃ g, g = Nat.gcd x.natAbs d.natAbs := ⟨_, rfl⟩
 have hg : 0 < g := by rw [hg0]; exact Nat.gcd_pos_of_pos_left _ (by omega)
 have d1 : (g : Int) ∣ x := by rw [hg0, ← Int.dvd_natAbs]; exact Int.natCast_dvd_natCast.2 (Nat.gcd_dvd_left _ _)
 have d2 : (g : Int) ∣ d := by rw [hg0, ← Int.dvd_natAbs]; exact Int.natCast_dvd_natCast.2 (Nat.gcd_dvd_right _ _)
 obtain ⟨u, hu⟩ := d1
 obtain ⟨v, hv⟩ := d2
 have hq : x / (g : Int) = u := by rw [hu]; exact Int.mul_ediv_cancel_left _ (by omega)
 unfold lcmA
 rw [← hg0, hq]
 constructor
 ·exact ⟨v, by rw [hu, hv]; simp only [Int.mul_comm, Int.mul_left_comm]⟩
 ·exact ⟨u, by rw [Int.mul_comm]⟩
theorem prD_dvd : ∀ {S : List (Int × Int)} {x D : Int}, Mild S → 1 ≤ x → prD S x = some D → x ∣ D ∧ ∀ q ∈ S, q.2 ∣ D
 | [], x, D, _, _, h => by cases h; exact ⟨Int.dvd_refl _, fun q hq => absurd hq List.not_mem_nil⟩
 | (n, d) :: r, x, D, hm, hx, h => by
  have hd := (hm (n, d) List.mem_cons_self).1
  rw [prD_cons hx hd.1] at h
  split at h
  ·cases h
  ·have hl := lcmA_ge hx hd.1
   obtain ⟨h1, h2⟩ := prD_dvd (fun q hq => hm q (List.mem_cons_of_mem _ hq)) (by omega) h
   obtain ⟨k1, k2⟩ := lcmA_dvd (x := x) (d := d) hx
   refine ⟨Int.dvd_trans k1 h1, fun q hq => ?_⟩
   rcases List.mem_cons.1 hq with rfl | hq
   ·exact Int.dvd_trans k2 h1
   ·exact h2 q hq
theorem prN_eq : ∀ {S : List (Int × Int)} {D : Int} {l : List Int}, prN S D = some l → l = S.map (fun q => q.1 * (D / q.2))
 | [], _, l, h => by cases h; rfl
 | (n, d) :: r, D, l, h => by
  unfold prN at h
  split at h
  ·cases h
  ·cases hr : prN r D with
   | none => rw [hr] at h; cases h
   | some t => rw [hr] at h; cases h; rw [prN_eq hr]; rfl
end
section
open Go.RowKit
theorem dvd_of_mul_cop {u v s t : Nat} (h : u * s = v * t) (hc : Nat.gcd u v = 1) : v ∣ s :=
 Nat.Coprime.dvd_of_dvd_mul_left (k := v) (m := u) (by rw [Nat.coprime_iff_gcd_eq_one, Nat.gcd_comm]; exact hc) ⟨t, h⟩
theorem lcmA_min {x d M : Int} (hx : 1 ≤ x) (hd : 1 ≤ d) (h1 : x ∣ M) (h2 : d ∣ M) : lcmA x d ∣ M := by
 obtain ⟨g, hg, e1, e2, hp, hc⟩ := low_mul x d (by omega)
 have hG : 0 < Nat.gcd x.natAbs d.natAbs := Nat.gcd_pos_of_pos_left _ (by omega)
 have hq : x / (Nat.gcd x.natAbs d.natAbs : Int) = lowN x d := by unfold lowN; rw [Int.tdiv_eq_ediv_of_nonneg (by omega)]
 have hl : lcmA x d = lowN x d * d := by unfold lcmA; rw [hq]
 rw [hl]
 obtain ⟨s, hs⟩ := h1
 obtain ⟨t, ht⟩ := h2
 have hx0 : g * (lowN x d * s) = g * (lowD x d * t) := by rw [← Int.mul_assoc, ← Int.mul_assoc, e1, e2, ← hs, ht]
 have hx1 : lowN x d * s = lowD x d * t := Int.eq_of_mul_eq_mul_left (by omega) hx0
 have hx2 : (lowN x d).natAbs * s.natAbs = (lowD x d).natAbs * t.natAbs := by rw [← Int.natAbs_mul, ← Int.natAbs_mul, hx1]
 obtain ⟨k, hk⟩ := Int.natAbs_dvd_natAbs.1 (dvd_of_mul_cop hx2 hc)
 refine ⟨k, ?_⟩
 have e3 : M = (g * lowN x d) * (lowD x d * k) := by rw [e1, ← hk]; exact hs
 have e4 : lowN x d * d * k = lowN x d * (g * lowD x d) * k := by rw [e2]
 rw [e3, e4]
 simp only [Int.mul_left_comm, Int.mul_assoc]
theorem prD_total : ∀ {S : List (Int × Int)} {x M : Int}, Mild S → 1 ≤ x → (1 ≤ M ∧ M ≤ 240) → x ∣ M → (∀ q ∈ S, q.2 ∣ M) → ∃ D, prD S x = some D ∧ D ∣ M ∧ 1 ≤ D
 | [], x, M, _, hx, _, h, _ => ⟨x, rfl, h, hx⟩
 | (n, d) :: r, x, M, hm, hx, hM, h, hS => by
  have hd := (hm (n, d) List.mem_cons_self).1
  have hl := lcmA_min hx hd.1 h (hS (n, d) List.mem_cons_self)
  have hge := lcmA_ge hx hd.1
  have hle := Int.le_of_dvd (by omega) hl
  rw [prD_cons hx hd.1, if_neg (by omega)]
  exact prD_total (fun q hq => hm q (List.mem_cons_of_mem _ hq)) (by omega) hM hl (fun q hq => hS q (List.mem_cons_of_mem _ hq))
theorem prN_total {D : Int} : ∀ {S : List (Int × Int)}, (∀ q ∈ S, -6000 ≤ q.1 * (D / q.2) ∧ q.1 * (D / q.2) ≤ 6000) → prN S D = some (S.map (fun q => q.1 * (D / q.2)))
 | [], _ => rfl
 | (n, d) :: r, h => by
  have h1 : -6000 ≤ n * (D / d) ∧ n * (D / d) ≤ 6000 := h (n, d) List.mem_cons_self
  have h2 := prN_total (S := r) (fun q hq => h q (List.mem_cons_of_mem _ hq))
  show (if n * (D / d) < -6000 ∨ 6000 < n * (D / d) then none else (prN r D).map (n * (D / d) :: ·)) = _
  rw [if_neg (by omega), h2]
  rfl
theorem mul_le_of {a b n M d : Int} (hd : 1 ≤ d) (h : a * d = n * b) (hb : 1 ≤ b ∧ b ≤ M) {K : Int} (h1 : -(K * d) ≤ n * M) (h2 : n * M ≤ K * d) (hK : 0 ≤ K) : -K ≤ a ∧ a ≤ K := by
 constructor
 ·rcases Int.lt_or_le a (-K) with hlt | hle
  ·exfalso
   have e1 : a * d ≤ (-K - 1) * d := Int.mul_le_mul_of_nonneg_right (by omega) (by omega)
   rw [h, Int.sub_mul, Int.neg_mul, Int.one_mul] at e1
   rcases Int.lt_or_le n 0 with hn | hn
   ·have := Int.mul_le_mul_of_nonpos_left (show n ≤ 0 by omega) hb.2
    omega
   ·have := Int.mul_nonneg hn (show 0 ≤ b by omega)
    have h3 := Int.mul_nonneg hK (show 0 ≤ d by omega)
    omega
  ·exact hle
 ·rcases Int.lt_or_le K a with hlt | hle
  ·exfalso
   have e1 : (K + 1) * d ≤ a * d := Int.mul_le_mul_of_nonneg_right (by omega) (by omega)
   rw [h, Int.add_mul, Int.one_mul] at e1
   rcases Int.lt_or_le n 0 with hn | hn
   ·have := Int.mul_neg_of_neg_of_pos hn (show 0 < b by omega)
    have h3 := Int.mul_nonneg hK (show 0 ≤ d by omega)
    omega
   ·have := Int.mul_le_mul_of_nonneg_left hb.2 hn
    omega
  ·exact hle
theorem plan_prt {n0 n1 n2 M : Int} (hM : 1 ≤ M ∧ M ≤ 240) (h0 : -6000 ≤ n0 ∧ n0 ≤ 6000) (h1 : -6000 ≤ n1 ∧ n1 ≤ 6000) (h2 : -6000 ≤ n2 ∧ n2 ≤ 6000) :
  (∀ q ∈ [(lowN n0 M, lowD n0 M), (lowN n1 M, lowD n1 M), (lowN n2 M, lowD n2 M)], Right q.1 q.2) ∧
  ∃ x y z D, prt [(lowN n0 M, lowD n0 M), (lowN n1 M, lowD n1 M), (lowN n2 M, lowD n2 M)] = some ([x, y, z], D) ∧ (1 ≤ D ∧ D ≤ M) ∧ x * M = n0 * D ∧ y * M = n1 * D ∧ z * M = n2 * D := by
 have one : ∀ {n : Int}, -6000 ≤ n ∧ n ≤ 6000 → Right (lowN n M) (lowD n M) ∧ lowD n M ∣ M ∧ lowN n M * M = n * lowD n M := fun {n} hn => by
  obtain ⟨g, hg, e1, e2, hp, hc⟩ := low_mul n M (by omega)
  have hdv : lowD n M ∣ M := ⟨g, by rw [Int.mul_comm]; exact e2.symm⟩
  have hdl := Int.le_of_dvd (by omega) hdv
  have hnb : (lowN n M).natAbs ≤ n.natAbs := by unfold lowN; rw [Int.natAbs_tdiv]; exact Nat.div_le_self _ _
  refine ⟨⟨hp, by omega, by omega, by omega, hc⟩, hdv, ?_⟩
  have e3 : lowN n M * M = lowN n M * (g * lowD n M) := by rw [e2]
  have e4 : n * lowD n M = (g * lowN n M) * lowD n M := by rw [e1]
  rw [e3, e4]
  simp only [Int.mul_left_comm, Int.mul_assoc]
 obtain ⟨r0, d0, c0⟩ := one h0
 obtain ⟨r1, d1, c1⟩ := one h1
 obtain ⟨r2, d2, c2⟩ := one h2
 clear one
 obtain ⟨p0, hp0⟩ : ∃ p, p = lowN n0 M := ⟨_, rfl⟩
 obtain ⟨q0, hq0⟩ : ∃ p, p = lowD n0 M := ⟨_, rfl⟩
 obtain ⟨p1, hp1⟩ : ∃ p, p = lowN n1 M := ⟨_, rfl⟩
 obtain ⟨q1, hq1⟩ : ∃ p, p = lowD n1 M := ⟨_, rfl⟩
 obtain ⟨p2, hp2⟩ : ∃ p, p = lowN n2 M := ⟨_, rfl⟩
 obtain ⟨q2, hq2⟩ : ∃ p, p = lowD n2 M := ⟨_, rfl⟩
 rw [← hp0, ← hq0] at r0 c0 ⊢
 rw [← hp1, ← hq1] at r1 c1 ⊢
 rw [← hp2, ← hq2] at r2 c2 ⊢
 rw [← hq0] at d0
 rw [← hq1] at d1
 rw [← hq2] at d2
 have hall : ∀ q ∈ [(p0, q0), (p1, q1), (p2, q2)], Right q.1 q.2 := fun q hq => by
  simp only [List.mem_cons, List.not_mem_nil, or_false] at hq
  rcases hq with rfl | rfl | rfl
  ·exact r0
  ·exact r1
  ·exact r2
 have hdv : ∀ q ∈ [(p0, q0), (p1, q1), (p2, q2)], q.2 ∣ M := fun q hq => by
  simp only [List.mem_cons, List.not_mem_nil, or_false] at hq
  rcases hq with rfl | rfl | rfl
  ·exact d0
  ·exact d1
  ·exact d2
 refine ⟨hall, ?_⟩
 obtain ⟨D, hD, hDM, hD1⟩ := prD_total (right_mild hall) (by decide) hM ⟨M, (Int.one_mul M).symm⟩ hdv
 have hDl := Int.le_of_dvd (by omega) hDM
 have hDdv := (prD_dvd (right_mild hall) (by decide) hD).2
 have key : ∀ {n p q : Int}, -6000 ≤ n ∧ n ≤ 6000 → Right p q → q ∣ D → p * M = n * q → p * (D / q) * M = n * D ∧ (-6000 ≤ p * (D / q) ∧ p * (D / q) ≤ 6000) := fun {n p q} hn hr hq hc => by
  obtain ⟨hr0, _⟩ := hr
  have e : p * (D / q) * M = n * D := by
   have e1 : p * (D / q) * M = (p * M) * (D / q) := by simp only [Int.mul_comm, Int.mul_left_comm]
   rw [e1, hc, Int.mul_assoc, Int.mul_ediv_cancel' hq]
  refine ⟨e, mul_le_of (n := n) (M := M) (by omega) e ⟨hD1, hDl⟩ ?_ ?_ (by decide)⟩
  ·have := Int.mul_le_mul_of_nonneg_right hn.1 (show 0 ≤ M by omega)
   omega
  ·exact Int.mul_le_mul_of_nonneg_right hn.2 (by omega)
 obtain ⟨k0, b0⟩ := key h0 r0 (hDdv (p0, q0) (by simp)) c0
 obtain ⟨k1, b1⟩ := key h1 r1 (hDdv (p1, q1) (by simp)) c1
 obtain ⟨k2, b2⟩ := key h2 r2 (hDdv (p2, q2) (by simp)) c2
 refine ⟨p0 * (D / q0), p1 * (D / q1), p2 * (D / q2), D, ?_, ⟨hD1, hDl⟩, k0, k1, k2⟩
 unfold prt
 rw [hD]
 have hN := prN_total (S := [(p0, q0), (p1, q1), (p2, q2)]) (D := D) (fun q hq => by
  simp only [List.mem_cons, List.not_mem_nil, or_false] at hq
  rcases hq with rfl | rfl | rfl
  ·exact b0
  ·exact b1
  ·exact b2)
 simp only [hN, Option.map_some, List.map_cons, List.map_nil]
end
end
section
open Go.RowKit
theorem ediv_cross {p q r s : Int} (hq : 0 < q) (hs : 0 < s) (h : p * s ≤ r * q) : p / q ≤ r / s := by
 rw [Int.le_ediv_iff_mul_le hs]
 have h1 := Int.ediv_mul_le p (show q ≠ 0 by omega)
 have h2 := Int.mul_le_mul_of_nonneg_right h1 (show 0 ≤ s by omega)
 have h3 : (p / q * s) * q ≤ r * q := by
  rw [Int.mul_right_comm]
  exact Int.le_trans h2 h
 exact Int.le_of_mul_le_mul_right h3 hq
end
end Go.Proofs.YtendjepcjmfmfaaGreatDoor
namespace Go.Proofs.YtendjepcjmfmfaaGreatDoor
open Go.RowKit
theorem low_i64 {n d M : Int} (hn : -M ≤ n ∧ n ≤ M) (hd : -M ≤ d ∧ d ≤ M) (hM : M ≤ 9223372036854775807) : I64 (lowN n d) ∧ I64 (lowD n d) := by
 have h1 : (lowN n d).natAbs ≤ n.natAbs := by unfold lowN; rw [Int.natAbs_tdiv]; exact Nat.div_le_self _ _
 have h2 : (lowD n d).natAbs ≤ d.natAbs := by unfold lowD; rw [Int.natAbs_tdiv]; exact Nat.div_le_self _ _
 exact ⟨⟨by omega, by omega⟩, by omega, by omega⟩
theorem right_bd {a b : Int} (h : Right a b) : (-1000000 ≤ a ∧ a ≤ 1000000) ∧ (-1000000 ≤ b ∧ b ≤ 1000000) := ⟨⟨h.2.2.1, h.2.2.2.1⟩, by have := h.1; omega, h.2.1⟩
theorem right_i64 {a b : Int} (h : Right a b) : I64 a ∧ I64 b := by
 obtain ⟨⟨h1, h2⟩, h3, h4⟩ := right_bd h
 exact ⟨⟨by omega, by omega⟩, by omega, by omega⟩
theorem ivE_right {a0 b0 a1 b1 a2 b2 : Int} (h : ivE [(a0, b0), (a1, b1), (a2, b2)] = 0) : Right a0 b0 ∧ Right a1 b1 ∧ Right a2 b2 := by
 have h1 : ∀ q ∈ [(a0, b0), (a1, b1), (a2, b2)], Right q.1 q.2 := by
  apply Decidable.byContradiction
  intro hc
  unfold ivE at h
  rw [if_neg hc] at h
  exact absurd h (by decide)
 exact ⟨h1 (a0, b0) (by simp), h1 (a1, b1) (by simp), h1 (a2, b2) (by simp)⟩
theorem ivR_form (n0 d0 n1 d1 n2 d2 : Int) : ∃ s0 s1 s2 s3 s4 s5 q, ivR n0 d0 n1 d1 n2 d2 = .tuple #[szv s0 s1 s2 s3 s4 s5, .int .i64 q] := by
 unfold ivR; split
 ·exact ⟨_, _, _, _, _, _, _, rfl⟩
 ·exact ⟨_, _, _, _, _, _, _, rfl⟩
theorem eaAdd {a b c d : Int} (hab : Right a b) (hcd : Right c d) : EaFn 150 a b c d (lowN (a * d + c * b) (b * d)) (lowD (a * d + c * b) (b * d)) ∧ I64 (lowN (a * d + c * b) (b * d)) ∧ I64 (lowD (a * d + c * b) (b * d)) := by
 have hd : 0 < b * d := Int.mul_pos hab.1 hcd.1
 have h := fun W => fAdd_any a b c d W hab hcd
 rw [fmake_low _ _ hd] at h
 obtain ⟨⟨x1, x2⟩, x3, x4⟩ := right_bd hab
 obtain ⟨⟨y1, y2⟩, y3, y4⟩ := right_bd hcd
 have m1 := mul_bd x1 x2 y3 y4
 have m2 := mul_bd y1 y2 x3 x4
 have m3 := mul_bd x3 x4 y3 y4
 have m4 := mul_bd x1 x2 y1 y2
 refine ⟨?_, low_i64 (M := 4000000000000) (by omega) (by omega) (by decide)⟩
 by_cases hR : Right (lowN (a * d + c * b) (b * d)) (lowD (a * d + c * b) (b * d))
 ·rw [if_pos hR] at h
  exact .inl ⟨hR, h⟩
 ·rw [if_neg hR] at h
  exact .inr ⟨hR, h⟩
theorem eaSub {a b c d : Int} (hab : Right a b) (hcd : Right c d) : EaFn 99 a b c d (lowN (a * d - c * b) (b * d)) (lowD (a * d - c * b) (b * d)) ∧ I64 (lowN (a * d - c * b) (b * d)) ∧ I64 (lowD (a * d - c * b) (b * d)) := by
 have hd : 0 < b * d := Int.mul_pos hab.1 hcd.1
 have h := fun W => fSub_any a b c d W hab hcd
 rw [fmake_low _ _ hd] at h
 obtain ⟨⟨x1, x2⟩, x3, x4⟩ := right_bd hab
 obtain ⟨⟨y1, y2⟩, y3, y4⟩ := right_bd hcd
 have m1 := mul_bd x1 x2 y3 y4
 have m2 := mul_bd y1 y2 x3 x4
 have m3 := mul_bd x3 x4 y3 y4
 have m4 := mul_bd x1 x2 y1 y2
 refine ⟨?_, low_i64 (M := 4000000000000) (by omega) (by omega) (by decide)⟩
 by_cases hR : Right (lowN (a * d - c * b) (b * d)) (lowD (a * d - c * b) (b * d))
 ·rw [if_pos hR] at h
  exact .inl ⟨hR, h⟩
 ·rw [if_neg hR] at h
  exact .inr ⟨hR, h⟩
theorem eaMul {a b c d : Int} (hab : Right a b) (hcd : Right c d) : EaFn 98 a b c d (lowN (a * c) (b * d)) (lowD (a * c) (b * d)) ∧ I64 (lowN (a * c) (b * d)) ∧ I64 (lowD (a * c) (b * d)) := by
 have hd : 0 < b * d := Int.mul_pos hab.1 hcd.1
 have h := fun W => fMul_any a b c d W hab hcd
 rw [fmake_low _ _ hd] at h
 obtain ⟨⟨x1, x2⟩, x3, x4⟩ := right_bd hab
 obtain ⟨⟨y1, y2⟩, y3, y4⟩ := right_bd hcd
 have m1 := mul_bd x1 x2 y3 y4
 have m2 := mul_bd y1 y2 x3 x4
 have m3 := mul_bd x3 x4 y3 y4
 have m4 := mul_bd x1 x2 y1 y2
 refine ⟨?_, low_i64 (M := 4000000000000) (by omega) (by omega) (by decide)⟩
 by_cases hR : Right (lowN (a * c) (b * d)) (lowD (a * c) (b * d))
 ·rw [if_pos hR] at h
  exact .inl ⟨hR, h⟩
 ·rw [if_neg hR] at h
  exact .inr ⟨hR, h⟩
set_option maxRecDepth 100000 in
set_option maxHeartbeats 4000000 in
theorem iAdd_any (a0 b0 a1 b1 a2 b2 c0 d0 c1 d1 c2 d2 : Int) (w : World) (h1 : ivE [(a0, b0), (a1, b1), (a2, b2)] = 0) (h2 : ivE [(c0, d0), (c1, d1), (c2, d2)] = 0) :
  Calls Tryz.prog 123 #[szv a0 b0 a1 b1 a2 b2, szv c0 d0 c1 d1 c2 d2] w fun e w' => e = .returned (ivR (lowN (a0 * d0 + c0 * b0) (b0 * d0)) (lowD (a0 * d0 + c0 * b0) (b0 * d0)) (lowN (a1 * d1 + c1 * b1) (b1 * d1)) (lowD (a1 * d1 + c1 * b1) (b1 * d1)) (lowN (a2 * d2 + c2 * b2) (b2 * d2)) (lowD (a2 * d2 + c2 * b2) (b2 * d2))) ∧ Below w.heap.size w w' := by
 obtain ⟨r0, r1, r2⟩ := ivE_right h1
 obtain ⟨s0, s1, s2⟩ := ivE_right h2
 have hb := fun W => iboth_any a0 b0 a1 b1 a2 b2 c0 d0 c1 d1 c2 d2 W (right_i64 r0).1 (right_i64 r0).2 (right_i64 r1).1 (right_i64 r1).2 (right_i64 r2).1 (right_i64 r2).2 (right_i64 s0).1 (right_i64 s0).2 (right_i64 s1).1 (right_i64 s1).2 (right_i64 s2).1 (right_i64 s2).2
 rw [if_neg (fun k => k h1), h2] at hb
 obtain ⟨x0, x1, x2⟩ := eaAdd r0 s0
 obtain ⟨y0, y1, y2⟩ := eaAdd r1 s1
 obtain ⟨z0, z1, z2⟩ := eaAdd r2 s2
 have he := fun W => ieachAdd_any a0 b0 a1 b1 a2 b2 c0 d0 c1 d1 c2 d2 _ _ _ _ _ _ W x0 y0 z0 x1 x2 y1 y2 z1 z2
 obtain ⟨t0, t1, t2, t3, t4, t5, q, hrr⟩ := ivR_form (lowN (a0 * d0 + c0 * b0) (b0 * d0)) (lowD (a0 * d0 + c0 * b0) (b0 * d0)) (lowN (a1 * d1 + c1 * b1) (b1 * d1)) (lowD (a1 * d1 + c1 * b1) (b1 * d1)) (lowN (a2 * d2 + c2 * b2) (b2 * d2)) (lowD (a2 * d2 + c2 * b2) (b2 * d2))
 rw [hrr] at he ⊢
 have HB := Lib.hid hb
 have HE := Lib.hid he
 clear hb he hrr x0 x1 x2 y0 y1 y2 z0 z1 z2 r0 r1 r2 s0 s1 s2 h1 h2
 have hM0 : Hp w [(w.heap.size, 49, [.int .i64 a0, .int .i64 b0, .int .i64 a1, .int .i64 b1, .int .i64 a2, .int .i64 b2]), (w.heap.size + 1, 49, [.int .i64 c0, .int .i64 d0, .int .i64 c1, .int .i64 d1, .int .i64 c2, .int .i64 d2]), (w.heap.size + 1 + 1, 49, [.int .i64 0, .int .i64 0, .int .i64 0, .int .i64 0, .int .i64 0, .int .i64 0])] (((w.alloc (.cells #[.int .i64 a0, .int .i64 b0, .int .i64 a1, .int .i64 b1, .int .i64 a2, .int .i64 b2] 49)).alloc (.cells #[.int .i64 c0, .int .i64 d0, .int .i64 c1, .int .i64 d1, .int .i64 c2, .int .i64 d2] 49)).alloc (.cells #[.int .i64 0, .int .i64 0, .int .i64 0, .int .i64 0, .int .i64 0, .int .i64 0] 49)) := by
  have h := (((Hp.start w).new 49 [.int .i64 a0, .int .i64 b0, .int .i64 a1, .int .i64 b1, .int .i64 a2, .int .i64 b2]).new 49 [.int .i64 c0, .int .i64 d0, .int .i64 c1, .int .i64 d1, .int .i64 c2, .int .i64 d2]).new 49 [.int .i64 0, .int .i64 0, .int .i64 0, .int .i64 0, .int .i64 0, .int .i64 0]
  simp only [World.size_alloc] at h
  exact h
 have HM0 := Lib.hid hM0
 clear hM0
 go_enter Tryz.func123, Tryz.ntmps123
 go_wp2_with fail
 refine (HB.out _).mono ?_
 rintro e W0 ⟨rfl, hb⟩
 have HM1 := Lib.hid (HM0.out.step hb)
 clear hb HM0
 obtain ⟨e0, e1, e2, e3, e4, e5⟩ := six_of (HM1.out.at_ 0 rfl)
 obtain ⟨f0, f1, f2, f3, f4, f5⟩ := six_of (HM1.out.at_ 1 rfl)
 go_wp2_with fail
 refine (HE.out _).mono ?_
 rintro e W1 ⟨rfl, hb⟩
 have HMZ := Lib.hid (HM1.out.step hb)
 clear hb HM1 e0 e1 e2 e3 e4 e5 f0 f1 f2 f3 f4 f5
 obtain ⟨e0, e1, e2, e3, e4, e5⟩ := six_of (HMZ.out.at_ 2 rfl)
 obtain ⟨f0, f1, f2, f3, f4, f5⟩ := six_free (HMZ.out.at_ 2 rfl)
 go_wp2
 obtain ⟨WZ, hWZ⟩ : ∃ WZ, WZ = (((((W1.setCell ⟨w.heap.size + 1 + 1, 0, none⟩ (.int .i64 t0)).setCell ⟨w.heap.size + 1 + 1, 1, none⟩ (.int .i64 t1)).setCell ⟨w.heap.size + 1 + 1, 2, none⟩ (.int .i64 t2)).setCell ⟨w.heap.size + 1 + 1, 3, none⟩ (.int .i64 t3)).setCell ⟨w.heap.size + 1 + 1, 4, none⟩ (.int .i64 t4)).setCell ⟨w.heap.size + 1 + 1, 5, none⟩ (.int .i64 t5) := ⟨_, rfl⟩
 have hz := HMZ.out.put6 2 rfl (.int .i64 t0) (.int .i64 t1) (.int .i64 t2) (.int .i64 t3) (.int .i64 t4) (.int .i64 t5)
 rw [← hWZ] at hz ⊢
 obtain ⟨g0, g1, g2, g3, g4, g5⟩ := six_of (hz.at_ 2 rfl)
 exact bodyPost_ret (v := .tuple #[szv t0 t1 t2 t3 t4 t5, .int .i64 q]) (by simp [g0, g1, g2, g3, g4, g5, results, Tryz.results123, go_sem]) rfl ⟨rfl, hz.below⟩
set_option maxRecDepth 100000 in
set_option maxHeartbeats 4000000 in
theorem iSub_any (a0 b0 a1 b1 a2 b2 c0 d0 c1 d1 c2 d2 : Int) (w : World) (h1 : ivE [(a0, b0), (a1, b1), (a2, b2)] = 0) (h2 : ivE [(c0, d0), (c1, d1), (c2, d2)] = 0) :
  Calls Tryz.prog 102 #[szv a0 b0 a1 b1 a2 b2, szv c0 d0 c1 d1 c2 d2] w fun e w' => e = .returned (ivR (lowN (a0 * d0 - c0 * b0) (b0 * d0)) (lowD (a0 * d0 - c0 * b0) (b0 * d0)) (lowN (a1 * d1 - c1 * b1) (b1 * d1)) (lowD (a1 * d1 - c1 * b1) (b1 * d1)) (lowN (a2 * d2 - c2 * b2) (b2 * d2)) (lowD (a2 * d2 - c2 * b2) (b2 * d2))) ∧ Below w.heap.size w w' := by
 obtain ⟨r0, r1, r2⟩ := ivE_right h1
 obtain ⟨s0, s1, s2⟩ := ivE_right h2
 have hb := fun W => iboth_any a0 b0 a1 b1 a2 b2 c0 d0 c1 d1 c2 d2 W (right_i64 r0).1 (right_i64 r0).2 (right_i64 r1).1 (right_i64 r1).2 (right_i64 r2).1 (right_i64 r2).2 (right_i64 s0).1 (right_i64 s0).2 (right_i64 s1).1 (right_i64 s1).2 (right_i64 s2).1 (right_i64 s2).2
 rw [if_neg (fun k => k h1), h2] at hb
 obtain ⟨x0, x1, x2⟩ := eaSub r0 s0
 obtain ⟨y0, y1, y2⟩ := eaSub r1 s1
 obtain ⟨z0, z1, z2⟩ := eaSub r2 s2
 have he := fun W => ieachSub_any a0 b0 a1 b1 a2 b2 c0 d0 c1 d1 c2 d2 _ _ _ _ _ _ W x0 y0 z0 x1 x2 y1 y2 z1 z2
 obtain ⟨t0, t1, t2, t3, t4, t5, q, hrr⟩ := ivR_form (lowN (a0 * d0 - c0 * b0) (b0 * d0)) (lowD (a0 * d0 - c0 * b0) (b0 * d0)) (lowN (a1 * d1 - c1 * b1) (b1 * d1)) (lowD (a1 * d1 - c1 * b1) (b1 * d1)) (lowN (a2 * d2 - c2 * b2) (b2 * d2)) (lowD (a2 * d2 - c2 * b2) (b2 * d2))
 rw [hrr] at he ⊢
 have HB := Lib.hid hb
 have HE := Lib.hid he
 clear hb he hrr x0 x1 x2 y0 y1 y2 z0 z1 z2 r0 r1 r2 s0 s1 s2 h1 h2
 have hM0 : Hp w [(w.heap.size, 49, [.int .i64 a0, .int .i64 b0, .int .i64 a1, .int .i64 b1, .int .i64 a2, .int .i64 b2]), (w.heap.size + 1, 49, [.int .i64 c0, .int .i64 d0, .int .i64 c1, .int .i64 d1, .int .i64 c2, .int .i64 d2]), (w.heap.size + 1 + 1, 49, [.int .i64 0, .int .i64 0, .int .i64 0, .int .i64 0, .int .i64 0, .int .i64 0])] (((w.alloc (.cells #[.int .i64 a0, .int .i64 b0, .int .i64 a1, .int .i64 b1, .int .i64 a2, .int .i64 b2] 49)).alloc (.cells #[.int .i64 c0, .int .i64 d0, .int .i64 c1, .int .i64 d1, .int .i64 c2, .int .i64 d2] 49)).alloc (.cells #[.int .i64 0, .int .i64 0, .int .i64 0, .int .i64 0, .int .i64 0, .int .i64 0] 49)) := by
  have h := (((Hp.start w).new 49 [.int .i64 a0, .int .i64 b0, .int .i64 a1, .int .i64 b1, .int .i64 a2, .int .i64 b2]).new 49 [.int .i64 c0, .int .i64 d0, .int .i64 c1, .int .i64 d1, .int .i64 c2, .int .i64 d2]).new 49 [.int .i64 0, .int .i64 0, .int .i64 0, .int .i64 0, .int .i64 0, .int .i64 0]
  simp only [World.size_alloc] at h
  exact h
 have HM0 := Lib.hid hM0
 clear hM0
 go_enter Tryz.func102, Tryz.ntmps102
 go_wp2_with fail
 refine (HB.out _).mono ?_
 rintro e W0 ⟨rfl, hb⟩
 have HM1 := Lib.hid (HM0.out.step hb)
 clear hb HM0
 obtain ⟨e0, e1, e2, e3, e4, e5⟩ := six_of (HM1.out.at_ 0 rfl)
 obtain ⟨f0, f1, f2, f3, f4, f5⟩ := six_of (HM1.out.at_ 1 rfl)
 go_wp2_with fail
 refine (HE.out _).mono ?_
 rintro e W1 ⟨rfl, hb⟩
 have HMZ := Lib.hid (HM1.out.step hb)
 clear hb HM1 e0 e1 e2 e3 e4 e5 f0 f1 f2 f3 f4 f5
 obtain ⟨e0, e1, e2, e3, e4, e5⟩ := six_of (HMZ.out.at_ 2 rfl)
 obtain ⟨f0, f1, f2, f3, f4, f5⟩ := six_free (HMZ.out.at_ 2 rfl)
 go_wp2
 obtain ⟨WZ, hWZ⟩ : ∃ WZ, WZ = (((((W1.setCell ⟨w.heap.size + 1 + 1, 0, none⟩ (.int .i64 t0)).setCell ⟨w.heap.size + 1 + 1, 1, none⟩ (.int .i64 t1)).setCell ⟨w.heap.size + 1 + 1, 2, none⟩ (.int .i64 t2)).setCell ⟨w.heap.size + 1 + 1, 3, none⟩ (.int .i64 t3)).setCell ⟨w.heap.size + 1 + 1, 4, none⟩ (.int .i64 t4)).setCell ⟨w.heap.size + 1 + 1, 5, none⟩ (.int .i64 t5) := ⟨_, rfl⟩
 have hz := HMZ.out.put6 2 rfl (.int .i64 t0) (.int .i64 t1) (.int .i64 t2) (.int .i64 t3) (.int .i64 t4) (.int .i64 t5)
 rw [← hWZ] at hz ⊢
 obtain ⟨g0, g1, g2, g3, g4, g5⟩ := six_of (hz.at_ 2 rfl)
 exact bodyPost_ret (v := .tuple #[szv t0 t1 t2 t3 t4 t5, .int .i64 q]) (by simp [g0, g1, g2, g3, g4, g5, results, Tryz.results102, go_sem]) rfl ⟨rfl, hz.below⟩
set_option maxRecDepth 100000 in
set_option maxHeartbeats 4000000 in
theorem iScale_any (a0 b0 a1 b1 a2 b2 kn kd : Int) (w : World) (h : ivE [(a0, b0), (a1, b1), (a2, b2)] = 0) (hk : Right kn kd) :
  Calls Tryz.prog 178 #[szv a0 b0 a1 b1 a2 b2, .agg #[.int .i64 kn, .int .i64 kd]] w fun e w' => e = .returned (ivR (lowN (a0 * kn) (b0 * kd)) (lowD (a0 * kn) (b0 * kd)) (lowN (a1 * kn) (b1 * kd)) (lowD (a1 * kn) (b1 * kd)) (lowN (a2 * kn) (b2 * kd)) (lowD (a2 * kn) (b2 * kd))) ∧ Below w.heap.size w w' := by
 obtain ⟨r0, r1, r2⟩ := ivE_right h
 have hb := fun W => icheck_any a0 b0 a1 b1 a2 b2 W (right_i64 r0).1 (right_i64 r0).2 (right_i64 r1).1 (right_i64 r1).2 (right_i64 r2).1 (right_i64 r2).2
 rw [h] at hb
 have hf := fun W => fcheck_any kn kd W (right_i64 hk).1.1 (right_i64 hk).1.2 (right_i64 hk).2.1 (right_i64 hk).2.2
 rw [fErr_ok hk] at hf
 obtain ⟨x0, x1, x2⟩ := eaMul r0 hk
 obtain ⟨y0, y1, y2⟩ := eaMul r1 hk
 obtain ⟨z0, z1, z2⟩ := eaMul r2 hk
 have he := fun W => ieachMul_any a0 b0 a1 b1 a2 b2 kn kd kn kd kn kd _ _ _ _ _ _ W x0 y0 z0 x1 x2 y1 y2 z1 z2
 obtain ⟨t0, t1, t2, t3, t4, t5, q, hrr⟩ := ivR_form (lowN (a0 * kn) (b0 * kd)) (lowD (a0 * kn) (b0 * kd)) (lowN (a1 * kn) (b1 * kd)) (lowD (a1 * kn) (b1 * kd)) (lowN (a2 * kn) (b2 * kd)) (lowD (a2 * kn) (b2 * kd))
 rw [hrr] at he ⊢
 have HB := Lib.hid hb
 have HF := Lib.hid hf
 have HE := Lib.hid he
 clear hb hf he hrr x0 x1 x2 y0 y1 y2 z0 z1 z2 r0 r1 r2 h hk
 have hM0 : Hp w [(w.heap.size, 49, [.int .i64 a0, .int .i64 b0, .int .i64 a1, .int .i64 b1, .int .i64 a2, .int .i64 b2]), (w.heap.size + 1, 34, [.int .i64 kn, .int .i64 kd]), (w.heap.size + 1 + 1, 49, [.int .i64 0, .int .i64 0, .int .i64 0, .int .i64 0, .int .i64 0, .int .i64 0])] (((w.alloc (.cells #[.int .i64 a0, .int .i64 b0, .int .i64 a1, .int .i64 b1, .int .i64 a2, .int .i64 b2] 49)).alloc (.cells #[.int .i64 kn, .int .i64 kd] 34)).alloc (.cells #[.int .i64 0, .int .i64 0, .int .i64 0, .int .i64 0, .int .i64 0, .int .i64 0] 49)) := by
  have h := (((Hp.start w).new 49 [.int .i64 a0, .int .i64 b0, .int .i64 a1, .int .i64 b1, .int .i64 a2, .int .i64 b2]).new 34 [.int .i64 kn, .int .i64 kd]).new 49 [.int .i64 0, .int .i64 0, .int .i64 0, .int .i64 0, .int .i64 0, .int .i64 0]
  simp only [World.size_alloc] at h
  exact h
 have HM0 := Lib.hid hM0
 clear hM0
 go_enter Tryz.func178, Tryz.ntmps178
 go_wp2_with fail
 refine (HB.out _).mono ?_
 rintro e W0 ⟨rfl, hb⟩
 have HM1 := Lib.hid (HM0.out.step hb)
 clear hb HM0
 obtain ⟨e0, e1⟩ := (⟨(HM1.out.at_ 1 rfl).cell 0, (HM1.out.at_ 1 rfl).cell 1⟩ : _ ∧ _)
 go_wp2_with fail
 refine (HF.out _).mono ?_
 rintro e W1 ⟨rfl, hb⟩
 have HM2 := Lib.hid (HM1.out.step hb)
 clear hb HM1 e0 e1
 obtain ⟨e0, e1, e2, e3, e4, e5⟩ := six_of (HM2.out.at_ 0 rfl)
 obtain ⟨f0, f1⟩ := (⟨(HM2.out.at_ 1 rfl).cell 0, (HM2.out.at_ 1 rfl).cell 1⟩ : _ ∧ _)
 go_wp2_with fail
 refine (HE.out _).mono ?_
 rintro e W2 ⟨rfl, hb⟩
 have HMZ := Lib.hid (HM2.out.step hb)
 clear hb HM2 e0 e1 e2 e3 e4 e5 f0 f1
 obtain ⟨e0, e1, e2, e3, e4, e5⟩ := six_of (HMZ.out.at_ 2 rfl)
 obtain ⟨f0, f1, f2, f3, f4, f5⟩ := six_free (HMZ.out.at_ 2 rfl)
 go_wp2
 obtain ⟨WZ, hWZ⟩ : ∃ WZ, WZ = (((((W2.setCell ⟨w.heap.size + 1 + 1, 0, none⟩ (.int .i64 t0)).setCell ⟨w.heap.size + 1 + 1, 1, none⟩ (.int .i64 t1)).setCell ⟨w.heap.size + 1 + 1, 2, none⟩ (.int .i64 t2)).setCell ⟨w.heap.size + 1 + 1, 3, none⟩ (.int .i64 t3)).setCell ⟨w.heap.size + 1 + 1, 4, none⟩ (.int .i64 t4)).setCell ⟨w.heap.size + 1 + 1, 5, none⟩ (.int .i64 t5) := ⟨_, rfl⟩
 have hz := HMZ.out.put6 2 rfl (.int .i64 t0) (.int .i64 t1) (.int .i64 t2) (.int .i64 t3) (.int .i64 t4) (.int .i64 t5)
 rw [← hWZ] at hz ⊢
 obtain ⟨g0, g1, g2, g3, g4, g5⟩ := six_of (hz.at_ 2 rfl)
 exact bodyPost_ret (v := .tuple #[szv t0 t1 t2 t3 t4 t5, .int .i64 q]) (by simp [g0, g1, g2, g3, g4, g5, results, Tryz.results178, go_sem]) rfl ⟨rfl, hz.below⟩
end Go.Proofs.YtendjepcjmfmfaaGreatDoor
