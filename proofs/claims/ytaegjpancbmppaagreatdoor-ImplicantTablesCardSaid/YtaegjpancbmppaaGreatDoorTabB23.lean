/- Part 23 of 33 of the proof of the law: contracts of the functions that it reaches, and plain facts. Conditions: those that each contract names. -/
import Derived.Lib.SlicesCompact
set_option linter.unusedVariables false
set_option linter.unusedSimpArgs false
namespace Go.Proofs.YtaegjpancbmppaaGreatDoor
open Go.Lib
theorem zs_get (zs : List Int) {m : Nat} (h : m < zs.length) : zs.toArray[m]! = zs[m] := by
 rw [getElem!_pos zs.toArray m (by simpa using h)]
 simp
theorem cmp_inv (zs : List Int) (hs : zs.Pairwise (· ≤ ·)) : ∀ m, m ≤ zs.length → (compactUpTo zs.toArray m).Pairwise (· < ·) ∧ (∀ x ∈ compactUpTo zs.toArray m, 0 < m ∧ x ≤ zs.toArray[m - 1]!) ∧ ∀ x, x ∈ compactUpTo zs.toArray m ↔ x ∈ zs.take m
 | 0, _ => ⟨List.Pairwise.nil, fun x h => by simp [compactUpTo] at h, fun x => by simp [compactUpTo]⟩
 | m + 1, h => by
  obtain ⟨h1, h2, h3⟩ := cmp_inv zs hs m (by omega)
  have hm : m < zs.length := by omega
  have em := zs_get zs hm
  have hle : 0 < m → zs.toArray[m - 1]! ≤ zs.toArray[m]! := fun hp => by
   rw [em, zs_get zs (show m - 1 < zs.length by omega)]
   exact List.pairwise_iff_getElem.1 hs (m - 1) m (by omega) hm (by omega)
  have htk := List.take_succ_eq_append_getElem hm
  rw [compactUpTo_succ, htk]
  cases hk : keeps zs.toArray m with
  | true =>
   rw [if_pos rfl]
   simp only [keeps, decide_eq_true_eq] at hk
   refine ⟨?_, ?_, ?_⟩
   ·rw [List.pairwise_append]
    refine ⟨h1, List.pairwise_singleton _ _, fun x hx y hy => ?_⟩
    obtain rfl := List.mem_singleton.1 hy
    obtain ⟨hp, hx'⟩ := h2 x hx
    have := hle hp
    have hne := hk.resolve_left (by omega)
    omega
   ·intro x hx
    refine ⟨Nat.succ_pos _, ?_⟩
    rw [Nat.add_sub_cancel]
    rcases List.mem_append.1 hx with hx | hx
    ·obtain ⟨hp, hx'⟩ := h2 x hx
     have := hle hp
     omega
    ·obtain rfl := List.mem_singleton.1 hx
     exact Int.le_refl _
   ·intro x
    rw [List.mem_append, List.mem_append, h3, em]
  | false =>
   simp only [keeps, decide_eq_false_iff_not, not_or, Decidable.not_not] at hk
   rw [if_neg (by simp), List.append_nil]
   obtain ⟨h0, he⟩ := hk
   refine ⟨h1, ?_, ?_⟩
   ·intro x hx
    obtain ⟨hp, hx'⟩ := h2 x hx
    exact ⟨Nat.succ_pos _, by rw [Nat.add_sub_cancel, he]; exact hx'⟩
   ·intro x
    rw [List.mem_append, h3]
    refine ⟨.inl, fun hx => hx.elim id fun hx => ?_⟩
    obtain rfl := List.mem_singleton.1 hx
    have hm1 : m - 1 < zs.length := by omega
    rw [← em, he, zs_get zs hm1]
    exact List.mem_take_iff_getElem.2 ⟨m - 1, by omega, rfl⟩
theorem cmp_sorted (zs : List Int) (hs : zs.Pairwise (· ≤ ·)) : (compact zs).Pairwise (· < ·) ∧ ∀ x, x ∈ compact zs ↔ x ∈ zs := by
 obtain ⟨h1, -, h3⟩ := cmp_inv zs hs zs.length (Nat.le_refl _)
 exact ⟨h1, fun x => by rw [show compact zs = compactUpTo zs.toArray zs.length from rfl, h3, List.take_length]⟩
theorem inc_last {L : List Int} (h : L.Pairwise (· < ·)) (n : Int) : (∀ x ∈ L, x < n) ↔ ∀ h : 0 < L.length, L[L.length - 1] < n := by
 constructor
 ·exact fun k hl => k _ (List.getElem_mem _)
 ·intro k x hx
  obtain ⟨i, hi, rfl⟩ := List.getElem_of_mem hx
  have hl := k (by omega)
  by_cases he : i = L.length - 1
  ·subst he; exact hl
  ·have := List.pairwise_iff_getElem.1 h i (L.length - 1) hi (by omega) (by omega)
   omega
end Go.Proofs.YtaegjpancbmppaaGreatDoor
