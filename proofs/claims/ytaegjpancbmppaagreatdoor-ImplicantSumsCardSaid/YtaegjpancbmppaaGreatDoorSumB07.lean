/- Part 7 of 33 of the proof of the law: contracts of the functions that it reaches, and plain facts. Conditions: those that each contract names. -/
import Derived.Test.YtaegjpancbmppaaGreatDoorSumB01
import Derived.Maps.Own
set_option linter.unusedVariables false
set_option linter.unusedSimpArgs false
namespace Go.Proofs.YtaegjpancbmppaaGreatDoor
open Go.RowKit
theorem lexLt_trans : ∀ a b c, lexLt a b = true → lexLt b c = true → lexLt a c = true
 | [], [], _, h, _ => by cases h
 | [], _ :: _, [], _, h => by cases h
 | [], _ :: _, _ :: _, _, _ => rfl
 | _ :: _, [], _, h, _ => by cases h
 | _ :: _, _ :: _, [], _, h => by cases h
 | x :: a, y :: b, z :: c, h1, h2 => by
  rw [lexLt] at h1 h2 ⊢
  by_cases e1 : x = y
  ·subst e1
   rw [if_pos rfl] at h1
   by_cases e2 : x = z
   ·subst e2
    rw [if_pos rfl] at h2 ⊢
    exact lexLt_trans a b c h1 h2
   ·rw [if_neg e2] at h2 ⊢; exact h2
  ·rw [if_neg e1] at h1
   have h1' := of_decide_eq_true h1
   by_cases e2 : y = z
   ·subst e2
    rw [if_neg e1]; exact h1
   ·rw [if_neg e2] at h2
    have h2' := of_decide_eq_true h2
    rw [if_neg (by omega)]
    exact decide_eq_true (by omega)
theorem lexLt_tri : ∀ a b, a.length = b.length → lexLt a b = true ∨ a = b ∨ lexLt b a = true
 | [], [], _ => .inr (.inl rfl)
 | [], _ :: _, h => by cases h
 | _ :: _, [], h => by cases h
 | x :: a, y :: b, h => by
  rw [lexLt, lexLt]
  by_cases e : x = y
  ·subst e
   rw [if_pos rfl, if_pos rfl]
   rcases lexLt_tri a b (by simpa using h) with h | h | h
   ·exact .inl h
   ·exact .inr (.inl (by rw [h]))
   ·exact .inr (.inr h)
  ·rw [if_neg e, if_neg (fun k => e k.symm)]
   rcases Nat.lt_or_gt_of_ne e with h | h
   ·exact .inl (decide_eq_true h)
   ·exact .inr (.inr (decide_eq_true h))
def kLt (a b : List Nat × Nat) : Prop := a.1.length < b.1.length ∨ a.1.length = b.1.length ∧ (a.2 < b.2 ∨ a.2 = b.2 ∧ lexLt a.1 b.1 = true)
def kLe (a b : List Nat × Nat) : Prop := a = b ∨ kLt a b
theorem kLt_trans {a b c : List Nat × Nat} (h1 : kLt a b) (h2 : kLt b c) : kLt a c := by
 unfold kLt at *
 rcases h1 with h1 | ⟨e1, h1 | ⟨l1, h1⟩⟩ <;> rcases h2 with h2 | ⟨e2, h2 | ⟨l2, h2⟩⟩
 ·exact .inl (by omega)
 ·exact .inl (by omega)
 ·exact .inl (by omega)
 ·exact .inl (by omega)
 ·exact .inr ⟨by omega, .inl (by omega)⟩
 ·exact .inr ⟨by omega, .inl (by omega)⟩
 ·exact .inl (by omega)
 ·exact .inr ⟨by omega, .inl (by omega)⟩
 ·exact .inr ⟨by omega, .inr ⟨by omega, lexLt_trans _ _ _ h1 h2⟩⟩
theorem kLt_le {a b c : List Nat × Nat} (h1 : kLt a b) (h2 : kLe b c) : kLt a c := by
 rcases h2 with rfl | h2
 ·exact h1
 ·exact kLt_trans h1 h2
theorem kLe_of_not {a b : List Nat × Nat} (h : ¬ kLt a b) : kLe b a := by
 unfold kLe kLt at *
 by_cases e : b.1.length = a.1.length
 ·by_cases e2 : b.2 = a.2
  ·rcases lexLt_tri b.1 a.1 e with h1 | h1 | h1
   ·exact .inr (.inr ⟨e, .inr ⟨e2, h1⟩⟩)
   ·exact .inl (Prod.ext h1 e2)
   ·exact absurd (.inr ⟨e.symm, .inr ⟨e2.symm, h1⟩⟩) h
  ·rcases Nat.lt_or_gt_of_ne e2 with h1 | h1
   ·exact .inr (.inr ⟨e, .inl h1⟩)
   ·exact absurd (.inr ⟨e.symm, .inl h1⟩) h
 ·rcases Nat.lt_or_gt_of_ne e with h1 | h1
  ·exact .inr (.inl h1)
  ·exact absurd (.inl h1) h
def lsR (s : LsS) (T : List Nat × Nat → Prop) (s' : LsS) : Prop :=
 (s' = s ∧ ∀ t, T t → ∃ b, s = some b ∧ kLe b t) ∨ ∃ b', s' = some b' ∧ T b' ∧ (∀ b, s = some b → kLt b' b) ∧ ∀ t, T t → kLe b' t
theorem lsR.congr {s s' : LsS} {T T' : List Nat × Nat → Prop} (h : lsR s T s') (ht : ∀ t, T t ↔ T' t) : lsR s T' s' := by
 obtain rfl : T = T' := funext fun t => propext (ht t)
 exact h
theorem lsR.comp {s s1 s2 : LsS} {T1 T2 : List Nat × Nat → Prop} (h1 : lsR s T1 s1) (h2 : lsR s1 T2 s2) : lsR s (fun t => T1 t ∨ T2 t) s2 := by
 rcases h1 with ⟨rfl, k1⟩ | ⟨b1, rfl, t1, l1, k1⟩
 ·rcases h2 with ⟨rfl, k2⟩ | ⟨b2, rfl, t2, l2, k2⟩
  ·exact .inl ⟨rfl, fun t ht => ht.elim (k1 t) (k2 t)⟩
  ·refine .inr ⟨b2, rfl, .inr t2, l2, fun t ht => ht.elim (fun h => ?_) (k2 t)⟩
   obtain ⟨b, hb, hk⟩ := k1 t h
   exact .inr (kLt_le (l2 b hb) hk)
 ·rcases h2 with ⟨rfl, k2⟩ | ⟨b2, rfl, t2, l2, k2⟩
  ·refine .inr ⟨b1, rfl, .inl t1, l1, fun t ht => ht.elim (k1 t) (fun h => ?_)⟩
   obtain ⟨b, hb, hk⟩ := k2 t h
   cases hb
   exact hk
  ·refine .inr ⟨b2, rfl, .inr t2, fun b hb => kLt_trans (l2 b1 rfl) (l1 b hb), fun t ht => ht.elim (fun h => .inr (kLt_le (l2 b1 rfl) (k1 t h))) (k2 t)⟩
theorem insN_perm (x : Nat) : ∀ l, (insN x l).Perm (x :: l)
 | [] => .refl _
 | y :: l => by
  rw [insN]
  split
  ·exact .refl _
  ·exact ((insN_perm x l).cons y).trans (.swap x y l)
theorem sortN_perm : ∀ l, (sortN l).Perm l
 | [] => .refl _
 | x :: l => (insN_perm x (sortN l)).trans ((sortN_perm l).cons x)
theorem insN_sorted (x : Nat) : ∀ l : List Nat, l.Pairwise (· ≤ ·) → (insN x l).Pairwise (· ≤ ·)
 | [], _ => List.pairwise_singleton _ _
 | y :: l, h => by
  obtain ⟨h1, h2⟩ := List.pairwise_cons.1 h
  rw [insN]
  split
  ·rename_i hxy
   refine List.pairwise_cons.2 ⟨fun z hz => ?_, h⟩
   rcases List.mem_cons.1 hz with rfl | hz
   ·exact hxy
   ·exact Nat.le_trans hxy (h1 z hz)
  ·rename_i hxy
   refine List.pairwise_cons.2 ⟨fun z hz => ?_, insN_sorted x l h2⟩
   rcases List.mem_cons.1 ((insN_perm x l).mem_iff.1 hz) with rfl | hz
   ·omega
   ·exact h1 z hz
theorem sortN_sorted : ∀ l : List Nat, (sortN l).Pairwise (· ≤ ·)
 | [] => List.Pairwise.nil
 | x :: l => insN_sorted x _ (sortN_sorted l)
theorem sortN_strict {l : List Nat} (h : l.Nodup) : (sortN l).Pairwise (· < ·) := by
 have h1 := sortN_sorted l
 have h2 : (sortN l).Nodup := (sortN_perm l).nodup_iff.2 h
 exact (h1.and h2).imp fun ⟨a, b⟩ => Nat.lt_of_le_of_ne a b
theorem sub_sublist : ∀ B A : List Nat, A.Pairwise (· < ·) → B.Pairwise (· < ·) → (∀ x ∈ A, x ∈ B) → A.Sublist B
 | [], [], _, _, _ => List.Sublist.slnil
 | [], a :: _, _, _, h => absurd (h a (List.mem_cons_self ..)) (by simp)
 | b :: B, [], _, _, _ => List.nil_sublist _
 | b :: B, a :: A, hA, hB, h => by
  obtain ⟨a1, a2⟩ := List.pairwise_cons.1 hA
  obtain ⟨b1, b2⟩ := List.pairwise_cons.1 hB
  by_cases e : a = b
  ·subst e
   refine (sub_sublist B A a2 b2 fun x hx => ?_).cons_cons a
   rcases List.mem_cons.1 (h x (List.mem_cons_of_mem _ hx)) with e | e
   ·have := a1 x hx; omega
   ·exact e
  ·have ha : a ∈ B := (List.mem_cons.1 (h a (List.mem_cons_self ..))).resolve_left e
   have hba := b1 a ha
   refine (sub_sublist B (a :: A) hA b2 fun x hx => ?_).cons b
   refine (List.mem_cons.1 (h x hx)).resolve_left fun e' => ?_
   rcases List.mem_cons.1 hx with e2 | e2
   ·omega
   ·have := a1 x e2; omega
def lsLit (P : List (Nat × Nat)) (S : List Nat) : Nat := (S.map fun i => (P.getD i (0, 0)).2).sum
def lsCov (P : List (Nat × Nat)) (on S : List Nat) : Prop := ∀ x ∈ on, ∃ i ∈ S, (P.getD i (0, 0)).1.testBit x = true
def lsT (P : List (Nat × Nat)) (on chosen : List Nat) (t : List Nat × Nat) : Prop :=
 t.1.Pairwise (· < ·) ∧ (∀ i ∈ t.1, i < P.length) ∧ (∀ i ∈ chosen, i ∈ t.1) ∧ lsCov P on t.1 ∧ t.2 = lsLit P t.1
theorem lsLit_perm {P : List (Nat × Nat)} {S S' : List Nat} (h : S.Perm S') : lsLit P S = lsLit P S' := (h.map _).sum_nat
theorem lsT_len {P : List (Nat × Nat)} {on chosen : List Nat} {t : List Nat × Nat} (h : lsT P on chosen t) (hn : chosen.Nodup) : chosen.length < t.1.length ∨ (chosen.length = t.1.length ∧ t = (sortN chosen, lsLit P chosen)) := by
 have hs := sub_sublist t.1 (sortN chosen) (sortN_strict hn) h.1 fun x hx => h.2.2.1 x ((sortN_perm chosen).mem_iff.1 hx)
 have hl := (sortN_perm chosen).length_eq
 rcases Nat.lt_or_eq_of_le hs.length_le with k | k
 ·exact .inl (by omega)
 ·have e := hs.eq_of_length k
  exact .inr ⟨by omega, Prod.ext e.symm (by rw [h.2.2.2.2, ← e]; exact lsLit_perm (sortN_perm chosen))⟩
theorem lsRow_none (P : List (Nat × Nat)) (hv : Nat) : ∀ (on : List Nat) (s : Option (Nat × Nat)), lsRow P hv on s = none ↔ s = none ∧ ∀ x ∈ on, hv.testBit x = true
 | [], s => by rw [lsRow]; simp
 | x :: r, s => by
  rw [lsRow, lsRow_none P hv r]
  cases hx : hv.testBit x with
  | true => simp [hx]
  | false =>
   cases s with
   | none => simp [hx]
   | some y =>
    obtain ⟨y, l⟩ := y
    simp only [Bool.false_eq_true, if_false]
    split <;> simp
theorem lsRow_some (P : List (Nat × Nat)) (hv : Nat) : ∀ (on : List Nat) (s : Option (Nat × Nat)) (y l : Nat), lsRow P hv on s = some (y, l) → (∃ l', s = some (y, l')) ∨ (y ∈ on ∧ hv.testBit y = false)
 | [], s, y, l, h => .inl ⟨l, h⟩
 | x :: r, s, y, l, h => by
  rw [lsRow] at h
  cases hx : hv.testBit x with
  | true =>
   rw [hx, if_pos rfl] at h
   exact (lsRow_some P hv r s y l h).imp_right fun k => ⟨List.mem_cons_of_mem _ k.1, k.2⟩
  | false =>
   rw [hx, if_neg (by simp)] at h
   rcases lsRow_some P hv r _ y l h with ⟨l', h'⟩ | h'
   ·cases s with
    | none =>
     simp only [Option.some.injEq, Prod.mk.injEq] at h'
     exact .inr ⟨by rw [h'.1]; exact List.mem_cons_self .., by rw [← h'.1]; exact hx⟩
    | some z =>
     obtain ⟨z, l2⟩ := z
     dsimp only at h'
     split at h'
     ·simp only [Option.some.injEq, Prod.mk.injEq] at h'
      exact .inr ⟨by rw [h'.1]; exact List.mem_cons_self .., by rw [← h'.1]; exact hx⟩
     ·exact .inl ⟨l', h'⟩
   ·exact .inr ⟨List.mem_cons_of_mem _ h'.1, h'.2⟩
structure LsI (P : List (Nat × Nat)) (on chosen : List Nat) (hv count : Nat) : Prop where
 nd : chosen.Nodup
 lt : ∀ i ∈ chosen, i < P.length
 hv : ∀ x, hv.testBit x = true ↔ ∃ i ∈ chosen, (P.getD i (0, 0)).1.testBit x = true
 ct : count = lsLit P chosen
theorem LsI.next {P : List (Nat × Nat)} {on chosen : List Nat} {hv count i row : Nat} (h : LsI P on chosen hv count) (hi : i < P.length) (hr : (P.getD i (0, 0)).1.testBit row = true) (hn : hv.testBit row = false) : LsI P on (chosen ++ [i]) (hv ||| (P.getD i (0, 0)).1) (count + (P.getD i (0, 0)).2) where
 nd := by
  rw [List.nodup_append]
  refine ⟨h.nd, by simp, fun a ha b hb e => ?_⟩
  rw [List.mem_singleton] at hb
  subst e; subst hb
  rw [(h.hv row).2 ⟨a, ha, hr⟩] at hn
  cases hn
 lt := fun j hj => by
  rcases List.mem_append.1 hj with hj | hj
  ·exact h.lt j hj
  ·rw [List.mem_singleton] at hj; subst hj; exact hi
 hv := fun x => by
  rw [Nat.testBit_or, Bool.or_eq_true, h.hv x]
  constructor
  ·rintro (⟨j, h1, h2⟩ | h1)
   ·exact ⟨j, List.mem_append_left _ h1, h2⟩
   ·exact ⟨i, by simp, h1⟩
  ·rintro ⟨j, h1, h2⟩
   rcases List.mem_append.1 h1 with h1 | h1
   ·exact .inl ⟨j, h1, h2⟩
   ·rw [List.mem_singleton] at h1; subst h1; exact .inr h2
 ct := by rw [h.ct]; unfold lsLit; rw [List.map_append, List.sum_append]; simp
theorem lsGo_spec (P : List (Nat × Nat)) (on : List Nat) (f row : Nat) (chosen : List Nat) (hv count : Nat) (hI : LsI P on chosen hv count) (hn : hv.testBit row = false)
  (hrec : ∀ s i, i < P.length → (P.getD i (0, 0)).1.testBit row = true → lsR s (lsT P on (chosen ++ [i])) (lsSeek P on f s (chosen ++ [i]) (hv ||| (P.getD i (0, 0)).1) (count + (P.getD i (0, 0)).2))) :
  ∀ l i s, l = P.drop i → lsR s (fun t => lsT P on chosen t ∧ ∃ j ∈ t.1, i ≤ j ∧ (P.getD j (0, 0)).1.testBit row = true) (lsGo (lsSeek P on f) row chosen hv count l i s)
 | [], i, s, h => .inl ⟨rfl, fun t ⟨k, j, h1, h2, _⟩ => by
   have := k.2.1 j h1
   have h3 := congrArg List.length h
   rw [List.length_drop, List.length_nil] at h3
   omega⟩
 | p :: r, i, s, h => by
  have hi : i < P.length := by
   have h3 := congrArg List.length h
   rw [List.length_drop, List.length_cons] at h3
   omega
  have h' := h
  rw [List.drop_eq_getElem_cons hi] at h'
  injection h' with hp hr
  have hg : P.getD i (0, 0) = p := by rw [List.getD_eq_getElem?_getD, List.getElem?_eq_getElem hi, hp]; rfl
  rw [lsGo]
  cases hb : p.1.testBit row with
  | true =>
   rw [if_pos rfl]
   have h1 := hrec s i hi (by rw [hg]; exact hb)
   rw [hg] at h1
   have h2 := lsGo_spec P on f row chosen hv count hI hn hrec r (i + 1) (lsSeek P on f s (chosen ++ [i]) (hv ||| p.1) (count + p.2)) hr
   refine (h1.comp h2).congr fun t => ⟨?_, ?_⟩
   ·rintro (k | ⟨k, j, j1, j2, j3⟩)
    ·exact ⟨⟨k.1, k.2.1, fun x hx => k.2.2.1 x (List.mem_append_left _ hx), k.2.2.2⟩, i, k.2.2.1 i (by simp), Nat.le_refl _, by rw [hg]; exact hb⟩
    ·exact ⟨k, j, j1, by omega, j3⟩
   ·rintro ⟨k, j, j1, j2, j3⟩
    rcases Nat.lt_or_eq_of_le j2 with hlt | rfl
    ·exact .inr ⟨k, j, j1, hlt, j3⟩
    ·refine .inl ⟨k.1, k.2.1, fun x hx => ?_, k.2.2.2⟩
     rcases List.mem_append.1 hx with hx | hx
     ·exact k.2.2.1 x hx
     ·rw [List.mem_singleton] at hx; subst hx; exact j1
  | false =>
   rw [if_neg (by simp)]
   refine (lsGo_spec P on f row chosen hv count hI hn hrec r (i + 1) s hr).congr fun t => ⟨?_, ?_⟩
   ·rintro ⟨k, j, j1, j2, j3⟩; exact ⟨k, j, j1, by omega, j3⟩
   ·rintro ⟨k, j, j1, j2, j3⟩
    refine ⟨k, j, j1, ?_, j3⟩
    rcases Nat.lt_or_eq_of_le j2 with hlt | rfl
    ·exact hlt
    ·rw [hg, hb] at j3; cases j3
theorem filter_less {α : Type} (p q : α → Bool) : ∀ l : List α, (∀ x ∈ l, q x = true → p x = true) → (∃ x ∈ l, p x = true ∧ q x = false) → (l.filter q).length < (l.filter p).length
 | [], _, h => by obtain ⟨x, hx, _⟩ := h; cases hx
 | a :: l, h1, h2 => by
  have hle : (l.filter q).length ≤ (l.filter p).length := by
   rw [← List.countP_eq_length_filter, ← List.countP_eq_length_filter]
   exact List.countP_mono_left fun x hx => h1 x (List.mem_cons_of_mem _ hx)
  have ha := h1 a (List.mem_cons_self ..)
  rw [List.filter_cons, List.filter_cons]
  by_cases e : p a = true ∧ q a = false
  ·rw [if_pos e.1, if_neg (by rw [e.2]; simp), List.length_cons]
   omega
  ·have h3 : ∃ x ∈ l, p x = true ∧ q x = false := by
    obtain ⟨x, hx, k⟩ := h2
    rcases List.mem_cons.1 hx with rfl | hx
    ·exact absurd k e
    ·exact ⟨x, hx, k⟩
   have := filter_less p q l (fun x hx => h1 x (List.mem_cons_of_mem _ hx)) h3
   cases hq : q a with
   | true => rw [ha hq, if_pos rfl, if_pos rfl, List.length_cons, List.length_cons]; omega
   | false =>
    have hp : p a = false := by cases hp : p a with
     | false => rfl
     | true => exact absurd ⟨hp, hq⟩ e
    rw [hp, if_neg (by simp), if_neg (by simp)]
    exact this
theorem lsSeek_spec (P : List (Nat × Nat)) (on : List Nat) : ∀ f s chosen hv count, LsI P on chosen hv count → (on.filter fun x => !hv.testBit x).length < f → lsR s (lsT P on chosen) (lsSeek P on f s chosen hv count)
 | 0, _, _, _, _, _, h => absurd h (Nat.not_lt_zero _)
 | f + 1, s, chosen, hv, count, hI, hf => by
  rw [lsSeek]
  by_cases hc : lsCut s chosen count = true
  ·rw [if_pos hc]
   refine .inl ⟨rfl, fun t ht => ?_⟩
   cases s with
   | none => cases hc
   | some b =>
    obtain ⟨b, k⟩ := b
    refine ⟨_, rfl, .inr ?_⟩
    have hc' := of_decide_eq_true (show decide (b.length < chosen.length ∨ chosen.length = b.length ∧ k < count) = true from hc)
    unfold kLt
    rcases lsT_len ht hI.nd with h | ⟨h, rfl⟩
    ·exact .inl (by dsimp only; omega)
    ·have := (sortN_perm chosen).length_eq
     have hct := hI.ct
     dsimp only at h ⊢
     rcases hc' with h1 | ⟨h1, h2⟩
     ·exact .inl (by omega)
     ·exact .inr ⟨by omega, .inl (by omega)⟩
  ·rw [if_neg hc]
   cases hr : lsRow P hv on none with
   | none =>
    have hall := ((lsRow_none P hv on none).1 hr).2
    have hT0 : lsT P on chosen (sortN chosen, count) := by
     refine ⟨sortN_strict hI.nd, fun i hi => hI.lt i ((sortN_perm chosen).mem_iff.1 hi), fun i hi => (sortN_perm chosen).mem_iff.2 hi, fun x hx => ?_, ?_⟩
     ·obtain ⟨i, h1, h2⟩ := (hI.hv x).1 (hall x hx)
      exact ⟨i, (sortN_perm chosen).mem_iff.2 h1, h2⟩
     ·rw [hI.ct]; exact (lsLit_perm (sortN_perm chosen)).symm
    have hmin : ∀ t, lsT P on chosen t → kLe (sortN chosen, count) t := fun t ht => by
     rcases lsT_len ht hI.nd with h | ⟨_, rfl⟩
     ·have := (sortN_perm chosen).length_eq
      exact .inr (.inl (by dsimp only; omega))
     ·exact .inl (by rw [hI.ct])
    show lsR s (lsT P on chosen) (lsEnd s chosen count)
    cases s with
    | none => exact .inr ⟨_, rfl, hT0, (fun b hb => by cases hb), hmin⟩
    | some b =>
     obtain ⟨b, k⟩ := b
     have hl := (sortN_perm chosen).length_eq
     by_cases hk : kLt (sortN chosen, count) (b, k)
     ·have : lsEnd (some (b, k)) chosen count = some (sortN chosen, count) := by
       rw [lsEnd, if_pos]
       unfold kLt at hk
       dsimp only at hk
       rw [hl] at hk
       exact hk
      rw [this]
      exact .inr ⟨_, rfl, hT0, fun b' hb => by cases hb; exact hk, hmin⟩
     ·have : lsEnd (some (b, k)) chosen count = some (b, k) := by
       rw [lsEnd, if_neg]
       intro h
       apply hk
       unfold kLt
       dsimp only
       rw [hl]
       exact h
      rw [this]
      refine .inl ⟨rfl, fun t ht => ⟨_, rfl, ?_⟩⟩
      rcases kLe_of_not hk with e | e
      ·rw [e]; exact hmin t ht
      ·exact .inr (kLt_le e (hmin t ht))
   | some y =>
    obtain ⟨row, l⟩ := y
    obtain ⟨hon, hnr⟩ : row ∈ on ∧ hv.testBit row = false := by
     rcases lsRow_some P hv on none row l hr with ⟨l', h⟩ | h
     ·cases h
     ·exact h
    dsimp only
    by_cases hfu : lsFull s chosen = true
    ·rw [if_pos hfu]
     refine .inl ⟨rfl, fun t ht => ?_⟩
     cases s with
     | none => cases hfu
     | some b =>
      obtain ⟨b, k⟩ := b
      have hf' := of_decide_eq_true (show decide (b.length ≤ chosen.length) = true from hfu)
      refine ⟨_, rfl, .inr (.inl ?_)⟩
      rcases lsT_len ht hI.nd with h | ⟨_, rfl⟩
      ·dsimp only; omega
      ·exfalso
       obtain ⟨i, h1, h2⟩ := ht.2.2.2.1 row hon
       have := (hI.hv row).2 ⟨i, (sortN_perm chosen).mem_iff.1 h1, h2⟩
       rw [hnr] at this; cases this
    ·rw [if_neg hfu]
     have h1 := lsGo_spec P on f row chosen hv count hI hnr (fun s i hi hb => lsSeek_spec P on f s _ _ _ (hI.next hi hb hnr) (by
      have := filter_less (fun x => !hv.testBit x) (fun x => !(hv ||| (P.getD i (0, 0)).1).testBit x) on (fun x _ hx => by
       rw [Nat.testBit_or] at hx
       cases hh : hv.testBit x with
       | false => rfl
       | true => rw [hh] at hx; cases hx) ⟨row, hon, by rw [hnr]; rfl, by rw [Nat.testBit_or, hb]; simp⟩
      omega)) P 0 s rfl
     refine h1.congr fun t => ⟨fun h => h.1, fun h => ⟨h, ?_⟩⟩
     obtain ⟨j, j1, j2⟩ := h.2.2.2.1 row hon
     exact ⟨j, j1, Nat.zero_le _, j2⟩
theorem lsSeek_all (P : List (Nat × Nat)) (on : List Nat) (h : ∃ t, lsT P on [] t) : ∃ b, lsSeek P on (on.length + 1) none [] 0 0 = some b ∧ lsT P on [] b ∧ ∀ t, lsT P on [] t → kLe b t := by
 have := lsSeek_spec P on (on.length + 1) none [] 0 0 ⟨List.nodup_nil, (fun _ h => by cases h), (fun x => by simp), rfl⟩ (Nat.lt_succ_of_le (List.length_filter_le _ _))
 rcases this with ⟨_, h2⟩ | ⟨b, h1, h2, _, h3⟩
 ·obtain ⟨t, ht⟩ := h
  obtain ⟨b, hb, _⟩ := h2 t ht
  cases hb
 ·exact ⟨b, h1, h2, h3⟩
end Go.Proofs.YtaegjpancbmppaaGreatDoor
namespace Go.Proofs.YtaegjpancbmppaaGreatDoor
open Go.RowKit
def costN : List (Nat × Nat) → Nat → Nat
 | [], rest => if rest = 0 then 0 else 1000000
 | p :: l, rest => if rest = 0 then 0 else if adn rest p.1 = rest then costN l rest else min (costN l rest) (100 + p.2 + costN l (adn rest p.1))
def grd : List (Nat × Nat) → Nat → Nat → List Nat
 | [], _, _ => []
 | p :: l, i, rest => if rest = 0 then [] else if adn rest p.1 ≠ rest ∧ 100 + p.2 + costN l (adn rest p.1) = costN (p :: l) rest then i :: grd l (i + 1) (adn rest p.1) else grd l (i + 1) rest
def cvS (Q : List (Nat × Nat)) (i rest : Nat) (S : List Nat) : Prop :=
 S.Pairwise (· < ·) ∧ (∀ j ∈ S, i ≤ j ∧ j < Q.length) ∧ ∀ x, rest.testBit x = true → ∃ j ∈ S, (Q.getD j (0, 0)).1.testBit x = true
def wtS (Q : List (Nat × Nat)) (S : List Nat) : Nat := (S.map fun j => 100 + (Q.getD j (0, 0)).2).sum
def onM (m : Nat) (on : List Nat) : Nat := rowM ((List.range on.length).filter fun y => m.testBit (on.getD y 0))
theorem cov_few (P : List (Nat × Nat)) : ∀ on : List Nat, (∀ x ∈ on, ∃ j, j < P.length ∧ (P.getD j (0, 0)).1.testBit x = true) → ∃ S : List Nat, S.Pairwise (· < ·) ∧ (∀ i ∈ S, i < P.length) ∧ lsCov P on S ∧ S.length ≤ on.length
 | [], _ => ⟨[], List.Pairwise.nil, (fun _ h => by cases h), (fun _ h => by cases h), Nat.le_refl _⟩
 | x :: on, h => by
  obtain ⟨S, h1, h2, h3, h4⟩ := cov_few P on fun y hy => h y (List.mem_cons_of_mem _ hy)
  obtain ⟨j, j1, j2⟩ := h x (List.mem_cons_self ..)
  by_cases hj : j ∈ S
  ·refine ⟨S, h1, h2, fun y hy => ?_, by rw [List.length_cons]; omega⟩
   rcases List.mem_cons.1 hy with rfl | hy
   ·exact ⟨j, hj, j2⟩
   ·exact h3 y hy
  ·have hp := insN_perm j S
   have hnd : (insN j S).Nodup := hp.nodup_iff.2 (List.nodup_cons.2 ⟨hj, h1.imp fun h => Nat.ne_of_lt h⟩)
   refine ⟨insN j S, ((insN_sorted j S (h1.imp fun h => Nat.le_of_lt h)).and hnd).imp fun ⟨a, b⟩ => Nat.lt_of_le_of_ne a b, fun i hi => ?_, fun y hy => ?_, by rw [hp.length_eq, List.length_cons, List.length_cons]; omega⟩
   ·rcases List.mem_cons.1 (hp.mem_iff.1 hi) with rfl | hi
    ·exact j1
    ·exact h2 i hi
   ·rcases List.mem_cons.1 hy with rfl | hy
    ·exact ⟨j, hp.mem_iff.2 (List.mem_cons_self ..), j2⟩
    ·obtain ⟨i, i1, i2⟩ := h3 y hy
     exact ⟨i, hp.mem_iff.2 (List.mem_cons_of_mem _ i1), i2⟩
end Go.Proofs.YtaegjpancbmppaaGreatDoor
namespace Go.Proofs.YtaegjpancbmppaaGreatDoor
def allK (may c v : Nat) : Nat → Bool
 | 0 => true
 | k + 1 => allK may c v k && (!(k &&& c == v) || may.testBit k)
def someK (on c v : Nat) : Nat → Bool
 | 0 => false
 | k + 1 => someK on c v k || (k &&& c == v && on.testBit k)
theorem inM {L : List Int} (h0 : ∀ x ∈ L, 0 ≤ x) (r : Nat) : (rowM (L.map Int.toNat)).testBit r = decide ((r : Int) ∈ L) := by
 rw [rowM_bit, decide_eq_decide, List.mem_map]
 constructor
 ·rintro ⟨x, hx, rfl⟩
  rwa [Int.toNat_of_nonneg (h0 x hx)]
 ·intro h; exact ⟨_, h, by simp⟩
theorem meetM {L K : List Int} (hL : ∀ x ∈ L, 0 ≤ x) (hK : ∀ x ∈ K, 0 ≤ x) : rowM (L.map Int.toNat) &&& rowM (K.map Int.toNat) = 0 ↔ ∀ z ∈ K, z ∉ L := by
 rw [← Decidable.not_not (p := rowM (L.map Int.toNat) &&& rowM (K.map Int.toNat) = 0)]
 refine (not_congr and_nil).trans ?_
 constructor
 ·intro h z hz hzl
  refine h ⟨z.toNat, ?_, ?_⟩
  ·rw [inM hL, Int.toNat_of_nonneg (hL z hzl)]; exact decide_eq_true hzl
  ·rw [inM hK, Int.toNat_of_nonneg (hL z hzl)]; exact decide_eq_true hz
 ·rintro h ⟨i, h1, h2⟩
  rw [inM hL, decide_eq_true_eq] at h1
  rw [inM hK, decide_eq_true_eq] at h2
  exact h _ h2 h1
def stayK (n may c v : Nat) : Nat → Bool
 | 0 => true
 | k + 1 => stayK n may c v k && (!c.testBit k || !impB n may (adn c (2 ^ k)) (adn v (2 ^ k)))
def priB (n on may c v : Nat) : Bool := impB n may c v && (cM n c v &&& on != 0) && stayK n may c v n
def pvK (n on may c m : Nat) : List Nat := (List.range m).filter fun v => decide (adn v c = 0 ∧ prP n on may c v)
def pcK (n on may k m : Nat) : List (Nat × Nat) := (List.range m).flatMap fun c => if popc c = k then (prV n on may c).map fun v => (c, v) else []
def plK (n on may j : Nat) : List (Nat × Nat) := (List.range j).flatMap fun k => pcK n on may k (2 ^ n)
def mkOn (on k : Nat) : List Nat := (List.range k).filter fun r => on.testBit r
def mkFr (on fr k : Nat) : List Nat := (List.range k).filter fun r => !on.testBit r && fr.testBit r
theorem mkOn_succ (on k : Nat) : mkOn on (k + 1) = if on.testBit k = true then mkOn on k ++ [k] else mkOn on k := by
 unfold mkOn
 rw [List.range_succ, List.filter_append]
 by_cases h : on.testBit k = true
 ·rw [if_pos h, List.filter_cons_of_pos h]; rfl
 ·rw [if_neg h, List.filter_cons_of_neg h, List.filter_nil, List.append_nil]
theorem mkFr_succ (on fr k : Nat) : mkFr on fr (k + 1) = if on.testBit k = true then mkFr on fr k else if fr.testBit k = true then mkFr on fr k ++ [k] else mkFr on fr k := by
 unfold mkFr
 rw [List.range_succ, List.filter_append]
 by_cases h : on.testBit k = true
 ·rw [if_pos h, List.filter_cons_of_neg (by simp [h]), List.filter_nil, List.append_nil]
 ·rw [if_neg h]
  by_cases h2 : fr.testBit k = true
  ·rw [if_pos h2, List.filter_cons_of_pos (by simp [h, h2])]; rfl
  ·rw [if_neg h2, List.filter_cons_of_neg (by simp [h2]), List.filter_nil, List.append_nil]
theorem mkOn_mem {on k r : Nat} : r ∈ mkOn on k ↔ r < k ∧ on.testBit r = true := by unfold mkOn; rw [List.mem_filter, List.mem_range]
theorem mkFr_mem {on fr k r : Nat} : r ∈ mkFr on fr k ↔ r < k ∧ on.testBit r = false ∧ fr.testBit r = true := by
 unfold mkFr; rw [List.mem_filter, List.mem_range]; simp
theorem mkOn_sorted (on k : Nat) : (mkOn on k).Pairwise (· < ·) := List.Pairwise.filter _ List.pairwise_lt_range
theorem mkFr_sorted (on fr k : Nat) : (mkFr on fr k).Pairwise (· < ·) := List.Pairwise.filter _ List.pairwise_lt_range
theorem mkOn_len (on k : Nat) : (mkOn on k).length ≤ k := by
 have := List.length_filter_le (fun r => on.testBit r) (List.range k); rwa [List.length_range] at this
theorem mkFr_len (on fr k : Nat) : (mkFr on fr k).length ≤ k := by
 have := List.length_filter_le (fun r => !on.testBit r && fr.testBit r) (List.range k); rwa [List.length_range] at this
end Go.Proofs.YtaegjpancbmppaaGreatDoor
namespace Go.Proofs.YtaegjpancbmppaaGreatDoor
def hasB (x : Nat × Nat) (r : Nat) : Bool := r &&& x.1 == x.2
def cntE (P : List (Nat × Nat)) (r : Nat) : Nat := P.countP fun x => hasB x r
def aloB (P : List (Nat × Nat)) (rows : List Nat) (x : Nat × Nat) : Bool := rows.any fun r => cntE P r == 1 && hasB x r
def essL (P : List (Nat × Nat)) (rows : List Nat) : List (Nat × Nat) := P.filter (aloB P rows)
def onlyK (P : List (Nat × Nat)) (r : Nat) : Nat → Nat
 | 0 => 0
 | j + 1 => if hasB (P.getD j (0, 0)) r = true then j else onlyK P r j
def cntK (P : List (Nat × Nat)) (r j : Nat) : Nat := (P.take j).countP fun x => hasB x r
theorem cntK_zero (P : List (Nat × Nat)) (r : Nat) : cntK P r 0 = 0 := by simp [cntK]
theorem cntK_succ {P : List (Nat × Nat)} {r j : Nat} (h : j < P.length) : cntK P r (j + 1) = if hasB (P.getD j (0, 0)) r = true then cntK P r j + 1 else cntK P r j := by
 have e : P.getD j (0, 0) = P[j] := by rw [List.getD_eq_getElem?_getD, List.getElem?_eq_getElem h]; rfl
 unfold cntK
 rw [List.take_succ_eq_append_getElem h, List.countP_append, List.countP_singleton, e]
 split <;> simp_all
theorem cntK_full (P : List (Nat × Nat)) (r : Nat) : cntK P r P.length = cntE P r := by unfold cntK cntE; rw [List.take_length]
theorem cntK_le (P : List (Nat × Nat)) (r j : Nat) : cntK P r j ≤ j := by
 unfold cntK
 refine Nat.le_trans (List.countP_le_length) ?_
 rw [List.length_take]; omega
theorem onlyK_lt (P : List (Nat × Nat)) (r : Nat) : ∀ j, onlyK P r j ≤ j
 | 0 => Nat.le_refl _
 | j + 1 => by
  rw [onlyK]
  split
  ·exact Nat.le_succ _
  ·exact Nat.le_succ_of_le (onlyK_lt P r j)
theorem cnt_none {P : List (Nat × Nat)} {r j : Nat} (h : cntK P r j = 0) (hj : j ≤ P.length) {i : Nat} (hi : i < j) : hasB (P.getD i (0, 0)) r = false := by
 have hiP : i < P.length := by omega
 unfold cntK at h
 rw [List.countP_eq_zero] at h
 have hm : P[i] ∈ P.take j := by
  rw [List.mem_take_iff_getElem]
  exact ⟨i, by omega, rfl⟩
 have := h _ hm
 rw [List.getD_eq_getElem?_getD, List.getElem?_eq_getElem hiP]
 simpa using this
theorem only_iff {P : List (Nat × Nat)} {r : Nat} : ∀ {j : Nat}, cntK P r j = 1 → j ≤ P.length → ∀ i, i < j → (hasB (P.getD i (0, 0)) r = true ↔ onlyK P r j = i)
 | 0, _, _, i, hi => absurd hi (by omega)
 | j + 1, h, hj, i, hi => by
  rw [cntK_succ (by omega)] at h
  rw [onlyK]
  by_cases hb : hasB (P.getD j (0, 0)) r = true
  ·rw [if_pos hb] at h
   rw [if_pos hb]
   rcases Nat.lt_succ_iff_lt_or_eq.1 hi with hi | rfl
   ·rw [cnt_none (show cntK P r j = 0 by omega) (by omega) hi]
    constructor
    ·intro h; cases h
    ·intro h; omega
   ·exact ⟨fun _ => rfl, fun _ => hb⟩
  ·rw [if_neg hb] at h
   rw [if_neg hb]
   rcases Nat.lt_succ_iff_lt_or_eq.1 hi with hi | rfl
   ·exact only_iff h (by omega) i hi
   ·constructor
    ·intro h; exact absurd h hb
    ·intro h'
     have hl := onlyK_lt P r i
     exfalso
     cases i with
     | zero => rw [cntK_zero] at h; cases h
     | succ i =>
      have key : ∀ k, k ≤ P.length → 0 < cntK P r k → onlyK P r k < k := by
       intro k
       induction k with
       | zero => intro _ h; rw [cntK_zero] at h; cases h
       | succ k ih =>
        intro hk h
        rw [onlyK]
        split
        ·exact Nat.lt_succ_self k
        ·rename_i hn
         rw [cntK_succ (by omega), if_neg hn] at h
         exact Nat.lt_succ_of_lt (ih (by omega) h)
      have := key (i + 1) (by omega) (by omega)
      omega
def needK (P : List (Nat × Nat)) (rows : List Nat) (i : Nat) : Nat → Bool
 | 0 => false
 | k + 1 => needK P rows i k || (cntE P (rows.getD k 0) == 1 && onlyK P (rows.getD k 0) P.length == i)
theorem need_iff {P : List (Nat × Nat)} {rows : List Nat} {i : Nat} : ∀ {k : Nat}, needK P rows i k = true ↔ ∃ j, j < k ∧ cntE P (rows.getD j 0) = 1 ∧ onlyK P (rows.getD j 0) P.length = i
 | 0 => by simp [needK]
 | k + 1 => by
  rw [needK, Bool.or_eq_true, need_iff, Bool.and_eq_true, beq_iff_eq, beq_iff_eq]
  constructor
  ·rintro (⟨j, hj, h⟩ | h)
   ·exact ⟨j, Nat.lt_succ_of_lt hj, h⟩
   ·exact ⟨k, Nat.lt_succ_self k, h⟩
  ·rintro ⟨j, hj, h⟩
   rcases Nat.lt_succ_iff_lt_or_eq.1 hj with h' | rfl
   ·exact .inl ⟨j, h', h⟩
   ·exact .inr h
theorem need_alo {P : List (Nat × Nat)} {rows : List Nat} {i : Nat} (hi : i < P.length) : needK P rows i rows.length = aloB P rows (P.getD i (0, 0)) := by
 rw [Bool.eq_iff_iff, need_iff]
 unfold aloB
 rw [List.any_eq_true]
 constructor
 ·rintro ⟨j, hj, h1, h2⟩
  refine ⟨rows[j], List.getElem_mem hj, ?_⟩
  have e : rows.getD j 0 = rows[j] := by rw [List.getD_eq_getElem?_getD, List.getElem?_eq_getElem hj]; rfl
  rw [e] at h1 h2
  rw [Bool.and_eq_true, beq_iff_eq]
  exact ⟨h1, (only_iff (by rw [cntK_full]; exact h1) (Nat.le_refl _) i hi).2 h2⟩
 ·rintro ⟨r, hr, h⟩
  rw [Bool.and_eq_true, beq_iff_eq] at h
  obtain ⟨j, hj, rfl⟩ := List.getElem_of_mem hr
  have e : rows.getD j 0 = rows[j] := by rw [List.getD_eq_getElem?_getD, List.getElem?_eq_getElem hj]; rfl
  exact ⟨j, hj, by rw [e]; exact h.1, by rw [e]; exact (only_iff (by rw [cntK_full]; exact h.1) (Nat.le_refl _) i hi).1 h.2⟩
def essK (P : List (Nat × Nat)) (rows : List Nat) (j : Nat) : List (Nat × Nat) := (P.take j).filter (aloB P rows)
theorem essK_zero (P : List (Nat × Nat)) (rows : List Nat) : essK P rows 0 = [] := by simp [essK]
theorem essK_full (P : List (Nat × Nat)) (rows : List Nat) : essK P rows P.length = essL P rows := by unfold essK essL; rw [List.take_length]
theorem essK_succ {P : List (Nat × Nat)} {rows : List Nat} {j : Nat} (h : j < P.length) : essK P rows (j + 1) = if aloB P rows (P.getD j (0, 0)) = true then essK P rows j ++ [P.getD j (0, 0)] else essK P rows j := by
 have e : P.getD j (0, 0) = P[j] := by rw [List.getD_eq_getElem?_getD, List.getElem?_eq_getElem h]; rfl
 unfold essK
 rw [List.take_succ_eq_append_getElem h, List.filter_append, e]
 by_cases hb : aloB P rows P[j] = true
 ·rw [if_pos hb, List.filter_cons_of_pos hb]; rfl
 ·rw [if_neg hb, List.filter_cons_of_neg hb, List.filter_nil, List.append_nil]
theorem essK_len (P : List (Nat × Nat)) (rows : List Nat) (j : Nat) : (essK P rows j).length ≤ P.length := by
 unfold essK
 refine Nat.le_trans (List.length_filter_le _ _) ?_
 rw [List.length_take]; omega
end Go.Proofs.YtaegjpancbmppaaGreatDoor
namespace Go.Proofs.YtaegjpancbmppaaGreatDoor
def remK (x : Nat × Nat) (on : List Nat) (rest : Nat) : Nat → Nat
 | 0 => rest
 | i + 1 => if hasB x (on.getD i 0) = true then adn (remK x on rest i) (2 ^ i) else remK x on rest i
def wtQ (n : Nat) (P : List (Nat × Nat)) (on : List Nat) : List (Nat × Nat) := P.map fun x => (onM (cM n x.1 x.2) on, popc x.1)
def csT (n : Nat) (P : List (Nat × Nat)) (on : List Nat) (i rest : Nat) : Nat := costN ((wtQ n P on).drop i) rest
def pkK (n : Nat) (P : List (Nat × Nat)) (on : List Nat) (full : Nat) : Nat → List (Nat × Nat) × Nat
 | 0 => ([], full)
 | i + 1 =>
  let s := pkK n P on full i
  let left := remK (P.getD i (0, 0)) on s.2 on.length
  if left ≠ s.2 ∧ 100 + popc (P.getD i (0, 0)).1 + csT n P on (i + 1) left = csT n P on i s.2 then (s.1 ++ [P.getD i (0, 0)], left) else s
end Go.Proofs.YtaegjpancbmppaaGreatDoor
namespace Go.Proofs.YtaegjpancbmppaaGreatDoor
theorem full_and {q r : Nat} (h : r < 2 ^ q) : r &&& (2 ^ q - 1) = r := by rw [Nat.and_two_pow_sub_one_eq_mod, Nat.mod_eq_of_lt h]
theorem row_prime {q may : Nat} {no : List Nat} (hq : q ≤ 8) (ho : ∀ r ∈ no, r < 2 ^ q) (hm : ∀ r ∈ no, may.testBit r = true) {x : Nat} (hx : x ∈ no) : ∃ y ∈ prS q (rowM no) may, x &&& y.1 = y.2 := by
 have hp : 0 < 2 ^ q := Nat.two_pow_pos q
 have hi : impB q may (2 ^ q - 1) x = true := impB_iff.2 fun r hr he => by
  rw [full_and hr] at he
  rw [he]
  exact hm x hx
 have hne : cM q (2 ^ q - 1) x &&& rowM no ≠ 0 := and_nil.2 ⟨x, (cM_bit _ _ _ _).2 ⟨ho x hx, full_and (ho x hx)⟩, by rw [rowM_bit]; exact decide_eq_true hx⟩
 obtain ⟨y, hy, hall⟩ := imp_prime hq _ _ (by omega) hi hne
 exact ⟨y, hy, hall x (full_and (ho x hx))⟩
theorem lsP_getD {q : Nat} {P : List (Nat × Nat)} {j : Nat} (h : j < P.length) : (lsP q P).getD j (0, 0) = (cM q (P.getD j (0, 0)).1 (P.getD j (0, 0)).2, popc (P.getD j (0, 0)).1) := by
 unfold lsP
 rw [List.getD_eq_getElem?_getD, List.getElem?_map, List.getElem?_eq_getElem h, List.getD_eq_getElem?_getD, List.getElem?_eq_getElem h]
 rfl
end Go.Proofs.YtaegjpancbmppaaGreatDoor
namespace Go.Proofs.YtaegjpancbmppaaGreatDoor
open Go.RowKit
section
variable {κ : Type} [DecidableEq κ]
def fnd (k : κ) : List (κ × Value) → Nat → Option (Nat × Value)
 | [], _ => none
 | p :: ps, i => if k = p.1 then some (i, p.2) else fnd k ps (i + 1)
def mget (m : List (κ × Value)) (k : κ) : Option Value := (fnd k m 0).map (·.2)
def mput (m : List (κ × Value)) (k : κ) (v : Value) : List (κ × Value) :=
 match fnd k m 0 with
 | some (i, _) => m.set i (k, v)
 | none => m ++ [(k, v)]
structure KeyKind (κ : Type) [DecidableEq κ] (P : Program) (kt : TypeId) where
 enc : κ → Value
 desc : TypeDesc
 und : P.underlying kt = some desc
 same : ∀ a b, Instr.sameNow desc (enc a) (enc b) = some (decide (a = b))
 check : ∀ (w : World) (em : Bool) a, (Instr.checkKey em 10000 kt (enc a)).run P w = .ok () w
 stays : ∀ (w : World) a, (Instr.keyThatStays (enc a) (enc a)).run P w = .ok (enc a) w
variable {P : Program} {kt : TypeId} (K : KeyKind κ P kt)
def MapB (K : KeyKind κ P kt) (w : World) (b : Nat) (m : List (κ × Value)) : Prop :=
 ∃ es clock, w.heap[b]? = some (.map es clock) ∧ es.toList.map (fun e => (e.key, e.val)) = m.map (fun p => (K.enc p.1, p.2))
theorem findNow_eq (k : κ) : ∀ (m : List (κ × Value)) (es : List MapEntry) (i : Nat), es.map (fun e => (e.key, e.val)) = m.map (fun p => (K.enc p.1, p.2)) →
  Instr.findNow K.desc (K.enc k) es i = some (fnd k m i)
 | [], [], i, _ => rfl
 | [], _ :: _, _, h => by simp at h
 | _ :: _, [], _, h => by simp at h
 | p :: m, e :: es, i, h => by
  simp only [List.map_cons, List.cons.injEq, Prod.mk.injEq] at h
  obtain ⟨⟨h1, h2⟩, h3⟩ := h
  unfold Instr.findNow fnd
  rw [h1, K.same, h2]
  by_cases e : k = p.1
  ·rw [decide_eq_true e, if_pos e]
  ·rw [decide_eq_false e, if_neg e]
   exact findNow_eq k m es (i + 1) h3
theorem fnd_some {k : κ} {v : Value} : ∀ {m : List (κ × Value)} {i j : Nat}, fnd k m i = some (j, v) → i ≤ j ∧ m[j - i]? = some (k, v)
 | [], _, _, h => by simp [fnd] at h
 | p :: m, i, j, h => by
  unfold fnd at h
  by_cases e : k = p.1
  ·rw [if_pos e] at h
   injection h with h; injection h with h1 h2
   subst h1; subst h2
   simp [e]
  ·rw [if_neg e] at h
   have := fnd_some h
   refine ⟨by omega, ?_⟩
   rw [show j - i = (j - (i + 1)) + 1 by omega, List.getElem?_cons_succ]
   exact this.2
variable {w : World} {b : Nat} {m : List (κ × Value)}
theorem run_getMap {es : Array MapEntry} {clock : Nat} (hb : w.heap[b]? = some (.map es clock)) : (getObj b).run P w = .ok (.map es clock) w := by
 simp [getObj, Sem.run, hb]
theorem run_setMap {es : Array MapEntry} {clock : Nat} (hb : w.heap[b]? = some (.map es clock)) (o : Obj) : (setObj b o).run P w = .ok () { w with heap := w.heap.setIfInBounds b o } := by
 simp [setObj, Sem.run, hb]
theorem run_look {t e : TypeId} (ht : P.underlying t = some (.map kt e)) {z : Value} (hz : ∀ w, (zeroValue e).run P w = .ok z w) (h : MapB K w b m) (k : κ) (ok : Bool) :
  (Instr.lookup t (.map (some b)) (K.enc k) ok).run P w = .ok (if ok then .tuple #[(mget m k).getD z, .bool (mget m k).isSome] else (mget m k).getD z) w := by
 obtain ⟨es, clock, hb, he⟩ := h
 have hf := findNow_eq K k m es.toList 0 he
 unfold mget
 cases hq : fnd k m 0 with
 | none =>
  rw [hq] at hf
  cases ok <;> simp [Instr.lookup, run_underlying ht, run_getMap hb, K.check, Instr.findKey, run_underlying K.und, hf, hz]
 | some q =>
  rw [hq] at hf
  cases ok <;> simp [Instr.lookup, run_underlying ht, run_getMap hb, K.check, Instr.findKey, run_underlying K.und, hf]
theorem run_store {t e : TypeId} (ht : P.underlying t = some (.map kt e)) (h : MapB K w b m) (k : κ) (v : Value) :
  ∃ w', (Instr.mapUpdate t (.map (some b)) (K.enc k) v).run P w = .ok () w' ∧ MapB K w' b (mput m k v) ∧ w.grownBy w' (some b) := by
 obtain ⟨es, clock, hb, he⟩ := h
 have hf := findNow_eq K k m es.toList 0 he
 unfold mput
 have hlt : b < w.heap.size := (Array.getElem?_eq_some_iff.1 hb).1
 cases hq : fnd k m 0 with
 | none =>
  rw [hq] at hf
  refine ⟨{ w with heap := w.heap.setIfInBounds b (.map (es.push { key := K.enc k, val := v, born := clock }) (clock + 1)) }, ?_, ?_, ?_⟩
  ·simp [Instr.mapUpdate, run_underlying ht, run_getMap hb, K.check, Instr.findKey, run_underlying K.und, hf, run_setMap hb]
  ·exact ⟨_, _, by simp [hlt]; exact ⟨rfl, rfl⟩, by simp [he]⟩
  ·exact ⟨rfl, rfl, rfl, by simp, fun i _ hi => by simp only [Array.getElem?_setIfInBounds]; rw [if_neg (fun e => hi (by rw [e]))]⟩
 | some q =>
  obtain ⟨i, u⟩ := q
  rw [hq] at hf
  have hs := (fnd_some hq).2
  rw [Nat.sub_zero] at hs
  have hk : (es[i]?).map (·.key) = some (K.enc k) := by
   have := congrArg (fun l => l[i]?) he
   simp only [List.getElem?_map, hs, Option.map_some] at this
   rw [Array.getElem?_toList] at this
   cases hx : es[i]? with
   | none => rw [hx] at this; simp at this
   | some x => rw [hx] at this; simp at this; simp [this.1]
  refine ⟨{ w with heap := w.heap.setIfInBounds b (.map (es.modify i fun e => { e with key := K.enc k, val := v }) clock) }, ?_, ?_, ?_⟩
  ·simp [Instr.mapUpdate, run_underlying ht, run_getMap hb, K.check, Instr.findKey, run_underlying K.und, hf, run_setMap hb, hk, K.stays]
  ·refine ⟨_, _, by simp [hlt]; exact ⟨rfl, rfl⟩, ?_⟩
   apply List.ext_getElem?
   intro j
   have hj := congrArg (fun l => l[j]?) he
   simp only [List.getElem?_map] at hj ⊢
   rw [Array.getElem?_toList] at hj ⊢
   rw [Array.getElem?_modify, List.getElem?_set]
   by_cases e : i = j
   ·subst e
    have hl : i < m.length := (List.getElem?_eq_some_iff.1 hs).1
    cases hx : es[i]? with
    | none => rw [hx] at hk; simp at hk
    | some x => simp [hl]
   ·simp only [if_neg e]
    exact hj
  ·exact ⟨rfl, rfl, rfl, by simp, fun i _ hi => by simp only [Array.getElem?_setIfInBounds]; rw [if_neg (fun e => hi (by rw [e]))]⟩
theorem MapB.lt (h : MapB K w b m) : b < w.heap.size := by
 obtain ⟨es, clock, hb, _⟩ := h
 exact (Array.getElem?_eq_some_iff.1 hb).1
theorem MapB.new (w : World) : MapB K (w.alloc (.map #[] 0)) w.heap.size [] := ⟨#[], 0, heap_alloc_new w _, rfl⟩
theorem MapB.keep {w' : World} (h : MapB K w b m) (he : w'.heap[b]? = w.heap[b]?) : MapB K w' b m := by
 obtain ⟨es, clock, hb, h2⟩ := h
 exact ⟨es, clock, he.trans hb, h2⟩
theorem MapB.below {w' : World} {B : Nat} (h : MapB K w b m) (hb : Below B w w') (hB : b < B) : MapB K w' b m := h.keep _ (hb.block b hB)
end
theorem check_int {P : Program} {kt : TypeId} {q : IntKind} (h : P.underlying kt = some (.int q)) (w : World) (em : Bool) (a : Int) (n : Nat) : (Instr.checkKey em (n + 1) kt (.int q a)).run P w = .ok () w := by
 simp [Instr.checkKey, run_underlying h]
theorem check_str {P : Program} {kt : TypeId} (h : P.underlying kt = some .string) (w : World) (em : Bool) (a : ByteArray) (n : Nat) : (Instr.checkKey em (n + 1) kt (.string a)).run P w = .ok () w := by
 simp [Instr.checkKey, run_underlying h]
theorem bits_int {q : IntKind} (a : Int) (n : Nat) : Instr.sameBits (n + 1) (.int q a) (.int q a) = true := by simp [Instr.sameBits]
theorem beq_bytes (a b : ByteArray) : (a == b) = decide (a = b) := by
 obtain ⟨x⟩ := a
 obtain ⟨y⟩ := b
 have e : ((⟨x⟩ : ByteArray) == ⟨y⟩) = (x == y) := rfl
 rw [e]
 by_cases h : x = y
 ·subst h; simp
 ·rw [decide_eq_false (fun k => h (by injection k)), beq_eq_false_iff_ne]; exact h
theorem bits_str (a : ByteArray) (n : Nat) : Instr.sameBits (n + 1) (.string a) (.string a) = true := by simp [Instr.sameBits, beq_bytes]
def intKeys {P : Program} {kt : TypeId} {q : IntKind} (h : P.underlying kt = some (.int q)) : KeyKind Int P kt where
 enc := fun n => .int q n
 desc := .int q
 und := h
 same := fun a b => by simp [Instr.sameNow, Bool.beq_eq_decide_eq]
 check := fun w em a => check_int h w em a 9999
 stays := fun w a => by
  unfold Instr.keyThatStays
  rw [show Instr.sameBits 10000 (.int q a) (.int q a) = true from bits_int a 9999]
  simp
def strKeys {P : Program} {kt : TypeId} (h : P.underlying kt = some .string) : KeyKind ByteArray P kt where
 enc := fun s => .string s
 desc := .string
 und := h
 same := fun a b => by simp [Instr.sameNow, beq_bytes]
 check := fun w em a => check_str h w em a 9999
 stays := fun w a => by
  unfold Instr.keyThatStays
  rw [show Instr.sameBits 10000 (.string a) (.string a) = true from bits_str a 9999]
  simp
end Go.Proofs.YtaegjpancbmppaaGreatDoor
