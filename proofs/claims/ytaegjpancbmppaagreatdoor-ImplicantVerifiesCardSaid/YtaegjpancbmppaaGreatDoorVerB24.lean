/- Part 24 of 29 of the proof of the law: contracts of the functions that it reaches, and plain facts. Conditions: those that each contract names. -/
import Derived.Test.YtaegjpancbmppaaGreatDoorVerB01
set_option linter.unusedVariables false
set_option linter.unusedSimpArgs false
namespace Go.Proofs.YtaegjpancbmppaaGreatDoor
open Go.RowKit
theorem lexLt_trans : ∀ a b c, lexLt a b = true → lexLt b c = true → lexLt a c = true
 | [], [], _, h, _ => by cases h
 | [], _ :: _, [], _, h => by cases h
 | [], _ :: _, _ :: _, _, _ => rfl
 | _ :: _, [], _, h, _ => by cases h
 | _ :: _, _ :: _, [], _, h => by cases h
 | x :: a, y :: b, z :: c, h1, h2 => by
  rw [lexLt] at h1 h2 ⊢
  by_cases e1 : x = y
  ·subst e1
   rw [if_pos rfl] at h1
   by_cases e2 : x = z
   ·subst e2
    rw [if_pos rfl] at h2 ⊢
    exact lexLt_trans a b c h1 h2
   ·rw [if_neg e2] at h2 ⊢; exact h2
  ·rw [if_neg e1] at h1
   have h1' := of_decide_eq_true h1
   by_cases e2 : y = z
   ·subst e2
    rw [if_neg e1]; exact h1
   ·rw [if_neg e2] at h2
    have h2' := of_decide_eq_true h2
    rw [if_neg (by omega)]
    exact decide_eq_true (by omega)
theorem lexLt_tri : ∀ a b, a.length = b.length → lexLt a b = true ∨ a = b ∨ lexLt b a = true
 | [], [], _ => .inr (.inl rfl)
 | [], _ :: _, h => by cases h
 | _ :: _, [], h => by cases h
 | x :: a, y :: b, h => by
  rw [lexLt, lexLt]
  by_cases e : x = y
  ·subst e
   rw [if_pos rfl, if_pos rfl]
   rcases lexLt_tri a b (by simpa using h) with h | h | h
   ·exact .inl h
   ·exact .inr (.inl (by rw [h]))
   ·exact .inr (.inr h)
  ·rw [if_neg e, if_neg (fun k => e k.symm)]
   rcases Nat.lt_or_gt_of_ne e with h | h
   ·exact .inl (decide_eq_true h)
   ·exact .inr (.inr (decide_eq_true h))
def kLt (a b : List Nat × Nat) : Prop := a.1.length < b.1.length ∨ a.1.length = b.1.length ∧ (a.2 < b.2 ∨ a.2 = b.2 ∧ lexLt a.1 b.1 = true)
def kLe (a b : List Nat × Nat) : Prop := a = b ∨ kLt a b
theorem kLt_trans {a b c : List Nat × Nat} (h1 : kLt a b) (h2 : kLt b c) : kLt a c := by
 unfold kLt at *
 rcases h1 with h1 | ⟨e1, h1 | ⟨l1, h1⟩⟩ <;> rcases h2 with h2 | ⟨e2, h2 | ⟨l2, h2⟩⟩
 ·exact .inl (by omega)
 ·exact .inl (by omega)
 ·exact .inl (by omega)
 ·exact .inl (by omega)
 ·exact .inr ⟨by omega, .inl (by omega)⟩
 ·exact .inr ⟨by omega, .inl (by omega)⟩
 ·exact .inl (by omega)
 ·exact .inr ⟨by omega, .inl (by omega)⟩
 ·exact .inr ⟨by omega, .inr ⟨by omega, lexLt_trans _ _ _ h1 h2⟩⟩
theorem kLt_le {a b c : List Nat × Nat} (h1 : kLt a b) (h2 : kLe b c) : kLt a c := by
 rcases h2 with rfl | h2
 ·exact h1
 ·exact kLt_trans h1 h2
theorem kLe_of_not {a b : List Nat × Nat} (h : ¬ kLt a b) : kLe b a := by
 unfold kLe kLt at *
 by_cases e : b.1.length = a.1.length
 ·by_cases e2 : b.2 = a.2
  ·rcases lexLt_tri b.1 a.1 e with h1 | h1 | h1
   ·exact .inr (.inr ⟨e, .inr ⟨e2, h1⟩⟩)
   ·exact .inl (Prod.ext h1 e2)
   ·exact absurd (.inr ⟨e.symm, .inr ⟨e2.symm, h1⟩⟩) h
  ·rcases Nat.lt_or_gt_of_ne e2 with h1 | h1
   ·exact .inr (.inr ⟨e, .inl h1⟩)
   ·exact absurd (.inr ⟨e.symm, .inl h1⟩) h
 ·rcases Nat.lt_or_gt_of_ne e with h1 | h1
  ·exact .inr (.inl h1)
  ·exact absurd (.inl h1) h
def lsR (s : LsS) (T : List Nat × Nat → Prop) (s' : LsS) : Prop :=
 (s' = s ∧ ∀ t, T t → ∃ b, s = some b ∧ kLe b t) ∨ ∃ b', s' = some b' ∧ T b' ∧ (∀ b, s = some b → kLt b' b) ∧ ∀ t, T t → kLe b' t
theorem lsR.congr {s s' : LsS} {T T' : List Nat × Nat → Prop} (h : lsR s T s') (ht : ∀ t, T t ↔ T' t) : lsR s T' s' := by
 obtain rfl : T = T' := funext fun t => propext (ht t)
 exact h
theorem lsR.comp {s s1 s2 : LsS} {T1 T2 : List Nat × Nat → Prop} (h1 : lsR s T1 s1) (h2 : lsR s1 T2 s2) : lsR s (fun t => T1 t ∨ T2 t) s2 := by
 rcases h1 with ⟨rfl, k1⟩ | ⟨b1, rfl, t1, l1, k1⟩
 ·rcases h2 with ⟨rfl, k2⟩ | ⟨b2, rfl, t2, l2, k2⟩
  ·exact .inl ⟨rfl, fun t ht => ht.elim (k1 t) (k2 t)⟩
  ·refine .inr ⟨b2, rfl, .inr t2, l2, fun t ht => ht.elim (fun h => ?_) (k2 t)⟩
   obtain ⟨b, hb, hk⟩ := k1 t h
   exact .inr (kLt_le (l2 b hb) hk)
 ·rcases h2 with ⟨rfl, k2⟩ | ⟨b2, rfl, t2, l2, k2⟩
  ·refine .inr ⟨b1, rfl, .inl t1, l1, fun t ht => ht.elim (k1 t) (fun h => ?_)⟩
   obtain ⟨b, hb, hk⟩ := k2 t h
   cases hb
   exact hk
  ·refine .inr ⟨b2, rfl, .inr t2, fun b hb => kLt_trans (l2 b1 rfl) (l1 b hb), fun t ht => ht.elim (fun h => .inr (kLt_le (l2 b1 rfl) (k1 t h))) (k2 t)⟩
theorem insN_perm (x : Nat) : ∀ l, (insN x l).Perm (x :: l)
 | [] => .refl _
 | y :: l => by
  rw [insN]
  split
  ·exact .refl _
  ·exact ((insN_perm x l).cons y).trans (.swap x y l)
theorem sortN_perm : ∀ l, (sortN l).Perm l
 | [] => .refl _
 | x :: l => (insN_perm x (sortN l)).trans ((sortN_perm l).cons x)
theorem insN_sorted (x : Nat) : ∀ l : List Nat, l.Pairwise (· ≤ ·) → (insN x l).Pairwise (· ≤ ·)
 | [], _ => List.pairwise_singleton _ _
 | y :: l, h => by
  obtain ⟨h1, h2⟩ := List.pairwise_cons.1 h
  rw [insN]
  split
  ·rename_i hxy
   refine List.pairwise_cons.2 ⟨fun z hz => ?_, h⟩
   rcases List.mem_cons.1 hz with rfl | hz
   ·exact hxy
   ·exact Nat.le_trans hxy (h1 z hz)
  ·rename_i hxy
   refine List.pairwise_cons.2 ⟨fun z hz => ?_, insN_sorted x l h2⟩
   rcases List.mem_cons.1 ((insN_perm x l).mem_iff.1 hz) with rfl | hz
   ·omega
   ·exact h1 z hz
theorem sortN_sorted : ∀ l : List Nat, (sortN l).Pairwise (· ≤ ·)
 | [] => List.Pairwise.nil
 | x :: l => insN_sorted x _ (sortN_sorted l)
theorem sortN_strict {l : List Nat} (h : l.Nodup) : (sortN l).Pairwise (· < ·) := by
 have h1 := sortN_sorted l
 have h2 : (sortN l).Nodup := (sortN_perm l).nodup_iff.2 h
 exact (h1.and h2).imp fun ⟨a, b⟩ => Nat.lt_of_le_of_ne a b
theorem sub_sublist : ∀ B A : List Nat, A.Pairwise (· < ·) → B.Pairwise (· < ·) → (∀ x ∈ A, x ∈ B) → A.Sublist B
 | [], [], _, _, _ => List.Sublist.slnil
 | [], a :: _, _, _, h => absurd (h a (List.mem_cons_self ..)) (by simp)
 | b :: B, [], _, _, _ => List.nil_sublist _
 | b :: B, a :: A, hA, hB, h => by
  obtain ⟨a1, a2⟩ := List.pairwise_cons.1 hA
  obtain ⟨b1, b2⟩ := List.pairwise_cons.1 hB
  by_cases e : a = b
  ·subst e
   refine (sub_sublist B A a2 b2 fun x hx => ?_).cons_cons a
   rcases List.mem_cons.1 (h x (List.mem_cons_of_mem _ hx)) with e | e
   ·have := a1 x hx; omega
   ·exact e
  ·have ha : a ∈ B := (List.mem_cons.1 (h a (List.mem_cons_self ..))).resolve_left e
   have hba := b1 a ha
   refine (sub_sublist B (a :: A) hA b2 fun x hx => ?_).cons b
   refine (List.mem_cons.1 (h x hx)).resolve_left fun e' => ?_
   rcases List.mem_cons.1 hx with e2 | e2
   ·omega
   ·have := a1 x e2; omega
def lsLit (P : List (Nat × Nat)) (S : List Nat) : Nat := (S.map fun i => (P.getD i (0, 0)).2).sum
def lsCov (P : List (Nat × Nat)) (on S : List Nat) : Prop := ∀ x ∈ on, ∃ i ∈ S, (P.getD i (0, 0)).1.testBit x = true
def lsT (P : List (Nat × Nat)) (on chosen : List Nat) (t : List Nat × Nat) : Prop :=
 t.1.Pairwise (· < ·) ∧ (∀ i ∈ t.1, i < P.length) ∧ (∀ i ∈ chosen, i ∈ t.1) ∧ lsCov P on t.1 ∧ t.2 = lsLit P t.1
theorem lsLit_perm {P : List (Nat × Nat)} {S S' : List Nat} (h : S.Perm S') : lsLit P S = lsLit P S' := (h.map _).sum_nat
theorem lsT_len {P : List (Nat × Nat)} {on chosen : List Nat} {t : List Nat × Nat} (h : lsT P on chosen t) (hn : chosen.Nodup) : chosen.length < t.1.length ∨ (chosen.length = t.1.length ∧ t = (sortN chosen, lsLit P chosen)) := by
 have hs := sub_sublist t.1 (sortN chosen) (sortN_strict hn) h.1 fun x hx => h.2.2.1 x ((sortN_perm chosen).mem_iff.1 hx)
 have hl := (sortN_perm chosen).length_eq
 rcases Nat.lt_or_eq_of_le hs.length_le with k | k
 ·exact .inl (by omega)
 ·have e := hs.eq_of_length k
  exact .inr ⟨by omega, Prod.ext e.symm (by rw [h.2.2.2.2, ← e]; exact lsLit_perm (sortN_perm chosen))⟩
theorem lsRow_none (P : List (Nat × Nat)) (hv : Nat) : ∀ (on : List Nat) (s : Option (Nat × Nat)), lsRow P hv on s = none ↔ s = none ∧ ∀ x ∈ on, hv.testBit x = true
 | [], s => by rw [lsRow]; simp
 | x :: r, s => by
  rw [lsRow, lsRow_none P hv r]
  cases hx : hv.testBit x with
  | true => simp [hx]
  | false =>
   cases s with
   | none => simp [hx]
   | some y =>
    obtain ⟨y, l⟩ := y
    simp only [Bool.false_eq_true, if_false]
    split <;> simp
theorem lsRow_some (P : List (Nat × Nat)) (hv : Nat) : ∀ (on : List Nat) (s : Option (Nat × Nat)) (y l : Nat), lsRow P hv on s = some (y, l) → (∃ l', s = some (y, l')) ∨ (y ∈ on ∧ hv.testBit y = false)
 | [], s, y, l, h => .inl ⟨l, h⟩
 | x :: r, s, y, l, h => by
  rw [lsRow] at h
  cases hx : hv.testBit x with
  | true =>
   rw [hx, if_pos rfl] at h
   exact (lsRow_some P hv r s y l h).imp_right fun k => ⟨List.mem_cons_of_mem _ k.1, k.2⟩
  | false =>
   rw [hx, if_neg (by simp)] at h
   rcases lsRow_some P hv r _ y l h with ⟨l', h'⟩ | h'
   ·cases s with
    | none =>
     simp only [Option.some.injEq, Prod.mk.injEq] at h'
     exact .inr ⟨by rw [h'.1]; exact List.mem_cons_self .., by rw [← h'.1]; exact hx⟩
    | some z =>
     obtain ⟨z, l2⟩ := z
     dsimp only at h'
     split at h'
     ·simp only [Option.some.injEq, Prod.mk.injEq] at h'
      exact .inr ⟨by rw [h'.1]; exact List.mem_cons_self .., by rw [← h'.1]; exact hx⟩
     ·exact .inl ⟨l', h'⟩
   ·exact .inr ⟨List.mem_cons_of_mem _ h'.1, h'.2⟩
structure LsI (P : List (Nat × Nat)) (on chosen : List Nat) (hv count : Nat) : Prop where
 nd : chosen.Nodup
 lt : ∀ i ∈ chosen, i < P.length
 hv : ∀ x, hv.testBit x = true ↔ ∃ i ∈ chosen, (P.getD i (0, 0)).1.testBit x = true
 ct : count = lsLit P chosen
theorem LsI.next {P : List (Nat × Nat)} {on chosen : List Nat} {hv count i row : Nat} (h : LsI P on chosen hv count) (hi : i < P.length) (hr : (P.getD i (0, 0)).1.testBit row = true) (hn : hv.testBit row = false) : LsI P on (chosen ++ [i]) (hv ||| (P.getD i (0, 0)).1) (count + (P.getD i (0, 0)).2) where
 nd := by
  rw [List.nodup_append]
  refine ⟨h.nd, by simp, fun a ha b hb e => ?_⟩
  rw [List.mem_singleton] at hb
  subst e; subst hb
  rw [(h.hv row).2 ⟨a, ha, hr⟩] at hn
  cases hn
 lt := fun j hj => by
  rcases List.mem_append.1 hj with hj | hj
  ·exact h.lt j hj
  ·rw [List.mem_singleton] at hj; subst hj; exact hi
 hv := fun x => by
  rw [Nat.testBit_or, Bool.or_eq_true, h.hv x]
  constructor
  ·rintro (⟨j, h1, h2⟩ | h1)
   ·exact ⟨j, List.mem_append_left _ h1, h2⟩
   ·exact ⟨i, by simp, h1⟩
  ·rintro ⟨j, h1, h2⟩
   rcases List.mem_append.1 h1 with h1 | h1
   ·exact .inl ⟨j, h1, h2⟩
   ·rw [List.mem_singleton] at h1; subst h1; exact .inr h2
 ct := by rw [h.ct]; unfold lsLit; rw [List.map_append, List.sum_append]; simp
theorem lsGo_spec (P : List (Nat × Nat)) (on : List Nat) (f row : Nat) (chosen : List Nat) (hv count : Nat) (hI : LsI P on chosen hv count) (hn : hv.testBit row = false)
  (hrec : ∀ s i, i < P.length → (P.getD i (0, 0)).1.testBit row = true → lsR s (lsT P on (chosen ++ [i])) (lsSeek P on f s (chosen ++ [i]) (hv ||| (P.getD i (0, 0)).1) (count + (P.getD i (0, 0)).2))) :
  ∀ l i s, l = P.drop i → lsR s (fun t => lsT P on chosen t ∧ ∃ j ∈ t.1, i ≤ j ∧ (P.getD j (0, 0)).1.testBit row = true) (lsGo (lsSeek P on f) row chosen hv count l i s)
 | [], i, s, h => .inl ⟨rfl, fun t ⟨k, j, h1, h2, _⟩ => by
   have := k.2.1 j h1
   have h3 := congrArg List.length h
   rw [List.length_drop, List.length_nil] at h3
   omega⟩
 | p :: r, i, s, h => by
  have hi : i < P.length := by
   have h3 := congrArg List.length h
   rw [List.length_drop, List.length_cons] at h3
   omega
  have h' := h
  rw [List.drop_eq_getElem_cons hi] at h'
  injection h' with hp hr
  have hg : P.getD i (0, 0) = p := by rw [List.getD_eq_getElem?_getD, List.getElem?_eq_getElem hi, hp]; rfl
  rw [lsGo]
  cases hb : p.1.testBit row with
  | true =>
   rw [if_pos rfl]
   have h1 := hrec s i hi (by rw [hg]; exact hb)
   rw [hg] at h1
   have h2 := lsGo_spec P on f row chosen hv count hI hn hrec r (i + 1) (lsSeek P on f s (chosen ++ [i]) (hv ||| p.1) (count + p.2)) hr
   refine (h1.comp h2).congr fun t => ⟨?_, ?_⟩
   ·rintro (k | ⟨k, j, j1, j2, j3⟩)
    ·exact ⟨⟨k.1, k.2.1, fun x hx => k.2.2.1 x (List.mem_append_left _ hx), k.2.2.2⟩, i, k.2.2.1 i (by simp), Nat.le_refl _, by rw [hg]; exact hb⟩
    ·exact ⟨k, j, j1, by omega, j3⟩
   ·rintro ⟨k, j, j1, j2, j3⟩
    rcases Nat.lt_or_eq_of_le j2 with hlt | rfl
    ·exact .inr ⟨k, j, j1, hlt, j3⟩
    ·refine .inl ⟨k.1, k.2.1, fun x hx => ?_, k.2.2.2⟩
     rcases List.mem_append.1 hx with hx | hx
     ·exact k.2.2.1 x hx
     ·rw [List.mem_singleton] at hx; subst hx; exact j1
  | false =>
   rw [if_neg (by simp)]
   refine (lsGo_spec P on f row chosen hv count hI hn hrec r (i + 1) s hr).congr fun t => ⟨?_, ?_⟩
   ·rintro ⟨k, j, j1, j2, j3⟩; exact ⟨k, j, j1, by omega, j3⟩
   ·rintro ⟨k, j, j1, j2, j3⟩
    refine ⟨k, j, j1, ?_, j3⟩
    rcases Nat.lt_or_eq_of_le j2 with hlt | rfl
    ·exact hlt
    ·rw [hg, hb] at j3; cases j3
theorem filter_less {α : Type} (p q : α → Bool) : ∀ l : List α, (∀ x ∈ l, q x = true → p x = true) → (∃ x ∈ l, p x = true ∧ q x = false) → (l.filter q).length < (l.filter p).length
 | [], _, h => by obtain ⟨x, hx, _⟩ := h; cases hx
 | a :: l, h1, h2 => by
  have hle : (l.filter q).length ≤ (l.filter p).length := by
   rw [← List.countP_eq_length_filter, ← List.countP_eq_length_filter]
   exact List.countP_mono_left fun x hx => h1 x (List.mem_cons_of_mem _ hx)
  have ha := h1 a (List.mem_cons_self ..)
  rw [List.filter_cons, List.filter_cons]
  by_cases e : p a = true ∧ q a = false
  ·rw [if_pos e.1, if_neg (by rw [e.2]; simp), List.length_cons]
   omega
  ·have h3 : ∃ x ∈ l, p x = true ∧ q x = false := by
    obtain ⟨x, hx, k⟩ := h2
    rcases List.mem_cons.1 hx with rfl | hx
    ·exact absurd k e
    ·exact ⟨x, hx, k⟩
   have := filter_less p q l (fun x hx => h1 x (List.mem_cons_of_mem _ hx)) h3
   cases hq : q a with
   | true => rw [ha hq, if_pos rfl, if_pos rfl, List.length_cons, List.length_cons]; omega
   | false =>
    have hp : p a = false := by cases hp : p a with
     | false => rfl
     | true => exact absurd ⟨hp, hq⟩ e
    rw [hp, if_neg (by simp), if_neg (by simp)]
    exact this
theorem lsSeek_spec (P : List (Nat × Nat)) (on : List Nat) : ∀ f s chosen hv count, LsI P on chosen hv count → (on.filter fun x => !hv.testBit x).length < f → lsR s (lsT P on chosen) (lsSeek P on f s chosen hv count)
 | 0, _, _, _, _, _, h => absurd h (Nat.not_lt_zero _)
 | f + 1, s, chosen, hv, count, hI, hf => by
  rw [lsSeek]
  by_cases hc : lsCut s chosen count = true
  ·rw [if_pos hc]
   refine .inl ⟨rfl, fun t ht => ?_⟩
   cases s with
   | none => cases hc
   | some b =>
    obtain ⟨b, k⟩ := b
    refine ⟨_, rfl, .inr ?_⟩
    have hc' := of_decide_eq_true (show decide (b.length < chosen.length ∨ chosen.length = b.length ∧ k < count) = true from hc)
    unfold kLt
    rcases lsT_len ht hI.nd with h | ⟨h, rfl⟩
    ·exact .inl (by dsimp only; omega)
    ·have := (sortN_perm chosen).length_eq
     have hct := hI.ct
     dsimp only at h ⊢
     rcases hc' with h1 | ⟨h1, h2⟩
     ·exact .inl (by omega)
     ·exact .inr ⟨by omega, .inl (by omega)⟩
  ·rw [if_neg hc]
   cases hr : lsRow P hv on none with
   | none =>
    have hall := ((lsRow_none P hv on none).1 hr).2
    have hT0 : lsT P on chosen (sortN chosen, count) := by
     refine ⟨sortN_strict hI.nd, fun i hi => hI.lt i ((sortN_perm chosen).mem_iff.1 hi), fun i hi => (sortN_perm chosen).mem_iff.2 hi, fun x hx => ?_, ?_⟩
     ·obtain ⟨i, h1, h2⟩ := (hI.hv x).1 (hall x hx)
      exact ⟨i, (sortN_perm chosen).mem_iff.2 h1, h2⟩
     ·rw [hI.ct]; exact (lsLit_perm (sortN_perm chosen)).symm
    have hmin : ∀ t, lsT P on chosen t → kLe (sortN chosen, count) t := fun t ht => by
     rcases lsT_len ht hI.nd with h | ⟨_, rfl⟩
     ·have := (sortN_perm chosen).length_eq
      exact .inr (.inl (by dsimp only; omega))
     ·exact .inl (by rw [hI.ct])
    show lsR s (lsT P on chosen) (lsEnd s chosen count)
    cases s with
    | none => exact .inr ⟨_, rfl, hT0, (fun b hb => by cases hb), hmin⟩
    | some b =>
     obtain ⟨b, k⟩ := b
     have hl := (sortN_perm chosen).length_eq
     by_cases hk : kLt (sortN chosen, count) (b, k)
     ·have : lsEnd (some (b, k)) chosen count = some (sortN chosen, count) := by
       rw [lsEnd, if_pos]
       unfold kLt at hk
       dsimp only at hk
       rw [hl] at hk
       exact hk
      rw [this]
      exact .inr ⟨_, rfl, hT0, fun b' hb => by cases hb; exact hk, hmin⟩
     ·have : lsEnd (some (b, k)) chosen count = some (b, k) := by
       rw [lsEnd, if_neg]
       intro h
       apply hk
       unfold kLt
       dsimp only
       rw [hl]
       exact h
      rw [this]
      refine .inl ⟨rfl, fun t ht => ⟨_, rfl, ?_⟩⟩
      rcases kLe_of_not hk with e | e
      ·rw [e]; exact hmin t ht
      ·exact .inr (kLt_le e (hmin t ht))
   | some y =>
    obtain ⟨row, l⟩ := y
    obtain ⟨hon, hnr⟩ : row ∈ on ∧ hv.testBit row = false := by
     rcases lsRow_some P hv on none row l hr with ⟨l', h⟩ | h
     ·cases h
     ·exact h
    dsimp only
    by_cases hfu : lsFull s chosen = true
    ·rw [if_pos hfu]
     refine .inl ⟨rfl, fun t ht => ?_⟩
     cases s with
     | none => cases hfu
     | some b =>
      obtain ⟨b, k⟩ := b
      have hf' := of_decide_eq_true (show decide (b.length ≤ chosen.length) = true from hfu)
      refine ⟨_, rfl, .inr (.inl ?_)⟩
      rcases lsT_len ht hI.nd with h | ⟨_, rfl⟩
      ·dsimp only; omega
      ·exfalso
       obtain ⟨i, h1, h2⟩ := ht.2.2.2.1 row hon
       have := (hI.hv row).2 ⟨i, (sortN_perm chosen).mem_iff.1 h1, h2⟩
       rw [hnr] at this; cases this
    ·rw [if_neg hfu]
     have h1 := lsGo_spec P on f row chosen hv count hI hnr (fun s i hi hb => lsSeek_spec P on f s _ _ _ (hI.next hi hb hnr) (by
      have := filter_less (fun x => !hv.testBit x) (fun x => !(hv ||| (P.getD i (0, 0)).1).testBit x) on (fun x _ hx => by
       rw [Nat.testBit_or] at hx
       cases hh : hv.testBit x with
       | false => rfl
       | true => rw [hh] at hx; cases hx) ⟨row, hon, by rw [hnr]; rfl, by rw [Nat.testBit_or, hb]; simp⟩
      omega)) P 0 s rfl
     refine h1.congr fun t => ⟨fun h => h.1, fun h => ⟨h, ?_⟩⟩
     obtain ⟨j, j1, j2⟩ := h.2.2.2.1 row hon
     exact ⟨j, j1, Nat.zero_le _, j2⟩
end Go.Proofs.YtaegjpancbmppaaGreatDoor
