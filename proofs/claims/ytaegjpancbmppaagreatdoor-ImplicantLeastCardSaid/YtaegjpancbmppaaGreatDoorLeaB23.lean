/- Part 23 of 29 of the proof of the law: contracts of the functions that it reaches, and plain facts. Conditions: those that each contract names. -/
import Derived.Test.YtaegjpancbmppaaGreatDoorLeaB01
set_option linter.unusedVariables false
set_option linter.unusedSimpArgs false
namespace Go.Proofs.YtaegjpancbmppaaGreatDoor
open Go.RowKit
theorem lexLt_irr : ∀ l, lexLt l l = false
 | [] => rfl
 | a :: l => by rw [lexLt, if_pos rfl, lexLt_irr l]
theorem lexLt_trans : ∀ a b c, lexLt a b = true → lexLt b c = true → lexLt a c = true
 | [], [], _, h, _ => by cases h
 | [], _ :: _, [], _, h => by cases h
 | [], _ :: _, _ :: _, _, _ => rfl
 | _ :: _, [], _, h, _ => by cases h
 | _ :: _, _ :: _, [], _, h => by cases h
 | x :: a, y :: b, z :: c, h1, h2 => by
  rw [lexLt] at h1 h2 ⊢
  by_cases e1 : x = y
  ·subst e1
   rw [if_pos rfl] at h1
   by_cases e2 : x = z
   ·subst e2
    rw [if_pos rfl] at h2 ⊢
    exact lexLt_trans a b c h1 h2
   ·rw [if_neg e2] at h2 ⊢; exact h2
  ·rw [if_neg e1] at h1
   have h1' := of_decide_eq_true h1
   by_cases e2 : y = z
   ·subst e2
    rw [if_neg e1]; exact h1
   ·rw [if_neg e2] at h2
    have h2' := of_decide_eq_true h2
    rw [if_neg (by omega)]
    exact decide_eq_true (by omega)
theorem lexLt_tri : ∀ a b, a.length = b.length → lexLt a b = true ∨ a = b ∨ lexLt b a = true
 | [], [], _ => .inr (.inl rfl)
 | [], _ :: _, h => by cases h
 | _ :: _, [], h => by cases h
 | x :: a, y :: b, h => by
  rw [lexLt, lexLt]
  by_cases e : x = y
  ·subst e
   rw [if_pos rfl, if_pos rfl]
   rcases lexLt_tri a b (by simpa using h) with h | h | h
   ·exact .inl h
   ·exact .inr (.inl (by rw [h]))
   ·exact .inr (.inr h)
  ·rw [if_neg e, if_neg (fun k => e k.symm)]
   rcases Nat.lt_or_gt_of_ne e with h | h
   ·exact .inl (decide_eq_true h)
   ·exact .inr (.inr (decide_eq_true h))
def kLt (a b : List Nat × Nat) : Prop := a.1.length < b.1.length ∨ a.1.length = b.1.length ∧ (a.2 < b.2 ∨ a.2 = b.2 ∧ lexLt a.1 b.1 = true)
def kLe (a b : List Nat × Nat) : Prop := a = b ∨ kLt a b
theorem kLt_trans {a b c : List Nat × Nat} (h1 : kLt a b) (h2 : kLt b c) : kLt a c := by
 unfold kLt at *
 rcases h1 with h1 | ⟨e1, h1 | ⟨l1, h1⟩⟩ <;> rcases h2 with h2 | ⟨e2, h2 | ⟨l2, h2⟩⟩
 ·exact .inl (by omega)
 ·exact .inl (by omega)
 ·exact .inl (by omega)
 ·exact .inl (by omega)
 ·exact .inr ⟨by omega, .inl (by omega)⟩
 ·exact .inr ⟨by omega, .inl (by omega)⟩
 ·exact .inl (by omega)
 ·exact .inr ⟨by omega, .inl (by omega)⟩
 ·exact .inr ⟨by omega, .inr ⟨by omega, lexLt_trans _ _ _ h1 h2⟩⟩
theorem kLt_le {a b c : List Nat × Nat} (h1 : kLt a b) (h2 : kLe b c) : kLt a c := by
 rcases h2 with rfl | h2
 ·exact h1
 ·exact kLt_trans h1 h2
theorem kLe_of_not {a b : List Nat × Nat} (h : ¬ kLt a b) : kLe b a := by
 unfold kLe kLt at *
 by_cases e : b.1.length = a.1.length
 ·by_cases e2 : b.2 = a.2
  ·rcases lexLt_tri b.1 a.1 e with h1 | h1 | h1
   ·exact .inr (.inr ⟨e, .inr ⟨e2, h1⟩⟩)
   ·exact .inl (Prod.ext h1 e2)
   ·exact absurd (.inr ⟨e.symm, .inr ⟨e2.symm, h1⟩⟩) h
  ·rcases Nat.lt_or_gt_of_ne e2 with h1 | h1
   ·exact .inr (.inr ⟨e, .inl h1⟩)
   ·exact absurd (.inr ⟨e.symm, .inl h1⟩) h
 ·rcases Nat.lt_or_gt_of_ne e with h1 | h1
  ·exact .inr (.inl h1)
  ·exact absurd (.inl h1) h
def lsR (s : LsS) (T : List Nat × Nat → Prop) (s' : LsS) : Prop :=
 (s' = s ∧ ∀ t, T t → ∃ b, s = some b ∧ kLe b t) ∨ ∃ b', s' = some b' ∧ T b' ∧ (∀ b, s = some b → kLt b' b) ∧ ∀ t, T t → kLe b' t
theorem lsR.congr {s s' : LsS} {T T' : List Nat × Nat → Prop} (h : lsR s T s') (ht : ∀ t, T t ↔ T' t) : lsR s T' s' := by
 obtain rfl : T = T' := funext fun t => propext (ht t)
 exact h
theorem lsR.comp {s s1 s2 : LsS} {T1 T2 : List Nat × Nat → Prop} (h1 : lsR s T1 s1) (h2 : lsR s1 T2 s2) : lsR s (fun t => T1 t ∨ T2 t) s2 := by
 rcases h1 with ⟨rfl, k1⟩ | ⟨b1, rfl, t1, l1, k1⟩
 ·rcases h2 with ⟨rfl, k2⟩ | ⟨b2, rfl, t2, l2, k2⟩
  ·exact .inl ⟨rfl, fun t ht => ht.elim (k1 t) (k2 t)⟩
  ·refine .inr ⟨b2, rfl, .inr t2, l2, fun t ht => ht.elim (fun h => ?_) (k2 t)⟩
   obtain ⟨b, hb, hk⟩ := k1 t h
   exact .inr (kLt_le (l2 b hb) hk)
 ·rcases h2 with ⟨rfl, k2⟩ | ⟨b2, rfl, t2, l2, k2⟩
  ·refine .inr ⟨b1, rfl, .inl t1, l1, fun t ht => ht.elim (k1 t) (fun h => ?_)⟩
   obtain ⟨b, hb, hk⟩ := k2 t h
   cases hb
   exact hk
  ·refine .inr ⟨b2, rfl, .inr t2, fun b hb => kLt_trans (l2 b1 rfl) (l1 b hb), fun t ht => ht.elim (fun h => .inr (kLt_le (l2 b1 rfl) (k1 t h))) (k2 t)⟩
theorem insN_perm (x : Nat) : ∀ l, (insN x l).Perm (x :: l)
 | [] => .refl _
 | y :: l => by
  rw [insN]
  split
  ·exact .refl _
  ·exact ((insN_perm x l).cons y).trans (.swap x y l)
theorem sortN_perm : ∀ l, (sortN l).Perm l
 | [] => .refl _
 | x :: l => (insN_perm x (sortN l)).trans ((sortN_perm l).cons x)
theorem insN_sorted (x : Nat) : ∀ l : List Nat, l.Pairwise (· ≤ ·) → (insN x l).Pairwise (· ≤ ·)
 | [], _ => List.pairwise_singleton _ _
 | y :: l, h => by
  obtain ⟨h1, h2⟩ := List.pairwise_cons.1 h
  rw [insN]
  split
  ·rename_i hxy
   refine List.pairwise_cons.2 ⟨fun z hz => ?_, h⟩
   rcases List.mem_cons.1 hz with rfl | hz
   ·exact hxy
   ·exact Nat.le_trans hxy (h1 z hz)
  ·rename_i hxy
   refine List.pairwise_cons.2 ⟨fun z hz => ?_, insN_sorted x l h2⟩
   rcases List.mem_cons.1 ((insN_perm x l).mem_iff.1 hz) with rfl | hz
   ·omega
   ·exact h1 z hz
theorem sortN_sorted : ∀ l : List Nat, (sortN l).Pairwise (· ≤ ·)
 | [] => List.Pairwise.nil
 | x :: l => insN_sorted x _ (sortN_sorted l)
theorem sortN_strict {l : List Nat} (h : l.Nodup) : (sortN l).Pairwise (· < ·) := by
 have h1 := sortN_sorted l
 have h2 : (sortN l).Nodup := (sortN_perm l).nodup_iff.2 h
 exact (h1.and h2).imp fun ⟨a, b⟩ => Nat.lt_of_le_of_ne a b
theorem sub_sublist : ∀ B A : List Nat, A.Pairwise (· < ·) → B.Pairwise (· < ·) → (∀ x ∈ A, x ∈ B) → A.Sublist B
 | [], [], _, _, _ => List.Sublist.slnil
 | [], a :: _, _, _, h => absurd (h a (List.mem_cons_self ..)) (by simp)
 | b :: B, [], _, _, _ => List.nil_sublist _
 | b :: B, a :: A, hA, hB, h => by
  obtain ⟨a1, a2⟩ := List.pairwise_cons.1 hA
  obtain ⟨b1, b2⟩ := List.pairwise_cons.1 hB
  by_cases e : a = b
  ·subst e
   refine (sub_sublist B A a2 b2 fun x hx => ?_).cons_cons a
   rcases List.mem_cons.1 (h x (List.mem_cons_of_mem _ hx)) with e | e
   ·have := a1 x hx; omega
   ·exact e
  ·have ha : a ∈ B := (List.mem_cons.1 (h a (List.mem_cons_self ..))).resolve_left e
   have hba := b1 a ha
   refine (sub_sublist B (a :: A) hA b2 fun x hx => ?_).cons b
   refine (List.mem_cons.1 (h x hx)).resolve_left fun e' => ?_
   rcases List.mem_cons.1 hx with e2 | e2
   ·omega
   ·have := a1 x e2; omega
def lsLit (P : List (Nat × Nat)) (S : List Nat) : Nat := (S.map fun i => (P.getD i (0, 0)).2).sum
def lsCov (P : List (Nat × Nat)) (on S : List Nat) : Prop := ∀ x ∈ on, ∃ i ∈ S, (P.getD i (0, 0)).1.testBit x = true
def lsT (P : List (Nat × Nat)) (on chosen : List Nat) (t : List Nat × Nat) : Prop :=
 t.1.Pairwise (· < ·) ∧ (∀ i ∈ t.1, i < P.length) ∧ (∀ i ∈ chosen, i ∈ t.1) ∧ lsCov P on t.1 ∧ t.2 = lsLit P t.1
theorem lsLit_perm {P : List (Nat × Nat)} {S S' : List Nat} (h : S.Perm S') : lsLit P S = lsLit P S' := (h.map _).sum_nat
theorem lsT_len {P : List (Nat × Nat)} {on chosen : List Nat} {t : List Nat × Nat} (h : lsT P on chosen t) (hn : chosen.Nodup) : chosen.length < t.1.length ∨ (chosen.length = t.1.length ∧ t = (sortN chosen, lsLit P chosen)) := by
 have hs := sub_sublist t.1 (sortN chosen) (sortN_strict hn) h.1 fun x hx => h.2.2.1 x ((sortN_perm chosen).mem_iff.1 hx)
 have hl := (sortN_perm chosen).length_eq
 rcases Nat.lt_or_eq_of_le hs.length_le with k | k
 ·exact .inl (by omega)
 ·have e := hs.eq_of_length k
  exact .inr ⟨by omega, Prod.ext e.symm (by rw [h.2.2.2.2, ← e]; exact lsLit_perm (sortN_perm chosen))⟩
theorem lsRow_none (P : List (Nat × Nat)) (hv : Nat) : ∀ (on : List Nat) (s : Option (Nat × Nat)), lsRow P hv on s = none ↔ s = none ∧ ∀ x ∈ on, hv.testBit x = true
 | [], s => by rw [lsRow]; simp
 | x :: r, s => by
  rw [lsRow, lsRow_none P hv r]
  cases hx : hv.testBit x with
  | true => simp [hx]
  | false =>
   cases s with
   | none => simp [hx]
   | some y =>
    obtain ⟨y, l⟩ := y
    simp only [Bool.false_eq_true, if_false]
    split <;> simp
theorem lsRow_some (P : List (Nat × Nat)) (hv : Nat) : ∀ (on : List Nat) (s : Option (Nat × Nat)) (y l : Nat), lsRow P hv on s = some (y, l) → (∃ l', s = some (y, l')) ∨ (y ∈ on ∧ hv.testBit y = false)
 | [], s, y, l, h => .inl ⟨l, h⟩
 | x :: r, s, y, l, h => by
  rw [lsRow] at h
  cases hx : hv.testBit x with
  | true =>
   rw [hx, if_pos rfl] at h
   exact (lsRow_some P hv r s y l h).imp_right fun k => ⟨List.mem_cons_of_mem _ k.1, k.2⟩
  | false =>
   rw [hx, if_neg (by simp)] at h
   rcases lsRow_some P hv r _ y l h with ⟨l', h'⟩ | h'
   ·cases s with
    | none =>
     simp only [Option.some.injEq, Prod.mk.injEq] at h'
     exact .inr ⟨by rw [h'.1]; exact List.mem_cons_self .., by rw [← h'.1]; exact hx⟩
    | some z =>
     obtain ⟨z, l2⟩ := z
     dsimp only at h'
     split at h'
     ·simp only [Option.some.injEq, Prod.mk.injEq] at h'
      exact .inr ⟨by rw [h'.1]; exact List.mem_cons_self .., by rw [← h'.1]; exact hx⟩
     ·exact .inl ⟨l', h'⟩
   ·exact .inr ⟨List.mem_cons_of_mem _ h'.1, h'.2⟩
structure LsI (P : List (Nat × Nat)) (on chosen : List Nat) (hv count : Nat) : Prop where
 nd : chosen.Nodup
 lt : ∀ i ∈ chosen, i < P.length
 hv : ∀ x, hv.testBit x = true ↔ ∃ i ∈ chosen, (P.getD i (0, 0)).1.testBit x = true
 ct : count = lsLit P chosen
theorem LsI.next {P : List (Nat × Nat)} {on chosen : List Nat} {hv count i row : Nat} (h : LsI P on chosen hv count) (hi : i < P.length) (hr : (P.getD i (0, 0)).1.testBit row = true) (hn : hv.testBit row = false) : LsI P on (chosen ++ [i]) (hv ||| (P.getD i (0, 0)).1) (count + (P.getD i (0, 0)).2) where
 nd := by
  rw [List.nodup_append]
  refine ⟨h.nd, by simp, fun a ha b hb e => ?_⟩
  rw [List.mem_singleton] at hb
  subst e; subst hb
  rw [(h.hv row).2 ⟨a, ha, hr⟩] at hn
  cases hn
 lt := fun j hj => by
  rcases List.mem_append.1 hj with hj | hj
  ·exact h.lt j hj
  ·rw [List.mem_singleton] at hj; subst hj; exact hi
 hv := fun x => by
  rw [Nat.testBit_or, Bool.or_eq_true, h.hv x]
  constructor
  ·rintro (⟨j, h1, h2⟩ | h1)
   ·exact ⟨j, List.mem_append_left _ h1, h2⟩
   ·exact ⟨i, by simp, h1⟩
  ·rintro ⟨j, h1, h2⟩
   rcases List.mem_append.1 h1 with h1 | h1
   ·exact .inl ⟨j, h1, h2⟩
   ·rw [List.mem_singleton] at h1; subst h1; exact .inr h2
 ct := by rw [h.ct]; unfold lsLit; rw [List.map_append, List.sum_append]; simp
theorem lsGo_spec (P : List (Nat × Nat)) (on : List Nat) (f row : Nat) (chosen : List Nat) (hv count : Nat) (hI : LsI P on chosen hv count) (hn : hv.testBit row = false)
  (hrec : ∀ s i, i < P.length → (P.getD i (0, 0)).1.testBit row = true → lsR s (lsT P on (chosen ++ [i])) (lsSeek P on f s (chosen ++ [i]) (hv ||| (P.getD i (0, 0)).1) (count + (P.getD i (0, 0)).2))) :
  ∀ l i s, l = P.drop i → lsR s (fun t => lsT P on chosen t ∧ ∃ j ∈ t.1, i ≤ j ∧ (P.getD j (0, 0)).1.testBit row = true) (lsGo (lsSeek P on f) row chosen hv count l i s)
 | [], i, s, h => .inl ⟨rfl, fun t ⟨k, j, h1, h2, _⟩ => by
   have := k.2.1 j h1
   have h3 := congrArg List.length h
   rw [List.length_drop, List.length_nil] at h3
   omega⟩
 | p :: r, i, s, h => by
  have hi : i < P.length := by
   have h3 := congrArg List.length h
   rw [List.length_drop, List.length_cons] at h3
   omega
  have h' := h
  rw [List.drop_eq_getElem_cons hi] at h'
  injection h' with hp hr
  have hg : P.getD i (0, 0) = p := by rw [List.getD_eq_getElem?_getD, List.getElem?_eq_getElem hi, hp]; rfl
  rw [lsGo]
  cases hb : p.1.testBit row with
  | true =>
   rw [if_pos rfl]
   have h1 := hrec s i hi (by rw [hg]; exact hb)
   rw [hg] at h1
   have h2 := lsGo_spec P on f row chosen hv count hI hn hrec r (i + 1) (lsSeek P on f s (chosen ++ [i]) (hv ||| p.1) (count + p.2)) hr
   refine (h1.comp h2).congr fun t => ⟨?_, ?_⟩
   ·rintro (k | ⟨k, j, j1, j2, j3⟩)
    ·exact ⟨⟨k.1, k.2.1, fun x hx => k.2.2.1 x (List.mem_append_left _ hx), k.2.2.2⟩, i, k.2.2.1 i (by simp), Nat.le_refl _, by rw [hg]; exact hb⟩
    ·exact ⟨k, j, j1, by omega, j3⟩
   ·rintro ⟨k, j, j1, j2, j3⟩
    rcases Nat.lt_or_eq_of_le j2 with hlt | rfl
    ·exact .inr ⟨k, j, j1, hlt, j3⟩
    ·refine .inl ⟨k.1, k.2.1, fun x hx => ?_, k.2.2.2⟩
     rcases List.mem_append.1 hx with hx | hx
     ·exact k.2.2.1 x hx
     ·rw [List.mem_singleton] at hx; subst hx; exact j1
  | false =>
   rw [if_neg (by simp)]
   refine (lsGo_spec P on f row chosen hv count hI hn hrec r (i + 1) s hr).congr fun t => ⟨?_, ?_⟩
   ·rintro ⟨k, j, j1, j2, j3⟩; exact ⟨k, j, j1, by omega, j3⟩
   ·rintro ⟨k, j, j1, j2, j3⟩
    refine ⟨k, j, j1, ?_, j3⟩
    rcases Nat.lt_or_eq_of_le j2 with hlt | rfl
    ·exact hlt
    ·rw [hg, hb] at j3; cases j3
theorem filter_less {α : Type} (p q : α → Bool) : ∀ l : List α, (∀ x ∈ l, q x = true → p x = true) → (∃ x ∈ l, p x = true ∧ q x = false) → (l.filter q).length < (l.filter p).length
 | [], _, h => by obtain ⟨x, hx, _⟩ := h; cases hx
 | a :: l, h1, h2 => by
  have hle : (l.filter q).length ≤ (l.filter p).length := by
   rw [← List.countP_eq_length_filter, ← List.countP_eq_length_filter]
   exact List.countP_mono_left fun x hx => h1 x (List.mem_cons_of_mem _ hx)
  have ha := h1 a (List.mem_cons_self ..)
  rw [List.filter_cons, List.filter_cons]
  by_cases e : p a = true ∧ q a = false
  ·rw [if_pos e.1, if_neg (by rw [e.2]; simp), List.length_cons]
   omega
  ·have h3 : ∃ x ∈ l, p x = true ∧ q x = false := by
    obtain ⟨x, hx, k⟩ := h2
    rcases List.mem_cons.1 hx with rfl | hx
    ·exact absurd k e
    ·exact ⟨x, hx, k⟩
   have := filter_less p q l (fun x hx => h1 x (List.mem_cons_of_mem _ hx)) h3
   cases hq : q a with
   | true => rw [ha hq, if_pos rfl, if_pos rfl, List.length_cons, List.length_cons]; omega
   | false =>
    have hp : p a = false := by cases hp : p a with
     | false => rfl
     | true => exact absurd ⟨hp, hq⟩ e
    rw [hp, if_neg (by simp), if_neg (by simp)]
    exact this
theorem lsSeek_spec (P : List (Nat × Nat)) (on : List Nat) : ∀ f s chosen hv count, LsI P on chosen hv count → (on.filter fun x => !hv.testBit x).length < f → lsR s (lsT P on chosen) (lsSeek P on f s chosen hv count)
 | 0, _, _, _, _, _, h => absurd h (Nat.not_lt_zero _)
 | f + 1, s, chosen, hv, count, hI, hf => by
  rw [lsSeek]
  by_cases hc : lsCut s chosen count = true
  ·rw [if_pos hc]
   refine .inl ⟨rfl, fun t ht => ?_⟩
   cases s with
   | none => cases hc
   | some b =>
    obtain ⟨b, k⟩ := b
    refine ⟨_, rfl, .inr ?_⟩
    have hc' := of_decide_eq_true (show decide (b.length < chosen.length ∨ chosen.length = b.length ∧ k < count) = true from hc)
    unfold kLt
    rcases lsT_len ht hI.nd with h | ⟨h, rfl⟩
    ·exact .inl (by dsimp only; omega)
    ·have := (sortN_perm chosen).length_eq
     have hct := hI.ct
     dsimp only at h ⊢
     rcases hc' with h1 | ⟨h1, h2⟩
     ·exact .inl (by omega)
     ·exact .inr ⟨by omega, .inl (by omega)⟩
  ·rw [if_neg hc]
   cases hr : lsRow P hv on none with
   | none =>
    have hall := ((lsRow_none P hv on none).1 hr).2
    have hT0 : lsT P on chosen (sortN chosen, count) := by
     refine ⟨sortN_strict hI.nd, fun i hi => hI.lt i ((sortN_perm chosen).mem_iff.1 hi), fun i hi => (sortN_perm chosen).mem_iff.2 hi, fun x hx => ?_, ?_⟩
     ·obtain ⟨i, h1, h2⟩ := (hI.hv x).1 (hall x hx)
      exact ⟨i, (sortN_perm chosen).mem_iff.2 h1, h2⟩
     ·rw [hI.ct]; exact (lsLit_perm (sortN_perm chosen)).symm
    have hmin : ∀ t, lsT P on chosen t → kLe (sortN chosen, count) t := fun t ht => by
     rcases lsT_len ht hI.nd with h | ⟨_, rfl⟩
     ·have := (sortN_perm chosen).length_eq
      exact .inr (.inl (by dsimp only; omega))
     ·exact .inl (by rw [hI.ct])
    show lsR s (lsT P on chosen) (lsEnd s chosen count)
    cases s with
    | none => exact .inr ⟨_, rfl, hT0, (fun b hb => by cases hb), hmin⟩
    | some b =>
     obtain ⟨b, k⟩ := b
     have hl := (sortN_perm chosen).length_eq
     by_cases hk : kLt (sortN chosen, count) (b, k)
     ·have : lsEnd (some (b, k)) chosen count = some (sortN chosen, count) := by
       rw [lsEnd, if_pos]
       unfold kLt at hk
       dsimp only at hk
       rw [hl] at hk
       exact hk
      rw [this]
      exact .inr ⟨_, rfl, hT0, fun b' hb => by cases hb; exact hk, hmin⟩
     ·have : lsEnd (some (b, k)) chosen count = some (b, k) := by
       rw [lsEnd, if_neg]
       intro h
       apply hk
       unfold kLt
       dsimp only
       rw [hl]
       exact h
      rw [this]
      refine .inl ⟨rfl, fun t ht => ⟨_, rfl, ?_⟩⟩
      rcases kLe_of_not hk with e | e
      ·rw [e]; exact hmin t ht
      ·exact .inr (kLt_le e (hmin t ht))
   | some y =>
    obtain ⟨row, l⟩ := y
    obtain ⟨hon, hnr⟩ : row ∈ on ∧ hv.testBit row = false := by
     rcases lsRow_some P hv on none row l hr with ⟨l', h⟩ | h
     ·cases h
     ·exact h
    dsimp only
    by_cases hfu : lsFull s chosen = true
    ·rw [if_pos hfu]
     refine .inl ⟨rfl, fun t ht => ?_⟩
     cases s with
     | none => cases hfu
     | some b =>
      obtain ⟨b, k⟩ := b
      have hf' := of_decide_eq_true (show decide (b.length ≤ chosen.length) = true from hfu)
      refine ⟨_, rfl, .inr (.inl ?_)⟩
      rcases lsT_len ht hI.nd with h | ⟨_, rfl⟩
      ·dsimp only; omega
      ·exfalso
       obtain ⟨i, h1, h2⟩ := ht.2.2.2.1 row hon
       have := (hI.hv row).2 ⟨i, (sortN_perm chosen).mem_iff.1 h1, h2⟩
       rw [hnr] at this; cases this
    ·rw [if_neg hfu]
     have h1 := lsGo_spec P on f row chosen hv count hI hnr (fun s i hi hb => lsSeek_spec P on f s _ _ _ (hI.next hi hb hnr) (by
      have := filter_less (fun x => !hv.testBit x) (fun x => !(hv ||| (P.getD i (0, 0)).1).testBit x) on (fun x _ hx => by
       rw [Nat.testBit_or] at hx
       cases hh : hv.testBit x with
       | false => rfl
       | true => rw [hh] at hx; cases hx) ⟨row, hon, by rw [hnr]; rfl, by rw [Nat.testBit_or, hb]; simp⟩
      omega)) P 0 s rfl
     refine h1.congr fun t => ⟨fun h => h.1, fun h => ⟨h, ?_⟩⟩
     obtain ⟨j, j1, j2⟩ := h.2.2.2.1 row hon
     exact ⟨j, j1, Nat.zero_le _, j2⟩
theorem lsSeek_all (P : List (Nat × Nat)) (on : List Nat) (h : ∃ t, lsT P on [] t) : ∃ b, lsSeek P on (on.length + 1) none [] 0 0 = some b ∧ lsT P on [] b ∧ ∀ t, lsT P on [] t → kLe b t := by
 have := lsSeek_spec P on (on.length + 1) none [] 0 0 ⟨List.nodup_nil, (fun _ h => by cases h), (fun x => by simp), rfl⟩ (Nat.lt_succ_of_le (List.length_filter_le _ _))
 rcases this with ⟨_, h2⟩ | ⟨b, h1, h2, _, h3⟩
 ·obtain ⟨t, ht⟩ := h
  obtain ⟨b, hb, _⟩ := h2 t ht
  cases hb
 ·exact ⟨b, h1, h2, h3⟩
end Go.Proofs.YtaegjpancbmppaaGreatDoor
namespace Go.Proofs.YtaegjpancbmppaaGreatDoor
open Go.RowKit
def costN : List (Nat × Nat) → Nat → Nat
 | [], rest => if rest = 0 then 0 else 1000000
 | p :: l, rest => if rest = 0 then 0 else if adn rest p.1 = rest then costN l rest else min (costN l rest) (100 + p.2 + costN l (adn rest p.1))
def grd : List (Nat × Nat) → Nat → Nat → List Nat
 | [], _, _ => []
 | p :: l, i, rest => if rest = 0 then [] else if adn rest p.1 ≠ rest ∧ 100 + p.2 + costN l (adn rest p.1) = costN (p :: l) rest then i :: grd l (i + 1) (adn rest p.1) else grd l (i + 1) rest
def cvS (Q : List (Nat × Nat)) (i rest : Nat) (S : List Nat) : Prop :=
 S.Pairwise (· < ·) ∧ (∀ j ∈ S, i ≤ j ∧ j < Q.length) ∧ ∀ x, rest.testBit x = true → ∃ j ∈ S, (Q.getD j (0, 0)).1.testBit x = true
def wtS (Q : List (Nat × Nat)) (S : List Nat) : Nat := (S.map fun j => 100 + (Q.getD j (0, 0)).2).sum
theorem wtS_cons (Q : List (Nat × Nat)) (j : Nat) (S : List Nat) : wtS Q (j :: S) = 100 + (Q.getD j (0, 0)).2 + wtS Q S := by
 unfold wtS; rw [List.map_cons, List.sum_cons]
theorem nat_nil {rest : Nat} (h : ∀ x, ¬ rest.testBit x = true) : rest = 0 := by
 apply Nat.eq_of_testBit_eq; intro i
 rw [Nat.zero_testBit]
 cases hh : rest.testBit i with
 | false => rfl
 | true => exact absurd hh (h i)
theorem cvS.nil {Q : List (Nat × Nat)} {i rest : Nat} (h : cvS Q i rest []) : rest = 0 := nat_nil fun x hx => by
 obtain ⟨j, hj, _⟩ := h.2.2 x hx
 cases hj
theorem cvS.tail {Q : List (Nat × Nat)} {i rest : Nat} {S : List Nat} (h : cvS Q i rest (i :: S)) : cvS Q (i + 1) (adn rest (Q.getD i (0, 0)).1) S := by
 obtain ⟨h1, h2, h3⟩ := h
 obtain ⟨k1, k2⟩ := List.pairwise_cons.1 h1
 refine ⟨k2, fun j hj => ⟨k1 j hj, (h2 j (List.mem_cons_of_mem _ hj)).2⟩, fun x hx => ?_⟩
 rw [adn_bit, Bool.and_eq_true] at hx
 obtain ⟨j, hj, hb⟩ := h3 x hx.1
 rcases List.mem_cons.1 hj with rfl | hj
 ·rw [hb] at hx; simp at hx
 ·exact ⟨j, hj, hb⟩
theorem cvS.later {Q : List (Nat × Nat)} {i j rest : Nat} {S : List Nat} (h : cvS Q i rest (j :: S)) (hij : i < j) : cvS Q (i + 1) rest (j :: S) := by
 obtain ⟨h1, h2, h3⟩ := h
 obtain ⟨k1, k2⟩ := List.pairwise_cons.1 h1
 refine ⟨h1, fun m hm => ⟨?_, (h2 m hm).2⟩, h3⟩
 rcases List.mem_cons.1 hm with rfl | hm
 ·exact hij
 ·have := k1 m hm; omega
theorem cvS.put {Q : List (Nat × Nat)} {i rest : Nat} {S : List Nat} (h : cvS Q (i + 1) (adn rest (Q.getD i (0, 0)).1) S) (hi : i < Q.length) : cvS Q i rest (i :: S) := by
 obtain ⟨h1, h2, h3⟩ := h
 refine ⟨List.pairwise_cons.2 ⟨fun j hj => (h2 j hj).1, h1⟩, fun j hj => ?_, fun x hx => ?_⟩
 ·rcases List.mem_cons.1 hj with rfl | hj
  ·exact ⟨Nat.le_refl _, hi⟩
  ·have := h2 j hj; exact ⟨by omega, this.2⟩
 ·cases hb : (Q.getD i (0, 0)).1.testBit x with
  | true => exact ⟨i, List.mem_cons_self .., hb⟩
  | false =>
   obtain ⟨j, hj, hb⟩ := h3 x (by rw [adn_bit, hx, hb]; rfl)
   exact ⟨j, List.mem_cons_of_mem _ hj, hb⟩
theorem cvS.up {Q : List (Nat × Nat)} {i rest : Nat} {S : List Nat} (h : cvS Q (i + 1) rest S) : cvS Q i rest S :=
 ⟨h.1, fun j hj => ⟨by have := (h.2.1 j hj).1; omega, (h.2.1 j hj).2⟩, h.2.2⟩
theorem drop_cons {Q l : List (Nat × Nat)} {p : Nat × Nat} {i : Nat} (h : p :: l = Q.drop i) : i < Q.length ∧ Q.getD i (0, 0) = p ∧ l = Q.drop (i + 1) := by
 have hi : i < Q.length := by
  have h3 := congrArg List.length h
  rw [List.length_drop, List.length_cons] at h3
  omega
 have h' := h
 rw [List.drop_eq_getElem_cons hi] at h'
 injection h' with hp hr
 exact ⟨hi, by rw [List.getD_eq_getElem?_getD, List.getElem?_eq_getElem hi, hp]; rfl, hr⟩
theorem costN_zero : ∀ l, costN l 0 = 0
 | [] => rfl
 | _ :: _ => rfl
theorem costN_le (Q : List (Nat × Nat)) : ∀ l i rest S, l = Q.drop i → cvS Q i rest S → costN l rest ≤ wtS Q S
 | [], i, rest, S, h, hc => by
  have hl : Q.length ≤ i := by
   have h3 := congrArg List.length h
   rw [List.length_drop, List.length_nil] at h3
   omega
  cases S with
  | nil => rw [hc.nil, costN_zero]; exact Nat.zero_le _
  | cons j S => have := hc.2.1 j (List.mem_cons_self ..); omega
 | p :: l, i, rest, S, h, hc => by
  obtain ⟨hi, hg, hl⟩ := drop_cons h
  by_cases h0 : rest = 0
  ·rw [h0, costN_zero]; exact Nat.zero_le _
  ·cases S with
   | nil => exact absurd hc.nil h0
   | cons j S =>
    rw [costN, if_neg h0]
    rcases Nat.lt_or_eq_of_le (hc.2.1 j (List.mem_cons_self ..)).1 with hij | rfl
    ·have := costN_le Q l (i + 1) rest (j :: S) hl (hc.later hij)
     split
     ·exact this
     ·exact Nat.le_trans (Nat.min_le_left _ _) this
    ·have ht := hc.tail
     rw [hg] at ht
     have := costN_le Q l (i + 1) (adn rest p.1) S hl ht
     rw [wtS_cons, hg]
     split
     ·rename_i he; rw [he] at this; omega
     ·exact Nat.le_trans (Nat.min_le_right _ _) (by omega)
theorem grd_cov (Q : List (Nat × Nat)) : ∀ l i rest, l = Q.drop i → costN l rest < 1000000 → cvS Q i rest (grd l i rest) ∧ wtS Q (grd l i rest) = costN l rest
 | [], i, rest, h, hc => by
  rw [costN] at hc ⊢
  by_cases h0 : rest = 0
  ·subst h0
   rw [if_pos rfl]
   exact ⟨⟨List.Pairwise.nil, fun _ h => (by cases h), fun x hx => by rw [Nat.zero_testBit] at hx; cases hx⟩, rfl⟩
  ·rw [if_neg h0] at hc; omega
 | p :: l, i, rest, h, hc => by
  obtain ⟨hi, hg, hl⟩ := drop_cons h
  by_cases h0 : rest = 0
  ·subst h0
   rw [grd, if_pos rfl, costN_zero]
   exact ⟨⟨List.Pairwise.nil, fun _ h => (by cases h), fun x hx => by rw [Nat.zero_testBit] at hx; cases hx⟩, rfl⟩
  ·rw [grd, if_neg h0]
   by_cases hp : adn rest p.1 ≠ rest ∧ 100 + p.2 + costN l (adn rest p.1) = costN (p :: l) rest
   ·rw [if_pos hp]
    obtain ⟨k1, k2⟩ := grd_cov Q l (i + 1) (adn rest p.1) hl (by omega)
    refine ⟨?_, by rw [wtS_cons, hg, k2]; exact hp.2⟩
    have := cvS.put (Q := Q) (i := i) (rest := rest) (S := grd l (i + 1) (adn rest p.1)) (by rw [hg]; exact k1) hi
    exact this
   ·rw [if_neg hp]
    have he : costN (p :: l) rest = costN l rest := by
     rw [costN, if_neg h0]
     split
     ·rfl
     ·rename_i hne
      have hq : 100 + p.2 + costN l (adn rest p.1) ≠ costN (p :: l) rest := fun e => hp ⟨hne, e⟩
      rw [costN, if_neg h0, if_neg hne] at hq
      omega
    rw [he] at hc ⊢
    obtain ⟨k1, k2⟩ := grd_cov Q l (i + 1) rest hl hc
    exact ⟨k1.up, k2⟩
theorem grd_lex (Q : List (Nat × Nat)) : ∀ l i rest S, l = Q.drop i → costN l rest < 1000000 → cvS Q i rest S → wtS Q S = costN l rest → grd l i rest = S ∨ lexLt (grd l i rest) S = true
 | [], i, rest, S, h, hc, hs, _ => by
  have hl : Q.length ≤ i := by
   have h3 := congrArg List.length h
   rw [List.length_drop, List.length_nil] at h3
   omega
  cases S with
  | nil => exact .inl rfl
  | cons j S => have := hs.2.1 j (List.mem_cons_self ..); omega
 | p :: l, i, rest, S, h, hc, hs, hw => by
  obtain ⟨hi, hg, hl⟩ := drop_cons h
  by_cases h0 : rest = 0
  ·subst h0
   rw [costN_zero] at hw
   cases S with
   | nil => rw [grd, if_pos rfl]; exact .inl rfl
   | cons j S => rw [wtS_cons] at hw; omega
  ·cases S with
   | nil => exact absurd hs.nil h0
   | cons j S =>
    rw [grd, if_neg h0]
    by_cases hp : adn rest p.1 ≠ rest ∧ 100 + p.2 + costN l (adn rest p.1) = costN (p :: l) rest
    ·rw [if_pos hp]
     rcases Nat.lt_or_eq_of_le (hs.2.1 j (List.mem_cons_self ..)).1 with hij | rfl
     ·refine .inr ?_
      rw [lexLt, if_neg (by omega)]
      exact decide_eq_true hij
     ·have ht := hs.tail
      rw [hg] at ht
      rw [wtS_cons, hg] at hw
      rcases grd_lex Q l (i + 1) (adn rest p.1) S hl (by omega) ht (by omega) with e | e
      ·exact .inl (by rw [e])
      ·refine .inr ?_
       rw [lexLt, if_pos rfl]; exact e
    ·rw [if_neg hp]
     have hmin : costN (p :: l) rest = if adn rest p.1 = rest then costN l rest else min (costN l rest) (100 + p.2 + costN l (adn rest p.1)) := by
      rw [costN, if_neg h0]
     rcases Nat.lt_or_eq_of_le (hs.2.1 j (List.mem_cons_self ..)).1 with hij | rfl
     ·have he : costN (p :: l) rest = costN l rest := by
       rw [hmin]
       split
       ·rfl
       ·rename_i hne
        have hq : 100 + p.2 + costN l (adn rest p.1) ≠ costN (p :: l) rest := fun e => hp ⟨hne, e⟩
        rw [hmin, if_neg hne] at hq
        omega
      rw [he] at hc hw
      exact grd_lex Q l (i + 1) rest (j :: S) hl hc (hs.later hij) hw
     ·exfalso
      have ht := hs.tail
      rw [hg] at ht
      have h2 := costN_le Q l (i + 1) (adn rest p.1) S hl ht
      rw [wtS_cons, hg] at hw
      by_cases he : adn rest p.1 = rest
      ·rw [hmin, if_pos he] at hw
       rw [he] at h2
       omega
      ·have hq : 100 + p.2 + costN l (adn rest p.1) ≠ costN (p :: l) rest := fun e => hp ⟨he, e⟩
       rw [hmin, if_neg he] at hq hw
       omega
def onM (m : Nat) (on : List Nat) : Nat := rowM ((List.range on.length).filter fun y => m.testBit (on.getD y 0))
theorem onM_bit (m : Nat) (on : List Nat) (y : Nat) : (onM m on).testBit y = (decide (y < on.length) && m.testBit (on.getD y 0)) := by
 unfold onM
 rw [rowM_bit, Bool.eq_iff_iff, decide_eq_true_iff, List.mem_filter, List.mem_range, Bool.and_eq_true, decide_eq_true_iff]
theorem wt_lit (P Q : List (Nat × Nat)) (h2 : ∀ j, (Q.getD j (0, 0)).2 = (P.getD j (0, 0)).2) : ∀ S, wtS Q S = 100 * S.length + lsLit P S
 | [] => rfl
 | j :: S => by
  rw [wtS_cons, wt_lit P Q h2 S, h2]
  unfold lsLit
  rw [List.map_cons, List.sum_cons, List.length_cons]
  omega
theorem lit_le (P : List (Nat × Nat)) (h4 : ∀ j, (P.getD j (0, 0)).2 ≤ 4) : ∀ S, lsLit P S ≤ 4 * S.length
 | [] => Nat.le_refl _
 | j :: S => by
  have := lit_le P h4 S
  have h := h4 j
  unfold lsLit at this ⊢
  rw [List.map_cons, List.sum_cons, List.length_cons]
  omega
theorem cov_few (P : List (Nat × Nat)) : ∀ on : List Nat, (∀ x ∈ on, ∃ j, j < P.length ∧ (P.getD j (0, 0)).1.testBit x = true) → ∃ S : List Nat, S.Pairwise (· < ·) ∧ (∀ i ∈ S, i < P.length) ∧ lsCov P on S ∧ S.length ≤ on.length
 | [], _ => ⟨[], List.Pairwise.nil, (fun _ h => by cases h), (fun _ h => by cases h), Nat.le_refl _⟩
 | x :: on, h => by
  obtain ⟨S, h1, h2, h3, h4⟩ := cov_few P on fun y hy => h y (List.mem_cons_of_mem _ hy)
  obtain ⟨j, j1, j2⟩ := h x (List.mem_cons_self ..)
  by_cases hj : j ∈ S
  ·refine ⟨S, h1, h2, fun y hy => ?_, by rw [List.length_cons]; omega⟩
   rcases List.mem_cons.1 hy with rfl | hy
   ·exact ⟨j, hj, j2⟩
   ·exact h3 y hy
  ·have hp := insN_perm j S
   have hnd : (insN j S).Nodup := hp.nodup_iff.2 (List.nodup_cons.2 ⟨hj, h1.imp fun h => Nat.ne_of_lt h⟩)
   refine ⟨insN j S, ((insN_sorted j S (h1.imp fun h => Nat.le_of_lt h)).and hnd).imp fun ⟨a, b⟩ => Nat.lt_of_le_of_ne a b, fun i hi => ?_, fun y hy => ?_, by rw [hp.length_eq, List.length_cons, List.length_cons]; omega⟩
   ·rcases List.mem_cons.1 (hp.mem_iff.1 hi) with rfl | hi
    ·exact j1
    ·exact h2 i hi
   ·rcases List.mem_cons.1 hy with rfl | hy
    ·exact ⟨j, hp.mem_iff.2 (List.mem_cons_self ..), j2⟩
    ·obtain ⟨i, i1, i2⟩ := h3 y hy
     exact ⟨i, hp.mem_iff.2 (List.mem_cons_of_mem _ i1), i2⟩
theorem grd_eq (P : List (Nat × Nat)) (on : List Nat) (hl : on.length ≤ 10) (h4 : ∀ j, (P.getD j (0, 0)).2 ≤ 4) (hc : ∀ x ∈ on, ∃ j, j < P.length ∧ (P.getD j (0, 0)).1.testBit x = true) :
  ∃ b, lsSeek P on (on.length + 1) none [] 0 0 = some b ∧ lsT P on [] b ∧ (∀ t, lsT P on [] t → kLe b t) ∧ b.1.length ≤ on.length ∧ grd (P.map fun p => (onM p.1 on, p.2)) 0 (2 ^ on.length - 1) = b.1 := by
 obtain ⟨Q, hQ⟩ : ∃ Q, Q = P.map fun p => (onM p.1 on, p.2) := ⟨_, rfl⟩
 rw [← hQ]
 have hQl : Q.length = P.length := by rw [hQ, List.length_map]
 have hQg : ∀ j, Q.getD j (0, 0) = (onM (P.getD j (0, 0)).1 on, (P.getD j (0, 0)).2) := fun j => by
  rw [hQ, List.getD_eq_getElem?_getD, List.getElem?_map, List.getD_eq_getElem?_getD]
  cases hh : P[j]? with
  | some p => rfl
  | none =>
   have : onM 0 on = 0 := nat_nil fun x hx => by rw [onM_bit, Nat.zero_testBit, Bool.and_false] at hx; cases hx
   simp [this]
 obtain ⟨S0, s1, s2, s3, s4⟩ := cov_few P on hc
 obtain ⟨b, b1, b2, b3⟩ := lsSeek_all P on ⟨(S0, lsLit P S0), s1, s2, fun _ h => (by cases h), s3, rfl⟩
 have hcv : ∀ S, (S.Pairwise (· < ·) ∧ (∀ i ∈ S, i < P.length) ∧ lsCov P on S) ↔ cvS Q 0 (2 ^ on.length - 1) S := fun S => by
  unfold cvS lsCov
  constructor
  ·rintro ⟨k1, k2, k3⟩
   refine ⟨k1, fun j hj => ⟨Nat.zero_le _, by rw [hQl]; exact k2 j hj⟩, fun y hy => ?_⟩
   rw [Nat.testBit_two_pow_sub_one] at hy
   have hy' := of_decide_eq_true hy
   have hm : on.getD y 0 ∈ on := by rw [List.getD_eq_getElem?_getD, List.getElem?_eq_getElem hy']; exact List.getElem_mem _
   obtain ⟨j, j1, j2⟩ := k3 _ hm
   exact ⟨j, j1, by rw [hQg]; show (onM _ on).testBit y = true; rw [onM_bit, j2, hy]; rfl⟩
  ·rintro ⟨k1, k2, k3⟩
   refine ⟨k1, fun j hj => by rw [← hQl]; exact (k2 j hj).2, fun x hx => ?_⟩
   obtain ⟨y, hy, rfl⟩ := List.getElem_of_mem hx
   obtain ⟨j, j1, j2⟩ := k3 y (by rw [Nat.testBit_two_pow_sub_one]; exact decide_eq_true hy)
   rw [hQg] at j2
   have j3 : (onM (P.getD j (0, 0)).1 on).testBit y = true := j2
   have hgy : on.getD y 0 = on[y] := by rw [List.getD_eq_getElem?_getD, List.getElem?_eq_getElem hy]; rfl
   rw [onM_bit, Bool.and_eq_true, hgy] at j3
   exact ⟨j, j1, j3.2⟩
 have hT : ∀ S, cvS Q 0 (2 ^ on.length - 1) S → lsT P on [] (S, lsLit P S) := fun S h => by
  obtain ⟨k1, k2, k3⟩ := (hcv S).2 h
  exact ⟨k1, k2, fun _ h => (by cases h), k3, rfl⟩
 have hwt := wt_lit P Q (fun j => by rw [hQg])
 have hb : cvS Q 0 (2 ^ on.length - 1) b.1 := (hcv _).1 ⟨b2.1, b2.2.1, b2.2.2.2.1⟩
 have hbl : b.1.length ≤ on.length := by
  rcases b3 _ (hT S0 ((hcv S0).1 ⟨s1, s2, s3⟩)) with e | e
  ·rw [e]; exact s4
  ·unfold kLt at e; dsimp only at e; omega
 have hlit := lit_le P h4 b.1
 have hb2 := b2.2.2.2.2
 have hmin : ∀ S, cvS Q 0 (2 ^ on.length - 1) S → wtS Q b.1 ≤ wtS Q S := fun S h => by
  rw [hwt, hwt]
  rcases b3 _ (hT S h) with e | e
  ·rw [e]; exact Nat.le_refl _
  ·unfold kLt at e
   dsimp only at e
   rw [hb2] at e
   omega
 have hcost := costN_le Q Q 0 _ b.1 rfl hb
 have hlt : costN Q (2 ^ on.length - 1) < 1000000 := by
  rw [hwt] at hcost
  omega
 obtain ⟨g1, g2⟩ := grd_cov Q Q 0 _ rfl hlt
 have hgb := hmin _ g1
 have hw : wtS Q b.1 = costN Q (2 ^ on.length - 1) := by omega
 refine ⟨b, b1, b2, b3, hbl, ?_⟩
 rcases grd_lex Q Q 0 _ b.1 rfl hlt hb hw with e | e
 ·exact e
 ·exfalso
  have h5 := b3 _ (hT _ g1)
  rw [hwt] at hw
  rw [hwt] at g2
  have hlg := lit_le P h4 (grd Q 0 (2 ^ on.length - 1))
  rcases h5 with e' | e'
  ·have e1 := congrArg Prod.fst e'
   dsimp only at e1
   rw [← e1, lexLt_irr] at e
   cases e
  ·unfold kLt at e'
   dsimp only at e'
   rw [hb2] at e'
   rcases e' with e' | ⟨e', e2 | ⟨_, e2⟩⟩
   ·omega
   ·omega
   ·have := lexLt_trans _ _ _ e e2
    rw [lexLt_irr] at this
    cases this
end Go.Proofs.YtaegjpancbmppaaGreatDoor
namespace Go.Proofs.YtaegjpancbmppaaGreatDoor
def remK (x : Nat × Nat) (on : List Nat) (rest : Nat) : Nat → Nat
 | 0 => rest
 | i + 1 => if hasB x (on.getD i 0) = true then adn (remK x on rest i) (2 ^ i) else remK x on rest i
theorem remK_bit (x : Nat × Nat) (on : List Nat) (rest j : Nat) : ∀ i, (remK x on rest i).testBit j = (rest.testBit j && !(decide (j < i) && hasB x (on.getD j 0)))
 | 0 => by simp [remK]
 | i + 1 => by
  rw [remK]
  by_cases h : hasB x (on.getD i 0) = true
  ·rw [if_pos h, adn_bit, remK_bit x on rest j i, Nat.testBit_two_pow]
   by_cases hj : i = j
   ·subst hj
    rw [h]; simp
   ·by_cases hl : j < i
    ·have : j < i + 1 := by omega
     simp [hj, hl, this]
    ·have : ¬ j < i + 1 := by omega
     simp [hj, hl, this]
  ·rw [if_neg h, remK_bit x on rest j i]
   by_cases hj : i = j
   ·subst hj
    rw [Bool.not_eq_true] at h
    rw [h]; simp
   ·by_cases hl : j < i
    ·have : j < i + 1 := by omega
     simp [hl, this]
    ·have : ¬ j < i + 1 := by omega
     simp [hl, this]
theorem remK_full {n : Nat} {x : Nat × Nat} {on : List Nat} {rest : Nat} (ho : ∀ r ∈ on, r < 2 ^ n) : remK x on rest on.length = adn rest (onM (cM n x.1 x.2) on) := by
 apply Nat.eq_of_testBit_eq
 intro j
 rw [remK_bit, adn_bit, onM_bit]
 by_cases hj : j < on.length
 ·have hm : on.getD j 0 ∈ on := by rw [List.getD_eq_getElem?_getD, List.getElem?_eq_getElem hj]; exact List.getElem_mem _
  have e : (cM n x.1 x.2).testBit (on.getD j 0) = hasB x (on.getD j 0) := by
   rw [Bool.eq_iff_iff, cM_bit]
   unfold hasB
   rw [beq_iff_eq]
   exact ⟨fun h => h.2, fun h => ⟨ho _ hm, h⟩⟩
  rw [e]
 ·simp [hj]
theorem remK_le (x : Nat × Nat) (on : List Nat) (rest : Nat) : ∀ i, remK x on rest i ≤ rest
 | 0 => Nat.le_refl _
 | i + 1 => by
  rw [remK]
  split
  ·exact Nat.le_trans (adn_le _ _) (remK_le x on rest i)
  ·exact remK_le x on rest i
def wtQ (n : Nat) (P : List (Nat × Nat)) (on : List Nat) : List (Nat × Nat) := P.map fun x => (onM (cM n x.1 x.2) on, popc x.1)
theorem wtQ_len (n : Nat) (P : List (Nat × Nat)) (on : List Nat) : (wtQ n P on).length = P.length := List.length_map _
theorem wtQ_get {n : Nat} {P : List (Nat × Nat)} {on : List Nat} {i : Nat} (h : i < P.length) : (wtQ n P on).drop i = (onM (cM n (P.getD i (0, 0)).1 (P.getD i (0, 0)).2) on, popc (P.getD i (0, 0)).1) :: (wtQ n P on).drop (i + 1) := by
 rw [List.drop_eq_getElem_cons (by rw [wtQ_len]; exact h)]
 congr 1
 unfold wtQ
 rw [List.getElem_map, List.getD_eq_getElem?_getD, List.getElem?_eq_getElem h]
 rfl
def csT (n : Nat) (P : List (Nat × Nat)) (on : List Nat) (i rest : Nat) : Nat := costN ((wtQ n P on).drop i) rest
theorem csT_zero (n : Nat) (P : List (Nat × Nat)) (on : List Nat) (i : Nat) : csT n P on i 0 = 0 := costN_zero _
theorem csT_end {n : Nat} {P : List (Nat × Nat)} {on : List Nat} {rest : Nat} (h : rest ≠ 0) : csT n P on P.length rest = 1000000 := by
 unfold csT
 rw [List.drop_of_length_le (by rw [wtQ_len]; exact Nat.le_refl _), costN, if_neg h]
theorem csT_step {n : Nat} {P : List (Nat × Nat)} {on : List Nat} {i rest : Nat} (ho : ∀ r ∈ on, r < 2 ^ n) (hi : i < P.length) (h : rest ≠ 0) :
  csT n P on i rest = if remK (P.getD i (0, 0)) on rest on.length = rest then csT n P on (i + 1) rest else min (csT n P on (i + 1) rest) (100 + popc (P.getD i (0, 0)).1 + csT n P on (i + 1) (remK (P.getD i (0, 0)) on rest on.length)) := by
 unfold csT
 rw [wtQ_get hi, costN, if_neg h, remK_full ho]
theorem costN_bd : ∀ l rest, costN l rest ≤ 1000000
 | [], rest => by rw [costN]; split <;> omega
 | p :: l, rest => by
  have := costN_bd l rest
  rw [costN]
  split
  ·omega
  ·split
   ·exact this
   ·exact Nat.le_trans (Nat.min_le_left _ _) this
theorem csT_bd (n : Nat) (P : List (Nat × Nat)) (on : List Nat) (i rest : Nat) : csT n P on i rest ≤ 1000000 := costN_bd _ _
def pkK (n : Nat) (P : List (Nat × Nat)) (on : List Nat) (full : Nat) : Nat → List (Nat × Nat) × Nat
 | 0 => ([], full)
 | i + 1 =>
  let s := pkK n P on full i
  let left := remK (P.getD i (0, 0)) on s.2 on.length
  if left ≠ s.2 ∧ 100 + popc (P.getD i (0, 0)).1 + csT n P on (i + 1) left = csT n P on i s.2 then (s.1 ++ [P.getD i (0, 0)], left) else s
theorem grd_zero (i : Nat) : ∀ l, grd l i 0 = []
 | [] => rfl
 | _ :: _ => rfl
theorem pk_grd {n : Nat} {P : List (Nat × Nat)} {on : List Nat} {full : Nat} (ho : ∀ r ∈ on, r < 2 ^ n) : ∀ i, i ≤ P.length → (∀ j, j < i → (pkK n P on full j).2 ≠ 0) →
  (grd (wtQ n P on) 0 full).map (fun j => P.getD j (0, 0)) = (pkK n P on full i).1 ++ (grd ((wtQ n P on).drop i) i (pkK n P on full i).2).map (fun j => P.getD j (0, 0))
 | 0, _, _ => rfl
 | i + 1, h, hz => by
  rw [pk_grd ho i (by omega) (fun j hj => hz j (by omega)), wtQ_get (show i < P.length by omega), grd, if_neg (hz i (by omega)), pkK]
  rw [← wtQ_get (show i < P.length by omega)]
  have e := remK_full (n := n) (x := P.getD i (0, 0)) (rest := (pkK n P on full i).2) ho
  dsimp only
  rw [← e]
  have hc : ∀ r, costN ((wtQ n P on).drop i) r = csT n P on i r := fun _ => rfl
  have hc' : ∀ r, costN ((wtQ n P on).drop (i + 1)) r = csT n P on (i + 1) r := fun _ => rfl
  rw [hc, hc']
  split
  ·rw [List.map_cons, List.append_assoc]; rfl
  ·rfl
theorem pk_done {n : Nat} {P : List (Nat × Nat)} {on : List Nat} {full i : Nat} (ho : ∀ r ∈ on, r < 2 ^ n) (hi : i ≤ P.length) (hz : ∀ j, j < i → (pkK n P on full j).2 ≠ 0) (he : i = P.length ∨ (pkK n P on full i).2 = 0) :
  (pkK n P on full i).1 = (grd (wtQ n P on) 0 full).map fun j => P.getD j (0, 0) := by
 rw [pk_grd ho i hi hz]
 rcases he with rfl | he
 ·rw [List.drop_of_length_le (by rw [wtQ_len]; exact Nat.le_refl _), grd, List.map_nil, List.append_nil]
 ·rw [he, grd_zero, List.map_nil, List.append_nil]
theorem pkK_len (n : Nat) (P : List (Nat × Nat)) (on : List Nat) (full : Nat) : ∀ i, (pkK n P on full i).1.length ≤ i
 | 0 => Nat.le_refl _
 | i + 1 => by
  have := pkK_len n P on full i
  rw [pkK]
  split
  ·rw [List.length_append, List.length_singleton]; omega
  ·omega
theorem pkK_le (n : Nat) (P : List (Nat × Nat)) (on : List Nat) (full : Nat) : ∀ i, (pkK n P on full i).2 ≤ full
 | 0 => Nat.le_refl _
 | i + 1 => by
  have := pkK_le n P on full i
  rw [pkK]
  split
  ·exact Nat.le_trans (remK_le _ _ _ _) this
  ·exact this
end Go.Proofs.YtaegjpancbmppaaGreatDoor
namespace Go.Proofs.YtaegjpancbmppaaGreatDoor
theorem full_and {q r : Nat} (h : r < 2 ^ q) : r &&& (2 ^ q - 1) = r := by rw [Nat.and_two_pow_sub_one_eq_mod, Nat.mod_eq_of_lt h]
theorem row_prime {q may : Nat} {no : List Nat} (hq : q ≤ 8) (ho : ∀ r ∈ no, r < 2 ^ q) (hm : ∀ r ∈ no, may.testBit r = true) {x : Nat} (hx : x ∈ no) : ∃ y ∈ prS q (rowM no) may, x &&& y.1 = y.2 := by
 have hp : 0 < 2 ^ q := Nat.two_pow_pos q
 have hi : impB q may (2 ^ q - 1) x = true := impB_iff.2 fun r hr he => by
  rw [full_and hr] at he
  rw [he]
  exact hm x hx
 have hne : cM q (2 ^ q - 1) x &&& rowM no ≠ 0 := and_nil.2 ⟨x, (cM_bit _ _ _ _).2 ⟨ho x hx, full_and (ho x hx)⟩, by rw [rowM_bit]; exact decide_eq_true hx⟩
 obtain ⟨y, hy, hall⟩ := imp_prime hq _ _ (by omega) hi hne
 exact ⟨y, hy, hall x (full_and (ho x hx))⟩
theorem wtQ_lsP (q : Nat) (P : List (Nat × Nat)) (no : List Nat) : wtQ q P no = (lsP q P).map fun p => (onM p.1 no, p.2) := by
 unfold wtQ lsP
 rw [List.map_map]
 rfl
theorem lsP_getD {q : Nat} {P : List (Nat × Nat)} {j : Nat} (h : j < P.length) : (lsP q P).getD j (0, 0) = (cM q (P.getD j (0, 0)).1 (P.getD j (0, 0)).2, popc (P.getD j (0, 0)).1) := by
 unfold lsP
 rw [List.getD_eq_getElem?_getD, List.getElem?_map, List.getElem?_eq_getElem h, List.getD_eq_getElem?_getD, List.getElem?_eq_getElem h]
 rfl
theorem least_eq {q may : Nat} {no : List Nat} (hq : q ≤ 4) (ho : ∀ r ∈ no, r < 2 ^ q) (hm : ∀ r ∈ no, may.testBit r = true) (hl : no.length ≤ 10) :
  (grd (wtQ q (prS q (rowM no) may) no) 0 (2 ^ no.length - 1)).map (fun j => (prS q (rowM no) may).getD j (0, 0)) = lsL q may no := by
 obtain ⟨P, hP⟩ : ∃ P, P = prS q (rowM no) may := ⟨_, rfl⟩
 have h4 : ∀ j, ((lsP q P).getD j (0, 0)).2 ≤ 4 := fun j => by
  by_cases hj : j < P.length
  ·rw [lsP_getD hj]
   have hmem : P.getD j (0, 0) ∈ P := by rw [List.getD_eq_getElem?_getD, List.getElem?_eq_getElem hj]; exact List.getElem_mem _
   rw [hP] at hmem
   have h1 := (prF_mem.1 ((prS_mem (show q ≤ 8 by omega)).1 hmem)).1
   have h2 := popc_le q _ h1 (by omega)
   rw [hP]
   exact Nat.le_trans h2 hq
  ·have : (lsP q P).getD j (0, 0) = (0, 0) := by
    unfold lsP
    rw [List.getD_eq_getElem?_getD, List.getElem?_map, List.getElem?_eq_none (by omega)]
    rfl
   rw [this]
   exact Nat.zero_le _
 have hc : ∀ x ∈ no, ∃ j, j < (lsP q P).length ∧ ((lsP q P).getD j (0, 0)).1.testBit x = true := fun x hx => by
  obtain ⟨y, hy, he⟩ := row_prime (show q ≤ 8 by omega) ho hm hx
  rw [← hP] at hy
  obtain ⟨j, hj, rfl⟩ := List.getElem_of_mem hy
  have e : P.getD j (0, 0) = P[j] := by rw [List.getD_eq_getElem?_getD, List.getElem?_eq_getElem hj]; rfl
  refine ⟨j, by unfold lsP; rw [List.length_map]; exact hj, ?_⟩
  rw [lsP_getD hj, e]
  exact (cM_bit _ _ _ _).2 ⟨ho x hx, he⟩
 obtain ⟨b, b1, -, -, -, b5⟩ := grd_eq (lsP q P) no hl h4 hc
 rw [← wtQ_lsP] at b5
 rw [← hP, b5]
 unfold lsL
 simp only
 rw [← hP, b1]
end Go.Proofs.YtaegjpancbmppaaGreatDoor
