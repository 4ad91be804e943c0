/- Part 14 of 28 of the proof of the law: contracts of the functions that it reaches, and plain facts. Conditions: those that each contract names. -/
import Derived.Test.YtaegjpancbmppaaGreatDoorAptB01
set_option linter.unusedVariables false
set_option linter.unusedSimpArgs false
namespace Go.Proofs.YtaegjpancbmppaaGreatDoor
open Go.RowKit
theorem and_adn {r c v b : Nat} (h : r &&& c = v) : r &&& adn c b = adn v b := by
 subst h
 apply Nat.eq_of_testBit_eq; intro i
 rw [Nat.testBit_and, adn_bit, adn_bit, Nat.testBit_and, Bool.and_assoc]
theorem imp_prime {n on may : Nat} (hn : n ≤ 8) : ∀ c v, c < 2 ^ n → impB n may c v = true → cM n c v &&& on ≠ 0 → ∃ x ∈ prS n on may, ∀ r, r &&& c = v → r &&& x.1 = x.2 := by
 intro c
 induction c using Nat.strongRecOn with
 | _ c ih =>
  intro v hc hi hm
  by_cases hp : prP n on may c v
  ·obtain ⟨r, h1, -⟩ := and_nil.1 hm
   have hr := (cM_bit n c v r).1 h1
   have hv : adn v c = 0 := adn_nil.2 fun i hv => by
    rw [← hr.2, Nat.testBit_and] at hv
    exact (Bool.and_eq_true_iff.1 hv).2
   refine ⟨(c, v), (prS_mem hn).2 (prF_mem.2 ⟨hc, prV_mem.2 ⟨?_, hv, hp⟩⟩), fun r h => h⟩
   exact Nat.le_of_testBit fun i hi => (adn_nil.1 hv) i hi
  ·have hex : ∃ i, i < 8 ∧ c.testBit i = true ∧ impB n may (adn c (2 ^ i)) (adn v (2 ^ i)) = true := by
    refine Classical.byContradiction fun hne => hp ⟨hi, hm, fun i h8 hb => ?_⟩
    cases hq : impB n may (adn c (2 ^ i)) (adn v (2 ^ i)) with
    | false => rfl
    | true => exact absurd ⟨i, h8, hb, hq⟩ hne
   obtain ⟨i, -, hb, hq⟩ := hex
   have hlt := adn_less hb
   obtain ⟨r, h1, h2⟩ := and_nil.1 hm
   have hr := (cM_bit n c v r).1 h1
   obtain ⟨x, hx, hall⟩ := ih (adn c (2 ^ i)) hlt (adn v (2 ^ i)) (by omega) hq (and_nil.2 ⟨r, (cM_bit _ _ _ r).2 ⟨hr.1, and_adn hr.2⟩, h2⟩)
   exact ⟨x, hx, fun r h => hall r (and_adn h)⟩
theorem tog_care (n a b i : Nat) : (adn (2 ^ n - 1) (a ^^^ b)).testBit i = (decide (i < n) && (a.testBit i == b.testBit i)) := by
 rw [adn_bit, Nat.testBit_two_pow_sub_one, Nat.testBit_xor]
 cases a.testBit i <;> cases b.testBit i <;> rfl
theorem tog_iff {n on may a b : Nat} (hn : n ≤ 8) (ha : a < 2 ^ n) (hon : on.testBit a = true) : togB n may a b = true ↔ ∃ x ∈ prS n on may, a &&& x.1 = x.2 ∧ b &&& x.1 = x.2 := by
 unfold togB
 constructor
 ·intro h
  obtain ⟨x, hx, hall⟩ := imp_prime (on := on) hn _ _ (Nat.lt_of_le_of_lt (adn_le _ _) (Nat.sub_lt (Nat.two_pow_pos n) Nat.one_pos)) h (and_nil.2 ⟨a, (cM_bit _ _ _ a).2 ⟨ha, rfl⟩, hon⟩)
  refine ⟨x, hx, hall a rfl, hall b ?_⟩
  apply Nat.eq_of_testBit_eq; intro i
  rw [Nat.testBit_and, Nat.testBit_and, tog_care]
  cases a.testBit i <;> cases b.testBit i <;> simp
 ·rintro ⟨x, hx, h1, h2⟩
  obtain ⟨hc, hv⟩ := prF_mem.1 ((prS_mem hn).1 hx)
  obtain ⟨-, -, hi, -⟩ := prV_mem.1 hv
  rw [impB_iff] at hi ⊢
  intro r hr hrc
  refine hi r hr ?_
  rw [← h1]
  apply Nat.eq_of_testBit_eq; intro i
  rw [Nat.testBit_and, Nat.testBit_and]
  cases hci : x.1.testBit i with
  | false => simp
  | true =>
   have hin : i < n := by
    refine Classical.byContradiction fun hne => ?_
    have := Nat.testBit_lt_two_pow (x := x.1) (i := i) (Nat.lt_of_lt_of_le hc (Nat.pow_le_pow_right (n := 2) (by decide) (show n ≤ i by omega)))
    rw [this] at hci; cases hci
   have e1 := congrArg (fun z => z.testBit i) (h1.trans h2.symm)
   simp only [Nat.testBit_and, hci, Bool.and_true] at e1
   have e2 := congrArg (fun z => z.testBit i) hrc
   simp only [Nat.testBit_and, tog_care, hin, e1, decide_true, Bool.true_and, beq_self_eq_true, Bool.and_true] at e2
   rw [e2, e1]
theorem count_pair {α : Type} (f : α → Bool) : ∀ l : List α, l.countP f ≤ 1 ↔ l.Pairwise fun a b => ¬ (f a = true ∧ f b = true)
 | [] => by simp
 | a :: l => by
  rw [List.pairwise_cons, ← count_pair f l, List.countP_cons]
  cases ha : f a with
  | false => simp
  | true =>
   have h0 : l.countP f = 0 ↔ ∀ b ∈ l, ¬ f b = true := by rw [List.countP_eq_zero]
   constructor
   ·intro h
    rw [if_pos rfl] at h
    have h0' : l.countP f = 0 := by omega
    exact ⟨fun b hb hh => (h0.1 h0') b hb hh.2, by omega⟩
   ·rintro ⟨h1, h2⟩
    have : l.countP f = 0 := h0.2 fun b hb hh => h1 b hb ⟨rfl, hh⟩
    rw [this, if_pos rfl]
    exact Nat.le_refl _
def apartB (P : List (Nat × Nat)) (l : List Nat) : Bool := P.all fun x => decide (l.countP (fun r => r &&& x.1 == x.2) ≤ 1)
theorem apart_iff {n may : Nat} (hn : n ≤ 8) (on u : List Nat) (hu : ∀ r ∈ u, r < 2 ^ n ∧ r ∈ on) : apartB (prS n (rowM on) may) u = true ↔ aptL (togB n may) u := by
 unfold apartB aptL
 rw [List.all_eq_true]
 constructor
 ·intro h
  refine List.pairwise_iff_forall_sublist.2 fun {a b} hab => ?_
  have ha := hu a (hab.subset (by simp))
  cases ht : togB n may a b with
  | false => rfl
  | true =>
   obtain ⟨x, hx, h1, h2⟩ := (tog_iff (on := rowM on) hn ha.1 (by rw [rowM_bit]; exact decide_eq_true ha.2)).1 ht
   have h3 := (count_pair _ u).1 (of_decide_eq_true (h x hx))
   exact absurd ⟨beq_iff_eq.2 h1, beq_iff_eq.2 h2⟩ (List.pairwise_iff_forall_sublist.1 h3 hab)
 ·intro h x hx
  refine decide_eq_true ((count_pair _ u).2 (List.pairwise_iff_forall_sublist.2 fun {a b} hab hh => ?_))
  have ha := hu a (hab.subset (by simp))
  have h1 := List.pairwise_iff_forall_sublist.1 h hab
  have h2 := (tog_iff (on := rowM on) hn ha.1 (by rw [rowM_bit]; exact decide_eq_true ha.2)).2 ⟨x, hx, beq_iff_eq.1 hh.1, beq_iff_eq.1 hh.2⟩
  rw [h1] at h2
  cases h2
theorem apL_eq {n may : Nat} (hn : n ≤ 8) (on : List Nat) (hs : on.Pairwise (· < ·)) (ho : ∀ r ∈ on, r < 2 ^ n) : apW (apartB (prS n (rowM on) may)) on (2 ^ on.length) = apL n may on :=
 apW_eq _ _ on hs fun u hu => apart_iff hn on u fun r hr => ⟨ho r (hu.subset hr), hu.subset hr⟩
end Go.Proofs.YtaegjpancbmppaaGreatDoor
namespace Go.Proofs.YtaegjpancbmppaaGreatDoor
open Go.RowKit
theorem lexLt_trans : ∀ a b c, lexLt a b = true → lexLt b c = true → lexLt a c = true
 | [], [], _, h, _ => by cases h
 | [], _ :: _, [], _, h => by cases h
 | [], _ :: _, _ :: _, _, _ => rfl
 | _ :: _, [], _, h, _ => by cases h
 | _ :: _, _ :: _, [], _, h => by cases h
 | x :: a, y :: b, z :: c, h1, h2 => by
  rw [lexLt] at h1 h2 ⊢
  by_cases e1 : x = y
  ·subst e1
   rw [if_pos rfl] at h1
   by_cases e2 : x = z
   ·subst e2
    rw [if_pos rfl] at h2 ⊢
    exact lexLt_trans a b c h1 h2
   ·rw [if_neg e2] at h2 ⊢; exact h2
  ·rw [if_neg e1] at h1
   have h1' := of_decide_eq_true h1
   by_cases e2 : y = z
   ·subst e2
    rw [if_neg e1]; exact h1
   ·rw [if_neg e2] at h2
    have h2' := of_decide_eq_true h2
    rw [if_neg (by omega)]
    exact decide_eq_true (by omega)
theorem lexLt_tri : ∀ a b, a.length = b.length → lexLt a b = true ∨ a = b ∨ lexLt b a = true
 | [], [], _ => .inr (.inl rfl)
 | [], _ :: _, h => by cases h
 | _ :: _, [], h => by cases h
 | x :: a, y :: b, h => by
  rw [lexLt, lexLt]
  by_cases e : x = y
  ·subst e
   rw [if_pos rfl, if_pos rfl]
   rcases lexLt_tri a b (by simpa using h) with h | h | h
   ·exact .inl h
   ·exact .inr (.inl (by rw [h]))
   ·exact .inr (.inr h)
  ·rw [if_neg e, if_neg (fun k => e k.symm)]
   rcases Nat.lt_or_gt_of_ne e with h | h
   ·exact .inl (decide_eq_true h)
   ·exact .inr (.inr (decide_eq_true h))
def kLt (a b : List Nat × Nat) : Prop := a.1.length < b.1.length ∨ a.1.length = b.1.length ∧ (a.2 < b.2 ∨ a.2 = b.2 ∧ lexLt a.1 b.1 = true)
def kLe (a b : List Nat × Nat) : Prop := a = b ∨ kLt a b
theorem kLt_trans {a b c : List Nat × Nat} (h1 : kLt a b) (h2 : kLt b c) : kLt a c := by
 unfold kLt at *
 rcases h1 with h1 | ⟨e1, h1 | ⟨l1, h1⟩⟩ <;> rcases h2 with h2 | ⟨e2, h2 | ⟨l2, h2⟩⟩
 ·exact .inl (by omega)
 ·exact .inl (by omega)
 ·exact .inl (by omega)
 ·exact .inl (by omega)
 ·exact .inr ⟨by omega, .inl (by omega)⟩
 ·exact .inr ⟨by omega, .inl (by omega)⟩
 ·exact .inl (by omega)
 ·exact .inr ⟨by omega, .inl (by omega)⟩
 ·exact .inr ⟨by omega, .inr ⟨by omega, lexLt_trans _ _ _ h1 h2⟩⟩
theorem kLt_le {a b c : List Nat × Nat} (h1 : kLt a b) (h2 : kLe b c) : kLt a c := by
 rcases h2 with rfl | h2
 ·exact h1
 ·exact kLt_trans h1 h2
theorem kLe_of_not {a b : List Nat × Nat} (h : ¬ kLt a b) : kLe b a := by
 unfold kLe kLt at *
 by_cases e : b.1.length = a.1.length
 ·by_cases e2 : b.2 = a.2
  ·rcases lexLt_tri b.1 a.1 e with h1 | h1 | h1
   ·exact .inr (.inr ⟨e, .inr ⟨e2, h1⟩⟩)
   ·exact .inl (Prod.ext h1 e2)
   ·exact absurd (.inr ⟨e.symm, .inr ⟨e2.symm, h1⟩⟩) h
  ·rcases Nat.lt_or_gt_of_ne e2 with h1 | h1
   ·exact .inr (.inr ⟨e, .inl h1⟩)
   ·exact absurd (.inr ⟨e.symm, .inl h1⟩) h
 ·rcases Nat.lt_or_gt_of_ne e with h1 | h1
  ·exact .inr (.inl h1)
  ·exact absurd (.inl h1) h
def lsR (s : LsS) (T : List Nat × Nat → Prop) (s' : LsS) : Prop :=
 (s' = s ∧ ∀ t, T t → ∃ b, s = some b ∧ kLe b t) ∨ ∃ b', s' = some b' ∧ T b' ∧ (∀ b, s = some b → kLt b' b) ∧ ∀ t, T t → kLe b' t
theorem lsR.congr {s s' : LsS} {T T' : List Nat × Nat → Prop} (h : lsR s T s') (ht : ∀ t, T t ↔ T' t) : lsR s T' s' := by
 obtain rfl : T = T' := funext fun t => propext (ht t)
 exact h
theorem lsR.comp {s s1 s2 : LsS} {T1 T2 : List Nat × Nat → Prop} (h1 : lsR s T1 s1) (h2 : lsR s1 T2 s2) : lsR s (fun t => T1 t ∨ T2 t) s2 := by
 rcases h1 with ⟨rfl, k1⟩ | ⟨b1, rfl, t1, l1, k1⟩
 ·rcases h2 with ⟨rfl, k2⟩ | ⟨b2, rfl, t2, l2, k2⟩
  ·exact .inl ⟨rfl, fun t ht => ht.elim (k1 t) (k2 t)⟩
  ·refine .inr ⟨b2, rfl, .inr t2, l2, fun t ht => ht.elim (fun h => ?_) (k2 t)⟩
   obtain ⟨b, hb, hk⟩ := k1 t h
   exact .inr (kLt_le (l2 b hb) hk)
 ·rcases h2 with ⟨rfl, k2⟩ | ⟨b2, rfl, t2, l2, k2⟩
  ·refine .inr ⟨b1, rfl, .inl t1, l1, fun t ht => ht.elim (k1 t) (fun h => ?_)⟩
   obtain ⟨b, hb, hk⟩ := k2 t h
   cases hb
   exact hk
  ·refine .inr ⟨b2, rfl, .inr t2, fun b hb => kLt_trans (l2 b1 rfl) (l1 b hb), fun t ht => ht.elim (fun h => .inr (kLt_le (l2 b1 rfl) (k1 t h))) (k2 t)⟩
theorem insN_perm (x : Nat) : ∀ l, (insN x l).Perm (x :: l)
 | [] => .refl _
 | y :: l => by
  rw [insN]
  split
  ·exact .refl _
  ·exact ((insN_perm x l).cons y).trans (.swap x y l)
theorem sortN_perm : ∀ l, (sortN l).Perm l
 | [] => .refl _
 | x :: l => (insN_perm x (sortN l)).trans ((sortN_perm l).cons x)
theorem insN_sorted (x : Nat) : ∀ l : List Nat, l.Pairwise (· ≤ ·) → (insN x l).Pairwise (· ≤ ·)
 | [], _ => List.pairwise_singleton _ _
 | y :: l, h => by
  obtain ⟨h1, h2⟩ := List.pairwise_cons.1 h
  rw [insN]
  split
  ·rename_i hxy
   refine List.pairwise_cons.2 ⟨fun z hz => ?_, h⟩
   rcases List.mem_cons.1 hz with rfl | hz
   ·exact hxy
   ·exact Nat.le_trans hxy (h1 z hz)
  ·rename_i hxy
   refine List.pairwise_cons.2 ⟨fun z hz => ?_, insN_sorted x l h2⟩
   rcases List.mem_cons.1 ((insN_perm x l).mem_iff.1 hz) with rfl | hz
   ·omega
   ·exact h1 z hz
theorem sortN_sorted : ∀ l : List Nat, (sortN l).Pairwise (· ≤ ·)
 | [] => List.Pairwise.nil
 | x :: l => insN_sorted x _ (sortN_sorted l)
theorem sortN_strict {l : List Nat} (h : l.Nodup) : (sortN l).Pairwise (· < ·) := by
 have h1 := sortN_sorted l
 have h2 : (sortN l).Nodup := (sortN_perm l).nodup_iff.2 h
 exact (h1.and h2).imp fun ⟨a, b⟩ => Nat.lt_of_le_of_ne a b
theorem sub_sublist : ∀ B A : List Nat, A.Pairwise (· < ·) → B.Pairwise (· < ·) → (∀ x ∈ A, x ∈ B) → A.Sublist B
 | [], [], _, _, _ => List.Sublist.slnil
 | [], a :: _, _, _, h => absurd (h a (List.mem_cons_self ..)) (by simp)
 | b :: B, [], _, _, _ => List.nil_sublist _
 | b :: B, a :: A, hA, hB, h => by
  obtain ⟨a1, a2⟩ := List.pairwise_cons.1 hA
  obtain ⟨b1, b2⟩ := List.pairwise_cons.1 hB
  by_cases e : a = b
  ·subst e
   refine (sub_sublist B A a2 b2 fun x hx => ?_).cons_cons a
   rcases List.mem_cons.1 (h x (List.mem_cons_of_mem _ hx)) with e | e
   ·have := a1 x hx; omega
   ·exact e
  ·have ha : a ∈ B := (List.mem_cons.1 (h a (List.mem_cons_self ..))).resolve_left e
   have hba := b1 a ha
   refine (sub_sublist B (a :: A) hA b2 fun x hx => ?_).cons b
   refine (List.mem_cons.1 (h x hx)).resolve_left fun e' => ?_
   rcases List.mem_cons.1 hx with e2 | e2
   ·omega
   ·have := a1 x e2; omega
def lsLit (P : List (Nat × Nat)) (S : List Nat) : Nat := (S.map fun i => (P.getD i (0, 0)).2).sum
def lsCov (P : List (Nat × Nat)) (on S : List Nat) : Prop := ∀ x ∈ on, ∃ i ∈ S, (P.getD i (0, 0)).1.testBit x = true
def lsT (P : List (Nat × Nat)) (on chosen : List Nat) (t : List Nat × Nat) : Prop :=
 t.1.Pairwise (· < ·) ∧ (∀ i ∈ t.1, i < P.length) ∧ (∀ i ∈ chosen, i ∈ t.1) ∧ lsCov P on t.1 ∧ t.2 = lsLit P t.1
theorem lsLit_perm {P : List (Nat × Nat)} {S S' : List Nat} (h : S.Perm S') : lsLit P S = lsLit P S' := (h.map _).sum_nat
theorem lsT_len {P : List (Nat × Nat)} {on chosen : List Nat} {t : List Nat × Nat} (h : lsT P on chosen t) (hn : chosen.Nodup) : chosen.length < t.1.length ∨ (chosen.length = t.1.length ∧ t = (sortN chosen, lsLit P chosen)) := by
 have hs := sub_sublist t.1 (sortN chosen) (sortN_strict hn) h.1 fun x hx => h.2.2.1 x ((sortN_perm chosen).mem_iff.1 hx)
 have hl := (sortN_perm chosen).length_eq
 rcases Nat.lt_or_eq_of_le hs.length_le with k | k
 ·exact .inl (by omega)
 ·have e := hs.eq_of_length k
  exact .inr ⟨by omega, Prod.ext e.symm (by rw [h.2.2.2.2, ← e]; exact lsLit_perm (sortN_perm chosen))⟩
theorem lsRow_none (P : List (Nat × Nat)) (hv : Nat) : ∀ (on : List Nat) (s : Option (Nat × Nat)), lsRow P hv on s = none ↔ s = none ∧ ∀ x ∈ on, hv.testBit x = true
 | [], s => by rw [lsRow]; simp
 | x :: r, s => by
  rw [lsRow, lsRow_none P hv r]
  cases hx : hv.testBit x with
  | true => simp [hx]
  | false =>
   cases s with
   | none => simp [hx]
   | some y =>
    obtain ⟨y, l⟩ := y
    simp only [Bool.false_eq_true, if_false]
    split <;> simp
theorem lsRow_some (P : List (Nat × Nat)) (hv : Nat) : ∀ (on : List Nat) (s : Option (Nat × Nat)) (y l : Nat), lsRow P hv on s = some (y, l) → (∃ l', s = some (y, l')) ∨ (y ∈ on ∧ hv.testBit y = false)
 | [], s, y, l, h => .inl ⟨l, h⟩
 | x :: r, s, y, l, h => by
  rw [lsRow] at h
  cases hx : hv.testBit x with
  | true =>
   rw [hx, if_pos rfl] at h
   exact (lsRow_some P hv r s y l h).imp_right fun k => ⟨List.mem_cons_of_mem _ k.1, k.2⟩
  | false =>
   rw [hx, if_neg (by simp)] at h
   rcases lsRow_some P hv r _ y l h with ⟨l', h'⟩ | h'
   ·cases s with
    | none =>
     simp only [Option.some.injEq, Prod.mk.injEq] at h'
     exact .inr ⟨by rw [h'.1]; exact List.mem_cons_self .., by rw [← h'.1]; exact hx⟩
    | some z =>
     obtain ⟨z, l2⟩ := z
     dsimp only at h'
     split at h'
     ·simp only [Option.some.injEq, Prod.mk.injEq] at h'
      exact .inr ⟨by rw [h'.1]; exact List.mem_cons_self .., by rw [← h'.1]; exact hx⟩
     ·exact .inl ⟨l', h'⟩
   ·exact .inr ⟨List.mem_cons_of_mem _ h'.1, h'.2⟩
structure LsI (P : List (Nat × Nat)) (on chosen : List Nat) (hv count : Nat) : Prop where
 nd : chosen.Nodup
 lt : ∀ i ∈ chosen, i < P.length
 hv : ∀ x, hv.testBit x = true ↔ ∃ i ∈ chosen, (P.getD i (0, 0)).1.testBit x = true
 ct : count = lsLit P chosen
theorem LsI.next {P : List (Nat × Nat)} {on chosen : List Nat} {hv count i row : Nat} (h : LsI P on chosen hv count) (hi : i < P.length) (hr : (P.getD i (0, 0)).1.testBit row = true) (hn : hv.testBit row = false) : LsI P on (chosen ++ [i]) (hv ||| (P.getD i (0, 0)).1) (count + (P.getD i (0, 0)).2) where
 nd := by
  rw [List.nodup_append]
  refine ⟨h.nd, by simp, fun a ha b hb e => ?_⟩
  rw [List.mem_singleton] at hb
  subst e; subst hb
  rw [(h.hv row).2 ⟨a, ha, hr⟩] at hn
  cases hn
 lt := fun j hj => by
  rcases List.mem_append.1 hj with hj | hj
  ·exact h.lt j hj
  ·rw [List.mem_singleton] at hj; subst hj; exact hi
 hv := fun x => by
  rw [Nat.testBit_or, Bool.or_eq_true, h.hv x]
  constructor
  ·rintro (⟨j, h1, h2⟩ | h1)
   ·exact ⟨j, List.mem_append_left _ h1, h2⟩
   ·exact ⟨i, by simp, h1⟩
  ·rintro ⟨j, h1, h2⟩
   rcases List.mem_append.1 h1 with h1 | h1
   ·exact .inl ⟨j, h1, h2⟩
   ·rw [List.mem_singleton] at h1; subst h1; exact .inr h2
 ct := by rw [h.ct]; unfold lsLit; rw [List.map_append, List.sum_append]; simp
theorem lsGo_spec (P : List (Nat × Nat)) (on : List Nat) (f row : Nat) (chosen : List Nat) (hv count : Nat) (hI : LsI P on chosen hv count) (hn : hv.testBit row = false)
  (hrec : ∀ s i, i < P.length → (P.getD i (0, 0)).1.testBit row = true → lsR s (lsT P on (chosen ++ [i])) (lsSeek P on f s (chosen ++ [i]) (hv ||| (P.getD i (0, 0)).1) (count + (P.getD i (0, 0)).2))) :
  ∀ l i s, l = P.drop i → lsR s (fun t => lsT P on chosen t ∧ ∃ j ∈ t.1, i ≤ j ∧ (P.getD j (0, 0)).1.testBit row = true) (lsGo (lsSeek P on f) row chosen hv count l i s)
 | [], i, s, h => .inl ⟨rfl, fun t ⟨k, j, h1, h2, _⟩ => by
   have := k.2.1 j h1
   have h3 := congrArg List.length h
   rw [List.length_drop, List.length_nil] at h3
   omega⟩
 | p :: r, i, s, h => by
  have hi : i < P.length := by
   have h3 := congrArg List.length h
   rw [List.length_drop, List.length_cons] at h3
   omega
  have h' := h
  rw [List.drop_eq_getElem_cons hi] at h'
  injection h' with hp hr
  have hg : P.getD i (0, 0) = p := by rw [List.getD_eq_getElem?_getD, List.getElem?_eq_getElem hi, hp]; rfl
  rw [lsGo]
  cases hb : p.1.testBit row with
  | true =>
   rw [if_pos rfl]
   have h1 := hrec s i hi (by rw [hg]; exact hb)
   rw [hg] at h1
   have h2 := lsGo_spec P on f row chosen hv count hI hn hrec r (i + 1) (lsSeek P on f s (chosen ++ [i]) (hv ||| p.1) (count + p.2)) hr
   refine (h1.comp h2).congr fun t => ⟨?_, ?_⟩
   ·rintro (k | ⟨k, j, j1, j2, j3⟩)
    ·exact ⟨⟨k.1, k.2.1, fun x hx => k.2.2.1 x (List.mem_append_left _ hx), k.2.2.2⟩, i, k.2.2.1 i (by simp), Nat.le_refl _, by rw [hg]; exact hb⟩
    ·exact ⟨k, j, j1, by omega, j3⟩
   ·rintro ⟨k, j, j1, j2, j3⟩
    rcases Nat.lt_or_eq_of_le j2 with hlt | rfl
    ·exact .inr ⟨k, j, j1, hlt, j3⟩
    ·refine .inl ⟨k.1, k.2.1, fun x hx => ?_, k.2.2.2⟩
     rcases List.mem_append.1 hx with hx | hx
     ·exact k.2.2.1 x hx
     ·rw [List.mem_singleton] at hx; subst hx; exact j1
  | false =>
   rw [if_neg (by simp)]
   refine (lsGo_spec P on f row chosen hv count hI hn hrec r (i + 1) s hr).congr fun t => ⟨?_, ?_⟩
   ·rintro ⟨k, j, j1, j2, j3⟩; exact ⟨k, j, j1, by omega, j3⟩
   ·rintro ⟨k, j, j1, j2, j3⟩
    refine ⟨k, j, j1, ?_, j3⟩
    rcases Nat.lt_or_eq_of_le j2 with hlt | rfl
    ·exact hlt
    ·rw [hg, hb] at j3; cases j3
theorem filter_less {α : Type} (p q : α → Bool) : ∀ l : List α, (∀ x ∈ l, q x = true → p x = true) → (∃ x ∈ l, p x = true ∧ q x = false) → (l.filter q).length < (l.filter p).length
 | [], _, h => by obtain ⟨x, hx, _⟩ := h; cases hx
 | a :: l, h1, h2 => by
  have hle : (l.filter q).length ≤ (l.filter p).length := by
   rw [← List.countP_eq_length_filter, ← List.countP_eq_length_filter]
   exact List.countP_mono_left fun x hx => h1 x (List.mem_cons_of_mem _ hx)
  have ha := h1 a (List.mem_cons_self ..)
  rw [List.filter_cons, List.filter_cons]
  by_cases e : p a = true ∧ q a = false
  ·rw [if_pos e.1, if_neg (by rw [e.2]; simp), List.length_cons]
   omega
  ·have h3 : ∃ x ∈ l, p x = true ∧ q x = false := by
    obtain ⟨x, hx, k⟩ := h2
    rcases List.mem_cons.1 hx with rfl | hx
    ·exact absurd k e
    ·exact ⟨x, hx, k⟩
   have := filter_less p q l (fun x hx => h1 x (List.mem_cons_of_mem _ hx)) h3
   cases hq : q a with
   | true => rw [ha hq, if_pos rfl, if_pos rfl, List.length_cons, List.length_cons]; omega
   | false =>
    have hp : p a = false := by cases hp : p a with
     | false => rfl
     | true => exact absurd ⟨hp, hq⟩ e
    rw [hp, if_neg (by simp), if_neg (by simp)]
    exact this
theorem lsSeek_spec (P : List (Nat × Nat)) (on : List Nat) : ∀ f s chosen hv count, LsI P on chosen hv count → (on.filter fun x => !hv.testBit x).length < f → lsR s (lsT P on chosen) (lsSeek P on f s chosen hv count)
 | 0, _, _, _, _, _, h => absurd h (Nat.not_lt_zero _)
 | f + 1, s, chosen, hv, count, hI, hf => by
  rw [lsSeek]
  by_cases hc : lsCut s chosen count = true
  ·rw [if_pos hc]
   refine .inl ⟨rfl, fun t ht => ?_⟩
   cases s with
   | none => cases hc
   | some b =>
    obtain ⟨b, k⟩ := b
    refine ⟨_, rfl, .inr ?_⟩
    have hc' := of_decide_eq_true (show decide (b.length < chosen.length ∨ chosen.length = b.length ∧ k < count) = true from hc)
    unfold kLt
    rcases lsT_len ht hI.nd with h | ⟨h, rfl⟩
    ·exact .inl (by dsimp only; omega)
    ·have := (sortN_perm chosen).length_eq
     have hct := hI.ct
     dsimp only at h ⊢
     rcases hc' with h1 | ⟨h1, h2⟩
     ·exact .inl (by omega)
     ·exact .inr ⟨by omega, .inl (by omega)⟩
  ·rw [if_neg hc]
   cases hr : lsRow P hv on none with
   | none =>
    have hall := ((lsRow_none P hv on none).1 hr).2
    have hT0 : lsT P on chosen (sortN chosen, count) := by
     refine ⟨sortN_strict hI.nd, fun i hi => hI.lt i ((sortN_perm chosen).mem_iff.1 hi), fun i hi => (sortN_perm chosen).mem_iff.2 hi, fun x hx => ?_, ?_⟩
     ·obtain ⟨i, h1, h2⟩ := (hI.hv x).1 (hall x hx)
      exact ⟨i, (sortN_perm chosen).mem_iff.2 h1, h2⟩
     ·rw [hI.ct]; exact (lsLit_perm (sortN_perm chosen)).symm
    have hmin : ∀ t, lsT P on chosen t → kLe (sortN chosen, count) t := fun t ht => by
     rcases lsT_len ht hI.nd with h | ⟨_, rfl⟩
     ·have := (sortN_perm chosen).length_eq
      exact .inr (.inl (by dsimp only; omega))
     ·exact .inl (by rw [hI.ct])
    show lsR s (lsT P on chosen) (lsEnd s chosen count)
    cases s with
    | none => exact .inr ⟨_, rfl, hT0, (fun b hb => by cases hb), hmin⟩
    | some b =>
     obtain ⟨b, k⟩ := b
     have hl := (sortN_perm chosen).length_eq
     by_cases hk : kLt (sortN chosen, count) (b, k)
     ·have : lsEnd (some (b, k)) chosen count = some (sortN chosen, count) := by
       rw [lsEnd, if_pos]
       unfold kLt at hk
       dsimp only at hk
       rw [hl] at hk
       exact hk
      rw [this]
      exact .inr ⟨_, rfl, hT0, fun b' hb => by cases hb; exact hk, hmin⟩
     ·have : lsEnd (some (b, k)) chosen count = some (b, k) := by
       rw [lsEnd, if_neg]
       intro h
       apply hk
       unfold kLt
       dsimp only
       rw [hl]
       exact h
      rw [this]
      refine .inl ⟨rfl, fun t ht => ⟨_, rfl, ?_⟩⟩
      rcases kLe_of_not hk with e | e
      ·rw [e]; exact hmin t ht
      ·exact .inr (kLt_le e (hmin t ht))
   | some y =>
    obtain ⟨row, l⟩ := y
    obtain ⟨hon, hnr⟩ : row ∈ on ∧ hv.testBit row = false := by
     rcases lsRow_some P hv on none row l hr with ⟨l', h⟩ | h
     ·cases h
     ·exact h
    dsimp only
    by_cases hfu : lsFull s chosen = true
    ·rw [if_pos hfu]
     refine .inl ⟨rfl, fun t ht => ?_⟩
     cases s with
     | none => cases hfu
     | some b =>
      obtain ⟨b, k⟩ := b
      have hf' := of_decide_eq_true (show decide (b.length ≤ chosen.length) = true from hfu)
      refine ⟨_, rfl, .inr (.inl ?_)⟩
      rcases lsT_len ht hI.nd with h | ⟨_, rfl⟩
      ·dsimp only; omega
      ·exfalso
       obtain ⟨i, h1, h2⟩ := ht.2.2.2.1 row hon
       have := (hI.hv row).2 ⟨i, (sortN_perm chosen).mem_iff.1 h1, h2⟩
       rw [hnr] at this; cases this
    ·rw [if_neg hfu]
     have h1 := lsGo_spec P on f row chosen hv count hI hnr (fun s i hi hb => lsSeek_spec P on f s _ _ _ (hI.next hi hb hnr) (by
      have := filter_less (fun x => !hv.testBit x) (fun x => !(hv ||| (P.getD i (0, 0)).1).testBit x) on (fun x _ hx => by
       rw [Nat.testBit_or] at hx
       cases hh : hv.testBit x with
       | false => rfl
       | true => rw [hh] at hx; cases hx) ⟨row, hon, by rw [hnr]; rfl, by rw [Nat.testBit_or, hb]; simp⟩
      omega)) P 0 s rfl
     refine h1.congr fun t => ⟨fun h => h.1, fun h => ⟨h, ?_⟩⟩
     obtain ⟨j, j1, j2⟩ := h.2.2.2.1 row hon
     exact ⟨j, j1, Nat.zero_le _, j2⟩
end Go.Proofs.YtaegjpancbmppaaGreatDoor
namespace Go.Proofs.YtaegjpancbmppaaGreatDoor
def rwK (l : List Nat) (m : Nat) : Nat → List Nat
 | 0 => []
 | i + 1 => if m.testBit (l.length - 1 - i) = true then rwK l m i ++ [l.getD i 0] else rwK l m i
theorem rwK_drop (l : List Nat) (m : Nat) : ∀ j, j ≤ l.length → rowsM l m = rwK l m j ++ rowsM (l.drop j) m
 | 0, _ => rfl
 | j + 1, h => by
  rw [rwK_drop l m j (by omega), List.drop_eq_getElem_cons (show j < l.length by omega), rowsM, rwK, List.length_drop, show l.length - (j + 1) = l.length - 1 - j by omega]
  have e : l.getD j 0 = l[j] := by rw [List.getD_eq_getElem?_getD, List.getElem?_eq_getElem (by omega)]; rfl
  rw [e]
  split
  ·rw [List.append_assoc]; rfl
  ·rfl
theorem rwK_full (l : List Nat) (m : Nat) : rwK l m l.length = rowsM l m := by
 rw [rwK_drop l m l.length (Nat.le_refl _), List.drop_length, rowsM, List.append_nil]
theorem rwK_len (l : List Nat) (m : Nat) : ∀ j, (rwK l m j).length ≤ j
 | 0 => Nat.le_refl _
 | j + 1 => by
  rw [rwK]
  have := rwK_len l m j
  split
  ·rw [List.length_append, List.length_singleton]; omega
  ·omega
def cnK (x : Nat × Nat) (l : List Nat) (k : Nat) : Nat := (l.take k).countP fun r => hasB x r
theorem cnK_zero (x : Nat × Nat) (l : List Nat) : cnK x l 0 = 0 := by simp [cnK]
theorem cnK_succ {x : Nat × Nat} {l : List Nat} {k : Nat} (h : k < l.length) : cnK x l (k + 1) = if hasB x (l.getD k 0) = true then cnK x l k + 1 else cnK x l k := by
 have e : l.getD k 0 = l[k] := by rw [List.getD_eq_getElem?_getD, List.getElem?_eq_getElem h]; rfl
 unfold cnK
 rw [List.take_succ_eq_append_getElem h, List.countP_append, List.countP_singleton, e]
 split <;> simp_all
theorem cnK_le (x : Nat × Nat) (l : List Nat) (k : Nat) : cnK x l k ≤ k := by
 unfold cnK
 refine Nat.le_trans (List.countP_le_length) ?_
 rw [List.length_take]; omega
def apK (P : List (Nat × Nat)) (l : List Nat) : Nat → Bool
 | 0 => true
 | i + 1 => apK P l i && decide (cnK (P.getD i (0, 0)) l l.length ≤ 1)
theorem apK_full (P : List (Nat × Nat)) (l : List Nat) : apK P l P.length = apartB P l := by
 have key : ∀ i, i ≤ P.length → apK P l i = apartB (P.take i) l := by
  intro i
  induction i with
  | zero => intro _; simp [apK, apartB]
  | succ i ih =>
   intro hi
   have e : P.getD i (0, 0) = P[i] := by rw [List.getD_eq_getElem?_getD, List.getElem?_eq_getElem hi]; rfl
   rw [apK, ih (by omega), List.take_succ_eq_append_getElem hi]
   unfold apartB cnK
   rw [List.all_append, List.take_length, e, List.all_cons, List.all_nil, Bool.and_true]
   rfl
 rw [key P.length (Nat.le_refl _), List.take_length]
theorem apK_false {P : List (Nat × Nat)} {l : List Nat} {i : Nat} (hi : i < P.length) (h : 1 < cnK (P.getD i (0, 0)) l l.length) : apartB P l = false := by
 have e : P.getD i (0, 0) = P[i] := by rw [List.getD_eq_getElem?_getD, List.getElem?_eq_getElem hi]; rfl
 rw [Bool.eq_false_iff]
 intro hk
 unfold apartB at hk
 rw [List.all_eq_true] at hk
 have := of_decide_eq_true (hk P[i] (List.getElem_mem hi))
 rw [e] at h
 unfold cnK at h
 rw [List.take_length] at h
 simp only [hasB] at h
 omega
end Go.Proofs.YtaegjpancbmppaaGreatDoor
