/- Orders of tuning, in plain numbers: what a step does, what an order has tuned, the first step to a note. No function of the program is named in this text. Conditions: those that each lemma names. -/
import Derived.Test.YtfickhncbahekaaDoorMap
namespace Go.Proofs.YtfickhncbahekaaDoor
open Go.RowKit

/-- The way of an interval. -/
def wayOf (d : Int) : Option (Int × Int) :=
  if d = 7 then some (1, 0) else if d = -7 then some (-1, 0) else if d = 5 then some (-1, 1) else if d = -5 then some (1, -1) else if d = 12 then some (0, 1) else if d = -12 then some (0, -1) else none
theorem wayOf_cases (d : Int) : (d = 7 ∧ wayOf d = some (1, 0)) ∨ (d = -7 ∧ wayOf d = some (-1, 0)) ∨ (d = 5 ∧ wayOf d = some (-1, 1)) ∨ (d = -5 ∧ wayOf d = some (1, -1)) ∨ (d = 12 ∧ wayOf d = some (0, 1)) ∨ (d = -12 ∧ wayOf d = some (0, -1)) ∨ (d ≠ 7 ∧ d ≠ -7 ∧ d ≠ 5 ∧ d ≠ -5 ∧ d ≠ 12 ∧ d ≠ -12 ∧ wayOf d = none) := by
  by_cases h1 : d = 7
  · subst h1; exact .inl ⟨rfl, rfl⟩
  · by_cases h2 : d = -7
    · subst h2; exact .inr (.inl ⟨rfl, rfl⟩)
    · by_cases h3 : d = 5
      · subst h3; exact .inr (.inr (.inl ⟨rfl, rfl⟩))
      · by_cases h4 : d = -5
        · subst h4; exact .inr (.inr (.inr (.inl ⟨rfl, rfl⟩)))
        · by_cases h5 : d = 12
          · subst h5; exact .inr (.inr (.inr (.inr (.inl ⟨rfl, rfl⟩))))
          · by_cases h6 : d = -12
            · subst h6; exact .inr (.inr (.inr (.inr (.inr (.inl ⟨rfl, rfl⟩)))))
            · refine .inr (.inr (.inr (.inr (.inr (.inr ⟨h1, h2, h3, h4, h5, h6, ?_⟩)))))
              unfold wayOf
              rw [if_neg h1, if_neg h2, if_neg h3, if_neg h4, if_neg h5, if_neg h6]
theorem wayOf_semi {d : Int} {x : Int × Int} (h : wayOf d = some x) : 7 * x.1 + 12 * x.2 = d ∧ -1 ≤ x.1 ∧ x.1 ≤ 1 ∧ -1 ≤ x.2 ∧ x.2 ≤ 1 := by
  rcases wayOf_cases d with ⟨e, k⟩ | ⟨e, k⟩ | ⟨e, k⟩ | ⟨e, k⟩ | ⟨e, k⟩ | ⟨e, k⟩ | ⟨_, _, _, _, _, _, k⟩
  all_goals (rw [k] at h; first | (cases h; done) | (cases h; subst e; decide))

/-- A look-up. -/
def lkz {β : Type} (k : Int) : List (Int × β) → Option β
  | [] => none
  | p :: ps => if k = p.1 then some p.2 else lkz k ps
section
variable {β : Type} (enc : β → Value)
theorem fnd_lkz (k : Int) : ∀ (m : List (Int × β)) (i : Nat), (fnd k (m.map fun p => (p.1, enc p.2)) i).map (·.2) = (lkz k m).map enc
  | [], _ => rfl
  | p :: m, i => by
    rw [List.map_cons]
    unfold fnd lkz
    by_cases h : k = p.1
    · rw [if_pos h, if_pos h]; rfl
    · rw [if_neg h, if_neg h]; exact fnd_lkz k m (i + 1)
theorem mget_lkz (k : Int) (m : List (Int × β)) : mget (m.map fun p => (p.1, enc p.2)) k = (lkz k m).map enc := fnd_lkz enc k m 0
theorem mput_lkz (k : Int) (m : List (Int × β)) (v : β) (h : lkz k m = none) : mput (m.map fun p => (p.1, enc p.2)) k (enc v) = (m ++ [(k, v)]).map fun p => (p.1, enc p.2) := by
  have := fnd_lkz enc k m 0
  rw [h] at this
  unfold mput
  cases hq : fnd k (m.map fun p => (p.1, enc p.2)) 0 with
  | none => simp
  | some q => rw [hq] at this; cases this
end
theorem lkz_snoc {β : Type} (k : Int) (p : Int × β) : ∀ m : List (Int × β), lkz k (m ++ [p]) = match lkz k m with | some v => some v | none => if k = p.1 then some p.2 else none
  | [] => rfl
  | q :: m => by
    rw [List.cons_append]
    unfold lkz
    by_cases h : k = q.1
    · rw [if_pos h, if_pos h]
    · rw [if_neg h, if_neg h]; exact lkz_snoc k p m
theorem lkz_snoc_ne {β : Type} {k : Int} {p : Int × β} (h : k ≠ p.1) (m : List (Int × β)) : lkz k (m ++ [p]) = lkz k m := by
  rw [lkz_snoc]
  cases lkz k m with
  | some v => rfl
  | none => simp only; rw [if_neg h]
theorem lkz_snoc_eq {β : Type} {p : Int × β} {m : List (Int × β)} (h : lkz p.1 m = none) : lkz p.1 (m ++ [p]) = some p.2 := by
  rw [lkz_snoc, h]
  simp only
  rw [if_pos trivial]
theorem lkz_mem {β : Type} {k : Int} {v : β} : ∀ {m : List (Int × β)}, lkz k m = some v → (k, v) ∈ m
  | [], h => by cases h
  | q :: m, h => by
    unfold lkz at h
    by_cases e : k = q.1
    · rw [if_pos e] at h; cases h; rw [e]; exact List.mem_cons_self ..
    · rw [if_neg e] at h; exact List.mem_cons_of_mem _ (lkz_mem h)
theorem lkz_none {β : Type} {k : Int} : ∀ {m : List (Int × β)}, lkz k m = none ↔ k ∉ m.map (·.1)
  | [] => by simp [lkz]
  | q :: m => by
    unfold lkz
    by_cases e : k = q.1
    · simp [e]
    · rw [if_neg e, lkz_none]; simp [e]

/-- A number is a note. -/
def isN (n : Int) : Prop := 0 ≤ n ∧ n ≤ 127
instance (n : Int) : Decidable (isN n) := by unfold isN; exact inferInstance

/-- What an order has tuned. -/
structure Tn where
  ways : List (Int × (Int × Int))
  fst : List (Int × Int)
  again : List Int
  drift : List (Int × Int)
def addW (a b : Int × Int) : Int × Int := (a.1 + b.1, a.2 + b.2)
def subW (a b : Int × Int) : Int × Int := (a.1 - b.1, a.2 - b.2)
/-- The way to the end of a step. -/
def toW (s : Tn) (x : Int × Int) : Int × Int := addW ((wayOf (x.2 - x.1)).getD (0, 0)) ((lkz x.1 s.ways).getD (0, 0))
def stepT (s : Tn) (k : Nat) (x : Int × Int) : Tn :=
  match lkz x.2 s.ways with
  | some old => { s with again := s.again ++ [(k : Int)], drift := s.drift ++ [subW (toW s x) old] }
  | none => { s with ways := s.ways ++ [(x.2, toW s x)], fst := s.fst ++ [(x.2, (k : Int))] }
def stepE (s : Tn) (x : Int × Int) : Int := if ¬ (isN x.1 ∧ isN x.2) then 3 else if wayOf (x.2 - x.1) = none then 7 else if lkz x.1 s.ways = none then 19 else 0
def tn0 (f : Int) : Tn := ⟨[(f, (0, 0))], [(f, -1)], [], []⟩
/-- Behind k steps. -/
def stT (f : Int) (L : List (Int × Int)) : Nat → Tn
  | 0 => tn0 f
  | k + 1 => stepT (stT f L k) k (L.getD k (0, 0))
theorem wayOf_small (d : Int) : -1 ≤ ((wayOf d).getD (0, 0)).1 ∧ ((wayOf d).getD (0, 0)).1 ≤ 1 ∧ -1 ≤ ((wayOf d).getD (0, 0)).2 ∧ ((wayOf d).getD (0, 0)).2 ≤ 1 := by
  cases h : wayOf d with
  | none => decide
  | some x => have := wayOf_semi h; simp only [Option.getD_some]; omega
/-- A way is at most as long as there are steps. -/
def WayIn (k : Nat) (x : Int × Int) : Prop := -(k : Int) ≤ x.1 ∧ x.1 ≤ k ∧ -(k : Int) ≤ x.2 ∧ x.2 ≤ k
theorem lkz_wayIn {k : Nat} {n : Int} : ∀ {m : List (Int × (Int × Int))}, (∀ p ∈ m, WayIn k p.2) → WayIn k ((lkz n m).getD (0, 0))
  | [], _ => by show WayIn k (0, 0); unfold WayIn; dsimp only; omega
  | q :: m, h => by
    unfold lkz
    by_cases e : n = q.1
    · rw [if_pos e]; exact h q (List.mem_cons_self ..)
    · rw [if_neg e]; exact lkz_wayIn (fun p hp => h p (List.mem_cons_of_mem _ hp))
theorem st_small (f : Int) (L : List (Int × Int)) : ∀ k, ∀ p ∈ (stT f L k).ways, WayIn k p.2
  | 0, p, h => by
    have e : p = (f, (0, 0)) := by simpa [stT, tn0] using h
    rw [e]; unfold WayIn; dsimp only; omega
  | k + 1, p, h => by
    have ih := st_small f L k
    rw [show stT f L (k + 1) = stepT (stT f L k) k (L.getD k (0, 0)) from rfl] at h
    have up : ∀ q, q ∈ (stT f L k).ways → WayIn (k + 1) q.2 := fun q hq => by have := ih q hq; unfold WayIn at this ⊢; omega
    have hw := lkz_wayIn (n := (L.getD k (0, 0)).1) ih
    have hs := wayOf_small ((L.getD k (0, 0)).2 - (L.getD k (0, 0)).1)
    generalize stT f L k = s at *
    generalize L.getD k (0, 0) = x at *
    unfold stepT at h
    cases hl : lkz x.2 s.ways with
    | some old => rw [hl] at h; exact up p h
    | none =>
      rw [hl] at h
      simp only [List.mem_append, List.mem_singleton] at h
      rcases h with h | h
      · exact up p h
      · subst h
        unfold toW addW
        unfold WayIn at hw ⊢
        dsimp only
        omega
/-- The error of step k. -/
def okE (f : Int) (L : List (Int × Int)) (k : Nat) : Int := stepE (stT f L k) (L.getD k (0, 0))
/-- The first error of n ones from i on. -/
def scanE (g : Nat → Int) (i : Nat) : Nat → Int
  | 0 => 0
  | n + 1 => if g i ≠ 0 then g i else scanE g (i + 1) n
theorem scanE_skip {g : Nat → Int} : ∀ {i n k : Nat}, (∀ j, i ≤ j → j < i + k → g j = 0) → k ≤ n → scanE g i n = scanE g (i + k) (n - k)
  | i, n, 0, _, _ => rfl
  | i, 0, k + 1, _, h => by omega
  | i, n + 1, k + 1, h, hk => by
    rw [show scanE g i (n + 1) = if g i ≠ 0 then g i else scanE g (i + 1) n from rfl, if_neg (by simp [h i (Nat.le_refl _) (by omega)]), scanE_skip (k := k) (fun j h1 h2 => h j (by omega) (by omega)) (by omega)]
    rw [show i + 1 + k = i + (k + 1) by omega, show n + 1 - (k + 1) = n - k by omega]
theorem scanE_zero {g : Nat → Int} {i n : Nat} (h : ∀ j, i ≤ j → j < i + n → g j = 0) : scanE g i n = 0 := by
  rw [scanE_skip h (Nat.le_refl _), Nat.sub_self]; rfl
theorem scanE_hit {g : Nat → Int} {n k : Nat} (h : ∀ j, j < k → g j = 0) (hk : k < n) (hg : g k ≠ 0) : scanE g 0 n = g k := by
  rw [scanE_skip (k := k) (fun j _ h2 => h j (by omega)) (by omega), show n - k = (n - k - 1) + 1 by omega, Nat.zero_add]
  unfold scanE
  rw [if_pos hg]
theorem scanE_all {g : Nat → Int} : ∀ {i n : Nat}, scanE g i n = 0 → ∀ j, i ≤ j → j < i + n → g j = 0
  | i, 0, _, j, h1, h2 => by omega
  | i, n + 1, h, j, h1, h2 => by
    unfold scanE at h
    by_cases e : g i = 0
    · rw [if_neg (by simpa using e)] at h
      by_cases hj : j = i
      · rw [hj]; exact e
      · exact scanE_all h j (by omega) (by omega)
    · rw [if_pos e] at h; exact absurd h e
theorem scanE_congr {g h : Nat → Int} : ∀ {n : Nat} {i : Nat}, (∀ k, k < i + n → (∀ j, j < k → h j = 0) → g k = h k) → (∀ j, j < i → h j = 0) → scanE g i n = scanE h i n
  | 0, _, _, _ => rfl
  | n + 1, i, hc, hz => by
    unfold scanE
    have e := hc i (by omega) hz
    rw [e]
    by_cases k : h i = 0
    · rw [if_neg (by simpa using k), if_neg (by simpa using k)]
      exact scanE_congr (fun j h1 h2 => hc j (by omega) h2) (fun j hj => by
        by_cases e2 : j = i
        · rw [e2]; exact k
        · exact hz j (by omega))
    · rw [if_pos k, if_pos k]
/-- The error of an order. -/
def runE (f : Int) (L : List (Int × Int)) : Int := if ¬ isN f then 3 else if 200 < L.length then 4 else scanE (okE f L) 0 L.length

/-- The index of the first step to a note; -2 where there is none. -/
def toIx (n : Int) : List (Int × Int) → Nat → Int
  | [], _ => -2
  | x :: l, i => if x.2 = n then (i : Int) else toIx n l (i + 1)
theorem toIx_snoc (n : Int) (x : Int × Int) : ∀ (l : List (Int × Int)) (i : Nat), toIx n (l ++ [x]) i = if toIx n l i = -2 then (if x.2 = n then ((i + l.length : Nat) : Int) else -2) else toIx n l i
  | [], i => by simp [toIx]
  | y :: l, i => by
    rw [List.cons_append]
    unfold toIx
    by_cases h : y.2 = n
    · rw [if_pos h, if_pos h, if_neg (by omega)]
    · rw [if_neg h, if_neg h, toIx_snoc n x l (i + 1), List.length_cons, show i + 1 + l.length = i + (l.length + 1) by omega]
theorem toIx_some {n : Int} : ∀ {l : List (Int × Int)} {i : Nat}, toIx n l i ≠ -2 → ∃ k, k < l.length ∧ toIx n l i = ((i + k : Nat) : Int) ∧ (l.getD k (0, 0)).2 = n
  | [], _, h => absurd rfl h
  | y :: l, i, h => by
    unfold toIx at h ⊢
    by_cases e : y.2 = n
    · rw [if_pos e]; exact ⟨0, by simp, by simp, by simpa using e⟩
    · rw [if_neg e] at h ⊢
      obtain ⟨k, h1, h2, h3⟩ := toIx_some h
      exact ⟨k + 1, by simpa using h1, by rw [h2]; omega, by simpa using h3⟩
theorem toIx_none {n : Int} : ∀ {l : List (Int × Int)} {i : Nat}, (∀ x ∈ l, x.2 ≠ n) → toIx n l i = -2
  | [], _, _ => rfl
  | y :: l, i, h => by
    unfold toIx
    rw [if_neg (h y (List.mem_cons_self ..))]
    exact toIx_none (fun x hx => h x (List.mem_cons_of_mem _ hx))
theorem toIx_hit {n : Int} : ∀ {l : List (Int × Int)} {i k : Nat}, (∀ j, j < k → (l.getD j (0, 0)).2 ≠ n) → k < l.length → (l.getD k (0, 0)).2 = n → toIx n l i = ((i + k : Nat) : Int)
  | [], _, _, _, h, _ => by simp at h
  | y :: l, i, 0, _, _, h3 => by
    unfold toIx
    rw [if_pos (by simpa using h3)]; rfl
  | y :: l, i, k + 1, h1, h2, h3 => by
    unfold toIx
    have := h1 0 (by omega)
    rw [if_neg (by simpa using this), toIx_hit (i := i + 1) (k := k) (fun j hj => by simpa using h1 (j + 1) (by omega)) (by simpa using h2) (by simpa using h3)]
    omega
/-- The first step of c to a note: -1 for the first note, -2 where there is none. -/
def firstZ (f : Int) (L : List (Int × Int)) (n : Int) (c : Nat) : Int := if n = f then -1 else toIx n (L.take c) 0
theorem take_getD (L : List (Int × Int)) (k : Nat) (h : k < L.length) : L.take (k + 1) = L.take k ++ [L.getD k (0, 0)] := by
  rw [List.take_succ_eq_append_getElem h]
  simp [h]
theorem firstZ_succ (f : Int) (L : List (Int × Int)) (n : Int) (k : Nat) (h : k < L.length) : firstZ f L n (k + 1) = if firstZ f L n k = -2 then (if (L.getD k (0, 0)).2 = n then (k : Int) else -2) else firstZ f L n k := by
  unfold firstZ
  by_cases e : n = f
  · rw [if_pos e, if_pos e]; rfl
  · rw [if_neg e, if_neg e, take_getD L k h, toIx_snoc, List.length_take]
    rw [show 0 + min k L.length = k by omega]
theorem firstZ_cases (f : Int) (L : List (Int × Int)) (n : Int) (c : Nat) : (n = f ∧ firstZ f L n c = -1) ∨ (n ≠ f ∧ firstZ f L n c = -2) ∨ (n ≠ f ∧ ∃ k, k < c ∧ k < L.length ∧ firstZ f L n c = (k : Int) ∧ (L.getD k (0, 0)).2 = n) := by
  unfold firstZ
  by_cases e : n = f
  · rw [if_pos e]; exact .inl ⟨e, rfl⟩
  · rw [if_neg e]
    by_cases h : toIx n (L.take c) 0 = -2
    · exact .inr (.inl ⟨e, h⟩)
    · obtain ⟨k, h1, h2, h3⟩ := toIx_some h
      rw [List.length_take] at h1
      refine .inr (.inr ⟨e, k, by omega, by omega, by rw [h2]; simp, ?_⟩)
      rw [← h3]
      simp only [List.getD_eq_getElem?_getD, List.getElem?_take]
      rw [if_pos (by omega)]
/-- The error of step k, as the definition says. -/
def chkE (f : Int) (L : List (Int × Int)) (k : Nat) : Int :=
  if ¬ (isN (L.getD k (0, 0)).1 ∧ isN (L.getD k (0, 0)).2) then 3 else if wayOf ((L.getD k (0, 0)).2 - (L.getD k (0, 0)).1) = none then 7 else if firstZ f L (L.getD k (0, 0)).1 k = -2 then 19 else 0

/-- What lies in the maps behind k steps. -/
theorem st_fst (f : Int) (L : List (Int × Int)) : ∀ k, k ≤ L.length → ∀ n, lkz n (stT f L k).fst = (if firstZ f L n k = -2 then none else some (firstZ f L n k)) ∧ (lkz n (stT f L k).ways = none ↔ firstZ f L n k = -2)
  | 0, _, n => by
    show lkz n [(f, (-1 : Int))] = _ ∧ (lkz n [(f, ((0, 0) : Int × Int))] = none ↔ _)
    unfold firstZ lkz
    by_cases e : n = f
    · rw [if_pos e, if_pos e, if_pos e]; simp
    · rw [if_neg e, if_neg e, if_neg e, List.take_zero]
      simp [lkz, toIx]
  | k + 1, h, n => by
    obtain ⟨a1, a2⟩ := st_fst f L k (by omega) n
    have hx := st_fst f L k (by omega) (L.getD k (0, 0)).2
    obtain ⟨b1, b2⟩ := hx
    rw [firstZ_succ f L n k (by omega)]
    rw [show stT f L (k + 1) = stepT (stT f L k) k (L.getD k (0, 0)) from rfl]
    generalize stT f L k = s at *
    generalize L.getD k (0, 0) = p at *
    unfold stepT
    cases hl : lkz p.2 s.ways with
    | some old =>
      simp only
      rw [a1]
      have hne : firstZ f L p.2 k ≠ -2 := fun e => by rw [b2.2 e] at hl; cases hl
      by_cases e : firstZ f L n k = -2
      · have hpn : p.2 ≠ n := fun e2 => hne (by rw [e2]; exact e)
        rw [if_pos e, if_pos e, if_neg hpn]
        exact ⟨by simp, by simp [a2, e]⟩
      · rw [if_neg e, if_neg e]
        exact ⟨by rw [if_neg e], a2⟩
    | none =>
      simp only
      have hpe : firstZ f L p.2 k = -2 := b2.1 hl
      rw [lkz_snoc, lkz_snoc, a1]
      by_cases e : firstZ f L n k = -2
      · have hw := a2.2 e
        rw [if_pos e, if_pos e, hw]
        by_cases e2 : n = p.2
        · rw [if_pos e2, if_pos e2.symm]
          simp [e2]
        · have e3 : ¬ p.2 = n := fun h => e2 h.symm
          simp only [if_neg e2, if_neg e3]
          simp
      · rw [if_neg e, if_neg e]
        have hw : lkz n s.ways ≠ none := fun h => e (a2.1 h)
        cases hq : lkz n s.ways with
        | none => exact absurd hq hw
        | some q => simp [e]
theorem okE_chk (f : Int) (L : List (Int × Int)) (k : Nat) (h : k < L.length) : okE f L k = chkE f L k := by
  unfold okE chkE stepE
  have := (st_fst f L k (by omega) (L.getD k (0, 0)).1).2
  by_cases e : firstZ f L (L.getD k (0, 0)).1 k = -2
  · simp only [if_pos e, if_pos (this.2 e)]
  · have h2 : ¬ lkz (L.getD k (0, 0)).1 (stT f L k).ways = none := fun h => e (this.1 h)
    simp only [if_neg e, if_neg h2]
theorem runE_chk (f : Int) (L : List (Int × Int)) : runE f L = if ¬ isN f then 3 else if 200 < L.length then 4 else scanE (chkE f L) 0 L.length := by
  unfold runE
  rw [scanE_congr (g := okE f L) (h := chkE f L) (fun k hk _ => okE_chk f L k (by omega)) (fun j hj => by omega)]

end Go.Proofs.YtfickhncbahekaaDoor
