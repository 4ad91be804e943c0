/- Wishes, plainly: names, the errors of a problem and of a group, shifts, heights, costs, pairs that may not share. No function of the program is named in this text. Conditions: those that each lemma names. -/
import Derived.Test.YtkamepalomkpbaaGreatDoorPitch
namespace Go.Proofs.YtkamepalomkpbaaGreatDoor
open Go.RowKit

/-- A wish. -/
structure Wsh where
  nm : ByteArray
  dv : Int
  tn : ByteArray
  fn : Int
  fd : Int
  lo : Int
  hi : Int

/-- A letter; a byte of a name behind the first one; a name. -/
def letB (c : Nat) : Bool := (decide (65 ≤ c) && decide (c ≤ 90)) || (decide (97 ≤ c) && decide (c ≤ 122))
def restB (c : Nat) : Bool := letB c || (decide (48 ≤ c) && decide (c ≤ 57)) || decide (c = 95)
def nameL : List UInt8 → Bool
  | [] => false
  | c :: r => letB c.toNat && r.all fun d => restB d.toNat
def nameB (s : ByteArray) : Bool := decide (s.size ≤ 32) && nameL s.data.toList

/-- The error of a compass; of a wish, but for its name; of a list of wishes behind some names. -/
def cmE (lo hi : Int) : Int := if lo < 0 ∨ 127 < hi then 3 else if hi < lo then 23 else 0
def wE (x : Wsh) : Int := if x.dv < 0 ∨ 8 ≤ x.dv then 3 else if nameB x.tn = false then 8 else if pErr x.fn x.fd ≠ 0 then pErr x.fn x.fd else cmE x.lo x.hi
def seenB (seen : List ByteArray) (n : ByteArray) : Bool := seen.any fun q => decide (q = n)
def wsE : List ByteArray → List Wsh → Int
  | _, [] => 0
  | seen, x :: r => if nameB x.nm = false then 8 else if seenB seen x.nm then 9 else if wE x ≠ 0 then wE x else wsE (seen ++ [x.nm]) r
/-- The error of a row of numbers that must be in range, and increase. -/
def lastLe : Option Int → Int → Bool
  | none, _ => false
  | some q, n => decide (n ≤ q)
def sqE (top e : Int) : Option Int → List Int → Int
  | _, [] => 0
  | p, x :: r => if x < 0 ∨ top ≤ x then e else if lastLe p x then 6 else sqE top e (some x) r
def pbE (ws : List Wsh) (rules : List Int) : Int :=
  if 12 < ws.length then 4 else if wsE [] ws ≠ 0 then wsE [] ws else if 48 < rules.length then 4 else sqE 128 3 none rules
def gpE (n : Nat) (g : List Int) : Int := if g.length = 0 then 13 else sqE n 10 none g
def bothE (ws : List Wsh) (rules : List Int) (g : List Int) : Int := if pbE ws rules ≠ 0 then pbE ws rules else gpE ws.length g

theorem wsE_nil (seen : List ByteArray) : wsE seen [] = 0 := rfl
theorem wsE_cons (seen : List ByteArray) (x : Wsh) (r : List Wsh) : wsE seen (x :: r) = if nameB x.nm = false then 8 else if seenB seen x.nm then 9 else if wE x ≠ 0 then wE x else wsE (seen ++ [x.nm]) r := rfl
theorem sqE_nil (top e : Int) (p : Option Int) : sqE top e p [] = 0 := rfl
theorem sqE_cons (top e : Int) (p : Option Int) (x : Int) (r : List Int) : sqE top e p (x :: r) = if x < 0 ∨ top ≤ x then e else if lastLe p x then 6 else sqE top e (some x) r := rfl
theorem drop_cons {α : Type} (l : List α) (k : Nat) (h : k < l.length) : l.drop k = l[k] :: l.drop (k + 1) := List.drop_eq_getElem_cons h
theorem take_snoc {α : Type} (l : List α) (k : Nat) (h : k < l.length) : l.take (k + 1) = l.take k ++ [l[k]] := List.take_succ_eq_append_getElem h

theorem sqE_bd {top e : Int} (he : 0 ≤ e ∧ e ≤ 30) (l : List Int) (p : Option Int) : 0 ≤ sqE top e p l ∧ sqE top e p l ≤ 30 := by
  induction l generalizing p with
  | nil => exact ⟨Int.le_refl _, by rw [sqE_nil]; decide⟩
  | cons x r ih =>
    rw [sqE_cons]
    split
    · exact he
    · split
      · decide
      · exact ih _

/-- Right rows: every number is in range. -/
theorem sqE_mem {top e : Int} (he : e ≠ 0) {l : List Int} {p : Option Int} (h : sqE top e p l = 0) : ∀ x ∈ l, 0 ≤ x ∧ x < top := by
  induction l generalizing p with
  | nil => intro x hx; cases hx
  | cons y r ih =>
    rw [sqE_cons] at h
    split at h
    · exact absurd h he
    · split at h
      · omega
      · rename_i h1 _
        intro x hx
        rcases List.mem_cons.1 hx with rfl | hx
        · omega
        · exact ih h x hx

/-- The shift of feet on eight feet. -/
def chkS (n d : Nat) (s : Int) : Bool := decide ((1 * n) ^ 24 * 4 ^ s.toNat < 2 * ((8 * d) ^ 24 * 4 ^ (-s).toNat)) && decide ((8 * d) ^ 24 * 4 ^ (-s).toNat < 2 * ((1 * n) ^ 24 * 4 ^ s.toNat))
theorem chkS_iff (n d : Nat) (s : Int) : chkS n d s = true ↔ IsShift (8 * d) (1 * n) s := by
  unfold chkS
  rw [Bool.and_eq_true, decide_eq_true_eq, decide_eq_true_eq]
  exact ⟨fun h => .mk s.toNat (-s).toNat (by omega) h.1 h.2, fun h => h s.toNat (-s).toNat (by omega)⟩
def shF (n d : Int) : Int := (((List.range 901).find? fun i : Nat => chkS n.toNat d.toNat ((i : Int) - 300)).map fun i : Nat => (i : Int) - 300).getD 0
theorem shF_eq {n d s : Int} (h : IsShift (8 * d.toNat) (1 * n.toNat) s) (h0 : -300 ≤ s) (h1 : s ≤ 600) : shF n d = s := by
  unfold shF
  cases hq : (List.range 901).find? fun i : Nat => chkS n.toNat d.toNat ((i : Int) - 300) with
  | none =>
    rw [List.find?_eq_none] at hq
    have := hq (s + 300).toNat (List.mem_range.2 (by omega))
    rw [show (((s + 300).toNat : Nat) : Int) - 300 = s by omega] at this
    exact absurd ((chkS_iff _ _ _).2 h) this
  | some i =>
    have h2 := List.find?_some hq
    exact ((chkS_iff _ _ _).1 h2).unique h
theorem shF_bd (n d : Int) : -300 ≤ shF n d ∧ shF n d ≤ 600 := by
  unfold shF
  cases hq : (List.range 901).find? fun i : Nat => chkS n.toNat d.toNat ((i : Int) - 300) with
  | none => exact ⟨by decide, by decide⟩
  | some i =>
    have h2 := List.mem_range.1 (List.mem_of_find?_eq_some hq)
    show -300 ≤ (i : Int) - 300 ∧ (i : Int) - 300 ≤ 600
    omega
def shW (x : Wsh) : Int := shF x.fn x.fd
def loH (x : Wsh) : Int := x.lo + shW x
def hiH (x : Wsh) : Int := x.hi + shW x

def dflt : Wsh := ⟨⟨#[]⟩, 0, ⟨#[]⟩, 0, 0, 0, 0⟩
def wat (ws : List Wsh) (i : Int) : Wsh := ws[i.toNat]?.getD dflt
theorem wat_eq {ws : List Wsh} {k : Nat} (h : k < ws.length) : wat ws (k : Int) = ws[k] := by
  unfold wat; rw [Int.toNat_natCast, List.getElem?_eq_getElem h]; rfl

/-- The least of some numbers, the greatest. -/
def mnL : List Int → Int
  | [] => 0
  | a :: r => r.foldl min a
def mxL : List Int → Int
  | [] => 0
  | a :: r => r.foldl max a
theorem mnL_snoc (l : List Int) (x : Int) (h : l ≠ []) : mnL (l ++ [x]) = min (mnL l) x := by
  cases l with
  | nil => exact absurd rfl h
  | cons a r => simp [mnL, List.foldl_append]
theorem mxL_snoc (l : List Int) (x : Int) (h : l ≠ []) : mxL (l ++ [x]) = max (mxL l) x := by
  cases l with
  | nil => exact absurd rfl h
  | cons a r => simp [mxL, List.foldl_append]
theorem mnL_one (x : Int) : mnL [x] = x := rfl
theorem mxL_one (x : Int) : mxL [x] = x := rfl
theorem foldl_min (l : List Int) (a : Int) : l.foldl min a ≤ a ∧ (∀ x ∈ l, l.foldl min a ≤ x) ∧ (l.foldl min a = a ∨ l.foldl min a ∈ l) := by
  induction l generalizing a with
  | nil => exact ⟨Int.le_refl _, fun x hx => (by cases hx), .inl rfl⟩
  | cons y r ih =>
    obtain ⟨h1, h2, h3⟩ := ih (min a y)
    rw [List.foldl_cons]
    refine ⟨by omega, fun x hx => ?_, ?_⟩
    · rcases List.mem_cons.1 hx with rfl | hx
      · omega
      · exact h2 x hx
    · rcases h3 with h | h
      · by_cases e : a ≤ y
        · left; rw [h]; omega
        · right; rw [h, show min a y = y by omega]; exact List.mem_cons_self
      · exact .inr (List.mem_cons_of_mem _ h)
theorem foldl_max (l : List Int) (a : Int) : a ≤ l.foldl max a ∧ (∀ x ∈ l, x ≤ l.foldl max a) ∧ (l.foldl max a = a ∨ l.foldl max a ∈ l) := by
  induction l generalizing a with
  | nil => exact ⟨Int.le_refl _, fun x hx => (by cases hx), .inl rfl⟩
  | cons y r ih =>
    obtain ⟨h1, h2, h3⟩ := ih (max a y)
    rw [List.foldl_cons]
    refine ⟨by omega, fun x hx => ?_, ?_⟩
    · rcases List.mem_cons.1 hx with rfl | hx
      · omega
      · exact h2 x hx
    · rcases h3 with h | h
      · by_cases e : y ≤ a
        · left; rw [h]; omega
        · right; rw [h, show max a y = y by omega]; exact List.mem_cons_self
      · exact .inr (List.mem_cons_of_mem _ h)
theorem mnL_le {l : List Int} : ∀ x ∈ l, mnL l ≤ x := by
  cases l with
  | nil => intro x hx; cases hx
  | cons a r =>
    obtain ⟨h1, h2, _⟩ := foldl_min r a
    intro x hx
    rcases List.mem_cons.1 hx with rfl | hx
    · exact h1
    · exact h2 x hx
theorem mxL_ge {l : List Int} : ∀ x ∈ l, x ≤ mxL l := by
  cases l with
  | nil => intro x hx; cases hx
  | cons a r =>
    obtain ⟨h1, h2, _⟩ := foldl_max r a
    intro x hx
    rcases List.mem_cons.1 hx with rfl | hx
    · exact h1
    · exact h2 x hx
theorem mnL_mem {l : List Int} (h : l ≠ []) : mnL l ∈ l := by
  cases l with
  | nil => exact absurd rfl h
  | cons a r =>
    rcases (foldl_min r a).2.2 with e | e
    · show r.foldl min a ∈ a :: r; rw [e]; exact List.mem_cons_self
    · exact List.mem_cons_of_mem _ e
theorem mxL_mem {l : List Int} (h : l ≠ []) : mxL l ∈ l := by
  cases l with
  | nil => exact absurd rfl h
  | cons a r =>
    rcases (foldl_max r a).2.2 with e | e
    · show r.foldl max a ∈ a :: r; rw [e]; exact List.mem_cons_self
    · exact List.mem_cons_of_mem _ e
theorem mnL_bd {l : List Int} {a b : Int} (h0 : a ≤ 0 ∧ 0 ≤ b) (h : ∀ x ∈ l, a ≤ x ∧ x ≤ b) : a ≤ mnL l ∧ mnL l ≤ b := by
  cases l with
  | nil => exact h0
  | cons y r => exact h _ (mnL_mem (by simp))
theorem mxL_bd {l : List Int} {a b : Int} (h0 : a ≤ 0 ∧ 0 ≤ b) (h : ∀ x ∈ l, a ≤ x ∧ x ≤ b) : a ≤ mxL l ∧ mxL l ≤ b := by
  cases l with
  | nil => exact h0
  | cons y r => exact h _ (mxL_mem (by simp))

/-- The heights of the wishes of a group, and the group's cost. -/
def los (ws : List Wsh) (g : List Int) : List Int := g.map fun i => loH (wat ws i)
def his (ws : List Wsh) (g : List Int) : List Int := g.map fun i => hiH (wat ws i)
def costZ (ws : List Wsh) (g : List Int) : Int := mxL (his ws g) - mnL (los ws g) + 1
theorem cost_sub {ws : List Wsh} {g p : List Int} (hp : p ≠ []) (h : ∀ x ∈ p, x ∈ g) : costZ ws p ≤ costZ ws g := by
  unfold costZ
  have h1 : mxL (his ws p) ≤ mxL (his ws g) := by
    have hm := mxL_mem (l := his ws p) (by unfold his; simpa using hp)
    unfold his at hm
    obtain ⟨i, hi, he⟩ := List.mem_map.1 hm
    unfold his
    rw [← he]
    exact mxL_ge _ (List.mem_map.2 ⟨i, h i hi, rfl⟩)
  have h2 : mnL (los ws g) ≤ mnL (los ws p) := by
    have hm := mnL_mem (l := los ws p) (by unfold los; simpa using hp)
    unfold los at hm
    obtain ⟨i, hi, he⟩ := List.mem_map.1 hm
    unfold los
    rw [← he]
    exact mnL_le _ (List.mem_map.2 ⟨i, h i hi, rfl⟩)
  omega

/-- Two wishes that may not share; the first such pair of a group. -/
def absD (x y : Wsh) : Int := max (shW x - shW y) (-(shW x - shW y))
def apB (rules : List Int) (x y : Wsh) : Bool := if x.tn ≠ y.tn then true else decide (x.dv = y.dv) && decide (absD x y ∈ rules)
def pairOf (ws : List Wsh) (rules : List Int) (a : Int) (r : List Int) : Option Int := r.find? fun b => apB rules (wat ws a) (wat ws b)
def fstP (ws : List Wsh) (rules : List Int) : List Int → Option (Int × Int)
  | [] => none
  | a :: r => match pairOf ws rules a r with
    | some b => some (a, b)
    | none => fstP ws rules r
theorem fstP_cons (ws : List Wsh) (rules : List Int) (a : Int) (r : List Int) : fstP ws rules (a :: r) = match pairOf ws rules a r with
    | some b => some (a, b)
    | none => fstP ws rules r := rfl

/-- No pair parts the group: none parts a part of it, in its order. -/
theorem fstP_none {ws : List Wsh} {rules : List Int} {g : List Int} : fstP ws rules g = none ↔ g.Pairwise fun a b => apB rules (wat ws a) (wat ws b) = false := by
  induction g with
  | nil => simp [fstP]
  | cons a r ih =>
    rw [fstP_cons, List.pairwise_cons]
    cases hq : pairOf ws rules a r with
    | some b =>
      unfold pairOf at hq
      have h1 := List.find?_some hq
      have h2 := List.mem_of_find?_eq_some hq
      simp only [reduceCtorEq, false_iff, not_and]
      intro h
      rw [h b h2] at h1
      cases h1
    | none =>
      unfold pairOf at hq
      rw [List.find?_eq_none] at hq
      simp only [ih]
      constructor
      · intro h
        exact ⟨fun b hb => by simpa using hq b hb, h⟩
      · exact fun h => h.2
theorem fstP_sub {ws : List Wsh} {rules : List Int} {g p : List Int} (h : p.Sublist g) (hg : fstP ws rules g = none) : fstP ws rules p = none :=
  fstP_none.2 ((fstP_none.1 hg).sublist h)

end Go.Proofs.YtkamepalomkpbaaGreatDoor
