/- The furthest note: that of the package is that of the definition. No function of the program is named in this text. Conditions: the first note is a note. -/
import Derived.Test.YtfickhncbahekaaDoorTunNum2
namespace Go.Proofs.YtfickhncbahekaaDoor

/-- Of some numbers the least one of the greatest value. -/
def BestZ (S : Int → Prop) (g : Int → Int) (b m : Int) : Prop := S b ∧ g b = m ∧ ∀ n, S n → g n < m ∨ (g n = m ∧ b ≤ n)
theorem BestZ.unique {S S' : Int → Prop} {g : Int → Int} {b m b' m' : Int} (h : BestZ S g b m) (h' : BestZ S' g b' m') (e : ∀ n, S n ↔ S' n) : b = b' ∧ m = m' := by
  have h1 := h.2.2 b' ((e _).2 h'.1)
  have h2 := h'.2.2 b ((e _).1 h.1)
  have h3 := h.2.1
  have h4 := h'.2.1
  omega
section
variable (T : Int → Bool) (g : Int → Int)
/-- A walk over the first numbers, from nothing on. -/
def upS : Nat → Int × Int
  | 0 => (0, -1)
  | k + 1 => if T k = true ∧ (upS k).2 < g k then ((k : Int), g k) else upS k
/-- A walk over the first numbers, from a number on. -/
def dnS (f : Int) : Nat → Int × Int
  | 0 => (f, 0)
  | k + 1 => if T k = true ∧ ((dnS f k).2 < g k ∨ (g k = (dnS f k).2 ∧ (k : Int) < (dnS f k).1)) then ((k : Int), g k) else dnS f k
variable {T g}
theorem upS_best (hg : ∀ n, 0 ≤ g n) : ∀ k : Nat, ((∀ n : Int, 0 ≤ n → n < k → T n = false) ∧ upS T g k = (0, -1)) ∨ BestZ (fun n => T n = true ∧ 0 ≤ n ∧ n < k) g (upS T g k).1 (upS T g k).2
  | 0 => .inl ⟨fun n h1 h2 => by omega, rfl⟩
  | k + 1 => by
    have ih := upS_best hg k
    rw [show upS T g (k + 1) = if T k = true ∧ (upS T g k).2 < g k then ((k : Int), g k) else upS T g k from rfl]
    by_cases c : T k = true ∧ (upS T g k).2 < g k
    · rw [if_pos c]
      right
      refine ⟨⟨c.1, by omega, by omega⟩, rfl, fun n hn => ?_⟩
      by_cases e : n = k
      · subst e; right; exact ⟨rfl, Int.le_refl _⟩
      · rcases ih with ⟨i1, _⟩ | ih
        · have := i1 n hn.2.1 (by omega); rw [hn.1] at this; cases this
        · have := ih.2.2 n ⟨hn.1, hn.2.1, by omega⟩
          omega
    · rw [if_neg c]
      rcases ih with ⟨i1, i2⟩ | ih
      · left
        refine ⟨fun n h1 h2 => ?_, i2⟩
        by_cases e : n = k
        · subst e
          rw [i2] at c
          cases h : T k with
          | false => rfl
          | true => exact absurd ⟨h, by have := hg k; omega⟩ c
        · exact i1 n h1 (by omega)
      · right
        refine ⟨⟨ih.1.1, ih.1.2.1, by have := ih.1.2.2; omega⟩, ih.2.1, fun n hn => ?_⟩
        by_cases e : n = k
        · subst e
          have h1 : ¬ (upS T g k).2 < g k := fun h => c ⟨hn.1, h⟩
          have := ih.1.2.2
          omega
        · exact ih.2.2 n ⟨hn.1, hn.2.1, by omega⟩
theorem dnS_best {f : Int} (hf : g f = 0) (hT : T f = true) : ∀ k : Nat, BestZ (fun n => n = f ∨ (T n = true ∧ 0 ≤ n ∧ n < k)) g (dnS T g f k).1 (dnS T g f k).2
  | 0 => ⟨.inl rfl, hf, fun n hn => by
    rcases hn with rfl | hn
    · right; exact ⟨hf, Int.le_refl _⟩
    · omega⟩
  | k + 1 => by
    have ih := dnS_best hf hT k
    rw [show dnS T g f (k + 1) = if T k = true ∧ ((dnS T g f k).2 < g k ∨ (g k = (dnS T g f k).2 ∧ (k : Int) < (dnS T g f k).1)) then ((k : Int), g k) else dnS T g f k from rfl]
    by_cases c : T k = true ∧ ((dnS T g f k).2 < g k ∨ (g k = (dnS T g f k).2 ∧ (k : Int) < (dnS T g f k).1))
    · rw [if_pos c]
      refine ⟨.inr ⟨c.1, by omega, by omega⟩, rfl, fun n hn => ?_⟩
      by_cases e : n = k
      · subst e; right; exact ⟨rfl, Int.le_refl _⟩
      · have := ih.2.2 n (by
          rcases hn with h | h
          · exact .inl h
          · exact .inr ⟨h.1, h.2.1, by omega⟩)
        have := c.2
        show g n < g k ∨ g n = g k ∧ (k : Int) ≤ n
        omega
    · rw [if_neg c]
      refine ⟨?_, ih.2.1, fun n hn => ?_⟩
      · rcases ih.1 with h | h
        · exact .inl h
        · exact .inr ⟨h.1, h.2.1, by have := h.2.2; omega⟩
      · by_cases e : n = k
        · subst e
          by_cases hTk : T k = true
          · have h1 : ¬ ((dnS T g f k).2 < g k ∨ (g k = (dnS T g f k).2 ∧ (k : Int) < (dnS T g f k).1)) := fun h => c ⟨hTk, h⟩
            omega
          · rcases hn with h | h
            · exact absurd (by rw [h]; exact hT) hTk
            · exact absurd h.1 hTk
        · refine ih.2.2 n ?_
          rcases hn with h | h
          · exact .inl h
          · exact .inr ⟨h.1, h.2.1, by omega⟩
theorem up_dn (hg : ∀ n, 0 ≤ g n) {f : Int} (hf : g f = 0) (hT : T f = true) {k : Nat} (h0 : 0 ≤ f) (h1 : f < k) : upS T g k = dnS T g f k := by
  have hd := dnS_best hf hT k
  rcases upS_best hg (T := T) k with ⟨i1, _⟩ | hu
  · have := i1 f h0 h1; rw [hT] at this; cases this
  · have := hu.unique hd (fun n => ⟨fun h => .inr h, fun h => by
      rcases h with rfl | h
      · exact ⟨hT, h0, h1⟩
      · exact h⟩)
    exact Prod.ext this.1 this.2
end
end Go.Proofs.YtfickhncbahekaaDoor
