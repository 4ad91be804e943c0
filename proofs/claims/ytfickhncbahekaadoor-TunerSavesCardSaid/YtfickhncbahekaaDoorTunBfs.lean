/- How far the notes of a compass are away, in plain numbers: walks, distances, the note from which each is tuned, and a search in layers. No function of the program is named in this text. Conditions: those that each lemma names. -/
import Derived.Test.YtfickhncbahekaaDoorTunNum
namespace Go.Proofs.YtfickhncbahekaaDoor
open Go.RowKit

def bys : List Int := [-12, -7, -5, 5, 7, 12]
theorem bys_way (b : Int) : b ∈ bys ↔ ∃ x, wayOf b = some x := by
  unfold bys
  rcases wayOf_cases b with ⟨e, k⟩ | ⟨e, k⟩ | ⟨e, k⟩ | ⟨e, k⟩ | ⟨e, k⟩ | ⟨e, k⟩ | ⟨h1, h2, h3, h4, h5, h6, k⟩
  all_goals first | (subst e; rw [k]; simp; done) | (rw [k]; simp; omega)
/-- There is a walk of d steps within the compass to a note. -/
inductive Wk (lo hi f : Int) : Int → Nat → Prop
  | zero : Wk lo hi f f 0
  | next {n k : Int} {d : Nat} : Wk lo hi f n d → k - n ∈ bys → lo ≤ k → k ≤ hi → Wk lo hi f k (d + 1)
/-- A note is d steps away. -/
def Ds (lo hi f n : Int) (d : Nat) : Prop := Wk lo hi f n d ∧ ∀ e, e < d → ¬ Wk lo hi f n e
section
variable {lo hi f : Int}
theorem Wk.range (hf : lo ≤ f ∧ f ≤ hi) {n : Int} {d : Nat} (h : Wk lo hi f n d) : lo ≤ n ∧ n ≤ hi := by
  cases h with
  | zero => exact hf
  | next _ _ h1 h2 => exact ⟨h1, h2⟩
theorem Ds.unique {n : Int} {d e : Nat} (h : Ds lo hi f n d) (k : Ds lo hi f n e) : d = e := by
  rcases Nat.lt_trichotomy d e with h1 | h1 | h1
  · exact absurd h.1 (k.2 d h1)
  · exact h1
  · exact absurd k.1 (h.2 e h1)
theorem Wk.ds {n : Int} : ∀ {d : Nat}, Wk lo hi f n d → ∃ e, e ≤ d ∧ Ds lo hi f n e := by
  intro d
  induction d using Nat.strongRecOn with
  | ind d ih =>
    intro h
    by_cases k : ∃ e, e < d ∧ Wk lo hi f n e
    · obtain ⟨e, h1, h2⟩ := k
      obtain ⟨e', h3, h4⟩ := ih e h1 h2
      exact ⟨e', by omega, h4⟩
    · exact ⟨d, Nat.le_refl _, h, fun e h1 h2 => k ⟨e, h1, h2⟩⟩
theorem ds_zero {n : Int} : Ds lo hi f n 0 ↔ n = f := by
  constructor
  · intro h
    have := h.1
    generalize hd : 0 = d at this
    cases this with
    | zero => rfl
    | next _ _ _ _ => omega
  · rintro rfl
    exact ⟨.zero, fun e h => by omega⟩
theorem Ds.pred {n : Int} {d : Nat} (h : Ds lo hi f n (d + 1)) : ∃ m, Ds lo hi f m d ∧ n - m ∈ bys ∧ lo ≤ n ∧ n ≤ hi := by
  obtain ⟨h1, h2⟩ := h
  generalize hd : d + 1 = e at h1
  cases h1 with
  | zero => omega
  | @next m _ d' hw hb k1 k2 =>
    obtain rfl : d' = d := by omega
    exact ⟨m, ⟨hw, fun e he hq => h2 (e + 1) (by omega) (.next hq hb k1 k2)⟩, hb, k1, k2⟩
theorem Ds.step {m k : Int} {d : Nat} (h : Ds lo hi f m d) (hb : k - m ∈ bys) (h1 : lo ≤ k) (h2 : k ≤ hi) : ∃ e, e ≤ d + 1 ∧ Ds lo hi f k e := (Wk.next h.1 hb h1 h2).ds
/-- m is the least note from which a step leads to n, which is d + 1 steps away. -/
def IsFr (lo hi f n m : Int) (d : Nat) : Prop := Ds lo hi f n (d + 1) ∧ Ds lo hi f m d ∧ n - m ∈ bys ∧ ∀ m', Ds lo hi f m' d → n - m' ∈ bys → m ≤ m'
theorem IsFr.unique {n m m' : Int} {d d' : Nat} (h : IsFr lo hi f n m d) (k : IsFr lo hi f n m' d') : m = m' ∧ d = d' := by
  have := h.1.unique k.1
  obtain rfl : d = d' := by omega
  exact ⟨Int.le_antisymm (h.2.2.2 m' k.2.1 k.2.2.1) (k.2.2.2 m h.2.1 h.2.2.1), rfl⟩
end

/-- What a search knows. -/
structure Se where
  away : List (Int × Int)
  frm : List (Int × Int)
  next : List Int
/-- A step of the search. -/
def relax (lo hi n : Int) (s : Se) (b : Int) : Se :=
  if n + b < lo ∨ hi < n + b then s else
  match lkz (n + b) s.away with
  | some _ => s
  | none => ⟨s.away ++ [(n + b, (lkz n s.away).getD 0 + 1)], s.frm ++ [(n + b, n)], s.next ++ [n + b]⟩

section
variable {lo hi f : Int}
/-- In a layer: the pairs of P have been looked at. -/
structure PInv (lo hi f : Int) (d : Nat) (P : Int → Int → Prop) (s : Se) : Prop where
  aw : ∀ k v, lkz k s.away = some v ↔ (∃ e : Nat, e ≤ d ∧ v = e ∧ Ds lo hi f k e) ∨ (v = ((d + 1 : Nat) : Int) ∧ Ds lo hi f k (d + 1) ∧ ∃ m, P m k)
  fr : ∀ k m, lkz k s.frm = some m ↔ (∃ e, e < d ∧ IsFr lo hi f k m e) ∨ (IsFr lo hi f k m d ∧ P m k)
  nx : ∀ k, k ∈ s.next ↔ Ds lo hi f k (d + 1) ∧ ∃ m, P m k
  nd : s.next.Nodup
  ky : (s.away.map (·.1)).Nodup
/-- At a layer's begin. -/
structure LInv (lo hi f : Int) (d : Nat) (s : Se) (layer : List Int) : Prop where
  aw : ∀ k v, lkz k s.away = some v ↔ ∃ e : Nat, e ≤ d ∧ v = e ∧ Ds lo hi f k e
  fr : ∀ k m, lkz k s.frm = some m ↔ ∃ e, e < d ∧ IsFr lo hi f k m e
  ly : ∀ k, k ∈ layer ↔ Ds lo hi f k d
  nd : layer.Nodup
  ky : (s.away.map (·.1)).Nodup
theorem linv_zero : LInv lo hi f 0 ⟨[(f, 0)], [], []⟩ [f] where
  aw := fun k v => by
    show (if k = f then some (0 : Int) else none) = some v ↔ _
    constructor
    · intro h
      by_cases e : k = f
      · rw [if_pos e] at h; cases h; exact ⟨0, Nat.le_refl _, rfl, ds_zero.2 e⟩
      · rw [if_neg e] at h; cases h
    · rintro ⟨e, h1, rfl, h2⟩
      obtain rfl : e = 0 := by omega
      rw [if_pos (ds_zero.1 h2)]; rfl
  fr := fun k m => by simp [lkz]
  ly := fun k => by rw [ds_zero]; simp
  nd := by simp
  ky := by simp
theorem LInv.start {d : Nat} {s : Se} {layer : List Int} (h : LInv lo hi f d s layer) : PInv lo hi f d (fun _ _ => False) ⟨s.away, s.frm, []⟩ where
  aw := fun k v => by rw [h.aw]; simp
  fr := fun k m => by rw [h.fr]; simp
  nx := fun k => by simp
  nd := List.nodup_nil
  ky := h.ky
theorem PInv.done {d : Nat} {P : Int → Int → Prop} {s : Se} (h : PInv lo hi f d P s) (hP : ∀ m k, Ds lo hi f m d → k - m ∈ bys → P m k) : LInv lo hi f (d + 1) s s.next where
  aw := fun k v => by
    rw [h.aw]
    constructor
    · rintro (⟨e, h1, h2, h3⟩ | ⟨h1, h2, _⟩)
      · exact ⟨e, by omega, h2, h3⟩
      · exact ⟨d + 1, Nat.le_refl _, h1, h2⟩
    · rintro ⟨e, h1, h2, h3⟩
      by_cases he : e ≤ d
      · exact .inl ⟨e, he, h2, h3⟩
      · obtain rfl : e = d + 1 := by omega
        obtain ⟨m, k1, k2, _⟩ := h3.pred
        exact .inr ⟨h2, h3, m, hP m k k1 k2⟩
  fr := fun k m => by
    rw [h.fr]
    constructor
    · rintro (⟨e, h1, h2⟩ | ⟨h1, _⟩)
      · exact ⟨e, by omega, h2⟩
      · exact ⟨d, by omega, h1⟩
    · rintro ⟨e, h1, h2⟩
      by_cases he : e < d
      · exact .inl ⟨e, he, h2⟩
      · obtain rfl : e = d := by omega
        exact .inr ⟨h2, hP m k h2.2.1 h2.2.2.1⟩
  ly := fun k => by
    rw [h.nx]
    constructor
    · exact fun h => h.1
    · intro h3
      obtain ⟨m, k1, k2, _⟩ := h3.pred
      exact ⟨h3, m, hP m k k1 k2⟩
  nd := h.nd
  ky := h.ky
theorem PInv.congr {d : Nat} {P Q : Int → Int → Prop} {s : Se} (h : PInv lo hi f d P s) (e : ∀ m k, P m k ↔ Q m k) : PInv lo hi f d Q s := by
  have : P = Q := by funext m k; exact propext (e m k)
  rw [← this]; exact h
theorem PInv.step {d : Nat} {P : Int → Int → Prop} {s : Se} (hf : lo ≤ f ∧ f ≤ hi) (h : PInv lo hi f d P s) {n b : Int} (hn : Ds lo hi f n d) (hb : b ∈ bys)
    (hlt : ∀ m k, Ds lo hi f m d → m < n → k - m ∈ bys → P m k) (hP : ∀ m k, P m k → Ds lo hi f m d ∧ m ≤ n ∧ k - m ∈ bys) :
    PInv lo hi f d (fun m k => P m k ∨ (m = n ∧ k = n + b)) (relax lo hi n s b) := by
  unfold relax
  have hbk : n + b - n ∈ bys := by rw [show n + b - n = b by omega]; exact hb
  by_cases hr : n + b < lo ∨ hi < n + b
  · rw [if_pos hr]
    have hno : ∀ e, ¬ Ds lo hi f (n + b) e := fun e k => by have := k.1.range hf; omega
    refine ⟨fun k v => ?_, fun k m => ?_, fun k => ?_, h.nd, h.ky⟩
    · rw [h.aw]
      constructor
      · rintro (h1 | ⟨h1, h2, m, h3⟩)
        · exact .inl h1
        · exact .inr ⟨h1, h2, m, .inl h3⟩
      · rintro (h1 | ⟨h1, h2, m, h3 | ⟨_, h3⟩⟩)
        · exact .inl h1
        · exact .inr ⟨h1, h2, m, h3⟩
        · rw [h3] at h2; exact absurd h2 (hno _)
    · rw [h.fr]
      constructor
      · rintro (h1 | ⟨h1, h2⟩)
        · exact .inl h1
        · exact .inr ⟨h1, .inl h2⟩
      · rintro (h1 | ⟨h1, h2 | ⟨_, h3⟩⟩)
        · exact .inl h1
        · exact .inr ⟨h1, h2⟩
        · rw [h3] at h1; exact absurd h1.1 (hno _)
    · rw [h.nx]
      constructor
      · rintro ⟨h1, m, h2⟩; exact ⟨h1, m, .inl h2⟩
      · rintro ⟨h1, m, h2 | ⟨_, h3⟩⟩
        · exact ⟨h1, m, h2⟩
        · rw [h3] at h1; exact absurd h1 (hno _)
  · rw [if_neg hr]
    obtain ⟨e, he, hde⟩ := hn.step hbk (by omega) (by omega)
    have hnw : lkz n s.away = some (d : Int) := (h.aw n d).2 (.inl ⟨d, Nat.le_refl _, rfl, hn⟩)
    cases hl : lkz (n + b) s.away with
    | some v =>
      simp only
      have hk := (h.aw (n + b) v).1 hl
      have hold : Ds lo hi f (n + b) (d + 1) → ∃ m, P m (n + b) := fun h2 => by
        rcases hk with ⟨e', k1, _, k3⟩ | ⟨_, _, m, hm⟩
        · have := h2.unique k3; omega
        · exact ⟨m, hm⟩
      refine ⟨fun k v => ?_, fun k m => ?_, fun k => ?_, h.nd, h.ky⟩
      · rw [h.aw]
        constructor
        · rintro (h1 | ⟨h1, h2, m, h3⟩)
          · exact .inl h1
          · exact .inr ⟨h1, h2, m, .inl h3⟩
        · rintro (h1 | ⟨h1, h2, m, h3 | ⟨_, h3⟩⟩)
          · exact .inl h1
          · exact .inr ⟨h1, h2, m, h3⟩
          · subst h3; exact .inr ⟨h1, h2, hold h2⟩
      · rw [h.fr]
        constructor
        · rintro (h1 | ⟨h1, h2⟩)
          · exact .inl h1
          · exact .inr ⟨h1, .inl h2⟩
        · rintro (h1 | ⟨h1, h2 | ⟨h2, h3⟩⟩)
          · exact .inl h1
          · exact .inr ⟨h1, h2⟩
          · subst h2; subst h3
            obtain ⟨m', hm'⟩ := hold h1.1
            obtain ⟨q1, q2, q3⟩ := hP _ _ hm'
            have := h1.2.2.2 m' q1 q3
            obtain rfl : m' = m := by omega
            exact .inr ⟨h1, hm'⟩
      · rw [h.nx]
        constructor
        · rintro ⟨h1, m, h2⟩; exact ⟨h1, m, .inl h2⟩
        · rintro ⟨h1, m, h2 | ⟨_, h3⟩⟩
          · exact ⟨h1, m, h2⟩
          · subst h3; exact ⟨h1, hold h1⟩
    | none =>
      simp only
      rw [hnw]
      have hne : ∀ v, lkz (n + b) s.away ≠ some v := fun v k => by rw [hl] at k; cases k
      have hnd : ∀ e', e' ≤ d → ¬ Ds lo hi f (n + b) e' := fun e' k1 k2 => hne e' ((h.aw _ _).2 (.inl ⟨e', k1, rfl, k2⟩))
      obtain rfl : e = d + 1 := by
        by_cases k : e ≤ d
        · exact absurd hde (hnd e k)
        · omega
      have hnp : ∀ m, ¬ P m (n + b) := fun m k => hne _ ((h.aw _ _).2 (.inr ⟨rfl, hde, m, k⟩))
      have hfr : IsFr lo hi f (n + b) n d := ⟨hde, hn, hbk, fun m' k1 k2 => by
        by_cases q : m' < n
        · exact absurd (hlt m' _ k1 q k2) (hnp m')
        · omega⟩
      have hfn : lkz (n + b) s.frm = none := by
        cases hq : lkz (n + b) s.frm with
        | none => rfl
        | some m =>
          rcases (h.fr _ _).1 hq with ⟨e', k1, k2⟩ | ⟨_, k2⟩
          · exact absurd k2.1 (hnd _ (by omega))
          · exact absurd k2 (hnp m)
      refine ⟨fun k v => ?_, fun k m => ?_, fun k => ?_, ?_, ?_⟩
      · by_cases hk : k = n + b
        · subst hk
          rw [lkz_snoc_eq (p := (n + b, (some (d : Int)).getD 0 + 1)) hl, Option.getD_some]
          constructor
          · intro q
            cases q
            exact .inr ⟨by omega, hde, n, .inr ⟨rfl, rfl⟩⟩
          · rintro (⟨e', k1, _, k3⟩ | ⟨k1, _⟩)
            · exact absurd k3 (hnd _ k1)
            · rw [k1]; congr 1
        · rw [lkz_snoc_ne hk, h.aw]
          constructor
          · rintro (h1 | ⟨h1, h2, m, h3⟩)
            · exact .inl h1
            · exact .inr ⟨h1, h2, m, .inl h3⟩
          · rintro (h1 | ⟨h1, h2, m, h3 | ⟨_, h3⟩⟩)
            · exact .inl h1
            · exact .inr ⟨h1, h2, m, h3⟩
            · exact absurd h3 hk
      · by_cases hk : k = n + b
        · subst hk
          rw [lkz_snoc_eq (p := (n + b, n)) hfn]
          constructor
          · intro q
            cases q
            exact .inr ⟨hfr, .inr ⟨rfl, rfl⟩⟩
          · rintro (⟨e', k1, k2⟩ | ⟨k1, _⟩)
            · exact absurd k2.1 (hnd _ (by omega))
            · rw [(hfr.unique k1).1]
        · rw [lkz_snoc_ne hk, h.fr]
          constructor
          · rintro (h1 | ⟨h1, h2⟩)
            · exact .inl h1
            · exact .inr ⟨h1, .inl h2⟩
          · rintro (h1 | ⟨h1, h2 | ⟨_, h3⟩⟩)
            · exact .inl h1
            · exact .inr ⟨h1, h2⟩
            · exact absurd h3 hk
      · rw [List.mem_append, h.nx, List.mem_singleton]
        constructor
        · rintro (⟨h1, m, h2⟩ | h1)
          · exact ⟨h1, m, .inl h2⟩
          · subst h1; exact ⟨hde, n, .inr ⟨rfl, rfl⟩⟩
        · rintro ⟨h1, m, h2 | ⟨_, h3⟩⟩
          · exact .inl ⟨h1, m, h2⟩
          · exact .inr h3
      · rw [List.nodup_append]
        refine ⟨h.nd, by simp, fun a ha b' hb' e' => ?_⟩
        rw [List.mem_singleton] at hb'
        subst hb'; subst e'
        obtain ⟨_, m, hm⟩ := (h.nx _).1 ha
        exact hnp m hm
      · rw [List.map_append, List.nodup_append]
        refine ⟨h.ky, by simp, fun a ha b' hb' e' => ?_⟩
        simp only [List.map_cons, List.map_nil, List.mem_singleton] at hb'
        subst hb'; subst e'
        exact (lkz_none.1 hl) ha
end

end Go.Proofs.YtfickhncbahekaaDoor
