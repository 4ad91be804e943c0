/- Which notes a planned order has, and in which order, in plain numbers. No function of the program is named in this text. Conditions: those that each lemma names. -/
import Derived.Test.YtfickhncbahekaaDoorTunBfs2
namespace Go.Proofs.YtfickhncbahekaaDoor
open Go.RowKit

/-- Every note but the first has a note before it. -/
theorem Ds.has_fr {lo hi f n : Int} {d : Nat} (h : Ds lo hi f n (d + 1)) : ∃ m, IsFr lo hi f n m d := by
  have hall : ∀ (k : Nat) (m : Int), Ds lo hi f m d → n - m ∈ bys → m ≤ n - 12 + k → ∃ m, IsFr lo hi f n m d := by
    intro k
    induction k with
    | zero =>
      intro m h1 h2 h3
      refine ⟨m, h, h1, h2, fun m' _ h5 => ?_⟩
      have : n - m' ≤ 12 := by
        simp only [bys, List.mem_cons, List.not_mem_nil, or_false] at h5
        omega
      omega
    | succ k ih =>
      intro m h1 h2 h3
      by_cases hx : ∃ m', Ds lo hi f m' d ∧ n - m' ∈ bys ∧ m' < m
      · obtain ⟨m', q1, q2, q3⟩ := hx
        exact ih m' q1 q2 (by omega)
      · exact ⟨m, h, h1, h2, fun m' q1 q2 => by
          by_cases q : m' < m
          · exact absurd ⟨m', q1, q2, q⟩ hx
          · omega⟩
  obtain ⟨m, h1, h2, _, _⟩ := h.pred
  have : -12 ≤ n - m := by
    simp only [bys, List.mem_cons, List.not_mem_nil, or_false] at h2
    omega
  exact hall 24 m h1 h2 (by omega)

/-- A note is needed for some others. -/
inductive Need (lo hi f : Int) (l : List Int) : Int → Prop
  | base {n : Int} : n ∈ l → n ≠ f → Need lo hi f l n
  | step {n m : Int} {d : Nat} : Need lo hi f l n → IsFr lo hi f n m d → m ≠ f → Need lo hi f l m
/-- What the loops of Plan keep: the steps so far, the members so far, the note that is looked at. -/
structure PlInv (lo hi f : Int) (l pre : List Int) (cur : Option Int) (L : List (Int × Int)) : Prop where
  fr : ∀ x ∈ L, ∃ d, IsFr lo hi f x.2 x.1 d
  nd : ∀ x ∈ L, Need lo hi f l x.2
  un : (L.map (·.2)).Nodup
  nf : f ∉ L.map (·.2)
  cl : ∀ x ∈ L, x.1 = f ∨ x.1 ∈ L.map (·.2) ∨ cur = some x.1
  al : ∀ n ∈ pre, n = f ∨ n ∈ L.map (·.2) ∨ cur = some n
  cu : ∀ n, cur = some n → (∃ d, Ds lo hi f n d) ∧ (n = f ∨ Need lo hi f l n)
section
variable {lo hi f : Int} {l pre : List Int} {cur : Option Int} {L : List (Int × Int)}
theorem PlInv.start : PlInv lo hi f l [] none [] := ⟨by simp, by simp, by simp, by simp, by simp, by simp, by simp⟩
/-- The next member. -/
theorem PlInv.take (h : PlInv lo hi f l pre none L) {n : Int} (hn : n ∈ l) {d : Nat} (hd : Ds lo hi f n d) : PlInv lo hi f l (pre ++ [n]) (some n) L where
  fr := h.fr
  nd := h.nd
  un := h.un
  nf := h.nf
  cl := fun x hx => by rcases h.cl x hx with e | e | e; exact .inl e; exact .inr (.inl e); cases e
  al := fun m hm => by
    rcases List.mem_append.1 hm with hm | hm
    · rcases h.al m hm with e | e | e; exact .inl e; exact .inr (.inl e); cases e
    · rw [List.mem_singleton] at hm; rw [hm]; exact .inr (.inr rfl)
  cu := fun m e => by
    cases e
    refine ⟨⟨d, hd⟩, ?_⟩
    by_cases q : n = f
    · exact .inl q
    · exact .inr (.base hn q)
/-- It is needed already. -/
theorem PlInv.stop {n : Int} (h : PlInv lo hi f l pre (some n) L) (hn : n = f ∨ n ∈ L.map (·.2)) : PlInv lo hi f l pre none L where
  fr := h.fr
  nd := h.nd
  un := h.un
  nf := h.nf
  cl := fun x hx => by
    rcases h.cl x hx with e | e | e
    · exact .inl e
    · exact .inr (.inl e)
    · cases e; rcases hn with q | q; exact .inl q; exact .inr (.inl q)
  al := fun m hm => by
    rcases h.al m hm with e | e | e
    · exact .inl e
    · exact .inr (.inl e)
    · cases e; rcases hn with q | q; exact .inl q; exact .inr (.inl q)
  cu := fun _ e => by cases e
/-- A step is added. -/
theorem PlInv.add {n m : Int} {d : Nat} (h : PlInv lo hi f l pre (some n) L) (h1 : n ≠ f) (h2 : n ∉ L.map (·.2)) (hf : IsFr lo hi f n m d) : PlInv lo hi f l pre (some m) (L ++ [(m, n)]) where
  fr := fun x hx => by
    rcases List.mem_append.1 hx with hx | hx
    · exact h.fr x hx
    · rw [List.mem_singleton] at hx; rw [hx]; exact ⟨d, hf⟩
  nd := fun x hx => by
    rcases List.mem_append.1 hx with hx | hx
    · exact h.nd x hx
    · rw [List.mem_singleton] at hx; rw [hx]
      exact ((h.cu n rfl).2).resolve_left h1
  un := by
    rw [List.map_append, List.nodup_append]
    refine ⟨h.un, by simp, fun a ha b hb e => ?_⟩
    simp only [List.map_cons, List.map_nil, List.mem_singleton] at hb
    subst hb; subst e; exact h2 ha
  nf := by
    rw [List.map_append, List.mem_append]
    rintro (e | e)
    · exact h.nf e
    · simp only [List.map_cons, List.map_nil, List.mem_singleton] at e
      exact h1 e.symm
  cl := fun x hx => by
    rw [List.map_append]
    rcases List.mem_append.1 hx with hx | hx
    · rcases h.cl x hx with e | e | e
      · exact .inl e
      · exact .inr (.inl (List.mem_append_left _ e))
      · cases e; exact .inr (.inl (List.mem_append_right _ (by simp)))
    · rw [List.mem_singleton] at hx; rw [hx]; exact .inr (.inr rfl)
  al := fun x hx => by
    rw [List.map_append]
    rcases h.al x hx with e | e | e
    · exact .inl e
    · exact .inr (.inl (List.mem_append_left _ e))
    · cases e; exact .inr (.inl (List.mem_append_right _ (by simp)))
  cu := fun x e => by
    cases e
    refine ⟨⟨d, hf.2.1⟩, ?_⟩
    by_cases q : m = f
    · exact .inl q
    · exact .inr (.step (((h.cu n rfl).2).resolve_left h1) hf q)
theorem PlInv.len (h0 : 0 ≤ lo) (h1 : hi ≤ 127) (hf : lo ≤ f ∧ f ≤ hi) (h : PlInv lo hi f l pre cur L) : L.length ≤ 128 := by
  have := nodup_len 128 (L.map (·.2)) h.un (fun x hx => by
    obtain ⟨y, hy, rfl⟩ := List.mem_map.1 hx
    obtain ⟨d, hd⟩ := h.fr y hy
    have := hd.1.1.range hf
    omega)
  rwa [List.length_map] at this
end
/-- One step comes before another one. -/
def StepLt (lo hi f : Int) (x y : Int × Int) : Prop := ∀ dx dy, Ds lo hi f x.2 dx → Ds lo hi f y.2 dy → dx < dy ∨ (dx = dy ∧ x.2 < y.2)
/-- The planned steps. -/
structure Planned (lo hi f : Int) (l : List Int) (L : List (Int × Int)) : Prop where
  fr : ∀ x ∈ L, ∃ d, IsFr lo hi f x.2 x.1 d
  mem : ∀ n, n ∈ L.map (·.2) ↔ Need lo hi f l n
  srt : L.Pairwise (StepLt lo hi f)
theorem PlInv.planned {lo hi f : Int} {l : List Int} {L L' : List (Int × Int)} (h : PlInv lo hi f l l none L) (hp : L'.Perm L)
    (hs : L'.Pairwise fun x y => ∀ dx dy, Ds lo hi f x.2 dx → Ds lo hi f y.2 dy → ¬ (dy < dx ∨ (dy = dx ∧ y.2 < x.2))) : Planned lo hi f l L' where
  fr := fun x hx => h.fr x (hp.subset hx)
  mem := fun n => by
    have hm : n ∈ L'.map (·.2) ↔ n ∈ L.map (·.2) := (hp.map _).mem_iff
    rw [hm]
    constructor
    · intro hn
      obtain ⟨x, hx, rfl⟩ := List.mem_map.1 hn
      exact h.nd x hx
    · intro hn
      induction hn with
      | base h1 h2 =>
        rcases h.al _ h1 with e | e | e
        · exact absurd e h2
        · exact e
        · cases e
      | step h1 h2 h3 ih =>
        obtain ⟨x, hx, e⟩ := List.mem_map.1 (ih ((hp.map _).mem_iff))
        obtain ⟨d, hd⟩ := h.fr x hx
        rw [e] at hd
        have hxm := (hd.unique h2).1
        rcases h.cl x hx with q | q | q
        · rw [hxm] at q; exact absurd q h3
        · rw [hxm] at q; exact q
        · cases q
  srt := by
    have hun : (L'.map (·.2)).Nodup := (hp.map _).nodup_iff.2 h.un
    rw [List.nodup_iff_pairwise_ne, List.pairwise_map] at hun
    exact (List.pairwise_and_iff.2 ⟨hs, hun⟩).imp (fun ⟨a, b⟩ dx dy h1 h2 => by
      have := a dx dy h1 h2
      omega)
/-- There is one list of planned steps. -/
theorem Planned.unique {lo hi f : Int} {l : List Int} : ∀ {L L' : List (Int × Int)}, (∀ x, x ∈ L ↔ x ∈ L') → L.Pairwise (StepLt lo hi f) → L'.Pairwise (StepLt lo hi f) → (∀ x ∈ L, ∃ d, IsFr lo hi f x.2 x.1 d) → L = L'
  | [], L', hm, _, _, _ => by
    cases L' with
    | nil => rfl
    | cons y r => exact absurd ((hm y).2 (List.mem_cons_self ..)) (by simp)
  | x :: r, [], hm, _, _, _ => absurd ((hm x).1 (List.mem_cons_self ..)) (by simp)
  | x :: r, y :: r', hm, h1, h2, hf => by
    have hlt : ∀ a b : Int × Int, (∃ d, IsFr lo hi f a.2 a.1 d) → (∃ d, IsFr lo hi f b.2 b.1 d) → StepLt lo hi f a b → ¬ StepLt lo hi f b a := fun a b ⟨d, hd⟩ ⟨e, he⟩ k1 k2 => by
      have := k1 _ _ hd.1 he.1
      have := k2 _ _ he.1 hd.1
      omega
    have hf' : ∀ z ∈ y :: r', ∃ d, IsFr lo hi f z.2 z.1 d := fun z hz => hf z ((hm z).2 hz)
    rw [List.pairwise_cons] at h1 h2
    have hxy : x = y := by
      rcases List.mem_cons.1 ((hm x).1 (List.mem_cons_self ..)) with e | e
      · exact e
      · rcases List.mem_cons.1 ((hm y).2 (List.mem_cons_self ..)) with e2 | e2
        · exact e2.symm
        · exact absurd (h1.1 y e2) (hlt y x (hf' y (List.mem_cons_self ..)) (hf x (List.mem_cons_self ..)) (h2.1 x e))
    subst hxy
    congr 1
    refine Planned.unique (l := l) (fun z => ?_) h1.2 h2.2 (fun z hz => hf z (List.mem_cons_of_mem _ hz))
    have hirr : ∀ z, StepLt lo hi f x z → z ≠ x := fun z hz e => by
      subst e
      exact hlt z z (hf z (List.mem_cons_self ..)) (hf z (List.mem_cons_self ..)) hz hz
    constructor
    · intro hz
      rcases List.mem_cons.1 ((hm z).1 (List.mem_cons_of_mem _ hz)) with e | e
      · exact absurd e (hirr z (h1.1 z hz))
      · exact e
    · intro hz
      rcases List.mem_cons.1 ((hm z).2 (List.mem_cons_of_mem _ hz)) with e | e
      · exact absurd e (hirr z (h2.1 z hz))
      · exact e
/-- Membership among the planned steps. -/
theorem Planned.iff {lo hi f : Int} {l : List Int} {L L' : List (Int × Int)} (h : Planned lo hi f l L) (h' : Planned lo hi f l L') (x : Int × Int) (hx : x ∈ L) : x ∈ L' := by
  have h1 : x.2 ∈ L'.map (·.2) := (h'.mem _).2 ((h.mem _).1 (List.mem_map_of_mem hx))
  obtain ⟨y, hy, e⟩ := List.mem_map.1 h1
  obtain ⟨d, hd⟩ := h.fr x hx
  obtain ⟨d', hd'⟩ := h'.fr y hy
  rw [e] at hd'
  have : x = y := Prod.ext (hd.unique hd').1 e.symm
  rw [this]; exact hy
theorem Planned.same {lo hi f : Int} {l : List Int} {L L' : List (Int × Int)} (h : Planned lo hi f l L) (h' : Planned lo hi f l L') : L = L' :=
  Planned.unique (l := l) (fun x => ⟨h.iff h' x, h'.iff h x⟩) h.srt h'.srt h.fr

end Go.Proofs.YtfickhncbahekaaDoor
