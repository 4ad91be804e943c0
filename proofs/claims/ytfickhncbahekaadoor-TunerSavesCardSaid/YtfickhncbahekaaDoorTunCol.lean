/- The needed notes collected layer by layer, in plain numbers. No function of the program is named in this text. Conditions: those that each lemma names. -/
import Derived.Test.YtfickhncbahekaaDoorTunAway
namespace Go.Proofs.YtfickhncbahekaaDoor
open Go.RowKit

/-- The planned steps, by their members and their order. -/
theorem PlInv.planned2 {lo hi f : Int} {l : List Int} {L L' : List (Int × Int)} (h : PlInv lo hi f l l none L) (hp : ∀ x, x ∈ L' ↔ x ∈ L) (hs : L'.Pairwise (StepLt lo hi f)) : Planned lo hi f l L' where
  fr := fun x hx => h.fr x ((hp x).1 hx)
  mem := fun n => by
    have hm : n ∈ L'.map (·.2) ↔ n ∈ L.map (·.2) := by
      simp only [List.mem_map]
      exact ⟨fun ⟨x, h1, h2⟩ => ⟨x, (hp x).1 h1, h2⟩, fun ⟨x, h1, h2⟩ => ⟨x, (hp x).2 h1, h2⟩⟩
    rw [hm]
    constructor
    · intro hn
      obtain ⟨x, hx, rfl⟩ := List.mem_map.1 hn
      exact h.nd x hx
    · intro hn
      clear hm
      induction hn with
      | base h1 h2 =>
        rcases h.al _ h1 with e | e | e
        · exact absurd e h2
        · exact e
        · cases e
      | step h1 h2 h3 ih =>
        obtain ⟨x, hx, e⟩ := List.mem_map.1 ih
        obtain ⟨d, hd⟩ := h.fr x hx
        rw [e] at hd
        have hxm := (hd.unique h2).1
        rcases h.cl x hx with q | q | q
        · rw [hxm] at q; exact absurd q h3
        · rw [hxm] at q; exact q
        · cases q
  srt := hs
/-- What is collected so far: the layers below k, and of layer k the notes below n. -/
structure Col (lo hi f : Int) (D : List Int) (L R : List (Int × Int)) (k n : Int) : Prop where
  pw : R.Pairwise (StepLt lo hi f)
  lt : ∀ x ∈ R, x ∈ L ∧ (dz D x.2 < k ∨ (dz D x.2 = k ∧ x.2 < n))
  al : ∀ x ∈ L, (dz D x.2 < k ∨ (dz D x.2 = k ∧ x.2 < n)) → x ∈ R
/-- The steps of L are known to lead away from the first note. -/
structure Lok (lo hi f : Int) (D : List Int) (L : List (Int × Int)) : Prop where
  fr : ∀ x ∈ L, ∃ d, IsFr lo hi f x.2 x.1 d
  dz : ∀ x ∈ L, ∃ d : Nat, dz D x.2 = ((d + 1 : Nat) : Int) ∧ Ds lo hi f x.2 (d + 1)
  rg : ∀ x ∈ L, lo ≤ x.2 ∧ x.2 ≤ hi
section
variable {lo hi f : Int} {D : List Int} {L R : List (Int × Int)} {k n : Int}
theorem Lok.of (h0 : 0 ≤ lo) (h1 : hi ≤ 127) (hf : lo ≤ f ∧ f ≤ hi) (ha : Awd lo hi f D) (h : ∀ x ∈ L, ∃ d, IsFr lo hi f x.2 x.1 d) : Lok lo hi f D L where
  fr := h
  dz := fun x hx => by
    obtain ⟨d, hd⟩ := h x hx
    have := hd.1.1.range hf
    exact ⟨d, (ha.aw x.2 (d + 1) (by unfold isN; omega)).2 hd.1, hd.1⟩
  rg := fun x hx => by
    obtain ⟨d, hd⟩ := h x hx
    exact hd.1.1.range hf
theorem Col.start (h : Lok lo hi f D L) : Col lo hi f D L [] 1 lo where
  pw := .nil
  lt := fun _ hx => absurd hx List.not_mem_nil
  al := fun x hx hd => by
    obtain ⟨d, e, _⟩ := h.dz x hx
    have := h.rg x hx
    omega
theorem Col.skip (h : Col lo hi f D L R k n) (hn : ¬ (n ∈ L.map (·.2) ∧ dz D n = k)) : Col lo hi f D L R k (n + 1) where
  pw := h.pw
  lt := fun x hx => by
    have := h.lt x hx
    exact ⟨this.1, by omega⟩
  al := fun x hx hd => by
    refine h.al x hx ?_
    rcases hd with hd | ⟨hd, he⟩
    · exact .inl hd
    · by_cases q : x.2 = n
      · exact absurd ⟨by rw [← q]; exact List.mem_map_of_mem hx, by rw [← q]; exact hd⟩ hn
      · exact .inr ⟨hd, by omega⟩
theorem Col.take (hL : Lok lo hi f D L) (hu : ∀ x ∈ L, ∀ y ∈ L, x.2 = y.2 → x = y) (h : Col lo hi f D L R k n) {m : Int} (hm : (m, n) ∈ L) (hd : dz D n = k) : Col lo hi f D L (R ++ [(m, n)]) k (n + 1) where
  pw := by
    rw [List.pairwise_append]
    refine ⟨h.pw, List.pairwise_singleton _ _, fun x hx y hy => ?_⟩
    rw [List.mem_singleton] at hy
    subst hy
    intro dx dy h1 h2
    obtain ⟨hx1, hx2⟩ := h.lt x hx
    obtain ⟨ex, e1, e2⟩ := hL.dz x hx1
    obtain ⟨ey, e3, e4⟩ := hL.dz _ hm
    have q1 := h1.unique e2
    have q2 := h2.unique e4
    dsimp only at e3 ⊢
    omega
  lt := fun x hx => by
    rcases List.mem_append.1 hx with hx | hx
    · have := h.lt x hx
      exact ⟨this.1, by omega⟩
    · rw [List.mem_singleton] at hx
      subst hx
      exact ⟨hm, .inr ⟨hd, by dsimp only; omega⟩⟩
  al := fun x hx hq => by
    rw [List.mem_append]
    by_cases q : x.2 = n
    · right
      rw [List.mem_singleton]
      exact hu x hx _ hm q
    · left
      refine h.al x hx ?_
      omega
theorem Col.row (hL : Lok lo hi f D L) (h : Col lo hi f D L R k (hi + 1)) : Col lo hi f D L R (k + 1) lo where
  pw := h.pw
  lt := fun x hx => by
    have := h.lt x hx
    exact ⟨this.1, by omega⟩
  al := fun x hx hq => by
    have := hL.rg x hx
    exact h.al x hx (by omega)
theorem Col.done (h : Col lo hi f D L R k lo) (hm : ∀ x ∈ L, dz D x.2 < k) : ∀ x, x ∈ R ↔ x ∈ L := fun x => ⟨fun hx => (h.lt x hx).1, fun hx => h.al x hx (.inl (hm x hx))⟩
end
end Go.Proofs.YtfickhncbahekaaDoor
