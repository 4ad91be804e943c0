/- The search's end, in plain numbers: how many notes there are, and what is known when a layer is empty; a list sorted. No function of the program is named in this text. Conditions: those that each lemma names. -/
import Derived.Test.YtfickhncbahekaaDoorTunBfs
namespace Go.Proofs.YtfickhncbahekaaDoor
open Go.RowKit

theorem nodup_len : ∀ (n : Nat) (l : List Int), l.Nodup → (∀ x ∈ l, 0 ≤ x ∧ x < n) → l.length ≤ n
  | 0, l, _, h => by
    cases l with
    | nil => exact Nat.le_refl _
    | cons x l => have := h x (List.mem_cons_self ..); omega
  | n + 1, l, hd, h => by
    by_cases hm : (n : Int) ∈ l
    · have h1 := nodup_len n (l.erase (n : Int)) (hd.erase _) (fun x hx => by
        have h2 := h x (List.mem_of_mem_erase hx)
        have h3 : x ≠ (n : Int) := ((hd.mem_erase_iff).1 hx).1
        omega)
      rw [List.length_erase_of_mem hm] at h1
      omega
    · have h1 := nodup_len n l hd (fun x hx => by
        have h2 := h x hx
        have h3 : x ≠ (n : Int) := fun e => hm (by rw [← e]; exact hx)
        omega)
      omega
theorem Ds.path {lo hi f : Int} : ∀ (d : Nat) (k : Int), Ds lo hi f k d → ∃ l : List Int, l.length = d + 1 ∧ l.Nodup ∧ ∀ x ∈ l, ∃ e, e ≤ d ∧ Ds lo hi f x e
  | 0, k, h => ⟨[k], rfl, by simp, fun x hx => by rw [List.mem_singleton] at hx; rw [hx]; exact ⟨0, Nat.le_refl _, h⟩⟩
  | d + 1, k, h => by
    obtain ⟨m, hm, _⟩ := h.pred
    obtain ⟨l, h1, h2, h3⟩ := Ds.path d m hm
    refine ⟨k :: l, by rw [List.length_cons, h1], ?_, ?_⟩
    · rw [List.nodup_cons]
      refine ⟨fun hk => ?_, h2⟩
      obtain ⟨e, he, hd⟩ := h3 k hk
      have := hd.unique h
      omega
    · intro x hx
      rcases List.mem_cons.1 hx with rfl | hx
      · exact ⟨d + 1, Nat.le_refl _, h⟩
      · obtain ⟨e, he, hd⟩ := h3 x hx
        exact ⟨e, by omega, hd⟩
theorem Ds.le {lo hi f k : Int} {d : Nat} (hf : lo ≤ f ∧ f ≤ hi) (h0 : 0 ≤ lo) (h1 : hi ≤ 127) (h : Ds lo hi f k d) : d ≤ 127 := by
  obtain ⟨l, hl, hn, hx⟩ := Ds.path d k h
  have := nodup_len 128 l hn (fun x hm => by
    obtain ⟨e, _, he⟩ := hx x hm
    have := he.1.range hf
    omega)
  omega
theorem relax_len (lo hi n : Int) (s : Se) (b : Int) {k : Nat} (h : s.away.length = k + s.next.length) : (relax lo hi n s b).away.length = k + (relax lo hi n s b).next.length := by
  unfold relax
  split
  · exact h
  · cases lkz (n + b) s.away with
    | some v => exact h
    | none => simp only [List.length_append, List.length_cons, List.length_nil]; omega

section
variable {lo hi f : Int}
theorem PInv.lens {d : Nat} {P : Int → Int → Prop} {s : Se} (hf : lo ≤ f ∧ f ≤ hi) (h0 : 0 ≤ lo) (h1 : hi ≤ 127) (h : PInv lo hi f d P s) : s.away.length ≤ 128 ∧ s.next.length ≤ 128 := by
  constructor
  · have := nodup_len 128 (s.away.map (·.1)) h.ky (fun k hk => by
      cases hl : lkz k s.away with
      | none => exact absurd hk (lkz_none.1 hl)
      | some v =>
        rcases (h.aw k v).1 hl with ⟨e, _, _, he⟩ | ⟨_, he, _⟩
        · have := he.1.range hf; omega
        · have := he.1.range hf; omega)
    rwa [List.length_map] at this
  · exact nodup_len 128 s.next h.nd (fun k hk => by have := ((h.nx k).1 hk).1.1.range hf; omega)
theorem LInv.lens {d : Nat} {s : Se} {layer : List Int} (hf : lo ≤ f ∧ f ≤ hi) (h0 : 0 ≤ lo) (h1 : hi ≤ 127) (h : LInv lo hi f d s layer) : s.away.length ≤ 128 ∧ layer.length ≤ 128 := by
  constructor
  · exact (h.start.lens hf h0 h1).1
  · exact nodup_len 128 layer h.nd (fun k hk => by have := ((h.ly k).1 hk).1.range hf; omega)
/-- What a search knows at its end. -/
structure Bfs (lo hi f : Int) (s : Se) : Prop where
  aw : ∀ k v, lkz k s.away = some v ↔ ∃ e : Nat, v = e ∧ Ds lo hi f k e
  fr : ∀ k m, lkz k s.frm = some m ↔ ∃ e, IsFr lo hi f k m e
theorem LInv.end_ {d : Nat} {s : Se} (h : LInv lo hi f d s []) : Bfs lo hi f s := by
  have hno : ∀ e, d ≤ e → ∀ k, ¬ Ds lo hi f k e := by
    intro e
    induction e with
    | zero =>
      intro he k hk
      have := (h.ly k).2 (by rw [show d = 0 by omega]; exact hk)
      cases this
    | succ e ih =>
      intro he k hk
      by_cases q : d = e + 1
      · have := (h.ly k).2 (by rw [q]; exact hk)
        cases this
      · obtain ⟨m, hm, _⟩ := hk.pred
        exact ih (by omega) m hm
  constructor
  · intro k v
    rw [h.aw]
    constructor
    · rintro ⟨e, _, h2, h3⟩; exact ⟨e, h2, h3⟩
    · rintro ⟨e, h2, h3⟩
      refine ⟨e, ?_, h2, h3⟩
      rcases Nat.lt_or_ge e d with q | q
      · omega
      · exact absurd h3 (hno e q k)
  · intro k m
    rw [h.fr]
    constructor
    · rintro ⟨e, _, h2⟩; exact ⟨e, h2⟩
    · rintro ⟨e, h2⟩
      refine ⟨e, ?_, h2⟩
      rcases Nat.lt_or_ge e d with q | q
      · exact q
      · exact absurd h2.2.1 (hno e q m)
theorem LInv.perm {d : Nat} {s : Se} {l l' : List Int} (h : LInv lo hi f d s l) (hp : l'.Perm l) : LInv lo hi f d s l' :=
  ⟨h.aw, h.fr, fun k => by rw [hp.mem_iff]; exact h.ly k, hp.nodup_iff.2 h.nd, h.ky⟩
end

/-- A list of ints in order. -/
def srt (l : List Int) : List Int := l.mergeSort fun x y => decide (x ≤ y)
theorem srt_perm (l : List Int) : (srt l).Perm l := List.mergeSort_perm _ _
theorem srt_le (l : List Int) : (srt l).Pairwise (· ≤ ·) := by
  have := List.pairwise_mergeSort (le := fun x y : Int => decide (x ≤ y)) (fun a b c h1 h2 => by simp only [decide_eq_true_eq] at *; omega) (fun a b => by simp only [Bool.or_eq_true, decide_eq_true_eq]; omega) l
  exact this.imp (fun h => by simpa using h)
theorem srt_lt {l : List Int} (h : l.Nodup) : (srt l).Pairwise (· < ·) := by
  have h1 := srt_le l
  have h2 : (srt l).Pairwise (· ≠ ·) := (srt_perm l).nodup_iff.2 h
  exact (List.pairwise_and_iff.2 ⟨h1, h2⟩).imp (fun ⟨a, b⟩ => by omega)
/-- The pairs that have been looked at: all of some notes, and some of one more. -/
def lookP (pre : List Int) (n : Int) (bp : List Int) (m k : Int) : Prop := (m ∈ pre ∧ k - m ∈ bys) ∨ (m = n ∧ k - n ∈ bp)
theorem lookP_nil (n m k : Int) : lookP [] n [] m k ↔ False := by unfold lookP; simp
theorem lookP_next (pre : List Int) (n n' : Int) (m k : Int) : lookP pre n bys m k ↔ lookP (pre ++ [n]) n' [] m k := by
  unfold lookP
  simp only [List.mem_append, List.mem_singleton, List.not_mem_nil, and_false, or_false]
  constructor
  · rintro (h | ⟨h1, h2⟩)
    · exact ⟨.inl h.1, h.2⟩
    · subst h1; exact ⟨.inr rfl, h2⟩
  · rintro ⟨h1 | h1, h2⟩
    · exact .inl ⟨h1, h2⟩
    · subst h1; exact .inr ⟨rfl, h2⟩
theorem lookP_step (pre : List Int) (n : Int) (bp : List Int) (b m k : Int) : (lookP pre n bp m k ∨ (m = n ∧ k = n + b)) ↔ lookP pre n (bp ++ [b]) m k := by
  unfold lookP
  simp only [List.mem_append, List.mem_singleton]
  constructor
  · rintro ((h | ⟨h1, h2⟩) | ⟨h1, h2⟩)
    · exact .inl h
    · exact .inr ⟨h1, .inl h2⟩
    · exact .inr ⟨h1, .inr (by omega)⟩
  · rintro (h | ⟨h1, h2 | h2⟩)
    · exact .inl (.inl h)
    · exact .inl (.inr ⟨h1, h2⟩)
    · exact .inr ⟨h1, by omega⟩
/-- One step of the search, in the order in which the program goes. -/
theorem PInv.one {lo hi f : Int} {d : Nat} {s : Se} (hf : lo ≤ f ∧ f ≤ hi) {ls : List Int} (hs : ls.Pairwise (· < ·)) (hl : ∀ k, k ∈ ls ↔ Ds lo hi f k d) {i j : Nat} (hi' : i < ls.length) (hj : j < 6)
    (h : PInv lo hi f d (lookP (ls.take i) (ls.getD i 0) (bys.take j)) s) : PInv lo hi f d (lookP (ls.take i) (ls.getD i 0) (bys.take (j + 1))) (relax lo hi (ls.getD i 0) s (bys.getD j 0)) := by
  have hget : ls.getD i 0 = ls[i] := by simp [hi']
  have hbl : bys.length = 6 := rfl
  have hbt : bys.take (j + 1) = bys.take j ++ [bys.getD j 0] := by
    rw [List.take_succ_eq_append_getElem (by omega)]
    simp [show j < bys.length by omega]
  have hbm : bys.getD j 0 ∈ bys := by
    have : bys.getD j 0 = bys[j]'(by omega) := by simp [show j < bys.length by omega]
    rw [this]; exact List.getElem_mem _
  rw [hbt]
  refine (PInv.step hf h (n := ls.getD i 0) (b := bys.getD j 0) ?_ hbm ?_ ?_).congr (fun m k => lookP_step _ _ _ _ m k)
  · rw [hget]; exact (hl _).1 (List.getElem_mem _)
  · intro m k hm hlt hb
    left
    refine ⟨?_, hb⟩
    obtain ⟨q, hq, rfl⟩ := List.getElem_of_mem ((hl m).2 hm)
    rw [hget] at hlt
    have hqi : q < i := by
      rcases Nat.lt_trichotomy q i with h1 | h1 | h1
      · exact h1
      · subst h1; omega
      · have := List.pairwise_iff_getElem.1 hs i q hi' hq h1; omega
    rw [List.mem_iff_getElem]
    exact ⟨q, by rw [List.length_take]; omega, by simp⟩
  · rintro m k (⟨h1, h2⟩ | ⟨h1, h2⟩)
    · obtain ⟨q, hq, e⟩ := List.getElem_of_mem h1
      rw [List.length_take] at hq
      rw [List.getElem_take] at e
      subst e
      refine ⟨(hl _).1 (List.getElem_mem _), ?_, h2⟩
      have := List.pairwise_iff_getElem.1 hs q i (by omega) hi' (by omega)
      rw [hget]; omega
    · subst h1
      refine ⟨by rw [hget]; exact (hl _).1 (List.getElem_mem _), Int.le_refl _, ?_⟩
      exact List.mem_of_mem_take h2
theorem PInv.row {lo hi f : Int} {d : Nat} {s : Se} {ls : List Int} {i : Nat} (hi' : i < ls.length) (n' : Int)
    (h : PInv lo hi f d (lookP (ls.take i) (ls.getD i 0) (bys.take 6)) s) : PInv lo hi f d (lookP (ls.take (i + 1)) n' []) s := by
  have hget : ls.getD i 0 = ls[i] := by simp [hi']
  rw [List.take_succ_eq_append_getElem hi', ← hget]
  exact h.congr (fun m k => by rw [show bys.take 6 = bys from rfl]; exact lookP_next _ _ _ m k)
theorem PInv.all {lo hi f : Int} {d : Nat} {s : Se} {ls : List Int} (hl : ∀ k, k ∈ ls ↔ Ds lo hi f k d) {n' : Int} (h : PInv lo hi f d (lookP (ls.take ls.length) n' []) s) : LInv lo hi f (d + 1) s s.next := by
  refine h.done (fun m k hm hb => ?_)
  rw [List.take_length]
  exact .inl ⟨(hl m).2 hm, hb⟩

end Go.Proofs.YtfickhncbahekaaDoor
