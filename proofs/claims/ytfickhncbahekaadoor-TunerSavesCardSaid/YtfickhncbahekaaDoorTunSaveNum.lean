/- What a planned order has: it is right, has no redundant step, and its chains are as long as the notes are away. No function of the program is named in this text. Conditions: the task is right. -/
import Derived.Test.YtfickhncbahekaaDoorTunNeed
import Derived.Test.YtfickhncbahekaaDoorTunNum2
namespace Go.Proofs.YtfickhncbahekaaDoor
open Go.RowKit

theorem sub_len {α : Type} [DecidableEq α] : ∀ {l m : List α}, l.Nodup → (∀ x ∈ l, x ∈ m) → l.length ≤ m.length
  | [], _, _, _ => by simp
  | a :: l, m, hd, hs => by
    rw [List.nodup_cons] at hd
    have ha := hs a List.mem_cons_self
    have h := sub_len (l := l) (m := m.erase a) hd.2 (fun x hx => (List.mem_erase_of_ne (fun e => hd.1 (by rw [← e]; exact hx))).2 (hs x (List.mem_cons_of_mem _ hx)))
    rw [List.length_erase_of_mem ha] at h
    have := List.length_pos_of_mem ha
    rw [List.length_cons]
    omega
theorem same_len {α : Type} [DecidableEq α] {l m : List α} (h1 : l.Nodup) (h2 : m.Nodup) (h : ∀ x, x ∈ l ↔ x ∈ m) : l.length = m.length :=
  Nat.le_antisymm (sub_len h1 fun x hx => (h x).1 hx) (sub_len h2 fun x hx => (h x).2 hx)
section
variable {lo hi f : Int} {l : List Int} {L : List (Int × Int)}
theorem Planned.at_ (h : Planned lo hi f l L) {k : Nat} (hk : k < L.length) : ∃ d, IsFr lo hi f (L.getD k (0, 0)).2 (L.getD k (0, 0)).1 d := by
  have : L.getD k (0, 0) ∈ L := by rw [List.getD_eq_getElem?_getD, List.getElem?_eq_getElem hk, Option.getD_some]; exact List.getElem_mem _
  exact h.fr _ this
theorem Planned.lt (h : Planned lo hi f l L) {j k : Nat} (hjk : j < k) (hk : k < L.length) : StepLt lo hi f (L.getD j (0, 0)) (L.getD k (0, 0)) := by
  have := List.pairwise_iff_getElem.1 h.srt j k (by omega) hk hjk
  rw [List.getD_eq_getElem?_getD, List.getD_eq_getElem?_getD, List.getElem?_eq_getElem hk, List.getElem?_eq_getElem (show j < L.length by omega), Option.getD_some, Option.getD_some]
  exact this
theorem Planned.ne (h : Planned lo hi f l L) {j k : Nat} (hjk : j < k) (hk : k < L.length) : (L.getD j (0, 0)).2 ≠ (L.getD k (0, 0)).2 := fun e => by
  obtain ⟨d, hd⟩ := h.at_ (show j < L.length by omega)
  obtain ⟨d', hd'⟩ := h.at_ hk
  have := h.lt hjk hk _ _ hd.1 hd'.1
  have h2 := hd'.1
  rw [← e] at h2
  have := hd.1.unique h2
  omega
theorem Planned.nf (h : Planned lo hi f l L) {k : Nat} (hk : k < L.length) : (L.getD k (0, 0)).2 ≠ f := fun e => by
  obtain ⟨d, hd⟩ := h.at_ hk
  have h2 := hd.1
  rw [e] at h2
  have := h2.unique (ds_zero.2 rfl)
  omega
theorem Planned.nodup (h : Planned lo hi f l L) : (f :: L.map (·.2)).Nodup := by
  rw [List.nodup_cons]
  refine ⟨fun hm => ?_, ?_⟩
  · obtain ⟨x, hx, e⟩ := List.mem_map.1 hm
    obtain ⟨k, hk, rfl⟩ := List.getElem_of_mem hx
    refine h.nf hk ?_
    rw [List.getD_eq_getElem?_getD, List.getElem?_eq_getElem hk, Option.getD_some]
    exact e
  · refine List.pairwise_iff_getElem.2 fun i j hi' hj hij => ?_
    rw [List.length_map] at hi' hj
    have := h.ne hij hj
    rw [List.getD_eq_getElem?_getD, List.getD_eq_getElem?_getD, List.getElem?_eq_getElem hi', List.getElem?_eq_getElem hj, Option.getD_some, Option.getD_some] at this
    rw [List.getElem_map, List.getElem_map]
    exact this
/-- From where a planned step leads: the first note, or a note that an earlier step has tuned. -/
theorem Planned.from_ (h : Planned lo hi f l L) {k : Nat} (hk : k < L.length) : (L.getD k (0, 0)).1 = f ∨ ∃ j, j < k ∧ (L.getD j (0, 0)).2 = (L.getD k (0, 0)).1 := by
  obtain ⟨d, hd⟩ := h.at_ hk
  by_cases e : (L.getD k (0, 0)).1 = f
  · exact .inl e
  · right
    have hn : Need lo hi f l (L.getD k (0, 0)).2 := (h.mem _).1 (List.mem_map_of_mem (by rw [List.getD_eq_getElem?_getD, List.getElem?_eq_getElem hk, Option.getD_some]; exact List.getElem_mem _))
    obtain ⟨x, hx, ex⟩ := List.mem_map.1 ((h.mem _).2 (Need.step hn hd e))
    obtain ⟨j, hj, rfl⟩ := List.getElem_of_mem hx
    have ej : (L.getD j (0, 0)).2 = (L.getD k (0, 0)).1 := by rw [List.getD_eq_getElem?_getD, List.getElem?_eq_getElem hj, Option.getD_some]; exact ex
    refine ⟨j, ?_, ej⟩
    rcases Nat.lt_trichotomy j k with q | q | q
    · exact q
    · exfalso
      subst q
      have h1 := hd.1
      have h2 := hd.2.1
      rw [← ej] at h2
      have := h1.unique h2
      omega
    · exfalso
      obtain ⟨d', hd'⟩ := h.at_ hj
      have h2 := hd.2.1
      rw [← ej] at h2
      have h3 := hd'.1.unique h2
      have := h.lt q hj _ _ hd.1 hd'.1
      omega
theorem toIx_mem {n : Int} {k : Nat} (hk : k ≤ L.length) : toIx n (L.take k) 0 ≠ -2 ↔ ∃ j, j < k ∧ (L.getD j (0, 0)).2 = n := by
  constructor
  · intro h
    obtain ⟨j, hj, _, e⟩ := toIx_some h
    rw [List.length_take] at hj
    refine ⟨j, by omega, ?_⟩
    rw [← e, List.getD_eq_getElem?_getD, List.getD_eq_getElem?_getD, List.getElem?_take, if_pos (by omega)]
  · intro ⟨j, hj, e⟩ h
    by_cases hx : ∃ x ∈ L.take k, x.2 = n
    · obtain ⟨i, hi, hm⟩ : ∃ i, i < k ∧ (L.getD i (0, 0)).2 = n ∧ ∀ i', i' < i → (L.getD i' (0, 0)).2 ≠ n := by
        refine Nat.strongRecOn (motive := fun j => j < k → (L.getD j (0, 0)).2 = n → ∃ i, i < k ∧ (L.getD i (0, 0)).2 = n ∧ ∀ i', i' < i → (L.getD i' (0, 0)).2 ≠ n) j (fun j ih hj e => ?_) hj e
        by_cases q : ∃ i', i' < j ∧ (L.getD i' (0, 0)).2 = n
        · obtain ⟨i', h1, h2⟩ := q
          exact ih i' h1 (by omega) h2
        · exact ⟨j, hj, e, fun i' h1 h2 => q ⟨i', h1, h2⟩⟩
      have hg : ∀ i', i' < k → (L.take k).getD i' (0, 0) = L.getD i' (0, 0) := fun i' h' => by
        rw [List.getD_eq_getElem?_getD, List.getD_eq_getElem?_getD, List.getElem?_take, if_pos h']
      have := toIx_hit (n := n) (l := L.take k) (i := 0) (k := i) (fun i' h' => by rw [hg i' (by omega)]; exact hm.2 i' h') (by rw [List.length_take]; omega) (by rw [hg i hi]; exact hm.1)
      rw [this] at h
      omega
    · exact hx ⟨L.getD j (0, 0), by
        have : j < (L.take k).length := by rw [List.length_take]; omega
        have e2 : L.getD j (0, 0) = (L.take k)[j] := by rw [List.getElem_take, List.getD_eq_getElem?_getD, List.getElem?_eq_getElem (by omega), Option.getD_some]
        rw [e2]; exact List.getElem_mem _, e⟩
theorem Planned.ord (h0 : 0 ≤ lo) (h1 : hi ≤ 127) (hf : lo ≤ f ∧ f ≤ hi) (h : Planned lo hi f l L) : Ord f L := fun k hk => by
  obtain ⟨d, hd⟩ := h.at_ hk
  have r1 := hd.1.1.range hf
  have r2 := hd.2.1.1.range hf
  obtain ⟨x, hx⟩ := (bys_way _).1 hd.2.2.1
  have hz : firstZ f L (L.getD k (0, 0)).1 k ≠ -2 := by
    unfold firstZ
    split
    · decide
    · rename_i hne
      rw [toIx_mem (by omega)]
      rcases h.from_ hk with e | e
      · exact absurd e hne
      · exact e
  unfold chkE
  rw [if_neg (fun e => e ⟨by unfold isN; omega, by unfold isN; omega⟩), if_neg (by rw [hx]; simp), if_neg hz]
theorem Planned.run (h0 : 0 ≤ lo) (h1 : hi ≤ 127) (hf : lo ≤ f ∧ f ≤ hi) (h : Planned lo hi f l L) (hl : L.length ≤ 128) : runE f L = 0 := by
  rw [runE_chk, if_neg (fun e => e (by unfold isN; omega)), if_neg (by omega)]
  exact scanE_zero fun j _ hj => h.ord h0 h1 hf j (by omega)
theorem Planned.red (h : Planned lo hi f l L) : redN f L L.length = [] := by
  refine List.filter_eq_nil_iff.2 fun i hi' => ?_
  rw [List.mem_range] at hi'
  simp only [decide_eq_true_eq, Classical.not_not]
  unfold firstZ
  rw [if_neg (h.nf hi')]
  refine Classical.byContradiction fun hq => ?_
  obtain ⟨j, hj, e⟩ := (toIx_mem (by omega)).1 hq
  exact h.ne hj hi' e
theorem Planned.len (h0 : 0 ≤ lo) (h1 : hi ≤ 127) (hf : lo ≤ f ∧ f ≤ hi) (h : Planned lo hi f l L) : ∀ (d : Nat) (n : Int), Ds lo hi f n d → (n = f ∨ n ∈ L.map (·.2)) → (chB f L n).length = d
  | 0, n, hd, _ => by
    rw [ds_zero.1 hd, (chB_stop (n := f) (f := f) (L := L) (by unfold fz firstZ; rw [if_pos rfl]; decide)).1]
    rfl
  | d + 1, n, hd, hm => by
    have ho := h.ord h0 h1 hf
    have hnf : n ≠ f := fun e => by
      rw [e] at hd
      have := hd.unique (ds_zero.2 rfl)
      omega
    rcases hm with e | hm
    · exact absurd e hnf
    · obtain ⟨x, hx, ex⟩ := List.mem_map.1 hm
      obtain ⟨j, hj, rfl⟩ := List.getElem_of_mem hx
      have hz : fz f L n ≠ -2 := by
        unfold fz firstZ
        rw [if_neg hnf, toIx_mem (Nat.le_refl _)]
        exact ⟨j, hj, by rw [List.getD_eq_getElem?_getD, List.getElem?_eq_getElem hj, Option.getD_some]; exact ex⟩
      have hz2 : fz f L n ≠ -1 := by
        rcases firstZ_cases f L n L.length with q | q | ⟨_, k, _, _, q, _⟩
        · exact absurd q.1 hnf
        · exact absurd q.2 hz
        · unfold fz; rw [q]; omega
      obtain ⟨i, hi'⟩ := Int.eq_ofNat_of_zero_le (show 0 ≤ fz f L n by have := fz_lt f L n; omega)
      obtain ⟨b1, b2, _⟩ := fz_back ho hi'
      have hgo := (chB_go ho hi').1
      obtain ⟨d', hd'⟩ := h.at_ b1
      rw [b2] at hd'
      have := hd'.1.unique hd
      obtain rfl : d' = d := by omega
      have ih := Planned.len h0 h1 hf h d' _ hd'.2.1 (by
        rcases h.from_ b1 with e | ⟨q, hq, e⟩
        · exact .inl e
        · right
          rw [← e]
          exact List.mem_map_of_mem (by rw [List.getD_eq_getElem?_getD, List.getElem?_eq_getElem (show q < L.length by omega), Option.getD_some]; exact List.getElem_mem _))
      rw [hgo, List.length_cons, ih]
end
end Go.Proofs.YtfickhncbahekaaDoor
