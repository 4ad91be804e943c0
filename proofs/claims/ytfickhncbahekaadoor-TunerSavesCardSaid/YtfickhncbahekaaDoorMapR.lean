/- A range over a map whose entries lie as they are known: which of them have come. No function of the program is named in this text. Conditions: those that each lemma names. -/
import Derived.Test.YtfickhncbahekaaDoorMapC
import Derived.Test.YtfickhncbahekaaDoorTunBfs2
import Derived.Maps.RangeRun
namespace Go.Proofs.YtfickhncbahekaaDoor
open Go.RowKit Go.ChangeMaps

section
variable {κ : Type} [DecidableEq κ] {P : Program} {kt : TypeId} (K : KeyKind κ P kt)
/-- Block r is an iterator over the map in block b; the entries of these places have come. -/
def MapI (w : World) (b r : Nat) (m : List (κ × Value)) (js : List Nat) : Prop :=
  ∃ (es : Array MapEntry) (clock since c0 : Nat) (seen : Array Nat), w.heap[b]? = some (.map es clock) ∧ es.toList.map (fun e => (e.key, e.val)) = m.map (fun p => (K.enc p.1, p.2)) ∧ Stp es.toList clock ∧ w.heap[r]? = some (.mapIter (some b) since seen c0) ∧ (∀ e ∈ es.toList, e.born < since) ∧ since ≤ c0 ∧ since ≤ clock ∧
    js.Nodup ∧ (∀ j ∈ js, j < m.length) ∧ seen.toList = js.map (fun j => (es.toList.getD j ⟨undef, undef, 0⟩).born)
variable {K}
variable {w w' : World} {b r : Nat} {m : List (κ × Value)} {js : List Nat}
theorem MapI.keep (h : MapI K w b r m js) (hb : w'.heap[b]? = w.heap[b]?) (hr : w'.heap[r]? = w.heap[r]?) : MapI K w' b r m js := by
  obtain ⟨es, c, s, c0, seen, h1, h2, h3, h4, h5⟩ := h
  exact ⟨es, c, s, c0, seen, hb.trans h1, h2, h3, hr.trans h4, h5⟩
theorem MapI.lt (h : MapI K w b r m js) : b < w.heap.size ∧ r < w.heap.size := by
  obtain ⟨es, c, s, c0, seen, h1, h2, h3, h4, h5⟩ := h
  exact ⟨(Array.getElem?_eq_some_iff.1 h1).1, (Array.getElem?_eq_some_iff.1 h4).1⟩
theorem MapI.step (h : MapI K w b r m js) (hb : Below w.heap.size w w') : MapI K w' b r m js := h.keep (hb.block b h.lt.1) (hb.block r h.lt.2)
theorem MapI.grown (h : MapI K w b r m js) {row : Option Nat} (hg : w.grownBy w' row) (h1 : some b ≠ row) (h2 : some r ≠ row) : MapI K w' b r m js := h.keep (hg.block b h.lt.1 h1) (hg.block r h.lt.2 h2)
theorem MapI.lens (h : MapI K w b r m js) : js.length ≤ m.length := by
  obtain ⟨es, c, s, c0, seen, h1, h2, h3, h4, h5, h6, h6', h7, h8, h9⟩ := h
  have := nodup_len m.length (js.map fun j : Nat => (j : Int)) (by
    unfold List.Nodup
    rw [List.pairwise_map]
    exact h7.imp (fun h e => h (by omega))) (fun x hx => by
    obtain ⟨j, hj, rfl⟩ := List.mem_map.1 hx
    have := h8 j hj
    omega)
  simpa using this
/-- The beginning. -/
theorem MapI.start {t e : TypeId} (ht : P.underlying t = some (.map kt e)) (h : MapC K w b m) :
    ∃ c, (Instr.range t (.map (some b))).run P w = .ok (.pointer (some ⟨w.heap.size, 0, none⟩)) (w.alloc (.mapIter (some b) c #[] c)) ∧ MapI K (w.alloc (.mapIter (some b) c #[] c)) b w.heap.size m [] := by
  obtain ⟨es, c, h1, h2, h3⟩ := h
  have hlt : b < w.heap.size := (Array.getElem?_eq_some_iff.1 h1).1
  exact ⟨c, run_range_map w t kt e b es c ht h1, es, c, c, c, #[], (Below.heap_alloc w _ b hlt).trans h1, h2, h3, heap_alloc_new w _, h3.1, Nat.le_refl _, Nat.le_refl _, by simp, by simp, by simp⟩
theorem setBlock_at {w : World} {r : Nat} {o o' : Obj} (h : w.heap[r]? = some o) : (setBlock w r o').heap[r]? = some o' ∧ (∀ i, i ≠ r → (setBlock w r o').heap[i]? = w.heap[i]?) ∧ (setBlock w r o').heap.size = w.heap.size ∧ w.grownBy (setBlock w r o') (some r) := by
  have hlt : r < w.heap.size := (Array.getElem?_eq_some_iff.1 h).1
  refine ⟨by simp [setBlock, hlt], fun i hi => by simp [setBlock, Array.getElem?_setIfInBounds, Ne.symm hi], by simp [setBlock], rfl, rfl, rfl, by simp [setBlock], fun i _ hi => ?_⟩
  simp only [setBlock, Array.getElem?_setIfInBounds]
  rw [if_neg (fun e => hi (by rw [e]))]
/-- A step: nothing is left, or an entry has come. -/
theorem MapI.next (h : MapI K w b r m js) (hbr : b ≠ r) (ty : TypeId) :
    ((Instr.next (.pointer (some ⟨r, 0, none⟩)) false ty).run P w = .ok (.tuple #[.bool false]) w ∧ ∀ j, j < m.length → j ∈ js) ∨
    ∃ (j : Nat) (hj : j < m.length) (w' : World), j ∉ js ∧ (Instr.next (.pointer (some ⟨r, 0, none⟩)) false ty).run P w = .ok (.tuple #[.bool true, K.enc m[j].1, m[j].2]) w' ∧ (Instr.entry (.pointer (some ⟨r, 0, none⟩))).run P w' = .ok (.tuple #[K.enc m[j].1, m[j].2]) w' ∧ MapI K w' b r m (js ++ [j]) ∧ w.grownBy w' (some r) ∧ w'.heap.size = w.heap.size := by
  obtain ⟨es, c, s, c0, seen, h1, h2, h3, h4, h5, h6, h6', h7, h8, h9⟩ := h
  have hlen : es.toList.length = m.length := by simpa using congrArg List.length h2
  have hsb : ∀ e ∈ es.toList, ∀ j ∈ js, seen.contains (es.toList.getD j ⟨undef, undef, 0⟩).born = true := fun e _ j hj => by
    rw [← Array.contains_toList, h9, List.contains_iff_mem]
    exact List.mem_map_of_mem hj
  rcases run_next_at (P := P) w ty r b s c0 seen es c h4 h1 h5 h6 with ⟨h0, hr⟩ | ⟨e, he, w1, hw1, hr⟩
  · left
    refine ⟨hr, fun j hj => ?_⟩
    have hje : j < es.toList.length := by omega
    have hnot : ∀ x ∈ es.toList, seen.contains x.born = true := fun x hx => by
      cases hc : seen.contains x.born with
      | true => rfl
      | false =>
        have : x ∈ leftOf es seen := by unfold leftOf; rw [Array.mem_filter]; exact ⟨by simpa using hx, by rw [hc]; rfl⟩
        have := Array.size_pos_of_mem this
        omega
    have hc := hnot es.toList[j] (List.getElem_mem hje)
    rw [← Array.contains_toList, h9, List.contains_iff_mem] at hc
    obtain ⟨i, hi, hie⟩ := List.mem_map.1 hc
    have hil : i < es.toList.length := by have := h8 i hi; omega
    have heq : (es.toList.map (·.born))[i]'(by simpa using hil) = (es.toList.map (·.born))[j]'(by simpa using hje) := by
      rw [List.getElem_map, List.getElem_map, ← hie]
      rw [List.getD_eq_getElem?_getD, List.getElem?_eq_getElem hil, Option.getD_some]
    have := (List.getElem_inj h3.2).1 heq
    rw [← this]; exact hi
  · right
    have hem : e ∈ es.toList := by
      have : e ∈ leftOf es seen := by simpa using he
      unfold leftOf at this
      rw [Array.mem_filter] at this
      simpa using this.1
    have hens : seen.contains e.born = false := by
      have : e ∈ leftOf es seen := by simpa using he
      unfold leftOf at this
      rw [Array.mem_filter] at this
      simpa using this.2
    obtain ⟨j, hj, rfl⟩ := List.getElem_of_mem hem
    have hjm : j < m.length := by omega
    have hnj : j ∉ js := fun hin => by
      have := hsb _ hem j hin
      rw [List.getD_eq_getElem?_getD, List.getElem?_eq_getElem hj, Option.getD_some, hens] at this
      cases this
    have hkv : (es.toList[j].key, es.toList[j].val) = (K.enc m[j].1, m[j].2) := by
      have h := congrArg (fun l => l[j]?) h2
      simp only [List.getElem?_map, List.getElem?_eq_getElem hj, List.getElem?_eq_getElem hjm, Option.map_some, Option.some.injEq] at h
      exact h
    have hk : es.toList[j].key = K.enc m[j].1 := congrArg Prod.fst hkv
    have hv : es.toList[j].val = m[j].2 := congrArg Prod.snd hkv
    have hr1 : w1.heap[r]? = some (.mapIter (some b) s seen c0) := by rcases hw1 with rfl | rfl <;> exact h4
    have hb1 : w1.heap[b]? = some (.map es c) := by rcases hw1 with rfl | rfl <;> exact h1
    obtain ⟨s1, s2, s3, s4⟩ := setBlock_at (o' := .mapIter (some b) s (seen.push es.toList[j].born) c) hr1
    have hbs := (s2 b hbr).trans hb1
    refine ⟨j, hjm, _, hnj, by rw [hr, hk, hv], ?_, ?_, ?_, ?_⟩
    · rw [run_entry_at (P := P) _ r b s seen es c es.toList[j] s1 hbs hem h3.2, hk, hv]
    · refine ⟨es, c, s, c, seen.push es.toList[j].born, hbs, h2, h3, s1, h5, ?_, h6', ?_, ?_, ?_⟩
      · exact h6'
      · rw [List.nodup_append]
        exact ⟨h7, by simp, fun a ha q hq => by rw [List.mem_singleton] at hq; rw [hq]; exact fun e => hnj (e ▸ ha)⟩
      · intro i hi
        rw [List.mem_append, List.mem_singleton] at hi
        rcases hi with hi | rfl
        · exact h8 i hi
        · exact hjm
      · rw [Array.toList_push, h9, List.map_append, List.map_cons, List.map_nil]
        rw [List.getD_eq_getElem?_getD, List.getElem?_eq_getElem hj, Option.getD_some]
    · rcases hw1 with rfl | rfl
      · exact s4
      · exact ⟨s4.os, s4.tape, s4.output, s4.size, s4.block⟩
    · rw [s3]; rcases hw1 with rfl | rfl <;> rfl
end
end Go.Proofs.YtfickhncbahekaaDoor
