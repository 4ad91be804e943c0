/- A statement whose operations may come up in more than one order: by a relation that each operation keeps, wherever it comes up. No function of the program is named in this text. Conditions: those that each lemma names. -/
import Derived.Test.YtfickhncbahekaaDoorRegE
namespace Go.Proofs.YtfickhncbahekaaDoor
section
open Go.RowKit
variable {P : Program} {ops : Array Oper} {Q : Exit → Act → World → Prop} {md : Region.Mode}

/-- Each operation waits for earlier ones alone. -/
def upward (ops : Array Oper) : Bool := (List.range ops.size).all fun i => ((ops[i]?).map fun o => o.after.all fun e => decide (e.on < i)).getD true
theorem upward_at (hu : upward ops = true) {i : Nat} {o : Oper} (ho : ops[i]? = some o) : ∀ e ∈ o.after, e.on < i := by
  have hi : i < ops.size := (Array.getElem?_eq_some_iff.1 ho).1
  have h := List.all_eq_true.1 hu i (List.mem_range.2 hi)
  rw [ho] at h
  simp only [Option.map_some, Option.getD_some, Array.all_eq_true_iff_forall_mem, decide_eq_true_eq] at h
  exact h
theorem getD_in {l : Array Bool} {i : Nat} (h : i < l.size) (d d' : Bool) : l.getD i d = l.getD i d' := by simp [Array.getD, h]
theorem ready_none (hu : upward ops = true) {l : Array Bool} (hs : l.size = ops.size) (h : Region.ready md ops l = []) : ∀ i, i < ops.size → l.getD i true = true := by
  intro i
  induction i using Nat.strongRecOn with
  | _ i ih =>
    intro hi
    cases hb : l.getD i true with
    | true => rfl
    | false =>
      have ho : ops[i]? = some ops[i] := Array.getElem?_eq_getElem hi
      have hm : i ∈ Region.ready md ops l := mem_ready.2 ⟨hb, ops[i], ho, fun e he _ => by
        have hlt := upward_at hu ho e he
        rw [getD_in (by omega) false true]
        exact ih e.on hlt (by omega)⟩
      rw [h] at hm
      cases hm
theorem count_set {l : Array Bool} {i : Nat} (h : l.getD i true = false) : (l.setIfInBounds i true).toList.count false + 1 = l.toList.count false := by
  have hi : i < l.size := by
    rcases Nat.lt_or_ge i l.size with h' | h'
    · exact h'
    · simp [Array.getD, Nat.not_lt.2 h'] at h
  have hv : l.toList[i]'(by simpa using hi) = false := by simpa [Array.getD, hi] using h
  have hpos : 0 < l.toList.count false := List.count_pos_iff.2 (by rw [← hv]; exact List.getElem_mem _)
  have e : (l.setIfInBounds i true).toList = l.toList.set i true := by simp
  rw [e, List.count_set (by simpa using hi), hv, if_pos (by rfl), if_neg (by decide)]
  omega
theorem wpAny_inv (R : Array Bool → Act → World → Prop) (hu : upward ops = true) (hsz : ∀ l a w, R l a w → l.size = ops.size)
    (hstep : ∀ l a w i o, R l a w → ops[i]? = some o → l.getD i true = false → (∀ e ∈ o.after, Region.binds md e = true → l.getD e.on false = true) →
      ∀ K : Act → World → Prop, Shut (∀ a' w', R (l.setIfInBounds i true) a' w' → K a' w') → if Region.wanted o (yielded ops a.tmps) = true then Oper.wp P o a w K Q else K (a.put o.dst undef) w)
    (hend : ∀ l a w, R l a w → (∀ i, i < ops.size → l.getD i true = true) → Q .normal a w) :
    ∀ fuel l a w, l.toList.count false ≤ fuel → R l a w → wpAny P md ops Q fuel l a w := by
  intro fuel
  induction fuel with
  | zero =>
    intro l a w hc hr
    have hn : Region.ready md ops l = [] := by
      refine List.eq_nil_iff_forall_not_mem.2 fun i hi => ?_
      have := count_set (mem_ready.1 hi).1
      omega
    exact ⟨hn, hend l a w hr (ready_none hu (hsz l a w hr) hn)⟩
  | succ n ih =>
    intro l a w hc hr
    refine ⟨fun hn => hend l a w hr (ready_none hu (hsz l a w hr) hn), fun i hi => ?_⟩
    obtain ⟨h0, o, ho, hall⟩ := mem_ready.1 hi
    have hcs := count_set h0
    exact wpOp_step ho fun K' hK => hstep l a w i o hr ho h0 hall K' fun a' w' hr' => hK a' w' (ih _ a' w' (by omega) hr')
/-- A slot that is set if a mark is. -/
abbrev cv (b : Bool) (v : Value) : Value := bif b then v else undef
/-- A block that is there if a mark is. -/
abbrev cl {α : Type} (b : Bool) (x : α) : List α := bif b then [x] else []
/-- A new block, in the midst of the list. -/
theorem Hp.ins {w W : World} {A B : List (Nat × TypeId × List Value)} (h : Hp w (A ++ B) W) (t : TypeId) (cs : List Value) : Hp w (A ++ (W.heap.size, t, cs) :: B) (W.alloc (.cells cs.toArray t)) := by
  have h1 := h.new t cs
  have hp : (A ++ (W.heap.size, t, cs) :: B).Perm ((A ++ B) ++ [(W.heap.size, t, cs)]) := List.perm_middle.trans (List.perm_append_singleton _ _).symm
  exact ⟨h1.below, fun p hm => h1.blk p (hp.subset hm), (hp.pairwise_iff (fun h => Ne.symm h)).2 h1.apart⟩
/-- The beginning. -/
theorem wp_regionI (n : Nat) (l0 : Array Bool) (R : Array Bool → Act → World → Prop) {id : Nat} {a : Act} {w : World} (hm : P.follows .mixedOrders = true) (hn : ops.size = n) (hl : Array.replicate n false = l0) (hu : upward ops = true)
    (hsz : ∀ l a w, R l a w → l.size = n) (h0 : R l0 a w.drew)
    (hstep : ∀ l a w i o, R l a w → ops[i]? = some o → l.getD i true = false → (∀ e ∈ o.after, Region.binds .any e = true → l.getD e.on false = true) →
      ∀ K : Act → World → Prop, Shut (∀ a' w', R (l.setIfInBounds i true) a' w' → K a' w') → if Region.wanted o (yielded ops a.tmps) = true then Oper.wp P o a w K Q else K (a.put o.dst undef) w)
    (hend : ∀ l a w, R l a w → (∀ i, i < n → l.getD i true = true) → Q .normal a w) : (Code.region id ops true).wp P Q a w := by
  subst hn; subst hl
  exact wp_region_any hm (wpAny_inv R hu hsz hstep hend _ _ _ _ (by simp) h0)
/-- Each operation waits for earlier ones alone, where the edge binds. -/
def upwardB (md : Region.Mode) (ops : Array Oper) : Bool := (List.range ops.size).all fun i => ((ops[i]?).map fun o => o.after.all fun e => !Region.binds md e || decide (e.on < i)).getD true
theorem upwardB_at (hu : upwardB md ops = true) {i : Nat} {o : Oper} (ho : ops[i]? = some o) : ∀ e ∈ o.after, Region.binds md e = true → e.on < i := by
  have hi : i < ops.size := (Array.getElem?_eq_some_iff.1 ho).1
  have h := List.all_eq_true.1 hu i (List.mem_range.2 hi)
  rw [ho] at h
  simp only [Option.map_some, Option.getD_some, Array.all_eq_true_iff_forall_mem, Bool.or_eq_true, Bool.not_eq_true', decide_eq_true_eq] at h
  intro e he hb
  rcases h e he with h | h
  · rw [h] at hb; cases hb
  · exact h
theorem ready_noneB (hu : upwardB md ops = true) {l : Array Bool} (hs : l.size = ops.size) (h : Region.ready md ops l = []) : ∀ i, i < ops.size → l.getD i true = true := by
  intro i
  induction i using Nat.strongRecOn with
  | _ i ih =>
    intro hi
    cases hb : l.getD i true with
    | true => rfl
    | false =>
      have ho : ops[i]? = some ops[i] := Array.getElem?_eq_getElem hi
      have hm : i ∈ Region.ready md ops l := mem_ready.2 ⟨hb, ops[i], ho, fun e he hbd => by
        have hlt := upwardB_at hu ho e he hbd
        rw [getD_in (by omega) false true]
        exact ih e.on hlt (by omega)⟩
      rw [h] at hm
      cases hm
theorem wpAny_invB (R : Array Bool → Act → World → Prop) (hu : upwardB md ops = true) (hsz : ∀ l a w, R l a w → l.size = ops.size)
    (hstep : ∀ l a w i o, R l a w → ops[i]? = some o → l.getD i true = false → (∀ e ∈ o.after, Region.binds md e = true → l.getD e.on false = true) →
      ∀ K : Act → World → Prop, Shut (∀ a' w', R (l.setIfInBounds i true) a' w' → K a' w') → if Region.wanted o (yielded ops a.tmps) = true then Oper.wp P o a w K Q else K (a.put o.dst undef) w)
    (hend : ∀ l a w, R l a w → (∀ i, i < ops.size → l.getD i true = true) → Q .normal a w) :
    ∀ fuel l a w, l.toList.count false ≤ fuel → R l a w → wpAny P md ops Q fuel l a w := by
  intro fuel
  induction fuel with
  | zero =>
    intro l a w hc hr
    have hn : Region.ready md ops l = [] := by
      refine List.eq_nil_iff_forall_not_mem.2 fun i hi => ?_
      have := count_set (mem_ready.1 hi).1
      omega
    exact ⟨hn, hend l a w hr (ready_noneB hu (hsz l a w hr) hn)⟩
  | succ n ih =>
    intro l a w hc hr
    refine ⟨fun hn => hend l a w hr (ready_noneB hu (hsz l a w hr) hn), fun i hi => ?_⟩
    obtain ⟨h0, o, ho, hall⟩ := mem_ready.1 hi
    have hcs := count_set h0
    exact wpOp_step ho fun K' hK => hstep l a w i o hr ho h0 hall K' fun a' w' hr' => hK a' w' (ih _ a' w' (by omega) hr')
/-- The beginning, where some edges don't bind. -/
theorem wp_regionJ (n : Nat) (l0 : Array Bool) (R : Array Bool → Act → World → Prop) {id : Nat} {a : Act} {w : World} (hm : P.follows .mixedOrders = true) (hn : ops.size = n) (hl : Array.replicate n false = l0) (hu : upwardB .any ops = true)
    (hsz : ∀ l a w, R l a w → l.size = n) (h0 : R l0 a w.drew)
    (hstep : ∀ l a w i o, R l a w → ops[i]? = some o → l.getD i true = false → (∀ e ∈ o.after, Region.binds .any e = true → l.getD e.on false = true) →
      ∀ K : Act → World → Prop, Shut (∀ a' w', R (l.setIfInBounds i true) a' w' → K a' w') → if Region.wanted o (yielded ops a.tmps) = true then Oper.wp P o a w K Q else K (a.put o.dst undef) w)
    (hend : ∀ l a w, R l a w → (∀ i, i < n → l.getD i true = true) → Q .normal a w) : (Code.region id ops true).wp P Q a w := by
  subst hn; subst hl
  exact wp_region_any hm (wpAny_invB R hu hsz hstep hend _ _ _ _ (by simp) h0)
end
end Go.Proofs.YtfickhncbahekaaDoor
