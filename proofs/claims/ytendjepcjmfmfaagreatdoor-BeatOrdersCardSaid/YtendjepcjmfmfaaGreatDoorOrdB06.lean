/- Part 6 of 47 of the proof of the law: contracts of the functions that it reaches, and plain facts. Conditions: those that each contract names. -/
import Derived.Test.YtendjepcjmfmfaaGreatDoorOrdB01
import Derived.Deep.RegionHeld3
namespace Go.Proofs.YtendjepcjmfmfaaGreatDoor
section
open Go.RowKit
structure Hp (w : World) (L : List (Nat × TypeId × List Value)) (W : World) : Prop where
 below : Below w.heap.size w W
 blk : ∀ p ∈ L, Blk W p.1 p.2.1 p.2.2 ∧ w.heap.size ≤ p.1
 apart : L.Pairwise (fun p q => p.1 ≠ q.1)
section
variable {w W W' : World} {L : List (Nat × TypeId × List Value)}
theorem Hp.start (w : World) : Hp w [] w := ⟨Below.refl _ _, fun _ h => absurd h List.not_mem_nil, List.Pairwise.nil⟩
theorem Hp.step (h : Hp w L W) (hb : Below W.heap.size W W') : Hp w L W' :=
 ⟨h.below.trans (hb.mono h.below.size), fun p hp => ⟨(h.blk p hp).1.below hb (h.blk p hp).1.lt, (h.blk p hp).2⟩, h.apart⟩
theorem Hp.drew (h : Hp w L W) : Hp w L W.drew := h.step (bw_drew (Below.refl _ _))
theorem Hp.drewN (h : Hp w L W) (k : Nat) : Hp w L (W.drewN k) := h.step (below_drewN _ _ _)
theorem Hp.alloc (h : Hp w L W) (o : Obj) : Hp w L (W.alloc o) := h.step (bw_new (Below.refl _ _) o)
theorem Hp.new (h : Hp w L W) (t : TypeId) (cs : List Value) : Hp w (L ++ [(W.heap.size, t, cs)]) (W.alloc (.cells cs.toArray t)) := by
 refine ⟨(h.alloc _).below, fun p hp => ?_, ?_⟩
 ·rcases List.mem_append.1 hp with hp | hp
  ·exact (h.alloc _).blk p hp
  ·obtain rfl := List.mem_singleton.1 hp
   exact ⟨heap_alloc_new W _, h.below.size⟩
 ·refine List.pairwise_append.2 ⟨h.apart, List.pairwise_singleton _ _, fun p hp q hq => ?_⟩
  obtain rfl := List.mem_singleton.1 hq
  have := (h.blk p hp).1.lt
  show p.1 ≠ W.heap.size
  omega
theorem Hp.at_ (h : Hp w L W) (i : Nat) {g : Nat} {t : TypeId} {cs : List Value} (e : L[i]? = some (g, t, cs)) : Blk W g t cs := (h.blk _ (List.mem_of_getElem? e)).1
theorem Hp.ge (h : Hp w L W) (i : Nat) {g : Nat} {t : TypeId} {cs : List Value} (e : L[i]? = some (g, t, cs)) : w.heap.size ≤ g := (h.blk _ (List.mem_of_getElem? e)).2
theorem Hp.put (h : Hp w L W) (i : Nat) {g : Nat} {t : TypeId} {cs : List Value} (e : L[i]? = some (g, t, cs)) (k : Nat) (u : Value) : Hp w (L.set i (g, t, cs.set k u)) (W.setCell ⟨g, k, none⟩ u) := by
 have hi : i < L.length := by
  rcases Nat.lt_or_ge i L.length with h' | h'
  ·exact h'
  ·rw [List.getElem?_eq_none h'] at e; cases e
 have hg : L[i] = (g, t, cs) := by rw [List.getElem?_eq_getElem hi] at e; exact Option.some.inj e
 refine ⟨bw_set h.below (h.ge i e) u, fun p hp => ?_, ?_⟩
 ·obtain ⟨j, hj, rfl⟩ := List.getElem_of_mem hp
  rw [List.length_set] at hj
  by_cases hji : i = j
  ·subst hji
   rw [List.getElem_set_self]
   exact ⟨(h.at_ i e).put k u, h.ge i e⟩
  ·rw [List.getElem_set_ne hji]
   obtain ⟨h1, h2⟩ := h.blk L[j] (List.getElem_mem _)
   refine ⟨h1.far ?_ _, h2⟩
   have hap := List.pairwise_iff_getElem.1 h.apart
   show L[j].1 ≠ g
   rcases Nat.lt_or_gt_of_ne hji with hlt | hlt
   ·have := hap i j hi hj hlt
    rw [hg] at this
    exact this.symm
   ·have := hap j i hj hi hlt
    rw [hg] at this
    exact this
 ·refine List.pairwise_iff_getElem.2 fun a b ha hb hab => ?_
  rw [List.length_set] at ha hb
  have hap := List.pairwise_iff_getElem.1 h.apart a b ha hb hab
  have hs : ∀ (c : Nat) (hc : c < (L.set i (g, t, cs.set k u)).length), ((L.set i (g, t, cs.set k u))[c]).1 = (L[c]'(by rw [List.length_set] at hc; exact hc)).1 := fun c hc => by
   by_cases hci : i = c
   ·subst hci; rw [List.getElem_set_self, hg]
   ·rw [List.getElem_set_ne hci]
  rw [hs a, hs b]
  exact hap
theorem Hp.ne (h : Hp w L W) (i j : Nat) {g g' : Nat} {t t' : TypeId} {cs cs' : List Value} (e : L[i]? = some (g, t, cs)) (e' : L[j]? = some (g', t', cs')) (hij : i ≠ j) : g ≠ g' := by
 obtain ⟨hi, h1⟩ := List.getElem?_eq_some_iff.1 e
 obtain ⟨hj, h2⟩ := List.getElem?_eq_some_iff.1 e'
 rcases Nat.lt_or_gt_of_ne hij with hlt | hlt
 ·have := List.pairwise_iff_getElem.1 h.apart i j hi hj hlt
  rw [h1, h2] at this; exact this
 ·have := List.pairwise_iff_getElem.1 h.apart j i hj hi hlt
  rw [h1, h2] at this; exact this.symm
theorem Hp.sub (h : Hp w L W) {L' : List (Nat × TypeId × List Value)} (hs : L'.Sublist L) : Hp w L' W := ⟨h.below, fun p hp => h.blk p (hs.subset hp), h.apart.sublist hs⟩
theorem Hp.put2 (h : Hp w L W) (i : Nat) {g : Nat} {t : TypeId} {a b : Value} (e : L[i]? = some (g, t, [a, b])) (a' b' : Value) : Hp w (L.set i (g, t, [a', b'])) ((W.setCell ⟨g, 0, none⟩ a').setCell ⟨g, 1, none⟩ b') := by
 have hi : i < L.length := (List.getElem?_eq_some_iff.1 e).1
 have h1 := (h.put i e 0 a').put i (cs := [a', b]) (by rw [List.getElem?_set_self hi]; rfl) 1 b'
 rw [List.set_set] at h1
 exact h1
theorem Hp.put3 (h : Hp w L W) (i : Nat) {g : Nat} {t : TypeId} {a b c : Value} (e : L[i]? = some (g, t, [a, b, c])) (a' b' c' : Value) : Hp w (L.set i (g, t, [a', b', c'])) (((W.setCell ⟨g, 0, none⟩ a').setCell ⟨g, 1, none⟩ b').setCell ⟨g, 2, none⟩ c') := by
 have hi : i < L.length := (List.getElem?_eq_some_iff.1 e).1
 have h1 := ((h.put i e 0 a').put i (cs := [a', b, c]) (by rw [List.getElem?_set_self hi]; rfl) 1 b').put i (cs := [a', b', c]) (by rw [List.getElem?_set_self (by rw [List.length_set]; exact hi)]; rfl) 2 c'
 rw [List.set_set, List.set_set] at h1
 exact h1
theorem Hp.put4 (h : Hp w L W) (i : Nat) {g : Nat} {t : TypeId} {a b c d : Value} (e : L[i]? = some (g, t, [a, b, c, d])) (a' b' c' d' : Value) : Hp w (L.set i (g, t, [a', b', c', d'])) ((((W.setCell ⟨g, 0, none⟩ a').setCell ⟨g, 1, none⟩ b').setCell ⟨g, 2, none⟩ c').setCell ⟨g, 3, none⟩ d') := by
 have hi : i < L.length := (List.getElem?_eq_some_iff.1 e).1
 have h1 := (((h.put i e 0 a').put i (cs := [a', b, c, d]) (by rw [List.getElem?_set_self hi]; rfl) 1 b').put i (cs := [a', b', c, d]) (by rw [List.getElem?_set_self (by rw [List.length_set]; exact hi)]; rfl) 2 c').put i (cs := [a', b', c', d]) (by rw [List.getElem?_set_self (by rw [List.length_set, List.length_set]; exact hi)]; rfl) 3 d'
 rw [List.set_set, List.set_set, List.set_set] at h1
 exact h1
theorem Hp.put6 (h : Hp w L W) (i : Nat) {g : Nat} {t : TypeId} {a b c d x y : Value} (e : L[i]? = some (g, t, [a, b, c, d, x, y])) (a' b' c' d' x' y' : Value) : Hp w (L.set i (g, t, [a', b', c', d', x', y'])) ((((((W.setCell ⟨g, 0, none⟩ a').setCell ⟨g, 1, none⟩ b').setCell ⟨g, 2, none⟩ c').setCell ⟨g, 3, none⟩ d').setCell ⟨g, 4, none⟩ x').setCell ⟨g, 5, none⟩ y') := by
 have hi : i < L.length := (List.getElem?_eq_some_iff.1 e).1
 have h1 := (((((h.put i e 0 a').put i (cs := [a', b, c, d, x, y]) (by rw [List.getElem?_set_self hi]; rfl) 1 b').put i (cs := [a', b', c, d, x, y]) (by rw [List.getElem?_set_self (by simp; exact hi)]; rfl) 2 c').put i (cs := [a', b', c', d, x, y]) (by rw [List.getElem?_set_self (by simp; exact hi)]; rfl) 3 d').put i (cs := [a', b', c', d', x, y]) (by rw [List.getElem?_set_self (by simp; exact hi)]; rfl) 4 x').put i (cs := [a', b', c', d', x', y]) (by rw [List.getElem?_set_self (by simp; exact hi)]; rfl) 5 y'
 simp only [List.set_set] at h1
 exact h1
end
end
section
open Go.RowKit
section
variable {P : Program} {ops : Array Oper} {Q : Exit → Act → World → Prop} {md : Region.Mode} {d : Nat} {S S' : World → Prop}
def wpAnyE (P : Program) (md : Region.Mode) (ops : Array Oper) (Q : Exit → Act → World → Prop) (d : Nat) (S : World → Prop) : Nat → Array Bool → Act → World → Prop
 | 0, listed, a, w => Region.ready md ops listed = [] ∧ Q .normal a w
 | fuel + 1, listed, a, w => (Region.ready md ops listed = [] → Q .normal a w) ∧
  ∀ i ∈ Region.ready md ops listed, wpOp P ops Q i (fun a' w' => (i ≠ d → S w') ∧ wpAnyE P md ops Q d S fuel (listed.setIfInBounds i true) a' w') a w
theorem wpAny_of_E : ∀ (fuel : Nat) (listed : Array Bool) (a : Act) (w : World), wpAnyE P md ops Q d S fuel listed a w → wpAny P md ops Q fuel listed a w
 | 0, _, _, _, h => h
 | fuel + 1, _, _, _, h => ⟨h.1, fun i hi => wpOp_mono (fun a' w' h' => wpAny_of_E fuel _ a' w' h'.2) (h.2 i hi)⟩
def waitsB (md : Region.Mode) (ops : Array Oper) (d i : Nat) : Bool := match ops[d]? with
 | some od => od.after.toList.any fun e => Region.binds md e && e.on == i
 | none => true
theorem wpAnyE_first {i : Nat} {oi : Oper} {v : Value} (hi : ops[i]? = some oi) (hsel : ∀ (j : Nat) (o : Oper) cs b, ops[j]? = some o → o.op ≠ .select cs b)
  (hQ : ∀ c a w, Q (.panic c) (a.put oi.dst v) w → Q (.panic c) a w) (hw : waitsB md ops d i = true) :
  ∀ (fuel : Nat) (listed : Array Bool) (a : Act) (w : World),
   (∀ j oj, ops[j]? = some oj → j ≠ i → listed.getD j true = false → (∀ e ∈ oj.after, Region.binds md e = true → e.on ≠ i) → oi.apart ops oj = true) →
   i ∈ Region.ready md ops listed → YieldsIf P ops S oi v a → S w →
   wpAnyE P md ops Q d S fuel (listed.setIfInBounds i true) (a.put oi.dst v) w → wpAnyE P md ops Q d S (fuel + 1) listed a w := by
 have hdi : ∀ {listed : Array Bool} {j : Nat} {oj : Oper}, i ∈ Region.ready md ops listed → ops[j]? = some oj → (∀ e ∈ oj.after, Region.binds md e = true → e.on ≠ i) → j ≠ d := by
  intro listed j oj hr hoj hno e
  subst e
  unfold waitsB at hw
  rw [hoj] at hw
  obtain ⟨x, hx, hb⟩ := List.any_eq_true.1 hw
  rw [Bool.and_eq_true, beq_iff_eq] at hb
  exact hno x (by simpa using hx) hb.1 hb.2
 intro fuel
 induction fuel with
 | zero =>
  intro listed a w _ hr hy hS H
  refine ⟨fun h => (by rw [h] at hr; cases hr), fun j hj => ?_⟩
  by_cases hji : j = i
  ·subst hji; exact hy.wpOp hi hS ⟨fun _ => hS, H⟩
  ·have := ready_mono hj hji
   rw [H.1] at this
   cases this
 | succ fuel ih =>
  intro listed a w hfree hr hy hS H
  refine ⟨fun h => (by rw [h] at hr; cases hr), fun j hj => ?_⟩
  by_cases hji : j = i
  ·subst hji; exact hy.wpOp hi hS ⟨fun _ => hS, H⟩
  ·have h1 := H.2 j (ready_mono hj hji)
   obtain ⟨hjun, oj, hoj, hall⟩ := mem_ready.1 hj
   have hnot : ∀ e ∈ oj.after, Region.binds md e = true → e.on ≠ i := fun e he hb heq => by
    have h1 := hall e he hb
    have h0 := (mem_ready.1 hr).1
    rw [heq] at h1
    rcases Nat.lt_or_ge i listed.size with h' | h'
    ·simp [h'] at h0 h1; rw [h0] at h1; cases h1
    ·simp [Array.getElem?_eq_none h'] at h1
   have hjd : j ≠ d := hdi hr hoj hnot
   have h2 := wpOp_putIf hoj (hfree j oj hoj hji hjun hnot) (fun cs b => hsel i oi cs b hi) (fun cs b => hsel j oj cs b hoj) hQ hy h1
   have hfree' : ∀ k ok, ops[k]? = some ok → k ≠ i → (listed.setIfInBounds j true).getD k true = false →
     (∀ e ∈ ok.after, Region.binds md e = true → e.on ≠ i) → oi.apart ops ok = true := fun k ok hk hki hun hno => by
    refine hfree k ok hk hki ?_ hno
    by_cases hjk : j = k
    ·subst hjk; exact hjun
    ·rw [getD_set_ne true hjk] at hun; exact hun
   refine wpOp_mono (fun a' w' h3 => ⟨h3.2.1, ih (listed.setIfInBounds j true) a' w' hfree' (ready_mono hr (Ne.symm hji)) h3.1 (h3.2.1 hjd) ?_⟩) h2
   rw [Array.setIfInBounds_comm _ _ hji]
   exact h3.2.2
theorem wpAnyE_take {i : Nat} {oi : Oper} {v : Value} {fuel : Nat} {listed : Array Bool} {a : Act} {w : World} (hi : ops[i]? = some oi)
  (hs : Region.noSelect ops = true) (hf : Region.free md ops listed i = true) (hr : (Region.ready md ops listed).contains i = true) (hw : waitsB md ops d i = true)
  (hQ : ∀ c a w, Q (.panic c) (a.put oi.dst v) w → Q (.panic c) a w) (hy : YieldsIf P ops S oi v a) (hS : S w)
  (h : wpAnyE P md ops Q d S fuel (listed.setIfInBounds i true) (a.put oi.dst v) w) : wpAnyE P md ops Q d S (fuel + 1) listed a w :=
 wpAnyE_first hi (Region.noSelect_spec hs) hQ hw fuel listed a w (Region.free_spec hi hf) (by simpa using hr) hy hS h
theorem wpAnyE_tk {i : Nat} {oi : Oper} {v : Value} {fuel : Nat} {listed : Array Bool} (listed' : Array Bool) (dst : Option Tmp) {a : Act} {w : World} (hi : ops[i]? = some oi) (hd : oi.dst = dst) (hl : listed.setIfInBounds i true = listed')
  (hs : Region.noSelect ops = true) (hf : Region.free md ops listed i = true) (hr : (Region.ready md ops listed).contains i = true) (hw : waitsB md ops d i = true)
  (hQ : ∀ c a w, Q (.panic c) (a.put dst v) w → Q (.panic c) a w) (hy : YieldsIf P ops S oi v a) (hS : S w)
  (h : wpAnyE P md ops Q d S fuel listed' (a.put dst v) w) : wpAnyE P md ops Q d S (fuel + 1) listed a w := by
 subst hd; subst hl
 exact wpAnyE_take hi hs hf hr hw hQ hy hS h
theorem tkB (i : Nat) (dst : Tmp) {oi : Oper} {v : Value} {fuel : Nat} {listed : Array Bool} {a : Act} {w : World} (hS : S w) (h : wpAnyE P md ops Q d S fuel (listed.setIfInBounds i true) (a.put (some dst) v) w)
  (hi : ops[i]? = some oi := by rfl) (hd : oi.dst = some dst := by rfl)
  (hs : Region.noSelect ops = true := by kernel_rfl) (hf : Region.free md ops listed i = true := by kernel_rfl) (hr : (Region.ready md ops listed).contains i = true := by kernel_rfl) (hw : waitsB md ops d i = true := by kernel_rfl)
  (hQ : ∀ c a w, Q (.panic c) (a.put (some dst) v) w → Q (.panic c) a w := by exact fun _ _ _ h => h) (hg : Region.wanted oi (yielded ops a.tmps) = true := by rfl)
  (hy : ∀ w, S w → (execOp a.eval oi).run P w = .ok (.value v) w := by (intro w hSw; (try dsimp only at hSw); go_simp; all_goals with_reducible rfl)) : wpAnyE P md ops Q d S (fuel + 1) listed a w :=
 wpAnyE_tk _ (some dst) hi hd rfl hs hf hr hw hQ (Or.inl ⟨hg, hy⟩) hS h
def AllE (P : Program) (md : Region.Mode) (ops : Array Oper) (Q : Exit → Act → World → Prop) (d : Nat) (S : World → Prop) (fuel : Nat) (listed : Array Bool) (a : Act) (w : World) (rs : List Nat) : Prop :=
 ∀ i ∈ rs, wpOp P ops Q i (fun a' w' => (i ≠ d → S w') ∧ wpAnyE P md ops Q d S fuel (listed.setIfInBounds i true) a' w') a w
theorem AllE.nil {fuel : Nat} {listed : Array Bool} {a : Act} {w : World} : AllE P md ops Q d S fuel listed a w [] := fun _ h => by cases h
theorem AllE.cons {fuel : Nat} {listed : Array Bool} {a : Act} {w : World} {i : Nat} {o : Oper} {rs : List Nat} (ho : ops[i]? = some o)
  (h : ∀ K' : Act → World → Prop, Shut (∀ a w, (i ≠ d → S w) → wpAnyE P md ops Q d S fuel (listed.setIfInBounds i true) a w → K' a w) → if Region.wanted o (yielded ops a.tmps) = true then Oper.wp P o a w K' Q else K' (a.put o.dst undef) w)
  (hs : AllE P md ops Q d S fuel listed a w rs) : AllE P md ops Q d S fuel listed a w (i :: rs) := fun j hj => by
 rcases List.mem_cons.1 hj with rfl | hj
 ·exact wpOp_step ho (fun K' hK => h K' (fun a w hS hW => hK a w ⟨hS, hW⟩))
 ·exact hs j hj
theorem AllE.cons' {fuel : Nat} {listed : Array Bool} (listed' : Array Bool) {a : Act} {w : World} {i : Nat} {o : Oper} {rs : List Nat} (ho : ops[i]? = some o) (hl : listed.setIfInBounds i true = listed')
  (h : ∀ K' : Act → World → Prop, Shut (∀ a w, (i ≠ d → S w) → wpAnyE P md ops Q d S fuel listed' a w → K' a w) → if Region.wanted o (yielded ops a.tmps) = true then Oper.wp P o a w K' Q else K' (a.put o.dst undef) w)
  (hs : AllE P md ops Q d S fuel listed a w rs) : AllE P md ops Q d S fuel listed a w (i :: rs) := by
 subst hl
 exact AllE.cons ho h hs
theorem wpAnyE_ready {rs : List Nat} {fuel : Nat} {listed : Array Bool} {a : Act} {w : World} (hr : Region.ready md ops listed = rs) (hne : rs ≠ [])
  (h : AllE P md ops Q d S fuel listed a w rs) : wpAnyE P md ops Q d S (fuel + 1) listed a w := ⟨fun h0 => absurd (hr ▸ h0) hne, hr ▸ h⟩
theorem wpAnyE_done {listed : Array Bool} {a : Act} {w : World} (hr : Region.ready md ops listed = []) (h : Q .normal a w) :
  ∀ fuel, wpAnyE P md ops Q d S fuel listed a w
 | 0 => ⟨hr, h⟩
 | _ + 1 => ⟨fun _ => h, by rw [hr]; simp⟩
theorem wp_regionE (d : Nat) (S : World → Prop) {id : Nat} {a : Act} {w : World} (hm : P.follows .mixedOrders = true)
  (h : wpAnyE P .any ops Q d S ops.size (Array.replicate ops.size false) a w.drew) : (Code.region id ops true).wp P Q a w :=
 wp_region_any hm (wpAny_of_E _ _ _ _ h)
theorem wp_regionE' (d : Nat) (S : World → Prop) (n : Nat) (listed : Array Bool) {id : Nat} {a : Act} {w : World} (hm : P.follows .mixedOrders = true) (hn : ops.size = n) (hl : Array.replicate n false = listed)
  (h : wpAnyE P .any ops Q d S n listed a w.drew) : (Code.region id ops true).wp P Q a w := by
 subst hn; subst hl
 exact wp_regionE d S hm h
end
end
end Go.Proofs.YtendjepcjmfmfaaGreatDoor
namespace Go.Proofs.YtendjepcjmfmfaaGreatDoor
section
open Go.RowKit
variable {P : Program} {ops : Array Oper} {Q : Exit → Act → World → Prop} {md : Region.Mode}
def upward (ops : Array Oper) : Bool := (List.range ops.size).all fun i => ((ops[i]?).map fun o => o.after.all fun e => decide (e.on < i)).getD true
theorem getD_in {l : Array Bool} {i : Nat} (h : i < l.size) (d d' : Bool) : l.getD i d = l.getD i d' := by simp [Array.getD, h]
theorem count_set {l : Array Bool} {i : Nat} (h : l.getD i true = false) : (l.setIfInBounds i true).toList.count false + 1 = l.toList.count false := by
 have hi : i < l.size := by
  rcases Nat.lt_or_ge i l.size with h' | h'
  ·exact h'
  ·simp [Array.getD, Nat.not_lt.2 h'] at h
 have hv : l.toList[i]'(by simpa using hi) = false := by simpa [Array.getD, hi] using h
 have hpos : 0 < l.toList.count false := List.count_pos_iff.2 (by rw [← hv]; exact List.getElem_mem _)
 have e : (l.setIfInBounds i true).toList = l.toList.set i true := by simp
 rw [e, List.count_set (by simpa using hi), hv, if_pos (by rfl), if_neg (by decide)]
 omega
abbrev cv (b : Bool) (v : Value) : Value := bif b then v else undef
abbrev cl {α : Type} (b : Bool) (x : α) : List α := bif b then [x] else []
theorem Hp.ins {w W : World} {A B : List (Nat × TypeId × List Value)} (h : Hp w (A ++ B) W) (t : TypeId) (cs : List Value) : Hp w (A ++ (W.heap.size, t, cs) :: B) (W.alloc (.cells cs.toArray t)) := by
 have h1 := h.new t cs
 have hp : (A ++ (W.heap.size, t, cs) :: B).Perm ((A ++ B) ++ [(W.heap.size, t, cs)]) := List.perm_middle.trans (List.perm_append_singleton _ _).symm
 exact ⟨h1.below, fun p hm => h1.blk p (hp.subset hm), (hp.pairwise_iff (fun h => Ne.symm h)).2 h1.apart⟩
def upwardB (md : Region.Mode) (ops : Array Oper) : Bool := (List.range ops.size).all fun i => ((ops[i]?).map fun o => o.after.all fun e => !Region.binds md e || decide (e.on < i)).getD true
theorem upwardB_at (hu : upwardB md ops = true) {i : Nat} {o : Oper} (ho : ops[i]? = some o) : ∀ e ∈ o.after, Region.binds md e = true → e.on < i := by
 have hi : i < ops.size := (Array.getElem?_eq_some_iff.1 ho).1
 have h := List.all_eq_true.1 hu i (List.mem_range.2 hi)
 rw [ho] at h
 simp only [Option.map_some, Option.getD_some, Array.all_eq_true_iff_forall_mem, Bool.or_eq_true, Bool.not_eq_true', decide_eq_true_eq] at h
 intro e he hb
 rcases h e he with h | h
 ·rw [h] at hb; cases hb
 ·exact h
theorem ready_noneB (hu : upwardB md ops = true) {l : Array Bool} (hs : l.size = ops.size) (h : Region.ready md ops l = []) : ∀ i, i < ops.size → l.getD i true = true := by
 intro i
 induction i using Nat.strongRecOn with
 | _ i ih =>
  intro hi
  cases hb : l.getD i true with
  | true => rfl
  | false =>
   have ho : ops[i]? = some ops[i] := Array.getElem?_eq_getElem hi
   have hm : i ∈ Region.ready md ops l := mem_ready.2 ⟨hb, ops[i], ho, fun e he hbd => by
    have hlt := upwardB_at hu ho e he hbd
    rw [getD_in (by omega) false true]
    exact ih e.on hlt (by omega)⟩
   rw [h] at hm
   cases hm
theorem wpAny_invB (R : Array Bool → Act → World → Prop) (hu : upwardB md ops = true) (hsz : ∀ l a w, R l a w → l.size = ops.size)
  (hstep : ∀ l a w i o, R l a w → ops[i]? = some o → l.getD i true = false → (∀ e ∈ o.after, Region.binds md e = true → l.getD e.on false = true) →
   ∀ K : Act → World → Prop, Shut (∀ a' w', R (l.setIfInBounds i true) a' w' → K a' w') → if Region.wanted o (yielded ops a.tmps) = true then Oper.wp P o a w K Q else K (a.put o.dst undef) w)
  (hend : ∀ l a w, R l a w → (∀ i, i < ops.size → l.getD i true = true) → Q .normal a w) :
  ∀ fuel l a w, l.toList.count false ≤ fuel → R l a w → wpAny P md ops Q fuel l a w := by
 intro fuel
 induction fuel with
 | zero =>
  intro l a w hc hr
  have hn : Region.ready md ops l = [] := by
   refine List.eq_nil_iff_forall_not_mem.2 fun i hi => ?_
   have := count_set (mem_ready.1 hi).1
   omega
  exact ⟨hn, hend l a w hr (ready_noneB hu (hsz l a w hr) hn)⟩
 | succ n ih =>
  intro l a w hc hr
  refine ⟨fun hn => hend l a w hr (ready_noneB hu (hsz l a w hr) hn), fun i hi => ?_⟩
  obtain ⟨h0, o, ho, hall⟩ := mem_ready.1 hi
  have hcs := count_set h0
  exact wpOp_step ho fun K' hK => hstep l a w i o hr ho h0 hall K' fun a' w' hr' => hK a' w' (ih _ a' w' (by omega) hr')
theorem wp_regionJ (n : Nat) (l0 : Array Bool) (R : Array Bool → Act → World → Prop) {id : Nat} {a : Act} {w : World} (hm : P.follows .mixedOrders = true) (hn : ops.size = n) (hl : Array.replicate n false = l0) (hu : upwardB .any ops = true)
  (hsz : ∀ l a w, R l a w → l.size = n) (h0 : R l0 a w.drew)
  (hstep : ∀ l a w i o, R l a w → ops[i]? = some o → l.getD i true = false → (∀ e ∈ o.after, Region.binds .any e = true → l.getD e.on false = true) →
   ∀ K : Act → World → Prop, Shut (∀ a' w', R (l.setIfInBounds i true) a' w' → K a' w') → if Region.wanted o (yielded ops a.tmps) = true then Oper.wp P o a w K Q else K (a.put o.dst undef) w)
  (hend : ∀ l a w, R l a w → (∀ i, i < n → l.getD i true = true) → Q .normal a w) : (Code.region id ops true).wp P Q a w := by
 subst hn; subst hl
 exact wp_region_any hm (wpAny_invB R hu hsz hstep hend _ _ _ _ (by simp) h0)
end
end Go.Proofs.YtendjepcjmfmfaaGreatDoor
namespace Go.Proofs.YtendjepcjmfmfaaGreatDoor
open Go.RowKit
theorem getBX {md : Region.Mode} {l : Array Bool} {es : Array Edge} {x : Bool} (h : ∀ e ∈ es, Region.binds md e = true → l.getD e.on false = true) (j : Nat) (hx : l.getD j false = x) (hm : (es.any fun e => e.on == j && Region.binds md e) = true := by kernel_rfl) : x = true := by
 obtain ⟨e, he, h2⟩ := Array.any_eq_true'.1 hm
 rw [Bool.and_eq_true, beq_iff_eq] at h2
 rw [← hx, ← h2.1]
 exact h e he h2.2
abbrev cwX (b : Bool) (v x : Value) : Value := bif b then v else x
structure BxP (w : World) (A : List (Nat × TypeId × List Value)) (base : Nat) (t : TypeId) (zs ns : List Value) (u v : Bool) (g : Nat) (W : World) : Prop where
 hp : Hp w A W
 sz : base ≤ W.heap.size
 lo : ∀ p ∈ A, p.1 < base
 gb : u = true → base ≤ g
 b : u = true → v = false → Blk W g t zs
 c : u = true → v = true → Blk W g t ns
theorem Hp.farCell {w W : World} {A : List (Nat × TypeId × List Value)} (h : Hp w A W) {g o : Nat} (hg : ∀ p ∈ A, p.1 ≠ g) (hw : w.heap.size ≤ g) (x : Value) : Hp w A (W.setCell ⟨g, o, none⟩ x) :=
 ⟨bw_set h.below hw x, fun p hp => ⟨(h.blk p hp).1.far (hg p hp) x, (h.blk p hp).2⟩, h.apart⟩
theorem Hp.added {w W : World} {A : List (Nat × TypeId × List Value)} (h : Hp w A W) {g : Nat} {t : TypeId} {cs : List Value} (hb : Blk W g t cs) (hg : w.heap.size ≤ g) (hn : ∀ p ∈ A, p.1 ≠ g) : Hp w (A ++ [(g, t, cs)]) W :=
 ⟨h.below, fun p hp => by
  rcases List.mem_append.1 hp with hp | hp
  ·exact h.blk p hp
  ·rw [List.mem_singleton] at hp; subst hp; exact ⟨hb, hg⟩, List.pairwise_append.2 ⟨h.apart, List.pairwise_singleton _ _, fun p hp q hq => by rw [List.mem_singleton] at hq; subst hq; exact hn p hp⟩⟩
section
variable {w W W' : World} {A : List (Nat × TypeId × List Value)} {base : Nat} {t : TypeId} {zs ns : List Value} {u v : Bool} {g : Nat}
theorem BxP.start (h : Hp w A W) : BxP w A W.heap.size t zs ns false false 0 W :=
 ⟨h, Nat.le_refl _, fun p hp => (h.blk p hp).1.lt, fun e => (by cases e), fun e => (by cases e), fun e => (by cases e)⟩
theorem BxP.step (h : BxP w A base t zs ns u v g W) (hb : Below W.heap.size W W') : BxP w A base t zs ns u v g W' :=
 ⟨h.hp.step hb, Nat.le_trans h.sz hb.size, h.lo, h.gb, fun e e2 => (h.b e e2).below hb (h.b e e2).lt, fun e e2 => (h.c e e2).below hb (h.c e e2).lt⟩
theorem BxP.new (h : BxP w A base t zs ns u v g W) : BxP w A base t zs ns true false W.heap.size (W.alloc (.cells zs.toArray t)) :=
 ⟨h.hp.alloc _, Nat.le_trans h.sz (by rw [World.size_alloc]; omega), h.lo, fun _ => h.sz, fun _ _ => heap_alloc_new W _, fun _ e => (by cases e)⟩
theorem BxP.ge (h : BxP w A base t zs ns true v g W) (hw : w.heap.size ≤ base) : w.heap.size ≤ g ∧ ∀ p ∈ A, p.1 ≠ g := by
 have := h.gb rfl
 exact ⟨by omega, fun p hp e => by have := h.lo p hp; omega⟩
theorem BxP.put6 {a b c d x y a' b' c' d' x' y' : Value} (h : BxP w A base t [a, b, c, d, x, y] [a', b', c', d', x', y'] true false g W) (hw : w.heap.size ≤ base) :
  BxP w A base t [a, b, c, d, x, y] [a', b', c', d', x', y'] true true g ((((((W.setCell ⟨g, 0, none⟩ a').setCell ⟨g, 1, none⟩ b').setCell ⟨g, 2, none⟩ c').setCell ⟨g, 3, none⟩ d').setCell ⟨g, 4, none⟩ x').setCell ⟨g, 5, none⟩ y') := by
 obtain ⟨h1, h2⟩ := h.ge hw
 refine ⟨((((((h.hp.farCell h2 h1 _).farCell h2 h1 _).farCell h2 h1 _).farCell h2 h1 _).farCell h2 h1 _).farCell h2 h1 _), by simpa using h.sz, h.lo, h.gb, fun _ e => (by cases e), fun _ _ => ?_⟩
 exact ((((((h.b rfl rfl).put 0 a').put 1 b').put 2 c').put 3 d').put 4 x').put 5 y'
theorem BxP.done (h : BxP w A base t zs ns true true g W) (hw : w.heap.size ≤ base) : Hp w (A ++ [(g, t, ns)]) W := h.hp.added (h.c rfl rfl) (h.ge hw).1 (h.ge hw).2
end
end Go.Proofs.YtendjepcjmfmfaaGreatDoor
namespace Go.Proofs.YtendjepcjmfmfaaGreatDoor
open Go.RowKit
theorem Hp.boxA {w W : World} {L : List (Nat × TypeId × List Value)} {t : TypeId} {z c z2 c2 : List Value} {m5 m7 : Bool} {g1 g2 : Nat} {t2 : TypeId} (h : Hp w ((L ++ cl false (g1, t, bif false then c else z)) ++ cl m5 (g2, t2, bif m7 then c2 else z2)) W) :
  Hp w ((L ++ cl true (W.heap.size, t, bif false then c else z)) ++ cl m5 (g2, t2, bif m7 then c2 else z2)) (W.alloc (.cells z.toArray t)) := by
 have h2 : Hp w (L ++ cl m5 (g2, t2, bif m7 then c2 else z2)) W := by simpa only [cl, cond_false, List.append_nil] using h
 have := h2.ins t z
 simpa only [cl, cond_false, cond_true, List.append_assoc, List.singleton_append] using this
theorem Hp.boxB {w W : World} {L : List (Nat × TypeId × List Value)} {t : TypeId} {z c : List Value} {g2 : Nat} (h : Hp w (L ++ cl false (g2, t, bif false then c else z)) W) :
  Hp w (L ++ cl true (W.heap.size, t, bif false then c else z)) (W.alloc (.cells z.toArray t)) := by
 have h2 : Hp w L W := by simpa only [cl, cond_false, List.append_nil] using h
 exact h2.new t z
end Go.Proofs.YtendjepcjmfmfaaGreatDoor
