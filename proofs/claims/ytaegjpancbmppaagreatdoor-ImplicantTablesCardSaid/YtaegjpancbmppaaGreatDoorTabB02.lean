/- Part 2 of 33 of the proof of the law: contracts of the functions that it reaches, and plain facts. Conditions: those that each contract names. -/
import Derived.Test.YtaegjpancbmppaaGreatDoorTabB01
import Derived.Deep.RegionHeld3
import Derived.Test.YtaegjpancbmppaaGreatDoorChecked
import Derived.RegionTactic
set_option linter.unusedVariables false
set_option linter.unusedSimpArgs false
namespace Go.Proofs.YtaegjpancbmppaaGreatDoor
section
open Go.RowKit
structure Hp (w : World) (L : List (Nat × TypeId × List Value)) (W : World) : Prop where
 below : Below w.heap.size w W
 blk : ∀ p ∈ L, Blk W p.1 p.2.1 p.2.2 ∧ w.heap.size ≤ p.1
 apart : L.Pairwise (fun p q => p.1 ≠ q.1)
section
variable {w W W' : World} {L : List (Nat × TypeId × List Value)}
theorem Hp.start (w : World) : Hp w [] w := ⟨Below.refl _ _, fun _ h => absurd h List.not_mem_nil, List.Pairwise.nil⟩
theorem Hp.step (h : Hp w L W) (hb : Below W.heap.size W W') : Hp w L W' :=
 ⟨h.below.trans (hb.mono h.below.size), fun p hp => ⟨(h.blk p hp).1.below hb (h.blk p hp).1.lt, (h.blk p hp).2⟩, h.apart⟩
theorem Hp.drew (h : Hp w L W) : Hp w L W.drew := h.step (bw_drew (Below.refl _ _))
theorem Hp.drewN (h : Hp w L W) (k : Nat) : Hp w L (W.drewN k) := h.step (below_drewN _ _ _)
theorem Hp.alloc (h : Hp w L W) (o : Obj) : Hp w L (W.alloc o) := h.step (bw_new (Below.refl _ _) o)
theorem Hp.new (h : Hp w L W) (t : TypeId) (cs : List Value) : Hp w (L ++ [(W.heap.size, t, cs)]) (W.alloc (.cells cs.toArray t)) := by
 refine ⟨(h.alloc _).below, fun p hp => ?_, ?_⟩
 ·rcases List.mem_append.1 hp with hp | hp
  ·exact (h.alloc _).blk p hp
  ·obtain rfl := List.mem_singleton.1 hp
   exact ⟨heap_alloc_new W _, h.below.size⟩
 ·refine List.pairwise_append.2 ⟨h.apart, List.pairwise_singleton _ _, fun p hp q hq => ?_⟩
  obtain rfl := List.mem_singleton.1 hq
  have := (h.blk p hp).1.lt
  show p.1 ≠ W.heap.size
  omega
theorem Hp.at_ (h : Hp w L W) (i : Nat) {g : Nat} {t : TypeId} {cs : List Value} (e : L[i]? = some (g, t, cs)) : Blk W g t cs := (h.blk _ (List.mem_of_getElem? e)).1
theorem Hp.ge (h : Hp w L W) (i : Nat) {g : Nat} {t : TypeId} {cs : List Value} (e : L[i]? = some (g, t, cs)) : w.heap.size ≤ g := (h.blk _ (List.mem_of_getElem? e)).2
theorem Hp.put (h : Hp w L W) (i : Nat) {g : Nat} {t : TypeId} {cs : List Value} (e : L[i]? = some (g, t, cs)) (k : Nat) (u : Value) : Hp w (L.set i (g, t, cs.set k u)) (W.setCell ⟨g, k, none⟩ u) := by
 have hi : i < L.length := by
  rcases Nat.lt_or_ge i L.length with h' | h'
  ·exact h'
  ·rw [List.getElem?_eq_none h'] at e; cases e
 have hg : L[i] = (g, t, cs) := by rw [List.getElem?_eq_getElem hi] at e; exact Option.some.inj e
 refine ⟨bw_set h.below (h.ge i e) u, fun p hp => ?_, ?_⟩
 ·obtain ⟨j, hj, rfl⟩ := List.getElem_of_mem hp
  rw [List.length_set] at hj
  by_cases hji : i = j
  ·subst hji
   rw [List.getElem_set_self]
   exact ⟨(h.at_ i e).put k u, h.ge i e⟩
  ·rw [List.getElem_set_ne hji]
   obtain ⟨h1, h2⟩ := h.blk L[j] (List.getElem_mem _)
   refine ⟨h1.far ?_ _, h2⟩
   have hap := List.pairwise_iff_getElem.1 h.apart
   show L[j].1 ≠ g
   rcases Nat.lt_or_gt_of_ne hji with hlt | hlt
   ·have := hap i j hi hj hlt
    rw [hg] at this
    exact this.symm
   ·have := hap j i hj hi hlt
    rw [hg] at this
    exact this
 ·refine List.pairwise_iff_getElem.2 fun a b ha hb hab => ?_
  rw [List.length_set] at ha hb
  have hap := List.pairwise_iff_getElem.1 h.apart a b ha hb hab
  have hs : ∀ (c : Nat) (hc : c < (L.set i (g, t, cs.set k u)).length), ((L.set i (g, t, cs.set k u))[c]).1 = (L[c]'(by rw [List.length_set] at hc; exact hc)).1 := fun c hc => by
   by_cases hci : i = c
   ·subst hci; rw [List.getElem_set_self, hg]
   ·rw [List.getElem_set_ne hci]
  rw [hs a, hs b]
  exact hap
theorem Hp.ne (h : Hp w L W) (i j : Nat) {g g' : Nat} {t t' : TypeId} {cs cs' : List Value} (e : L[i]? = some (g, t, cs)) (e' : L[j]? = some (g', t', cs')) (hij : i ≠ j) : g ≠ g' := by
 obtain ⟨hi, h1⟩ := List.getElem?_eq_some_iff.1 e
 obtain ⟨hj, h2⟩ := List.getElem?_eq_some_iff.1 e'
 rcases Nat.lt_or_gt_of_ne hij with hlt | hlt
 ·have := List.pairwise_iff_getElem.1 h.apart i j hi hj hlt
  rw [h1, h2] at this; exact this
 ·have := List.pairwise_iff_getElem.1 h.apart j i hj hi hlt
  rw [h1, h2] at this; exact this.symm
theorem Hp.sub (h : Hp w L W) {L' : List (Nat × TypeId × List Value)} (hs : L'.Sublist L) : Hp w L' W := ⟨h.below, fun p hp => h.blk p (hs.subset hp), h.apart.sublist hs⟩
theorem Hp.put3 (h : Hp w L W) (i : Nat) {g : Nat} {t : TypeId} {a b c : Value} (e : L[i]? = some (g, t, [a, b, c])) (a' b' c' : Value) : Hp w (L.set i (g, t, [a', b', c'])) (((W.setCell ⟨g, 0, none⟩ a').setCell ⟨g, 1, none⟩ b').setCell ⟨g, 2, none⟩ c') := by
 have hi : i < L.length := (List.getElem?_eq_some_iff.1 e).1
 have h1 := ((h.put i e 0 a').put i (cs := [a', b, c]) (by rw [List.getElem?_set_self hi]; rfl) 1 b').put i (cs := [a', b', c]) (by rw [List.getElem?_set_self (by rw [List.length_set]; exact hi)]; rfl) 2 c'
 rw [List.set_set, List.set_set] at h1
 exact h1
theorem Hp.put4 (h : Hp w L W) (i : Nat) {g : Nat} {t : TypeId} {a b c d : Value} (e : L[i]? = some (g, t, [a, b, c, d])) (a' b' c' d' : Value) : Hp w (L.set i (g, t, [a', b', c', d'])) ((((W.setCell ⟨g, 0, none⟩ a').setCell ⟨g, 1, none⟩ b').setCell ⟨g, 2, none⟩ c').setCell ⟨g, 3, none⟩ d') := by
 have hi : i < L.length := (List.getElem?_eq_some_iff.1 e).1
 have h1 := (((h.put i e 0 a').put i (cs := [a', b, c, d]) (by rw [List.getElem?_set_self hi]; rfl) 1 b').put i (cs := [a', b', c, d]) (by rw [List.getElem?_set_self (by rw [List.length_set]; exact hi)]; rfl) 2 c').put i (cs := [a', b', c', d]) (by rw [List.getElem?_set_self (by rw [List.length_set, List.length_set]; exact hi)]; rfl) 3 d'
 rw [List.set_set, List.set_set, List.set_set] at h1
 exact h1
end
end
section
open Go.RowKit
section
variable {P : Program} {ops : Array Oper} {Q : Exit → Act → World → Prop} {md : Region.Mode} {d : Nat} {S S' : World → Prop}
def wpAnyE (P : Program) (md : Region.Mode) (ops : Array Oper) (Q : Exit → Act → World → Prop) (d : Nat) (S : World → Prop) : Nat → Array Bool → Act → World → Prop
 | 0, listed, a, w => Region.ready md ops listed = [] ∧ Q .normal a w
 | fuel + 1, listed, a, w => (Region.ready md ops listed = [] → Q .normal a w) ∧
  ∀ i ∈ Region.ready md ops listed, wpOp P ops Q i (fun a' w' => (i ≠ d → S w') ∧ wpAnyE P md ops Q d S fuel (listed.setIfInBounds i true) a' w') a w
def waitsB (md : Region.Mode) (ops : Array Oper) (d i : Nat) : Bool := match ops[d]? with
 | some od => od.after.toList.any fun e => Region.binds md e && e.on == i
 | none => true
def AllE (P : Program) (md : Region.Mode) (ops : Array Oper) (Q : Exit → Act → World → Prop) (d : Nat) (S : World → Prop) (fuel : Nat) (listed : Array Bool) (a : Act) (w : World) (rs : List Nat) : Prop :=
 ∀ i ∈ rs, wpOp P ops Q i (fun a' w' => (i ≠ d → S w') ∧ wpAnyE P md ops Q d S fuel (listed.setIfInBounds i true) a' w') a w
end
end
end Go.Proofs.YtaegjpancbmppaaGreatDoor
namespace Go.Proofs.YtaegjpancbmppaaGreatDoor
section
open Go.RowKit
variable {P : Program} {ops : Array Oper} {Q : Exit → Act → World → Prop} {md : Region.Mode}
def upward (ops : Array Oper) : Bool := (List.range ops.size).all fun i => ((ops[i]?).map fun o => o.after.all fun e => decide (e.on < i)).getD true
theorem getD_in {l : Array Bool} {i : Nat} (h : i < l.size) (d d' : Bool) : l.getD i d = l.getD i d' := by simp [Array.getD, h]
theorem count_set {l : Array Bool} {i : Nat} (h : l.getD i true = false) : (l.setIfInBounds i true).toList.count false + 1 = l.toList.count false := by
 have hi : i < l.size := by
  rcases Nat.lt_or_ge i l.size with h' | h'
  ·exact h'
  ·simp [Array.getD, Nat.not_lt.2 h'] at h
 have hv : l.toList[i]'(by simpa using hi) = false := by simpa [Array.getD, hi] using h
 have hpos : 0 < l.toList.count false := List.count_pos_iff.2 (by rw [← hv]; exact List.getElem_mem _)
 have e : (l.setIfInBounds i true).toList = l.toList.set i true := by simp
 rw [e, List.count_set (by simpa using hi), hv, if_pos (by rfl), if_neg (by decide)]
 omega
abbrev cv (b : Bool) (v : Value) : Value := bif b then v else undef
abbrev cl {α : Type} (b : Bool) (x : α) : List α := bif b then [x] else []
def upwardB (md : Region.Mode) (ops : Array Oper) : Bool := (List.range ops.size).all fun i => ((ops[i]?).map fun o => o.after.all fun e => !Region.binds md e || decide (e.on < i)).getD true
theorem upwardB_at (hu : upwardB md ops = true) {i : Nat} {o : Oper} (ho : ops[i]? = some o) : ∀ e ∈ o.after, Region.binds md e = true → e.on < i := by
 have hi : i < ops.size := (Array.getElem?_eq_some_iff.1 ho).1
 have h := List.all_eq_true.1 hu i (List.mem_range.2 hi)
 rw [ho] at h
 simp only [Option.map_some, Option.getD_some, Array.all_eq_true_iff_forall_mem, Bool.or_eq_true, Bool.not_eq_true', decide_eq_true_eq] at h
 intro e he hb
 rcases h e he with h | h
 ·rw [h] at hb; cases hb
 ·exact h
theorem ready_noneB (hu : upwardB md ops = true) {l : Array Bool} (hs : l.size = ops.size) (h : Region.ready md ops l = []) : ∀ i, i < ops.size → l.getD i true = true := by
 intro i
 induction i using Nat.strongRecOn with
 | _ i ih =>
  intro hi
  cases hb : l.getD i true with
  | true => rfl
  | false =>
   have ho : ops[i]? = some ops[i] := Array.getElem?_eq_getElem hi
   have hm : i ∈ Region.ready md ops l := mem_ready.2 ⟨hb, ops[i], ho, fun e he hbd => by
    have hlt := upwardB_at hu ho e he hbd
    rw [getD_in (by omega) false true]
    exact ih e.on hlt (by omega)⟩
   rw [h] at hm
   cases hm
theorem wpAny_invB (R : Array Bool → Act → World → Prop) (hu : upwardB md ops = true) (hsz : ∀ l a w, R l a w → l.size = ops.size)
  (hstep : ∀ l a w i o, R l a w → ops[i]? = some o → l.getD i true = false → (∀ e ∈ o.after, Region.binds md e = true → l.getD e.on false = true) →
   ∀ K : Act → World → Prop, Shut (∀ a' w', R (l.setIfInBounds i true) a' w' → K a' w') → if Region.wanted o (yielded ops a.tmps) = true then Oper.wp P o a w K Q else K (a.put o.dst undef) w)
  (hend : ∀ l a w, R l a w → (∀ i, i < ops.size → l.getD i true = true) → Q .normal a w) :
  ∀ fuel l a w, l.toList.count false ≤ fuel → R l a w → wpAny P md ops Q fuel l a w := by
 intro fuel
 induction fuel with
 | zero =>
  intro l a w hc hr
  have hn : Region.ready md ops l = [] := by
   refine List.eq_nil_iff_forall_not_mem.2 fun i hi => ?_
   have := count_set (mem_ready.1 hi).1
   omega
  exact ⟨hn, hend l a w hr (ready_noneB hu (hsz l a w hr) hn)⟩
 | succ n ih =>
  intro l a w hc hr
  refine ⟨fun hn => hend l a w hr (ready_noneB hu (hsz l a w hr) hn), fun i hi => ?_⟩
  obtain ⟨h0, o, ho, hall⟩ := mem_ready.1 hi
  have hcs := count_set h0
  exact wpOp_step ho fun K' hK => hstep l a w i o hr ho h0 hall K' fun a' w' hr' => hK a' w' (ih _ a' w' (by omega) hr')
theorem wp_regionJ (n : Nat) (l0 : Array Bool) (R : Array Bool → Act → World → Prop) {id : Nat} {a : Act} {w : World} (hm : P.follows .mixedOrders = true) (hn : ops.size = n) (hl : Array.replicate n false = l0) (hu : upwardB .any ops = true)
  (hsz : ∀ l a w, R l a w → l.size = n) (h0 : R l0 a w.drew)
  (hstep : ∀ l a w i o, R l a w → ops[i]? = some o → l.getD i true = false → (∀ e ∈ o.after, Region.binds .any e = true → l.getD e.on false = true) →
   ∀ K : Act → World → Prop, Shut (∀ a' w', R (l.setIfInBounds i true) a' w' → K a' w') → if Region.wanted o (yielded ops a.tmps) = true then Oper.wp P o a w K Q else K (a.put o.dst undef) w)
  (hend : ∀ l a w, R l a w → (∀ i, i < n → l.getD i true = true) → Q .normal a w) : (Code.region id ops true).wp P Q a w := by
 subst hn; subst hl
 exact wp_region_any hm (wpAny_invB R hu hsz hstep hend _ _ _ _ (by simp) h0)
end
end Go.Proofs.YtaegjpancbmppaaGreatDoor
namespace Go.Proofs.YtaegjpancbmppaaGreatDoor
open Go.RowKit
theorem set_of {W : World} {g : Nat} {t : TypeId} {M : Nat} (h : Blk W g t (setL M)) : W.cell? ⟨g, 0, none⟩ = some (.int .u64 (wd M 0 : Nat)) ∧ W.cell? ⟨g, 1, none⟩ = some (.int .u64 (wd M 1 : Nat)) ∧ W.cell? ⟨g, 2, none⟩ = some (.int .u64 (wd M 2 : Nat)) ∧ W.cell? ⟨g, 3, none⟩ = some (.int .u64 (wd M 3 : Nat)) := ⟨h.cell 0, h.cell 1, h.cell 2, h.cell 3⟩
theorem set_at {W : World} {g : Nat} {t : TypeId} {M k : Nat} (h : Blk W g t (setL M)) (hk : k < 4) : W.cell? ⟨g, k, none⟩ = some (.int .u64 (wd M k : Nat)) := by
 rcases (show k = 0 ∨ k = 1 ∨ k = 2 ∨ k = 3 by omega) with rfl | rfl | rfl | rfl
 ·exact h.cell 0
 ·exact h.cell 1
 ·exact h.cell 2
 ·exact h.cell 3
theorem has_bits (M r : Nat) : (bits .and .u64 ((wd M (r / 64) : Int) / 2 ^ (r % 64)) 1 == 1) = M.testBit r := by
 have e : ((wd M (r / 64) : Int) / 2 ^ (r % 64)) = ((wd M (r / 64) / 2 ^ (r % 64) : Nat) : Int) := by
  rw [Int.natCast_ediv, Int.natCast_pow]; rfl
 have hl : wd M (r / 64) / 2 ^ (r % 64) < 18446744073709551616 := Nat.lt_of_le_of_lt (Nat.div_le_self _ _) (wd_lt _ _)
 have h := wd_has M r
 rw [e, show (1 : Int) = ((1 : Nat) : Int) from rfl, and_u64 hl (by decide)]
 cases ht : M.testBit r with
 | true => rw [h.2 ht]; rfl
 | false =>
  have hn : ¬ (wd M (r / 64) / 2 ^ (r % 64) &&& 1 = 1) := fun k => by rw [h.1 k] at ht; cases ht
  rw [beq_eq_false_iff_ne]
  intro k
  exact hn (Int.natCast_inj.1 k)
set_option maxRecDepth 100000 in
set_option maxHeartbeats 2000000 in
theorem ihas_any (M r : Nat) (w : World) (hr : r < 256) :
  Calls Tryz.prog 56 #[.agg (setL M).toArray, .int .i64 (r : Int)] w fun e w' => e = .returned (.bool (M.testBit r)) ∧ Below w.heap.size w w' := by
 have hm0 := (Hp.start w).new 84 (setL M)
 simp only [List.nil_append] at hm0
 have HM0 := Lib.hid hm0
 have c0 := set_at (hm0.at_ 0 rfl) (show r / 64 < 4 by omega)
 clear hm0
 go_enter Tryz.func56, Tryz.ntmps56
 go_wp2_with fail
 exact bodyPost_ret (v := .bool (bits .and .u64 ((wd M (r / 64) : Int) / 2 ^ (r % 64)) 1 == 1)) (by simp [results, Tryz.results56, go_sem]) rfl ⟨by rw [has_bits], HM0.out.below⟩
theorem adn_lt64 (M N k : Nat) : adn (wd M k) (wd N k) < 18446744073709551616 := Nat.lt_of_le_of_lt (adn_le _ _) (wd_lt _ _)
theorem and_lt64 (M N k : Nat) : wd M k &&& wd N k < 18446744073709551616 := Nat.lt_of_le_of_lt Nat.and_le_left (wd_lt _ _)
theorem or_lt64 {a b : Nat} (ha : a < 18446744073709551616) (hb : b < 18446744073709551616) : a ||| b < 18446744073709551616 := Nat.or_lt_two_pow (n := 64) ha hb
theorem within_bits (M N : Nat) (h : M < 2 ^ 256) : (bits .or .u64 (bits .or .u64 (bits .or .u64 (bits .andNot .u64 (wd M 0 : Nat) (wd N 0 : Nat)) (bits .andNot .u64 (wd M 1 : Nat) (wd N 1 : Nat))) (bits .andNot .u64 (wd M 2 : Nat) (wd N 2 : Nat))) (bits .andNot .u64 (wd M 3 : Nat) (wd N 3 : Nat)) == 0) = (adn M N == 0) := by
 rw [adn_u64 (wd_lt _ _) (wd_lt _ _), adn_u64 (wd_lt _ _) (wd_lt _ _), adn_u64 (wd_lt _ _) (wd_lt _ _), adn_u64 (wd_lt _ _) (wd_lt _ _), or_u64 (adn_lt64 _ _ _) (adn_lt64 _ _ _), or_u64 (or_lt64 (adn_lt64 _ _ _) (adn_lt64 _ _ _)) (adn_lt64 _ _ _), or_u64 (or_lt64 (or_lt64 (adn_lt64 _ _ _) (adn_lt64 _ _ _)) (adn_lt64 _ _ _)) (adn_lt64 _ _ _)]
 rw [← wd_adn, ← wd_adn, ← wd_adn, ← wd_adn]
 have k := wd_nil (adn_lt (N := N) h)
 rw [Bool.eq_iff_iff, beq_iff_eq, beq_iff_eq, ← k, show (0 : Int) = ((0 : Nat) : Int) from rfl, Int.natCast_inj]
theorem meets_bits (M N : Nat) (h : M < 2 ^ 256) : (bits .or .u64 (bits .or .u64 (bits .or .u64 (bits .and .u64 (wd M 0 : Nat) (wd N 0 : Nat)) (bits .and .u64 (wd M 1 : Nat) (wd N 1 : Nat))) (bits .and .u64 (wd M 2 : Nat) (wd N 2 : Nat))) (bits .and .u64 (wd M 3 : Nat) (wd N 3 : Nat)) != 0) = (M &&& N != 0) := by
 rw [and_u64 (wd_lt _ _) (wd_lt _ _), and_u64 (wd_lt _ _) (wd_lt _ _), and_u64 (wd_lt _ _) (wd_lt _ _), and_u64 (wd_lt _ _) (wd_lt _ _), or_u64 (and_lt64 _ _ _) (and_lt64 _ _ _), or_u64 (or_lt64 (and_lt64 _ _ _) (and_lt64 _ _ _)) (and_lt64 _ _ _), or_u64 (or_lt64 (or_lt64 (and_lt64 _ _ _) (and_lt64 _ _ _)) (and_lt64 _ _ _)) (and_lt64 _ _ _)]
 rw [← wd_and, ← wd_and, ← wd_and, ← wd_and]
 have k := wd_nil (and_lt (N := N) h)
 rw [Bool.eq_iff_iff, bne_iff_ne, bne_iff_ne, ne_eq, ne_eq, ← k, show (0 : Int) = ((0 : Nat) : Int) from rfl, Int.natCast_inj]
set_option maxRecDepth 100000 in
set_option maxHeartbeats 2000000 in
theorem iwithin_any (M N : Nat) (w : World) (h : M < 2 ^ 256) :
  Calls Tryz.prog 49 #[.agg (setL M).toArray, .agg (setL N).toArray] w fun e w' => e = .returned (.bool (adn M N == 0)) ∧ Below w.heap.size w w' := by
 have hm0 := ((Hp.start w).new 84 (setL M)).new 84 (setL N)
 simp only [World.size_alloc, List.nil_append, List.cons_append] at hm0
 have HM0 := Lib.hid hm0
 obtain ⟨c0, c1, c2, c3⟩ := set_of (hm0.at_ 0 rfl)
 obtain ⟨d0, d1, d2, d3⟩ := set_of (hm0.at_ 1 rfl)
 have HB := Lib.hid (within_bits M N h)
 clear hm0 h
 go_enter Tryz.func49, Tryz.ntmps49
 go_wp2_with fail
 exact bodyPost_ret (v := .bool _) (by simp [results, Tryz.results49, go_sem]; rfl) rfl ⟨by rw [HB.out], HM0.out.below⟩
set_option maxRecDepth 100000 in
set_option maxHeartbeats 2000000 in
theorem imeets_any (M N : Nat) (w : World) (h : M < 2 ^ 256) :
  Calls Tryz.prog 57 #[.agg (setL M).toArray, .agg (setL N).toArray] w fun e w' => e = .returned (.bool (M &&& N != 0)) ∧ Below w.heap.size w w' := by
 have hm0 := ((Hp.start w).new 84 (setL M)).new 84 (setL N)
 simp only [World.size_alloc, List.nil_append, List.cons_append] at hm0
 have HM0 := Lib.hid hm0
 obtain ⟨c0, c1, c2, c3⟩ := set_of (hm0.at_ 0 rfl)
 obtain ⟨d0, d1, d2, d3⟩ := set_of (hm0.at_ 1 rfl)
 have HB := Lib.hid (meets_bits M N h)
 clear hm0 h
 go_enter Tryz.func57, Tryz.ntmps57
 go_wp2_with fail
 exact bodyPost_ret (v := .bool _) (by simp [results, Tryz.results57, go_sem]; rfl) rfl ⟨by rw [HB.out], HM0.out.below⟩
end Go.Proofs.YtaegjpancbmppaaGreatDoor
namespace Go.Proofs.YtaegjpancbmppaaGreatDoor
open Go.RowKit
theorem getBX {md : Region.Mode} {l : Array Bool} {es : Array Edge} {x : Bool} (h : ∀ e ∈ es, Region.binds md e = true → l.getD e.on false = true) (j : Nat) (hx : l.getD j false = x) (hm : (es.any fun e => e.on == j && Region.binds md e) = true := by kernel_rfl) : x = true := by
 obtain ⟨e, he, h2⟩ := Array.any_eq_true'.1 hm
 rw [Bool.and_eq_true, beq_iff_eq] at h2
 rw [← hx, ← h2.1]
 exact h e he h2.2
abbrev cwX (b : Bool) (v x : Value) : Value := bif b then v else x
structure BxP (w : World) (A : List (Nat × TypeId × List Value)) (base : Nat) (t : TypeId) (zs ns : List Value) (u v : Bool) (g : Nat) (W : World) : Prop where
 hp : Hp w A W
 sz : base ≤ W.heap.size
 lo : ∀ p ∈ A, p.1 < base
 gb : u = true → base ≤ g
 b : u = true → v = false → Blk W g t zs
 c : u = true → v = true → Blk W g t ns
theorem Hp.added {w W : World} {A : List (Nat × TypeId × List Value)} (h : Hp w A W) {g : Nat} {t : TypeId} {cs : List Value} (hb : Blk W g t cs) (hg : w.heap.size ≤ g) (hn : ∀ p ∈ A, p.1 ≠ g) : Hp w (A ++ [(g, t, cs)]) W :=
 ⟨h.below, fun p hp => by
  rcases List.mem_append.1 hp with hp | hp
  ·exact h.blk p hp
  ·rw [List.mem_singleton] at hp; subst hp; exact ⟨hb, hg⟩, List.pairwise_append.2 ⟨h.apart, List.pairwise_singleton _ _, fun p hp q hq => by rw [List.mem_singleton] at hq; subst hq; exact hn p hp⟩⟩
section
variable {w W W' : World} {A : List (Nat × TypeId × List Value)} {base : Nat} {t : TypeId} {zs ns : List Value} {u v : Bool} {g : Nat}
theorem BxP.start (h : Hp w A W) : BxP w A W.heap.size t zs ns false false 0 W :=
 ⟨h, Nat.le_refl _, fun p hp => (h.blk p hp).1.lt, fun e => (by cases e), fun e => (by cases e), fun e => (by cases e)⟩
theorem BxP.step (h : BxP w A base t zs ns u v g W) (hb : Below W.heap.size W W') : BxP w A base t zs ns u v g W' :=
 ⟨h.hp.step hb, Nat.le_trans h.sz hb.size, h.lo, h.gb, fun e e2 => (h.b e e2).below hb (h.b e e2).lt, fun e e2 => (h.c e e2).below hb (h.c e e2).lt⟩
theorem BxP.new (h : BxP w A base t zs ns u v g W) : BxP w A base t zs ns true false W.heap.size (W.alloc (.cells zs.toArray t)) :=
 ⟨h.hp.alloc _, Nat.le_trans h.sz (by rw [World.size_alloc]; omega), h.lo, fun _ => h.sz, fun _ _ => heap_alloc_new W _, fun _ e => (by cases e)⟩
theorem BxP.ge (h : BxP w A base t zs ns true v g W) (hw : w.heap.size ≤ base) : w.heap.size ≤ g ∧ ∀ p ∈ A, p.1 ≠ g := by
 have := h.gb rfl
 exact ⟨by omega, fun p hp e => by have := h.lo p hp; omega⟩
theorem BxP.done (h : BxP w A base t zs ns true true g W) (hw : w.heap.size ≤ base) : Hp w (A ++ [(g, t, ns)]) W := h.hp.added (h.c rfl rfl) (h.ge hw).1 (h.ge hw).2
end
end Go.Proofs.YtaegjpancbmppaaGreatDoor
