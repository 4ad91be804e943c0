/- Part 22 of 33 of the proof of the law: contracts of the functions that it reaches, and plain facts. Conditions: those that each contract names. -/
import Derived.Test.YtaegjpancbmppaaGreatDoorSumB18
import Derived.Test.YtaegjpancbmppaaGreatDoorSumB19
import Derived.Test.YtaegjpancbmppaaGreatDoorSumB20
import Derived.LoopNIn
import Derived.Test.YtaegjpancbmppaaGreatDoorSumB21
set_option linter.unusedVariables false
set_option linter.unusedSimpArgs false
namespace Go.Proofs.YtaegjpancbmppaaGreatDoor
open Go.RowKit Go.Shelf Go.Sort
attribute [local go_sem] Oper.semAt_some
def Fm.vars (t : Fm) : List Int := (t.nodes.filter fun x => x.1 == 1).map fun x => x.2.1
def vsQ {Q : Int → Int → Nat → Prop} (ys : List (FzQ Q)) : List Int := (ys.filter fun x => x.1.k == 1).map fun x => x.1.a
theorem vsQ_nodes {Q : Int → Int → Nat → Prop} {t : Fm} {ys : List (FzQ Q)} (h : ys.map FzQ.sh = t.nodes) : vsQ ys = t.vars := by
 unfold Fm.vars vsQ
 rw [← h, List.filter_map, List.map_map]
 rfl
theorem vsQ_snoc {Q : Int → Int → Nat → Prop} (ys : List (FzQ Q)) (x : FzQ Q) : vsQ (ys ++ [x]) = vsQ ys ++ if (x.1.k == 1) = true then [x.1.a] else [] := by
 unfold vsQ
 rw [List.filter_append, List.filter_cons]
 cases (x.1.k == 1) <;> simp
theorem vars_len (t : Fm) : t.vars.length ≤ t.size := by
 unfold Fm.vars
 rw [List.length_map, ← Fm.nodes_len]
 exact List.length_filter_le _ _
theorem kpF_app {n₀ B n base : Nat} {W w1 : World} {tmp : Obj} {v u : Value} {xs : List Value} (hv : Boxed W B 24 v) (hrow : W.ownsRow base 3 1 v n xs) (hgrow : (W.alloc tmp).grownBy w1 v.ownBlock) (hb : Below n₀ W (w1.setCell ⟨B, 0, none⟩ u)) : KpF n₀ W (w1.setCell ⟨B, 0, none⟩ u) := by
 refine ⟨hb, fun b cs t fr hbk ht => ?_⟩
 have hlt : b < W.heap.size := (Array.getElem?_eq_some_iff.1 hbk).1
 have h1 : (W.alloc tmp).heap[b]? = W.heap[b]? := Below.heap_alloc _ _ _ hlt
 have h2 : w1.heap[b]? = (W.alloc tmp).heap[b]? := hgrow.block b (by simp; omega) (fun e => by
  rcases hrow.2 with ⟨rfl, _⟩ | ⟨g, cap, cur, rfl, _, hgb, _⟩
  ·cases e
  ·obtain rfl : b = g := by simpa [Value.ownBlock] using e
   rw [hgb] at hbk
   cases hbk
   rcases ht with ht | ht <;> cases ht)
 have h3 : (w1.setCell ⟨B, 0, none⟩ u).heap[b]? = w1.heap[b]? := Below.heap_setCell w1 _ _ b (by
  show b ≠ B
  intro e
  subst e
  rw [show W.heap[b]? = _ from hv] at hbk
  cases hbk
  rcases ht with ht | ht <;> cases ht)
 exact h3.trans (h2.trans h1)
theorem own_pre {w : World} {base g c n : Nat} {ts L R : List Int} (h : w.ownsRow base 3 1 (.slice (some ⟨g, 0, none⟩) n c) n (ts.map (Value.int .i64))) (hp : ts = L ++ R) : Rd iz w w.heap.size (some ⟨g, 0, none⟩) L := fun hl => by
 have hlen : ts.length = n := by have := h.1; simpa using this
 rcases h.2 with ⟨h1, _⟩ | ⟨g', cap, cur, hv, hb, hg, hnc, hm, hs, ht⟩
 ·cases h1
 ·injection hv with e1 e2 e3
  injection e1 with e1
  injection e1 with e1 _ _
  subst e1
  refine ⟨g, 0, rfl, (Array.getElem?_eq_some_iff.1 hg).1, fun i hi => ?_⟩
  have hin : i < n := by rw [← hlen, hp, List.length_append]; omega
  have h2 : (cur.toList.take (n * 1))[i]? = (ts.map (Value.int .i64))[i]? := by rw [ht]
  rw [List.getElem?_take, if_pos (by omega), List.getElem?_map, hp, List.getElem?_append_left hi, List.getElem?_eq_getElem hi] at h2
  rw [cell_of_row w g _ cur _ (0, 0) hg, Nat.zero_add, ← Array.getElem?_toList, h2]
  rfl
theorem compv_own {w : World} {base c g : Nat} (l : List Int) (h : w.ownsRow base 3 1 (.slice (some ⟨g, 0, none⟩) l.length c) l.length (l.map (Value.int .i64))) (hmx : l.length ≤ 1000000) :
  Calls Tryz.prog 91 #[.slice (some ⟨g, 0, none⟩) l.length c] w fun e w' => e = .returned (.slice (some ⟨g, 0, none⟩) (Lib.compact l).length c) ∧ w'.ownsRow base 3 1 (.slice (some ⟨g, 0, none⟩) l.length c) l.length ((Lib.compact l ++ List.replicate (l.length - (Lib.compact l).length) 0).map (Value.int .i64)) ∧ w.grownBy w' (some g) := by
 rcases h.2 with ⟨h1, _⟩ | ⟨g', cap, cur, hv, hb, hg, hnc, hm, hs, ht⟩
 ·cases h1
 ·injection hv with e1 e2 e3
  injection e1 with e1
  injection e1 with e1 _ _
  subst e1; subst e3
  rw [Nat.mul_one] at ht
  have hH := holds_of_blockI hg ht
  have hlen : (Lib.compact l ++ List.replicate (l.length - (Lib.compact l).length) (0 : Int)).length = l.length := by
   have := Lib.compact_length_le l
   rw [List.length_append, List.length_replicate]; omega
  refine (Tryz.slices_Compact_int g 0 c l w hH (by omega) hnc).mono ?_
  rintro e w' ⟨rfl, q, rfl⟩
  refine ⟨rfl, ?_, ?_⟩
  ·have := ownsRow_sortedI (w := w) (base := base) (n := q) (os := #[]) hlen hb hg hnc hm hs
   rwa [grow_empty] at this
  ·have := grownBy_sortedI (w := w) (g := g) (n := q) (os := #[]) (Lib.compact l ++ List.replicate (l.length - (Lib.compact l).length) (0 : Int)).toArray
   rwa [grow_empty] at this
theorem srZ_facts (l : List Int) : (srZ l).Pairwise (· ≤ ·) ∧ (srZ l).length = l.length ∧ ∀ x, x ∈ srZ l ↔ x ∈ l := by
 refine ⟨?_, (List.mergeSort_perm _ _).length_eq, fun x => (List.mergeSort_perm _ _).mem_iff⟩
 have := List.pairwise_mergeSort (le := fun x y : Int => decide (x ≤ y)) (fun a b c h1 h2 => by simp at *; omega) (fun a b => by simp; omega) l
 exact this.imp fun h => by simpa using h
def SupPost (l : List Int) (W : World) (e : Ending) (W' : World) : Prop :=
 ∃ (A : Option Addr) (c : Nat) (L : List Int), e = .returned (.slice A L.length c) ∧ Rd iz W' W'.heap.size A L ∧ L.Pairwise (· < ·) ∧ (∀ x, x ∈ L ↔ x ∈ l) ∧ L.length ≤ 10000 ∧ Below W.heap.size W W'
set_option maxRecDepth 1000000 in
set_option maxHeartbeats 4000000 in
theorem support_in (t : Fm) (g off c : Nat) (A : Option Addr) (cf : Nat) (W : World) (hs : t.size ≤ 10000) (hg : g < W.heap.size)
  (h0 : W.cell? ⟨g, off, none⟩ = some (.int .i64 t.k)) (h1 : W.cell? ⟨g, off + 1, none⟩ = some (.int .i64 t.a)) (h2 : W.cell? ⟨g, off + 2, none⟩ = some (.slice A t.l.length cf)) (hA : FsR W (lowB W.heap.size) A t.l) :
  CallsIn Fence.wide 8 Tryz.prog 75 #[.slice (some ⟨g, off, none⟩) 1 c] W (SupPost t.vars W) := by
 have HS := Lib.hid (And.intro hs hA)
 obtain ⟨i0, hi, hz0, hz1, hz2⟩ := info_parts infoIntV
 obtain ⟨nl, hnl⟩ : ∃ n, n = t.l.length := ⟨_, rfl⟩
 obtain ⟨k, hk⟩ : ∃ n, n = t.k := ⟨_, rfl⟩
 obtain ⟨a, ha⟩ : ∃ n, n = t.a := ⟨_, rfl⟩
 rw [← hk] at h0
 rw [← ha] at h1
 rw [← hnl] at h2
 have HE := Lib.hid (And.intro hk (And.intro ha hnl))
 clear hk ha hnl hs hA
 refine callsIn_of_wp_marks Tryz.func75 rfl trivial ?_ rfl
 simp only [Tryz.ntmps75, List.size_toArray, List.length_cons, List.length_nil, Nat.reduceAdd, Nat.reduceSub, Array.replicate_succ, Array.replicate_zero, List.push_toArray, List.append_toArray, List.nil_append, List.cons_append]
 gi_wp2_with fail
 refine wpIn_loop_rounds 2 ?_
 rw [roundsIn_succ]
 gi_wp2_with fail
 refine ⟨trivial, ?_⟩
 have hb0 := bw_new (Below.refl W.heap.size W) (.cells #[.slice none 0 0] 24)
 have bO := Boxed.new W 24 (.slice none 0 0)
 obtain ⟨X0, hX0⟩ : ∃ X, X = W.alloc (.cells #[.slice none 0 0] 24) := ⟨_, rfl⟩
 rw [← hX0] at hb0 bO ⊢
 have hb1 := bw_new (Below.refl X0.heap.size X0) (.cells #[.int .i64 k, .int .i64 a, .slice A nl cf] 53)
 obtain ⟨X, hX⟩ : ∃ X, X = X0.alloc (.cells #[.int .i64 k, .int .i64 a, .slice A nl cf] 53) := ⟨_, rfl⟩
 rw [← hX] at hb1 ⊢
 have HB1 := Lib.hid (hb0.trans (hb1.mono hb0.size))
 have HO1 := Lib.hid (show Boxed X W.heap.size 24 (.slice none 0 0) from (hb1.block _ bO.lt).trans bO)
 clear hX hX0 hb0 hb1 bO h0 h1 h2
 refine (callsIn_wide.2 (inodes_any k a A nl cf X)).mono ?_
 rintro e W2 ⟨tb, fb, rfl, hb, hT, hF⟩
 have HB2 := Lib.hid (HB1.out.trans (hb.mono HB1.out.size))
 have HO2 := Lib.hid (show Boxed W2 W.heap.size 24 (.slice none 0 0) from (hb.block _ HO1.out.lt).trans HO1.out)
 have HT := Lib.hid hT
 have HF := Lib.hid hF
 clear hb hT hF
 gi_wp2_with fail
 have hFs : FsR W2 (lowB W.heap.size) A t.l := HS.out.2.lowK HB2.out
 have hn2 : W.heap.size ≤ W2.heap.size := HB2.out.size
 refine wpIn_rangeFunc_ownH rfl (by omega) (gf := 96) (lb := #[.pointer (some ⟨tb, 0, none⟩), .pointer (some ⟨fb, 0, none⟩)]) rfl trivial (enters_of Tryz.func96 (by kernel_rfl) rfl)
  (nodes_stops (fun _ _ _ => True) 7 (by omega) W.heap.size tb fb t A cf W2 HS.out.1 (fun _ _ => trivial) hFs hn2 HT.out (by have := HF.out; rw [HE.out.1, HE.out.2.1, HE.out.2.2] at this; exact this)) KpF.trans (kpF_putObj hn2) (Below.refl _ _) (fun _ => rfl)
  (fun pre Wr => (∃ v, Boxed Wr W.heap.size 24 v ∧ Wr.ownsRow W.heap.size 3 1 v (vsQ pre).length ((vsQ pre).map (Value.int .i64)) ∧ (v = .slice none 0 0 ↔ vsQ pre = [])) ∧ Below W.heap.size W Wr) (fun _ _ _ => False)
  (OwnFrom.and (Own.from (holdsRow_own W.heap.size W.heap.size 24 3 1 (fun pre : List (FzQ fun _ _ _ => True) => (vsQ pre).length) (fun pre => (vsQ pre).map (Value.int .i64)) (fun pre v => v = .slice none 0 0 ↔ vsQ pre = [])) _) (ownFrom_below (Nat.le_refl _) hn2)) (fun _ _ _ _ _ hs _ _ => hs)
  ⟨⟨_, HO2.out, World.ownsRow_nil _ _ _ _, by simp [vsQ]⟩, HB2.out⟩
  (fun x a' Wr => ∃ b, Blk Wr b 53 (fcL x.1.k x.1.a x.1.A x.1.n x.1.c) ∧ a' = { tmps := #[.slice (some ⟨g, off, none⟩) 1 c, undef, .slice none 0 0, .pointer (some ⟨W.heap.size, 0, none⟩), undef, .pointer (some ⟨W.heap.size + 1, 0, none⟩), .pointer (some ⟨b, 0, none⟩), .slice (some ⟨g, off, none⟩) 1 c, .int .i64 1, .int .i64 0, .bool true, .pointer (some ⟨g, off, none⟩), .agg #[.int .i64 k, .int .i64 a, .slice A nl cf], .agg #[.int .i64 k, .int .i64 a, .slice A nl cf], .func (.func 96) #[] #[.pointer (some ⟨tb, 0, none⟩), .pointer (some ⟨fb, 0, none⟩)], .agg #[.int .i64 x.1.k, .int .i64 x.1.a, .slice x.1.A x.1.n x.1.c], undef, undef, undef, undef, undef, undef, undef, undef, undef, undef, undef, undef, undef], defers := [] })
  (fun x a' _ X Y row hs hg hrow => by obtain ⟨b, hb, e⟩ := hs; exact ⟨b, (Own.from (blk_own b _ _) W2.heap.size) () X Y row hb hg hrow, e⟩) ?assign ?body ?done ?stop
 case assign =>
  rintro l pre ⟨⟨xk, xa, xA, xn, xc⟩, hx⟩ Wr K hI hK
  have HI := Lib.hid hI
  have HK := Lib.hid hK
  clear hI hK
  simp only [Fz.v]
  gi_wp2_with fail
  have hbn := bw_new (Below.refl Wr.heap.size Wr) (.cells #[.int .i64 xk, .int .i64 xa, .slice xA xn xc] 53)
  have hnw : W.heap.size ≤ Wr.heap.size := HI.out.2.size
  obtain ⟨⟨v, hv, hrow, hnil⟩, hBl⟩ := HI.out
  exact HK.out _ _ (kf_below hbn) (KpF.below hbn hnw) ⟨⟨v, (hbn.block _ hv.lt).trans hv, own_blI hrow hbn, hnil⟩, hBl.trans (hbn.mono hnw)⟩ ⟨Wr.heap.size, heap_alloc_new Wr _, rfl⟩
 case body =>
  rintro l pre ⟨⟨xk, xa, xA, xn, xc⟩, hx⟩ a' Wr - - hI ⟨b, hb, rfl⟩ hlen
  obtain ⟨⟨v, hv, hrow, hnil⟩, hBl⟩ := hI
  have q0 : Wr.cell? ⟨b, 0, none⟩ = some (.int .i64 xk) := hb.cell 0
  have q1 : Wr.cell? ⟨b, 1, none⟩ = some (.int .i64 xa) := hb.cell 1
  have hc := hv.cell
  have HSN := Lib.hid (vsQ_snoc (Q := fun _ _ _ => True) pre ⟨⟨xk, xa, xA, xn, xc⟩, hx⟩)
  have hnw : W.heap.size ≤ Wr.heap.size := hBl.size
  have hln : (vsQ pre).length ≤ pre.length := by unfold vsQ; rw [List.length_map]; exact List.length_filter_le _ _
  have HB := Lib.hid hBl
  have HNIL := Lib.hid hnil
  clear hb hBl hnil
  by_cases hk1 : xk = 1
  ·subst hk1
   gi_wp2_with (gi_at_builtin; refine wpListIn_append_own _ rfl _ _ 24 rfl W.heap.size 3 i0 (.int .i64 0) 1 8 Tryz.underlying24 hi hz0 hz1 hz2 rfl (by decide) _ _ _ rfl (hrow.alloc _) ⟨Wr.heap.size, 0, none⟩ 1 1 [.int .i64 xa] rfl rfl (cell_one_new _ _ _) (by simp [Value.oneCell']) (by unfold maxLen; omega) (by omega) (by simp; omega) ?_; intro v' w1 hown' hgrow _; obtain ⟨g', cap', rfl⟩ := ownsRow_succ hown'; obtain ⟨hv1, hv2, hr2, hk2, hb2⟩ := hv.appended (by decide) hrow hnw (Nat.le_refl _) hown' hgrow; have hkp := kpF_app hv hrow hgrow hb2; have hc1 := hv1.cell; have hf1 := hv1.frozen)
   have e : vsQ (pre ++ [⟨⟨1, xa, xA, xn, xc⟩, hx⟩]) = vsQ pre ++ [xa] := HSN.out
   exact ⟨hk2.from _, hkp, ⟨_, hv2, by rw [e]; simpa using hr2, by rw [e]; simp⟩, HB.out.trans hb2⟩
  ·have hkb : (xk == 1) = false := by rw [beq_eq_false_iff_ne]; exact hk1
   gi_wp2_with fail
   have e := HSN.out
   rw [if_neg (by show ¬ ((xk == 1) = true); rw [hkb]; simp), List.append_nil] at e
   exact ⟨kf_below (Below.refl _ _), KpF.refl _ _, ⟨v, hv, by rw [e]; exact hrow, by rw [e]; exact HNIL.out⟩, HB.out⟩
 case done =>
  rintro D ys Wr hD hys ⟨⟨v, hv, hrow, hnil⟩, hB⟩ hK
  rw [vsQ_nodes hys] at hrow hnil
  have hc := hv.cell
  have HB := Lib.hid hB
  have hvl := Nat.le_trans (vars_len t) HS.out.1
  have hDn : W.heap.size ≤ D := Nat.le_trans hn2 hD
  obtain ⟨vl, hvlE⟩ : ∃ l, l = t.vars := ⟨_, rfl⟩
  rw [← hvlE] at hrow hnil hvl
  have HVL := Lib.hid hvlE
  clear hys hB hvlE hFs
  by_cases hv0 : vl = []
  ·have hvn := hnil.2 hv0
   subst hvn
   subst hv0
   have HK := Lib.hid hK
   gi_wp2_with fail
   rw [roundsIn_succ]
   gi_wp2_with fail
   refine ⟨trivial, ?_⟩
   refine (callsIn_wide.2 (Tryz.slices_Sort_int_none none 0 Wr)).mono ?_
   rintro e W3 ⟨rfl, rfl⟩
   gi_wp2_with fail
   refine ⟨trivial, ?_⟩
   refine (callsIn_wide.2 (Tryz.slices_Compact_int_empty none 0 W3)).mono ?_
   rintro e W4 ⟨rfl, rfl⟩
   gi_wp2_with fail
   refine ⟨by simp, .inl ⟨_, W4.putObj D (.deferred none), rfl, run_takeDeferred HK.out, ?_⟩⟩
   exact ⟨_, results_tmp rfl _ _ _, none, 0, [], rfl, Rd.nil, List.Pairwise.nil, fun x => by rw [← HVL.out], by simp, HB.out.trans (belowK_b (w := W) (Nat.le_refl _) W4 D _ _ hDn HK.out rfl rfl)⟩
  ·obtain ⟨g', c', hvs, hc'⟩ := own_form hrow (List.length_pos_iff.2 hv0)
   subst hvs
   have HK := Lib.hid hK
   have HSO := Lib.hid (sortv_own vl hrow (by omega))
   have HBX := Lib.hid hv
   have hne : W.heap.size ≠ g' := by
    rcases hrow.2 with ⟨h1, _⟩ | ⟨g2, cap, cur, h1, _, hgb, _⟩
    ·cases h1
    ·injection h1 with e1 _ _
     injection e1 with e1
     injection e1 with e1 _ _
     subst e1
     intro e
     rw [← e, show Wr.heap[W.heap.size]? = _ from hv] at hgb
     cases hgb
   have hDg : D ≠ g' := by
    rcases hrow.2 with ⟨h1, _⟩ | ⟨g2, cap, cur, h1, _, hgb, _⟩
    ·cases h1
    ·injection h1 with e1 _ _
     injection e1 with e1
     injection e1 with e1 _ _
     subst e1
     intro e
     rw [← e, hK] at hgb
     cases hgb
   have hgb : W.heap.size ≤ g' := by
    rcases hrow.2 with ⟨h1, _⟩ | ⟨g2, cap, cur, h1, hgb, _⟩
    ·cases h1
    ·injection h1 with e1 _ _
     injection e1 with e1
     injection e1 with e1 _ _
     subst e1
     exact hgb
   have hSZ := srZ_facts vl
   have HSZ := Lib.hid hSZ
   clear hK hnil hv0 hrow hv hSZ
   gi_wp2_with fail
   rw [roundsIn_succ]
   gi_wp2_with fail
   refine ⟨trivial, ?_⟩
   refine (callsIn_wide.2 HSO.out).mono ?_
   rintro e W3 ⟨rfl, hrow3, hgr3⟩
   have hv3 : Boxed W3 W.heap.size 24 _ := HBX.out.kept hgr3 (fun e => hne (by cases e; rfl))
   have hc3 := hv3.cell
   have hf3 := hv3.frozen
   have HV3 := Lib.hid hv3
   have HK3 := Lib.hid ((hgr3.block D (Array.getElem?_eq_some_iff.1 HK.out).1 (fun e => hDg (by cases e; rfl))).trans HK.out)
   have HB3 := Lib.hid (HB.out.grown hgr3 HB.out.size (fun k e => by cases e; exact hgb))
   have HCO := Lib.hid (compv_own (srZ vl) (by rw [HSZ.out.2.1]; exact hrow3) (by rw [HSZ.out.2.1]; omega))
   rw [HSZ.out.2.1] at HCO
   have HVLN := Lib.hid hvl
   clear hrow3 hgr3 hv3 hc
   gi_wp2_with fail
   refine ⟨trivial, ?_⟩
   refine (callsIn_wide.2 HCO.out).mono ?_
   rintro e W4 ⟨rfl, hrow4, hgr4⟩
   have HB4 := Lib.hid (HB3.out.grown hgr4 HB3.out.size (fun k e => by cases e; exact hgb))
   have HK4 := Lib.hid ((hgr4.block D (Array.getElem?_eq_some_iff.1 HK3.out).1 (fun e => hDg (by cases e; rfl))).trans HK3.out)
   have HR4 := Lib.hid (own_pre hrow4 rfl)
   have hg4 : g' < W4.heap.size := (hrow4.lt g' rfl).2
   clear hrow4 hgr4
   gi_wp2_with fail
   refine ⟨by simp, .inl ⟨_, W4.putObj D (.deferred none), rfl, run_takeDeferred HK4.out, ?_⟩⟩
   have hcs := cmp_sorted (srZ vl) HSZ.out.1
   have hcl := Lib.compact_length_le (srZ vl)
   rw [HSZ.out.2.1] at hcl
   have hbp := belowK_b (w := W) (n₀ := W.heap.size) (Nat.le_refl _) W4 D _ (.deferred none) hDn HK4.out rfl rfl
   refine ⟨_, results_tmp rfl _ _ _, some ⟨g', 0, none⟩, c', Lib.compact (srZ vl), rfl, fun hl => ?_, hcs.1, fun x => by rw [hcs.2, HSZ.out.2.2, HVL.out], Nat.le_trans hcl HVLN.out, HB4.out.trans hbp⟩
   obtain ⟨b, o, e1, hb, hcc⟩ := HR4.out hl
   cases e1
   refine ⟨g', 0, rfl, by simpa using hg4, fun i hi => ?_⟩
   rw [← hcc i hi]
   have := (grownBy_putObj' W4 D (.deferred none)).block g' hg4 (fun e => hDg (by cases e; rfl))
   unfold World.cell?
   rw [this]
 case stop =>
  rintro D c pre W _ _ h _
  exact h.elim
theorem support_any (t : Fm) (g off c : Nat) (A : Option Addr) (cf : Nat) (W : World) (hs : t.size ≤ 10000) (hg : g < W.heap.size)
  (h0 : W.cell? ⟨g, off, none⟩ = some (.int .i64 t.k)) (h1 : W.cell? ⟨g, off + 1, none⟩ = some (.int .i64 t.a)) (h2 : W.cell? ⟨g, off + 2, none⟩ = some (.slice A t.l.length cf)) (hA : FsR W (lowB W.heap.size) A t.l) :
  Calls Tryz.prog 75 #[.slice (some ⟨g, off, none⟩) 1 c] W (SupPost t.vars W) := callsIn_wide.1 (support_in t g off c A cf W hs hg h0 h1 h2 hA)
end Go.Proofs.YtaegjpancbmppaaGreatDoor
namespace Go.Proofs.YtaegjpancbmppaaGreatDoor
open Go.RowKit Go.Shelf
def FmOK (t : Fm) : Prop := t.size ≤ 10000 ∧ t.depth ≤ 100 ∧ t.all nodeOK
def FspPost (l : List Int) (W : World) (e : Ending) (W' : World) : Prop :=
 ∃ (A : Option Addr) (c : Nat) (L : List Int), e = .returned (.tuple #[.slice A L.length c, .int .i64 0]) ∧ Rd iz W' W'.heap.size A L ∧ L.Pairwise (· < ·) ∧ (∀ x, x ∈ L ↔ x ∈ l) ∧ L.length ≤ 10000 ∧ Below W.heap.size W W'
set_option maxRecDepth 1000000 in
set_option maxHeartbeats 4000000 in
theorem fsupport_any (t : Fm) (A : Option Addr) (c : Nat) (W : World) (h : FmOK t) (hA : FsR W (lowB W.heap.size) A t.l) :
  Calls Tryz.prog 61 #[.agg (fcL t.k t.a A t.l.length c).toArray] W (FspPost t.vars W) := by
 obtain ⟨k, hk⟩ : ∃ k, k = t.k := ⟨_, rfl⟩
 obtain ⟨a, ha⟩ : ∃ k, k = t.a := ⟨_, rfl⟩
 obtain ⟨n, hn⟩ : ∃ n, n = t.l.length := ⟨_, rfl⟩
 rw [← hk, ← ha, ← hn]
 have HCK := Lib.hid (show ∀ X, Below W.heap.size W X → Calls Tryz.prog 63 #[.agg #[.int .i64 k, .int .i64 a, .slice A n c]] X (SgPost 0 X) from fun X hb => by
  rw [hk, ha, hn]; exact fcheck_any t A c X h.1 h.2.1 h.2.2 (hA.step hb))
 have HX := Lib.hid (bw_new (Below.refl W.heap.size W) (.cells #[.int .i64 k, .int .i64 a, .slice A n c] 53))
 have HBK := Lib.hid (show Blk (W.alloc (.cells #[.int .i64 k, .int .i64 a, .slice A n c] 53)) W.heap.size 53 (fcL k a A n c) from heap_alloc_new W _)
 have HSU := Lib.hid (show ∀ X, Below W.heap.size W X → ∀ g, g < X.heap.size → X.cell? ⟨g, 0, none⟩ = some (.int .i64 k) → X.cell? ⟨g, 1, none⟩ = some (.int .i64 a) → X.cell? ⟨g, 2, none⟩ = some (.slice A n c) → Calls Tryz.prog 75 #[.slice (some ⟨g, 0, none⟩) 1 1] X (SupPost t.vars X) from fun X hb g hg h0 h1 h2 => by
  rw [hk] at h0
  rw [ha] at h1
  rw [hn] at h2
  exact support_any t g 0 1 A c X h.1 hg h0 h1 h2 (hA.step hb))
 clear hk ha hn h hA
 show Calls Tryz.prog 61 #[.agg #[.int .i64 k, .int .i64 a, .slice A n c]] W _
 go_enter Tryz.func61, Tryz.ntmps61
 go_wp2_with fail
 refine (HCK.out _ HX.out).mono ?_
 rintro e w1 ⟨rfl, hb⟩
 have HB := Lib.hid (HX.out.trans (hb.mono HX.out.size))
 have hf : Blk w1 W.heap.size 53 (fcL k a A n c) := (hb.block _ HBK.out.lt).trans HBK.out
 have q0 : w1.cell? ⟨W.heap.size, 0, none⟩ = some (.int .i64 k) := Blk.cell hf 0
 have q1 : w1.cell? ⟨W.heap.size, 1, none⟩ = some (.int .i64 a) := Blk.cell hf 1
 have q2 : w1.cell? ⟨W.heap.size, 2, none⟩ = some (.slice A n c) := Blk.cell hf 2
 have h1 := bw_new (Below.refl w1.heap.size w1) (.cells #[.int .i64 k, .int .i64 a, .slice A n c] 53)
 have hB2 := HB.out.trans (h1.mono HB.out.size)
 have hbn : Blk (w1.alloc (.cells #[.int .i64 k, .int .i64 a, .slice A n c] 53)) w1.heap.size 53 (fcL k a A n c) := heap_alloc_new w1 _
 have HS := Lib.hid (HSU.out _ hB2 w1.heap.size hbn.lt (hbn.cell 0) (hbn.cell 1) (hbn.cell 2))
 have HB2 := Lib.hid hB2
 clear hb hf h1 hbn hB2
 go_wp2_with fail
 refine HS.out.mono ?_
 rintro e w2 ⟨A', c', L, rfl, hR, hP, hM, hL, hb⟩
 have HF := Lib.hid (And.intro hR (And.intro hP (And.intro hM (And.intro hL (HB2.out.trans (hb.mono HB2.out.size))))))
 obtain ⟨m, hm⟩ : ∃ m, m = L.length := ⟨_, rfl⟩
 rw [← hm]
 have HMM := Lib.hid hm
 clear hR hP hM hL hb hm
 go_wp2_with fail
 go_ret2
 exact ⟨A', c', L, by rw [← HMM.out]; rfl, HF.out⟩
def FvlPost (b : Bool) (W : World) (e : Ending) (W' : World) : Prop := e = .returned (.tuple #[.bool b, .int .i64 0]) ∧ Below W.heap.size W W'
set_option maxRecDepth 1000000 in
set_option maxHeartbeats 4000000 in
theorem fvalue_any (t : Fm) (vals : List Bool) (A Av : Option Addr) (c nv cv : Nat) (W : World) (h : FmOK t) (hv : ∀ x ∈ t.vars, x < (vals.length : Int)) (hnv : nv = vals.length) (hvin : t.all (varIn vals.length)) (hA : FsR W (lowB W.heap.size) A t.l) (hR : Rd bz W W.heap.size Av vals) :
  Calls Tryz.prog 62 #[.agg (fcL t.k t.a A t.l.length c).toArray, .slice Av nv cv] W (FvlPost (t.val (vf vals)) W) := by
 obtain ⟨k, hk⟩ : ∃ k, k = t.k := ⟨_, rfl⟩
 obtain ⟨a, ha⟩ : ∃ k, k = t.a := ⟨_, rfl⟩
 obtain ⟨n, hn⟩ : ∃ n, n = t.l.length := ⟨_, rfl⟩
 rw [← hk, ← ha, ← hn]
 have hb1 := bw_new (Below.refl W.heap.size W) (.cells #[.int .i64 k, .int .i64 a, .slice A n c] 53)
 have s1 : (W.alloc (.cells #[.int .i64 k, .int .i64 a, .slice A n c] 53)).heap.size = W.heap.size + 1 := by simp
 have hb2 := bw_new (Below.refl (W.alloc (.cells #[.int .i64 k, .int .i64 a, .slice A n c] 53)).heap.size (W.alloc (.cells #[.int .i64 k, .int .i64 a, .slice A n c] 53))) (.cells #[.slice Av nv cv] 104)
 have HX := Lib.hid (hb1.trans (hb2.mono hb1.size))
 have HBF := Lib.hid (show Blk ((W.alloc (.cells #[.int .i64 k, .int .i64 a, .slice A n c] 53)).alloc (.cells #[.slice Av nv cv] 104)) W.heap.size 53 (fcL k a A n c) from (hb2.block _ (by rw [s1]; exact Nat.lt_succ_self _)).trans (heap_alloc_new W _))
 have hbv : Blk ((W.alloc (.cells #[.int .i64 k, .int .i64 a, .slice A n c] 53)).alloc (.cells #[.slice Av nv cv] 104)) (W.heap.size + 1) 104 [.slice Av nv cv] := by
  have := heap_alloc_new (W.alloc (.cells #[.int .i64 k, .int .i64 a, .slice A n c] 53)) (.cells #[.slice Av nv cv] 104)
  rw [s1] at this
  exact this
 have HBV := Lib.hid hbv
 have HCK := Lib.hid (show ∀ X, Below W.heap.size W X → Calls Tryz.prog 63 #[.agg #[.int .i64 k, .int .i64 a, .slice A n c]] X (SgPost 0 X) from fun X hb => by
  rw [hk, ha, hn]; exact fcheck_any t A c X h.1 h.2.1 h.2.2 (hA.step hb))
 have HSU := Lib.hid (show ∀ X, Below W.heap.size W X → ∀ g, g < X.heap.size → X.cell? ⟨g, 0, none⟩ = some (.int .i64 k) → X.cell? ⟨g, 1, none⟩ = some (.int .i64 a) → X.cell? ⟨g, 2, none⟩ = some (.slice A n c) → Calls Tryz.prog 75 #[.slice (some ⟨g, 0, none⟩) 1 1] X (SupPost t.vars X) from fun X hb g hg h0 h1 h2 => by
  rw [hk] at h0
  rw [ha] at h1
  rw [hn] at h2
  exact support_any t g 0 1 A c X h.1 hg h0 h1 h2 (hA.step hb))
 have HVL := Lib.hid (show ∀ X, Below W.heap.size W X → ∀ vb, vb < X.heap.size → X.cell? ⟨vb, 0, none⟩ = some (.slice Av vals.length cv) → Calls Tryz.prog 76 #[.agg #[.int .i64 k, .int .i64 a, .slice A n c], .func (.func 77) #[] #[.pointer (some ⟨vb, 0, none⟩)]] X (fun e w' => e = .returned (.bool (t.val (vf vals))) ∧ Below X.heap.size X w') from fun X hb vb hlt hc => by
  rw [hk, ha, hn]
  exact value_any vb vals t.size t (Nat.le_refl _) ⟨h.1, hvin, h.2.2⟩ A c X (hA.step hb) ⟨hlt, Av, cv, hc, rd_stepB hR hb⟩)
 have HLS := Lib.hid (show ∀ L : List Int, L.Pairwise (· < ·) → (∀ x, x ∈ L ↔ x ∈ t.vars) → ∀ hl : 0 < L.length, L[L.length - 1] < (vals.length : Int) from fun L _ hm hl => hv _ ((hm _).1 (List.getElem_mem _)))
 have HNV := Lib.hid hnv
 clear hk ha hn h hA hR hv hvin hnv hb1 hb2 s1 hbv
 show Calls Tryz.prog 62 #[.agg #[.int .i64 k, .int .i64 a, .slice A n c], .slice Av nv cv] W _
 go_enter Tryz.func62, Tryz.ntmps62
 go_wp2_with fail
 refine (HCK.out _ HX.out).mono ?_
 rintro e w1 ⟨rfl, hb⟩
 have HB := Lib.hid (HX.out.trans (hb.mono HX.out.size))
 have hf : Blk w1 W.heap.size 53 (fcL k a A n c) := (hb.block _ HBF.out.lt).trans HBF.out
 have HV1 := Lib.hid (show Blk w1 (W.heap.size + 1) 104 [.slice Av nv cv] from (hb.block _ HBV.out.lt).trans HBV.out)
 have HF1 := Lib.hid hf
 have q0 : w1.cell? ⟨W.heap.size, 0, none⟩ = some (.int .i64 k) := Blk.cell hf 0
 have q1 : w1.cell? ⟨W.heap.size, 1, none⟩ = some (.int .i64 a) := Blk.cell hf 1
 have q2 : w1.cell? ⟨W.heap.size, 2, none⟩ = some (.slice A n c) := Blk.cell hf 2
 have h1 := bw_new (Below.refl w1.heap.size w1) (.cells #[.int .i64 k, .int .i64 a, .slice A n c] 53)
 have hB2 := HB.out.trans (h1.mono HB.out.size)
 have hbn : Blk (w1.alloc (.cells #[.int .i64 k, .int .i64 a, .slice A n c] 53)) w1.heap.size 53 (fcL k a A n c) := heap_alloc_new w1 _
 have HS := Lib.hid (HSU.out _ hB2 w1.heap.size hbn.lt (hbn.cell 0) (hbn.cell 1) (hbn.cell 2))
 have HB2 := Lib.hid hB2
 have H1 := Lib.hid h1
 clear hb hf h1 hbn hB2
 go_wp2_with fail
 refine HS.out.mono ?_
 rintro e w2 ⟨A', c', L, rfl, hR, hP, hM, hL, hb⟩
 have HB3 := Lib.hid (HB2.out.trans (hb.mono HB2.out.size))
 have hv3 : Blk w2 (W.heap.size + 1) 104 [.slice Av nv cv] := (hb.block _ (Nat.lt_of_lt_of_le HV1.out.lt H1.out.size)).trans ((H1.out.block _ HV1.out.lt).trans HV1.out)
 have hf3 : Blk w2 W.heap.size 53 (fcL k a A n c) := (hb.block _ (Nat.lt_of_lt_of_le HF1.out.lt H1.out.size)).trans ((H1.out.block _ HF1.out.lt).trans HF1.out)
 have p0 : w2.cell? ⟨W.heap.size, 0, none⟩ = some (.int .i64 k) := Blk.cell hf3 0
 have p1 : w2.cell? ⟨W.heap.size, 1, none⟩ = some (.int .i64 a) := Blk.cell hf3 1
 have p2 : w2.cell? ⟨W.heap.size, 2, none⟩ = some (.slice A n c) := Blk.cell hf3 2
 have p3 : w2.cell? ⟨W.heap.size + 1, 0, none⟩ = some (.slice Av nv cv) := Blk.cell hv3 0
 have hlast := HLS.out L hP hM
 rw [← HNV.out] at hlast
 obtain ⟨r, hr⟩ : ∃ r, r = t.val (vf vals) := ⟨_, rfl⟩
 have HRE := Lib.hid hr
 obtain ⟨m, hm⟩ : ∃ m, m = L.length := ⟨_, rfl⟩
 have hvl : W.heap.size + 1 < w2.heap.size := hv3.lt
 have hfl : W.heap.size < w2.heap.size := hf3.lt
 clear q0 q1 q2 hv3 hf3 hP hM hb
 by_cases hm0 : m = 0
 ·rw [← hm]
  subst hm0
  have HCE := Lib.hid (show ∀ W', Below w2.heap.size w2 W' → W'.cell? ⟨W.heap.size + 1, 0, none⟩ = some (.slice Av nv cv) from fun W' h => (h.cell (p := ⟨W.heap.size + 1, 0, none⟩) hvl).trans p3)
  have HVD := Lib.hid (show ∀ W', Below w2.heap.size w2 W' → Calls Tryz.prog 76 #[.agg #[.int .i64 k, .int .i64 a, .slice A n c], .func (.func 77) #[] #[.pointer (some ⟨W.heap.size + 1, 0, none⟩)]] W' (fun e w' => e = .returned (.bool r) ∧ Below W'.heap.size W' w') from fun W' h => by
   have := HVL.out W' (HB3.out.trans (h.mono HB3.out.size)) (W.heap.size + 1) (Nat.lt_of_lt_of_le hvl h.size) (by rw [← HNV.out]; exact HCE.out W' h)
   rw [hr]; exact this)
  clear hlast hR hL hm hr
  go_upto_region 5 with fail
  --R5A
  refine wp_regionJ 14 #[false, false, false, false, false, false, false, false, false, false, false, false, false, false] (fun ll aa W' => ∃ (m0 m1 m2 m3 m4 m5 m6 m7 m8 m9 m10 m11 m12 m13 : Bool), ll = #[m0, m1, m2, m3, m4, m5, m6, m7, m8, m9, m10, m11, m12, m13] ∧ aa = ({ tmps := #[Value.agg #[Value.int IntKind.i64 k, Value.int IntKind.i64 a, Value.slice A n c], Value.slice Av nv cv, Value.pointer (some { block := W.heap.size, off := 0 }), Value.pointer (some { block := W.heap.size + 1, off := 0 }), Value.bool false, Value.int IntKind.i64 0, Value.int IntKind.i64 0, Value.slice A' 0 c', Value.agg #[Value.int IntKind.i64 k, Value.int IntKind.i64 a, Value.slice A n c], Value.int IntKind.i64 0, Value.int IntKind.i64 0, Value.bool false, undef, Value.agg #[Value.int IntKind.i64 k, Value.int IntKind.i64 a, Value.slice A n c], Value.slice (some { block := w1.heap.size, off := 0 }) 1 1, Value.slice A' 0 c', cwX m0 (Value.slice A' 0 c') (undef), cwX m1 (Value.int .i64 0) (undef), cwX m2 (Value.bool false) (undef), cwX m3 (Value.bool false) (undef), undef, undef, undef, undef, undef, undef, undef, undef, undef, cwX m13 (Value.bool false) (undef), undef, undef, undef], defers := [] } : Act) ∧ (True) ∧ Below w2.heap.size w2 W') (by kernel_rfl) (by kernel_rfl) (by kernel_rfl) (by kernel_rfl) ?_ ?_ ?_ ?_
  ·rintro ll aa W' ⟨m0, m1, m2, m3, m4, m5, m6, m7, m8, m9, m10, m11, m12, m13, rfl, _⟩
   rfl
  ·exact ⟨false, false, false, false, false, false, false, false, false, false, false, false, false, false, rfl, rfl, trivial, (bw_drew (Below.refl _ _))⟩
  ·rintro ll aa W' i o ⟨m0, m1, m2, m3, m4, m5, m6, m7, m8, m9, m10, m11, m12, m13, rfl, rfl, hi0, hm⟩ ho hun hall K hK
   have hi : i < 14 := (Array.getElem?_eq_some_iff.1 ho).1
   have HM := Lib.hid hm
   have HI := Lib.hid hi0
   clear hm hi0
   rcases (show i = 0 ∨ i = 1 ∨ i = 2 ∨ i = 3 ∨ i = 4 ∨ i = 5 ∨ i = 6 ∨ i = 7 ∨ i = 8 ∨ i = 9 ∨ i = 10 ∨ i = 11 ∨ i = 12 ∨ i = 13 by omega) with rfl | rfl | rfl | rfl | rfl | rfl | rfl | rfl | rfl | rfl | rfl | rfl | rfl | rfl
   ·cases ho
    simp at hun; subst hun
    clear hall hi
    go_simp
    exact hK.out _ _ ⟨true, m1, m2, m3, m4, m5, m6, m7, m8, m9, m10, m11, m12, m13, rfl, rfl, trivial, HM.out⟩
   ·cases ho
    cases (getBX hall 0 rfl : m0 = true)
    simp at hun; subst hun
    clear hall hi
    go_simp
    exact hK.out _ _ ⟨true, true, m2, m3, m4, m5, m6, m7, m8, m9, m10, m11, m12, m13, rfl, rfl, trivial, HM.out⟩
   ·cases ho
    cases (getBX hall 1 rfl : m1 = true)
    simp at hun; subst hun
    clear hall hi
    go_simp
    exact hK.out _ _ ⟨m0, true, true, m3, m4, m5, m6, m7, m8, m9, m10, m11, m12, m13, rfl, rfl, trivial, HM.out⟩
   ·cases ho
    cases (getBX hall 2 rfl : m2 = true)
    simp at hun; subst hun
    clear hall hi
    go_simp
    exact hK.out _ _ ⟨m0, m1, true, true, m4, m5, m6, m7, m8, m9, m10, m11, m12, m13, rfl, rfl, trivial, HM.out⟩
   ·cases ho
    cases (getBX hall 3 rfl : m3 = true)
    simp at hun; subst hun
    clear hall hi
    go_simp
    exact hK.out _ _ ⟨m0, m1, m2, true, true, m5, m6, m7, m8, m9, m10, m11, m12, m13, rfl, rfl, trivial, HM.out⟩
   ·cases ho
    cases (getBX hall 3 rfl : m3 = true)
    simp at hun; subst hun
    clear hall hi
    go_simp
    exact hK.out _ _ ⟨m0, m1, m2, true, m4, true, m6, m7, m8, m9, m10, m11, m12, m13, rfl, rfl, trivial, HM.out⟩
   ·cases ho
    cases (getBX hall 3 rfl : m3 = true)
    cases (getBX hall 5 rfl : m5 = true)
    simp at hun; subst hun
    clear hall hi
    go_simp
    exact hK.out _ _ ⟨m0, m1, m2, true, m4, true, true, m7, m8, m9, m10, m11, m12, m13, rfl, rfl, trivial, HM.out⟩
   ·cases ho
    cases (getBX hall 3 rfl : m3 = true)
    cases (getBX hall 6 rfl : m6 = true)
    simp at hun; subst hun
    clear hall hi
    go_simp
    exact hK.out _ _ ⟨m0, m1, m2, true, m4, m5, true, true, m8, m9, m10, m11, m12, m13, rfl, rfl, trivial, HM.out⟩
   ·cases ho
    cases (getBX hall 3 rfl : m3 = true)
    cases (getBX hall 4 rfl : m4 = true)
    cases (getBX hall 7 rfl : m7 = true)
    simp at hun; subst hun
    clear hall hi
    go_simp
    exact hK.out _ _ ⟨m0, m1, m2, true, true, m5, m6, true, true, m9, m10, m11, m12, m13, rfl, rfl, trivial, HM.out⟩
   ·cases ho
    cases (getBX hall 3 rfl : m3 = true)
    cases (getBX hall 8 rfl : m8 = true)
    simp at hun; subst hun
    clear hall hi
    go_simp
    exact hK.out _ _ ⟨m0, m1, m2, true, m4, m5, m6, m7, true, true, m10, m11, m12, m13, rfl, rfl, trivial, HM.out⟩
   ·cases ho
    cases (getBX hall 3 rfl : m3 = true)
    simp at hun; subst hun
    clear hall hi
    go_simp
    exact hK.out _ _ ⟨m0, m1, m2, true, m4, m5, m6, m7, m8, m9, true, m11, m12, m13, rfl, rfl, trivial, HM.out⟩
   ·cases ho
    cases (getBX hall 3 rfl : m3 = true)
    cases (getBX hall 10 rfl : m10 = true)
    simp at hun; subst hun
    clear hall hi
    go_simp
    exact hK.out _ _ ⟨m0, m1, m2, true, m4, m5, m6, m7, m8, m9, true, true, m12, m13, rfl, rfl, trivial, HM.out⟩
   ·cases ho
    cases (getBX hall 3 rfl : m3 = true)
    cases (getBX hall 9 rfl : m9 = true)
    cases (getBX hall 11 rfl : m11 = true)
    simp at hun; subst hun
    clear hall hi
    go_simp
    exact hK.out _ _ ⟨m0, m1, m2, true, m4, m5, m6, m7, m8, true, m10, true, true, m13, rfl, rfl, trivial, HM.out⟩
   ·cases ho
    cases (getBX hall 3 rfl : m3 = true)
    cases (getBX hall 12 rfl : m12 = true)
    simp at hun; subst hun
    clear hall hi
    go_simp
    exact hK.out _ _ ⟨m0, m1, m2, true, m4, m5, m6, m7, m8, m9, m10, m11, true, true, rfl, rfl, trivial, HM.out⟩
  ·rintro ll aa W' ⟨m0, m1, m2, m3, m4, m5, m6, m7, m8, m9, m10, m11, m12, m13, rfl, rfl, _, hm⟩ hall
   cases (hall 0 (by decide) : m0 = true)
   cases (hall 1 (by decide) : m1 = true)
   cases (hall 2 (by decide) : m2 = true)
   cases (hall 3 (by decide) : m3 = true)
   cases (hall 4 (by decide) : m4 = true)
   cases (hall 5 (by decide) : m5 = true)
   cases (hall 6 (by decide) : m6 = true)
   cases (hall 7 (by decide) : m7 = true)
   cases (hall 8 (by decide) : m8 = true)
   cases (hall 9 (by decide) : m9 = true)
   cases (hall 10 (by decide) : m10 = true)
   cases (hall 11 (by decide) : m11 = true)
   cases (hall 12 (by decide) : m12 = true)
   cases (hall 13 (by decide) : m13 = true)
   clear hall
   have HME := Lib.hid hm
   have p0 : W'.cell? ⟨W.heap.size, 0, none⟩ = some (.int .i64 k) := (hm.cell (p := ⟨W.heap.size, 0, none⟩) hfl).trans p0
   have p1 : W'.cell? ⟨W.heap.size, 1, none⟩ = some (.int .i64 a) := (hm.cell (p := ⟨W.heap.size, 1, none⟩) hfl).trans p1
   have p2 : W'.cell? ⟨W.heap.size, 2, none⟩ = some (.slice A n c) := (hm.cell (p := ⟨W.heap.size, 2, none⟩) hfl).trans p2
   have hfw := Nat.lt_of_lt_of_le hfl hm.size
   clear hm
   dsimp only [cwX, cond_true]
   go_wp2_with fail
   refine (HVD.out _ HME.out).mono ?_
   rintro e w3 ⟨rfl, hb3⟩
   have HB4 := Lib.hid (HB3.out.trans ((HME.out.trans (hb3.mono HME.out.size)).mono HB3.out.size))
   clear hb3
   go_wp2_with fail
   go_ret2
   exact ⟨by rw [← HRE.out]; rfl, HB4.out⟩
 ·have hl := hlast (by omega)
  obtain ⟨g, off, rfl, hlt, hc⟩ := hR (by omega)
  have hcn := hc (L.length - 1) (by omega)
  obtain ⟨z, hz⟩ : ∃ z, z = L[L.length - 1]'(by omega) := ⟨_, rfl⟩
  rw [← hz] at hl hcn
  rw [← hm] at hcn hL ⊢
  have hm1 : (0 : Int) < (m : Int) := by omega
  have hm2 : 0 < m := by omega
  have hzl2 : decide ((nv : Int) ≤ z) = false := decide_eq_false (by omega)
  have hmw : IntKind.i64.wrap ((m : Int) - 1) = ((m - 1 : Nat) : Int) := by rw [IntWalk.i64_in _ (by omega)]; omega
  have hzl : ¬ ((nv : Int) ≤ z) := by omega
  have hmm : m - 1 < m := by omega
  replace hcn : w2.cell? ⟨g, off + (m - 1), none⟩ = some (.int .i64 z) := hcn
  have HCE := Lib.hid (show ∀ W', Below w2.heap.size w2 W' → W'.cell? ⟨W.heap.size + 1, 0, none⟩ = some (.slice Av nv cv) ∧ g < W'.heap.size ∧ W'.cell? ⟨g, off + (m - 1), none⟩ = some (.int .i64 z) from fun W' h => ⟨(h.cell (p := ⟨W.heap.size + 1, 0, none⟩) hvl).trans p3, Nat.lt_of_lt_of_le hlt h.size, (h.cell (p := ⟨g, off + (m - 1), none⟩) hlt).trans hcn⟩)
  have HVD := Lib.hid (show ∀ W', Below w2.heap.size w2 W' → Calls Tryz.prog 76 #[.agg #[.int .i64 k, .int .i64 a, .slice A n c], .func (.func 77) #[] #[.pointer (some ⟨W.heap.size + 1, 0, none⟩)]] W' (fun e w' => e = .returned (.bool r) ∧ Below W'.heap.size W' w') from fun W' h => by
   have := HVL.out W' (HB3.out.trans (h.mono HB3.out.size)) (W.heap.size + 1) (Nat.lt_of_lt_of_le hvl h.size) (by rw [← HNV.out]; exact (HCE.out W' h).1)
   rw [hr]; exact this)
  clear hlast hc hz hl hm hr
  go_upto_region 5 with fail
  --R5B
  refine wp_regionJ 14 #[false, false, false, false, false, false, false, false, false, false, false, false, false, false] (fun ll aa W' => ∃ (m0 m1 m2 m3 m4 m5 m6 m7 m8 m9 m10 m11 m12 m13 : Bool), ll = #[m0, m1, m2, m3, m4, m5, m6, m7, m8, m9, m10, m11, m12, m13] ∧ aa = ({ tmps := #[Value.agg #[Value.int IntKind.i64 k, Value.int IntKind.i64 a, Value.slice A n c], Value.slice Av nv cv, Value.pointer (some { block := W.heap.size, off := 0 }), Value.pointer (some { block := W.heap.size + 1, off := 0 }), Value.bool false, Value.int IntKind.i64 0, Value.int IntKind.i64 0, Value.slice (some { block := g, off := off }) m c', Value.agg #[Value.int IntKind.i64 k, Value.int IntKind.i64 a, Value.slice A n c], Value.int IntKind.i64 0, Value.int IntKind.i64 0, Value.bool false, undef, Value.agg #[Value.int IntKind.i64 k, Value.int IntKind.i64 a, Value.slice A n c], Value.slice (some { block := w1.heap.size, off := 0 }) 1 1, Value.slice (some { block := g, off := off }) m c', cwX m0 (Value.slice (some { block := g, off := off }) m c') (undef), cwX m1 (Value.int .i64 (m : Int)) (undef), cwX m2 (Value.bool true) (undef), cwX m3 (Value.bool true) (undef), cwX m4 (Value.slice (some { block := g, off := off }) m c') (undef), cwX m5 (Value.slice (some { block := g, off := off }) m c') (undef), cwX m6 (Value.int .i64 (m : Int)) (undef), cwX m7 (Value.int .i64 ((m - 1 : Nat) : Int)) (undef), cwX m8 (Value.pointer (some ⟨g, off + (m - 1), none⟩)) (undef), cwX m9 (Value.int .i64 z) (undef), cwX m10 (Value.slice Av nv cv) (undef), cwX m11 (Value.int .i64 (nv : Int)) (undef), cwX m12 (Value.bool false) (undef), cwX m13 (Value.bool false) (undef), undef, undef, undef], defers := [] } : Act) ∧ (True) ∧ Below w2.heap.size w2 W') (by kernel_rfl) (by kernel_rfl) (by kernel_rfl) (by kernel_rfl) ?_ ?_ ?_ ?_
  ·rintro ll aa W' ⟨m0, m1, m2, m3, m4, m5, m6, m7, m8, m9, m10, m11, m12, m13, rfl, _⟩
   rfl
  ·exact ⟨false, false, false, false, false, false, false, false, false, false, false, false, false, false, rfl, rfl, trivial, (bw_drew (Below.refl _ _))⟩
  ·rintro ll aa W' i o ⟨m0, m1, m2, m3, m4, m5, m6, m7, m8, m9, m10, m11, m12, m13, rfl, rfl, hi0, hm⟩ ho hun hall K hK
   have hi : i < 14 := (Array.getElem?_eq_some_iff.1 ho).1
   have HM := Lib.hid hm
   have HI := Lib.hid hi0
   clear hm hi0
   rcases (show i = 0 ∨ i = 1 ∨ i = 2 ∨ i = 3 ∨ i = 4 ∨ i = 5 ∨ i = 6 ∨ i = 7 ∨ i = 8 ∨ i = 9 ∨ i = 10 ∨ i = 11 ∨ i = 12 ∨ i = 13 by omega) with rfl | rfl | rfl | rfl | rfl | rfl | rfl | rfl | rfl | rfl | rfl | rfl | rfl | rfl
   ·cases ho
    simp at hun; subst hun
    clear hall hi
    go_simp
    exact hK.out _ _ ⟨true, m1, m2, m3, m4, m5, m6, m7, m8, m9, m10, m11, m12, m13, rfl, rfl, trivial, HM.out⟩
   ·cases ho
    cases (getBX hall 0 rfl : m0 = true)
    simp at hun; subst hun
    clear hall hi
    go_simp
    exact hK.out _ _ ⟨true, true, m2, m3, m4, m5, m6, m7, m8, m9, m10, m11, m12, m13, rfl, rfl, trivial, HM.out⟩
   ·cases ho
    cases (getBX hall 1 rfl : m1 = true)
    simp at hun; subst hun
    clear hall hi
    go_simp
    exact hK.out _ _ ⟨m0, true, true, m3, m4, m5, m6, m7, m8, m9, m10, m11, m12, m13, rfl, rfl, trivial, HM.out⟩
   ·cases ho
    cases (getBX hall 2 rfl : m2 = true)
    simp at hun; subst hun
    clear hall hi
    go_simp
    exact hK.out _ _ ⟨m0, m1, true, true, m4, m5, m6, m7, m8, m9, m10, m11, m12, m13, rfl, rfl, trivial, HM.out⟩
   ·cases ho
    cases (getBX hall 3 rfl : m3 = true)
    simp at hun; subst hun
    clear hall hi
    go_simp
    exact hK.out _ _ ⟨m0, m1, m2, true, true, m5, m6, m7, m8, m9, m10, m11, m12, m13, rfl, rfl, trivial, HM.out⟩
   ·cases ho
    cases (getBX hall 3 rfl : m3 = true)
    simp at hun; subst hun
    clear hall hi
    go_simp
    exact hK.out _ _ ⟨m0, m1, m2, true, m4, true, m6, m7, m8, m9, m10, m11, m12, m13, rfl, rfl, trivial, HM.out⟩
   ·cases ho
    cases (getBX hall 3 rfl : m3 = true)
    cases (getBX hall 5 rfl : m5 = true)
    simp at hun; subst hun
    clear hall hi
    go_simp
    exact hK.out _ _ ⟨m0, m1, m2, true, m4, true, true, m7, m8, m9, m10, m11, m12, m13, rfl, rfl, trivial, HM.out⟩
   ·cases ho
    cases (getBX hall 3 rfl : m3 = true)
    cases (getBX hall 6 rfl : m6 = true)
    simp at hun; subst hun
    clear hall hi
    go_simp
    exact hK.out _ _ ⟨m0, m1, m2, true, m4, m5, true, true, m8, m9, m10, m11, m12, m13, rfl, rfl, trivial, HM.out⟩
   ·cases ho
    cases (getBX hall 3 rfl : m3 = true)
    cases (getBX hall 4 rfl : m4 = true)
    cases (getBX hall 7 rfl : m7 = true)
    simp at hun; subst hun
    clear hall hi
    go_simp
    exact hK.out _ _ ⟨m0, m1, m2, true, true, m5, m6, true, true, m9, m10, m11, m12, m13, rfl, rfl, trivial, HM.out⟩
   ·cases ho
    cases (getBX hall 3 rfl : m3 = true)
    cases (getBX hall 8 rfl : m8 = true)
    simp at hun; subst hun
    clear hall hi
    obtain ⟨-, x1, x2⟩ := HCE.out W' HM.out
    go_simp
    exact hK.out _ _ ⟨m0, m1, m2, true, m4, m5, m6, m7, true, true, m10, m11, m12, m13, rfl, rfl, trivial, HM.out⟩
   ·cases ho
    cases (getBX hall 3 rfl : m3 = true)
    simp at hun; subst hun
    clear hall hi
    have x1 := (HCE.out W' HM.out).1
    go_simp
    exact hK.out _ _ ⟨m0, m1, m2, true, m4, m5, m6, m7, m8, m9, true, m11, m12, m13, rfl, rfl, trivial, HM.out⟩
   ·cases ho
    cases (getBX hall 3 rfl : m3 = true)
    cases (getBX hall 10 rfl : m10 = true)
    simp at hun; subst hun
    clear hall hi
    go_simp
    exact hK.out _ _ ⟨m0, m1, m2, true, m4, m5, m6, m7, m8, m9, true, true, m12, m13, rfl, rfl, trivial, HM.out⟩
   ·cases ho
    cases (getBX hall 3 rfl : m3 = true)
    cases (getBX hall 9 rfl : m9 = true)
    cases (getBX hall 11 rfl : m11 = true)
    simp at hun; subst hun
    clear hall hi
    go_simp
    exact hK.out _ _ ⟨m0, m1, m2, true, m4, m5, m6, m7, m8, true, m10, true, true, m13, rfl, rfl, trivial, HM.out⟩
   ·cases ho
    cases (getBX hall 3 rfl : m3 = true)
    cases (getBX hall 12 rfl : m12 = true)
    simp at hun; subst hun
    clear hall hi
    go_simp
    exact hK.out _ _ ⟨m0, m1, m2, true, m4, m5, m6, m7, m8, m9, m10, m11, true, true, rfl, rfl, trivial, HM.out⟩
  ·rintro ll aa W' ⟨m0, m1, m2, m3, m4, m5, m6, m7, m8, m9, m10, m11, m12, m13, rfl, rfl, _, hm⟩ hall
   cases (hall 0 (by decide) : m0 = true)
   cases (hall 1 (by decide) : m1 = true)
   cases (hall 2 (by decide) : m2 = true)
   cases (hall 3 (by decide) : m3 = true)
   cases (hall 4 (by decide) : m4 = true)
   cases (hall 5 (by decide) : m5 = true)
   cases (hall 6 (by decide) : m6 = true)
   cases (hall 7 (by decide) : m7 = true)
   cases (hall 8 (by decide) : m8 = true)
   cases (hall 9 (by decide) : m9 = true)
   cases (hall 10 (by decide) : m10 = true)
   cases (hall 11 (by decide) : m11 = true)
   cases (hall 12 (by decide) : m12 = true)
   cases (hall 13 (by decide) : m13 = true)
   clear hall
   have HME := Lib.hid hm
   have p0 : W'.cell? ⟨W.heap.size, 0, none⟩ = some (.int .i64 k) := (hm.cell (p := ⟨W.heap.size, 0, none⟩) hfl).trans p0
   have p1 : W'.cell? ⟨W.heap.size, 1, none⟩ = some (.int .i64 a) := (hm.cell (p := ⟨W.heap.size, 1, none⟩) hfl).trans p1
   have p2 : W'.cell? ⟨W.heap.size, 2, none⟩ = some (.slice A n c) := (hm.cell (p := ⟨W.heap.size, 2, none⟩) hfl).trans p2
   have hfw := Nat.lt_of_lt_of_le hfl hm.size
   clear hm
   dsimp only [cwX, cond_true]
   go_wp2_with fail
   refine (HVD.out _ HME.out).mono ?_
   rintro e w3 ⟨rfl, hb3⟩
   have HB4 := Lib.hid (HB3.out.trans ((HME.out.trans (hb3.mono HME.out.size)).mono HB3.out.size))
   clear hb3
   go_wp2_with fail
   go_ret2
   exact ⟨by rw [← HRE.out]; rfl, HB4.out⟩
end Go.Proofs.YtaegjpancbmppaaGreatDoor
namespace Go.Proofs.YtaegjpancbmppaaGreatDoor
mutual
def Fm.occ (x : Int) : Fm → Bool
 | .nd k a l => if k = 1 then a == x else occL x l
def occL (x : Int) : List Fm → Bool
 | [] => false
 | t :: l => t.occ x || occL x l
end
theorem vars_mem {t : Fm} {x : Int} : x ∈ t.vars ↔ ∃ m, ((1 : Int), x, m) ∈ t.nodes := by
 unfold Fm.vars
 rw [List.mem_map]
 constructor
 ·rintro ⟨⟨k, a, m⟩, hm, rfl⟩
  obtain ⟨h1, h2⟩ := List.mem_filter.1 hm
  have h3 : k = 1 := by simpa using h2
  subst h3
  exact ⟨m, h1⟩
 ·rintro ⟨m, hm⟩
  exact ⟨(1, x, m), List.mem_filter.2 ⟨hm, by simp⟩, rfl⟩
def bitV (r : Nat) (v : Int) : Bool := decide (v < 64) && r.testBit v.toNat
theorem varIn_of {n : Nat} {t : Fm} (hok : t.all nodeOK) (h : ∀ x ∈ t.vars, x < (n : Int)) : t.all (varIn n) := fun x hx => by
 have hr := hok x hx
 obtain ⟨k, a, m⟩ := x
 refine ⟨fun h1 => ?_, fun h2 => ?_⟩
 ·have h1' : k = 1 := h1
  subst h1'
  rcases hr with ⟨-, h0, -⟩ | ⟨h0, -⟩ | ⟨h0 | h0, -⟩ | ⟨h0 | h0, -⟩
  ·exact ⟨h0, h a (vars_mem.2 ⟨m, hx⟩)⟩
  all_goals exact absurd h0 (by show ¬ (1 : Int) = _; decide)
 ·have h2' : k = 2 := h2
  subst h2'
  rcases hr with ⟨h0, -⟩ | ⟨-, -, h0⟩ | ⟨h0 | h0, -⟩ | ⟨h0 | h0, -⟩
  ·exact absurd h0 (by show ¬ (2 : Int) = _; decide)
  ·have h0' : m = 1 := h0
   show 0 < m
   omega
  all_goals exact absurd h0 (by show ¬ (2 : Int) = _; decide)
end Go.Proofs.YtaegjpancbmppaaGreatDoor
namespace Go.Proofs.YtaegjpancbmppaaGreatDoor
theorem sizeL_most {B : Nat} : ∀ l : List Fm, (∀ t ∈ l, t.size ≤ B) → sizeL l ≤ l.length * B
 | [], _ => by rw [sizeL]; exact Nat.zero_le _
 | t :: l, h => by
  have h1 := sizeL_most l fun s hs => h s (List.mem_cons_of_mem _ hs)
  have h2 := h t (List.mem_cons_self ..)
  rw [sizeL, List.length_cons, Nat.succ_mul]; omega
theorem depthL_most {B : Nat} : ∀ l : List Fm, (∀ t ∈ l, t.depth ≤ B) → depthL l ≤ B
 | [], _ => by rw [depthL]; exact Nat.zero_le _
 | t :: l, h => by
  have h1 := depthL_most l fun s hs => h s (List.mem_cons_of_mem _ hs)
  have h2 := h t (List.mem_cons_self ..)
  rw [depthL]; omega
def nodeV (n : Nat) (k a : Int) (m : Nat) : Prop := nodeOK k a m ∧ (k = 1 → 0 ≤ a ∧ a < (n : Int))
theorem lit_ok {n v i : Nat} (hn : n ≤ 8) (hi : i < n) : (litT v i).all (nodeV n) ∧ (litT v i).size ≤ 2 ∧ (litT v i).depth ≤ 2 := by
 have h1 : (Fm.nd 1 (i : Int) []).all (nodeV n) := Fm.all_nd ⟨.inl ⟨rfl, by omega, by omega, rfl⟩, fun _ => ⟨by omega, by omega⟩⟩ fun _ h => by cases h
 unfold litT
 split
 ·exact ⟨h1, by rw [Fm.size, sizeL]; omega, by rw [Fm.depth, depthL]; omega⟩
 ·refine ⟨Fm.all_nd ⟨.inr (.inl ⟨rfl, rfl, rfl⟩), fun h => by omega⟩ fun s hs => ?_, by rw [Fm.size, sizeL, sizeL, Fm.size, sizeL]; omega, by rw [Fm.depth, depthL, depthL, Fm.depth, depthL]; omega⟩
  rw [List.mem_singleton] at hs
  subst hs
  exact h1
theorem prod_ok {n : Nat} (hn : n ≤ 8) (x : Int × Int) : (prodT n x).all (nodeV n) ∧ (prodT n x).size ≤ 17 ∧ (prodT n x).depth ≤ 3 := by
 have hl : ∀ s ∈ litsT x.1.toNat x.2.toNat n, s.all (nodeV n) ∧ s.size ≤ 2 ∧ s.depth ≤ 2 := fun s hs => by
  obtain ⟨i, hi, rfl⟩ := List.mem_map.1 hs
  exact lit_ok hn (List.mem_range.1 (List.mem_filter.1 hi).1)
 have hlen := litsT_len x.1.toNat x.2.toNat n
 have h1 := sizeL_most _ fun s hs => (hl s hs).2.1
 have h2 := depthL_most _ fun s hs => (hl s hs).2.2
 unfold prodT
 exact ⟨Fm.all_nd ⟨.inr (.inr (.inl ⟨.inl rfl, rfl, by omega⟩)), fun h => by omega⟩ fun s hs => (hl s hs).1, by rw [Fm.size]; omega, by rw [Fm.depth]; omega⟩
theorem sumF_ok {n : Nat} (hn : n ≤ 8) (L : List (Int × Int)) (hL : L.length ≤ 256) : FmOK (Fm.nd 4 0 (L.map (prodT n))) ∧ ∀ x ∈ (Fm.nd 4 0 (L.map (prodT n))).vars, x < (n : Int) := by
 have hl : ∀ s ∈ L.map (prodT n), s.all (nodeV n) ∧ s.size ≤ 17 ∧ s.depth ≤ 3 := fun s hs => by
  obtain ⟨x, -, rfl⟩ := List.mem_map.1 hs
  exact prod_ok hn x
 have h1 := sizeL_most _ fun s hs => (hl s hs).2.1
 have h2 := depthL_most _ fun s hs => (hl s hs).2.2
 rw [List.length_map] at h1
 have ha : (Fm.nd 4 0 (L.map (prodT n))).all (nodeV n) := Fm.all_nd ⟨.inr (.inr (.inl ⟨.inr rfl, rfl, by rw [List.length_map]; omega⟩)), fun h => by omega⟩ fun s hs => (hl s hs).1
 refine ⟨⟨by rw [Fm.size]; omega, by rw [Fm.depth]; omega, fun x hx => (ha x hx).1⟩, fun x hx => ?_⟩
 obtain ⟨m, hm⟩ := vars_mem.1 hx
 exact ((ha _ hm).2 rfl).2
end Go.Proofs.YtaegjpancbmppaaGreatDoor
