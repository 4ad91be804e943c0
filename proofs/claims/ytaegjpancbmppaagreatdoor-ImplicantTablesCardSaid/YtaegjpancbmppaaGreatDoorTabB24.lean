/- Part 24 of 33 of the proof of the law: contracts of the functions that it reaches, and plain facts. Conditions: those that each contract names. -/
import Derived.Test.YtaegjpancbmppaaGreatDoorTabB21
import Derived.Test.YtaegjpancbmppaaGreatDoorTabB22
import Derived.Test.YtaegjpancbmppaaGreatDoorTabB23
import Derived.LoopNIn
import Derived.Test.YtaegjpancbmppaaGreatDoorTabB18
import Derived.Test.YtaegjpancbmppaaGreatDoorTabB15
set_option linter.unusedVariables false
set_option linter.unusedSimpArgs false
namespace Go.Proofs.YtaegjpancbmppaaGreatDoor
open Go.RowKit Go.Shelf Go.Sort
attribute [local go_sem] Oper.semAt_some
def Fm.vars (t : Fm) : List Int := (t.nodes.filter fun x => x.1 == 1).map fun x => x.2.1
def vsQ {Q : Int → Int → Nat → Prop} (ys : List (FzQ Q)) : List Int := (ys.filter fun x => x.1.k == 1).map fun x => x.1.a
theorem vsQ_nodes {Q : Int → Int → Nat → Prop} {t : Fm} {ys : List (FzQ Q)} (h : ys.map FzQ.sh = t.nodes) : vsQ ys = t.vars := by
 unfold Fm.vars vsQ
 rw [← h, List.filter_map, List.map_map]
 rfl
theorem vsQ_snoc {Q : Int → Int → Nat → Prop} (ys : List (FzQ Q)) (x : FzQ Q) : vsQ (ys ++ [x]) = vsQ ys ++ if (x.1.k == 1) = true then [x.1.a] else [] := by
 unfold vsQ
 rw [List.filter_append, List.filter_cons]
 cases (x.1.k == 1) <;> simp
theorem vars_len (t : Fm) : t.vars.length ≤ t.size := by
 unfold Fm.vars
 rw [List.length_map, ← Fm.nodes_len]
 exact List.length_filter_le _ _
theorem kpF_app {n₀ B n base : Nat} {W w1 : World} {tmp : Obj} {v u : Value} {xs : List Value} (hv : Boxed W B 24 v) (hrow : W.ownsRow base 3 1 v n xs) (hgrow : (W.alloc tmp).grownBy w1 v.ownBlock) (hb : Below n₀ W (w1.setCell ⟨B, 0, none⟩ u)) : KpF n₀ W (w1.setCell ⟨B, 0, none⟩ u) := by
 refine ⟨hb, fun b cs t fr hbk ht => ?_⟩
 have hlt : b < W.heap.size := (Array.getElem?_eq_some_iff.1 hbk).1
 have h1 : (W.alloc tmp).heap[b]? = W.heap[b]? := Below.heap_alloc _ _ _ hlt
 have h2 : w1.heap[b]? = (W.alloc tmp).heap[b]? := hgrow.block b (by simp; omega) (fun e => by
  rcases hrow.2 with ⟨rfl, _⟩ | ⟨g, cap, cur, rfl, _, hgb, _⟩
  ·cases e
  ·obtain rfl : b = g := by simpa [Value.ownBlock] using e
   rw [hgb] at hbk
   cases hbk
   rcases ht with ht | ht <;> cases ht)
 have h3 : (w1.setCell ⟨B, 0, none⟩ u).heap[b]? = w1.heap[b]? := Below.heap_setCell w1 _ _ b (by
  show b ≠ B
  intro e
  subst e
  rw [show W.heap[b]? = _ from hv] at hbk
  cases hbk
  rcases ht with ht | ht <;> cases ht)
 exact h3.trans (h2.trans h1)
theorem own_pre {w : World} {base g c n : Nat} {ts L R : List Int} (h : w.ownsRow base 3 1 (.slice (some ⟨g, 0, none⟩) n c) n (ts.map (Value.int .i64))) (hp : ts = L ++ R) : Rd iz w w.heap.size (some ⟨g, 0, none⟩) L := fun hl => by
 have hlen : ts.length = n := by have := h.1; simpa using this
 rcases h.2 with ⟨h1, _⟩ | ⟨g', cap, cur, hv, hb, hg, hnc, hm, hs, ht⟩
 ·cases h1
 ·injection hv with e1 e2 e3
  injection e1 with e1
  injection e1 with e1 _ _
  subst e1
  refine ⟨g, 0, rfl, (Array.getElem?_eq_some_iff.1 hg).1, fun i hi => ?_⟩
  have hin : i < n := by rw [← hlen, hp, List.length_append]; omega
  have h2 : (cur.toList.take (n * 1))[i]? = (ts.map (Value.int .i64))[i]? := by rw [ht]
  rw [List.getElem?_take, if_pos (by omega), List.getElem?_map, hp, List.getElem?_append_left hi, List.getElem?_eq_getElem hi] at h2
  rw [cell_of_row w g _ cur _ (0, 0) hg, Nat.zero_add, ← Array.getElem?_toList, h2]
  rfl
theorem compv_own {w : World} {base c g : Nat} (l : List Int) (h : w.ownsRow base 3 1 (.slice (some ⟨g, 0, none⟩) l.length c) l.length (l.map (Value.int .i64))) (hmx : l.length ≤ 1000000) :
  Calls Tryz.prog 91 #[.slice (some ⟨g, 0, none⟩) l.length c] w fun e w' => e = .returned (.slice (some ⟨g, 0, none⟩) (Lib.compact l).length c) ∧ w'.ownsRow base 3 1 (.slice (some ⟨g, 0, none⟩) l.length c) l.length ((Lib.compact l ++ List.replicate (l.length - (Lib.compact l).length) 0).map (Value.int .i64)) ∧ w.grownBy w' (some g) := by
 rcases h.2 with ⟨h1, _⟩ | ⟨g', cap, cur, hv, hb, hg, hnc, hm, hs, ht⟩
 ·cases h1
 ·injection hv with e1 e2 e3
  injection e1 with e1
  injection e1 with e1 _ _
  subst e1; subst e3
  rw [Nat.mul_one] at ht
  have hH := holds_of_blockI hg ht
  have hlen : (Lib.compact l ++ List.replicate (l.length - (Lib.compact l).length) (0 : Int)).length = l.length := by
   have := Lib.compact_length_le l
   rw [List.length_append, List.length_replicate]; omega
  refine (Tryz.slices_Compact_int g 0 c l w hH (by omega) hnc).mono ?_
  rintro e w' ⟨rfl, q, rfl⟩
  refine ⟨rfl, ?_, ?_⟩
  ·have := ownsRow_sortedI (w := w) (base := base) (n := q) (os := #[]) hlen hb hg hnc hm hs
   rwa [grow_empty] at this
  ·have := grownBy_sortedI (w := w) (g := g) (n := q) (os := #[]) (Lib.compact l ++ List.replicate (l.length - (Lib.compact l).length) (0 : Int)).toArray
   rwa [grow_empty] at this
theorem srZ_facts (l : List Int) : (srZ l).Pairwise (· ≤ ·) ∧ (srZ l).length = l.length ∧ ∀ x, x ∈ srZ l ↔ x ∈ l := by
 refine ⟨?_, (List.mergeSort_perm _ _).length_eq, fun x => (List.mergeSort_perm _ _).mem_iff⟩
 have := List.pairwise_mergeSort (le := fun x y : Int => decide (x ≤ y)) (fun a b c h1 h2 => by simp at *; omega) (fun a b => by simp; omega) l
 exact this.imp fun h => by simpa using h
def SupPost (l : List Int) (W : World) (e : Ending) (W' : World) : Prop :=
 ∃ (A : Option Addr) (c : Nat) (L : List Int), e = .returned (.slice A L.length c) ∧ Rd iz W' W'.heap.size A L ∧ L.Pairwise (· < ·) ∧ (∀ x, x ∈ L ↔ x ∈ l) ∧ L.length ≤ 10000 ∧ Below W.heap.size W W'
set_option maxRecDepth 1000000 in
set_option maxHeartbeats 4000000 in
theorem support_in (t : Fm) (g off c : Nat) (A : Option Addr) (cf : Nat) (W : World) (hs : t.size ≤ 10000) (hg : g < W.heap.size)
  (h0 : W.cell? ⟨g, off, none⟩ = some (.int .i64 t.k)) (h1 : W.cell? ⟨g, off + 1, none⟩ = some (.int .i64 t.a)) (h2 : W.cell? ⟨g, off + 2, none⟩ = some (.slice A t.l.length cf)) (hA : FsR W (lowB W.heap.size) A t.l) :
  CallsIn Fence.wide 8 Tryz.prog 75 #[.slice (some ⟨g, off, none⟩) 1 c] W (SupPost t.vars W) := by
 have HS := Lib.hid (And.intro hs hA)
 obtain ⟨i0, hi, hz0, hz1, hz2⟩ := info_parts infoIntV
 obtain ⟨nl, hnl⟩ : ∃ n, n = t.l.length := ⟨_, rfl⟩
 obtain ⟨k, hk⟩ : ∃ n, n = t.k := ⟨_, rfl⟩
 obtain ⟨a, ha⟩ : ∃ n, n = t.a := ⟨_, rfl⟩
 rw [← hk] at h0
 rw [← ha] at h1
 rw [← hnl] at h2
 have HE := Lib.hid (And.intro hk (And.intro ha hnl))
 clear hk ha hnl hs hA
 refine callsIn_of_wp_marks Tryz.func75 rfl trivial ?_ rfl
 simp only [Tryz.ntmps75, List.size_toArray, List.length_cons, List.length_nil, Nat.reduceAdd, Nat.reduceSub, Array.replicate_succ, Array.replicate_zero, List.push_toArray, List.append_toArray, List.nil_append, List.cons_append]
 gi_wp2_with fail
 refine wpIn_loop_rounds 2 ?_
 rw [roundsIn_succ]
 gi_wp2_with fail
 refine ⟨trivial, ?_⟩
 have hb0 := bw_new (Below.refl W.heap.size W) (.cells #[.slice none 0 0] 24)
 have bO := Boxed.new W 24 (.slice none 0 0)
 obtain ⟨X0, hX0⟩ : ∃ X, X = W.alloc (.cells #[.slice none 0 0] 24) := ⟨_, rfl⟩
 rw [← hX0] at hb0 bO ⊢
 have hb1 := bw_new (Below.refl X0.heap.size X0) (.cells #[.int .i64 k, .int .i64 a, .slice A nl cf] 53)
 obtain ⟨X, hX⟩ : ∃ X, X = X0.alloc (.cells #[.int .i64 k, .int .i64 a, .slice A nl cf] 53) := ⟨_, rfl⟩
 rw [← hX] at hb1 ⊢
 have HB1 := Lib.hid (hb0.trans (hb1.mono hb0.size))
 have HO1 := Lib.hid (show Boxed X W.heap.size 24 (.slice none 0 0) from (hb1.block _ bO.lt).trans bO)
 clear hX hX0 hb0 hb1 bO h0 h1 h2
 refine (callsIn_wide.2 (inodes_any k a A nl cf X)).mono ?_
 rintro e W2 ⟨tb, fb, rfl, hb, hT, hF⟩
 have HB2 := Lib.hid (HB1.out.trans (hb.mono HB1.out.size))
 have HO2 := Lib.hid (show Boxed W2 W.heap.size 24 (.slice none 0 0) from (hb.block _ HO1.out.lt).trans HO1.out)
 have HT := Lib.hid hT
 have HF := Lib.hid hF
 clear hb hT hF
 gi_wp2_with fail
 have hFs : FsR W2 (lowB W.heap.size) A t.l := HS.out.2.lowK HB2.out
 have hn2 : W.heap.size ≤ W2.heap.size := HB2.out.size
 refine wpIn_rangeFunc_ownH rfl (by omega) (gf := 96) (lb := #[.pointer (some ⟨tb, 0, none⟩), .pointer (some ⟨fb, 0, none⟩)]) rfl trivial (enters_of Tryz.func96 (by kernel_rfl) rfl)
  (nodes_stops (fun _ _ _ => True) 7 (by omega) W.heap.size tb fb t A cf W2 HS.out.1 (fun _ _ => trivial) hFs hn2 HT.out (by have := HF.out; rw [HE.out.1, HE.out.2.1, HE.out.2.2] at this; exact this)) KpF.trans (kpF_putObj hn2) (Below.refl _ _) (fun _ => rfl)
  (fun pre Wr => (∃ v, Boxed Wr W.heap.size 24 v ∧ Wr.ownsRow W.heap.size 3 1 v (vsQ pre).length ((vsQ pre).map (Value.int .i64)) ∧ (v = .slice none 0 0 ↔ vsQ pre = [])) ∧ Below W.heap.size W Wr) (fun _ _ _ => False)
  (OwnFrom.and (Own.from (holdsRow_own W.heap.size W.heap.size 24 3 1 (fun pre : List (FzQ fun _ _ _ => True) => (vsQ pre).length) (fun pre => (vsQ pre).map (Value.int .i64)) (fun pre v => v = .slice none 0 0 ↔ vsQ pre = [])) _) (ownFrom_below (Nat.le_refl _) hn2)) (fun _ _ _ _ _ hs _ _ => hs)
  ⟨⟨_, HO2.out, World.ownsRow_nil _ _ _ _, by simp [vsQ]⟩, HB2.out⟩
  (fun x a' Wr => ∃ b, Blk Wr b 53 (fcL x.1.k x.1.a x.1.A x.1.n x.1.c) ∧ a' = { tmps := #[.slice (some ⟨g, off, none⟩) 1 c, undef, .slice none 0 0, .pointer (some ⟨W.heap.size, 0, none⟩), undef, .pointer (some ⟨W.heap.size + 1, 0, none⟩), .pointer (some ⟨b, 0, none⟩), .slice (some ⟨g, off, none⟩) 1 c, .int .i64 1, .int .i64 0, .bool true, .pointer (some ⟨g, off, none⟩), .agg #[.int .i64 k, .int .i64 a, .slice A nl cf], .agg #[.int .i64 k, .int .i64 a, .slice A nl cf], .func (.func 96) #[] #[.pointer (some ⟨tb, 0, none⟩), .pointer (some ⟨fb, 0, none⟩)], .agg #[.int .i64 x.1.k, .int .i64 x.1.a, .slice x.1.A x.1.n x.1.c], undef, undef, undef, undef, undef, undef, undef, undef, undef, undef, undef, undef, undef], defers := [] })
  (fun x a' _ X Y row hs hg hrow => by obtain ⟨b, hb, e⟩ := hs; exact ⟨b, (Own.from (blk_own b _ _) W2.heap.size) () X Y row hb hg hrow, e⟩) ?assign ?body ?done ?stop
 case assign =>
  rintro l pre ⟨⟨xk, xa, xA, xn, xc⟩, hx⟩ Wr K hI hK
  have HI := Lib.hid hI
  have HK := Lib.hid hK
  clear hI hK
  simp only [Fz.v]
  gi_wp2_with fail
  have hbn := bw_new (Below.refl Wr.heap.size Wr) (.cells #[.int .i64 xk, .int .i64 xa, .slice xA xn xc] 53)
  have hnw : W.heap.size ≤ Wr.heap.size := HI.out.2.size
  obtain ⟨⟨v, hv, hrow, hnil⟩, hBl⟩ := HI.out
  exact HK.out _ _ (kf_below hbn) (KpF.below hbn hnw) ⟨⟨v, (hbn.block _ hv.lt).trans hv, own_blI hrow hbn, hnil⟩, hBl.trans (hbn.mono hnw)⟩ ⟨Wr.heap.size, heap_alloc_new Wr _, rfl⟩
 case body =>
  rintro l pre ⟨⟨xk, xa, xA, xn, xc⟩, hx⟩ a' Wr - - hI ⟨b, hb, rfl⟩ hlen
  obtain ⟨⟨v, hv, hrow, hnil⟩, hBl⟩ := hI
  have q0 : Wr.cell? ⟨b, 0, none⟩ = some (.int .i64 xk) := hb.cell 0
  have q1 : Wr.cell? ⟨b, 1, none⟩ = some (.int .i64 xa) := hb.cell 1
  have hc := hv.cell
  have HSN := Lib.hid (vsQ_snoc (Q := fun _ _ _ => True) pre ⟨⟨xk, xa, xA, xn, xc⟩, hx⟩)
  have hnw : W.heap.size ≤ Wr.heap.size := hBl.size
  have hln : (vsQ pre).length ≤ pre.length := by unfold vsQ; rw [List.length_map]; exact List.length_filter_le _ _
  have HB := Lib.hid hBl
  have HNIL := Lib.hid hnil
  clear hb hBl hnil
  by_cases hk1 : xk = 1
  ·subst hk1
   gi_wp2_with (gi_at_builtin; refine wpListIn_append_own _ rfl _ _ 24 rfl W.heap.size 3 i0 (.int .i64 0) 1 8 Tryz.underlying24 hi hz0 hz1 hz2 rfl (by decide) _ _ _ rfl (hrow.alloc _) ⟨Wr.heap.size, 0, none⟩ 1 1 [.int .i64 xa] rfl rfl (cell_one_new _ _ _) (by simp [Value.oneCell']) (by unfold maxLen; omega) (by omega) (by simp; omega) ?_; intro v' w1 hown' hgrow _; obtain ⟨g', cap', rfl⟩ := ownsRow_succ hown'; obtain ⟨hv1, hv2, hr2, hk2, hb2⟩ := hv.appended (by decide) hrow hnw (Nat.le_refl _) hown' hgrow; have hkp := kpF_app hv hrow hgrow hb2; have hc1 := hv1.cell; have hf1 := hv1.frozen)
   have e : vsQ (pre ++ [⟨⟨1, xa, xA, xn, xc⟩, hx⟩]) = vsQ pre ++ [xa] := HSN.out
   exact ⟨hk2.from _, hkp, ⟨_, hv2, by rw [e]; simpa using hr2, by rw [e]; simp⟩, HB.out.trans hb2⟩
  ·have hkb : (xk == 1) = false := by rw [beq_eq_false_iff_ne]; exact hk1
   gi_wp2_with fail
   have e := HSN.out
   rw [if_neg (by show ¬ ((xk == 1) = true); rw [hkb]; simp), List.append_nil] at e
   exact ⟨kf_below (Below.refl _ _), KpF.refl _ _, ⟨v, hv, by rw [e]; exact hrow, by rw [e]; exact HNIL.out⟩, HB.out⟩
 case done =>
  rintro D ys Wr hD hys ⟨⟨v, hv, hrow, hnil⟩, hB⟩ hK
  rw [vsQ_nodes hys] at hrow hnil
  have hc := hv.cell
  have HB := Lib.hid hB
  have hvl := Nat.le_trans (vars_len t) HS.out.1
  have hDn : W.heap.size ≤ D := Nat.le_trans hn2 hD
  obtain ⟨vl, hvlE⟩ : ∃ l, l = t.vars := ⟨_, rfl⟩
  rw [← hvlE] at hrow hnil hvl
  have HVL := Lib.hid hvlE
  clear hys hB hvlE hFs
  by_cases hv0 : vl = []
  ·have hvn := hnil.2 hv0
   subst hvn
   subst hv0
   have HK := Lib.hid hK
   gi_wp2_with fail
   rw [roundsIn_succ]
   gi_wp2_with fail
   refine ⟨trivial, ?_⟩
   refine (callsIn_wide.2 (Tryz.slices_Sort_int_none none 0 Wr)).mono ?_
   rintro e W3 ⟨rfl, rfl⟩
   gi_wp2_with fail
   refine ⟨trivial, ?_⟩
   refine (callsIn_wide.2 (Tryz.slices_Compact_int_empty none 0 W3)).mono ?_
   rintro e W4 ⟨rfl, rfl⟩
   gi_wp2_with fail
   refine ⟨by simp, .inl ⟨_, W4.putObj D (.deferred none), rfl, run_takeDeferred HK.out, ?_⟩⟩
   exact ⟨_, results_tmp rfl _ _ _, none, 0, [], rfl, Rd.nil, List.Pairwise.nil, fun x => by rw [← HVL.out], by simp, HB.out.trans (belowK_b (w := W) (Nat.le_refl _) W4 D _ _ hDn HK.out rfl rfl)⟩
  ·obtain ⟨g', c', hvs, hc'⟩ := own_form hrow (List.length_pos_iff.2 hv0)
   subst hvs
   have HK := Lib.hid hK
   have HSO := Lib.hid (sortv_own vl hrow (by omega))
   have HBX := Lib.hid hv
   have hne : W.heap.size ≠ g' := by
    rcases hrow.2 with ⟨h1, _⟩ | ⟨g2, cap, cur, h1, _, hgb, _⟩
    ·cases h1
    ·injection h1 with e1 _ _
     injection e1 with e1
     injection e1 with e1 _ _
     subst e1
     intro e
     rw [← e, show Wr.heap[W.heap.size]? = _ from hv] at hgb
     cases hgb
   have hDg : D ≠ g' := by
    rcases hrow.2 with ⟨h1, _⟩ | ⟨g2, cap, cur, h1, _, hgb, _⟩
    ·cases h1
    ·injection h1 with e1 _ _
     injection e1 with e1
     injection e1 with e1 _ _
     subst e1
     intro e
     rw [← e, hK] at hgb
     cases hgb
   have hgb : W.heap.size ≤ g' := by
    rcases hrow.2 with ⟨h1, _⟩ | ⟨g2, cap, cur, h1, hgb, _⟩
    ·cases h1
    ·injection h1 with e1 _ _
     injection e1 with e1
     injection e1 with e1 _ _
     subst e1
     exact hgb
   have hSZ := srZ_facts vl
   have HSZ := Lib.hid hSZ
   clear hK hnil hv0 hrow hv hSZ
   gi_wp2_with fail
   rw [roundsIn_succ]
   gi_wp2_with fail
   refine ⟨trivial, ?_⟩
   refine (callsIn_wide.2 HSO.out).mono ?_
   rintro e W3 ⟨rfl, hrow3, hgr3⟩
   have hv3 : Boxed W3 W.heap.size 24 _ := HBX.out.kept hgr3 (fun e => hne (by cases e; rfl))
   have hc3 := hv3.cell
   have hf3 := hv3.frozen
   have HV3 := Lib.hid hv3
   have HK3 := Lib.hid ((hgr3.block D (Array.getElem?_eq_some_iff.1 HK.out).1 (fun e => hDg (by cases e; rfl))).trans HK.out)
   have HB3 := Lib.hid (HB.out.grown hgr3 HB.out.size (fun k e => by cases e; exact hgb))
   have HCO := Lib.hid (compv_own (srZ vl) (by rw [HSZ.out.2.1]; exact hrow3) (by rw [HSZ.out.2.1]; omega))
   rw [HSZ.out.2.1] at HCO
   have HVLN := Lib.hid hvl
   clear hrow3 hgr3 hv3 hc
   gi_wp2_with fail
   refine ⟨trivial, ?_⟩
   refine (callsIn_wide.2 HCO.out).mono ?_
   rintro e W4 ⟨rfl, hrow4, hgr4⟩
   have HB4 := Lib.hid (HB3.out.grown hgr4 HB3.out.size (fun k e => by cases e; exact hgb))
   have HK4 := Lib.hid ((hgr4.block D (Array.getElem?_eq_some_iff.1 HK3.out).1 (fun e => hDg (by cases e; rfl))).trans HK3.out)
   have HR4 := Lib.hid (own_pre hrow4 rfl)
   have hg4 : g' < W4.heap.size := (hrow4.lt g' rfl).2
   clear hrow4 hgr4
   gi_wp2_with fail
   refine ⟨by simp, .inl ⟨_, W4.putObj D (.deferred none), rfl, run_takeDeferred HK4.out, ?_⟩⟩
   have hcs := cmp_sorted (srZ vl) HSZ.out.1
   have hcl := Lib.compact_length_le (srZ vl)
   rw [HSZ.out.2.1] at hcl
   have hbp := belowK_b (w := W) (n₀ := W.heap.size) (Nat.le_refl _) W4 D _ (.deferred none) hDn HK4.out rfl rfl
   refine ⟨_, results_tmp rfl _ _ _, some ⟨g', 0, none⟩, c', Lib.compact (srZ vl), rfl, fun hl => ?_, hcs.1, fun x => by rw [hcs.2, HSZ.out.2.2, HVL.out], Nat.le_trans hcl HVLN.out, HB4.out.trans hbp⟩
   obtain ⟨b, o, e1, hb, hcc⟩ := HR4.out hl
   cases e1
   refine ⟨g', 0, rfl, by simpa using hg4, fun i hi => ?_⟩
   rw [← hcc i hi]
   have := (grownBy_putObj' W4 D (.deferred none)).block g' hg4 (fun e => hDg (by cases e; rfl))
   unfold World.cell?
   rw [this]
 case stop =>
  rintro D c pre W _ _ h _
  exact h.elim
theorem support_any (t : Fm) (g off c : Nat) (A : Option Addr) (cf : Nat) (W : World) (hs : t.size ≤ 10000) (hg : g < W.heap.size)
  (h0 : W.cell? ⟨g, off, none⟩ = some (.int .i64 t.k)) (h1 : W.cell? ⟨g, off + 1, none⟩ = some (.int .i64 t.a)) (h2 : W.cell? ⟨g, off + 2, none⟩ = some (.slice A t.l.length cf)) (hA : FsR W (lowB W.heap.size) A t.l) :
  Calls Tryz.prog 75 #[.slice (some ⟨g, off, none⟩) 1 c] W (SupPost t.vars W) := callsIn_wide.1 (support_in t g off c A cf W hs hg h0 h1 h2 hA)
end Go.Proofs.YtaegjpancbmppaaGreatDoor
namespace Go.Proofs.YtaegjpancbmppaaGreatDoor
mutual
def Fm.occ (x : Int) : Fm → Bool
 | .nd k a l => if k = 1 then a == x else occL x l
def occL (x : Int) : List Fm → Bool
 | [] => false
 | t :: l => t.occ x || occL x l
end
theorem occL_any (x : Int) : ∀ l : List Fm, occL x l = l.any (Fm.occ x)
 | [] => by rw [occL]; rfl
 | t :: l => by rw [occL, occL_any x l]; rfl
theorem Fm.occ_eq (x k a : Int) (l : List Fm) : (Fm.nd k a l).occ x = if k = 1 then a == x else l.any (Fm.occ x) := by rw [Fm.occ, occL_any]
mutual
theorem Fm.occ_iff {x : Int} : ∀ t : Fm, t.all nodeOK → (t.occ x = true ↔ ∃ m, ((1 : Int), x, m) ∈ t.nodes)
 | .nd k a l, h => by
  have hr := Fm.all_root h
  have ih := occL_iff (x := x) l fun s hs => Fm.all_kid h hs
  rw [Fm.occ, Fm.nodes]
  by_cases hk : k = 1
  ·subst hk
   rw [if_pos rfl, beq_iff_eq]
   constructor
   ·rintro rfl; exact ⟨l.length, List.mem_cons_self ..⟩
   ·rintro ⟨m, hm⟩
    rcases List.mem_cons.1 hm with e | hm
    ·injection e with _ e; injection e with e _; exact e.symm
    ·rcases hr with ⟨-, -, -, h0⟩ | ⟨h0, -⟩ | ⟨h0 | h0, -⟩ | ⟨h0 | h0, -⟩
     ·have h0' : l.length = 0 := h0
      obtain rfl := List.length_eq_zero_iff.1 h0'
      rw [nodesL] at hm; cases hm
     all_goals exact absurd h0 (by show ¬ (1 : Int) = _; decide)
  ·rw [if_neg hk, ih]
   constructor
   ·rintro ⟨m, hm⟩; exact ⟨m, List.mem_cons_of_mem _ hm⟩
   ·rintro ⟨m, hm⟩
    rcases List.mem_cons.1 hm with e | hm
    ·injection e with e _; exact absurd e.symm hk
    ·exact ⟨m, hm⟩
theorem occL_iff {x : Int} : ∀ l : List Fm, (∀ s ∈ l, s.all nodeOK) → (occL x l = true ↔ ∃ m, ((1 : Int), x, m) ∈ nodesL l)
 | [], _ => by rw [occL, nodesL]; simp
 | t :: l, h => by
  rw [occL, nodesL, Bool.or_eq_true, Fm.occ_iff t (h t (List.mem_cons_self ..)), occL_iff l fun s hs => h s (List.mem_cons_of_mem _ hs)]
  constructor
  ·rintro (⟨m, hm⟩ | ⟨m, hm⟩)
   ·exact ⟨m, List.mem_append_left _ hm⟩
   ·exact ⟨m, List.mem_append_right _ hm⟩
  ·rintro ⟨m, hm⟩
   rcases List.mem_append.1 hm with hm | hm
   ·exact .inl ⟨m, hm⟩
   ·exact .inr ⟨m, hm⟩
end
theorem vars_mem {t : Fm} {x : Int} : x ∈ t.vars ↔ ∃ m, ((1 : Int), x, m) ∈ t.nodes := by
 unfold Fm.vars
 rw [List.mem_map]
 constructor
 ·rintro ⟨⟨k, a, m⟩, hm, rfl⟩
  obtain ⟨h1, h2⟩ := List.mem_filter.1 hm
  have h3 : k = 1 := by simpa using h2
  subst h3
  exact ⟨m, h1⟩
 ·rintro ⟨m, hm⟩
  exact ⟨(1, x, m), List.mem_filter.2 ⟨hm, by simp⟩, rfl⟩
def bitV (r : Nat) (v : Int) : Bool := decide (v < 64) && r.testBit v.toNat
theorem val_bit {n r : Nat} {t : Fm} (hn : n ≤ 8) (h : ∀ x ∈ t.vars, 0 ≤ x ∧ x < n) : t.val (bitV r) = t.val (vf (rowV n r)) := by
 refine Fm.val_congr t fun x hx h1 => ?_
 obtain ⟨k, a, m⟩ := x
 dsimp only at h1 ⊢
 subst h1
 obtain ⟨h2, h3⟩ := h a (vars_mem.2 ⟨m, hx⟩)
 obtain ⟨i, rfl⟩ : ∃ i : Nat, a = (i : Int) := ⟨a.toNat, by omega⟩
 rw [rowV_get (by omega)]
 unfold bitV
 rw [Int.toNat_natCast, decide_eq_true (by omega)]
 rfl
theorem varIn_of {n : Nat} {t : Fm} (hok : t.all nodeOK) (h : ∀ x ∈ t.vars, x < (n : Int)) : t.all (varIn n) := fun x hx => by
 have hr := hok x hx
 obtain ⟨k, a, m⟩ := x
 refine ⟨fun h1 => ?_, fun h2 => ?_⟩
 ·have h1' : k = 1 := h1
  subst h1'
  rcases hr with ⟨-, h0, -⟩ | ⟨h0, -⟩ | ⟨h0 | h0, -⟩ | ⟨h0 | h0, -⟩
  ·exact ⟨h0, h a (vars_mem.2 ⟨m, hx⟩)⟩
  all_goals exact absurd h0 (by show ¬ (1 : Int) = _; decide)
 ·have h2' : k = 2 := h2
  subst h2'
  rcases hr with ⟨h0, -⟩ | ⟨-, -, h0⟩ | ⟨h0 | h0, -⟩ | ⟨h0 | h0, -⟩
  ·exact absurd h0 (by show ¬ (2 : Int) = _; decide)
  ·have h0' : m = 1 := h0
   show 0 < m
   omega
  all_goals exact absurd h0 (by show ¬ (2 : Int) = _; decide)
theorem tabK_pre (n : Nat) (t : Fm) (k : Nat) : ∀ m, k ≤ m → tabK n t k <+: tabK n t m
 | 0, h => by obtain rfl : k = 0 := by omega
              exact List.prefix_refl _
 | m + 1, h => by
  by_cases hk : k = m + 1
  ·subst hk; exact List.prefix_refl _
  ·refine (tabK_pre n t k m (by omega)).trans ?_
   rw [tabK_succ]
   split
   ·exact List.prefix_append _ _
   ·exact List.prefix_refl _
theorem tabF_at {n r : Nat} {t : Fm} (hr : r < 2 ^ n) (hv : t.val (vf (rowV n r)) = true) : (tabK n t r).length < (tabF n t).length ∧ (tabF n t).getD (tabK n t r).length 0 = r := by
 obtain ⟨s, hs⟩ := tabK_pre n t (r + 1) (2 ^ n) (by omega)
 rw [tabK_succ, if_pos hv] at hs
 unfold tabF
 rw [← hs]
 constructor
 ·simp only [List.length_append, List.length_singleton]; omega
 ·rw [List.append_assoc, List.getD_eq_getElem?_getD, List.getElem?_append_right (Nat.le_refl _), Nat.sub_self]
  rfl
end Go.Proofs.YtaegjpancbmppaaGreatDoor
namespace Go.Proofs.YtaegjpancbmppaaGreatDoor
open Go.RowKit
set_option maxRecDepth 1000000 in
set_option maxHeartbeats 4000000 in
theorem rocc_any (x : Int) : ∀ (F : Nat) (t : Fm), t.size ≤ F → t.size ≤ 10000 → ∀ (A : Option Addr) (c : Nat) (X : World), FsR X (lowB X.heap.size) A t.l →
  Calls Tryz.prog 36 #[.agg (fcL t.k t.a A t.l.length c).toArray, .int .i64 x] X fun e w' => e = .returned (.bool (t.occ x)) ∧ Below X.heap.size X w' := by
 intro F
 induction F with
 | zero => intro t h; have := size_pos t; omega
 | succ F ih =>
  intro t hF hs A c X hA
  have hkids : ∀ s ∈ t.l, ∀ (A : Option Addr) (c : Nat) (X : World), FsR X (lowB X.heap.size) A s.l →
    Calls Tryz.prog 36 #[.agg (fcL s.k s.a A s.l.length c).toArray, .int .i64 x] X fun e w' => e = .returned (.bool (s.occ x)) ∧ Below X.heap.size X w' := fun s hs' => by
   have h1 := size_mem hs'
   have h2 : t.size = 1 + sizeL t.l := Fm.size_eq t
   exact ih s (by omega) (by omega)
  have hll := len_size t.l
  have h2 : t.size = 1 + sizeL t.l := Fm.size_eq t
  obtain ⟨k, a, l⟩ := t
  replace hA : FsR X (lowB X.heap.size) A l := hA
  replace hkids : ∀ s ∈ l, ∀ (A : Option Addr) (c : Nat) (X : World), FsR X (lowB X.heap.size) A s.l →
    Calls Tryz.prog 36 #[.agg (fcL s.k s.a A s.l.length c).toArray, .int .i64 x] X fun e w' => e = .returned (.bool (s.occ x)) ∧ Below X.heap.size X w' := hkids
  replace hll : l.length ≤ sizeL l := hll
  replace h2 : (Fm.nd k a l).size = 1 + sizeL l := h2
  obtain ⟨n, hn⟩ : ∃ n, n = l.length := ⟨_, rfl⟩
  have hl1 : n ≤ 10000 := by omega
  show Calls Tryz.prog 36 #[.agg #[.int .i64 k, .int .i64 a, .slice A l.length c], .int .i64 x] X _
  rw [← hn, Fm.occ_eq]
  have HX := Lib.hid (bw_new (Below.refl X.heap.size X) (.cells #[.int .i64 k, .int .i64 a, .slice A n c] 69))
  have hm0 := (Hp.start X).new 69 (fcL k a A n c)
  simp only [List.nil_append] at hm0
  have HM0 := Lib.hid hm0
  have HA := Lib.hid hA
  have HKID := Lib.hid hkids
  have HN := Lib.hid hn
  clear ih hF hs hll h2 hA hkids hn hm0
  by_cases hk : k = 1
  ·subst hk
   rw [if_pos rfl]
   go_enter Tryz.func36, Tryz.ntmps36
   go_wp2_with fail
   go_ret
   exact ⟨rfl, HX.out⟩
  ·rw [if_neg hk]
   have hkb : (k == 1) = false := by rw [beq_eq_false_iff_ne]; exact hk
   obtain ⟨R, hR⟩ : ∃ R, R = l.any (Fm.occ x) := ⟨_, rfl⟩
   rw [← hR]
   have HR := Lib.hid hR
   clear hR hk
   go_enter Tryz.func36, Tryz.ntmps36
   go_wp2_with fail
   go_loopw [5] (fun y wr => ∃ i : Nat, i ≤ n ∧ y = .int .i64 (i : Int) ∧ (l.take i).any (Fm.occ x) = false ∧ Hp X [(X.heap.size, 69, fcL k a A n c)] wr) (fun y _ => n - (intOf y).toNat)
   case atStart => exact ⟨0, Nat.zero_le _, rfl, rfl, HM0.out⟩
   case round =>
    obtain ⟨wo, rfl⟩ : ∃ W, W = wr := ⟨_, rfl⟩
    obtain ⟨i, hi, rfl, ha, hp⟩ := hrel
    have HP := Lib.hid hp
    have HAN := Lib.hid ha
    have q0 : wo.cell? ⟨X.heap.size, 0, none⟩ = some (.int .i64 k) := (hp.at_ 0 rfl).cell 0
    have q2 : wo.cell? ⟨X.heap.size, 2, none⟩ = some (.slice A n c) := (hp.at_ 0 rfl).cell 2
    have hxl : X.heap.size < wo.heap.size := (hp.at_ 0 rfl).lt
    clear hp ha
    by_cases hlt : i < n
    ·have hil : i < l.length := by rw [← HN.out]; exact hlt
     have hiz : (i : Int) < (n : Int) := by omega
     have HIL := Lib.hid hlt
     obtain ⟨i2, hi2⟩ : ∃ z : Int, z = (i : Int) + 1 := ⟨_, rfl⟩
     have hwi : IntKind.i64.wrap ((i : Int) + 1) = i2 := by rw [hi2]; exact IntWalk.i64_in _ (by omega)
     have HI2 := Lib.hid hi2
     obtain ⟨g1, o1, As1, cs1, hAe, hg1, hc1, hk1⟩ := (HA.out.step HP.out.below).at_ (by omega)
     obtain ⟨a0, a1, a2, -⟩ := hc1 i hil
     have e1 := hk1 i hil
     have hcall := HKID.out _ (List.getElem_mem hil)
     have htk := List.take_succ_eq_append_getElem hil
     have hme := List.getElem_mem hil
     obtain ⟨s, hs⟩ : ∃ s, s = l[i] := ⟨_, rfl⟩
     rw [← hs] at a0 a1 a2 e1 hcall htk hme
     have HST := Lib.hid (show (l.take (i + 1)).any (Fm.occ x) = s.occ x by rw [htk, List.any_append, HAN.out, List.any_cons, List.any_nil, Bool.or_false, Bool.false_or])
     have HME := Lib.hid (show s.occ x = true → R = true from fun h => by rw [HR.out]; exact List.any_eq_true.2 ⟨s, hme, h⟩)
     obtain ⟨m, hm⟩ : ∃ m, m = s.l.length := ⟨_, rfl⟩
     obtain ⟨k', hk'⟩ : ∃ z, z = s.k := ⟨_, rfl⟩
     obtain ⟨a', ha'⟩ : ∃ z, z = s.a := ⟨_, rfl⟩
     obtain ⟨A', hA'⟩ : ∃ z, z = As1 i := ⟨_, rfl⟩
     obtain ⟨c', hc'⟩ : ∃ z, z = cs1 i := ⟨_, rfl⟩
     rw [← hk'] at a0
     rw [← ha'] at a1
     rw [← hA', ← hc', ← hm] at a2
     rw [← hA'] at e1
     have HCL := Lib.hid (show ∀ Y, FsR Y (lowB Y.heap.size) A' s.l → Calls Tryz.prog 36 #[.agg #[.int .i64 k', .int .i64 a', .slice A' m c'], .int .i64 x] Y fun e w' => e = .returned (.bool (s.occ x)) ∧ Below Y.heap.size Y w' from fun Y hY => by
      have := hcall A' c' Y hY
      rw [← hk', ← ha', ← hm] at this
      exact this)
     have HE1 := Lib.hid e1
     subst hAe
     have hg1' : g1 < wo.heap.size := hg1
     obtain ⟨r, hr⟩ : ∃ r, r = s.occ x := ⟨_, rfl⟩
     rw [← hr] at HCL HST HME
     clear hi2 hlt hi hc1 hk1 e1 hs hil htk hme hr hm hk' ha' hA' hc' hcall hg1
     go_wp2_with fail
     refine (HCL.out _ HE1.out).mono ?_
     rintro e w3 ⟨rfl, hb3⟩
     have HP3 := Lib.hid (HP.out.step hb3)
     clear hb3 a0 a1 a2 q0 q2
     cases r with
     | true =>
      obtain rfl : R = true := HME.out rfl
      go_wp2_with fail
      go_ret
      exact ⟨rfl, HP3.out.below⟩
     | false =>
      go_wp2_with fail
      go_roundw
      case rel => exact ⟨i + 1, HIL.out, by rw [HI2.out]; rfl, HST.out, HP3.out⟩
      case measure => have := HIL.out; have := HI2.out; simp only [intOf]; omega
    ·obtain rfl : i = n := by omega
     have hiz : ¬ (i : Int) < (i : Int) := by omega
     obtain rfl : R = false := by
      rw [HR.out]
      have := HAN.out
      rwa [List.take_of_length_le (by rw [HN.out]; exact Nat.le_refl _)] at this
     clear hi hlt
     go_wp2_with fail
     go_ret
     exact ⟨rfl, HP.out.below⟩
theorem bit_and1u {a x : Nat} (ha : a < 18446744073709551616) : bits .and .u64 ((a : Int) / 2 ^ x) 1 = if a.testBit x then 1 else 0 := by
 have e : ((a : Int) / 2 ^ x) = ((a / 2 ^ x : Nat) : Int) := by
  rw [Int.natCast_ediv, Int.natCast_pow]; rfl
 have hl : a / 2 ^ x < 18446744073709551616 := Nat.lt_of_le_of_lt (Nat.div_le_self _ _) ha
 have h : bits .and .u64 ((a / 2 ^ x : Nat) : Int) 1 = IntKind.u64.wrap (((BitVec.ofInt 64 ((a / 2 ^ x : Nat) : Int) &&& BitVec.ofInt 64 1).toNat : Nat) : Int) := rfl
 have h2 : BitVec.ofInt 64 1 = BitVec.ofInt 64 ((1 : Nat) : Int) := rfl
 rw [e, h, h2, BitVec.toNat_and, bv_nat _ hl, bv_nat _ (by decide), Nat.and_one_is_mod, Nat.testBit_eq_decide_div_mod_eq]
 rcases Nat.mod_two_eq_zero_or_one (a / 2 ^ x) with h | h <;> rw [h] <;> rfl
theorem valB_end {f : Int → Bool} {k a : Int} {l : List Fm} {b : Bool} (hk : (k = 3 ∧ b = true) ∨ (k = 4 ∧ b = false)) : (Fm.nd k a l).val f = if l.all (fun t => t.val f == b) = true then b else !b := by
 rw [Fm.val_eq]
 rcases hk with ⟨rfl, rfl⟩ | ⟨rfl, rfl⟩
 ·rw [if_neg (by decide), if_neg (by decide), if_pos rfl]
  have e : (fun t : Fm => t.val f == true) = Fm.val f := funext fun t => by cases t.val f <;> rfl
  rw [e]
  cases l.all (Fm.val f) <;> rfl
 ·rw [if_neg (by decide), if_neg (by decide), if_neg (by decide), if_pos rfl]
  have e : l.all (fun t : Fm => t.val f == false) = !l.any (Fm.val f) := by
   rw [List.not_any_eq_all_not]
   congr 1
   exact funext fun t => by cases t.val f <;> rfl
  rw [e]
  cases l.any (Fm.val f) <;> rfl
def RvW (X wo : World) (k : Int) (A : Option Addr) (n c : Nat) (W : World) : Prop := Hp X [(X.heap.size, 69, fcL k 0 A n c)] W ∧ Below wo.heap.size wo W
theorem RvW.step {X wo : World} {k : Int} {A : Option Addr} {n c : Nat} {W W' : World} (h : RvW X wo k A n c W) (hb : Below W.heap.size W W') : RvW X wo k A n c W' := ⟨h.1.step hb, h.2.trans (hb.mono h.2.size)⟩
abbrev RvOK (r : Nat) (t : Fm) (A : Option Addr) (c : Nat) (X : World) : Prop :=
 Calls Tryz.prog 38 #[.agg (fcL t.k t.a A t.l.length c).toArray, .int .u64 (r : Int)] X fun e w' => e = .returned (.bool (t.val (bitV r))) ∧ Below X.heap.size X w'
set_option maxRecDepth 1000000 in
set_option maxHeartbeats 8000000 in
theorem rval_any (r : Nat) (hr : r < 18446744073709551616) : ∀ (F : Nat) (t : Fm), t.size ≤ F → t.size ≤ 10000 → t.all node6 → ∀ (A : Option Addr) (c : Nat) (X : World), FsR X (lowB X.heap.size) A t.l → RvOK r t A c X := by
 intro F
 induction F with
 | zero => intro t h; have := size_pos t; omega
 | succ F ih =>
  intro t hF hs hok A c X hA
  have hq := Fm.all_root hok
  have hkids : ∀ s ∈ t.l, ∀ (A : Option Addr) (c : Nat) (X : World), FsR X (lowB X.heap.size) A s.l → RvOK r s A c X := fun s hs' => by
   have h1 := size_mem hs'
   have h2 : t.size = 1 + sizeL t.l := Fm.size_eq t
   exact ih s (by omega) (by omega) (Fm.all_kid hok hs')
  have hll := len_size t.l
  have h2 : t.size = 1 + sizeL t.l := Fm.size_eq t
  obtain ⟨k, a, l⟩ := t
  replace hA : FsR X (lowB X.heap.size) A l := hA
  replace hkids : ∀ s ∈ l, ∀ (A : Option Addr) (c : Nat) (X : World), FsR X (lowB X.heap.size) A s.l → RvOK r s A c X := hkids
  replace hll : l.length ≤ sizeL l := hll
  replace h2 : (Fm.nd k a l).size = 1 + sizeL l := h2
  replace hq : node6 k a l.length := hq
  obtain ⟨n, hn⟩ : ∃ n, n = l.length := ⟨_, rfl⟩
  have hl1 : n ≤ 10000 := by omega
  show Calls Tryz.prog 38 #[.agg #[.int .i64 k, .int .i64 a, .slice A l.length c], .int .u64 (r : Int)] X fun e w' => e = .returned (.bool ((Fm.nd k a l).val (bitV r))) ∧ Below X.heap.size X w'
  rw [← hn] at hq ⊢
  have HX := Lib.hid (bw_new (Below.refl X.heap.size X) (.cells #[.int .i64 k, .int .i64 a, .slice A n c] 69))
  have hm0 := (Hp.start X).new 69 (fcL k a A n c)
  simp only [List.nil_append] at hm0
  have HM0 := Lib.hid hm0
  have HA := Lib.hid hA
  have HKID := Lib.hid hkids
  have HN := Lib.hid hn
  have HRL := Lib.hid hr
  clear ih hF hs hll h2 hA hkids hn hm0 hok
  obtain ⟨hq1, hq2⟩ := hq
  rcases hq1 with ⟨rfl, h1, h2, h3⟩ | ⟨rfl, rfl, h3⟩ | ⟨hk, rfl, h3⟩ | ⟨rfl | rfl, rfl, h3⟩
  ·obtain ⟨h4, h5⟩ := hq2 rfl
   obtain ⟨v, rfl⟩ : ∃ v : Nat, a = (v : Int) := ⟨a.toNat, by omega⟩
   have hv64 : (v : Int) < 64 := by omega
   have hwv : IntKind.u64.wrap (v : Int) = (v : Int) := IntWalk.u64_in _ ⟨by omega, by omega⟩
   have hab := bit_and1u (x := v) HRL.out
   have HVL := Lib.hid (show (Fm.nd 1 (v : Int) l).val (bitV r) = r.testBit v by
    rw [Fm.val_eq, if_pos rfl]; unfold bitV
    rw [Int.toNat_natCast, decide_eq_true hv64]; rfl)
   rw [HVL.out]
   clear h1 h2 h3 h4 hq2 hr
   cases hrb : r.testBit v with
   | true =>
    rw [hrb] at hab
    have hab2 : bits .and .u64 ((r : Int) / 2 ^ v) 1 = 1 := hab
    clear hab hrb
    go_enter Tryz.func38, Tryz.ntmps38
    go_wp2_with fail
    go_ret
    exact ⟨rfl, HX.out⟩
   | false =>
    rw [hrb] at hab
    have hab2 : bits .and .u64 ((r : Int) / 2 ^ v) 1 = 0 := hab
    clear hab hrb
    go_enter Tryz.func38, Tryz.ntmps38
    go_wp2_with fail
    go_ret
    exact ⟨rfl, HX.out⟩
  ·obtain ⟨s, hl⟩ : ∃ s, l = [s] := by
    match l, HN.out.symm.trans h3 with
    | [s], _ => exact ⟨s, rfl⟩
   subst hl
   subst h3
   obtain ⟨g1, o1, As1, cs1, hAe, hg1, hc1, -⟩ := HA.out.at_ (by show 0 < 1; decide)
   obtain ⟨a0, a1, a2, -⟩ := hc1 0 (by show 0 < 1; decide)
   obtain ⟨g2, o2, As2, cs2, hAe2, -, hc2, hk2⟩ := (HA.out.step HX.out).at_ (by show 0 < 1; decide)
   obtain ⟨-, -, b2, -⟩ := hc2 0 (by show 0 < 1; decide)
   have e1 := hk2 0 (by show 0 < 1; decide)
   subst hAe
   injection hAe2 with e3
   injection e3 with e3 e4 _
   subst e3
   subst e4
   replace a0 : _ = some (Value.int .i64 s.k) := a0
   replace a1 : _ = some (Value.int .i64 s.a) := a1
   replace a2 : _ = some (Value.slice (As1 0) s.l.length (cs1 0)) := a2
   replace b2 : _ = some (Value.slice (As2 0) s.l.length (cs2 0)) := b2
   replace e1 : FsR _ _ (As2 0) s.l := e1
   have b3 := (HX.out.cell (p := ⟨g1, o1 + 0 * 3 + 2, none⟩) hg1).trans a2
   rw [b2] at b3
   injection b3 with b3
   injection b3 with b3 _ b4
   rw [b3] at e1
   rw [Nat.zero_mul, Nat.add_zero] at a0 a1 a2
   have HCL := Lib.hid (HKID.out s (List.mem_singleton.2 rfl) (As1 0) (cs1 0) _ e1)
   have HVL := Lib.hid (show (Fm.nd 2 0 [s]).val (bitV r) = !(s.val (bitV r)) by rw [Fm.val_eq, if_neg (by decide), if_pos rfl]; rfl)
   rw [HVL.out]
   obtain ⟨R, hR⟩ : ∃ R, R = s.val (bitV r) := ⟨_, rfl⟩
   obtain ⟨m, hm⟩ : ∃ m, m = s.l.length := ⟨_, rfl⟩
   obtain ⟨k', hk'⟩ : ∃ z, z = s.k := ⟨_, rfl⟩
   obtain ⟨a', ha'⟩ : ∃ z, z = s.a := ⟨_, rfl⟩
   obtain ⟨A', hA'⟩ : ∃ z, z = As1 0 := ⟨_, rfl⟩
   obtain ⟨c', hc'⟩ : ∃ z, z = cs1 0 := ⟨_, rfl⟩
   rw [← hk'] at a0
   rw [← ha'] at a1
   rw [← hA', ← hc', ← hm] at a2
   have HCL2 := Lib.hid (show Calls Tryz.prog 38 #[.agg #[.int .i64 k', .int .i64 a', .slice A' m c'], .int .u64 (r : Int)] (X.alloc (.cells #[.int .i64 2, .int .i64 0, .slice (some ⟨g1, o1, none⟩) 1 c] 69)) (fun e w' => e = .returned (.bool R) ∧ Below (X.alloc (.cells #[.int .i64 2, .int .i64 0, .slice (some ⟨g1, o1, none⟩) 1 c] 69)).heap.size (X.alloc (.cells #[.int .i64 2, .int .i64 0, .slice (some ⟨g1, o1, none⟩) 1 c] 69)) w') by rw [hR, hk', ha', hA', hc', hm]; exact HCL.out)
   rw [← hR]
   have hg1' : g1 < X.heap.size := hg1
   clear HCL hR hk' ha' hA' hc' hm hq2 b2 b3 b4 e1 hc1 hc2 hk2 hg1 HVL hr
   go_enter Tryz.func38, Tryz.ntmps38
   go_wp2_with fail
   refine HCL2.out.mono ?_
   rintro e w3 ⟨rfl, hb⟩
   have HB := Lib.hid (HX.out.trans (hb.mono HX.out.size))
   clear hb
   go_wp2_with fail
   go_ret
   exact ⟨rfl, HB.out⟩
  ·obtain ⟨b, hb⟩ : ∃ b : Bool, (k = 3 ∧ b = true) ∨ (k = 4 ∧ b = false) := by
    rcases hk with h | h
    ·exact ⟨true, .inl ⟨h, rfl⟩⟩
    ·exact ⟨false, .inr ⟨h, rfl⟩⟩
   rw [valB_end hb]
   have hk1 : (k == 1) = false := by rw [beq_eq_false_iff_ne]; omega
   have hk2 : (k == 2) = false := by rw [beq_eq_false_iff_ne]; omega
   have hk5 : (k == 5) = false := by rw [beq_eq_false_iff_ne]; omega
   have hk6 : (k == 6) = false := by rw [beq_eq_false_iff_ne]; omega
   have hk3 : (k == 3) = b := by rcases hb with ⟨rfl, rfl⟩ | ⟨rfl, rfl⟩ <;> rfl
   have hk4 : (k == 4) = !b := by rcases hb with ⟨rfl, rfl⟩ | ⟨rfl, rfl⟩ <;> rfl
   obtain ⟨R, hR⟩ : ∃ R, R = if l.all (fun t => t.val (bitV r) == b) = true then b else !b := ⟨_, rfl⟩
   rw [← hR]
   have HR := Lib.hid hR
   clear hR hk hb hq2 h3 hr
   go_enter Tryz.func38, Tryz.ntmps38
   go_wp2_with fail
   go_loopw [5] (fun y wr => ∃ i : Nat, i ≤ n ∧ y = .int .i64 (i : Int) ∧ (l.take i).all (fun t => t.val (bitV r) == b) = true ∧ Hp X [(X.heap.size, 69, fcL k 0 A n c)] wr) (fun y _ => n - (intOf y).toNat)
   case atStart => exact ⟨0, Nat.zero_le _, rfl, rfl, HM0.out⟩
   case round =>
    obtain ⟨wo, rfl⟩ : ∃ W, W = wr := ⟨_, rfl⟩
    obtain ⟨i, hi, rfl, ha, hp⟩ := hrel
    have HP := Lib.hid hp
    have HAN := Lib.hid ha
    have q0 : wo.cell? ⟨X.heap.size, 0, none⟩ = some (.int .i64 k) := (hp.at_ 0 rfl).cell 0
    have q2 : wo.cell? ⟨X.heap.size, 2, none⟩ = some (.slice A n c) := (hp.at_ 0 rfl).cell 2
    have hxl : X.heap.size < wo.heap.size := (hp.at_ 0 rfl).lt
    clear hp ha
    by_cases hlt : i < n
    ·have hil : i < l.length := by rw [← HN.out]; exact hlt
     have hiz : (i : Int) < (n : Int) := by omega
     have HIL := Lib.hid hlt
     obtain ⟨i2, hi2⟩ : ∃ z : Int, z = (i : Int) + 1 := ⟨_, rfl⟩
     have hwi : IntKind.i64.wrap ((i : Int) + 1) = i2 := by rw [hi2]; exact IntWalk.i64_in _ (by omega)
     have HI2 := Lib.hid hi2
     obtain ⟨g1, o1, As1, cs1, hAe, hg1, hc1, hkk1⟩ := (HA.out.step HP.out.below).at_ (by omega)
     obtain ⟨a0, a1, a2, -⟩ := hc1 i hil
     have e1 := hkk1 i hil
     have hcall := HKID.out _ (List.getElem_mem hil)
     have htk := List.take_succ_eq_append_getElem hil
     have hme := List.getElem_mem hil
     obtain ⟨s, hs⟩ : ∃ s, s = l[i] := ⟨_, rfl⟩
     rw [← hs] at a0 a1 a2 e1 hcall htk hme
     have HST := Lib.hid (show s.val (bitV r) = b → (l.take (i + 1)).all (fun t => t.val (bitV r) == b) = true from fun h => by rw [htk, List.all_append, HAN.out, List.all_cons, List.all_nil, h]; simp)
     have HME := Lib.hid (show s.val (bitV r) ≠ b → R = !b from fun h => by
      rw [HR.out, if_neg]
      intro hall
      exact h (by simpa using List.all_eq_true.1 hall s hme))
     obtain ⟨m, hm⟩ : ∃ m, m = s.l.length := ⟨_, rfl⟩
     obtain ⟨k', hk'⟩ : ∃ z, z = s.k := ⟨_, rfl⟩
     obtain ⟨a', ha'⟩ : ∃ z, z = s.a := ⟨_, rfl⟩
     obtain ⟨A', hA'⟩ : ∃ z, z = As1 i := ⟨_, rfl⟩
     obtain ⟨c', hc'⟩ : ∃ z, z = cs1 i := ⟨_, rfl⟩
     rw [← hk'] at a0
     rw [← ha'] at a1
     rw [← hA', ← hc', ← hm] at a2
     rw [← hA'] at e1
     have HCL := Lib.hid (show ∀ Y, FsR Y (lowB Y.heap.size) A' s.l → Calls Tryz.prog 38 #[.agg #[.int .i64 k', .int .i64 a', .slice A' m c'], .int .u64 (r : Int)] Y fun e w' => e = .returned (.bool (s.val (bitV r))) ∧ Below Y.heap.size Y w' from fun Y hY => by
      have := hcall A' c' Y hY
      unfold RvOK at this
      rw [← hk', ← ha', ← hm] at this
      exact this)
     have HE1 := Lib.hid e1
     subst hAe
     have hg1' : g1 < wo.heap.size := hg1
     have HCE := Lib.hid (show ∀ W, Below wo.heap.size wo W → g1 < W.heap.size ∧ W.cell? ⟨g1, o1 + i * 3, none⟩ = some (.int .i64 k') ∧ W.cell? ⟨g1, o1 + i * 3 + 1, none⟩ = some (.int .i64 a') ∧ W.cell? ⟨g1, o1 + i * 3 + 2, none⟩ = some (.slice A' m c') from fun W h => ⟨Nat.lt_of_lt_of_le hg1' h.size, (h.cell (p := ⟨g1, o1 + i * 3, none⟩) hg1').trans a0, (h.cell (p := ⟨g1, o1 + i * 3 + 1, none⟩) hg1').trans a1, (h.cell (p := ⟨g1, o1 + i * 3 + 2, none⟩) hg1').trans a2⟩)
     obtain ⟨u, hu⟩ : ∃ u, u = s.val (bitV r) := ⟨_, rfl⟩
     rw [← hu] at HCL HST HME
     clear hi2 hlt hi hc1 hkk1 e1 hs hil htk hme hu hm hk' ha' hA' hc' hcall hg1
     obtain ⟨d, hd⟩ : ∃ d, (u != b) = d := ⟨_, rfl⟩
     have HD := Lib.hid hd
     go_upto_region 13 with fail
     --R13
     refine wp_regionJ 11 #[false, false, false, false, false, false, false, false, false, false, false] (fun ll aa W => ∃ (m0 m1 m2 m3 m4 m5 m6 m7 m8 m9 m10 : Bool), ll = #[m0, m1, m2, m3, m4, m5, m6, m7, m8, m9, m10] ∧ aa = ({ tmps := #[Value.agg #[Value.int IntKind.i64 k, Value.int IntKind.i64 0, Value.slice (some { block := g1, off := o1 }) n c], Value.int IntKind.u64 (r : Int), Value.pointer (some { block := X.heap.size, off := 0 }), undef, u4, Value.int IntKind.i64 (i : Int), Value.pointer (some { block := X.heap.size, off := 0 }), Value.int IntKind.i64 k, Value.bool false, Value.bool false, undef, undef, undef, undef, undef, undef, undef, undef, undef, undef, undef, undef, Value.bool false, Value.bool false, undef, undef, undef, undef, undef, undef, undef, Value.bool false, Value.bool false, Value.bool false, Value.bool false, Value.int IntKind.i64 (i : Int), Value.pointer (some { block := X.heap.size, off := 2 }), Value.slice (some { block := g1, off := o1 }) n c, Value.int IntKind.i64 (n : Int), Value.bool true, u40, u41, cwX m0 (Value.pointer (some ⟨X.heap.size, 2, none⟩)) (u42), cwX m1 (Value.slice (some ⟨g1, o1, none⟩) n c) (u43), cwX m2 (Value.int IntKind.i64 (i : Int)) (u44), cwX m3 (Value.pointer (some ⟨g1, o1 + i * 3, none⟩)) (u45), cwX m4 (Value.agg #[.int .i64 k', .int .i64 a', .slice A' m c']) (u46), cwX m5 (Value.int IntKind.u64 (r : Int)) (u47), cwX m6 (Value.bool u) (u48), cwX m7 (Value.pointer (some ⟨X.heap.size, 0, none⟩)) (u49), cwX m8 (Value.int .i64 k) (u50), cwX m9 (Value.bool b) (u51), cwX m10 (Value.bool d) (u52), u53, u54, u55, undef, undef, undef], defers := [] } : Act) ∧ (True) ∧ RvW X wo k (some ⟨g1, o1, none⟩) n c W) (by kernel_rfl) (by kernel_rfl) (by kernel_rfl) (by kernel_rfl) ?_ ?_ ?_ ?_
     ·rintro ll aa W ⟨m0, m1, m2, m3, m4, m5, m6, m7, m8, m9, m10, rfl, _⟩
      rfl
     ·exact ⟨false, false, false, false, false, false, false, false, false, false, false, rfl, rfl, trivial, (RvW.step ⟨HP.out, Below.refl _ _⟩ (bw_drew (Below.refl _ _)))⟩
     ·rintro ll aa W i o ⟨m0, m1, m2, m3, m4, m5, m6, m7, m8, m9, m10, rfl, rfl, hi0, hm⟩ ho hun hall K hK
      have hi : i < 11 := (Array.getElem?_eq_some_iff.1 ho).1
      have HM := Lib.hid hm
      have HI := Lib.hid hi0
      clear hm hi0
      rcases (show i = 0 ∨ i = 1 ∨ i = 2 ∨ i = 3 ∨ i = 4 ∨ i = 5 ∨ i = 6 ∨ i = 7 ∨ i = 8 ∨ i = 9 ∨ i = 10 by omega) with rfl | rfl | rfl | rfl | rfl | rfl | rfl | rfl | rfl | rfl | rfl
      ·cases ho
       simp at hun; subst hun
       clear hall hi
       go_simp
       exact hK.out _ _ ⟨true, m1, m2, m3, m4, m5, m6, m7, m8, m9, m10, rfl, rfl, trivial, HM.out⟩
      ·cases ho
       cases (getBX hall 0 rfl : m0 = true)
       simp at hun; subst hun
       clear hall hi
       have x2 : W.cell? ⟨X.heap.size, 2, none⟩ = some (.slice (some ⟨g1, o1, none⟩) n c) := (HM.out.1.at_ 0 rfl).cell 2
       go_simp
       exact hK.out _ _ ⟨true, true, m2, m3, m4, m5, m6, m7, m8, m9, m10, rfl, rfl, trivial, HM.out⟩
      ·cases ho
       simp at hun; subst hun
       clear hall hi
       go_simp
       exact hK.out _ _ ⟨m0, m1, true, m3, m4, m5, m6, m7, m8, m9, m10, rfl, rfl, trivial, HM.out⟩
      ·cases ho
       cases (getBX hall 1 rfl : m1 = true)
       cases (getBX hall 2 rfl : m2 = true)
       simp at hun; subst hun
       clear hall hi
       go_simp
       exact hK.out _ _ ⟨m0, true, true, true, m4, m5, m6, m7, m8, m9, m10, rfl, rfl, trivial, HM.out⟩
      ·cases ho
       cases (getBX hall 3 rfl : m3 = true)
       simp at hun; subst hun
       clear hall hi
       obtain ⟨glt, b0, b1, b2⟩ := HCE.out W HM.out.2
       go_simp
       exact hK.out _ _ ⟨m0, m1, m2, true, true, m5, m6, m7, m8, m9, m10, rfl, rfl, trivial, HM.out⟩
      ·cases ho
       simp at hun; subst hun
       clear hall hi
       go_simp
       exact hK.out _ _ ⟨m0, m1, m2, m3, m4, true, m6, m7, m8, m9, m10, rfl, rfl, trivial, HM.out⟩
      ·cases ho
       cases (getBX hall 4 rfl : m4 = true)
       cases (getBX hall 5 rfl : m5 = true)
       simp at hun; subst hun
       clear hall hi
       go_simp
       refine (HCL.out W (HE1.out.step HM.out.2)).mono ?_
       rintro e W' ⟨rfl, hb⟩
       have HN' := Lib.hid (HM.out.step hb)
       exact hK.out _ _ ⟨m0, m1, m2, m3, true, true, true, m7, m8, m9, m10, rfl, rfl, trivial, HN'.out⟩
      ·cases ho
       simp at hun; subst hun
       clear hall hi
       go_simp
       exact hK.out _ _ ⟨m0, m1, m2, m3, m4, m5, m6, true, m8, m9, m10, rfl, rfl, trivial, HM.out⟩
      ·cases ho
       cases (getBX hall 7 rfl : m7 = true)
       simp at hun; subst hun
       clear hall hi
       have x0 : W.cell? ⟨X.heap.size, 0, none⟩ = some (.int .i64 k) := (HM.out.1.at_ 0 rfl).cell 0
       go_simp
       exact hK.out _ _ ⟨m0, m1, m2, m3, m4, m5, m6, true, true, m9, m10, rfl, rfl, trivial, HM.out⟩
      ·cases ho
       cases (getBX hall 8 rfl : m8 = true)
       simp at hun; subst hun
       clear hall hi
       go_simp
       exact hK.out _ _ ⟨m0, m1, m2, m3, m4, m5, m6, m7, true, true, m10, rfl, rfl, trivial, HM.out⟩
      ·cases ho
       cases (getBX hall 6 rfl : m6 = true)
       cases (getBX hall 9 rfl : m9 = true)
       simp at hun; subst hun
       clear hall hi
       have hdd := HD.out
       cases u <;> cases b <;> (obtain rfl := hdd; go_simp; exact hK.out _ _ ⟨m0, m1, m2, m3, m4, m5, true, m7, m8, true, true, rfl, rfl, trivial, HM.out⟩)
     ·rintro ll aa W ⟨m0, m1, m2, m3, m4, m5, m6, m7, m8, m9, m10, rfl, rfl, _, hm⟩ hall
      cases (hall 0 (by decide) : m0 = true)
      cases (hall 1 (by decide) : m1 = true)
      cases (hall 2 (by decide) : m2 = true)
      cases (hall 3 (by decide) : m3 = true)
      cases (hall 4 (by decide) : m4 = true)
      cases (hall 5 (by decide) : m5 = true)
      cases (hall 6 (by decide) : m6 = true)
      cases (hall 7 (by decide) : m7 = true)
      cases (hall 8 (by decide) : m8 = true)
      cases (hall 9 (by decide) : m9 = true)
      cases (hall 10 (by decide) : m10 = true)
      clear hall
      have HP3 := Lib.hid hm.1
      clear hm
      dsimp only [cwX, cond_true]
      cases d with
      | false =>
       have HST2 := Lib.hid (HST.out (by have := HD.out; simpa using this))
       clear hd
       go_wp2_with fail
       go_roundw
       case rel => exact ⟨i + 1, HIL.out, by rw [HI2.out]; rfl, HST2.out, HP3.out⟩
       case measure => have := HIL.out; have := HI2.out; simp only [intOf]; omega
      | true =>
       obtain rfl : R = !b := HME.out (by have := HD.out; simpa using this)
       have q0 : W.cell? ⟨X.heap.size, 0, none⟩ = some (.int .i64 k) := (HP3.out.at_ 0 rfl).cell 0
       clear hd
       go_wp2_with fail
       go_ret
       exact ⟨rfl, HP3.out.below⟩
    ·obtain rfl : i = n := by omega
     have hiz : ¬ (i : Int) < (i : Int) := by omega
     obtain rfl : R = b := by
      rw [HR.out, if_pos]
      have := HAN.out
      rwa [List.take_of_length_le (by rw [HN.out]; exact Nat.le_refl _)] at this
     clear hi hlt
     go_wp2_with fail
     go_ret
     exact ⟨rfl, HP.out.below⟩
  ·rw [Fm.val_eq, if_neg (by decide), if_neg (by decide), if_neg (by decide), if_neg (by decide)]
   clear hq2 h3 hr
   go_enter Tryz.func38, Tryz.ntmps38
   go_wp2_with fail
   go_ret
   exact ⟨rfl, HX.out⟩
  ·rw [Fm.val_eq, if_neg (by decide), if_neg (by decide), if_neg (by decide), if_neg (by decide)]
   clear hq2 h3 hr
   go_enter Tryz.func38, Tryz.ntmps38
   go_wp2_with fail
   go_ret
   exact ⟨rfl, HX.out⟩
end Go.Proofs.YtaegjpancbmppaaGreatDoor
