/- Part 22 of 33 of the proof of the law: contracts of the functions that it reaches, and plain facts. Conditions: those that each contract names. -/
import Derived.RangeFuncNested
import Derived.RangeFuncBound
import Derived.RangeFuncCalls
import Derived.RangeFuncLeaves
import Derived.RangeFuncBox
import Derived.RangeFuncWrites
import Derived.RangeFuncFrom
import Derived.Shelf.Abstract
import Derived.Shelf.RegionOpen
import Derived.OwnWalkIn
import Derived.TacticsInMore
import Derived.LoopNIn
import Derived.LoopIn
import Derived.Maps.AppendAt
import Derived.Sort.OwnSortedInts
import Derived.Test.YtaegjpancbmppaaGreatDoorTabB03
import Derived.Test.YtaegjpancbmppaaGreatDoorTabB01
import Derived.Test.YtaegjpancbmppaaGreatDoorTabB09
set_option linter.unusedVariables false
set_option linter.unusedSimpArgs false
namespace Go.Proofs.YtaegjpancbmppaaGreatDoor
open Go.RowKit Go.Shelf Go.Sort
attribute [local go_sem] Oper.semAt_some
abbrev zL (L : List Nat) : List Int := L.map fun x : Nat => (x : Int)
theorem zL_nv (L : List Nat) : (zL L).map (Value.int .i64) = L.map nv := by rw [List.map_map]; rfl
theorem zL_take {L : List Nat} {k : Nat} (h : k < L.length) : (zL L).take (k + 1) = (zL L).take k ++ [((L.getD k 0 : Nat) : Int)] := by
 rw [List.take_succ_eq_append_getElem (by rw [List.length_map]; exact h), List.getElem_map, List.getD_eq_getElem?_getD, List.getElem?_eq_getElem h]; rfl
set_option maxRecDepth 100000 in
set_option maxHeartbeats 4000000 in
theorem vals_in (n : Nat) (hn : 2 ≤ n) (l Bs n₀ m cc : Nat) (A : Option Addr) (L : List Nat) (hm : m = L.length) (hm1 : m ≤ 1000)
  (J Jx : List Int → World → Prop)
  (hY : ∀ pre x W, J pre W → pre.length < 1000 → YieldAt Fence.wide (n - 1) Tryz.prog l #[.int .i64 x] W fun e W' =>
   (e = .returned (.bool true) ∧ J (pre ++ [x]) W' ∧ Below n₀ W W') ∨ (e = .returned (.bool false) ∧ Jx (pre ++ [x]) W'))
  (W : World) (hB0 : W.cell? ⟨Bs, 0, none⟩ = some (.slice A m cc)) (hc : Rd nv W n₀ A L) (h0 : J [] W) :
  CallsIn Fence.wide n Tryz.prog 89 #[.func (.yield l) #[] #[], .pointer (some ⟨Bs, 0, none⟩)] W fun e W' => (∃ v, e = .returned v) ∧
   ((∃ ys, ys = zL L ∧ J ys W') ∨ (∃ pre, True ∧ Jx pre W')) := by
 refine callsIn_of_wp Tryz.func89 rfl trivial ?_ rfl
 simp only [Tryz.ntmps89, List.size_toArray, List.length_cons, List.length_nil, Nat.reduceAdd, Nat.reduceSub, Array.replicate_succ, Array.replicate_zero, List.push_toArray, List.append_toArray, List.nil_append, List.cons_append]
 have HC := Lib.hid hc
 have HM := Lib.hid hm
 clear hc hm
 gi_wp2
 gi_loopw [7] (fun v wr => ∃ k : Nat, k ≤ m ∧ v = .int .i64 (k : Int) ∧ J ((zL L).take k) wr ∧ Below n₀ W wr) (fun v _ => m - (intOf v).toNat)
 case atStart => exact ⟨0, Nat.zero_le _, rfl, h0, Below.refl _ _⟩
 case round =>
  obtain ⟨k, hk, rfl, hJ, hbw⟩ := hrel
  have HJ := Lib.hid hJ
  have HB := Lib.hid hbw
  clear hJ hbw hB0
  by_cases hlt : k < m
  ·obtain ⟨b, off, hA, hb, hcc⟩ := HC.out (by rw [← HM.out]; omega)
   have ck := (HB.out.cell (p := ⟨b, off + k, none⟩) hb).trans (hcc k (by rw [← HM.out]; exact hlt))
   subst hA
   have hgd : L.getD k 0 = L[k]'(by rw [← HM.out]; exact hlt) := by rw [List.getD_eq_getElem?_getD, List.getElem?_eq_getElem (by rw [← HM.out]; exact hlt)]; rfl
   have HTK := Lib.hid (zL_take (L := L) (k := k) (by rw [← HM.out]; exact hlt))
   rw [← hgd] at ck
   obtain ⟨x, hx⟩ : ∃ x, x = L.getD k 0 := ⟨_, rfl⟩
   rw [← hx] at ck HTK
   obtain ⟨fn, tmps, assign, body, hy, hR⟩ := hY _ (x : Int) wr HJ.out (by rw [List.length_take]; omega)
   obtain ⟨k2, hk2⟩ : ∃ z : Int, z = (k : Int) + 1 := ⟨_, rfl⟩
   have hwk : IntKind.i64.wrap ((k : Int) + 1) = k2 := by rw [hk2]; exact IntWalk.i64_in _ (by omega)
   have HK2 := Lib.hid hk2
   have HLT := Lib.hid hlt
   have hkm : (k : Int) < (m : Int) := by omega
   clear hgd hx hk2 hlt hcc hb
   gi_wp2_with fail
   refine ⟨fun _ => by omega, ?_⟩
   refine hR.mono ?_
   rintro e W3 (⟨rfl, hJ4, hk3⟩ | ⟨rfl, hJx3⟩)
   ·have HJ4 := Lib.hid (show J ((zL L).take (k + 1)) W3 by rw [HTK.out]; exact hJ4)
    have HK3 := Lib.hid hk3
    clear hJ4 hk3
    gi_wp2
    go_roundw
    case rel => exact ⟨k + 1, by have := HLT.out; omega, by rw [HK2.out]; rfl, HJ4.out, HB.out.trans HK3.out⟩
    case measure => have := HLT.out; have := HK2.out; simp only [intOf]; omega
   ·gi_wp2
    refine bodyPost_ret (results_none rfl _ _ _) rfl ?_
    exact ⟨⟨_, rfl⟩, .inr ⟨_, trivial, hJx3⟩⟩
  ·have hkn : ¬ (k : Int) < (m : Int) := by omega
   have HJ5 := Lib.hid (show J (zL L) wr by
    have := HJ.out
    rwa [List.take_of_length_le (by rw [List.length_map, ← HM.out]; omega)] at this)
   clear hlt hk
   gi_wp2
   go_end0
   exact ⟨⟨_, rfl⟩, .inl HJ5.out⟩
theorem infoIntV : (Tryz.prog.info? 3).map (fun i => (i.zero, i.size, i.bytes)) = some (some (.int .i64 0), 1, 8) := by kernel_rfl
theorem vals_stops (n : Nat) (hn : 2 ≤ n) (Bs n₀ m cc : Nat) (A : Option Addr) (L : List Nat) (hm : m = L.length) (hm1 : m ≤ 1000) (w : World) (hBs : Bs < w.heap.size) (h0 : w.cell? ⟨Bs, 0, none⟩ = some (.slice A m cc)) (hn0 : n₀ ≤ w.heap.size) (hc : Rd nv w n₀ A L) :
  SeqStopsK Fence.wide n Tryz.prog 89 #[.pointer (some ⟨Bs, 0, none⟩)] (fun x : Int => #[Value.int .i64 x]) (Below n₀) (fun ys => ys = zL L) (fun _ => True) 1000 w := fun l J Jx W hW _ _ hY hJ0 => by
 exact vals_in n hn l Bs n₀ m cc A L hm hm1 J Jx hY W ((hW.cell (p := ⟨Bs, 0, none⟩) hBs).trans h0) (hc.below (hW.mono hn0)) hJ0
set_option maxRecDepth 100000 in
set_option maxHeartbeats 2000000 in
theorem appv_in (n : Nat) (hn : 4 ≤ n) (Bs m cc : Nat) (A : Option Addr) (L : List Nat) (hm : m = L.length) (hm1 : m ≤ 1000) (w : World) (hBs : Bs < w.heap.size) (h0 : w.cell? ⟨Bs, 0, none⟩ = some (.slice A m cc)) (hc : Rd nv w w.heap.size A L) :
  CallsIn Fence.wide n Tryz.prog 111 #[.slice none 0 0, .func (.func 89) #[] #[.pointer (some ⟨Bs, 0, none⟩)]] w fun e W' => ∃ v, e = .returned v ∧ W'.ownsRow w.heap.size 3 1 v (zL L).length ((zL L).map (Value.int .i64)) ∧ (v = .slice none 0 0 ↔ zL L = []) ∧ Below w.heap.size w W' := by
 obtain ⟨i0, hi, hz0, hz1, hz2⟩ := info_parts infoIntV
 refine callsIn_of_wp_marks Tryz.func111 rfl trivial ?_ rfl
 simp only [Tryz.ntmps111, List.size_toArray, List.length_cons, List.length_nil, Nat.reduceAdd, Nat.reduceSub, Array.replicate_succ, Array.replicate_zero, List.push_toArray, List.append_toArray, List.nil_append, List.cons_append]
 gi_wp2
 have bO := Boxed.new w 24 (.slice none 0 0)
 have hB0 : Below w.heap.size w (w.alloc (.cells #[.slice none 0 0] 24)) := (Below.refl _ w).alloc (Nat.le_refl _) _
 refine wpIn_rangeFunc_ownG rfl (by omega) (gf := 89) (lb := #[.pointer (some ⟨Bs, 0, none⟩)]) rfl trivial (enters_of Tryz.func89 (by kernel_rfl) rfl)
  (vals_stops (n - 1) (by omega) Bs w.heap.size m cc A L hm hm1 _ (by simp; omega) (by rw [hB0.cell (p := ⟨Bs, 0, none⟩) hBs]; exact h0) (by simp) (hc.below hB0)) belowK_t (belowK_b (by simp)) (Below.refl _ _) (fun _ => rfl)
  (fun pre W => (∃ v, Boxed W w.heap.size 24 v ∧ W.ownsRow w.heap.size 3 1 v pre.length (pre.map (Value.int .i64)) ∧ (v = .slice none 0 0 ↔ pre = [])) ∧ Below w.heap.size w W)
  (fun _ _ _ => False)
  (OwnFrom.and (Own.from (holdsRow_own w.heap.size w.heap.size 24 3 1 (fun pre : List Int => pre.length) (fun pre : List Int => pre.map (Value.int .i64)) (fun pre v => v = .slice none 0 0 ↔ pre = [])) _) (ownFrom_below (Nat.le_refl _) (by simp)))
  (fun _ _ _ _ _ hs _ _ => hs)
  ⟨⟨_, bO, World.ownsRow_nil _ _ _ _, by simp⟩, hB0⟩
  (fun x => { tmps := #[.slice none 0 0, .func (.func 89) #[] #[.pointer (some ⟨Bs, 0, none⟩)], .pointer (some ⟨w.heap.size, 0, none⟩), undef, .slice none 0 0, .int .i64 x, .func (.func 89) #[] #[.pointer (some ⟨Bs, 0, none⟩)], .int .i64 x, undef, undef, undef, undef, undef], defers := [] }) ?assign ?body ?done ?stop
 case assign =>
  intro l x W K hK
  gi_wp2
  exact hK
 case body =>
  rintro l pre x W ⟨⟨v, hv, hrow, hnil⟩, hB⟩ hlt
  have hc := hv.cell
  gi_wp2_with (gi_at_builtin; refine wpListIn_append_own _ rfl _ _ 24 rfl w.heap.size 3 i0 (.int .i64 0) 1 8 Tryz.underlying24 hi hz0 hz1 hz2 rfl (by decide) _ _ _ rfl (hrow.alloc _) ⟨W.heap.size, 0, none⟩ 1 1 [.int .i64 x] rfl rfl (cell_one_new _ _ _) (by simp [Value.oneCell']) (by unfold maxLen; omega) (by omega) (by have := hB.size; simp; omega) ?_; intro v' w1 hown' hgrow _; obtain ⟨g', cap', rfl⟩ := ownsRow_succ hown'; obtain ⟨hv1, hv2, hr2, hk2, hb2⟩ := hv.appended (by decide) hrow hB.size (Nat.le_refl _) hown' hgrow; have hc1 := hv1.cell; have hf1 := hv1.frozen)
  exact ⟨hk2.from _, hb2, ⟨_, hv2, by simpa using hr2, by simp⟩, hB.trans hb2⟩
 case done =>
  rintro D ys W hD rfl ⟨⟨v, hv, hrow, hnil⟩, hB⟩ hK
  have hc := hv.cell
  gi_wp2
  refine ⟨by simp, .inl ⟨_, _, rfl, run_takeDeferred hK, ?_⟩⟩
  exact ⟨_, results_tmp rfl _ _ _, v, rfl, ownsRow_putObj hrow _ hK rfl, hnil, hB.trans (belowK_b (w := w) (Nat.le_refl _) W D _ _ (by simp at hD; omega) hK rfl rfl)⟩
 case stop =>
  rintro D c pre W _ _ h _
  exact h.elim
theorem collv_any (Bs m cc : Nat) (A : Option Addr) (L : List Nat) (hm : m = L.length) (hm1 : m ≤ 1000) (w : World) (hBs : Bs < w.heap.size) (h0 : w.cell? ⟨Bs, 0, none⟩ = some (.slice A m cc)) (hc : Rd nv w w.heap.size A L) :
  Calls Tryz.prog 87 #[.func (.func 89) #[] #[.pointer (some ⟨Bs, 0, none⟩)]] w fun e W' => ∃ v, e = .returned v ∧ W'.ownsRow w.heap.size 3 1 v (zL L).length ((zL L).map (Value.int .i64)) ∧ (v = .slice none 0 0 ↔ zL L = []) ∧ Below w.heap.size w W' := by
 have HA := Lib.hid (callsIn_wide.1 (appv_in 5 (by decide) Bs m cc A L hm hm1 w hBs h0 hc))
 clear h0 hc hm
 go_enter Tryz.func87, Tryz.ntmps87
 go_wp2_with fail
 refine HA.out.mono ?_
 rintro e w1 ⟨v, rfl, h2, hnl, h3⟩
 have H2 := Lib.hid h2
 have H3 := Lib.hid h3
 have HNL := Lib.hid hnl
 clear h2 h3 hnl
 go_wp2
 go_ret
 exact ⟨_, rfl, H2.out, HNL.out, H3.out⟩
def srZ (l : List Int) : List Int := l.mergeSort fun x y => decide (x ≤ y)
theorem srZ_sorted (L : List Nat) : srZ (zL L) = zL (sortN L) := by
 have h1 : (srZ (zL L)).Perm (zL (sortN L)) := (List.mergeSort_perm _ _).trans ((sortN_perm L).symm.map _)
 have h2 : (srZ (zL L)).Pairwise (· ≤ ·) := by
  have := List.pairwise_mergeSort (le := fun x y : Int => decide (x ≤ y)) (fun a b c h1 h2 => by simp at *; omega) (fun a b => by simp; omega) (zL L)
  exact this.imp fun h => by simpa using h
 have h3 : (zL (sortN L)).Pairwise (· ≤ ·) := by rw [List.pairwise_map]; exact (sortN_sorted L).imp fun h => by omega
 exact h1.eq_of_pairwise (fun a b _ _ h k => by omega) h2 h3
theorem sortv_own {w : World} {base c g : Nat} (l : List Int) (h : w.ownsRow base 3 1 (.slice (some ⟨g, 0, none⟩) l.length c) l.length (l.map (Value.int .i64))) (hmx : l.length ≤ 1000000) :
  Calls Tryz.prog 88 #[.slice (some ⟨g, 0, none⟩) l.length c] w fun e w' => e = .returned (.tuple #[]) ∧ w'.ownsRow base 3 1 (.slice (some ⟨g, 0, none⟩) l.length c) l.length ((srZ l).map (Value.int .i64)) ∧ w.grownBy w' (some g) := by
 rcases h.2 with ⟨h1, _⟩ | ⟨g', cap, cur, hv, hb, hg, hnc, hm, hs, ht⟩
 ·cases h1
 ·injection hv with e1 e2 e3
  injection e1 with e1
  injection e1 with e1 _ _
  subst e1; subst e3
  have hblk : g < w.heap.size := (Array.getElem?_eq_some_iff.1 hg).1
  rw [Nat.mul_one] at ht
  have hH := holds_of_blockI hg ht
  have hlen : (srZ l).length = l.length := (List.mergeSort_perm _ _).length_eq
  refine (Tryz.slices_Sort_int g 0 c l w hH hblk (by omega)).mono ?_
  rintro e w' ⟨rfl, n, os, rfl⟩
  refine ⟨rfl, ?_, grownBy_sortedI _⟩
  have := ownsRow_sortedI (w := w) (base := base) (n := n) (os := os) hlen hb hg hnc hm hs
  exact this
def SdPost (m : Nat) (L : List Nat) (B : Nat) (W : World) (e : Ending) (w' : World) : Prop :=
 ∃ (A' : Option Addr) (c' : Nat), e = .returned (.slice A' m c') ∧ Rd nv w' w'.heap.size A' (sortN L) ∧ (∀ p, A' = some p → B ≤ p.block) ∧ Below W.heap.size W w'
def VlPost (Bs m : Nat) (L : List Nat) (w : World) (e : Ending) (W : World) : Prop :=
 e = .returned (.func (.func 89) #[] #[.pointer (some ⟨Bs, 0, none⟩)]) ∧ Below w.heap.size w W ∧
   Calls Tryz.prog 69 #[.func (.func 89) #[] #[.pointer (some ⟨Bs, 0, none⟩)]] W (SdPost m L w.heap.size W)
set_option maxRecDepth 100000 in
set_option maxHeartbeats 1000000 in
theorem sorted_any (A : Option Addr) (m cc : Nat) (L : List Nat) (hm : m = L.length) (hm1 : m ≤ 1000) (w : World) (hL : Rd nv w w.heap.size A L) :
  Calls Tryz.prog 70 #[.slice A m cc] w (VlPost w.heap.size m L w) := by
 have hbw := bw_new (Below.refl w.heap.size w) (.cells #[.slice A m cc] 24)
 have hnew : Blk (w.alloc (.cells #[.slice A m cc] 24)) w.heap.size 24 [.slice A m cc] := heap_alloc_new w _
 have HCV := Lib.hid (collv_any w.heap.size m cc A L hm hm1 (w.alloc (.cells #[.slice A m cc] 24)) hnew.lt (hnew.cell 0) ((hL.below hbw).more hbw.size))
 have HB := Lib.hid hbw
 have HM := Lib.hid (And.intro hm hm1)
 clear hbw hnew hL hm hm1
 go_enter Tryz.func70, Tryz.ntmps70
 go_wp2
 go_ret
 refine ⟨rfl, HB.out, ?_⟩
 go_enter Tryz.func69, Tryz.ntmps69
 go_wp2_with fail
 refine HCV.out.mono ?_
 rintro e w1 ⟨v, rfl, h2, hnl, h3⟩
 by_cases h0 : L = []
 ·subst h0
  have hv : v = .slice none 0 0 := hnl.2 rfl
  subst hv
  obtain rfl : m = 0 := HM.out.1
  have H3 := Lib.hid h3
  have HS0 := Lib.hid (Tryz.slices_Sort_int_none none 0 w1)
  clear h2 h3 hnl
  go_wp2_with fail
  refine HS0.out.mono ?_
  rintro e w2 ⟨rfl, rfl⟩
  go_wp2_with fail
  exact bodyPost_ret (v := .slice none 0 0) (by simp [results, Tryz.results69, go_sem]) rfl ⟨none, 0, rfl, Rd.nil, (fun p h => by cases h), H3.out⟩
 have h0m : 0 < m := by rw [HM.out.1]; exact List.length_pos_iff.2 h0
 obtain ⟨g, c', hv, hc'⟩ := own_form h2 (by rw [List.length_map]; have := HM.out; omega)
 subst hv
 have HSO := Lib.hid (sortv_own (zL L) h2 (by rw [List.length_map]; have := HM.out; omega))
 have hlz : (zL L).length = m := by rw [List.length_map]; exact HM.out.1.symm
 rw [hlz] at HSO
 rw [hlz]
 have H3 := Lib.hid (And.intro h3 (h2.lt g rfl))
 clear h2 h3 hlz hc' hnl h0 h0m
 go_wp2_with fail
 refine HSO.out.mono ?_
 rintro e w2 ⟨rfl, h4, h5⟩
 have H4 := Lib.hid h4
 have H5 := Lib.hid ((H3.out.1.trans ((Below.refl _ w1).grown h5 H3.out.1.size (fun k hk => by cases hk; exact H3.out.2.1))))
 clear h4 h5
 have h6 := H4.out
 rw [srZ_sorted, zL_nv] at h6
 have H6 := Lib.hid (Rd.of_own h6 (by rw [(sortN_perm L).length_eq]; exact HM.out.1))
 clear h6
 go_wp2_with fail
 exact bodyPost_ret (v := .slice (some ⟨g, 0, none⟩) m c') (by simp [results, Tryz.results69, go_sem]) rfl ⟨some ⟨g, 0, none⟩, c', rfl, H6.out, (fun p h => by cases h; exact Nat.le_trans (by simp) H3.out.2.1), H5.out⟩
def cmpL (a b : List Nat) : Int := if lexLt a b = true then -1 else if a = b then 0 else 1
theorem cmpL_cons (x y : Nat) (a b : List Nat) : cmpL (x :: a) (y :: b) = if x = y then cmpL a b else if x < y then -1 else 1 := by
 unfold cmpL
 rw [lexLt]
 by_cases e : x = y
 ·subst e; simp
 ·rw [if_neg e, if_neg e]
  by_cases h : x < y
  ·simp [h]
  ·simp [h, e]
theorem cmpL_neg (a b : List Nat) : decide (cmpL a b < 0) = lexLt a b := by
 unfold cmpL
 cases lexLt a b with
 | true => rfl
 | false =>
  rw [if_neg (by simp)]
  split <;> rfl
set_option maxRecDepth 100000 in
set_option maxHeartbeats 2000000 in
theorem compare_any (A B : Option Addr) (c d n m : Nat) (L K : List Nat) (w : World) (hL : Rd nv w w.heap.size A L) (hK : Rd nv w w.heap.size B K) (hn : n = L.length) (hm : m = K.length) (hn1 : n ≤ 1000) :
  Calls Tryz.prog 71 #[.slice A n c, .slice B m d] w fun e w' => e = .returned (.int .i64 (cmpL L K)) ∧ Below w.heap.size w w' := by
 obtain ⟨R, hR⟩ : ∃ R, R = cmpL L K := ⟨_, rfl⟩
 rw [← hR]
 have HR := Lib.hid hR
 have HL := Lib.hid hL
 have HK := Lib.hid hK
 have HN := Lib.hid (And.intro hn hm)
 clear hR hL hK hn hm
 go_enter Tryz.func71, Tryz.ntmps71
 go_wp2_with fail
 go_loopw [11] (fun x wr => ∃ k : Nat, k ≤ n ∧ x = .int .i64 (k : Int) ∧ k ≤ m ∧ R = cmpL (L.drop k) (K.drop k) ∧ Below w.heap.size w wr) (fun x _ => n - (intOf x).toNat)
 case atStart => exact ⟨0, Nat.zero_le _, rfl, Nat.zero_le _, HR.out, Below.refl _ _⟩
 case round =>
  obtain ⟨k, hk, rfl, hkm, hr, hb⟩ := hrel
  have HRR := Lib.hid hr
  have HB := Lib.hid hb
  clear hr hb
  by_cases hlt : k < n
  ·obtain ⟨b1, o1, hA, hb1, hc1⟩ := HL.out (by have := HN.out; omega)
   have q1 := (HB.out.cell (p := ⟨b1, o1 + k, none⟩) hb1).trans (hc1 k (by have := HN.out; omega))
   obtain ⟨x, hx⟩ : ∃ x, x = L[k]'(by have := HN.out; omega) := ⟨_, rfl⟩
   rw [← hx] at q1
   subst hA
   have hkn : (k : Int) < (n : Int) := by omega
   by_cases hge : k < m
   ·obtain ⟨b2, o2, hB2, hb2, hc2⟩ := HK.out (by have := HN.out; omega)
    have q2 := (HB.out.cell (p := ⟨b2, o2 + k, none⟩) hb2).trans (hc2 k (by have := HN.out; omega))
    obtain ⟨y, hy⟩ : ∃ y, y = K[k]'(by have := HN.out; omega) := ⟨_, rfl⟩
    rw [← hy] at q2
    subst hB2
    have hd1 : L.drop k = x :: L.drop (k + 1) := by rw [hx]; exact List.drop_eq_getElem_cons (by have := HN.out; omega)
    have hd2 : K.drop k = y :: K.drop (k + 1) := by rw [hy]; exact List.drop_eq_getElem_cons (by have := HN.out; omega)
    have HST := Lib.hid (show R = if x = y then cmpL (L.drop (k + 1)) (K.drop (k + 1)) else if x < y then -1 else 1 by rw [HRR.out, hd1, hd2, cmpL_cons])
    have hgm : ¬ (m : Int) ≤ (k : Int) := by omega
    obtain ⟨r, hr⟩ : ∃ r, r = Lib.compareInt (x : Int) (y : Int) := ⟨_, rfl⟩
    have HCM := Lib.hid (fun W => Tryz.cmp_Compare_int (x : Int) (y : Int) W)
    rw [← hr] at HCM
    obtain ⟨k2, hk2⟩ : ∃ z : Int, z = (k : Int) + 1 := ⟨_, rfl⟩
    have hwk : IntKind.i64.wrap ((k : Int) + 1) = k2 := by rw [hk2]; exact IntWalk.i64_in _ (by omega)
    have HK2 := Lib.hid hk2
    have HLT := Lib.hid (And.intro hlt hge)
    by_cases hxy : x = y
    ·have hr0 : r = 0 := by rw [hr, hxy]; unfold Lib.compareInt; simp
     have HS2 := Lib.hid (show R = cmpL (L.drop (k + 1)) (K.drop (k + 1)) by rw [HST.out, if_pos hxy])
     subst hr0
     clear hx hy hd1 hd2 hr hk2 hlt hge hxy hk hkm hc1 hc2 hb1 hb2
     go_wp2_with (refine (HCM.out _).mono ?_; rintro e w' ⟨rfl, rfl⟩)
     go_roundw
     case rel => exact ⟨k + 1, by have := HLT.out; omega, by rw [HK2.out]; rfl, by have := HLT.out; omega, HS2.out, HB.out⟩
     case measure => have := HLT.out; have := HK2.out; simp only [intOf]; omega
    ·have hrn : r ≠ 0 := by
      rw [hr]
      unfold Lib.compareInt
      split
      ·omega
      ·split <;> omega
     have HS2 := Lib.hid (show R = r by
      rw [HST.out, if_neg hxy, hr]
      unfold Lib.compareInt
      by_cases h : x < y
      ·rw [if_pos h, if_pos (by omega)]
      ·rw [if_neg h, if_neg (by omega), if_pos (by omega)])
     have hz : (r != 0) = true := by simpa using hrn
     clear hx hy hd1 hd2 hr hk2 hlt hge hxy hk hkm hc1 hc2 hb1 hb2 hrn
     go_wp2_with (refine (HCM.out _).mono ?_; rintro e w' ⟨rfl, rfl⟩)
     exact bodyPost_ret (v := .int .i64 r) (by simp [results, Tryz.results71, go_sem]) rfl ⟨by rw [HS2.out], HB.out⟩
   ·have hgm : (m : Int) ≤ (k : Int) := by omega
    have HE := Lib.hid (show R = 1 by
     rw [HRR.out, List.drop_eq_getElem_cons (show k < L.length by have := HN.out; omega), List.drop_eq_nil_of_le (show K.length ≤ k by have := HN.out; omega)]
     rfl)
    clear hx hlt hge hk hkm hc1 hb1
    go_wp2_with fail
    exact bodyPost_ret (v := .int .i64 1) (by simp [results, Tryz.results71, go_sem]) rfl ⟨by rw [HE.out], HB.out⟩
  ·have hke : L.drop k = [] := List.drop_eq_nil_of_le (by have := HN.out; omega)
   have hkn : ¬ (k : Int) < (n : Int) := by omega
   by_cases hge : n < m
   ·have HE := Lib.hid (show R = -1 by
     rw [HRR.out, hke, List.drop_eq_getElem_cons (show k < K.length by have := HN.out; omega)]
     rfl)
    have hnm : (n : Int) < (m : Int) := by omega
    clear hlt hge hk hkm hke
    go_wp2_with fail
    exact bodyPost_ret (v := .int .i64 (-1)) (by simp [results, Tryz.results71, go_sem]) rfl ⟨by rw [HE.out], HB.out⟩
   ·have HE := Lib.hid (show R = 0 by
     rw [HRR.out, hke, List.drop_eq_nil_of_le (show K.length ≤ k by have := HN.out; omega)]
     rfl)
    have hnm : ¬ (n : Int) < (m : Int) := by omega
    clear hlt hge hk hkm hke
    go_wp2_with fail
    exact bodyPost_ret (v := .int .i64 0) (by simp [results, Tryz.results71, go_sem]) rfl ⟨by rw [HE.out], HB.out⟩
end Go.Proofs.YtaegjpancbmppaaGreatDoor
