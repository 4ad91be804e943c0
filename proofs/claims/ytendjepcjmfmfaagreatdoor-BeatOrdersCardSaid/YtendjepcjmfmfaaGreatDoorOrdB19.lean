/- Part 19 of 47 of the proof of the law: contracts of the functions that it reaches, and plain facts. Conditions: those that each contract names. -/
import Derived.Test.YtendjepcjmfmfaaGreatDoorOrdB18
import Derived.Test.YtendjepcjmfmfaaGreatDoorOrdB07
import Derived.Test.YtendjepcjmfmfaaGreatDoorOrdB06
import Derived.Deep.QuietTactic
import Derived.Deep.DeepCutAuto
import Derived.Test.YtendjepcjmfmfaaGreatDoorOrdB01
namespace Go.Proofs.YtendjepcjmfmfaaGreatDoor
open Go.RowKit
theorem right_mild {S : List (Int × Int)} (h : ∀ q ∈ S, Right q.1 q.2) : Mild S := fun q hq => by
 obtain ⟨h1, h2, h3, h4, _⟩ := h q hq
 exact ⟨⟨by omega, h2⟩, h3, h4⟩
open Classical in
noncomputable def ivE (S : List (Int × Int)) : Int := if ∀ q ∈ S, Right q.1 q.2 then (if prt S = none then 4 else 0) else 2
theorem ivE_num {S : List (Int × Int)} {q : Int × Int} (hq : q ∈ S) (h : ¬ Right q.1 q.2) : ivE S = 2 := if_neg fun k => h (k q hq)
theorem ivE_lim {S : List (Int × Int)} (h : ∀ q ∈ S, Right q.1 q.2) (h2 : prt S = none) : ivE S = 4 := by unfold ivE; rw [if_pos h, if_pos h2]
theorem ivE_ok {S : List (Int × Int)} (h : ∀ q ∈ S, Right q.1 q.2) (h2 : prt S ≠ none) : ivE S = 0 := by unfold ivE; rw [if_pos h, if_neg h2]
theorem prN_len : ∀ {S : List (Int × Int)} {D : Int} {l : List Int}, prN S D = some l → l.length = S.length
 | [], _, l, h => by cases h; rfl
 | (n, d) :: r, D, l, h => by
  unfold prN at h
  split at h
  ·cases h
  ·cases hr : prN r D with
   | none => rw [hr] at h; cases h
   | some t => rw [hr] at h; cases h; simp [prN_len hr]
theorem prt_three {a b c : Int × Int} {l : List Int} {D : Int} (h : prt [a, b, c] = some (l, D)) : ∃ x y z, l = [x, y, z] := by
 unfold prt at h
 split at h
 ·cases h
 ·rename_i D' hD
  cases hn : prN [a, b, c] D' with
  | none => rw [hn] at h; cases h
  | some t =>
   rw [hn] at h
   cases h
   have := prN_len hn
   match l, this with
   | [x, y, z], _ => exact ⟨x, y, z, rfl⟩
def CkMem (w : World) (n0 d0 n1 d1 n2 d2 : Int) (W : World) : Prop :=
 Blk W w.heap.size 49 [.int .i64 n0, .int .i64 d0, .int .i64 n1, .int .i64 d1, .int .i64 n2, .int .i64 d2] ∧ Blk W (w.heap.size + 1) 34 [.int .i64 n0, .int .i64 d0, .int .i64 n1, .int .i64 d1, .int .i64 n2, .int .i64 d2] ∧ Below w.heap.size w W
theorem CkMem.below {w W W' : World} {n0 d0 n1 d1 n2 d2 : Int} (h : CkMem w n0 d0 n1 d1 n2 d2 W) (hb : Below W.heap.size W W') : CkMem w n0 d0 n1 d1 n2 d2 W' := ⟨h.1.below hb h.1.lt, h.2.1.below hb h.2.1.lt, h.2.2.trans (hb.mono h.2.2.size)⟩
def CkRel (w : World) (n0 d0 n1 d1 n2 d2 : Int) (v : Value) (wr : World) : Prop :=
 ∃ k : Nat, k ≤ 3 ∧ v = .int .i64 k ∧ (0 < k → Right n0 d0) ∧ (1 < k → Right n1 d1) ∧ (2 < k → Right n2 d2) ∧ CkMem w n0 d0 n1 d1 n2 d2 wr
set_option maxRecDepth 100000 in
set_option maxHeartbeats 4000000 in
theorem icheck_any (n0 d0 n1 d1 n2 d2 : Int) (w : World) (hn0 : I64 n0) (hd0 : I64 d0) (hn1 : I64 n1) (hd1 : I64 d1) (hn2 : I64 n2) (hd2 : I64 d2) :
  Calls Tryz.prog 44 #[.agg #[.int .i64 n0, .int .i64 d0, .int .i64 n1, .int .i64 d1, .int .i64 n2, .int .i64 d2]] w fun e w' => e = .returned (.int .i64 (ivE [(n0, d0), (n1, d1), (n2, d2)])) ∧ Below w.heap.size w w' := by
 have hM0 : CkMem w n0 d0 n1 d1 n2 d2 ((w.alloc (.cells #[.int .i64 n0, .int .i64 d0, .int .i64 n1, .int .i64 d1, .int .i64 n2, .int .i64 d2] 49)).alloc (.cells #[.int .i64 n0, .int .i64 d0, .int .i64 n1, .int .i64 d1, .int .i64 n2, .int .i64 d2] 34)) := by
  refine ⟨?_, ?_, bw_new (bw_new (Below.refl _ _) _) _⟩
  ·exact Blk.alloc (t := 49) (cs := [.int .i64 n0, .int .i64 d0, .int .i64 n1, .int .i64 d1, .int .i64 n2, .int .i64 d2]) (heap_alloc_new w _) _
  ·have := heap_alloc_new (w.alloc (.cells #[.int .i64 n0, .int .i64 d0, .int .i64 n1, .int .i64 d1, .int .i64 n2, .int .i64 d2] 49)) (.cells #[.int .i64 n0, .int .i64 d0, .int .i64 n1, .int .i64 d1, .int .i64 n2, .int .i64 d2] 34)
   rw [World.size_alloc] at this
   exact this
 have HM0 := Lib.hid hM0
 have HC0 := Lib.hid (fun W => fcheck_any n0 d0 W hn0.1 hn0.2 hd0.1 hd0.2)
 have HC1 := Lib.hid (fun W => fcheck_any n1 d1 W hn1.1 hn1.2 hd1.1 hd1.2)
 have HC2 := Lib.hid (fun W => fcheck_any n2 d2 W hn2.1 hn2.2 hd2.1 hd2.2)
 have HE := Lib.hid (fun q hq => @ivE_num [(n0, d0), (n1, d1), (n2, d2)] q hq)
 have HOK := Lib.hid (@ivE_ok [(n0, d0), (n1, d1), (n2, d2)])
 have HLI := Lib.hid (@ivE_lim [(n0, d0), (n1, d1), (n2, d2)])
 have HP := Lib.hid (fun W => parts_any n0 d0 n1 d1 n2 d2 W)
 have H3 := Lib.hid (fun l D => @prt_three (n0, d0) (n1, d1) (n2, d2) l D)
 obtain ⟨r, hr⟩ : ∃ r, r = ivE [(n0, d0), (n1, d1), (n2, d2)] := ⟨_, rfl⟩
 rw [← hr] at HE HOK HLI ⊢
 clear hM0 hn0 hd0 hn1 hd1 hn2 hd2 hr
 go_enter Tryz.func44, Tryz.ntmps44
 go_wp2_with fail
 go_loopw [17] (fun v wr => CkRel w n0 d0 n1 d1 n2 d2 v wr) (fun v _ => 3 - (intOf v).toNat)
 case atStart => exact ⟨0, by omega, rfl, fun h => absurd h (by decide), fun h => absurd h (by decide), fun h => absurd h (by decide), HM0.out⟩
 case round =>
  clear HM0
  obtain ⟨k, hk, rfl, g0, g1, g2, hmem⟩ := hrel
  have HG := Lib.hid (And.intro g0 (And.intro g1 g2))
  have HM := Lib.hid hmem
  have hsz : w.heap.size + 1 < wr.heap.size := hmem.2.1.lt
  clear hmem g0 g1 g2
  by_cases hlt : k < 3
  ·rcases (show k = 0 ∨ k = 1 ∨ k = 2 by omega) with rfl | rfl | rfl
   ·have c0 := HM.out.2.1.cell 0
    have c1 := HM.out.2.1.cell 1
    have hc := HC0.out
    by_cases hr : Right n0 d0
    ·simp only [fErr_ok hr] at hc
     have HC := Lib.hid hc
     have HR := Lib.hid hr
     clear hc hr
     go_wp2_with fail
     refine (HC.out _).mono ?_
     rintro e w2 ⟨rfl, hb⟩
     have HM2 := Lib.hid ((HM.out.below (bw_new (Below.refl _ _) _)).below hb)
     clear hb c0 c1
     go_wp2
     go_roundw
     case rel =>
      have hrl : CkRel w n0 d0 n1 d1 n2 d2 (.int .i64 ((0 + 1 : Nat) : Int)) w2 := ⟨0 + 1, by omega, rfl, fun _ => HR.out, fun h => absurd h (by decide), fun h => absurd h (by decide), HM2.out⟩
      exact hrl
     case measure => simp [intOf]
    ·simp only [fErr_no hr] at hc
     have HC := Lib.hid hc
     have HN := Lib.hid (HE.out (n0, d0) (by simp) hr)
     clear hc hr
     go_wp2_with fail
     refine (HC.out _).mono ?_
     rintro e w2 ⟨rfl, hb⟩
     have HM2 := Lib.hid ((HM.out.below (bw_new (Below.refl _ _) _)).below hb)
     clear hb c0 c1
     go_wp2
     go_ret
     exact ⟨ret_int HN.out.symm, HM2.out.2.2⟩
   ·have c0 := HM.out.2.1.cell 2
    have c1 := HM.out.2.1.cell 3
    have hc := HC1.out
    by_cases hr : Right n1 d1
    ·simp only [fErr_ok hr] at hc
     have HC := Lib.hid hc
     have HR := Lib.hid hr
     clear hc hr
     go_wp2_with fail
     refine (HC.out _).mono ?_
     rintro e w2 ⟨rfl, hb⟩
     have HM2 := Lib.hid ((HM.out.below (bw_new (Below.refl _ _) _)).below hb)
     clear hb c0 c1
     go_wp2
     go_roundw
     case rel =>
      have hrl : CkRel w n0 d0 n1 d1 n2 d2 (.int .i64 ((1 + 1 : Nat) : Int)) w2 := ⟨1 + 1, by omega, rfl, fun _ => HG.out.1 (by decide), fun _ => HR.out, fun h => absurd h (by decide), HM2.out⟩
      exact hrl
     case measure => simp [intOf]
    ·simp only [fErr_no hr] at hc
     have HC := Lib.hid hc
     have HN := Lib.hid (HE.out (n1, d1) (by simp) hr)
     clear hc hr
     go_wp2_with fail
     refine (HC.out _).mono ?_
     rintro e w2 ⟨rfl, hb⟩
     have HM2 := Lib.hid ((HM.out.below (bw_new (Below.refl _ _) _)).below hb)
     clear hb c0 c1
     go_wp2
     go_ret
     exact ⟨ret_int HN.out.symm, HM2.out.2.2⟩
   ·have c0 := HM.out.2.1.cell 4
    have c1 := HM.out.2.1.cell 5
    have hc := HC2.out
    by_cases hr : Right n2 d2
    ·simp only [fErr_ok hr] at hc
     have HC := Lib.hid hc
     have HR := Lib.hid hr
     clear hc hr
     go_wp2_with fail
     refine (HC.out _).mono ?_
     rintro e w2 ⟨rfl, hb⟩
     have HM2 := Lib.hid ((HM.out.below (bw_new (Below.refl _ _) _)).below hb)
     clear hb c0 c1
     go_wp2
     go_roundw
     case rel =>
      have hrl : CkRel w n0 d0 n1 d1 n2 d2 (.int .i64 ((2 + 1 : Nat) : Int)) w2 := ⟨2 + 1, by omega, rfl, fun _ => HG.out.1 (by decide), fun _ => HG.out.2.1 (by decide), fun _ => HR.out, HM2.out⟩
      exact hrl
     case measure => simp [intOf]
    ·simp only [fErr_no hr] at hc
     have HC := Lib.hid hc
     have HN := Lib.hid (HE.out (n2, d2) (by simp) hr)
     clear hc hr
     go_wp2_with fail
     refine (HC.out _).mono ?_
     rintro e w2 ⟨rfl, hb⟩
     have HM2 := Lib.hid ((HM.out.below (bw_new (Below.refl _ _) _)).below hb)
     clear hb c0 c1
     go_wp2
     go_ret
     exact ⟨ret_int HN.out.symm, HM2.out.2.2⟩
  ·obtain rfl : k = 3 := by omega
   have hall : ∀ q ∈ [(n0, d0), (n1, d1), (n2, d2)], Right q.1 q.2 := by
    intro q hq
    simp only [List.mem_cons, List.not_mem_nil, or_false] at hq
    rcases hq with rfl | rfl | rfl
    ·exact HG.out.1 (by decide)
    ·exact HG.out.2.1 (by decide)
    ·exact HG.out.2.2 (by decide)
   have hp := fun W => HP.out W (right_mild hall)
   have HALL := Lib.hid hall
   have c0 := HM.out.1.cell 0
   have c1 := HM.out.1.cell 1
   have c2 := HM.out.1.cell 2
   have c3 := HM.out.1.cell 3
   have c4 := HM.out.1.cell 4
   have c5 := HM.out.1.cell 5
   unfold PaRet at hp
   cases hq : prt [(n0, d0), (n1, d1), (n2, d2)] with
   | none =>
    rw [hq] at hp
    have HPP := Lib.hid hp
    have HN := Lib.hid (HLI.out HALL.out hq)
    clear hp hall hq
    go_wp2_with fail
    refine (HPP.out _).mono ?_
    rintro e w2 ⟨⟨x, y, z, rfl⟩, hb⟩
    have HB := Lib.hid (HM.out.2.2.trans (hb.mono HM.out.2.2.size))
    clear hb c0 c1 c2 c3 c4 c5
    go_wp2
    go_ret
    exact ⟨ret_int HN.out.symm, bw_new HB.out _⟩
   | some t =>
    obtain ⟨l, D⟩ := t
    obtain ⟨x, y, z, rfl⟩ := H3.out l D hq
    rw [hq] at hp
    have HPP := Lib.hid hp
    have HN := Lib.hid (HOK.out HALL.out (by rw [hq]; exact fun h => by cases h))
    clear hp hall hq
    go_wp2_with fail
    refine (HPP.out _).mono ?_
    rintro e w2 ⟨rfl, hb⟩
    have HB := Lib.hid (HM.out.2.2.trans (hb.mono HM.out.2.2.size))
    clear hb c0 c1 c2 c3 c4 c5
    go_wp2
    go_ret
    exact ⟨ret_int HN.out.symm, bw_new HB.out _⟩
theorem six_of {W : World} {g : Nat} {t : TypeId} {a b c d e f : Value} (h : Blk W g t [a, b, c, d, e, f]) : W.cell? ⟨g, 0, none⟩ = some a ∧ W.cell? ⟨g, 1, none⟩ = some b ∧ W.cell? ⟨g, 2, none⟩ = some c ∧ W.cell? ⟨g, 3, none⟩ = some d ∧ W.cell? ⟨g, 4, none⟩ = some e ∧ W.cell? ⟨g, 5, none⟩ = some f := ⟨h.cell 0, h.cell 1, h.cell 2, h.cell 3, h.cell 4, h.cell 5⟩
theorem six_free {W : World} {g : Nat} {t : TypeId} {cs : List Value} (h : Blk W g t cs) : W.frozen? ⟨g, 0, none⟩ = false ∧ W.frozen? ⟨g, 1, none⟩ = false ∧ W.frozen? ⟨g, 2, none⟩ = false ∧ W.frozen? ⟨g, 3, none⟩ = false ∧ W.frozen? ⟨g, 4, none⟩ = false ∧ W.frozen? ⟨g, 5, none⟩ = false := ⟨h.frozen 0, h.frozen 1, h.frozen 2, h.frozen 3, h.frozen 4, h.frozen 5⟩
theorem six_put {W : World} {g : Nat} {t : TypeId} {a b c d e f : Value} (h : Blk W g t [a, b, c, d, e, f]) (a' b' c' d' e' f' : Value) :
  Blk ((((((W.setCell ⟨g, 0, none⟩ a').setCell ⟨g, 1, none⟩ b').setCell ⟨g, 2, none⟩ c').setCell ⟨g, 3, none⟩ d').setCell ⟨g, 4, none⟩ e').setCell ⟨g, 5, none⟩ f') g t [a', b', c', d', e', f'] := (((((h.put 0 a').put 1 b').put 2 c').put 3 d').put 4 e').put 5 f'
theorem six_below {B g : Nat} {w W : World} (h : Below B w W) (hB : B ≤ g) (a b c d e f : Value) : Below B w ((((((W.setCell ⟨g, 0, none⟩ a).setCell ⟨g, 1, none⟩ b).setCell ⟨g, 2, none⟩ c).setCell ⟨g, 3, none⟩ d).setCell ⟨g, 4, none⟩ e).setCell ⟨g, 5, none⟩ f) :=
 bw_set (bw_set (bw_set (bw_set (bw_set (bw_set h hB _) hB _) hB _) hB _) hB _) hB _
abbrev szv (n0 d0 n1 d1 n2 d2 : Int) : Value := .agg #[.int .i64 n0, .int .i64 d0, .int .i64 n1, .int .i64 d1, .int .i64 n2, .int .i64 d2]
noncomputable def ivR (n0 d0 n1 d1 n2 d2 : Int) : Value := if ivE [(n0, d0), (n1, d1), (n2, d2)] = 0 then .tuple #[szv n0 d0 n1 d1 n2 d2, .int .i64 0] else .tuple #[szv 0 0 0 0 0 0, .int .i64 4]
set_option maxRecDepth 100000 in
set_option maxHeartbeats 4000000 in
theorem iresult_any (n0 d0 n1 d1 n2 d2 : Int) (w : World) (hn0 : I64 n0) (hd0 : I64 d0) (hn1 : I64 n1) (hd1 : I64 d1) (hn2 : I64 n2) (hd2 : I64 d2) :
  Calls Tryz.prog 82 #[.agg #[.int .i64 n0, .int .i64 d0, .int .i64 n1, .int .i64 d1, .int .i64 n2, .int .i64 d2]] w fun e w' => e = .returned (ivR n0 d0 n1 d1 n2 d2) ∧ Below w.heap.size w w' := by
 have hx : Blk ((w.alloc (.cells #[.int .i64 n0, .int .i64 d0, .int .i64 n1, .int .i64 d1, .int .i64 n2, .int .i64 d2] 49)).alloc (.cells #[.int .i64 0, .int .i64 0, .int .i64 0, .int .i64 0, .int .i64 0, .int .i64 0] 49)) w.heap.size 49 [.int .i64 n0, .int .i64 d0, .int .i64 n1, .int .i64 d1, .int .i64 n2, .int .i64 d2] :=
  Blk.alloc (t := 49) (cs := [.int .i64 n0, .int .i64 d0, .int .i64 n1, .int .i64 d1, .int .i64 n2, .int .i64 d2]) (heap_alloc_new w _) _
 have hy : Blk ((w.alloc (.cells #[.int .i64 n0, .int .i64 d0, .int .i64 n1, .int .i64 d1, .int .i64 n2, .int .i64 d2] 49)).alloc (.cells #[.int .i64 0, .int .i64 0, .int .i64 0, .int .i64 0, .int .i64 0, .int .i64 0] 49)) (w.heap.size + 1) 49 [.int .i64 0, .int .i64 0, .int .i64 0, .int .i64 0, .int .i64 0, .int .i64 0] := by
  have := heap_alloc_new (w.alloc (.cells #[.int .i64 n0, .int .i64 d0, .int .i64 n1, .int .i64 d1, .int .i64 n2, .int .i64 d2] 49)) (.cells #[.int .i64 0, .int .i64 0, .int .i64 0, .int .i64 0, .int .i64 0, .int .i64 0] 49)
  rw [World.size_alloc] at this
  exact this
 have HX := Lib.hid hx
 have HY := Lib.hid hy
 have HB0 := Lib.hid (bw_new (bw_new (Below.refl w.heap.size w) (.cells #[.int .i64 n0, .int .i64 d0, .int .i64 n1, .int .i64 d1, .int .i64 n2, .int .i64 d2] 49)) (.cells #[.int .i64 0, .int .i64 0, .int .i64 0, .int .i64 0, .int .i64 0, .int .i64 0] 49))
 have hc := fun W => icheck_any n0 d0 n1 d1 n2 d2 W hn0 hd0 hn1 hd1 hn2 hd2
 have hr : ivR n0 d0 n1 d1 n2 d2 = if ivE [(n0, d0), (n1, d1), (n2, d2)] = 0 then .tuple #[szv n0 d0 n1 d1 n2 d2, .int .i64 0] else .tuple #[szv 0 0 0 0 0 0, .int .i64 4] := rfl
 obtain ⟨z, hz⟩ : ∃ z, z = ivE [(n0, d0), (n1, d1), (n2, d2)] := ⟨_, rfl⟩
 rw [← hz] at hc hr
 have HC := Lib.hid hc
 clear hx hy hc hz hn0 hd0 hn1 hd1 hn2 hd2
 by_cases h0 : z = 0
 ·rw [if_pos h0] at hr
  have HR := Lib.hid hr
  have hz1 : (z == 0) = true := by simpa using h0
  have hz2 : (z != 0) = false := by simpa using h0
  clear hr h0
  go_enter Tryz.func82, Tryz.ntmps82
  go_wp2_with fail
  refine (HC.out _).mono ?_
  rintro e w1 ⟨rfl, hk⟩
  have HX1 := Lib.hid (HX.out.below hk HX.out.lt)
  have HY1 := Lib.hid (HY.out.below hk HY.out.lt)
  have HB1 := Lib.hid (HB0.out.trans (hk.mono HB0.out.size))
  obtain ⟨c0, c1, c2, c3, c4, c5⟩ := six_of HX1.out
  obtain ⟨e0, e1, e2, e3, e4, e5⟩ := six_of HY1.out
  obtain ⟨f0, f1, f2, f3, f4, f5⟩ := six_free HY1.out
  clear hk
  go_wp2
  obtain ⟨WZ, hWZ⟩ : ∃ WZ, WZ = ((((((w1.setCell ⟨w.heap.size + 1, 0, none⟩ (.int .i64 n0)).setCell ⟨w.heap.size + 1, 1, none⟩ (.int .i64 d0)).setCell ⟨w.heap.size + 1, 2, none⟩ (.int .i64 n1)).setCell ⟨w.heap.size + 1, 3, none⟩ (.int .i64 d1)).setCell ⟨w.heap.size + 1, 4, none⟩ (.int .i64 n2)).setCell ⟨w.heap.size + 1, 5, none⟩ (.int .i64 d2)) := ⟨_, rfl⟩
  obtain ⟨g0, g1, g2, g3, g4, g5⟩ := six_of (show Blk WZ _ _ _ by rw [hWZ]; exact six_put HY1.out _ _ _ _ _ _)
  have hww : Below w.heap.size w WZ := by rw [hWZ]; exact six_below HB1.out (by omega) _ _ _ _ _ _
  rw [← hWZ]
  refine bodyPost_ret (v := .tuple #[szv n0 d0 n1 d1 n2 d2, .int .i64 0]) (by simp [g0, g1, g2, g3, g4, g5, results, Tryz.results82, go_sem]) rfl ⟨by rw [HR.out], hww⟩
 ·rw [if_neg h0] at hr
  have HR := Lib.hid hr
  have hz1 : (z == 0) = false := by simpa using h0
  have hz2 : (z != 0) = true := by simpa using h0
  clear hr h0
  go_enter Tryz.func82, Tryz.ntmps82
  go_wp2_with fail
  refine (HC.out _).mono ?_
  rintro e w1 ⟨rfl, hk⟩
  have HY1 := Lib.hid (HY.out.below hk HY.out.lt)
  have HB1 := Lib.hid (HB0.out.trans (hk.mono HB0.out.size))
  obtain ⟨e0, e1, e2, e3, e4, e5⟩ := six_of HY1.out
  obtain ⟨f0, f1, f2, f3, f4, f5⟩ := six_free HY1.out
  clear hk
  go_wp2
  obtain ⟨WZ, hWZ⟩ : ∃ WZ, WZ = ((((((w1.setCell ⟨w.heap.size + 1, 0, none⟩ (.int .i64 0)).setCell ⟨w.heap.size + 1, 1, none⟩ (.int .i64 0)).setCell ⟨w.heap.size + 1, 2, none⟩ (.int .i64 0)).setCell ⟨w.heap.size + 1, 3, none⟩ (.int .i64 0)).setCell ⟨w.heap.size + 1, 4, none⟩ (.int .i64 0)).setCell ⟨w.heap.size + 1, 5, none⟩ (.int .i64 0)) := ⟨_, rfl⟩
  obtain ⟨g0, g1, g2, g3, g4, g5⟩ := six_of (show Blk WZ _ _ _ by rw [hWZ]; exact six_put HY1.out _ _ _ _ _ _)
  have hww : Below w.heap.size w WZ := by rw [hWZ]; exact six_below HB1.out (by omega) _ _ _ _ _ _
  rw [← hWZ]
  refine bodyPost_ret (v := .tuple #[szv 0 0 0 0 0 0, .int .i64 4]) (by simp [g0, g1, g2, g3, g4, g5, results, Tryz.results82, go_sem]) rfl ⟨by rw [HR.out], hww⟩
set_option maxRecDepth 100000 in
set_option maxHeartbeats 4000000 in
theorem iof_any (x y z : Int) (w : World) (hx : I64 x) (hy : I64 y) (hz : I64 z) :
  Calls Tryz.prog 45 #[.int .i64 x, .int .i64 y, .int .i64 z] w fun e w' => e = .returned (ivR x 1 y 1 z 1) ∧ Below w.heap.size w w' := by
 have i1 : I64 1 := ⟨by decide, by decide⟩
 have hc := fun W => iresult_any x 1 y 1 z 1 W hx i1 hy i1 hz i1
 have hr : ivR x 1 y 1 z 1 = if ivE [(x, 1), (y, 1), (z, 1)] = 0 then .tuple #[szv x 1 y 1 z 1, .int .i64 0] else .tuple #[szv 0 0 0 0 0 0, .int .i64 4] := rfl
 have hy0 : Blk (w.alloc (.cells #[.int .i64 0, .int .i64 0, .int .i64 0, .int .i64 0, .int .i64 0, .int .i64 0] 49)) w.heap.size 49 [.int .i64 0, .int .i64 0, .int .i64 0, .int .i64 0, .int .i64 0, .int .i64 0] := heap_alloc_new w _
 have HY := Lib.hid hy0
 have HB0 := Lib.hid (bw_new (Below.refl w.heap.size w) (.cells #[.int .i64 0, .int .i64 0, .int .i64 0, .int .i64 0, .int .i64 0, .int .i64 0] 49))
 clear hx hy hz i1 hy0
 obtain ⟨r0, r1, r2, r3, r4, r5, q, hrr, hq⟩ : ∃ r0 r1 r2 r3 r4 r5 q, ivR x 1 y 1 z 1 = .tuple #[szv r0 r1 r2 r3 r4 r5, .int .i64 q] ∧ True := by
  rw [hr]; split
  ·exact ⟨_, _, _, _, _, _, _, rfl, trivial⟩
  ·exact ⟨_, _, _, _, _, _, _, rfl, trivial⟩
 rw [hrr] at hc ⊢
 have HC := Lib.hid hc
 clear hc hr hrr hq
 go_enter Tryz.func45, Tryz.ntmps45
 go_wp2_with fail
 refine (HC.out _).mono ?_
 rintro e w1 ⟨rfl, hk⟩
 have HY1 := Lib.hid (HY.out.below hk HY.out.lt)
 have HB1 := Lib.hid (HB0.out.trans (hk.mono HB0.out.size))
 obtain ⟨e0, e1, e2, e3, e4, e5⟩ := six_of HY1.out
 obtain ⟨f0, f1, f2, f3, f4, f5⟩ := six_free HY1.out
 clear hk
 go_wp2
 obtain ⟨WZ, hWZ⟩ : ∃ WZ, WZ = ((((((w1.setCell ⟨w.heap.size, 0, none⟩ (.int .i64 r0)).setCell ⟨w.heap.size, 1, none⟩ (.int .i64 r1)).setCell ⟨w.heap.size, 2, none⟩ (.int .i64 r2)).setCell ⟨w.heap.size, 3, none⟩ (.int .i64 r3)).setCell ⟨w.heap.size, 4, none⟩ (.int .i64 r4)).setCell ⟨w.heap.size, 5, none⟩ (.int .i64 r5)) := ⟨_, rfl⟩
 obtain ⟨g0, g1, g2, g3, g4, g5⟩ := six_of (show Blk WZ _ _ _ by rw [hWZ]; exact six_put HY1.out _ _ _ _ _ _)
 have hww : Below w.heap.size w WZ := by rw [hWZ]; exact six_below HB1.out (Nat.le_refl _) _ _ _ _ _ _
 rw [← hWZ]
 exact bodyPost_ret (v := .tuple #[szv r0 r1 r2 r3 r4 r5, .int .i64 q]) (by simp [g0, g1, g2, g3, g4, g5, results, Tryz.results45, go_sem]) rfl ⟨rfl, hww⟩
end Go.Proofs.YtendjepcjmfmfaaGreatDoor
namespace Go.Proofs.YtendjepcjmfmfaaGreatDoor
open Go.RowKit
abbrev ovv (x y z D : Int) : Value := .agg #[.int .i64 x, .int .i64 y, .int .i64 z, .int .i64 D]
def WrB (w : World) (n0 n1 n2 D : Int) (cs : List Value) (W : World) : Prop :=
 Blk W w.heap.size 109 [.int .i64 n0, .int .i64 n1, .int .i64 n2, .int .i64 D] ∧ Blk W (w.heap.size + 1) 120 [.int .i64 0, .int .i64 0, .int .i64 0, .int .i64 0, .int .i64 0, .int .i64 0] ∧
 Blk W (w.heap.size + 1 + 1) 120 cs ∧ Below w.heap.size w W
abbrev WrM (w : World) (n0 n1 n2 D : Int) (a b c d e f : Int) (W : World) : Prop := WrB w n0 n1 n2 D [.int .i64 a, .int .i64 b, .int .i64 c, .int .i64 d, .int .i64 e, .int .i64 f] W
section
variable {w W W' : World} {n0 n1 n2 D : Int} {cs cs' : List Value}
end
def WrRel (w : World) (n0 n1 n2 D : Int) (i : Value) (W : World) : Prop :=
 ∃ k : Nat, k ≤ 3 ∧ i = .int .i64 (k : Int) ∧ WrM w n0 n1 n2 D (if 0 < k then lowN n0 D else 0) (if 0 < k then lowD n0 D else 0) (if 1 < k then lowN n1 D else 0) (if 1 < k then lowD n1 D else 0) (if 2 < k then lowN n2 D else 0) (if 2 < k then lowD n2 D else 0) W
end Go.Proofs.YtendjepcjmfmfaaGreatDoor
namespace Go.Proofs.YtendjepcjmfmfaaGreatDoor
open Go.RowKit
theorem four_of {W : World} {g : Nat} {t : TypeId} {a b c d : Value} (h : Blk W g t [a, b, c, d]) : W.cell? ⟨g, 0, none⟩ = some a ∧ W.cell? ⟨g, 1, none⟩ = some b ∧ W.cell? ⟨g, 2, none⟩ = some c ∧ W.cell? ⟨g, 3, none⟩ = some d := ⟨h.cell 0, h.cell 1, h.cell 2, h.cell 3⟩
open Classical in
noncomputable def rdV (S : List (Int × Int)) : Value := if ∀ q ∈ S, Right q.1 q.2 then (match prt S with | some ([x, y, z], D) => .tuple #[ovv x y z D, .int .i64 0] | _ => .tuple #[ovv 0 0 0 0, .int .i64 4]) else .tuple #[ovv 0 0 0 0, .int .i64 2]
theorem lcmA_ge {x d : Int} (hx : 1 ≤ x) (hd : 1 ≤ d) : d ≤ lcmA x d := by
 have hg : 0 < Nat.gcd x.natAbs d.natAbs := Nat.gcd_pos_of_pos_left _ (by omega)
 have hgl : Nat.gcd x.natAbs d.natAbs ≤ x.natAbs := Nat.le_of_dvd (by omega) (Nat.gcd_dvd_left _ _)
 have hq : 1 ≤ x / (Nat.gcd x.natAbs d.natAbs : Int) := by rw [Int.le_ediv_iff_mul_le (by omega)]; omega
 unfold lcmA
 have := Int.mul_le_mul_of_nonneg_right hq (show 0 ≤ d by omega)
 omega
theorem prD_cons {n d x : Int} {r : List (Int × Int)} (hx : 1 ≤ x) (hd : 1 ≤ d) : prD ((n, d) :: r) x = if 240 < lcmA x d then none else prD r (lcmA x d) := by
 have := lcmA_ge hx hd
 show (if 240 < d then none else if 240 < lcmA x d then none else prD r (lcmA x d)) = _
 by_cases h : 240 < d
 ·rw [if_pos h, if_pos (by omega)]
 ·rw [if_neg h]
end Go.Proofs.YtendjepcjmfmfaaGreatDoor
namespace Go.Proofs.YtendjepcjmfmfaaGreatDoor
section
open Go.RowKit
def RetStrip (n p : Nat) (w : World) (e : Ending) (w' : World) : Prop :=
 ∃ c r : Nat, e = .returned (.tuple #[.int .i64 (c : Int), .int .i64 (r : Int)]) ∧ n = p ^ c * r ∧ r % p ≠ 0 ∧ w = w'
theorem strip_bd {n p c r : Nat} (h : n = p ^ c * r) (hn : 1 ≤ n) (hn2 : n ≤ 4611686018427387904) (hp : 2 ≤ p) : c ≤ 62 ∧ 1 ≤ r ∧ r ≤ n := by
 have hr : 1 ≤ r := by
  rcases Nat.eq_zero_or_pos r with h0 | h0
  ·subst h0; omega
  ·exact h0
 refine ⟨?_, hr, ?_⟩
 ·have h1 : 2 ^ c ≤ p ^ c := Nat.pow_le_pow_left hp c
  have h2 : p ^ c ≤ n := by rw [h]; exact Nat.le_mul_of_pos_right _ hr
  rcases Nat.lt_or_ge c 63 with h3 | h3
  ·omega
  ·have h4 : 2 ^ 63 ≤ 2 ^ c := Nat.pow_le_pow_right (by decide) h3
   omega
 ·rw [h]; exact Nat.le_mul_of_pos_left _ (Nat.pow_pos (by omega))
set_option maxHeartbeats 1000000 in
theorem strip_any (n p : Nat) (w : World) (hn : 1 ≤ n) (hn2 : n ≤ 4611686018427387904) (hp : 2 ≤ p) (hp2 : p ≤ 5) :
  Calls Tryz.prog 97 #[.int .i64 (n : Int), .int .i64 (p : Int)] w (RetStrip n p w) := by
 have hpz : ((p : Int) == 0) = false := by rw [beq_eq_false_iff_ne]; omega
 go_enter Tryz.func97, Tryz.ntmps97
 go_wp2
 go_loop [0, 4] (fun u c => ∃ k r : Nat, u = .int .i64 (r : Int) ∧ c = .int .i64 (k : Int) ∧ Lib.Kept (n = p ^ k * r)) (fun u _ => (intOf u).toNat)
 case atStart => exact ⟨0, n, rfl, rfl, (by rw [Nat.pow_zero, Nat.one_mul] : n = p ^ 0 * n)⟩
 case round =>
  obtain ⟨k, r, rfl, rfl, he⟩ := hrel
  have HE := Lib.hid he
  obtain ⟨hk, hr1, hr2⟩ := strip_bd he hn hn2 hp
  clear he
  by_cases h0 : r % p = 0
  ·have hm : (((r : Int) % (p : Int)) == 0) = true := by rw [beq_iff_eq]; omega
   obtain ⟨q, hq⟩ : ∃ q : Nat, q = r / p := ⟨_, rfl⟩
   have hqi : (r : Int) / (p : Int) = (q : Int) := by rw [hq]; exact (Int.natCast_ediv r p).symm
   have hqr : q < r := by rw [hq]; exact Nat.div_lt_self (by omega) (by omega)
   have HN := Lib.hid (show n = p ^ (k + 1) * q by
    have h1 : r = p * q := by rw [hq]; exact (Nat.mul_div_cancel' (Nat.dvd_of_mod_eq_zero h0)).symm
    rw [HE.out, h1, Nat.pow_succ, Nat.mul_assoc])
   clear hq h0
   go_wp2
   go_round
   case rel => exact ⟨k + 1, q, rfl, by go_num, HN.out⟩
   case measure => simp [intOf]; omega
  ·have hm : (((r : Int) % (p : Int)) == 0) = false := by
    rw [beq_eq_false_iff_ne]
    intro e
    exact h0 (by have h : ((r % p : Nat) : Int) = 0 := by rw [Int.natCast_emod]; exact e
                 omega)
   have H0 := Lib.hid h0
   clear h0
   go_wp2
   go_ret2
   exact ⟨k, r, rfl, HE.out, H0.out, rfl⟩
structure Fac (n : Nat) (a b c r : Nat) : Prop where
 eq : n = 2 ^ a * 3 ^ b * 5 ^ c * r
def RaMem (w : World) (x y z : Int) (W : World) : Prop :=
 Blk W w.heap.size 49 [.int .i64 0, .int .i64 0, .int .i64 0, .int .i64 0, .int .i64 0, .int .i64 0] ∧ Blk W (w.heap.size + 1) 57 [.int .i64 x, .int .i64 y, .int .i64 z] ∧ Blk W (w.heap.size + 1 + 1) 3 [.int .i64 2, .int .i64 3, .int .i64 5] ∧ Below w.heap.size w W
theorem RaMem.below {w W W' : World} {x y z : Int} (h : RaMem w x y z W) (hb : Below W.heap.size W W') : RaMem w x y z W' := ⟨h.1.below hb h.1.lt, h.2.1.below hb h.2.1.lt, h.2.2.1.below hb h.2.2.1.lt, h.2.2.2.trans (hb.mono h.2.2.2.size)⟩
theorem RaMem.put {w W : World} {x y z : Int} (h : RaMem w x y z W) (u : Int) : RaMem w u y z (W.setCell ⟨w.heap.size + 1, 0, none⟩ (.int .i64 u)) ∧ RaMem w x u z (W.setCell ⟨w.heap.size + 1, 1, none⟩ (.int .i64 u)) ∧ RaMem w x y u (W.setCell ⟨w.heap.size + 1, 2, none⟩ (.int .i64 u)) := by
 have e1 : w.heap.size ≠ w.heap.size + 1 := by omega
 have e2 : w.heap.size + 1 + 1 ≠ w.heap.size + 1 := by omega
 refine ⟨⟨h.1.far e1 _, h.2.1.put 0 _, h.2.2.1.far e2 _, bw_set h.2.2.2 (by omega) _⟩, ⟨h.1.far e1 _, h.2.1.put 1 _, h.2.2.1.far e2 _, bw_set h.2.2.2 (by omega) _⟩, ⟨h.1.far e1 _, h.2.1.put 2 _, h.2.2.1.far e2 _, bw_set h.2.2.2 (by omega) _⟩⟩
def RaRel (w : World) (n d : Nat) (u v i : Value) (wr : World) : Prop :=
 ∃ k rn rd a0 b0 a1 b1 a2 b2 : Nat, k ≤ 3 ∧ i = .int .i64 (k : Int) ∧ u = .int .i64 (rn : Int) ∧ v = .int .i64 (rd : Int) ∧ (Fac n a0 a1 a2 rn ∧ Fac d b0 b1 b2 rd) ∧ ((k = 0 → a0 = 0 ∧ b0 = 0) ∧ (k ≤ 1 → a1 = 0 ∧ b1 = 0) ∧ (k ≤ 2 → a2 = 0 ∧ b2 = 0)) ∧
  ((0 < k → rn % 2 ≠ 0 ∧ rd % 2 ≠ 0) ∧ (1 < k → rn % 3 ≠ 0 ∧ rd % 3 ≠ 0) ∧ (2 < k → rn % 5 ≠ 0 ∧ rd % 5 ≠ 0)) ∧ RaMem w ((a0 : Int) - b0) ((a1 : Int) - b1) ((a2 : Int) - b2) wr
theorem fac_le {n a b c r : Nat} (h : Fac n a b c r) (hn : 1 ≤ n) : 1 ≤ r ∧ r ≤ n := by
 have he := h.eq
 have hr : 1 ≤ r := by
  rcases Nat.eq_zero_or_pos r with h0 | h0
  ·subst h0; rw [Nat.mul_zero] at he; omega
  ·exact h0
 refine ⟨hr, ?_⟩
 rw [he]
 exact Nat.le_mul_of_pos_left _ (Nat.mul_pos (Nat.mul_pos (Nat.pow_pos (by decide)) (Nat.pow_pos (by decide))) (Nat.pow_pos (by decide)))
theorem fac_bd {n a b c r : Nat} (h : Fac n a b c r) (hn : 1 ≤ n) (hn2 : n ≤ 4611686018427387904) : a ≤ 62 ∧ b ≤ 62 ∧ c ≤ 62 := by
 have he := h.eq
 refine ⟨(strip_bd (p := 2) (c := a) (r := 3 ^ b * 5 ^ c * r) (by rw [he]; simp [Nat.mul_assoc]) hn hn2 (by decide)).1, (strip_bd (p := 3) (c := b) (r := 2 ^ a * 5 ^ c * r) (by rw [he]; simp [Nat.mul_assoc, Nat.mul_left_comm]) hn hn2 (by decide)).1, (strip_bd (p := 5) (c := c) (r := 2 ^ a * 3 ^ b * r) (by rw [he, Nat.mul_comm (2 ^ a * 3 ^ b) (5 ^ c), Nat.mul_assoc (5 ^ c)]) hn hn2 (by decide)).1⟩
theorem mod_keep {p q c r x : Nat} (h : x = q ^ c * r) (hx : x % p ≠ 0) : r % p ≠ 0 := fun e => hx (by rw [h]; exact Nat.mod_eq_zero_of_dvd (Nat.dvd_trans (Nat.dvd_of_mod_eq_zero e) (Nat.dvd_mul_left _ _)))
def RetRatio (n d : Nat) (w : World) (e : Ending) (w' : World) : Prop :=
 (∃ rn rd a0 b0 a1 b1 a2 b2 : Nat, (Fac n a0 a1 a2 rn ∧ Fac d b0 b1 b2 rd) ∧ (rn % 2 ≠ 0 ∧ rd % 2 ≠ 0) ∧ (rn % 3 ≠ 0 ∧ rd % 3 ≠ 0) ∧ (rn % 5 ≠ 0 ∧ rd % 5 ≠ 0) ∧
  e = .returned (if rn = rd then ivR ((a0 : Int) - b0) 1 ((a1 : Int) - b1) 1 ((a2 : Int) - b2) 1 else .tuple #[szv 0 0 0 0 0 0, .int .i64 7])) ∧ Below w.heap.size w w'
set_option maxRecDepth 100000 in
set_option maxHeartbeats 8000000 in
theorem ratio_any (n d : Nat) (w : World) (hn : 1 ≤ n) (hn2 : n ≤ 4611686018427387904) (hd : 1 ≤ d) (hd2 : d ≤ 4611686018427387904) :
  Calls Tryz.prog 61 #[.int .i64 (n : Int), .int .i64 (d : Int)] w (RetRatio n d w) := by
 have hM0 : RaMem w 0 0 0 (((w.alloc (.cells #[.int .i64 0, .int .i64 0, .int .i64 0, .int .i64 0, .int .i64 0, .int .i64 0] 49)).alloc (.cells #[.int .i64 0, .int .i64 0, .int .i64 0] 57)).alloc (.cells #[.int .i64 2, .int .i64 3, .int .i64 5] 3)) := by
  refine ⟨?_, ?_, ?_, bw_new (bw_new (bw_new (Below.refl _ _) _) _) _⟩
  ·exact Blk.alloc (t := 49) (cs := [.int .i64 0, .int .i64 0, .int .i64 0, .int .i64 0, .int .i64 0, .int .i64 0]) (Blk.alloc (t := 49) (cs := [.int .i64 0, .int .i64 0, .int .i64 0, .int .i64 0, .int .i64 0, .int .i64 0]) (heap_alloc_new w _) _) _
  ·have := heap_alloc_new (w.alloc (.cells #[.int .i64 0, .int .i64 0, .int .i64 0, .int .i64 0, .int .i64 0, .int .i64 0] 49)) (.cells #[.int .i64 0, .int .i64 0, .int .i64 0] 57)
   rw [World.size_alloc] at this
   exact Blk.alloc (t := 57) (cs := [.int .i64 0, .int .i64 0, .int .i64 0]) this _
  ·have := heap_alloc_new ((w.alloc (.cells #[.int .i64 0, .int .i64 0, .int .i64 0, .int .i64 0, .int .i64 0, .int .i64 0] 49)).alloc (.cells #[.int .i64 0, .int .i64 0, .int .i64 0] 57)) (.cells #[.int .i64 2, .int .i64 3, .int .i64 5] 3)
   rw [World.size_alloc, World.size_alloc] at this
   exact this
 have HM0 := Lib.hid hM0
 have HST := Lib.hid (fun (x q : Nat) (W : World) (h1 : 1 ≤ x) (h2 : x ≤ 4611686018427387904) (h3 : 2 ≤ q) (h4 : q ≤ 5) => strip_any x q W h1 h2 h3 h4)
 clear hM0
 go_enter Tryz.func61, Tryz.ntmps61
 go_wp2_with fail
 go_loopw [0, 1, 20] (fun u v i wr => RaRel w n d u v i wr) (fun _ _ i _ => 3 - (intOf i).toNat)
 case atStart => exact ⟨0, n, d, 0, 0, 0, 0, 0, 0, by omega, rfl, rfl, rfl, ⟨⟨by simp⟩, ⟨by simp⟩⟩, ⟨fun _ => ⟨rfl, rfl⟩, fun _ => ⟨rfl, rfl⟩, fun _ => ⟨rfl, rfl⟩⟩, ⟨fun h => absurd h (by decide), fun h => absurd h (by decide), fun h => absurd h (by decide)⟩, HM0.out⟩
 case round =>
  clear HM0
  obtain ⟨k, rn, rd, a0, b0, a1, b1, a2, b2, hk, rfl, rfl, rfl, ⟨hfn, hfd⟩, hz, hmod, hmem⟩ := hrel
  obtain ⟨rn1, rn2⟩ := fac_le hfn hn
  obtain ⟨rd1, rd2⟩ := fac_le hfd hd
  have HF := Lib.hid (And.intro hfn hfd)
  have HMD := Lib.hid hmod
  have HZ := Lib.hid hz
  have HM := Lib.hid hmem
  have hsz : w.heap.size + 1 + 1 < wr.heap.size := hmem.2.2.1.lt
  clear hfn hfd hmod hmem hz
  by_cases hlt : k < 3
  ·rcases (show k = 0 ∨ k = 1 ∨ k = 2 by omega) with rfl | rfl | rfl
   ·obtain ⟨rfl, rfl⟩ := HZ.out.1 rfl
    have c0 := HM.out.2.2.1.cell 0
    have e0 := HM.out.2.1.cell 0
    have f0 := HM.out.2.1.frozen 0
    have hs1 := HST.out rn 2 wr rn1 (by omega) (by decide) (by decide)
    have HS1 := Lib.hid hs1
    clear hs1
    go_wp2_with fail
    refine (HS1.out).mono ?_
    rintro e w1 ⟨ca, ra, rfl, hea, hma, rfl⟩
    have HA := Lib.hid (And.intro hea hma)
    obtain ⟨ka, ra1, ra2⟩ := strip_bd hea rn1 (by omega) (by decide)
    have hs2 := HST.out rd 2 wr rd1 (by omega) (by decide) (by decide)
    have HS2 := Lib.hid hs2
    clear hs2 hea hma
    go_wp2_with fail
    refine (HS2.out).mono ?_
    rintro e w1 ⟨cb, rb, rfl, heb, hmb, rfl⟩
    have HBB := Lib.hid (And.intro heb hmb)
    obtain ⟨kb, rb1, rb2⟩ := strip_bd heb rd1 (by omega) (by decide)
    clear heb hmb
    have HM2 := Lib.hid ((HM.out.put ((ca : Int) - cb)).1)
    go_wp2
    go_roundw
    case rel =>
     refine (show RaRel w n d (.int .i64 (ra : Int)) (.int .i64 (rb : Int)) (.int .i64 ((0 + 1 : Nat) : Int)) _ from ⟨0 + 1, ra, rb, ca, cb, a1, b1, a2, b2, by omega, rfl, rfl, rfl, ⟨⟨?_⟩, ⟨?_⟩⟩, ⟨fun h => absurd h (by decide), fun _ => HZ.out.2.1 (by decide), fun _ => HZ.out.2.2 (by decide)⟩, ⟨fun _ => ⟨HA.out.2, HBB.out.2⟩, fun h => absurd h (by decide), fun h => absurd h (by decide)⟩, HM2.out⟩)
     ·rw [HF.out.1.eq, HA.out.1]; simp only [Nat.pow_zero, Nat.one_mul, Nat.mul_assoc, Nat.mul_left_comm]
     ·rw [HF.out.2.eq, HBB.out.1]; simp only [Nat.pow_zero, Nat.one_mul, Nat.mul_assoc, Nat.mul_left_comm]
    case measure => simp [intOf]
   ·obtain ⟨rfl, rfl⟩ := HZ.out.2.1 (by decide)
    have c0 := HM.out.2.2.1.cell 1
    have e0 := HM.out.2.1.cell 1
    have f0 := HM.out.2.1.frozen 1
    have hs1 := HST.out rn 3 wr rn1 (by omega) (by decide) (by decide)
    have HS1 := Lib.hid hs1
    clear hs1
    go_wp2_with fail
    refine (HS1.out).mono ?_
    rintro e w1 ⟨ca, ra, rfl, hea, hma, rfl⟩
    have HA := Lib.hid (And.intro hea hma)
    obtain ⟨ka, ra1, ra2⟩ := strip_bd hea rn1 (by omega) (by decide)
    have hs2 := HST.out rd 3 wr rd1 (by omega) (by decide) (by decide)
    have HS2 := Lib.hid hs2
    clear hs2 hea hma
    go_wp2_with fail
    refine (HS2.out).mono ?_
    rintro e w1 ⟨cb, rb, rfl, heb, hmb, rfl⟩
    have HBB := Lib.hid (And.intro heb hmb)
    obtain ⟨kb, rb1, rb2⟩ := strip_bd heb rd1 (by omega) (by decide)
    clear heb hmb
    have HM2 := Lib.hid ((HM.out.put ((ca : Int) - cb)).2.1)
    go_wp2
    go_roundw
    case rel =>
     refine (show RaRel w n d (.int .i64 (ra : Int)) (.int .i64 (rb : Int)) (.int .i64 ((1 + 1 : Nat) : Int)) _ from ⟨1 + 1, ra, rb, a0, b0, ca, cb, a2, b2, by omega, rfl, rfl, rfl, ⟨⟨?_⟩, ⟨?_⟩⟩, ⟨fun h => absurd h (by decide), fun h => absurd h (by decide), fun _ => HZ.out.2.2 (by decide)⟩, ⟨fun _ => ⟨mod_keep HA.out.1 (HMD.out.1 (by decide)).1, mod_keep HBB.out.1 (HMD.out.1 (by decide)).2⟩, fun _ => ⟨HA.out.2, HBB.out.2⟩, fun h => absurd h (by decide)⟩, HM2.out⟩)
     ·rw [HF.out.1.eq, HA.out.1]; simp only [Nat.pow_zero, Nat.mul_one, Nat.mul_assoc, Nat.mul_left_comm]
     ·rw [HF.out.2.eq, HBB.out.1]; simp only [Nat.pow_zero, Nat.mul_one, Nat.mul_assoc, Nat.mul_left_comm]
    case measure => simp [intOf]
   ·obtain ⟨rfl, rfl⟩ := HZ.out.2.2 (by decide)
    have c0 := HM.out.2.2.1.cell 2
    have e0 := HM.out.2.1.cell 2
    have f0 := HM.out.2.1.frozen 2
    have hs1 := HST.out rn 5 wr rn1 (by omega) (by decide) (by decide)
    have HS1 := Lib.hid hs1
    clear hs1
    go_wp2_with fail
    refine (HS1.out).mono ?_
    rintro e w1 ⟨ca, ra, rfl, hea, hma, rfl⟩
    have HA := Lib.hid (And.intro hea hma)
    obtain ⟨ka, ra1, ra2⟩ := strip_bd hea rn1 (by omega) (by decide)
    have hs2 := HST.out rd 5 wr rd1 (by omega) (by decide) (by decide)
    have HS2 := Lib.hid hs2
    clear hs2 hea hma
    go_wp2_with fail
    refine (HS2.out).mono ?_
    rintro e w1 ⟨cb, rb, rfl, heb, hmb, rfl⟩
    have HBB := Lib.hid (And.intro heb hmb)
    obtain ⟨kb, rb1, rb2⟩ := strip_bd heb rd1 (by omega) (by decide)
    clear heb hmb
    have HM2 := Lib.hid ((HM.out.put ((ca : Int) - cb)).2.2)
    go_wp2
    go_roundw
    case rel =>
     refine (show RaRel w n d (.int .i64 (ra : Int)) (.int .i64 (rb : Int)) (.int .i64 ((2 + 1 : Nat) : Int)) _ from ⟨2 + 1, ra, rb, a0, b0, a1, b1, ca, cb, by omega, rfl, rfl, rfl, ⟨⟨?_⟩, ⟨?_⟩⟩, ⟨fun h => absurd h (by decide), fun h => absurd h (by decide), fun h => absurd h (by decide)⟩, ⟨fun _ => ⟨mod_keep HA.out.1 (HMD.out.1 (by decide)).1, mod_keep HBB.out.1 (HMD.out.1 (by decide)).2⟩, fun _ => ⟨mod_keep HA.out.1 (HMD.out.2.1 (by decide)).1, mod_keep HBB.out.1 (HMD.out.2.1 (by decide)).2⟩, fun _ => ⟨HA.out.2, HBB.out.2⟩⟩, HM2.out⟩)
     ·rw [HF.out.1.eq, HA.out.1]; simp only [Nat.pow_zero, Nat.mul_one, Nat.mul_assoc]
     ·rw [HF.out.2.eq, HBB.out.1]; simp only [Nat.pow_zero, Nat.mul_one, Nat.mul_assoc]
    case measure => simp [intOf]
  ·obtain rfl : k = 3 := by omega
   obtain ⟨ba0, ba1, ba2⟩ := fac_bd HF.out.1 hn hn2
   obtain ⟨bb0, bb1, bb2⟩ := fac_bd HF.out.2 hd hd2
   have HMD2 := Lib.hid (And.intro (HMD.out.1 (by decide)) (And.intro (HMD.out.2.1 (by decide)) (HMD.out.2.2 (by decide))))
   obtain ⟨c0, c1, c2⟩ := three_of HM.out.2.1
   obtain ⟨e0, e1, e2, e3, e4, e5⟩ := six_of HM.out.1
   obtain ⟨f0, f1, f2, f3, f4, f5⟩ := six_free HM.out.1
   by_cases hrr : rn = rd
   ·subst hrr
    have hi := fun W => iof_any ((a0 : Int) - b0) ((a1 : Int) - b1) ((a2 : Int) - b2) W ⟨by omega, by omega⟩ ⟨by omega, by omega⟩ ⟨by omega, by omega⟩
    obtain ⟨r0, r1, r2, r3, r4, r5, q, hrr⟩ : ∃ r0 r1 r2 r3 r4 r5 q, ivR ((a0 : Int) - b0) 1 ((a1 : Int) - b1) 1 ((a2 : Int) - b2) 1 = .tuple #[szv r0 r1 r2 r3 r4 r5, .int .i64 q] := by
     unfold ivR; split
     ·exact ⟨_, _, _, _, _, _, _, rfl⟩
     ·exact ⟨_, _, _, _, _, _, _, rfl⟩
    rw [hrr] at hi
    have HI := Lib.hid hi
    have HRR := Lib.hid hrr
    clear hi hrr
    go_wp2_with fail
    refine (HI.out _).mono ?_
    rintro e w1 ⟨rfl, hb⟩
    have HM2 := Lib.hid (HM.out.below hb)
    clear hb c0 c1 c2 e0 e1 e2 e3 e4 e5 f0 f1 f2 f3 f4 f5
    obtain ⟨e0, e1, e2, e3, e4, e5⟩ := six_of HM2.out.1
    obtain ⟨f0, f1, f2, f3, f4, f5⟩ := six_free HM2.out.1
    go_wp2
    obtain ⟨WZ, hWZ⟩ : ∃ WZ, WZ = ((((((w1.setCell ⟨w.heap.size, 0, none⟩ (.int .i64 r0)).setCell ⟨w.heap.size, 1, none⟩ (.int .i64 r1)).setCell ⟨w.heap.size, 2, none⟩ (.int .i64 r2)).setCell ⟨w.heap.size, 3, none⟩ (.int .i64 r3)).setCell ⟨w.heap.size, 4, none⟩ (.int .i64 r4)).setCell ⟨w.heap.size, 5, none⟩ (.int .i64 r5)) := ⟨_, rfl⟩
    obtain ⟨g0, g1, g2, g3, g4, g5⟩ := six_of (show Blk WZ _ _ _ by rw [hWZ]; exact six_put HM2.out.1 _ _ _ _ _ _)
    have hww : Below w.heap.size w WZ := by rw [hWZ]; exact six_below HM2.out.2.2.2 (Nat.le_refl _) _ _ _ _ _ _
    rw [← hWZ]
    exact bodyPost_ret (v := .tuple #[szv r0 r1 r2 r3 r4 r5, .int .i64 q]) (by simp [g0, g1, g2, g3, g4, g5, results, Tryz.results61, go_sem]) rfl ⟨⟨rn, rn, a0, b0, a1, b1, a2, b2, HF.out, HMD2.out.1, HMD2.out.2.1, HMD2.out.2.2, by rw [if_pos rfl, HRR.out]⟩, hww⟩
   ·have hne : ((rn : Int) != (rd : Int)) = true := by rw [bne_iff_ne]; omega
    have hne2 : ((rn : Int) == (rd : Int)) = false := by rw [beq_eq_false_iff_ne]; omega
    have HRR := Lib.hid hrr
    clear hrr
    go_wp2
    obtain ⟨WZ, hWZ⟩ : ∃ WZ, WZ = ((((((wr.setCell ⟨w.heap.size, 0, none⟩ (.int .i64 0)).setCell ⟨w.heap.size, 1, none⟩ (.int .i64 0)).setCell ⟨w.heap.size, 2, none⟩ (.int .i64 0)).setCell ⟨w.heap.size, 3, none⟩ (.int .i64 0)).setCell ⟨w.heap.size, 4, none⟩ (.int .i64 0)).setCell ⟨w.heap.size, 5, none⟩ (.int .i64 0)) := ⟨_, rfl⟩
    obtain ⟨g0, g1, g2, g3, g4, g5⟩ := six_of (show Blk WZ _ _ _ by rw [hWZ]; exact six_put HM.out.1 _ _ _ _ _ _)
    have hww : Below w.heap.size w WZ := by rw [hWZ]; exact six_below HM.out.2.2.2 (Nat.le_refl _) _ _ _ _ _ _
    rw [← hWZ]
    exact bodyPost_ret (v := .tuple #[szv 0 0 0 0 0 0, .int .i64 7]) (by simp [g0, g1, g2, g3, g4, g5, results, Tryz.results61, go_sem]) rfl ⟨⟨rn, rd, a0, b0, a1, b1, a2, b2, HF.out, HMD2.out.1, HMD2.out.2.1, HMD2.out.2.2, by rw [if_neg HRR.out]⟩, hww⟩
end
section
theorem pow_uniq {p : Nat} (hp : 2 ≤ p) : ∀ {a b x y : Nat}, p ^ a * x = p ^ b * y → x % p ≠ 0 → y % p ≠ 0 → a = b ∧ x = y
 | 0, 0, x, y, h, _, _ => by simpa using h
 | 0, b + 1, x, y, h, hx, _ => by
  exfalso
  apply hx
  rw [Nat.pow_zero, Nat.one_mul, Nat.pow_succ, Nat.mul_comm (p ^ b) p, Nat.mul_assoc] at h
  rw [h]
  exact Nat.mul_mod_right _ _
 | a + 1, 0, x, y, h, _, hy => by
  exfalso
  apply hy
  rw [Nat.pow_zero, Nat.one_mul, Nat.pow_succ, Nat.mul_comm (p ^ a) p, Nat.mul_assoc] at h
  rw [← h]
  exact Nat.mul_mod_right _ _
 | a + 1, b + 1, x, y, h, hx, hy => by
  rw [Nat.pow_succ, Nat.pow_succ, Nat.mul_comm (p ^ a) p, Nat.mul_comm (p ^ b) p, Nat.mul_assoc, Nat.mul_assoc] at h
  obtain ⟨h1, h2⟩ := pow_uniq hp (Nat.eq_of_mul_eq_mul_left (by omega) h) hx hy
  exact ⟨by omega, h2⟩
def Pr (p : Nat) : Prop := 2 ≤ p ∧ ∀ u < p, ∀ v < p, u ≠ 0 → v ≠ 0 → (u * v) % p ≠ 0
theorem pr_two : Pr 2 := ⟨by decide, by decide⟩
theorem pr_three : Pr 3 := ⟨by decide, by decide⟩
theorem Pr.mul {p x y : Nat} (h : Pr p) (hx : x % p ≠ 0) (hy : y % p ≠ 0) : (x * y) % p ≠ 0 := by
 have hp : 0 < p := by have := h.1; omega
 rw [Nat.mul_mod]
 exact h.2 _ (Nat.mod_lt _ hp) _ (Nat.mod_lt _ hp) hx hy
theorem Pr.pow {p x : Nat} (h : Pr p) (hx : x % p ≠ 0) : ∀ n, (x ^ n) % p ≠ 0
 | 0 => by rw [Nat.pow_zero, Nat.mod_eq_of_lt (by have := h.1; omega)]; decide
 | n + 1 => by rw [Nat.pow_succ]; exact h.mul (Pr.pow h hx n) hx
theorem fac_uniq {n a b c r a' b' c' r' : Nat} (h : Fac n a b c r) (h' : Fac n a' b' c' r') (h2 : r % 2 ≠ 0) (h3 : r % 3 ≠ 0) (h5 : r % 5 ≠ 0) (k2 : r' % 2 ≠ 0) (k3 : r' % 3 ≠ 0) (k5 : r' % 5 ≠ 0) : a = a' ∧ b = b' ∧ c = c' ∧ r = r' := by
 have e : 2 ^ a * (3 ^ b * (5 ^ c * r)) = 2 ^ a' * (3 ^ b' * (5 ^ c' * r')) := by
  have h1 := h.eq.symm.trans h'.eq
  simpa only [Nat.mul_assoc] using h1
 have p2 : ∀ {b c r : Nat}, r % 2 ≠ 0 → (3 ^ b * (5 ^ c * r)) % 2 ≠ 0 := fun hr => pr_two.mul (pr_two.pow (by decide) _) (pr_two.mul (pr_two.pow (by decide) _) hr)
 obtain ⟨e1, e⟩ := pow_uniq (by decide) e (p2 h2) (p2 k2)
 have p3 : ∀ {c r : Nat}, r % 3 ≠ 0 → (5 ^ c * r) % 3 ≠ 0 := fun hr => pr_three.mul (pr_three.pow (by decide) _) hr
 obtain ⟨e2, e⟩ := pow_uniq (by decide) e (p3 h3) (p3 k3)
 obtain ⟨e3, e4⟩ := pow_uniq (by decide) e h5 k5
 exact ⟨e1, e2, e3, e4⟩
end
end Go.Proofs.YtendjepcjmfmfaaGreatDoor
namespace Go.Proofs.YtendjepcjmfmfaaGreatDoor
open Go.RowKit
def nmV (n d : Nat) : Value := .agg #[.int .i64 (n : Int), .int .i64 (d : Int)]
def nmEnc (L : List (ByteArray × Nat × Nat)) : List (ByteArray × Value) := L.map fun p => (p.1, nmV p.2.1 p.2.2)
def nmGet (k : ByteArray) : List (ByteArray × Nat × Nat) → Option (Nat × Nat)
 | [] => none
 | p :: L => if k = p.1 then some p.2 else nmGet k L
theorem nmGet_fnd (k : ByteArray) : ∀ (L : List (ByteArray × Nat × Nat)) (i : Nat), (fnd k (nmEnc L) i).map (·.2) = (nmGet k L).map fun q => nmV q.1 q.2
 | [], _ => rfl
 | p :: L, i => by
  unfold nmEnc nmGet
  rw [List.map_cons]
  unfold fnd
  by_cases h : k = p.1
  ·rw [if_pos h, if_pos h]; rfl
  ·rw [if_neg h, if_neg h]; exact nmGet_fnd k L (i + 1)
theorem nmGet_mem (k : ByteArray) : ∀ (L : List (ByteArray × Nat × Nat)) (q : Nat × Nat), nmGet k L = some q → ∃ s, (s, q) ∈ L
 | [], _, h => by cases h
 | p :: L, q, h => by
  unfold nmGet at h
  by_cases e : k = p.1
  ·rw [if_pos e] at h
   injection h with h
   exact ⟨p.1, by rw [← h]; exact List.mem_cons_self⟩
  ·rw [if_neg e] at h
   obtain ⟨s, hs⟩ := nmGet_mem k L q h
   exact ⟨s, List.mem_cons_of_mem _ hs⟩
theorem fnd_out (k : ByteArray) : ∀ (L : List (ByteArray × Nat × Nat)) (i : Nat), (∀ p ∈ L, k ≠ p.1) → fnd k (nmEnc L) i = none
 | [], _, _ => rfl
 | p :: L, i, h => by
  unfold nmEnc
  rw [List.map_cons]
  unfold fnd
  rw [if_neg (h p List.mem_cons_self)]
  exact fnd_out k L (i + 1) fun q hq => h q (List.mem_cons_of_mem _ hq)
def nmTab : List (ByteArray × Nat × Nat) := [(⟨#[117, 110, 105, 115, 111, 110]⟩, 1, 1), (⟨#[111, 99, 116, 97, 118, 101]⟩, 2, 1), (⟨#[102, 105, 102, 116, 104]⟩, 3, 2), (⟨#[102, 111, 117, 114, 116, 104]⟩, 4, 3), (⟨#[116, 104, 105, 114, 100]⟩, 5, 4), (⟨#[109, 105, 110, 111, 114]⟩, 6, 5), (⟨#[116, 111, 110, 101]⟩, 9, 8), (⟨#[115, 121, 110, 116, 111, 110, 105, 99]⟩, 81, 80), (⟨#[112, 121, 116, 104, 97, 103, 111, 114, 101, 97, 110]⟩, 531441, 524288), (⟨#[115, 99, 104, 105, 115, 109, 97]⟩, 32805, 32768), (⟨#[100, 105, 101, 115, 105, 115]⟩, 128, 125)]
theorem nmTab_bd : ∀ q ∈ nmTab, (1 ≤ q.2.1 ∧ q.2.1 ≤ 4611686018427387904) ∧ (1 ≤ q.2.2 ∧ q.2.2 ≤ 4611686018427387904) := by
 unfold nmTab
 intro q hq
 simp only [List.mem_cons, List.not_mem_nil, or_false] at hq
 rcases hq with rfl | rfl | rfl | rfl | rfl | rfl | rfl | rfl | rfl | rfl | rfl <;> exact ⟨⟨by decide, by decide⟩, by decide, by decide⟩
theorem nm_store {W : World} {b : Nat} {L : List (ByteArray × Nat × Nat)} (h : MapB (strKeys Tryz.underlying9) W b (nmEnc L)) (k : ByteArray) (n d : Nat) (hk : ∀ p ∈ L, k ≠ p.1) :
  ∃ w', (Instr.mapUpdate 138 (.map (some b)) (.string k) (nmV n d)).run Tryz.prog W = .ok () w' ∧ MapB (strKeys Tryz.underlying9) w' b (nmEnc (L ++ [(k, n, d)])) ∧ W.grownBy w' (some b) := by
 obtain ⟨w', h1, h2, h3⟩ := run_store (strKeys Tryz.underlying9) Tryz.underlying138 h k (nmV n d)
 refine ⟨w', h1, ?_, h3⟩
 unfold mput at h2
 rw [fnd_out k L 0 hk] at h2
 have e : nmEnc (L ++ [(k, n, d)]) = nmEnc L ++ [(k, nmV n d)] := by simp [nmEnc]
 rw [e]
 exact h2
theorem nm_look {W : World} {b : Nat} {L : List (ByteArray × Nat × Nat)} (h : MapB (strKeys Tryz.underlying9) W b (nmEnc L)) (k : ByteArray) :
  (Instr.lookup 138 (.map (some b)) (.string k) true).run Tryz.prog W = .ok (match nmGet k L with | some q => .tuple #[nmV q.1 q.2, .bool true] | none => .tuple #[nmV 0 0, .bool false]) W := by
 have hl := run_look (strKeys Tryz.underlying9) Tryz.underlying138 (z := nmV 0 0) (fun w => by first | exact Tryz.zeroValue136 w | kernel_rfl) h k true
 rw [if_pos rfl] at hl
 refine hl.trans ?_
 unfold mget
 rw [nmGet_fnd k L 0]
 cases nmGet k L with
 | none => rfl
 | some q => rfl
theorem nm_chain (W : World) (b : Nat) (h : MapB (strKeys Tryz.underlying9) W b []) : ∃ w1 w2 w3 w4 w5 w6 w7 w8 w9 w10 w11 : World,
  (Instr.mapUpdate 138 (.map (some b)) (.string ⟨#[117, 110, 105, 115, 111, 110]⟩) (.agg #[.int .i64 1, .int .i64 1])).run Tryz.prog W = .ok () w1 ∧
  (Instr.mapUpdate 138 (.map (some b)) (.string ⟨#[111, 99, 116, 97, 118, 101]⟩) (.agg #[.int .i64 2, .int .i64 1])).run Tryz.prog w1 = .ok () w2 ∧
  (Instr.mapUpdate 138 (.map (some b)) (.string ⟨#[102, 105, 102, 116, 104]⟩) (.agg #[.int .i64 3, .int .i64 2])).run Tryz.prog w2 = .ok () w3 ∧
  (Instr.mapUpdate 138 (.map (some b)) (.string ⟨#[102, 111, 117, 114, 116, 104]⟩) (.agg #[.int .i64 4, .int .i64 3])).run Tryz.prog w3 = .ok () w4 ∧
  (Instr.mapUpdate 138 (.map (some b)) (.string ⟨#[116, 104, 105, 114, 100]⟩) (.agg #[.int .i64 5, .int .i64 4])).run Tryz.prog w4 = .ok () w5 ∧
  (Instr.mapUpdate 138 (.map (some b)) (.string ⟨#[109, 105, 110, 111, 114]⟩) (.agg #[.int .i64 6, .int .i64 5])).run Tryz.prog w5 = .ok () w6 ∧
  (Instr.mapUpdate 138 (.map (some b)) (.string ⟨#[116, 111, 110, 101]⟩) (.agg #[.int .i64 9, .int .i64 8])).run Tryz.prog w6 = .ok () w7 ∧
  (Instr.mapUpdate 138 (.map (some b)) (.string ⟨#[115, 121, 110, 116, 111, 110, 105, 99]⟩) (.agg #[.int .i64 81, .int .i64 80])).run Tryz.prog w7 = .ok () w8 ∧
  (Instr.mapUpdate 138 (.map (some b)) (.string ⟨#[112, 121, 116, 104, 97, 103, 111, 114, 101, 97, 110]⟩) (.agg #[.int .i64 531441, .int .i64 524288])).run Tryz.prog w8 = .ok () w9 ∧
  (Instr.mapUpdate 138 (.map (some b)) (.string ⟨#[115, 99, 104, 105, 115, 109, 97]⟩) (.agg #[.int .i64 32805, .int .i64 32768])).run Tryz.prog w9 = .ok () w10 ∧
  (Instr.mapUpdate 138 (.map (some b)) (.string ⟨#[100, 105, 101, 115, 105, 115]⟩) (.agg #[.int .i64 128, .int .i64 125])).run Tryz.prog w10 = .ok () w11 ∧
  MapB (strKeys Tryz.underlying9) w11 b (nmEnc nmTab) ∧ W.grownBy w11 (some b) := by
 obtain ⟨w1, r1, m1, g1⟩ := nm_store (L := []) h ⟨#[117, 110, 105, 115, 111, 110]⟩ 1 1 (by decide)
 obtain ⟨w2, r2, m2, g2⟩ := nm_store (L := [(⟨#[117, 110, 105, 115, 111, 110]⟩, 1, 1)]) m1 ⟨#[111, 99, 116, 97, 118, 101]⟩ 2 1 (by decide)
 have g2 := g1.trans g2
 obtain ⟨w3, r3, m3, g3⟩ := nm_store (L := [(⟨#[117, 110, 105, 115, 111, 110]⟩, 1, 1), (⟨#[111, 99, 116, 97, 118, 101]⟩, 2, 1)]) m2 ⟨#[102, 105, 102, 116, 104]⟩ 3 2 (by decide)
 have g3 := g2.trans g3
 obtain ⟨w4, r4, m4, g4⟩ := nm_store (L := [(⟨#[117, 110, 105, 115, 111, 110]⟩, 1, 1), (⟨#[111, 99, 116, 97, 118, 101]⟩, 2, 1), (⟨#[102, 105, 102, 116, 104]⟩, 3, 2)]) m3 ⟨#[102, 111, 117, 114, 116, 104]⟩ 4 3 (by decide)
 have g4 := g3.trans g4
 obtain ⟨w5, r5, m5, g5⟩ := nm_store (L := [(⟨#[117, 110, 105, 115, 111, 110]⟩, 1, 1), (⟨#[111, 99, 116, 97, 118, 101]⟩, 2, 1), (⟨#[102, 105, 102, 116, 104]⟩, 3, 2), (⟨#[102, 111, 117, 114, 116, 104]⟩, 4, 3)]) m4 ⟨#[116, 104, 105, 114, 100]⟩ 5 4 (by decide)
 have g5 := g4.trans g5
 obtain ⟨w6, r6, m6, g6⟩ := nm_store (L := [(⟨#[117, 110, 105, 115, 111, 110]⟩, 1, 1), (⟨#[111, 99, 116, 97, 118, 101]⟩, 2, 1), (⟨#[102, 105, 102, 116, 104]⟩, 3, 2), (⟨#[102, 111, 117, 114, 116, 104]⟩, 4, 3), (⟨#[116, 104, 105, 114, 100]⟩, 5, 4)]) m5 ⟨#[109, 105, 110, 111, 114]⟩ 6 5 (by decide)
 have g6 := g5.trans g6
 obtain ⟨w7, r7, m7, g7⟩ := nm_store (L := [(⟨#[117, 110, 105, 115, 111, 110]⟩, 1, 1), (⟨#[111, 99, 116, 97, 118, 101]⟩, 2, 1), (⟨#[102, 105, 102, 116, 104]⟩, 3, 2), (⟨#[102, 111, 117, 114, 116, 104]⟩, 4, 3), (⟨#[116, 104, 105, 114, 100]⟩, 5, 4), (⟨#[109, 105, 110, 111, 114]⟩, 6, 5)]) m6 ⟨#[116, 111, 110, 101]⟩ 9 8 (by decide)
 have g7 := g6.trans g7
 obtain ⟨w8, r8, m8, g8⟩ := nm_store (L := [(⟨#[117, 110, 105, 115, 111, 110]⟩, 1, 1), (⟨#[111, 99, 116, 97, 118, 101]⟩, 2, 1), (⟨#[102, 105, 102, 116, 104]⟩, 3, 2), (⟨#[102, 111, 117, 114, 116, 104]⟩, 4, 3), (⟨#[116, 104, 105, 114, 100]⟩, 5, 4), (⟨#[109, 105, 110, 111, 114]⟩, 6, 5), (⟨#[116, 111, 110, 101]⟩, 9, 8)]) m7 ⟨#[115, 121, 110, 116, 111, 110, 105, 99]⟩ 81 80 (by decide)
 have g8 := g7.trans g8
 obtain ⟨w9, r9, m9, g9⟩ := nm_store (L := [(⟨#[117, 110, 105, 115, 111, 110]⟩, 1, 1), (⟨#[111, 99, 116, 97, 118, 101]⟩, 2, 1), (⟨#[102, 105, 102, 116, 104]⟩, 3, 2), (⟨#[102, 111, 117, 114, 116, 104]⟩, 4, 3), (⟨#[116, 104, 105, 114, 100]⟩, 5, 4), (⟨#[109, 105, 110, 111, 114]⟩, 6, 5), (⟨#[116, 111, 110, 101]⟩, 9, 8), (⟨#[115, 121, 110, 116, 111, 110, 105, 99]⟩, 81, 80)]) m8 ⟨#[112, 121, 116, 104, 97, 103, 111, 114, 101, 97, 110]⟩ 531441 524288 (by decide)
 have g9 := g8.trans g9
 obtain ⟨w10, r10, m10, g10⟩ := nm_store (L := [(⟨#[117, 110, 105, 115, 111, 110]⟩, 1, 1), (⟨#[111, 99, 116, 97, 118, 101]⟩, 2, 1), (⟨#[102, 105, 102, 116, 104]⟩, 3, 2), (⟨#[102, 111, 117, 114, 116, 104]⟩, 4, 3), (⟨#[116, 104, 105, 114, 100]⟩, 5, 4), (⟨#[109, 105, 110, 111, 114]⟩, 6, 5), (⟨#[116, 111, 110, 101]⟩, 9, 8), (⟨#[115, 121, 110, 116, 111, 110, 105, 99]⟩, 81, 80), (⟨#[112, 121, 116, 104, 97, 103, 111, 114, 101, 97, 110]⟩, 531441, 524288)]) m9 ⟨#[115, 99, 104, 105, 115, 109, 97]⟩ 32805 32768 (by decide)
 have g10 := g9.trans g10
 obtain ⟨w11, r11, m11, g11⟩ := nm_store (L := [(⟨#[117, 110, 105, 115, 111, 110]⟩, 1, 1), (⟨#[111, 99, 116, 97, 118, 101]⟩, 2, 1), (⟨#[102, 105, 102, 116, 104]⟩, 3, 2), (⟨#[102, 111, 117, 114, 116, 104]⟩, 4, 3), (⟨#[116, 104, 105, 114, 100]⟩, 5, 4), (⟨#[109, 105, 110, 111, 114]⟩, 6, 5), (⟨#[116, 111, 110, 101]⟩, 9, 8), (⟨#[115, 121, 110, 116, 111, 110, 105, 99]⟩, 81, 80), (⟨#[112, 121, 116, 104, 97, 103, 111, 114, 101, 97, 110]⟩, 531441, 524288), (⟨#[115, 99, 104, 105, 115, 109, 97]⟩, 32805, 32768)]) m10 ⟨#[100, 105, 101, 115, 105, 115]⟩ 128 125 (by decide)
 have g11 := g10.trans g11
 exact ⟨w1, w2, w3, w4, w5, w6, w7, w8, w9, w10, w11, r1, r2, r3, r4, r5, r6, r7, r8, r9, r10, r11, m11, g11⟩
def RetNamed (k : ByteArray) (w : World) (e : Ending) (w' : World) : Prop :=
 match nmGet k nmTab with
 | none => e = .returned (.tuple #[szv 0 0 0 0 0 0, .int .i64 10]) ∧ Below w.heap.size w w'
 | some q => RetRatio q.1 q.2 w e w'
theorem RetRatio.tup {n d : Nat} {w w' : World} {e : Ending} (h : RetRatio n d w e w') : ∃ r0 r1 r2 r3 r4 r5 q, e = .returned (.tuple #[szv r0 r1 r2 r3 r4 r5, .int .i64 q]) := by
 obtain ⟨⟨rn, rd, a0, b0, a1, b1, a2, b2, _, _, _, _, he⟩, _⟩ := h
 rw [he]
 unfold ivR
 split
 ·split
  ·exact ⟨_, _, _, _, _, _, _, rfl⟩
  ·exact ⟨_, _, _, _, _, _, _, rfl⟩
 ·exact ⟨_, _, _, _, _, _, _, rfl⟩
set_option maxRecDepth 100000 in
set_option maxHeartbeats 4000000 in
theorem named_any (k : ByteArray) (w : World) :
  Calls Tryz.prog 33 #[.string k] w (RetNamed k w) := by
 have hm0 := MapB.new (strKeys Tryz.underlying9) (w.alloc (.cells #[.int .i64 0, .int .i64 0, .int .i64 0, .int .i64 0, .int .i64 0, .int .i64 0] 49))
 rw [World.size_alloc] at hm0
 obtain ⟨w1, w2, w3, w4, w5, w6, w7, w8, w9, w10, w11, r1, r2, r3, r4, r5, r6, r7, r8, r9, r10, r11, hm, hg⟩ := nm_chain _ _ hm0
 have hy : Blk ((w.alloc (.cells #[.int .i64 0, .int .i64 0, .int .i64 0, .int .i64 0, .int .i64 0, .int .i64 0] 49)).alloc (.map #[] 0)) w.heap.size 49 [.int .i64 0, .int .i64 0, .int .i64 0, .int .i64 0, .int .i64 0, .int .i64 0] := Blk.alloc (t := 49) (cs := [.int .i64 0, .int .i64 0, .int .i64 0, .int .i64 0, .int .i64 0, .int .i64 0]) (heap_alloc_new w _) _
 have hy2 : Blk w11 w.heap.size 49 [.int .i64 0, .int .i64 0, .int .i64 0, .int .i64 0, .int .i64 0, .int .i64 0] := (hg.block _ hy.lt (by intro e; injection e with e; omega)).trans hy
 have hb : Below w.heap.size w w11 := (bw_new (bw_new (Below.refl _ w) _) _).grown hg (by simp; omega) (by intro r e; cases e; omega)
 have hsz := hg.size
 rw [World.size_alloc, World.size_alloc] at hsz
 have hl := nm_look hm k
 have HY := Lib.hid hy2
 have HBW := Lib.hid hb
 have HL := Lib.hid hl
 have hmm := @run_makeMap Tryz.prog

 have R1 := Lib.hid r1
 have R2 := Lib.hid r2
 have R3 := Lib.hid r3
 have R4 := Lib.hid r4
 have R5 := Lib.hid r5
 have R6 := Lib.hid r6
 have R7 := Lib.hid r7
 have R8 := Lib.hid r8
 have R9 := Lib.hid r9
 have R10 := Lib.hid r10
 have R11 := Lib.hid r11
 clear hm hg hy hy2 hb hl hm0 r1 r2 r3 r4 r5 r6 r7 r8 r9 r10 r11
 go_enter Tryz.func33, Tryz.ntmps33
 go_wp2_with fail
 rw [R1.out]
 simp only [Result.andThen]
 rw [Oper.upon_skip]
 go_wp2_with fail
 rw [R2.out]
 simp only [Result.andThen]
 rw [Oper.upon_skip]
 go_wp2_with fail
 rw [R3.out]
 simp only [Result.andThen]
 rw [Oper.upon_skip]
 go_wp2_with fail
 rw [R4.out]
 simp only [Result.andThen]
 rw [Oper.upon_skip]
 go_wp2_with fail
 rw [R5.out]
 simp only [Result.andThen]
 rw [Oper.upon_skip]
 go_wp2_with fail
 rw [R6.out]
 simp only [Result.andThen]
 rw [Oper.upon_skip]
 go_wp2_with fail
 rw [R7.out]
 simp only [Result.andThen]
 rw [Oper.upon_skip]
 go_wp2_with fail
 rw [R8.out]
 simp only [Result.andThen]
 rw [Oper.upon_skip]
 go_wp2_with fail
 rw [R9.out]
 simp only [Result.andThen]
 rw [Oper.upon_skip]
 go_wp2_with fail
 rw [R10.out]
 simp only [Result.andThen]
 rw [Oper.upon_skip]
 go_wp2_with fail
 rw [R11.out]
 simp only [Result.andThen]
 rw [Oper.upon_skip]
 go_wp2_with fail
 rw [HL.out]
 simp only [Result.andThen]
 rw [Oper.upon_value]
 clear HL hmm
 obtain ⟨e0, e1, e2, e3, e4, e5⟩ := six_of HY.out
 obtain ⟨f0, f1, f2, f3, f4, f5⟩ := six_free HY.out
 have hlt : w.heap.size < w11.heap.size := HY.out.lt
 clear hsz
 cases hq : nmGet k nmTab with
 | none =>
  have HQ := Lib.hid hq
  clear hq
  dsimp only
  unfold nmV
  go_wp2
  obtain ⟨WZ, hWZ⟩ : ∃ WZ, WZ = (((((((w11.setCell ⟨w.heap.size, 0, none⟩ (.int .i64 0)).setCell ⟨w.heap.size, 1, none⟩ (.int .i64 0)).setCell ⟨w.heap.size, 2, none⟩ (.int .i64 0)).setCell ⟨w.heap.size, 3, none⟩ (.int .i64 0)).setCell ⟨w.heap.size, 4, none⟩ (.int .i64 0)).setCell ⟨w.heap.size, 5, none⟩ (.int .i64 0))).alloc (.cells #[.int .i64 0, .int .i64 0] 136) := ⟨_, rfl⟩
  obtain ⟨g0, g1, g2, g3, g4, g5⟩ := six_of (show Blk WZ _ 49 [.int .i64 0, .int .i64 0, .int .i64 0, .int .i64 0, .int .i64 0, .int .i64 0] by rw [hWZ]; exact Blk.alloc (six_put HY.out _ _ _ _ _ _) _)
  have hww : Below w.heap.size w WZ := by rw [hWZ]; exact bw_new (six_below HBW.out (Nat.le_refl _) _ _ _ _ _ _) _
  rw [← hWZ]
  exact bodyPost_ret (v := .tuple #[szv 0 0 0 0 0 0, .int .i64 10]) (by simp [g0, g1, g2, g3, g4, g5, results, Tryz.results33, go_sem]) rfl (by unfold RetNamed; rw [HQ.out]; exact ⟨rfl, hww⟩)
 | some q =>
  obtain ⟨n, d⟩ := q
  obtain ⟨s, hs⟩ := nmGet_mem k nmTab _ hq
  obtain ⟨⟨b1, b2⟩, b3, b4⟩ := nmTab_bd _ hs
  have hr := fun W => ratio_any n d W b1 b2 b3 b4
  have HR := Lib.hid hr
  have HQ := Lib.hid hq
  clear hr hs hq b1 b2 b3 b4
  dsimp only
  unfold nmV
  go_wp2_with fail
  refine (HR.out _).mono ?_
  intro e W' hret
  have hb : Below (w11.alloc (.cells #[.int .i64 (n : Int), .int .i64 (d : Int)] 136)).heap.size (w11.alloc (.cells #[.int .i64 (n : Int), .int .i64 (d : Int)] 136)) W' := hret.2
  obtain ⟨r0, r1, r2, r3, r4, r5, q, rfl⟩ := hret.tup
  have HRET := Lib.hid hret.1
  have hy3 : Blk W' w.heap.size 49 [.int .i64 0, .int .i64 0, .int .i64 0, .int .i64 0, .int .i64 0, .int .i64 0] := (Blk.alloc HY.out (.cells #[.int .i64 (n : Int), .int .i64 (d : Int)] 136)).below hb (by rw [World.size_alloc]; omega)
  have HY3 := Lib.hid hy3
  have HB3 := Lib.hid ((bw_new HBW.out (.cells #[.int .i64 (n : Int), .int .i64 (d : Int)] 136)).trans (hb.mono (by rw [World.size_alloc]; omega)))
  clear hb hret hy3 e0 e1 e2 e3 e4 e5 f0 f1 f2 f3 f4 f5 hlt
  obtain ⟨e0, e1, e2, e3, e4, e5⟩ := six_of HY3.out
  obtain ⟨f0, f1, f2, f3, f4, f5⟩ := six_free HY3.out
  go_wp2
  obtain ⟨WZ, hWZ⟩ : ∃ WZ, WZ = ((((((W'.setCell ⟨w.heap.size, 0, none⟩ (.int .i64 r0)).setCell ⟨w.heap.size, 1, none⟩ (.int .i64 r1)).setCell ⟨w.heap.size, 2, none⟩ (.int .i64 r2)).setCell ⟨w.heap.size, 3, none⟩ (.int .i64 r3)).setCell ⟨w.heap.size, 4, none⟩ (.int .i64 r4)).setCell ⟨w.heap.size, 5, none⟩ (.int .i64 r5)) := ⟨_, rfl⟩
  obtain ⟨g0, g1, g2, g3, g4, g5⟩ := six_of (show Blk WZ _ _ _ by rw [hWZ]; exact six_put HY3.out _ _ _ _ _ _)
  have hww : Below w.heap.size w WZ := by rw [hWZ]; exact six_below HB3.out (Nat.le_refl _) _ _ _ _ _ _
  rw [← hWZ]
  exact bodyPost_ret (v := .tuple #[szv r0 r1 r2 r3 r4 r5, .int .i64 q]) (by simp [g0, g1, g2, g3, g4, g5, results, Tryz.results33, go_sem]) rfl (by unfold RetNamed; rw [HQ.out]; exact ⟨HRET.out, hww⟩)
end Go.Proofs.YtendjepcjmfmfaaGreatDoor
