/- Part 15 of 33 of the proof of the law: contracts of the functions that it reaches, and plain facts. Conditions: those that each contract names. -/
import Derived.Test.YtaegjpancbmppaaGreatDoorTabB14
import Derived.Test.YtaegjpancbmppaaGreatDoorTabB13
import Derived.Test.YtaegjpancbmppaaGreatDoorTabB07
set_option linter.unusedVariables false
set_option linter.unusedSimpArgs false
namespace Go.Proofs.YtaegjpancbmppaaGreatDoor
open Go.RowKit
abbrev fzL : List Value := [.int .i64 0, .int .i64 0, .slice none 0 0]
theorem news_three {W : World} {o o' : Obj} {cs : List Value} {t : TypeId} : ∀ j u, cs[j]? = some u → (((W.alloc o).alloc o').alloc (.cells cs.toArray t)).cell? ((⟨W.heap.size + 1 + 1, 0, none⟩ : Addr).add j) = some u := by
 have := World.news_of_block (cs := cs.toArray) (t := t) (fr := (0, 0)) (heap_alloc_new ((W.alloc o).alloc o') _)
 rw [World.size_alloc, World.size_alloc] at this
 simpa using this
def FoRel (w : World) (n : Nat) (L : List (Int × Int)) (x : Value) (W : World) : Prop :=
 ∃ (k : Nat) (Ao : Option Addr) (co : Nat), k ≤ L.length ∧ x = .int .i64 (k : Int) ∧ (∀ i, i < k → rgB n (L.getD i (0, 0)).1 (L.getD i (0, 0)).2 = true) ∧
  RowF W (w.heap.size + 2) (SoB w.heap.size w.heap.size (w.heap.size + 1) W.heap.size (.slice Ao k co)) Ao k co ((L.take k).map (prodT n)) ∧ Hp w [(w.heap.size, 53, fzL), (w.heap.size + 1, 53, fcL 4 0 Ao k co)] W
def FiRel (B0 B1 wr : World) (a b n : Nat) (x : Value) (W : World) : Prop :=
 ∃ (j : Nat) (Ap : Option Addr) (np cp : Nat), j ≤ n ∧ x = .int .i64 (j : Int) ∧ np = (litsT a b j).length ∧
  RowF W (B1.heap.size + 1) (SoB B1.heap.size B1.heap.size B1.heap.size W.heap.size (.slice Ap np cp)) Ap np cp (litsT a b j) ∧ Hp wr [(B0.heap.size, 37, [nv a, nv b]), (B1.heap.size, 53, fcL 3 0 Ap np cp)] W
theorem row_blk {W Wb w' : World} {gb base : Nat} {v : Value} {n : Nat} {e : TypeId} {sz : Nat} {xs : List Value} (hg : Wb.grownBy w' v.ownBlock) (hb : Below W.heap.size W Wb) (hl : gb < W.heap.size) (ho : W.ownsRow base e sz v n xs) (hgb : gb < base) : w'.heap[gb]? = W.heap[gb]? :=
 (hg.block gb (Nat.lt_of_lt_of_le hl hb.size) (fun h => by have := (ho.lt gb h.symm).1; omega)).trans (hb.block gb hl)
theorem row_cell {W Wb w' : World} {gb o base : Nat} {v : Value} {n : Nat} {e : TypeId} {sz : Nat} {xs : List Value} (hg : Wb.grownBy w' v.ownBlock) (hb : Below W.heap.size W Wb) (hl : gb < W.heap.size) (ho : W.ownsRow base e sz v n xs) (hgb : gb < base) : w'.cell? ⟨gb, o, none⟩ = W.cell? ⟨gb, o, none⟩ := by
 unfold World.cell?; rw [row_blk hg hb hl ho hgb]
theorem row_frz {W Wb w' : World} {gb o base : Nat} {v : Value} {n : Nat} {e : TypeId} {sz : Nat} {xs : List Value} (hg : Wb.grownBy w' v.ownBlock) (hb : Below W.heap.size W Wb) (hl : gb < W.heap.size) (ho : W.ownsRow base e sz v n xs) (hgb : gb < base) : w'.frozen? ⟨gb, o, none⟩ = W.frozen? ⟨gb, o, none⟩ := by
 unfold World.frozen?; rw [row_blk hg hb hl ho hgb]
set_option maxRecDepth 1000000 in
set_option maxHeartbeats 8000000 in
theorem iFormula_any (A : Option Addr) (m c n : Nat) (L : List (Int × Int)) (w : World) (hn : n ≤ 8) (hL : CqRd w w.heap.size A L) (hm : m = L.length) (hm1 : m ≤ 1000000) (h64 : ∀ x ∈ L, x.2 ≤ 9223372036854775807) :
  Calls Tryz.prog 28 #[.slice A m c, .int .i64 (n : Int)] w (FoPost n L w) := by
 have HL := Lib.hid hL
 have HM := Lib.hid (And.intro hm h64)
 obtain ⟨i0, hi0, hz0, hz1, hz2⟩ := info_parts infoFm
 have HI0 := Lib.hid hi0
 have HZ0 := Lib.hid hz0
 have HZ1 := Lib.hid hz1
 have HZ2 := Lib.hid hz2
 have hm0 := ((Hp.start w).new 53 fzL).new 53 (fcL 4 0 none 0 0)
 simp only [World.size_alloc, List.nil_append, List.cons_append] at hm0
 have HM0 := Lib.hid hm0
 have HNN := Lib.hid hn
 have hnz : ¬ (n : Int) < 0 := by omega
 have hnz8 : ¬ 8 < (n : Int) := by omega
 clear hL hm h64 hi0 hz0 hz1 hz2 hm0
 go_enter Tryz.func28, Tryz.ntmps28
 go_wp2_with fail
 go_loopw [22] (fun x wr => FoRel w n L x wr) (fun x _ => m - (intOf x).toNat)
 case atStart => exact ⟨0, none, 0, Nat.zero_le _, rfl, (fun i h => absurd h (Nat.not_lt_zero _)), RowF.nil _ _ _, HM0.out⟩
 case round =>
  obtain ⟨wo, rfl⟩ : ∃ wo : World, wo = wr := ⟨_, rfl⟩
  obtain ⟨k, Ao, co, hk, rfl, hrg, hrow, hp⟩ := hrel
  have HRG := Lib.hid hrg
  have HROW := Lib.hid hrow
  have HPB := Lib.hid hp
  clear hrg hrow hp HM0
  by_cases hlt : k < m
  ·have hkL : k < L.length := by rw [← HM.out.1]; exact hlt
   obtain ⟨g, off, hA, hg, hcc⟩ := (HL.out.step HPB.out.below) (by omega)
   obtain ⟨q0, q1⟩ := hcc k hkL
   have hx64 := HM.out.2 (L.getD k (0, 0)) (by rw [List.getD_eq_getElem?_getD, List.getElem?_eq_getElem hkL]; exact List.getElem_mem _)
   have htk : L.take (k + 1) = L.take k ++ [L.getD k (0, 0)] := by
    rw [List.take_succ_eq_append_getElem hkL, List.getD_eq_getElem?_getD, List.getElem?_eq_getElem hkL]; rfl
   have hmem : L.getD k (0, 0) ∈ L := by rw [List.getD_eq_getElem?_getD, List.getElem?_eq_getElem hkL]; exact List.getElem_mem _
   obtain ⟨z, hz⟩ : ∃ z, z = L.getD k (0, 0) := ⟨_, rfl⟩
   rw [← hz] at q0 q1 hx64 htk hmem
   have HZK := Lib.hid hz
   obtain ⟨c', v'⟩ := z
   dsimp only at q0 q1 hx64
   subst hA
   have HRI := Lib.hid (fun W => iright_any n c' v' W HNN.out)
   have hkm : (k : Int) < (m : Int) := by omega
   obtain ⟨k2, hk2⟩ : ∃ z : Int, z = (k : Int) + 1 := ⟨_, rfl⟩
   have hwk : IntKind.i64.wrap ((k : Int) + 1) = k2 := by rw [hk2]; exact IntWalk.i64_in _ (by omega)
   have HK2 := Lib.hid hk2
   have HLT := Lib.hid hlt
   have HTK := Lib.hid htk
   have HME := Lib.hid (And.intro hmem hx64)
   clear hkL hz hlt hk hk2 hcc hg hx64 htk hmem
   go_wp2_with fail
   refine (HRI.out _).mono ?_
   rintro e w1 ⟨rfl, hb1⟩
   have HB1 := Lib.hid hb1
   clear hb1 q0 q1
   cases hr : rgB n c' v' with
   | false =>
    have HE := Lib.hid (show fmE n L = 7 by
     unfold fmE
     rw [if_neg (by omega), Int.toNat_natCast, if_neg]
     intro h
     have := List.all_eq_true.1 h _ HME.out.1
     rw [hr] at this
     cases this)
    have hpw := (HPB.out.alloc (.cells #[.int .i64 c', .int .i64 v'] 37)).step HB1.out
    have b0 := hpw.at_ 0 rfl
    have e0 := b0.cell 0
    have e1 := b0.cell 1
    have e2 := b0.cell 2
    have f0 := b0.frozen 0
    have f1 := b0.frozen 1
    have f2 := b0.frozen 2
    simp only [List.getElem?_cons_zero, List.getElem?_cons_succ] at e0 e1 e2
    have hpf := hpw.put3 0 rfl (.int .i64 0) (.int .i64 0) (.slice none 0 0)
    have HPF := Lib.hid hpf
    clear hr hpw b0 hpf
    go_wp2_with fail
    have bF := HPF.out.at_ 0 rfl
    have r0 := bF.cell 0
    have r1 := bF.cell 1
    have r2 := bF.cell 2
    simp only [List.getElem?_cons_zero, List.getElem?_cons_succ] at r0 r1 r2
    exact bodyPost_ret (v := .tuple #[.agg #[.int .i64 0, .int .i64 0, .slice none 0 0], .int .i64 7]) (by simp [results, Tryz.results28, go_sem, r0, r1, r2]) rfl (.inl ⟨by rw [HE.out]; decide, by rw [HE.out], HPF.out.below⟩)
   | true =>
    obtain ⟨a, b, rfl, rfl, ha, hba, hadn⟩ := rg_of HME.out.2 HNN.out hr
    have ha256 : a < 256 := Nat.lt_of_lt_of_le ha (pow_le8 HNN.out)
    have HAB := Lib.hid (And.intro ha256 (Nat.lt_of_le_of_lt hba ha256))
    have hb256 := HAB.out.2
    have HRR := Lib.hid hr
    have hm8 := (((Hp.start wo).new 37 [nv a, nv b]).step HB1.out).new 53 (fcL 3 0 none 0 0)
    simp only [List.nil_append, List.cons_append] at hm8
    have HM8 := Lib.hid hm8
    have HW1 := Lib.hid (show wo.heap.size + 1 ≤ w1.heap.size by have := HB1.out.size; simpa using this)
    clear hr hm8 ha hba hadn
    go_wp2_with fail
    go_loopw [33] (fun x wx => FiRel wo w1 wo a b n x wx) (fun x _ => n - (intOf x).toNat)
    case atStart => exact ⟨0, none, 0, 0, Nat.zero_le _, rfl, rfl, RowF.nil _ _ _, HM8.out⟩
    case round =>
     obtain ⟨j, Ap, np, cp, hj, rfl, hnp, hrw, hp2⟩ := hrel
     obtain ⟨wi, rfl⟩ : ∃ W, W = wr := ⟨_, rfl⟩
     have HRW := Lib.hid hrw
     have HP2 := Lib.hid hp2
     have HNP := Lib.hid hnp
     have hnpj : np ≤ j := by rw [hnp]; exact litsT_len a b j
     clear hrw hp2 hnp HM8
     by_cases hjl : j < n
     ·have hjz : (j : Int) < (n : Int) := by omega
      have hj64 : (j : Int) < 64 := by have := HNN.out; omega
      have hab1 := bit_and1 (x := j) (show a < 9223372036854775808 by omega)
      have hbb1 := bit_and1 (x := j) (show b < 9223372036854775808 by omega)
      have HLS := Lib.hid (litsT_succ a b j)
      have q0 : wi.cell? ⟨wo.heap.size, 0, none⟩ = some (.int .i64 (a : Int)) := (HP2.out.at_ 0 rfl).cell 0
      have q1 : wi.cell? ⟨wo.heap.size, 1, none⟩ = some (.int .i64 (b : Int)) := (HP2.out.at_ 0 rfl).cell 1
      have hwl : wo.heap.size < wi.heap.size := (HP2.out.at_ 0 rfl).lt
      have hw1l : w1.heap.size < wi.heap.size := (HP2.out.at_ 1 rfl).lt
      obtain ⟨j2, hj2⟩ : ∃ z : Int, z = (j : Int) + 1 := ⟨_, rfl⟩
      have hwj : IntKind.i64.wrap ((j : Int) + 1) = j2 := by rw [hj2]; exact IntWalk.i64_in _ (by omega)
      have HJ2 := Lib.hid hj2
      have HJL := Lib.hid hjl
      clear hj2 hjl hj
      cases hta : a.testBit j with
      | false =>
       rw [hta] at hab1 HLS
       have hab2 : bits .and .i64 ((a : Int) / 2 ^ j) 1 = 0 := hab1
       clear hta hab1 hbb1
       go_wp2_with fail
       go_roundw
       case rel => exact ⟨j + 1, Ap, np, cp, by have := HJL.out; omega, by rw [HJ2.out]; rfl, by rw [HLS.out]; simpa using HNP.out, by rw [HLS.out]; simp only [Bool.false_eq_true, if_false, List.append_nil]; exact (HRW.out.step (bw_new (Below.refl _ _) _) (fun b h => h.2.1)).mono (fun b h => ⟨h.1, Nat.lt_of_lt_of_le h.2.1 (bw_new (Below.refl _ _) _).size, h.2.2⟩), HP2.out.alloc _⟩
       case measure => have := HJL.out; have := HJ2.out; simp only [intOf]; omega
      | true =>
       rw [hta] at hab1
       have HLS1 := Lib.hid (show litsT a b (j + 1) = litsT a b j ++ [litT b j] by rw [litsT_succ, hta]; rfl)
       have hab2 : bits .and .i64 ((a : Int) / 2 ^ j) 1 = 1 := hab1
       clear hta hab1 HLS
       cases htb : b.testBit j with
       | true =>
        rw [htb] at hbb1
        have hbb2 : bits .and .i64 ((b : Int) / 2 ^ j) 1 = 1 := hbb1
        clear hbb1
        have hlt : litT b j = .nd 1 (j : Int) [] := by unfold litT; rw [htb]; rfl
        have HLT2 := Lib.hid hlt
        obtain ⟨As, cs, hown, hnl, hks⟩ := HRW.out
        have HOW := Lib.hid hown
        have HKS := Lib.hid (And.intro hnl hks)
        clear htb hlt hown hnl hks
        have q2 : wi.cell? ⟨w1.heap.size, 2, none⟩ = some (.slice Ap np cp) := (HP2.out.at_ 1 rfl).cell 2
        have f2 : wi.frozen? ⟨w1.heap.size, 2, none⟩ = false := (HP2.out.at_ 1 rfl).frozen 2
        go_wp2_with (at_builtin; refine wpList_append_lies _ rfl _ _ 51 rfl (w1.heap.size + 1) 53 i0 (.agg #[.int .i64 0, .int .i64 0, .slice none 0 0]) 3 40 Tryz.underlying51 HI0.out HZ0.out HZ1.out HZ2.out rfl (by decide) _ _ _ rfl (own_blI HOW.out (bw_new (bw_new (Below.refl _ _) (.cells (fcL 1 (j : Int) none 0 0).toArray 53)) (.cells (fcL 1 (j : Int) none 0 0).toArray 53))) ⟨wi.heap.size + 1, 0, none⟩ 1 1 (fcL 1 (j : Int) none 0 0) rfl rfl news_two (by simp [Value.oneCell']) (by decide) (by unfold maxLen; omega) (by omega) (by simp; omega) _ rfl ?_)
        intro g4 c4 w4 hown4 hgrow4 hor4 hlt4
        have hst := row_step HP2.out (show wo.heap.size < w1.heap.size + 1 by have := HW1.out; omega) (Nat.lt_succ_self _) (show wo.heap.size ≤ w1.heap.size + 1 by have := HW1.out; omega) (.inl rfl) (bw_new (bw_new (Below.refl _ _) (.cells (fcL 1 (j : Int) none 0 0).toArray 53)) (.cells (fcL 1 (j : Int) none 0 0).toArray 53)) HOW.out HKS.out.1 HKS.out.2 (t := litT b j) (At := none) (ct := 0) (by rw [HLT2.out]; exact .nil _) (by rw [HLT2.out]; exact Nat.zero_le _) (by rw [HLT2.out]; exact hown4) hgrow4 (by rw [World.size_alloc, World.size_alloc]; exact hor4)
        have HST := Lib.hid hst
        have q2' : w4.cell? ⟨w1.heap.size, 2, none⟩ = some (.slice Ap np cp) := (row_cell hgrow4 ((bw_new (bw_new (Below.refl _ _) (.cells (fcL 1 (j : Int) none 0 0).toArray 53)) (.cells (fcL 1 (j : Int) none 0 0).toArray 53))) hw1l HOW.out (Nat.lt_succ_self _)).trans q2
        have f2' : w4.frozen? ⟨w1.heap.size, 2, none⟩ = false := (row_frz hgrow4 ((bw_new (bw_new (Below.refl _ _) (.cells (fcL 1 (j : Int) none 0 0).toArray 53)) (.cells (fcL 1 (j : Int) none 0 0).toArray 53))) hw1l HOW.out (Nat.lt_succ_self _)).trans f2
        clear hown4 hgrow4 hor4 hlt4 hst
        go_wp2_with fail
        go_roundw
        case rel => exact ⟨j + 1, some ⟨g4, 0, none⟩, np + 1, c4, by have := HJL.out; omega, by rw [HJ2.out]; rfl, by rw [HLS1.out, List.length_append, ← HNP.out]; rfl, by rw [HLS1.out]; exact HST.out.1, HST.out.2⟩
        case measure => have := HJL.out; have := HJ2.out; simp only [intOf]; omega
       | false =>
        rw [htb] at hbb1
        have hbb2 : bits .and .i64 ((b : Int) / 2 ^ j) 1 = 0 := hbb1
        clear hbb1
        have hlt : litT b j = .nd 2 0 [.nd 1 (j : Int) []] := by unfold litT; rw [htb]; rfl
        have HLT2 := Lib.hid hlt
        obtain ⟨As, cs, hown, hnl, hks⟩ := HRW.out
        have HOW := Lib.hid hown
        have HKS := Lib.hid (And.intro hnl hks)
        clear htb hlt hown hnl hks
        have q2 : wi.cell? ⟨w1.heap.size, 2, none⟩ = some (.slice Ap np cp) := (HP2.out.at_ 1 rfl).cell 2
        have f2 : wi.frozen? ⟨w1.heap.size, 2, none⟩ = false := (HP2.out.at_ 1 rfl).frozen 2
        have hh := (((Hp.start wi).new 53 (fcL 2 0 (some ⟨wi.heap.size + 1, 0, none⟩) 1 1)).new 53 (fcL 1 (j : Int) none 0 0)).alloc (.cells (fcL 2 0 (some ⟨wi.heap.size + 1, 0, none⟩) 1 1).toArray 53)
        simp only [World.size_alloc, List.nil_append, List.cons_append] at hh
        have hnt := fs_one (S := SoB w1.heap.size w1.heap.size w1.heap.size (((wi.alloc (.cells (fcL 2 0 (some ⟨wi.heap.size + 1, 0, none⟩) 1 1).toArray 53)).alloc (.cells (fcL 1 (j : Int) none 0 0).toArray 53)).alloc (.cells (fcL 2 0 (some ⟨wi.heap.size + 1, 0, none⟩) 1 1).toArray 53)).heap.size (.slice Ap np cp)) (hh.at_ 1 rfl) ⟨by omega, by simp, (fun e => by have := (HOW.out.lt _ e.symm).2; omega), by omega, by omega⟩
        have HNT := Lib.hid hnt
        clear hh hnt
        go_wp2_with (at_builtin; refine wpList_append_lies _ rfl _ _ 51 rfl (w1.heap.size + 1) 53 i0 (.agg #[.int .i64 0, .int .i64 0, .slice none 0 0]) 3 40 Tryz.underlying51 HI0.out HZ0.out HZ1.out HZ2.out rfl (by decide) _ _ _ rfl (own_blI HOW.out (bw_new (bw_new (bw_new (Below.refl _ _) (.cells (fcL 2 0 (some ⟨wi.heap.size + 1, 0, none⟩) 1 1).toArray 53)) (.cells (fcL 1 (j : Int) none 0 0).toArray 53)) (.cells (fcL 2 0 (some ⟨wi.heap.size + 1, 0, none⟩) 1 1).toArray 53))) ⟨wi.heap.size + 1 + 1, 0, none⟩ 1 1 (fcL 2 0 (some ⟨wi.heap.size + 1, 0, none⟩) 1 1) rfl rfl news_three (by simp [Value.oneCell']) (by decide) (by unfold maxLen; omega) (by omega) (by simp; omega) _ rfl ?_)
        intro g4 c4 w4 hown4 hgrow4 hor4 hlt4
        have hst := row_step HP2.out (show wo.heap.size < w1.heap.size + 1 by have := HW1.out; omega) (Nat.lt_succ_self _) (show wo.heap.size ≤ w1.heap.size + 1 by have := HW1.out; omega) (.inl rfl) (bw_new (bw_new (bw_new (Below.refl _ _) (.cells (fcL 2 0 (some ⟨wi.heap.size + 1, 0, none⟩) 1 1).toArray 53)) (.cells (fcL 1 (j : Int) none 0 0).toArray 53)) (.cells (fcL 2 0 (some ⟨wi.heap.size + 1, 0, none⟩) 1 1).toArray 53)) HOW.out HKS.out.1 HKS.out.2 (t := litT b j) (At := some ⟨wi.heap.size + 1, 0, none⟩) (ct := 1) (by rw [HLT2.out]; exact HNT.out) (by rw [HLT2.out]; exact Nat.le_refl _) (by rw [HLT2.out]; exact hown4) hgrow4 (by rw [World.size_alloc, World.size_alloc, World.size_alloc]; exact hor4)
        have HST := Lib.hid hst
        have q2' : w4.cell? ⟨w1.heap.size, 2, none⟩ = some (.slice Ap np cp) := (row_cell hgrow4 ((bw_new (bw_new (bw_new (Below.refl _ _) (.cells (fcL 2 0 (some ⟨wi.heap.size + 1, 0, none⟩) 1 1).toArray 53)) (.cells (fcL 1 (j : Int) none 0 0).toArray 53)) (.cells (fcL 2 0 (some ⟨wi.heap.size + 1, 0, none⟩) 1 1).toArray 53))) hw1l HOW.out (Nat.lt_succ_self _)).trans q2
        have f2' : w4.frozen? ⟨w1.heap.size, 2, none⟩ = false := (row_frz hgrow4 ((bw_new (bw_new (bw_new (Below.refl _ _) (.cells (fcL 2 0 (some ⟨wi.heap.size + 1, 0, none⟩) 1 1).toArray 53)) (.cells (fcL 1 (j : Int) none 0 0).toArray 53)) (.cells (fcL 2 0 (some ⟨wi.heap.size + 1, 0, none⟩) 1 1).toArray 53))) hw1l HOW.out (Nat.lt_succ_self _)).trans f2
        clear hown4 hgrow4 hor4 hlt4 hst
        go_wp2_with fail
        go_roundw
        case rel => exact ⟨j + 1, some ⟨g4, 0, none⟩, np + 1, c4, by have := HJL.out; omega, by rw [HJ2.out]; rfl, by rw [HLS1.out, List.length_append, ← HNP.out]; rfl, by rw [HLS1.out]; exact HST.out.1, HST.out.2⟩
        case measure => have := HJL.out; have := HJ2.out; simp only [intOf]; omega
     ·obtain rfl : j = n := by omega
      have hjz : ¬ (j : Int) < (j : Int) := by omega
      have hb := HP2.out.below
      have hpo := HPB.out.step hb
      have hro := (HROW.out.step hb (fun b h => h.2.1)).mono (S' := SoB w.heap.size w.heap.size (w.heap.size + 1) wi.heap.size (.slice Ao k co)) (fun b h => ⟨h.1, Nat.lt_of_lt_of_le h.2.1 hb.size, h.2.2⟩)
      have hown0 := HROW.out.own
      have hw1lt : w.heap.size + 1 < wo.heap.size := (HPB.out.at_ 1 rfl).lt
      have hfs := HRW.out.fs (S' := fun b => w1.heap.size ≤ b ∧ b < wi.heap.size) (fun b h => ⟨h.1, h.2.1⟩) (fun g hg => ⟨Nat.le_of_lt (HRW.out.own g hg).1, (HRW.out.own g hg).2⟩)
      have hbx := bw_new (Below.refl wi.heap.size wi) (.cells (fcL 3 0 Ap np cp).toArray 53)
      have hft : FsR (wi.alloc (.cells (fcL 3 0 Ap np cp).toArray 53)) (SoB w.heap.size w.heap.size (w.heap.size + 1) (wi.alloc (.cells (fcL 3 0 Ap np cp).toArray 53)).heap.size (.slice Ao k co)) Ap (prodT j ((a : Int), (b : Int))).l :=
       (hfs.keep fun b h => hbx.block b h.2).mono fun b h => ⟨by have h1 := h.1; have h2 := HW1.out; omega, Nat.lt_of_lt_of_le h.2 hbx.size, (fun e => by have h1 := (hown0 b e.symm).2; have h2 := h.1; have h3 := HW1.out; omega), by have h1 := h.1; have h2 := HW1.out; omega, by have h1 := h.1; have h2 := HW1.out; omega⟩
      have hnpl : (prodT j ((a : Int), (b : Int))).l.length = np := HNP.out.symm
      have HFT := Lib.hid (And.intro hft (And.intro hnpl (show (prodT j ((a : Int), (b : Int))).l.length ≤ cp by rw [hnpl]; exact HRW.out.cap.2)))
      obtain ⟨As, cs, hown, hnl, hks⟩ := hro
      have HOW := Lib.hid hown
      have HKS := Lib.hid (And.intro hnl hks)
      have HPO := Lib.hid hpo
      have q0 : wi.cell? ⟨w1.heap.size, 0, none⟩ = some (.int .i64 3) := (HP2.out.at_ 1 rfl).cell 0
      have q1 : wi.cell? ⟨w1.heap.size, 1, none⟩ = some (.int .i64 0) := (HP2.out.at_ 1 rfl).cell 1
      have q2 : wi.cell? ⟨w1.heap.size, 2, none⟩ = some (.slice Ap np cp) := (HP2.out.at_ 1 rfl).cell 2
      have q3 : wi.cell? ⟨w.heap.size + 1, 2, none⟩ = some (.slice Ao k co) := (hpo.at_ 1 rfl).cell 2
      have f3 : wi.frozen? ⟨w.heap.size + 1, 2, none⟩ = false := (hpo.at_ 1 rfl).frozen 2
      have hwil : w.heap.size + 1 < wi.heap.size := (hpo.at_ 1 rfl).lt
      have HWIL := Lib.hid hwil
      have hkk : k ≤ 1000000 := by have := HLT.out; omega
      clear hb hpo hown0 hw1lt hfs hbx hft hnpl hown hnl hks hjl hj
      go_wp2_with (at_builtin; refine wpList_append_lies _ rfl _ _ 51 rfl (w.heap.size + 2) 53 i0 (.agg #[.int .i64 0, .int .i64 0, .slice none 0 0]) 3 40 Tryz.underlying51 HI0.out HZ0.out HZ1.out HZ2.out rfl (by decide) _ _ _ rfl (own_blI HOW.out (bw_new (Below.refl _ _) (.cells (fcL 3 0 Ap np cp).toArray 53))) ⟨wi.heap.size, 0, none⟩ 1 1 (fcL 3 0 Ap np cp) rfl rfl (World.news_of_block (cs := (fcL 3 0 Ap np cp).toArray) (t := 53) (fr := (0, 0)) (heap_alloc_new wi _)) (by simp [Value.oneCell']) (by decide) (by unfold maxLen; omega) (by omega) (by simp; omega) _ rfl ?_)
      intro g4 c4 w4 hown4 hgrow4 hor4 hlt4
      have hst := row_step HPO.out (show w.heap.size < w.heap.size + 2 by omega) (show w.heap.size + 1 < w.heap.size + 2 by omega) (show w.heap.size ≤ w.heap.size + 2 by omega) (.inr rfl) (bw_new (Below.refl _ _) (.cells (fcL 3 0 Ap np cp).toArray 53)) HOW.out HKS.out.1 HKS.out.2 (t := prodT j ((a : Int), (b : Int))) (At := Ap) (ct := cp) HFT.out.1 HFT.out.2.2 (by rw [HFT.out.2.1, List.map_take]; exact hown4) hgrow4 (by rw [World.size_alloc]; exact hor4)
      have HST := Lib.hid hst
      have q3' : w4.cell? ⟨w.heap.size + 1, 2, none⟩ = some (.slice Ao k co) := (row_cell hgrow4 (bw_new (Below.refl _ _) (.cells (fcL 3 0 Ap np cp).toArray 53)) hwil HOW.out (by omega)).trans q3
      have f3' : w4.frozen? ⟨w.heap.size + 1, 2, none⟩ = false := (row_frz hgrow4 (bw_new (Below.refl _ _) (.cells (fcL 3 0 Ap np cp).toArray 53)) hwil HOW.out (by omega)).trans f3
      clear hown4 hgrow4 hor4 hlt4 hst
      go_wp2_with fail
      go_roundw
      case rel => exact ⟨k + 1, some ⟨g4, 0, none⟩, c4, by have := HLT.out; have := HM.out.1; omega, by rw [HK2.out]; rfl, (fun i hi => by
       rcases Nat.lt_succ_iff_lt_or_eq.1 hi with h | rfl
       ·exact HRG.out i h
       ·rw [← HZK.out]; exact HRR.out), by rw [HTK.out, List.map_append]; exact HST.out.1, HST.out.2⟩
      case measure => have := HLT.out; have := HK2.out; simp only [intOf]; omega
  ·obtain rfl : k = m := by have := HM.out.1; omega
   have hkn : ¬ (k : Int) < (k : Int) := by omega
   have HE := Lib.hid (show fmE n L = 0 by
    unfold fmE
    rw [if_neg (by omega), Int.toNat_natCast, if_pos]
    rw [List.all_eq_true]
    intro x hx
    obtain ⟨i, hi, rfl⟩ := List.getElem_of_mem hx
    have := HRG.out i (by rw [HM.out.1]; exact hi)
    rwa [List.getD_eq_getElem?_getD, List.getElem?_eq_getElem hi] at this)
   have hrow := HROW.out
   rw [List.take_of_length_le (by rw [HM.out.1]; exact Nat.le_refl _)] at hrow
   have HRO := Lib.hid hrow
   have b0 := HPB.out.at_ 0 rfl
   have b1 := HPB.out.at_ 1 rfl
   have e0 := b0.cell 0
   have e1 := b0.cell 1
   have e2 := b0.cell 2
   have f0 := b0.frozen 0
   have f1 := b0.frozen 1
   have f2 := b0.frozen 2
   have q0 := b1.cell 0
   have q1 := b1.cell 1
   have q2 := b1.cell 2
   simp only [List.getElem?_cons_zero, List.getElem?_cons_succ] at e0 e1 e2 q0 q1 q2
   have hpf := HPB.out.put3 0 rfl (.int .i64 4) (.int .i64 0) (.slice Ao k co)
   have HPF := Lib.hid hpf
   clear hlt hk hrow b0 b1 hpf
   go_wp2_with fail
   have bF := HPF.out.at_ 0 rfl
   have r0 := bF.cell 0
   have r1 := bF.cell 1
   have r2 := bF.cell 2
   simp only [List.getElem?_cons_zero, List.getElem?_cons_succ] at r0 r1 r2
   have hfin : FsR (((wo.setCell ⟨w.heap.size, 0, none⟩ (.int .i64 4)).setCell ⟨w.heap.size, 1, none⟩ (.int .i64 0)).setCell ⟨w.heap.size, 2, none⟩ (.slice Ao k co)) (fun b => w.heap.size ≤ b ∧ b < (((wo.setCell ⟨w.heap.size, 0, none⟩ (.int .i64 4)).setCell ⟨w.heap.size, 1, none⟩ (.int .i64 0)).setCell ⟨w.heap.size, 2, none⟩ (.slice Ao k co)).heap.size) Ao (L.map (prodT n)) := by
    have h1 := HRO.out.fs (S' := fun b => w.heap.size ≤ b ∧ b < wo.heap.size ∧ b ≠ w.heap.size) (fun b h => ⟨h.1, h.2.1, h.2.2.2.1⟩) (fun g hg => ⟨by have := (HRO.out.own g hg).1; omega, (HRO.out.own g hg).2, by have := (HRO.out.own g hg).1; omega⟩)
    have hc := ((((Chs.refl w.heap.size wo).set 0 (.int .i64 4)).set 1 (.int .i64 0)).set 2 (.slice Ao k co))
    exact (h1.keep fun b h => hc.block b h.2.1 h.2.2).mono fun b h => ⟨h.1, Nat.lt_of_lt_of_le h.2.1 hc.size⟩
   exact bodyPost_ret (v := .tuple #[.agg #[.int .i64 4, .int .i64 0, .slice Ao k co], .int .i64 0]) (by simp [results, Tryz.results28, go_sem, r0, r1, r2]) rfl (.inr ⟨HE.out, Ao, co, by rw [HM.out.1], by rw [← HM.out.1]; exact HRO.out.cap.2, by rw [Int.toNat_natCast]; exact hfin, HPF.out.below⟩)
def PsR (w W : World) (T : List Value) (X : List (Nat × Nat)) (u : Value) : Prop :=
 ∃ (A' : Option Addr) (m cp : Nat), u = .slice A' m cp ∧ m = X.length ∧ W.ownsRow (w.heap.size + 1) 37 2 (.slice A' m cp) m (X.flatMap cbL) ∧ Hp w [(w.heap.size, 26, T)] W
abbrev zP (X : List (Nat × Nat)) : List (Int × Int) := X.map fun x => ((x.1 : Int), (x.2 : Int))
def TmPost (n : Nat) (P : List (Nat × Nat)) (w : World) (e : Ending) (w' : World) : Prop :=
 ∃ (A' : Option Addr) (cp : Nat), e = .returned (.agg #[.int .i64 4, .int .i64 0, .slice A' P.length cp]) ∧ FsR w' (fun b => w.heap.size ≤ b ∧ b < w'.heap.size) A' ((zP P).map (prodT n)) ∧ Below w.heap.size w w'
def ToRel (w : World) (n : Nat) (P : List (Nat × Nat)) (x : Value) (W : World) : Prop :=
 ∃ (k : Nat) (Ao : Option Addr) (co : Nat), k ≤ P.length ∧ x = .int .i64 (k : Int) ∧
  RowF W (w.heap.size + 2) (SoB w.heap.size w.heap.size (w.heap.size + 1) W.heap.size (.slice Ao k co)) Ao k co (((zP P).take k).map (prodT n)) ∧ Hp w [(w.heap.size, 53, fzL), (w.heap.size + 1, 53, fcL 4 0 Ao k co)] W
def TiRel (w wo : World) (Ao : Option Addr) (k co a b n : Nat) (x : Value) (W : World) : Prop :=
 ∃ (j : Nat) (Ap : Option Addr) (np cp : Nat), j ≤ n ∧ x = .int .i64 (j : Int) ∧ np = (litsT a b j).length ∧
  RowF W (wo.heap.size + 1) (SoB wo.heap.size wo.heap.size wo.heap.size W.heap.size (.slice Ap np cp)) Ap np cp (litsT a b j) ∧ Hp w [(w.heap.size + 1, 53, fcL 4 0 Ao k co), (wo.heap.size, 53, fcL 3 0 Ap np cp)] W ∧ Below wo.heap.size wo W
theorem trR_of_own {W : World} {base n c : Nat} {A : Option Addr} {l : List Fm} {As : Nat → Option Addr} {cs : Nat → Nat} {S : Nat → Prop} (h : W.ownsRow base 69 3 (.slice A n c) n (fcR l As cs n)) (hn : n = l.length) (hS : ∀ g, A = some ⟨g, 0, none⟩ → S g) (hk : ∀ i (h : i < l.length), FsR W S (As i) (l[i]).l ∧ (l[i]).l.length ≤ cs i) : FsR W S A l := by
 rcases h.2 with ⟨hv, h0⟩ | ⟨g, cap, cur, hv, hb, hg, hnc, hmx, hs, ht⟩
 ·have : l = [] := List.length_eq_zero_iff.1 (by omega)
  subst this
  exact .nil A
 ·injection hv with e1 e2 e3
  subst e1
  refine .mk g 0 l As cs (hS g rfl) (fun i hi => ?_) (fun i hi => (hk i hi).1)
  have hgd : l.getD i default = l[i] := by rw [List.getD_eq_getElem?_getD, List.getElem?_eq_getElem hi]; rfl
  have hcell : ∀ j, j < 3 → W.cell? ⟨g, 0 + i * 3 + j, none⟩ = (fcL (l[i]).k (l[i]).a (As i) (l[i]).l.length (cs i))[j]? := fun j hj => by
   have h2 : (cur.toList.take (n * 3))[i * 3 + j]? = (fcR l As cs n)[i * 3 + j]? := by rw [ht]
   rw [List.getElem?_take, if_pos (by omega), fcR_get l As cs n i j (by omega) hj, hgd] at h2
   rw [cell_of_row W g _ cur _ (0, 0) hg, Nat.zero_add, ← Array.getElem?_toList, h2]
  exact ⟨hcell 0 (by decide), hcell 1 (by decide), hcell 2 (by decide), (hk i hi).2⟩
theorem infoTr : (Tryz.prog.info? 69).map (fun i => (i.zero, i.size, i.bytes)) = some (some (.agg #[.int .i64 0, .int .i64 0, .slice none 0 0]), 3, 40) := by kernel_rfl
def RowT (W : World) (base : Nat) (S : Nat → Prop) (A : Option Addr) (n c : Nat) (l : List Fm) : Prop :=
 ∃ (As : Nat → Option Addr) (cs : Nat → Nat), W.ownsRow base 69 3 (.slice A n c) n (fcR l As cs n) ∧ n = l.length ∧ ∀ i (h : i < l.length), FsR W S (As i) (l[i]).l ∧ (l[i]).l.length ≤ cs i
theorem RowT.nil (W : World) (base : Nat) (S : Nat → Prop) : RowT W base S none 0 0 [] :=
 ⟨fun _ => none, fun _ => 0, World.ownsRow_nil _ _ _ _, rfl, fun i h => absurd h (by simp)⟩
theorem RowT.mono {W : World} {base n c : Nat} {S S' : Nat → Prop} {A : Option Addr} {l : List Fm} (h : RowT W base S A n c l) (hS : ∀ b, S b → S' b) : RowT W base S' A n c l := by
 obtain ⟨As, cs, h1, h2, h3⟩ := h
 exact ⟨As, cs, h1, h2, fun i hi => ⟨(h3 i hi).1.mono hS, (h3 i hi).2⟩⟩
theorem RowT.set {W : World} {base n c g o : Nat} {u : Value} {S : Nat → Prop} {A : Option Addr} {l : List Fm} (h : RowT W base S A n c l) (hS : ∀ b, S b → b ≠ g) (hg : some g ≠ (Value.slice A n c).ownBlock) : RowT (W.setCell ⟨g, o, none⟩ u) base S A n c l := by
 obtain ⟨As, cs, h1, h2, h3⟩ := h
 refine ⟨As, cs, ?_, h2, fun i hi => ⟨(h3 i hi).1.keep fun b hs => Below.heap_setCell W ⟨g, o, none⟩ u b (hS b hs), (h3 i hi).2⟩⟩
 refine ⟨h1.1, ?_⟩
 rcases h1.2 with h0 | ⟨g', cap, cur, hv, hbs, hh, hr⟩
 ·exact .inl h0
 ·refine .inr ⟨g', cap, cur, hv, hbs, ?_, hr⟩
  have hne : g' ≠ g := fun e => hg (by rw [hv, e]; rfl)
  exact (Below.heap_setCell W ⟨g, o, none⟩ u g' hne).trans hh
theorem RowT.snoc {W w' : World} {base n c g cap : Nat} {S : Nat → Prop} {A At : Option Addr} {ct : Nat} {l : List Fm} {As : Nat → Option Addr} {cs : Nat → Nat} (h1 : W.ownsRow base 69 3 (.slice A n c) n (fcR l As cs n)) (h2 : n = l.length) (h3 : ∀ i (h : i < l.length), FsR W S (As i) (l[i]).l ∧ (l[i]).l.length ≤ cs i)
  {t : Fm} (ht : FsR W S At t.l) (hct : t.l.length ≤ ct) (hown : w'.ownsRow base 69 3 (.slice (some ⟨g, 0, none⟩) (n + 1) cap) (n + 1) (fcR l As cs n ++ fcL t.k t.a At t.l.length ct)) (hg : W.grownBy w' (Value.slice A n c).ownBlock) (hS : ∀ b, S b → b < W.heap.size ∧ some b ≠ (Value.slice A n c).ownBlock) :
  RowT w' base S (some ⟨g, 0, none⟩) (n + 1) cap (l ++ [t]) := by
 refine ⟨updF As n At, updF cs n ct, by rw [fcR_snoc l As cs n h2 t At ct]; exact hown, by rw [List.length_append, h2]; rfl, fun i hi => ?_⟩
 have hkeep : ∀ b, S b → w'.heap[b]? = W.heap[b]? := fun b hb => hg.block b (hS b hb).1 (hS b hb).2
 rw [List.length_append, List.length_singleton] at hi
 by_cases e : i = n
 ·have e1 : (l ++ [t])[i]'(by rw [List.length_append, List.length_singleton]; exact hi) = t := by
   rw [List.getElem_append_right (by omega)]; simp
  have e2 : updF As n At i = At := if_pos e
  have e3 : updF cs n ct i = ct := if_pos e
  rw [e1, e2, e3]
  exact ⟨ht.keep hkeep, hct⟩
 ·have e1 : (l ++ [t])[i]'(by rw [List.length_append, List.length_singleton]; exact hi) = l[i]'(by omega) := List.getElem_append_left (by omega)
  have e2 : updF As n At i = As i := if_neg e
  have e3 : updF cs n ct i = cs i := if_neg e
  rw [e1, e2, e3]
  exact ⟨(h3 i (by omega)).1.keep hkeep, (h3 i (by omega)).2⟩
theorem RowT.fs {W : World} {base n c : Nat} {S S' : Nat → Prop} {A : Option Addr} {l : List Fm} (h : RowT W base S A n c l) (hS : ∀ b, S b → S' b) (hg : ∀ g, (Value.slice A n c).ownBlock = some g → S' g) : FsR W S' A l := by
 obtain ⟨As, cs, h1, h2, h3⟩ := h
 exact trR_of_own h1 h2 (fun g e => hg g (by rw [e]; rfl)) fun i hi => ⟨(h3 i hi).1.mono hS, (h3 i hi).2⟩
theorem RowT.cap {W : World} {base n c : Nat} {S : Nat → Prop} {A : Option Addr} {l : List Fm} (h : RowT W base S A n c l) : n = l.length ∧ n ≤ c := by
 obtain ⟨As, cs, h1, h2, h3⟩ := h
 exact ⟨h2, own_cap h1⟩
theorem RowT.own {W : World} {base n c : Nat} {S : Nat → Prop} {A : Option Addr} {l : List Fm} (h : RowT W base S A n c l) : ∀ g, (Value.slice A n c).ownBlock = some g → base ≤ g ∧ g < W.heap.size := fun g hg => by
 obtain ⟨As, cs, h1, -, -⟩ := h
 exact h1.lt g hg
theorem rowT_step {w0 wi Wb w4 : World} {base B0 g1 g2 gb n c g4 c4 j : Nat} {kk ka : Int} {A At : Option Addr} {ct : Nat} {l : List Fm} {t : Fm} {Ls : List (Nat × TypeId × List Value)} {As : Nat → Option Addr} {cs : Nat → Nat}
  (hp : Hp w0 Ls wi) (hj : Ls[j]? = some (gb, 69, fcL kk ka A n c)) (hL : ∀ p ∈ Ls, p.1 < base) (hw0 : w0.heap.size ≤ base) (hg12 : gb = g1 ∨ gb = g2)
  (hb : Below wi.heap.size wi Wb) (hown : wi.ownsRow base 69 3 (.slice A n c) n (fcR l As cs n)) (hn : n = l.length)
  (hk : ∀ i (h : i < l.length), FsR wi (SoB B0 g1 g2 wi.heap.size (.slice A n c)) (As i) (l[i]).l ∧ (l[i]).l.length ≤ cs i)
  (ht : FsR Wb (SoB B0 g1 g2 Wb.heap.size (.slice A n c)) At t.l) (hct : t.l.length ≤ ct)
  (hown4 : w4.ownsRow base 69 3 (.slice (some ⟨g4, 0, none⟩) (n + 1) c4) (n + 1) (fcR l As cs n ++ fcL t.k t.a At t.l.length ct)) (hg : Wb.grownBy w4 (Value.slice A n c).ownBlock) (hor : (Value.slice A n c).ownBlock = some g4 ∨ g4 = Wb.heap.size) :
  RowT (w4.setCell ⟨gb, 2, none⟩ (.slice (some ⟨g4, 0, none⟩) (n + 1) c4)) base (SoB B0 g1 g2 (w4.setCell ⟨gb, 2, none⟩ (.slice (some ⟨g4, 0, none⟩) (n + 1) c4)).heap.size (.slice (some ⟨g4, 0, none⟩) (n + 1) c4)) (some ⟨g4, 0, none⟩) (n + 1) c4 (l ++ [t]) ∧
   Hp w0 (Ls.set j (gb, 69, fcL kk ka (some ⟨g4, 0, none⟩) (n + 1) c4)) (w4.setCell ⟨gb, 2, none⟩ (.slice (some ⟨g4, 0, none⟩) (n + 1) c4)) := by
 have hgb : gb < base := hL _ (List.mem_of_getElem? hj)
 have hown' := own_blI hown hb
 have hge : base ≤ g4 := (hown4.lt g4 rfl).1
 have hrow := RowT.snoc hown' hn (S := SoB B0 g1 g2 Wb.heap.size (.slice A n c)) (fun i hi => ⟨((hk i hi).1.keep fun b hs => hb.block b hs.2.1).mono fun b hs => ⟨hs.1, Nat.lt_of_lt_of_le hs.2.1 hb.size, hs.2.2⟩, (hk i hi).2⟩) ht hct hown4 hg (fun b hs => ⟨hs.2.1, hs.2.2.1⟩)
 have hsz : Wb.heap.size ≤ w4.heap.size := hg.size
 constructor
 ·refine (hrow.set (fun b hs => ?_) (fun e => ?_)).mono fun b hs => ⟨hs.1, ?_, ?_, hs.2.2.2⟩
  ·rcases hg12 with e | e <;> rw [e]
   ·exact hs.2.2.2.1
   ·exact hs.2.2.2.2
  ·have e' : gb = g4 := by simpa [Value.ownBlock] using e
   omega
  ·have : (w4.setCell ⟨gb, 2, none⟩ (.slice (some ⟨g4, 0, none⟩) (n + 1) c4)).heap.size = w4.heap.size := by simp
   rw [this]; exact Nat.lt_of_lt_of_le hs.2.1 hsz
  ·intro e
   have e' : b = g4 := by simpa [Value.ownBlock] using e
   rcases hor with h | h
   ·exact hs.2.2.1 (by rw [h, e'])
   ·have := hs.2.1
    omega
 ·have h1 := (hp.step hb).grwI hg (fun q hq => ⟨Nat.le_trans hw0 (hown'.lt q hq).1, fun p hp' e => by
   have h2 := (hown'.lt q hq).1
   have h3 := hL p hp'
   omega⟩)
  exact h1.put j hj 2 (.slice (some ⟨g4, 0, none⟩) (n + 1) c4)
end Go.Proofs.YtaegjpancbmppaaGreatDoor
