/- Part 27 of 28 of the proof of the law: contracts of the functions that it reaches, and plain facts. Conditions: those that each contract names. -/
import Derived.Test.YtaegjpancbmppaaGreatDoorAptB26
import Derived.Test.YtaegjpancbmppaaGreatDoorAptB17
import Derived.Test.YtaegjpancbmppaaGreatDoorAptB18
set_option linter.unusedVariables false
set_option linter.unusedSimpArgs false
namespace Go.Proofs.YtaegjpancbmppaaGreatDoor
open Go.RowKit
theorem apW_len (g : List Nat → Bool) (l : List Nat) (hl : l.length ≤ 256) : ∀ m, (apW g l m).length ≤ 256
 | 0 => Nat.zero_le _
 | m + 1 => by
  have ih := apW_len g l hl m
  have h2 := (rowsM_sub l m).length_le
  rw [apW]
  split
  ·omega
  ·exact ih
set_option maxRecDepth 1000000 in
set_option maxHeartbeats 8000000 in
theorem lapt_any (a on fr : Nat) (V : World) (ha : a < 256) (h1 : on < 65536) (h2 : fr < 65536) :
  Calls Tryz.prog 4 #[.int .u8 (a : Int), .int .u16 (on : Int), .int .u16 (fr : Int)] V (LwPost V) := by
 have HK := Lib.hid (iknown_any V)
 obtain ⟨q, hq⟩ : ∃ q, q = a % 5 := ⟨_, rfl⟩
 have hMk := fun X => lMake_any a on fr X ha h1 h2
 unfold MkPost at hMk
 rw [← hq] at hMk
 have hq4 : q ≤ 4 := by omega
 obtain ⟨no, hno⟩ : ∃ x, x = mkOn on (2 ^ q) := ⟨_, rfl⟩
 obtain ⟨nf, hnf⟩ : ∃ x, x = mkFr on fr (2 ^ q) := ⟨_, rfl⟩
 rw [← hno, ← hnf] at hMk
 have HMF := Lib.hid (show MkF q no nf by rw [hno, hnf]; exact mkF_of on fr q)
 have HMK := Lib.hid hMk
 clear hMk hno hnf ha h1 h2 hq
 go_enter Tryz.func4, Tryz.ntmps4
 go_wp2_with fail
 refine HK.out.mono ?_
 rintro e W0 ⟨rfl, hb⟩
 have HB0 := Lib.hid hb
 clear hb HK
 go_wp2_with fail
 refine (HMK.out _).mono ?_
 rintro e W1 ⟨A, B, c, d, rfl, hc, hc9, hA, hB, hT, hb⟩
 have HT := Lib.hid hT
 have HB1 := Lib.hid (HB0.out.trans (hb.mono HB0.out.size))
 have hm1 := (Hp.start W1).new 26 [.int .i64 (q : Int), .slice A no.length c, .slice B nf.length d]
 simp only [List.nil_append] at hm1
 have HM1 := Lib.hid hm1
 have hsm := sml_mk HMF.out (by omega)
 obtain ⟨P, hP⟩ : ∃ P, P = tPr q (zR no) (zR nf) := ⟨_, rfl⟩
 obtain ⟨R, hR⟩ : ∃ R, R = apL q (mayM (zR no) (zR nf)) no := ⟨_, rfl⟩
 have hp1 := fun X (h : Below W1.heap.size W1 X) => iApart_ok A B c d no.length nf.length q (zR no) (zR nf) X (HT.out.below h) hsm hc hc9
 have hp3 := fun X (h : Below W1.heap.size W1 X) => lprimes_any A B c d no.length nf.length q (zR no) (zR nf) X (HT.out.below h) zR_pos zR_pos hq4
 rw [← hP] at hp3
 rw [zR_on, ← hR] at hp1
 obtain ⟨m, hm⟩ : ∃ m, m = P.length := ⟨_, rfl⟩
 obtain ⟨k, hk⟩ : ∃ k, k = R.length := ⟨_, rfl⟩
 obtain ⟨n, hn⟩ : ∃ n, n = no.length := ⟨_, rfl⟩
 rw [← hk] at hp1
 rw [← hm] at hp3
 have HP1 := Lib.hid hp1
 have HP3 := Lib.hid hp3
 have HPE := Lib.hid (And.intro hP (And.intro hm (And.intro hR (And.intro hk hn))))
 clear hc hc9 hA hB hT hb hm1 hsm hP hp1 hp3 hm hR hk HMK
 rw [← hn] at HP1 HP3 HM1
 rw [← hn]
 clear hn
 by_cases h8 : 8 < n
 ·have h8z : (8 : Int) < (n : Int) := by omega
  go_wp2_with fail
  exact bodyPost_ret (v := .bool true) (by simp [results, Tryz.results4, go_sem]) rfl ⟨rfl, HB1.out.trans (HM1.out.below.mono HB1.out.size)⟩
 have h8z : ¬ (8 : Int) < (n : Int) := by omega
 go_wp2_with fail
 refine (HP1.out _ HM1.out.below).mono ?_
 rintro e W2 ⟨A2, c2, rfl, ho2, hb2⟩
 have HO2 := Lib.hid ho2
 have HM2 := Lib.hid (HM1.out.step hb2)
 have HS1 := Lib.hid HM1.out.below.size
 clear ho2 hb2
 have t0 : W2.cell? ⟨W1.heap.size, 0, none⟩ = some (.int .i64 (q : Int)) := (HM2.out.at_ 0 rfl).cell 0
 have t1 : W2.cell? ⟨W1.heap.size, 1, none⟩ = some (.slice A n c) := (HM2.out.at_ 0 rfl).cell 1
 have t2 : W2.cell? ⟨W1.heap.size, 2, none⟩ = some (.slice B nf.length d) := (HM2.out.at_ 0 rfl).cell 2
 go_wp2_with fail
 refine (HP3.out _ HM2.out.below).mono ?_
 rintro e W4 ⟨A4, c4, rfl, ho4, hb4⟩
 have HO4 := Lib.hid ho4
 have HO24 := Lib.hid ((HO2.out.below hb4).more hb4.size)
 have HM4 := Lib.hid (HM2.out.step hb4)
 clear ho4 hb4 t0 t1 t2
 have HC4 := Lib.hid (own_cq HO4.out HPE.out.2.1)
 have HTW := Lib.hid (show ∀ X, Below W4.heap.size W4 X → X.cell? ⟨W1.heap.size, 1, none⟩ = some (.slice A n c) from fun X h => ((HM4.out.step h).at_ 0 rfl).cell 1)
 have HRW := Lib.hid (show ∀ X, Below W4.heap.size W4 X → Rd iz X X.heap.size A (zR no) from fun X h => (HT.out.below (HM4.out.step h).below).on)
 have HCW := Lib.hid (show ∀ X, Below W4.heap.size W4 X → CqRd X X.heap.size A4 (zP P) from fun X h => HC4.out.step h)
 have hm256 : m ≤ 65536 := by rw [HPE.out.2.1, HPE.out.1]; exact tPr_len q (zR no) (zR nf) (by omega)
 have HPB := Lib.hid (show ∀ x ∈ P, x.1 < 256 ∧ x.2 < 256 from fun x hx => by
  rw [HPE.out.1] at hx
  exact tPr_bd (by omega) hx)
 have HNB := Lib.hid (show ∀ r ∈ no, r < 256 from fun r hr => Nat.lt_of_lt_of_le (HMF.out.on r hr) (pow_le8 (by omega)))
 obtain ⟨N, hN⟩ : ∃ N, N = 2 ^ n := ⟨_, rfl⟩
 have hN8 : N ≤ 256 := by rw [hN]; exact pow_le8 (by omega)
 have hsh : wrap64 (2 ^ n) = (N : Int) := by
  have e : ((2 : Int) ^ n) = (N : Int) := by rw [hN, Int.natCast_pow]; rfl
  rw [e]; unfold wrap64; omega
 have HSH := Lib.hid hsh
 have HNN := Lib.hid hN
 have hwn : IntKind.u64.wrap (n : Int) = (n : Int) := IntWalk.u64_in _ ⟨by omega, by omega⟩
 have hn64 : (n : Int) < 64 := by omega
 have hn8 : n ≤ 8 := by omega
 obtain ⟨i0, hi0, hz0, hz1, hz2⟩ := info_parts infoIntI
 have HI0 := Lib.hid hi0
 have HZ0 := Lib.hid hz0
 have HZ1 := Lib.hid hz1
 have HZ2 := Lib.hid hz2
 clear hi0 hz0 hz1 hz2 hN hsh h8
 have hdd : decide ((8 : Int) < (n : Int)) = false := decide_eq_false (by omega)
 go_wp2_with fail
 clear hdd h8z
 go_loopw [11, 12] (fun u x wr => ∃ (mm : Nat) (Aw : Option Addr) (nw cw : Nat), mm ≤ N ∧ x = .int .i64 (mm : Int) ∧ u = .slice Aw nw cw ∧ nw = (apW (apartB P) no mm).length ∧ Rd iz wr wr.heap.size Aw (zR (apW (apartB P) no mm)) ∧ Below W4.heap.size W4 wr) (fun _ x _ => N - (intOf x).toNat)
 case atStart => exact ⟨0, none, 0, 0, Nat.zero_le _, rfl, rfl, rfl, Rd.nil, Below.refl _ _⟩
 case round =>
  obtain ⟨wo, rfl⟩ : ∃ W, W = wr := ⟨_, rfl⟩
  obtain ⟨mm, Aw, nw, cw, hmm, rfl, rfl, hnw, hrd, hb⟩ := hrel
  have HNW := Lib.hid hnw
  have HRD := Lib.hid hrd
  have HBO := Lib.hid hb
  have t1 := HTW.out wo hb
  have hsh := HSH.out
  clear hrd hb hnw
  by_cases hlt : mm < N
  ·have hmz : (mm : Int) < (N : Int) := by omega
   have HMM := Lib.hid hlt
   obtain ⟨m2, hm2⟩ : ∃ z : Int, z = (mm : Int) + 1 := ⟨_, rfl⟩
   have hwm : IntKind.i64.wrap ((mm : Int) + 1) = m2 := by rw [hm2]; exact IntWalk.i64_in _ (by omega)
   have HM2' := Lib.hid hm2
   have HST := Lib.hid (show apW (apartB P) no (mm + 1) = if (apW (apartB P) no mm).length ≤ (rowsM no mm).length ∧ apartB P (rowsM no mm) = true then rowsM no mm else apW (apartB P) no mm from rfl)
   clear hm2 hlt hmm
   go_wp2_with fail
   clear hsh
   go_loopw [13, 14] (fun u x wx => ∃ (i : Nat) (Ar : Option Addr) (nr cr : Nat), i ≤ n ∧ x = .int .i64 (i : Int) ∧ u = .slice Ar nr cr ∧ nr = (rwK no mm i).length ∧ wx.ownsRow wo.heap.size 3 1 (.slice Ar nr cr) nr ((rwK no mm i).map nv) ∧ Below wo.heap.size wo wx) (fun _ x _ => n - (intOf x).toNat)
   case atStart => exact ⟨0, none, 0, 0, Nat.zero_le _, rfl, rfl, rfl, World.ownsRow_nil _ _ _ _, Below.refl _ _⟩
   case round =>
    obtain ⟨wi, rfl⟩ : ∃ W, W = wr := ⟨_, rfl⟩
    obtain ⟨i, Ar, nr, cr, hi, rfl, rfl, hnr, hown, hb⟩ := hrel
    have HNR := Lib.hid hnr
    have HO := Lib.hid hown
    have HBI := Lib.hid hb
    clear t1
    have t1 := HTW.out wi (HBO.out.trans (hb.mono HBO.out.size))
    have hnr2 : nr ≤ i := by rw [hnr]; exact rwK_len no mm i
    clear hown hb hnr
    by_cases hil : i < n
    ·have hiL : i < (zR no).length := by rw [List.length_map, ← HPE.out.2.2.2.2]; exact hil
     have hiN : i < no.length := by rw [← HPE.out.2.2.2.2]; exact hil
     obtain ⟨r, hr⟩ : ∃ r, r = no.getD i 0 := ⟨_, rfl⟩
     have hr' : r = no[i] := by rw [hr, List.getD_eq_getElem?_getD, List.getElem?_eq_getElem hiN]; rfl
     obtain ⟨b, off, hA2, hbb, hcc⟩ := HRW.out wi (HBO.out.trans (HBI.out.mono HBO.out.size)) (Nat.lt_of_le_of_lt (Nat.zero_le _) hiL)
     have hck := hcc i hiL
     rw [show (zR no)[i] = (r : Int) by rw [hr', List.getElem_map]; rfl] at hck
     replace hck : wi.cell? ⟨b, off + i, none⟩ = some (.int .i64 (r : Int)) := hck
     obtain ⟨sn, hsn⟩ : ∃ sn, sn = n - 1 - i := ⟨_, rfl⟩
     have hw1 : IntKind.i64.wrap ((n : Int) - 1) = ((n - 1 : Nat) : Int) := by rw [IntWalk.i64_in _ (by omega)]; omega
     obtain ⟨n1, hn1⟩ : ∃ n1 : Int, n1 = ((n - 1 : Nat) : Int) := ⟨_, rfl⟩
     rw [← hn1] at hw1
     have hw2 : IntKind.i64.wrap (n1 - (i : Int)) = (sn : Int) := by rw [IntWalk.i64_in _ (by omega)]; omega
     have hw3 : IntKind.u64.wrap (sn : Int) = (sn : Int) := IntWalk.u64_in _ ⟨by omega, by omega⟩
     have hs64 : (sn : Int) < 64 := by omega
     have hbit := bit_and1 (a := mm) (x := sn) (by have := HMM.out; omega)
     have hst := show rwK no mm (i + 1) = if mm.testBit (no.length - 1 - i) = true then rwK no mm i ++ [no.getD i 0] else rwK no mm i from rfl
     rw [← HPE.out.2.2.2.2, ← hsn, ← hr] at hst
     have HSI := Lib.hid hst
     have hiz : (i : Int) < (n : Int) := by omega
     have HIL := Lib.hid hil
     obtain ⟨i2, hi2⟩ : ∃ z : Int, z = (i : Int) + 1 := ⟨_, rfl⟩
     have hwi : IntKind.i64.wrap ((i : Int) + 1) = i2 := by rw [hi2]; exact IntWalk.i64_in _ (by omega)
     have HI2 := Lib.hid hi2
     have hwlt := HBI.out.size
     clear hst hsn hn1 hr hr' hiL hiN hil hi hi2 hcc hbb
     subst hA2
     cases htb : mm.testBit sn with
     | false =>
      rw [htb] at hbit HSI
      have hbit0 : bits .and .i64 ((mm : Int) / 2 ^ sn) 1 = 0 := hbit
      clear hbit htb
      go_wp2_with fail
      go_roundw
      case rel => exact ⟨i + 1, Ar, nr, cr, HIL.out, by rw [HI2.out]; rfl, rfl, by rw [HSI.out]; exact HNR.out, by rw [HSI.out]; exact HO.out, HBI.out⟩
      case measure => have := HIL.out; have := HI2.out; simp only [intOf]; omega
     | true =>
      rw [htb] at hbit HSI
      have hbit1 : bits .and .i64 ((mm : Int) / 2 ^ sn) 1 = 1 := hbit
      have HS2 := Lib.hid (show rwK no mm (i + 1) = rwK no mm i ++ [r] by rw [HSI.out]; rfl)
      clear hbit htb
      go_wp2_with (at_builtin; refine wpList_append_lies _ rfl _ _ 24 rfl wo.heap.size 3 i0 (.int .i64 0) 1 8 Tryz.underlying24 HI0.out HZ0.out HZ1.out HZ2.out rfl (by decide) _ _ _ rfl (own_blI HO.out (bw_new (Below.refl _ _) _)) ⟨wi.heap.size, 0, none⟩ 1 1 [.int .i64 (r : Int)] rfl rfl (World.news_of_block (cs := #[.int .i64 (r : Int)]) (t := 3) (fr := (0, 0)) (heap_alloc_new wi _)) (by simp [Value.oneCell']) (by decide) (by unfold maxLen; omega) (by omega) (by simp; omega) _ rfl ?_)
      intro g5 c5 w5 hown5 hgrow5 hor5 hlt5
      have HO5 := Lib.hid hown5
      have HB5 := Lib.hid ((bw_new HBI.out (.cells #[.int .i64 (r : Int)] 3)).grown hgrow5 (bw_new HBI.out (.cells #[.int .i64 (r : Int)] 3)).size (fun q hq => (HO.out.lt q hq).1))
      clear hown5 hgrow5 hor5 hlt5 hck t1
      go_wp2_with fail
      go_roundw
      case rel => exact ⟨i + 1, some ⟨g5, 0, none⟩, nr + 1, c5, HIL.out, by rw [HI2.out]; rfl, rfl, by rw [HS2.out, List.length_append, ← HNR.out]; rfl, by rw [HS2.out, List.map_append]; exact HO5.out, HB5.out⟩
      case measure => have := HIL.out; have := HI2.out; simp only [intOf]; omega
    ·obtain rfl : i = n := by omega
     have hiz : ¬ (i : Int) < (i : Int) := by omega
     have hful : rwK no mm i = rowsM no mm := by rw [HPE.out.2.2.2.2]; exact rwK_full no mm
     have HFU := Lib.hid hful
     have hrr := own_rd HO.out HNR.out
     rw [hful] at hrr
     have hnl : nr = (rowsM no mm).length := by rw [HNR.out, hful]
     have HRR := Lib.hid (And.intro hrr hnl)
     have HWW := Lib.hid ((HRD.out.below HBI.out).more HBI.out.size)
     have hap := lapart_any A4 Ar c4 cr m nr P (rowsM no mm) wi (HCW.out wi (HBO.out.trans (HBI.out.mono HBO.out.size))) hrr HPE.out.2.1 hnl hm256 (by omega) HPB.out (fun r hr => HNB.out r ((rowsM_sub no mm).subset hr))
     obtain ⟨g, hg⟩ : ∃ g, g = apartB P (rowsM no mm) := ⟨_, rfl⟩
     have hst := HST.out
     rw [← HNW.out, ← hnl, ← hg] at hst
     rw [← hg] at hap
     have HAP := Lib.hid hap
     have HS2 := Lib.hid hst
     clear hi hil hful hrr hnl hap hg hst
     by_cases hle : nw ≤ nr
     ·have hlz : (nw : Int) ≤ (nr : Int) := by omega
      have HLE := Lib.hid hle
      clear hle
      cases g with
      | true =>
       have HS3 := Lib.hid (show apW (apartB P) no (mm + 1) = rowsM no mm by rw [HS2.out, if_pos ⟨HLE.out, rfl⟩])
       go_wp2_with fail
       refine HAP.out.mono ?_
       rintro e w6 ⟨rfl, hb6⟩
       have HB6 := Lib.hid hb6
       clear hb6
       go_wp2_with fail
       go_roundw
       case rel => exact ⟨mm + 1, Ar, nr, cr, HMM.out, by rw [HM2'.out]; rfl, rfl, by rw [HS3.out]; exact HRR.out.2, by rw [HS3.out]; exact (HRR.out.1.below HB6.out).more HB6.out.size, HBO.out.trans ((HBI.out.trans (HB6.out.mono HBI.out.size)).mono HBO.out.size)⟩
       case measure => have := HMM.out; have := HM2'.out; simp only [intOf]; omega
      | false =>
       have HS3 := Lib.hid (show apW (apartB P) no (mm + 1) = apW (apartB P) no mm by rw [HS2.out, if_neg (fun h => by cases h.2)])
       go_wp2_with fail
       refine HAP.out.mono ?_
       rintro e w6 ⟨rfl, hb6⟩
       have HB6 := Lib.hid hb6
       clear hb6
       go_wp2_with fail
       go_roundw
       case rel => exact ⟨mm + 1, Aw, nw, cw, HMM.out, by rw [HM2'.out]; rfl, rfl, by rw [HS3.out]; exact HNW.out, by rw [HS3.out]; exact (HWW.out.below HB6.out).more HB6.out.size, HBO.out.trans ((HBI.out.trans (HB6.out.mono HBI.out.size)).mono HBO.out.size)⟩
       case measure => have := HMM.out; have := HM2'.out; simp only [intOf]; omega
     ·have hlz : ¬ (nw : Int) ≤ (nr : Int) := by omega
      have HS3 := Lib.hid (show apW (apartB P) no (mm + 1) = apW (apartB P) no mm by rw [HS2.out, if_neg (fun h => hle h.1)])
      clear hle
      go_wp2_with fail
      go_roundw
      case rel => exact ⟨mm + 1, Aw, nw, cw, HMM.out, by rw [HM2'.out]; rfl, rfl, by rw [HS3.out]; exact HNW.out, by rw [HS3.out]; exact HWW.out, HBO.out.trans (HBI.out.mono HBO.out.size)⟩
      case measure => have := HMM.out; have := HM2'.out; simp only [intOf]; omega
  ·obtain rfl : mm = N := by omega
   have hmz : ¬ (mm : Int) < (mm : Int) := by omega
   have hfin : apW (apartB P) no mm = R := by
    rw [HNN.out, HPE.out.2.2.2.2, HPE.out.1, HPE.out.2.2.1]
    unfold tPr mayM
    rw [show List.map Int.toNat (zR no) = no from zR_on no]
    exact apL_eq (by omega) no HMF.out.so HMF.out.on
   have hrw := HRD.out
   rw [hfin] at hrw
   have hnk : nw = k := by rw [HNW.out, hfin, HPE.out.2.2.2.1]
   subst hnk
   have HRW2 := Lib.hid hrw
   have HR2 := Lib.hid ((HO24.out.below HBO.out).more HBO.out.size)
   have hk8 : nw ≤ 256 := by
    rw [HNW.out]
    exact apW_len _ _ (by have := HPE.out.2.2.2.2; omega) mm
   clear hmm hlt hfin hrw
   go_wp2_with fail
   go_loopw [15] (fun x wx => ∃ j : Nat, j ≤ nw ∧ x = .int .i64 (j : Int) ∧ Below wo.heap.size wo wx) (fun x _ => nw - (intOf x).toNat)
   case atStart => exact ⟨0, Nat.zero_le _, rfl, Below.refl _ _⟩
   case round =>
    obtain ⟨wi, rfl⟩ : ∃ W, W = wr := ⟨_, rfl⟩
    obtain ⟨j, hj, rfl, hb⟩ := hrel
    have HBI := Lib.hid hb
    clear hb
    by_cases hjl : j < nw
    ·have hjR : j < R.length := by rw [← HPE.out.2.2.2.1]; exact hjl
     obtain ⟨b1, o1, e1, l1, q1⟩ := (HRW2.out.below HBI.out) (by rw [List.length_map]; omega)
     obtain ⟨b2, o2, e2, l2, q2⟩ := (HR2.out.below HBI.out) (by omega)
     subst e1 e2
     have a1 := q1 j (by rw [List.length_map]; exact hjR)
     have a2 := q2 j hjR
     rw [List.getElem_map] at a1
     obtain ⟨r, hr⟩ : ∃ r, r = R[j] := ⟨_, rfl⟩
     rw [← hr] at a1 a2
     have d1 : wi.drew.cell? ⟨b1, o1 + j, none⟩ = some (.int .i64 (r : Int)) := a1
     have d2 : wi.drew.cell? ⟨b2, o2 + j, none⟩ = some (.int .i64 (r : Int)) := a2
     have hjz : (j : Int) < (nw : Int) := by omega
     have HJ := Lib.hid hjl
     obtain ⟨j2, hj2⟩ : ∃ z : Int, z = (j : Int) + 1 := ⟨_, rfl⟩
     have hwj : IntKind.i64.wrap ((j : Int) + 1) = j2 := by rw [hj2]; exact IntWalk.i64_in _ (by omega)
     have HJ2 := Lib.hid hj2
     clear hj2 hjl hj hjR q1 q2 l1 l2 hr
     go_wp2_with fail
     go_quiet (fail)
     go_wp2_with fail
     go_roundw
     case rel => exact ⟨j + 1, HJ.out, by rw [HJ2.out]; rfl, bw_drewN HBI.out nq⟩
     case measure => have := HJ.out; have := HJ2.out; simp only [intOf]; omega
    ·obtain rfl : j = nw := by omega
     have hjz : ¬ (j : Int) < (j : Int) := by omega
     clear hj hjl
     go_wp2_with fail
     exact bodyPost_ret (v := .bool true) (by simp [results, Tryz.results4, go_sem]) rfl ⟨rfl, HB1.out.trans ((HM4.out.below.trans ((HBO.out.trans (HBI.out.mono HBO.out.size)).mono HM4.out.below.size)).mono HB1.out.size)⟩
end Go.Proofs.YtaegjpancbmppaaGreatDoor
