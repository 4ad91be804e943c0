/- Part 28 of 29 of the proof of the law: contracts of the functions that it reaches, and plain facts. Conditions: those that each contract names. -/
import Derived.Test.YtaegjpancbmppaaGreatDoorLeaB27
import Derived.Test.YtaegjpancbmppaaGreatDoorLeaB23
set_option linter.unusedVariables false
set_option linter.unusedSimpArgs false
namespace Go.Proofs.YtaegjpancbmppaaGreatDoor
open Go.RowKit
set_option maxRecDepth 1000000 in
set_option maxHeartbeats 8000000 in
theorem llea_any (a on fr : Nat) (V : World) (ha : a < 256) (h1 : on < 65536) (h2 : fr < 65536) :
  Calls Tryz.prog 3 #[.int .u8 (a : Int), .int .u16 (on : Int), .int .u16 (fr : Int)] V (LwPost V) := by
 have HK := Lib.hid (iknown_any V)
 obtain ⟨q, hq⟩ : ∃ q, q = a % 5 := ⟨_, rfl⟩
 have hMk := fun X => lMake_any a on fr X ha h1 h2
 unfold MkPost at hMk
 rw [← hq] at hMk
 have hq4 : q ≤ 4 := by omega
 obtain ⟨no, hno⟩ : ∃ x, x = mkOn on (2 ^ q) := ⟨_, rfl⟩
 obtain ⟨nf, hnf⟩ : ∃ x, x = mkFr on fr (2 ^ q) := ⟨_, rfl⟩
 rw [← hno, ← hnf] at hMk
 have HMF := Lib.hid (show MkF q no nf by rw [hno, hnf]; exact mkF_of on fr q)
 have HMK := Lib.hid hMk
 clear hMk hno hnf ha h1 h2 hq
 go_enter Tryz.func3, Tryz.ntmps3
 go_wp2_with fail
 refine HK.out.mono ?_
 rintro e W0 ⟨rfl, hb⟩
 have HB0 := Lib.hid hb
 clear hb HK
 go_wp2_with fail
 refine (HMK.out _).mono ?_
 rintro e W1 ⟨A, B, c, d, rfl, hc, hc9, hA, hB, hT, hb⟩
 have HT := Lib.hid hT
 have HB1 := Lib.hid (HB0.out.trans (hb.mono HB0.out.size))
 have hm1 := (Hp.start W1).new 26 [.int .i64 (q : Int), .slice A no.length c, .slice B nf.length d]
 simp only [List.nil_append] at hm1
 have HM1 := Lib.hid hm1
 have hsm := sml_mk HMF.out (by omega)
 obtain ⟨P, hP⟩ : ∃ P, P = tPr q (zR no) (zR nf) := ⟨_, rfl⟩
 obtain ⟨R, hR⟩ : ∃ R, R = lsL q (mayM (zR no) (zR nf)) no := ⟨_, rfl⟩
 have hp1 := fun X (h : Below W1.heap.size W1 X) => iLeast_ok A B c d no.length nf.length q (zR no) (zR nf) X (HT.out.below h) hsm
 have hp3 := fun X (h : Below W1.heap.size W1 X) => lprimes_any A B c d no.length nf.length q (zR no) (zR nf) X (HT.out.below h) zR_pos zR_pos hq4
 rw [← hP] at hp3
 rw [zR_on, ← hR] at hp1
 obtain ⟨m, hm⟩ : ∃ m, m = P.length := ⟨_, rfl⟩
 obtain ⟨k, hk⟩ : ∃ k, k = R.length := ⟨_, rfl⟩
 obtain ⟨n, hn⟩ : ∃ n, n = no.length := ⟨_, rfl⟩
 rw [← hk] at hp1
 rw [← hm] at hp3
 have HP1 := Lib.hid hp1
 have HP3 := Lib.hid hp3
 have HPE := Lib.hid (And.intro hP (And.intro hm (And.intro hR (And.intro hk hn))))
 clear hc hc9 hA hB hT hb hm1 hsm hP hp1 hp3 hm hR hk HMK
 rw [← hn] at HP1 HP3 HM1
 rw [← hn]
 clear hn
 by_cases h8 : 10 < n
 ·have h8z : (10 : Int) < (n : Int) := by omega
  go_wp2_with fail
  exact bodyPost_ret (v := .bool true) (by simp [results, Tryz.results3, go_sem]) rfl ⟨rfl, HB1.out.trans (HM1.out.below.mono HB1.out.size)⟩
 have h8z : ¬ (10 : Int) < (n : Int) := by omega
 go_wp2_with fail
 refine (HP1.out _ HM1.out.below).mono ?_
 rintro e W2 ⟨A2, c2, rfl, ho2, hb2⟩
 have HO2 := Lib.hid ho2
 have HM2 := Lib.hid (HM1.out.step hb2)
 have HS1 := Lib.hid HM1.out.below.size
 clear ho2 hb2
 have t0 : W2.cell? ⟨W1.heap.size, 0, none⟩ = some (.int .i64 (q : Int)) := (HM2.out.at_ 0 rfl).cell 0
 have t1 : W2.cell? ⟨W1.heap.size, 1, none⟩ = some (.slice A n c) := (HM2.out.at_ 0 rfl).cell 1
 have t2 : W2.cell? ⟨W1.heap.size, 2, none⟩ = some (.slice B nf.length d) := (HM2.out.at_ 0 rfl).cell 2
 go_wp2_with fail
 refine (HP3.out _ HM2.out.below).mono ?_
 rintro e W4 ⟨A4, c4, rfl, ho4, hb4⟩
 have HO4 := Lib.hid ho4
 have HO24 := Lib.hid (own_blI HO2.out hb4)
 have HM4 := Lib.hid (HM2.out.step hb4)
 clear ho4 hb4 t0 t1 t2
 have hmm := @run_makeMap Tryz.prog
 have hwl : W1.heap.size < W4.heap.size := (HM4.out.at_ 0 rfl).lt
 have t1 : W4.cell? ⟨W1.heap.size, 1, none⟩ = some (.slice A n c) := (HM4.out.at_ 0 rfl).cell 1
 have hdd : decide ((10 : Int) < (n : Int)) = false := decide_eq_false (by omega)
 have hn10 : n ≤ 10 := by omega
 obtain ⟨N, hN⟩ : ∃ N, N = 2 ^ n := ⟨_, rfl⟩
 have hN8 : N ≤ 1024 := by rw [hN]; exact Nat.pow_le_pow_right (n := 2) (by decide) (show n ≤ 10 by omega)
 have hN0 : 0 < N := by rw [hN]; exact Nat.two_pow_pos n
 have hsh : wrap64 (2 ^ n) = (N : Int) := by
  have e : ((2 : Int) ^ n) = (N : Int) := by rw [hN, Int.natCast_pow]; rfl
  rw [e]; unfold wrap64; omega
 have HNN := Lib.hid hN
 have hwn : IntKind.u64.wrap (n : Int) = (n : Int) := IntWalk.u64_in _ ⟨by omega, by omega⟩
 have hn64 : (n : Int) < 64 := by omega
 obtain ⟨fl, hfl⟩ : ∃ x, x = N - 1 := ⟨_, rfl⟩
 have hwf : IntKind.i64.wrap ((N : Int) - 1) = (fl : Int) := by rw [IntWalk.i64_in _ (by omega)]; omega
 have hf16 : fl < 65536 := by omega
 have HFL := Lib.hid hfl
 clear h8 hN hfl
 go_wp2_with fail
 have hb4 := bw_new (Below.refl W4.heap.size W4) (.map #[] 0)
 have HCO5 := Lib.hid (show CoAt (W4.alloc (.map #[] 0)) W4.heap.size q A A4 no P from by
  refine ⟨?_, ?_, ?_, ?_, ?_⟩
  ·exact (((HT.out.below HM4.out.below).on).below hb4).more hb4.size
  ·intro hl p e
   obtain ⟨b0, o0, e0, hl0, -⟩ := (HT.out.below HM4.out.below).on (by rw [List.length_map]; exact hl)
   rw [e0] at e
   cases e
   exact hl0
  ·exact (own_cq HO4.out HPE.out.2.1).step hb4
  ·intro hl p e
   obtain ⟨b0, o0, e0, hl0, -⟩ := (own_cq HO4.out HPE.out.2.1) (by rw [List.length_map]; exact hl)
   rw [e0] at e
   cases e
   exact hl0
  ·exact ⟨[], MapQ.new W4, fun i r => .inl rfl⟩)
 have HCS := Lib.hid (own_cq HO24.out HPE.out.2.2.2.1)
 have HFL2 := Lib.hid (show fl = 2 ^ n - 1 by rw [HFL.out, HNN.out])
 have hm256 : m ≤ 65536 := by rw [HPE.out.2.1, HPE.out.1]; exact tPr_len q (zR no) (zR nf) (by omega)
 have HPB := Lib.hid (show ∀ x ∈ P, x.1 < 256 ∧ x.2 < 256 from fun x hx => by
  rw [HPE.out.1] at hx
  exact tPr_bd (by omega) hx)
 have HNB := Lib.hid (show ∀ r ∈ no, r < 256 from fun r hr => Nat.lt_of_lt_of_le (HMF.out.on r hr) (pow_le8 (by omega)))
 have HFI := Lib.hid (show ∀ i, i ≤ m → (∀ j, j < i → (pkK q P no fl j).2 ≠ 0) → (i = m ∨ (pkK q P no fl i).2 = 0) → (pkK q P no fl i).1 = R from fun i hi hz he => by
  have h1 := pk_done (n := q) (P := P) HMF.out.on (by rw [← HPE.out.2.1]; exact hi) hz (by rw [← HPE.out.2.1]; exact he)
  rw [h1, HPE.out.2.2.1, HFL2.out, HPE.out.2.2.2.2, HPE.out.1]
  unfold tPr mayM
  rw [show List.map Int.toNat (zR no) = no from zR_on no]
  exact least_eq hq4 HMF.out.on (fun r hr => by rw [Nat.testBit_or, rowM_bit, decide_eq_true hr]; rfl) (by rw [← HPE.out.2.2.2.2]; exact hn10))
 obtain ⟨i0, hi0, hz0, hz1, hz2⟩ := info_parts infoCub
 have HI0 := Lib.hid hi0
 have HZ0 := Lib.hid hz0
 have HZ1 := Lib.hid hz1
 have HZ2 := Lib.hid hz2
 clear hi0 hz0 hz1 hz2 hsh hdd h8z hb4 hmm t1
 go_loopw [12, 13, 14] (fun y u x wr => ∃ (i : Nat) (A' : Option Addr) (no' cp : Nat), i ≤ m ∧ x = .int .i64 (i : Int) ∧ y = .int .i64 ((pkK q P no fl i).2 : Int) ∧ u = .slice A' no' cp ∧ no' = (pkK q P no fl i).1.length ∧ (∀ j, j < i → (pkK q P no fl j).2 ≠ 0) ∧ CoAt wr W4.heap.size q A A4 no P ∧ wr.ownsRow (W4.heap.size + 1) 37 2 (.slice A' no' cp) no' ((pkK q P no fl i).1.flatMap cbL) ∧ Below W4.heap.size W4 wr) (fun _ _ x _ => m - (intOf x).toNat)
 case atStart => exact ⟨0, none, 0, 0, Nat.zero_le _, rfl, rfl, rfl, rfl, (fun j h => absurd h (Nat.not_lt_zero _)), HCO5.out, World.ownsRow_nil _ _ _ _, bw_new (Below.refl _ _) _⟩
 case round =>
  obtain ⟨wo, rfl⟩ : ∃ W, W = wr := ⟨_, rfl⟩
  obtain ⟨i, A', no', cp, hi, rfl, rfl, rfl, hno', hnz, hco, hown, hch⟩ := hrel
  have HNO := Lib.hid hno'
  have HNZ := Lib.hid hnz
  have HCO := Lib.hid hco
  have HO := Lib.hid hown
  have HBW := Lib.hid hch
  have HLT := Lib.hid (show W4.heap.size < wo.heap.size by
   obtain ⟨mm, h1, _⟩ := hco.mp
   exact h1.lt)
  have hno6 : no' ≤ 65536 := by
   rw [hno']
   have := pkK_len q P no fl i
   omega
  have hrl := pkK_le q P no fl i
  have hst := show pkK q P no fl (i + 1) = (if remK (P.getD i (0, 0)) no (pkK q P no fl i).2 no.length ≠ (pkK q P no fl i).2 ∧ 100 + popc (P.getD i (0, 0)).1 + csT q P no (i + 1) (remK (P.getD i (0, 0)) no (pkK q P no fl i).2 no.length) = csT q P no i (pkK q P no fl i).2 then ((pkK q P no fl i).1 ++ [P.getD i (0, 0)], remK (P.getD i (0, 0)) no (pkK q P no fl i).2 no.length) else pkK q P no fl i) from rfl
  obtain ⟨re, hre⟩ : ∃ x, x = (pkK q P no fl i).2 := ⟨_, rfl⟩
  rw [← hre] at hrl hst
  rw [← hre]
  have HRE := Lib.hid hre
  clear hno' hnz hco hown hch hre
  have hr16 : re < 65536 := by omega
  by_cases hlt : i < m
  ·by_cases h0 : re = 0
   ·subst h0
    have hiz : (i : Int) < (m : Int) := by omega
    have hR := HFI.out i hi HNZ.out (.inr HRE.out.symm)
    --FIN1
    have hnk : no' = k := by rw [HNO.out, hR, HPE.out.2.2.2.1]
    have hoq := own_cq HO.out HNO.out
    rw [hR] at hoq
    subst hnk
    have HS1' := Lib.hid (lsame_any A2 A' c2 cp no' (zP R) wo (fun hl => by
     obtain ⟨g, o, e, hg, hcell⟩ := HCS.out hl
     exact ⟨g, o, e, Nat.lt_of_lt_of_le hg HBW.out.size, fun i hi => ⟨(HBW.out.cell (p := ⟨g, _, none⟩) hg).trans (hcell i hi).1, (HBW.out.cell (p := ⟨g, _, none⟩) hg).trans (hcell i hi).2⟩⟩) hoq (by rw [List.length_map]; exact HPE.out.2.2.2.1) (by omega))
    clear hoq hR
    go_wp2_with fail
    refine HS1'.out.mono ?_
    rintro e W5 ⟨rfl, hb5⟩
    have HB5 := Lib.hid hb5
    clear hb5
    go_wp2_with fail
    exact bodyPost_ret (v := .bool true) (by simp [results, Tryz.results3, go_sem]) rfl ⟨rfl, HB1.out.trans ((HM4.out.below.trans ((HBW.out.trans (HB5.out.mono HBW.out.size)).mono HM4.out.below.size)).mono HB1.out.size)⟩
   ·have hrz : ((re : Int) != 0) = true := by rw [bne_iff_ne]; omega
    have hiz : (i : Int) < (m : Int) := by omega
    have hiP : i < P.length := by rw [← HPE.out.2.1]; exact hlt
    have HZR := Lib.hid h0
    have HI := Lib.hid hlt
    obtain ⟨i2, hi2⟩ : ∃ z : Int, z = (i : Int) + 1 := ⟨_, rfl⟩
    have hwi : IntKind.i64.wrap ((i : Int) + 1) = i2 := by rw [hi2]; exact IntWalk.i64_in _ (by omega)
    have hi3 : ((i + 1 : Nat) : Int) = i2 := by omega
    have HI2 := Lib.hid hi2
    obtain ⟨g4, o4, hA4, hg4, hq4⟩ := (own_cq HO4.out HPE.out.2.1) (by rw [List.length_map]; exact Nat.lt_of_le_of_lt (Nat.zero_le _) hiP)
    obtain ⟨p0, p1⟩ := hq4 i (by rw [List.length_map]; exact hiP)
    rw [zP_get hiP] at p0 p1
    obtain ⟨z, hz⟩ : ∃ z, z = P.getD i (0, 0) := ⟨_, rfl⟩
    rw [← hz] at p0 p1 hst
    have hmi : z ∈ P := by rw [hz, List.getD_eq_getElem?_getD, List.getElem?_eq_getElem hiP]; exact List.getElem_mem _
    obtain ⟨za, zb⟩ := z
    have hza := (HPB.out _ hmi).1
    have HZA := Lib.hid hza
    have HXI := Lib.hid (show ∀ X, Chs W4.heap.size wo X → X.cell? ⟨g4, o4 + i * 2, none⟩ = some (.int .i64 (za : Int)) ∧ X.cell? ⟨g4, o4 + i * 2 + 1, none⟩ = some (.int .i64 (zb : Int)) from fun X h => by
     have hb := HBW.out.trans (h.below (Nat.le_refl _) HBW.out.size)
     exact ⟨(hb.cell (p := ⟨g4, o4 + i * 2, none⟩) hg4).trans p0, (hb.cell (p := ⟨g4, o4 + i * 2 + 1, none⟩) hg4).trans p1⟩)
    have HTB := Lib.hid (show ∀ X, Chs W4.heap.size wo X → Blk X W1.heap.size 26 [.int .i64 (q : Int), .slice A n c, .slice B nf.length d] from fun X h => by
     have hb := HBW.out.trans (h.below (Nat.le_refl _) HBW.out.size)
     exact (hb.block _ hwl).trans (HM4.out.at_ 0 rfl))
    have HNE := Lib.hid (show A4 = some ⟨g4, o4, none⟩ from hA4)
    have HRM := Lib.hid (fun X (h : CoAt X W4.heap.size q A A4 no P) => lrem_any A B c d n nf.length q no za zb re X h.on HPE.out.2.2.2.2 hn10 HNB.out hza hr16)
    have HCS2 := Lib.hid (fun (i' r' : Nat) (h1 : i' ≤ m) (h2 : r' < 65536) X (h : CoAt X W4.heap.size q A A4 no P) => lcost_any W4.heap.size q n m c d nf.length c4 A B A4 no P HPE.out.2.2.2.2 hn10 HPE.out.2.1 hm256 HMF.out.on HNB.out HPB.out (m - i') i' r' rfl h1 h2 X h)
    subst hA4
    have hrl2 := remK_le (za, zb) no re no.length
    obtain ⟨lf, hlf⟩ : ∃ x, x = remK (za, zb) no re no.length := ⟨_, rfl⟩
    rw [← hlf] at HRM hst hrl2
    obtain ⟨pz, hpz2⟩ : ∃ x, x = popc za := ⟨_, rfl⟩
    have hpz := popc_le 8 za hza (Nat.le_refl _)
    have HPO := Lib.hid (fun X => lones_any za X HZA.out)
    rw [← hpz2] at hpz HPO
    have HC1 := Lib.hid (HCS2.out (i + 1) lf (by omega) (by omega))
    have HC2 := Lib.hid (HCS2.out i re hi hr16)
    have hb1 := csT_bd q P no (i + 1) lf
    have hb2 := csT_bd q P no i re
    obtain ⟨c1, hc1⟩ : ∃ x, x = csT q P no (i + 1) lf := ⟨_, rfl⟩
    obtain ⟨c2', hc2⟩ : ∃ x, x = csT q P no i re := ⟨_, rfl⟩
    unfold CoPost at HC1 HC2
    rw [← hc1] at HC1 hb1
    rw [← hc2] at HC2 hb2
    dsimp only at hst p0 p1
    rw [← hpz2, ← hc1, ← hc2] at hst
    rw [hi3] at HC1
    have HST := Lib.hid hst
    clear hpz2 hc1 hc2 hst hi2 hi3 hiP hlt hi hz hmi hza hg4 hq4 hlf p0 p1 h0 HCS2 hrl
    go_wp2_with fail
    --R14
    refine wp_regionJ 8 #[false, false, false, false, false, false, false, false] (fun ll aa W => ∃ (m0 m1 m2 m3 m4 m5 m6 m7 : Bool), ll = #[m0, m1, m2, m3, m4, m5, m6, m7] ∧ aa = ({ tmps := #[Value.int IntKind.u8 (a : Int), Value.int IntKind.u16 (on : Int), Value.int IntKind.u16 (fr : Int), undef, undef, undef, Value.bool false, Value.pointer (some { block := W1.heap.size, off := 0 }), Value.slice A2 k c2, Value.int IntKind.i64 0, Value.slice (some { block := g4, off := o4 }) m c4, Value.map (some W4.heap.size), Value.int IntKind.i64 (re : Int), Value.slice A' no' cp, Value.int IntKind.i64 (i : Int), cwX m7 (Value.int .i64 (lf : Int)) (u15), Value.bool true, Value.bool false, Value.int IntKind.u8 (a : Int), Value.int IntKind.u16 (on : Int), Value.int IntKind.u16 (fr : Int), Value.agg #[Value.int IntKind.i64 (q : Int), Value.slice A n c, Value.slice B nf.length d], Value.pointer (some { block := W1.heap.size, off := 1 }), Value.slice A n c, Value.int IntKind.i64 (n : Int), Value.bool false, Value.tuple #[Value.slice A2 k c2, Value.int IntKind.i64 0], Value.agg #[Value.int IntKind.i64 (q : Int), Value.slice A n c, Value.slice B nf.length d], Value.tuple #[Value.slice A2 k c2, Value.int IntKind.i64 0], Value.slice A2 k c2, Value.int IntKind.i64 0, Value.agg #[Value.int IntKind.i64 (q : Int), Value.slice A n c, Value.slice B nf.length d], Value.slice (some { block := g4, off := o4 }) m c4, Value.map (some W4.heap.size), Value.pointer (some { block := W1.heap.size, off := 1 }), Value.slice A n c, Value.int IntKind.i64 (n : Int), Value.int IntKind.u64 (n : Int), Value.int IntKind.i64 (wrap64 (2 ^ n)), Value.int IntKind.i64 (fl : Int), Value.int IntKind.i64 (i : Int), Value.slice (some { block := g4, off := o4 }) m c4, Value.int IntKind.i64 (m : Int), Value.bool true, Value.bool true, Value.int IntKind.i64 (re : Int), Value.bool true, Value.bool true, u48, u49, cwX m0 (Value.agg #[Value.int IntKind.i64 (q : Int), Value.slice A n c, Value.slice B nf.length d]) (u50), cwX m1 (Value.slice (some { block := g4, off := o4 }) m c4) (u51), cwX m2 (Value.int IntKind.i64 (i : Int)) (u52), cwX m3 (Value.pointer (some ⟨g4, o4 + i * 2, none⟩)) (u53), cwX m4 (Value.agg #[.int .i64 (za : Int), .int .i64 (zb : Int)]) (u54), cwX m5 (Value.int IntKind.i64 (re : Int)) (u55), cwX m6 (Value.int .i64 (lf : Int)) (u56), u57, u58, u59, u60, u61, u62, u63, u64, u65, u66, u67, u68, u69, u70, u71, u72, u73, u74, u75, u76, u77, u78, u79, u80, u81, u82, u83, u84, u85, u86, u87, u88, u89, u90, u91, undef, undef, undef, undef, undef, undef, undef], defers := [] } : Act) ∧ (True) ∧ (fun X => CoAt X W4.heap.size q A (some ⟨g4, o4, none⟩) no P ∧ Chs W4.heap.size wo X) W) (by kernel_rfl) (by kernel_rfl) (by kernel_rfl) (by kernel_rfl) ?_ ?_ ?_ ?_
    ·rintro ll aa W ⟨m0, m1, m2, m3, m4, m5, m6, m7, rfl, _⟩
     rfl
    ·exact ⟨false, false, false, false, false, false, false, false, rfl, rfl, trivial, ⟨HCO.out.below (bw_drew (Below.refl _ _)), Chs.of_below (bw_drew (Below.refl _ _))⟩⟩
    ·rintro ll aa W i o ⟨m0, m1, m2, m3, m4, m5, m6, m7, rfl, rfl, hi0, hm⟩ ho hun hall K hK
     have hi : i < 8 := (Array.getElem?_eq_some_iff.1 ho).1
     have HM := Lib.hid hm
     have HI := Lib.hid hi0
     clear hm hi0
     rcases (show i = 0 ∨ i = 1 ∨ i = 2 ∨ i = 3 ∨ i = 4 ∨ i = 5 ∨ i = 6 ∨ i = 7 by omega) with rfl | rfl | rfl | rfl | rfl | rfl | rfl | rfl
     ·cases ho
      simp at hun; subst hun
      clear hall hi
      have hbk := HTB.out W (HM.out.2)
      have t0 : W.cell? ⟨W1.heap.size, 0, none⟩ = some (.int .i64 (q : Int)) := hbk.cell 0
      have t1 : W.cell? ⟨W1.heap.size, 1, none⟩ = some (.slice A n c) := hbk.cell 1
      have t2 : W.cell? ⟨W1.heap.size, 2, none⟩ = some (.slice B nf.length d) := hbk.cell 2
      clear hbk
      go_simp
      exact hK.out _ _ ⟨true, m1, m2, m3, m4, m5, m6, m7, rfl, rfl, trivial, HM.out⟩
     ·cases ho
      simp at hun; subst hun
      clear hall hi
      go_simp
      exact hK.out _ _ ⟨m0, true, m2, m3, m4, m5, m6, m7, rfl, rfl, trivial, HM.out⟩
     ·cases ho
      simp at hun; subst hun
      clear hall hi
      go_simp
      exact hK.out _ _ ⟨m0, m1, true, m3, m4, m5, m6, m7, rfl, rfl, trivial, HM.out⟩
     ·cases ho
      cases (getBX hall 1 rfl : m1 = true)
      cases (getBX hall 2 rfl : m2 = true)
      simp at hun; subst hun
      clear hall hi
      go_simp
      exact hK.out _ _ ⟨m0, true, true, true, m4, m5, m6, m7, rfl, rfl, trivial, HM.out⟩
     ·cases ho
      cases (getBX hall 3 rfl : m3 = true)
      simp at hun; subst hun
      clear hall hi
      obtain ⟨y0, y1⟩ := HXI.out W (HM.out.2)
      go_simp
      exact hK.out _ _ ⟨m0, m1, m2, true, true, m5, m6, m7, rfl, rfl, trivial, HM.out⟩
     ·cases ho
      simp at hun; subst hun
      clear hall hi
      go_simp
      exact hK.out _ _ ⟨m0, m1, m2, m3, m4, true, m6, m7, rfl, rfl, trivial, HM.out⟩
     ·cases ho
      cases (getBX hall 0 rfl : m0 = true)
      cases (getBX hall 4 rfl : m4 = true)
      cases (getBX hall 5 rfl : m5 = true)
      simp at hun; subst hun
      clear hall hi
      go_simp
      refine (HRM.out W HM.out.1).mono ?_
      rintro e W' ⟨rfl, hb⟩
      have HN' := Lib.hid (And.intro (HM.out.1.below hb) (HM.out.2.step hb))
      exact hK.out _ _ ⟨true, m1, m2, m3, true, true, true, m7, rfl, rfl, trivial, HN'.out⟩
     ·cases ho
      cases (getBX hall 0 rfl : m0 = true)
      cases (getBX hall 1 rfl : m1 = true)
      cases (getBX hall 2 rfl : m2 = true)
      cases (getBX hall 3 rfl : m3 = true)
      cases (getBX hall 4 rfl : m4 = true)
      cases (getBX hall 5 rfl : m5 = true)
      cases (getBX hall 6 rfl : m6 = true)
      simp at hun; subst hun
      clear hall hi
      go_simp
      exact hK.out _ _ ⟨true, true, true, true, true, true, true, true, rfl, rfl, trivial, HM.out⟩
    ·rintro ll aa WR ⟨m0, m1, m2, m3, m4, m5, m6, m7, rfl, rfl, _, hm⟩ hall
     cases (hall 0 (by decide) : m0 = true)
     cases (hall 1 (by decide) : m1 = true)
     cases (hall 2 (by decide) : m2 = true)
     cases (hall 3 (by decide) : m3 = true)
     cases (hall 4 (by decide) : m4 = true)
     cases (hall 5 (by decide) : m5 = true)
     cases (hall 6 (by decide) : m6 = true)
     cases (hall 7 (by decide) : m7 = true)
     clear hall
     have HC2' := Lib.hid hm.1
     have HK2 := Lib.hid hm.2
     clear hm
     dsimp only [cwX, cond_true]
     have HROW := Lib.hid (show ∀ X, Chs W4.heap.size wo X → X.ownsRow (W4.heap.size + 1) 37 2 (.slice A' no' cp) no' ((pkK q P no fl i).1.flatMap cbL) from fun X h => own_keep HO.out fun g e => h.block g (HO.out.lt g e).2 (by have := (HO.out.lt g e).1; omega))
     by_cases hlr : lf = re
     ·have hlz : ((lf : Int) != (re : Int)) = false := by rw [bne_eq_false_iff_eq]; omega
      have HPK0 := Lib.hid (show pkK q P no fl (i + 1) = pkK q P no fl i by rw [HST.out, if_neg (fun h => h.1 hlr)])
      clear hlr
      go_upto_region 15 with fail
      refine wp_regionJ 27 #[false, false, false, false, false, false, false, false, false, false, false, false, false, false, false, false, false, false, false, false, false, false, false, false, false, false, false] (fun ll aa W => ∃ (m0 m1 m2 m3 m4 m5 m6 m7 m8 m9 m10 m11 m12 m13 m14 m15 m16 m17 m18 m19 m20 m21 m22 m23 m24 m25 m26 : Bool), ll = #[m0, m1, m2, m3, m4, m5, m6, m7, m8, m9, m10, m11, m12, m13, m14, m15, m16, m17, m18, m19, m20, m21, m22, m23, m24, m25, m26] ∧ aa = ({ tmps := #[Value.int IntKind.u8 (a : Int), Value.int IntKind.u16 (on : Int), Value.int IntKind.u16 (fr : Int), undef, undef, undef, Value.bool false, Value.pointer (some { block := W1.heap.size, off := 0 }), Value.slice A2 k c2, Value.int IntKind.i64 0, Value.slice (some { block := g4, off := o4 }) m c4, Value.map (some W4.heap.size), Value.int IntKind.i64 (re : Int), Value.slice A' no' cp, Value.int IntKind.i64 (i : Int), Value.int .i64 (lf : Int), Value.bool true, Value.bool false, Value.int IntKind.u8 (a : Int), Value.int IntKind.u16 (on : Int), Value.int IntKind.u16 (fr : Int), Value.agg #[Value.int IntKind.i64 (q : Int), Value.slice A n c, Value.slice B nf.length d], Value.pointer (some { block := W1.heap.size, off := 1 }), Value.slice A n c, Value.int IntKind.i64 (n : Int), Value.bool false, Value.tuple #[Value.slice A2 k c2, Value.int IntKind.i64 0], Value.agg #[Value.int IntKind.i64 (q : Int), Value.slice A n c, Value.slice B nf.length d], Value.tuple #[Value.slice A2 k c2, Value.int IntKind.i64 0], Value.slice A2 k c2, Value.int IntKind.i64 0, Value.agg #[Value.int IntKind.i64 (q : Int), Value.slice A n c, Value.slice B nf.length d], Value.slice (some { block := g4, off := o4 }) m c4, Value.map (some W4.heap.size), Value.pointer (some { block := W1.heap.size, off := 1 }), Value.slice A n c, Value.int IntKind.i64 (n : Int), Value.int IntKind.u64 (n : Int), Value.int IntKind.i64 (wrap64 (2 ^ n)), Value.int IntKind.i64 (fl : Int), Value.int IntKind.i64 (i : Int), Value.slice (some { block := g4, off := o4 }) m c4, Value.int IntKind.i64 (m : Int), Value.bool true, Value.bool true, Value.int IntKind.i64 (re : Int), Value.bool true, Value.bool true, u48, u49, Value.agg #[Value.int IntKind.i64 (q : Int), Value.slice A n c, Value.slice B nf.length d], Value.slice (some { block := g4, off := o4 }) m c4, Value.int IntKind.i64 (i : Int), Value.pointer (some ⟨g4, o4 + i * 2, none⟩), Value.agg #[.int .i64 (za : Int), .int .i64 (zb : Int)], Value.int IntKind.i64 (re : Int), Value.int .i64 (lf : Int), cwX m0 (Value.int .i64 (lf : Int)) (u57), cwX m1 (Value.int IntKind.i64 (re : Int)) (u58), cwX m2 (Value.bool false) (u59), cwX m3 (Value.bool false) (u60), cwX m4 (undef) (u61), cwX m5 (undef) (u62), cwX m6 (undef) (u63), cwX m7 (undef) (u64), cwX m8 (undef) (u65), cwX m9 (undef) (u66), cwX m10 (undef) (u67), cwX m11 (undef) (u68), cwX m12 (undef) (u69), cwX m13 (undef) (u70), cwX m14 (undef) (u71), cwX m15 (undef) (u72), cwX m16 (undef) (u73), cwX m17 (undef) (u74), cwX m18 (undef) (u75), cwX m19 (undef) (u76), cwX m20 (undef) (u77), cwX m21 (undef) (u78), cwX m22 (undef) (u79), cwX m23 (undef) (u80), cwX m24 (undef) (u81), cwX m25 (undef) (u82), cwX m26 (Value.bool false) (u83), u84, u85, u86, u87, u88, u89, u90, u91, undef, undef, undef, undef, undef, undef, undef], defers := [] } : Act) ∧ (True) ∧ (fun X => CoAt X W4.heap.size q A (some ⟨g4, o4, none⟩) no P ∧ Chs W4.heap.size WR X) W) (by kernel_rfl) (by kernel_rfl) (by kernel_rfl) (by kernel_rfl) ?_ ?_ ?_ ?_
      ·rintro ll aa W ⟨m0, m1, m2, m3, m4, m5, m6, m7, m8, m9, m10, m11, m12, m13, m14, m15, m16, m17, m18, m19, m20, m21, m22, m23, m24, m25, m26, rfl, _⟩
       rfl
      ·exact ⟨false, false, false, false, false, false, false, false, false, false, false, false, false, false, false, false, false, false, false, false, false, false, false, false, false, false, false, rfl, rfl, trivial, ⟨HC2'.out.below (bw_drew (Below.refl _ _)), Chs.of_below (bw_drew (Below.refl _ _))⟩⟩
      ·rintro ll aa W i o ⟨m0, m1, m2, m3, m4, m5, m6, m7, m8, m9, m10, m11, m12, m13, m14, m15, m16, m17, m18, m19, m20, m21, m22, m23, m24, m25, m26, rfl, rfl, hi0, hm⟩ ho hun hall K hK
       have hi : i < 27 := (Array.getElem?_eq_some_iff.1 ho).1
       have HM := Lib.hid hm
       have HI := Lib.hid hi0
       clear hm hi0
       rcases (show i = 0 ∨ i = 1 ∨ i = 2 ∨ i = 3 ∨ i = 4 ∨ i = 5 ∨ i = 6 ∨ i = 7 ∨ i = 8 ∨ i = 9 ∨ i = 10 ∨ i = 11 ∨ i = 12 ∨ i = 13 ∨ i = 14 ∨ i = 15 ∨ i = 16 ∨ i = 17 ∨ i = 18 ∨ i = 19 ∨ i = 20 ∨ i = 21 ∨ i = 22 ∨ i = 23 ∨ i = 24 ∨ i = 25 ∨ i = 26 by omega) with rfl | rfl | rfl | rfl | rfl | rfl | rfl | rfl | rfl | rfl | rfl | rfl | rfl | rfl | rfl | rfl | rfl | rfl | rfl | rfl | rfl | rfl | rfl | rfl | rfl | rfl | rfl
       ·cases ho
        simp at hun; subst hun
        clear hall hi
        go_simp
        exact hK.out _ _ ⟨true, m1, m2, m3, m4, m5, m6, m7, m8, m9, m10, m11, m12, m13, m14, m15, m16, m17, m18, m19, m20, m21, m22, m23, m24, m25, m26, rfl, rfl, trivial, HM.out⟩
       ·cases ho
        simp at hun; subst hun
        clear hall hi
        go_simp
        exact hK.out _ _ ⟨m0, true, m2, m3, m4, m5, m6, m7, m8, m9, m10, m11, m12, m13, m14, m15, m16, m17, m18, m19, m20, m21, m22, m23, m24, m25, m26, rfl, rfl, trivial, HM.out⟩
       ·cases ho
        cases (getBX hall 0 rfl : m0 = true)
        cases (getBX hall 1 rfl : m1 = true)
        simp at hun; subst hun
        clear hall hi
        go_simp
        exact hK.out _ _ ⟨true, true, true, m3, m4, m5, m6, m7, m8, m9, m10, m11, m12, m13, m14, m15, m16, m17, m18, m19, m20, m21, m22, m23, m24, m25, m26, rfl, rfl, trivial, HM.out⟩
       ·cases ho
        cases (getBX hall 2 rfl : m2 = true)
        simp at hun; subst hun
        clear hall hi
        go_simp
        exact hK.out _ _ ⟨m0, m1, true, true, m4, m5, m6, m7, m8, m9, m10, m11, m12, m13, m14, m15, m16, m17, m18, m19, m20, m21, m22, m23, m24, m25, m26, rfl, rfl, trivial, HM.out⟩
       ·cases ho
        cases (getBX hall 3 rfl : m3 = true)
        simp at hun; subst hun
        clear hall hi
        go_simp
        exact hK.out _ _ ⟨m0, m1, m2, true, true, m5, m6, m7, m8, m9, m10, m11, m12, m13, m14, m15, m16, m17, m18, m19, m20, m21, m22, m23, m24, m25, m26, rfl, rfl, trivial, HM.out⟩
       ·cases ho
        cases (getBX hall 3 rfl : m3 = true)
        simp at hun; subst hun
        clear hall hi
        go_simp
        exact hK.out _ _ ⟨m0, m1, m2, true, m4, true, m6, m7, m8, m9, m10, m11, m12, m13, m14, m15, m16, m17, m18, m19, m20, m21, m22, m23, m24, m25, m26, rfl, rfl, trivial, HM.out⟩
       ·cases ho
        cases (getBX hall 3 rfl : m3 = true)
        cases (getBX hall 4 rfl : m4 = true)
        cases (getBX hall 5 rfl : m5 = true)
        simp at hun; subst hun
        clear hall hi
        go_simp
        exact hK.out _ _ ⟨m0, m1, m2, true, true, true, true, m7, m8, m9, m10, m11, m12, m13, m14, m15, m16, m17, m18, m19, m20, m21, m22, m23, m24, m25, m26, rfl, rfl, trivial, HM.out⟩
       ·cases ho
        cases (getBX hall 3 rfl : m3 = true)
        cases (getBX hall 6 rfl : m6 = true)
        simp at hun; subst hun
        clear hall hi
        go_simp
        exact hK.out _ _ ⟨m0, m1, m2, true, m4, m5, true, true, m8, m9, m10, m11, m12, m13, m14, m15, m16, m17, m18, m19, m20, m21, m22, m23, m24, m25, m26, rfl, rfl, trivial, HM.out⟩
       ·cases ho
        cases (getBX hall 3 rfl : m3 = true)
        cases (getBX hall 7 rfl : m7 = true)
        simp at hun; subst hun
        clear hall hi
        go_simp
        exact hK.out _ _ ⟨m0, m1, m2, true, m4, m5, m6, true, true, m9, m10, m11, m12, m13, m14, m15, m16, m17, m18, m19, m20, m21, m22, m23, m24, m25, m26, rfl, rfl, trivial, HM.out⟩
       ·cases ho
        cases (getBX hall 3 rfl : m3 = true)
        cases (getBX hall 8 rfl : m8 = true)
        simp at hun; subst hun
        clear hall hi
        go_simp
        exact hK.out _ _ ⟨m0, m1, m2, true, m4, m5, m6, m7, true, true, m10, m11, m12, m13, m14, m15, m16, m17, m18, m19, m20, m21, m22, m23, m24, m25, m26, rfl, rfl, trivial, HM.out⟩
       ·cases ho
        cases (getBX hall 3 rfl : m3 = true)
        cases (getBX hall 9 rfl : m9 = true)
        simp at hun; subst hun
        clear hall hi
        go_simp
        exact hK.out _ _ ⟨m0, m1, m2, true, m4, m5, m6, m7, m8, true, true, m11, m12, m13, m14, m15, m16, m17, m18, m19, m20, m21, m22, m23, m24, m25, m26, rfl, rfl, trivial, HM.out⟩
       ·cases ho
        cases (getBX hall 3 rfl : m3 = true)
        simp at hun; subst hun
        clear hall hi
        go_simp
        exact hK.out _ _ ⟨m0, m1, m2, true, m4, m5, m6, m7, m8, m9, m10, true, m12, m13, m14, m15, m16, m17, m18, m19, m20, m21, m22, m23, m24, m25, m26, rfl, rfl, trivial, HM.out⟩
       ·cases ho
        cases (getBX hall 3 rfl : m3 = true)
        simp at hun; subst hun
        clear hall hi
        go_simp
        exact hK.out _ _ ⟨m0, m1, m2, true, m4, m5, m6, m7, m8, m9, m10, m11, true, m13, m14, m15, m16, m17, m18, m19, m20, m21, m22, m23, m24, m25, m26, rfl, rfl, trivial, HM.out⟩
       ·cases ho
        cases (getBX hall 3 rfl : m3 = true)
        simp at hun; subst hun
        clear hall hi
        go_simp
        exact hK.out _ _ ⟨m0, m1, m2, true, m4, m5, m6, m7, m8, m9, m10, m11, m12, true, m14, m15, m16, m17, m18, m19, m20, m21, m22, m23, m24, m25, m26, rfl, rfl, trivial, HM.out⟩
       ·cases ho
        cases (getBX hall 3 rfl : m3 = true)
        cases (getBX hall 13 rfl : m13 = true)
        simp at hun; subst hun
        clear hall hi
        go_simp
        exact hK.out _ _ ⟨m0, m1, m2, true, m4, m5, m6, m7, m8, m9, m10, m11, m12, true, true, m15, m16, m17, m18, m19, m20, m21, m22, m23, m24, m25, m26, rfl, rfl, trivial, HM.out⟩
       ·cases ho
        cases (getBX hall 3 rfl : m3 = true)
        simp at hun; subst hun
        clear hall hi
        go_simp
        exact hK.out _ _ ⟨m0, m1, m2, true, m4, m5, m6, m7, m8, m9, m10, m11, m12, m13, m14, true, m16, m17, m18, m19, m20, m21, m22, m23, m24, m25, m26, rfl, rfl, trivial, HM.out⟩
       ·cases ho
        cases (getBX hall 3 rfl : m3 = true)
        simp at hun; subst hun
        clear hall hi
        go_simp
        exact hK.out _ _ ⟨m0, m1, m2, true, m4, m5, m6, m7, m8, m9, m10, m11, m12, m13, m14, m15, true, m17, m18, m19, m20, m21, m22, m23, m24, m25, m26, rfl, rfl, trivial, HM.out⟩
       ·cases ho
        cases (getBX hall 3 rfl : m3 = true)
        cases (getBX hall 9 rfl : m9 = true)
        cases (getBX hall 11 rfl : m11 = true)
        cases (getBX hall 12 rfl : m12 = true)
        cases (getBX hall 14 rfl : m14 = true)
        cases (getBX hall 15 rfl : m15 = true)
        cases (getBX hall 16 rfl : m16 = true)
        simp at hun; subst hun
        clear hall hi
        go_simp
        exact hK.out _ _ ⟨m0, m1, m2, true, m4, m5, m6, m7, m8, true, m10, true, true, m13, true, true, true, true, m18, m19, m20, m21, m22, m23, m24, m25, m26, rfl, rfl, trivial, HM.out⟩
       ·cases ho
        cases (getBX hall 3 rfl : m3 = true)
        cases (getBX hall 10 rfl : m10 = true)
        cases (getBX hall 17 rfl : m17 = true)
        simp at hun; subst hun
        clear hall hi
        go_simp
        exact hK.out _ _ ⟨m0, m1, m2, true, m4, m5, m6, m7, m8, m9, true, m11, m12, m13, m14, m15, m16, true, true, m19, m20, m21, m22, m23, m24, m25, m26, rfl, rfl, trivial, HM.out⟩
       ·cases ho
        cases (getBX hall 3 rfl : m3 = true)
        simp at hun; subst hun
        clear hall hi
        go_simp
        exact hK.out _ _ ⟨m0, m1, m2, true, m4, m5, m6, m7, m8, m9, m10, m11, m12, m13, m14, m15, m16, m17, m18, true, m20, m21, m22, m23, m24, m25, m26, rfl, rfl, trivial, HM.out⟩
       ·cases ho
        cases (getBX hall 3 rfl : m3 = true)
        simp at hun; subst hun
        clear hall hi
        go_simp
        exact hK.out _ _ ⟨m0, m1, m2, true, m4, m5, m6, m7, m8, m9, m10, m11, m12, m13, m14, m15, m16, m17, m18, m19, true, m21, m22, m23, m24, m25, m26, rfl, rfl, trivial, HM.out⟩
       ·cases ho
        cases (getBX hall 3 rfl : m3 = true)
        simp at hun; subst hun
        clear hall hi
        go_simp
        exact hK.out _ _ ⟨m0, m1, m2, true, m4, m5, m6, m7, m8, m9, m10, m11, m12, m13, m14, m15, m16, m17, m18, m19, m20, true, m22, m23, m24, m25, m26, rfl, rfl, trivial, HM.out⟩
       ·cases ho
        cases (getBX hall 3 rfl : m3 = true)
        simp at hun; subst hun
        clear hall hi
        go_simp
        exact hK.out _ _ ⟨m0, m1, m2, true, m4, m5, m6, m7, m8, m9, m10, m11, m12, m13, m14, m15, m16, m17, m18, m19, m20, m21, true, m23, m24, m25, m26, rfl, rfl, trivial, HM.out⟩
       ·cases ho
        cases (getBX hall 3 rfl : m3 = true)
        simp at hun; subst hun
        clear hall hi
        go_simp
        exact hK.out _ _ ⟨m0, m1, m2, true, m4, m5, m6, m7, m8, m9, m10, m11, m12, m13, m14, m15, m16, m17, m18, m19, m20, m21, m22, true, m24, m25, m26, rfl, rfl, trivial, HM.out⟩
       ·cases ho
        cases (getBX hall 3 rfl : m3 = true)
        cases (getBX hall 17 rfl : m17 = true)
        cases (getBX hall 19 rfl : m19 = true)
        cases (getBX hall 20 rfl : m20 = true)
        cases (getBX hall 21 rfl : m21 = true)
        cases (getBX hall 22 rfl : m22 = true)
        cases (getBX hall 23 rfl : m23 = true)
        simp at hun; subst hun
        clear hall hi
        go_simp
        exact hK.out _ _ ⟨m0, m1, m2, true, m4, m5, m6, m7, m8, m9, m10, m11, m12, m13, m14, m15, m16, true, m18, true, true, true, true, true, true, m25, m26, rfl, rfl, trivial, HM.out⟩
       ·cases ho
        cases (getBX hall 3 rfl : m3 = true)
        cases (getBX hall 18 rfl : m18 = true)
        cases (getBX hall 24 rfl : m24 = true)
        simp at hun; subst hun
        clear hall hi
        go_simp
        exact hK.out _ _ ⟨m0, m1, m2, true, m4, m5, m6, m7, m8, m9, m10, m11, m12, m13, m14, m15, m16, m17, true, m19, m20, m21, m22, m23, true, true, m26, rfl, rfl, trivial, HM.out⟩
       ·cases ho
        cases (getBX hall 3 rfl : m3 = true)
        cases (getBX hall 25 rfl : m25 = true)
        simp at hun; subst hun
        clear hall hi
        go_simp
        exact hK.out _ _ ⟨m0, m1, m2, true, m4, m5, m6, m7, m8, m9, m10, m11, m12, m13, m14, m15, m16, m17, m18, m19, m20, m21, m22, m23, m24, true, true, rfl, rfl, trivial, HM.out⟩
      ·rintro ll aa WS ⟨m0, m1, m2, m3, m4, m5, m6, m7, m8, m9, m10, m11, m12, m13, m14, m15, m16, m17, m18, m19, m20, m21, m22, m23, m24, m25, m26, rfl, rfl, _, hm⟩ hall
       cases (hall 0 (by decide) : m0 = true)
       cases (hall 1 (by decide) : m1 = true)
       cases (hall 2 (by decide) : m2 = true)
       cases (hall 3 (by decide) : m3 = true)
       cases (hall 4 (by decide) : m4 = true)
       cases (hall 5 (by decide) : m5 = true)
       cases (hall 6 (by decide) : m6 = true)
       cases (hall 7 (by decide) : m7 = true)
       cases (hall 8 (by decide) : m8 = true)
       cases (hall 9 (by decide) : m9 = true)
       cases (hall 10 (by decide) : m10 = true)
       cases (hall 11 (by decide) : m11 = true)
       cases (hall 12 (by decide) : m12 = true)
       cases (hall 13 (by decide) : m13 = true)
       cases (hall 14 (by decide) : m14 = true)
       cases (hall 15 (by decide) : m15 = true)
       cases (hall 16 (by decide) : m16 = true)
       cases (hall 17 (by decide) : m17 = true)
       cases (hall 18 (by decide) : m18 = true)
       cases (hall 19 (by decide) : m19 = true)
       cases (hall 20 (by decide) : m20 = true)
       cases (hall 21 (by decide) : m21 = true)
       cases (hall 22 (by decide) : m22 = true)
       cases (hall 23 (by decide) : m23 = true)
       cases (hall 24 (by decide) : m24 = true)
       cases (hall 25 (by decide) : m25 = true)
       cases (hall 26 (by decide) : m26 = true)
       clear hall
       have HC3 := Lib.hid hm.1
       have HK3 := Lib.hid (HK2.out.trans hm.2)
       clear hm
       dsimp only [cwX, cond_true]
       have HPK := HPK0
       go_wp2_with fail
       go_roundw
       case rel => exact ⟨i + 1, A', no', cp, by have := HI.out; omega, by rw [HI2.out]; rfl, by rw [HPK.out, ← HRE.out], rfl, by rw [HPK.out]; exact HNO.out, (fun j hj => by
        rcases Nat.lt_succ_iff_lt_or_eq.1 hj with h | rfl
        ·exact HNZ.out j h
        ·rw [← HRE.out]; exact HZR.out), HC3.out, by rw [HPK.out]; exact HROW.out WS HK3.out, HBW.out.trans (HK3.out.below (Nat.le_refl _) HBW.out.size)⟩
       case measure => have := HI.out; have := HI2.out; simp only [intOf]; omega
     ·have hlz : ((lf : Int) != (re : Int)) = true := by rw [bne_iff_ne]; omega
      obtain ⟨s1, hs1⟩ : ∃ x : Nat, x = 100 + pz := ⟨_, rfl⟩
      obtain ⟨s2, hs2⟩ : ∃ x : Nat, x = s1 + c1 := ⟨_, rfl⟩
      obtain ⟨eqb, heqb⟩ : ∃ x : Bool, x = ((s2 : Int) == (c2' : Int)) := ⟨_, rfl⟩
      have hw1 : IntKind.i64.wrap (100 + (pz : Int)) = (s1 : Int) := by rw [IntWalk.i64_in _ (by omega)]; omega
      have hw2 : IntKind.i64.wrap ((s1 : Int) + (c1 : Int)) = (s2 : Int) := by rw [IntWalk.i64_in _ (by omega)]; omega
      have HEB := Lib.hid (show (100 + pz + c1 = c2' → eqb = true) ∧ (eqb = true → 100 + pz + c1 = c2') from ⟨fun h => by rw [heqb, beq_iff_eq]; omega, fun h => by rw [heqb, beq_iff_eq] at h; omega⟩)
      have HLR := Lib.hid (show lf ≠ re from hlr)
      have heq2 := heqb.symm
      clear hs1 hs2 heqb hlr
      go_upto_region 15 with fail
      refine wp_regionJ 27 #[false, false, false, false, false, false, false, false, false, false, false, false, false, false, false, false, false, false, false, false, false, false, false, false, false, false, false] (fun ll aa W => ∃ (m0 m1 m2 m3 m4 m5 m6 m7 m8 m9 m10 m11 m12 m13 m14 m15 m16 m17 m18 m19 m20 m21 m22 m23 m24 m25 m26 : Bool), ll = #[m0, m1, m2, m3, m4, m5, m6, m7, m8, m9, m10, m11, m12, m13, m14, m15, m16, m17, m18, m19, m20, m21, m22, m23, m24, m25, m26] ∧ aa = ({ tmps := #[Value.int IntKind.u8 (a : Int), Value.int IntKind.u16 (on : Int), Value.int IntKind.u16 (fr : Int), undef, undef, undef, Value.bool false, Value.pointer (some { block := W1.heap.size, off := 0 }), Value.slice A2 k c2, Value.int IntKind.i64 0, Value.slice (some { block := g4, off := o4 }) m c4, Value.map (some W4.heap.size), Value.int IntKind.i64 (re : Int), Value.slice A' no' cp, Value.int IntKind.i64 (i : Int), Value.int .i64 (lf : Int), Value.bool true, Value.bool false, Value.int IntKind.u8 (a : Int), Value.int IntKind.u16 (on : Int), Value.int IntKind.u16 (fr : Int), Value.agg #[Value.int IntKind.i64 (q : Int), Value.slice A n c, Value.slice B nf.length d], Value.pointer (some { block := W1.heap.size, off := 1 }), Value.slice A n c, Value.int IntKind.i64 (n : Int), Value.bool false, Value.tuple #[Value.slice A2 k c2, Value.int IntKind.i64 0], Value.agg #[Value.int IntKind.i64 (q : Int), Value.slice A n c, Value.slice B nf.length d], Value.tuple #[Value.slice A2 k c2, Value.int IntKind.i64 0], Value.slice A2 k c2, Value.int IntKind.i64 0, Value.agg #[Value.int IntKind.i64 (q : Int), Value.slice A n c, Value.slice B nf.length d], Value.slice (some { block := g4, off := o4 }) m c4, Value.map (some W4.heap.size), Value.pointer (some { block := W1.heap.size, off := 1 }), Value.slice A n c, Value.int IntKind.i64 (n : Int), Value.int IntKind.u64 (n : Int), Value.int IntKind.i64 (wrap64 (2 ^ n)), Value.int IntKind.i64 (fl : Int), Value.int IntKind.i64 (i : Int), Value.slice (some { block := g4, off := o4 }) m c4, Value.int IntKind.i64 (m : Int), Value.bool true, Value.bool true, Value.int IntKind.i64 (re : Int), Value.bool true, Value.bool true, u48, u49, Value.agg #[Value.int IntKind.i64 (q : Int), Value.slice A n c, Value.slice B nf.length d], Value.slice (some { block := g4, off := o4 }) m c4, Value.int IntKind.i64 (i : Int), Value.pointer (some ⟨g4, o4 + i * 2, none⟩), Value.agg #[.int .i64 (za : Int), .int .i64 (zb : Int)], Value.int IntKind.i64 (re : Int), Value.int .i64 (lf : Int), cwX m0 (Value.int .i64 (lf : Int)) (u57), cwX m1 (Value.int IntKind.i64 (re : Int)) (u58), cwX m2 (Value.bool true) (u59), cwX m3 (Value.bool true) (u60), cwX m4 (Value.slice (some { block := g4, off := o4 }) m c4) (u61), cwX m5 (Value.int IntKind.i64 (i : Int)) (u62), cwX m6 (Value.pointer (some ⟨g4, o4 + i * 2, none⟩)) (u63), cwX m7 (Value.pointer (some ⟨g4, o4 + i * 2, none⟩)) (u64), cwX m8 (Value.int .i64 (za : Int)) (u65), cwX m9 (Value.int .i64 (pz : Int)) (u66), cwX m10 (Value.int .i64 (s1 : Int)) (u67), cwX m11 (Value.agg #[Value.int IntKind.i64 (q : Int), Value.slice A n c, Value.slice B nf.length d]) (u68), cwX m12 (Value.slice (some { block := g4, off := o4 }) m c4) (u69), cwX m13 (Value.int IntKind.i64 (i : Int)) (u70), cwX m14 (Value.int .i64 i2) (u71), cwX m15 (Value.int .i64 (lf : Int)) (u72), cwX m16 (Value.map (some W4.heap.size)) (u73), cwX m17 (Value.int .i64 (c1 : Int)) (u74), cwX m18 (Value.int .i64 (s2 : Int)) (u75), cwX m19 (Value.agg #[Value.int IntKind.i64 (q : Int), Value.slice A n c, Value.slice B nf.length d]) (u76), cwX m20 (Value.slice (some { block := g4, off := o4 }) m c4) (u77), cwX m21 (Value.int IntKind.i64 (i : Int)) (u78), cwX m22 (Value.int IntKind.i64 (re : Int)) (u79), cwX m23 (Value.map (some W4.heap.size)) (u80), cwX m24 (Value.int .i64 (c2' : Int)) (u81), cwX m25 (Value.bool eqb) (u82), cwX m26 (Value.bool eqb) (u83), u84, u85, u86, u87, u88, u89, u90, u91, undef, undef, undef, undef, undef, undef, undef], defers := [] } : Act) ∧ (True) ∧ (fun X => CoAt X W4.heap.size q A (some ⟨g4, o4, none⟩) no P ∧ Chs W4.heap.size WR X) W) (by kernel_rfl) (by kernel_rfl) (by kernel_rfl) (by kernel_rfl) ?_ ?_ ?_ ?_
      ·rintro ll aa W ⟨m0, m1, m2, m3, m4, m5, m6, m7, m8, m9, m10, m11, m12, m13, m14, m15, m16, m17, m18, m19, m20, m21, m22, m23, m24, m25, m26, rfl, _⟩
       rfl
      ·exact ⟨false, false, false, false, false, false, false, false, false, false, false, false, false, false, false, false, false, false, false, false, false, false, false, false, false, false, false, rfl, rfl, trivial, ⟨HC2'.out.below (bw_drew (Below.refl _ _)), Chs.of_below (bw_drew (Below.refl _ _))⟩⟩
      ·rintro ll aa W i o ⟨m0, m1, m2, m3, m4, m5, m6, m7, m8, m9, m10, m11, m12, m13, m14, m15, m16, m17, m18, m19, m20, m21, m22, m23, m24, m25, m26, rfl, rfl, hi0, hm⟩ ho hun hall K hK
       have hi : i < 27 := (Array.getElem?_eq_some_iff.1 ho).1
       have HM := Lib.hid hm
       have HI := Lib.hid hi0
       clear hm hi0
       rcases (show i = 0 ∨ i = 1 ∨ i = 2 ∨ i = 3 ∨ i = 4 ∨ i = 5 ∨ i = 6 ∨ i = 7 ∨ i = 8 ∨ i = 9 ∨ i = 10 ∨ i = 11 ∨ i = 12 ∨ i = 13 ∨ i = 14 ∨ i = 15 ∨ i = 16 ∨ i = 17 ∨ i = 18 ∨ i = 19 ∨ i = 20 ∨ i = 21 ∨ i = 22 ∨ i = 23 ∨ i = 24 ∨ i = 25 ∨ i = 26 by omega) with rfl | rfl | rfl | rfl | rfl | rfl | rfl | rfl | rfl | rfl | rfl | rfl | rfl | rfl | rfl | rfl | rfl | rfl | rfl | rfl | rfl | rfl | rfl | rfl | rfl | rfl | rfl
       ·cases ho
        simp at hun; subst hun
        clear hall hi
        go_simp
        exact hK.out _ _ ⟨true, m1, m2, m3, m4, m5, m6, m7, m8, m9, m10, m11, m12, m13, m14, m15, m16, m17, m18, m19, m20, m21, m22, m23, m24, m25, m26, rfl, rfl, trivial, HM.out⟩
       ·cases ho
        simp at hun; subst hun
        clear hall hi
        go_simp
        exact hK.out _ _ ⟨m0, true, m2, m3, m4, m5, m6, m7, m8, m9, m10, m11, m12, m13, m14, m15, m16, m17, m18, m19, m20, m21, m22, m23, m24, m25, m26, rfl, rfl, trivial, HM.out⟩
       ·cases ho
        cases (getBX hall 0 rfl : m0 = true)
        cases (getBX hall 1 rfl : m1 = true)
        simp at hun; subst hun
        clear hall hi
        go_simp
        exact hK.out _ _ ⟨true, true, true, m3, m4, m5, m6, m7, m8, m9, m10, m11, m12, m13, m14, m15, m16, m17, m18, m19, m20, m21, m22, m23, m24, m25, m26, rfl, rfl, trivial, HM.out⟩
       ·cases ho
        cases (getBX hall 2 rfl : m2 = true)
        simp at hun; subst hun
        clear hall hi
        go_simp
        exact hK.out _ _ ⟨m0, m1, true, true, m4, m5, m6, m7, m8, m9, m10, m11, m12, m13, m14, m15, m16, m17, m18, m19, m20, m21, m22, m23, m24, m25, m26, rfl, rfl, trivial, HM.out⟩
       ·cases ho
        cases (getBX hall 3 rfl : m3 = true)
        simp at hun; subst hun
        clear hall hi
        go_simp
        exact hK.out _ _ ⟨m0, m1, m2, true, true, m5, m6, m7, m8, m9, m10, m11, m12, m13, m14, m15, m16, m17, m18, m19, m20, m21, m22, m23, m24, m25, m26, rfl, rfl, trivial, HM.out⟩
       ·cases ho
        cases (getBX hall 3 rfl : m3 = true)
        simp at hun; subst hun
        clear hall hi
        go_simp
        exact hK.out _ _ ⟨m0, m1, m2, true, m4, true, m6, m7, m8, m9, m10, m11, m12, m13, m14, m15, m16, m17, m18, m19, m20, m21, m22, m23, m24, m25, m26, rfl, rfl, trivial, HM.out⟩
       ·cases ho
        cases (getBX hall 3 rfl : m3 = true)
        cases (getBX hall 4 rfl : m4 = true)
        cases (getBX hall 5 rfl : m5 = true)
        simp at hun; subst hun
        clear hall hi
        go_simp
        exact hK.out _ _ ⟨m0, m1, m2, true, true, true, true, m7, m8, m9, m10, m11, m12, m13, m14, m15, m16, m17, m18, m19, m20, m21, m22, m23, m24, m25, m26, rfl, rfl, trivial, HM.out⟩
       ·cases ho
        cases (getBX hall 3 rfl : m3 = true)
        cases (getBX hall 6 rfl : m6 = true)
        simp at hun; subst hun
        clear hall hi
        go_simp
        exact hK.out _ _ ⟨m0, m1, m2, true, m4, m5, true, true, m8, m9, m10, m11, m12, m13, m14, m15, m16, m17, m18, m19, m20, m21, m22, m23, m24, m25, m26, rfl, rfl, trivial, HM.out⟩
       ·cases ho
        cases (getBX hall 3 rfl : m3 = true)
        cases (getBX hall 7 rfl : m7 = true)
        simp at hun; subst hun
        clear hall hi
        obtain ⟨y0, y1⟩ := HXI.out W (HK2.out.trans HM.out.2)
        go_simp
        exact hK.out _ _ ⟨m0, m1, m2, true, m4, m5, m6, true, true, m9, m10, m11, m12, m13, m14, m15, m16, m17, m18, m19, m20, m21, m22, m23, m24, m25, m26, rfl, rfl, trivial, HM.out⟩
       ·cases ho
        cases (getBX hall 3 rfl : m3 = true)
        cases (getBX hall 8 rfl : m8 = true)
        simp at hun; subst hun
        clear hall hi
        go_simp
        refine (HPO.out W).mono ?_
        rintro e W' ⟨rfl, rfl⟩
        exact hK.out _ _ ⟨m0, m1, m2, true, m4, m5, m6, m7, true, true, m10, m11, m12, m13, m14, m15, m16, m17, m18, m19, m20, m21, m22, m23, m24, m25, m26, rfl, rfl, trivial, HM.out⟩
       ·cases ho
        cases (getBX hall 3 rfl : m3 = true)
        cases (getBX hall 9 rfl : m9 = true)
        simp at hun; subst hun
        clear hall hi
        go_simp
        exact hK.out _ _ ⟨m0, m1, m2, true, m4, m5, m6, m7, m8, true, true, m11, m12, m13, m14, m15, m16, m17, m18, m19, m20, m21, m22, m23, m24, m25, m26, rfl, rfl, trivial, HM.out⟩
       ·cases ho
        cases (getBX hall 3 rfl : m3 = true)
        simp at hun; subst hun
        clear hall hi
        have hbk := HTB.out W (HK2.out.trans HM.out.2)
        have t0 : W.cell? ⟨W1.heap.size, 0, none⟩ = some (.int .i64 (q : Int)) := hbk.cell 0
        have t1 : W.cell? ⟨W1.heap.size, 1, none⟩ = some (.slice A n c) := hbk.cell 1
        have t2 : W.cell? ⟨W1.heap.size, 2, none⟩ = some (.slice B nf.length d) := hbk.cell 2
        clear hbk
        go_simp
        exact hK.out _ _ ⟨m0, m1, m2, true, m4, m5, m6, m7, m8, m9, m10, true, m12, m13, m14, m15, m16, m17, m18, m19, m20, m21, m22, m23, m24, m25, m26, rfl, rfl, trivial, HM.out⟩
       ·cases ho
        cases (getBX hall 3 rfl : m3 = true)
        simp at hun; subst hun
        clear hall hi
        go_simp
        exact hK.out _ _ ⟨m0, m1, m2, true, m4, m5, m6, m7, m8, m9, m10, m11, true, m13, m14, m15, m16, m17, m18, m19, m20, m21, m22, m23, m24, m25, m26, rfl, rfl, trivial, HM.out⟩
       ·cases ho
        cases (getBX hall 3 rfl : m3 = true)
        simp at hun; subst hun
        clear hall hi
        go_simp
        exact hK.out _ _ ⟨m0, m1, m2, true, m4, m5, m6, m7, m8, m9, m10, m11, m12, true, m14, m15, m16, m17, m18, m19, m20, m21, m22, m23, m24, m25, m26, rfl, rfl, trivial, HM.out⟩
       ·cases ho
        cases (getBX hall 3 rfl : m3 = true)
        cases (getBX hall 13 rfl : m13 = true)
        simp at hun; subst hun
        clear hall hi
        go_simp
        exact hK.out _ _ ⟨m0, m1, m2, true, m4, m5, m6, m7, m8, m9, m10, m11, m12, true, true, m15, m16, m17, m18, m19, m20, m21, m22, m23, m24, m25, m26, rfl, rfl, trivial, HM.out⟩
       ·cases ho
        cases (getBX hall 3 rfl : m3 = true)
        simp at hun; subst hun
        clear hall hi
        go_simp
        exact hK.out _ _ ⟨m0, m1, m2, true, m4, m5, m6, m7, m8, m9, m10, m11, m12, m13, m14, true, m16, m17, m18, m19, m20, m21, m22, m23, m24, m25, m26, rfl, rfl, trivial, HM.out⟩
       ·cases ho
        cases (getBX hall 3 rfl : m3 = true)
        simp at hun; subst hun
        clear hall hi
        go_simp
        exact hK.out _ _ ⟨m0, m1, m2, true, m4, m5, m6, m7, m8, m9, m10, m11, m12, m13, m14, m15, true, m17, m18, m19, m20, m21, m22, m23, m24, m25, m26, rfl, rfl, trivial, HM.out⟩
       ·cases ho
        cases (getBX hall 3 rfl : m3 = true)
        cases (getBX hall 9 rfl : m9 = true)
        cases (getBX hall 11 rfl : m11 = true)
        cases (getBX hall 12 rfl : m12 = true)
        cases (getBX hall 14 rfl : m14 = true)
        cases (getBX hall 15 rfl : m15 = true)
        cases (getBX hall 16 rfl : m16 = true)
        simp at hun; subst hun
        clear hall hi
        go_simp
        refine (HC1.out W HM.out.1).mono ?_
        rintro e W' ⟨rfl, hco3, hch3⟩
        have HN' := Lib.hid (And.intro hco3 (HM.out.2.trans hch3))
        exact hK.out _ _ ⟨m0, m1, m2, true, m4, m5, m6, m7, m8, true, m10, true, true, m13, true, true, true, true, m18, m19, m20, m21, m22, m23, m24, m25, m26, rfl, rfl, trivial, HN'.out⟩
       ·cases ho
        cases (getBX hall 3 rfl : m3 = true)
        cases (getBX hall 10 rfl : m10 = true)
        cases (getBX hall 17 rfl : m17 = true)
        simp at hun; subst hun
        clear hall hi
        go_simp
        exact hK.out _ _ ⟨m0, m1, m2, true, m4, m5, m6, m7, m8, m9, true, m11, m12, m13, m14, m15, m16, true, true, m19, m20, m21, m22, m23, m24, m25, m26, rfl, rfl, trivial, HM.out⟩
       ·cases ho
        cases (getBX hall 3 rfl : m3 = true)
        simp at hun; subst hun
        clear hall hi
        have hbk := HTB.out W (HK2.out.trans HM.out.2)
        have t0 : W.cell? ⟨W1.heap.size, 0, none⟩ = some (.int .i64 (q : Int)) := hbk.cell 0
        have t1 : W.cell? ⟨W1.heap.size, 1, none⟩ = some (.slice A n c) := hbk.cell 1
        have t2 : W.cell? ⟨W1.heap.size, 2, none⟩ = some (.slice B nf.length d) := hbk.cell 2
        clear hbk
        go_simp
        exact hK.out _ _ ⟨m0, m1, m2, true, m4, m5, m6, m7, m8, m9, m10, m11, m12, m13, m14, m15, m16, m17, m18, true, m20, m21, m22, m23, m24, m25, m26, rfl, rfl, trivial, HM.out⟩
       ·cases ho
        cases (getBX hall 3 rfl : m3 = true)
        simp at hun; subst hun
        clear hall hi
        go_simp
        exact hK.out _ _ ⟨m0, m1, m2, true, m4, m5, m6, m7, m8, m9, m10, m11, m12, m13, m14, m15, m16, m17, m18, m19, true, m21, m22, m23, m24, m25, m26, rfl, rfl, trivial, HM.out⟩
       ·cases ho
        cases (getBX hall 3 rfl : m3 = true)
        simp at hun; subst hun
        clear hall hi
        go_simp
        exact hK.out _ _ ⟨m0, m1, m2, true, m4, m5, m6, m7, m8, m9, m10, m11, m12, m13, m14, m15, m16, m17, m18, m19, m20, true, m22, m23, m24, m25, m26, rfl, rfl, trivial, HM.out⟩
       ·cases ho
        cases (getBX hall 3 rfl : m3 = true)
        simp at hun; subst hun
        clear hall hi
        go_simp
        exact hK.out _ _ ⟨m0, m1, m2, true, m4, m5, m6, m7, m8, m9, m10, m11, m12, m13, m14, m15, m16, m17, m18, m19, m20, m21, true, m23, m24, m25, m26, rfl, rfl, trivial, HM.out⟩
       ·cases ho
        cases (getBX hall 3 rfl : m3 = true)
        simp at hun; subst hun
        clear hall hi
        go_simp
        exact hK.out _ _ ⟨m0, m1, m2, true, m4, m5, m6, m7, m8, m9, m10, m11, m12, m13, m14, m15, m16, m17, m18, m19, m20, m21, m22, true, m24, m25, m26, rfl, rfl, trivial, HM.out⟩
       ·cases ho
        cases (getBX hall 3 rfl : m3 = true)
        cases (getBX hall 17 rfl : m17 = true)
        cases (getBX hall 19 rfl : m19 = true)
        cases (getBX hall 20 rfl : m20 = true)
        cases (getBX hall 21 rfl : m21 = true)
        cases (getBX hall 22 rfl : m22 = true)
        cases (getBX hall 23 rfl : m23 = true)
        simp at hun; subst hun
        clear hall hi
        go_simp
        refine (HC2.out W HM.out.1).mono ?_
        rintro e W' ⟨rfl, hco3, hch3⟩
        have HN' := Lib.hid (And.intro hco3 (HM.out.2.trans hch3))
        exact hK.out _ _ ⟨m0, m1, m2, true, m4, m5, m6, m7, m8, m9, m10, m11, m12, m13, m14, m15, m16, true, m18, true, true, true, true, true, true, m25, m26, rfl, rfl, trivial, HN'.out⟩
       ·cases ho
        cases (getBX hall 3 rfl : m3 = true)
        cases (getBX hall 18 rfl : m18 = true)
        cases (getBX hall 24 rfl : m24 = true)
        simp at hun; subst hun
        clear hall hi
        go_simp
        exact hK.out _ _ ⟨m0, m1, m2, true, m4, m5, m6, m7, m8, m9, m10, m11, m12, m13, m14, m15, m16, m17, true, m19, m20, m21, m22, m23, true, true, m26, rfl, rfl, trivial, HM.out⟩
       ·cases ho
        cases (getBX hall 3 rfl : m3 = true)
        cases (getBX hall 25 rfl : m25 = true)
        simp at hun; subst hun
        clear hall hi
        go_simp
        exact hK.out _ _ ⟨m0, m1, m2, true, m4, m5, m6, m7, m8, m9, m10, m11, m12, m13, m14, m15, m16, m17, m18, m19, m20, m21, m22, m23, m24, true, true, rfl, rfl, trivial, HM.out⟩
      ·rintro ll aa WS ⟨m0, m1, m2, m3, m4, m5, m6, m7, m8, m9, m10, m11, m12, m13, m14, m15, m16, m17, m18, m19, m20, m21, m22, m23, m24, m25, m26, rfl, rfl, _, hm⟩ hall
       cases (hall 0 (by decide) : m0 = true)
       cases (hall 1 (by decide) : m1 = true)
       cases (hall 2 (by decide) : m2 = true)
       cases (hall 3 (by decide) : m3 = true)
       cases (hall 4 (by decide) : m4 = true)
       cases (hall 5 (by decide) : m5 = true)
       cases (hall 6 (by decide) : m6 = true)
       cases (hall 7 (by decide) : m7 = true)
       cases (hall 8 (by decide) : m8 = true)
       cases (hall 9 (by decide) : m9 = true)
       cases (hall 10 (by decide) : m10 = true)
       cases (hall 11 (by decide) : m11 = true)
       cases (hall 12 (by decide) : m12 = true)
       cases (hall 13 (by decide) : m13 = true)
       cases (hall 14 (by decide) : m14 = true)
       cases (hall 15 (by decide) : m15 = true)
       cases (hall 16 (by decide) : m16 = true)
       cases (hall 17 (by decide) : m17 = true)
       cases (hall 18 (by decide) : m18 = true)
       cases (hall 19 (by decide) : m19 = true)
       cases (hall 20 (by decide) : m20 = true)
       cases (hall 21 (by decide) : m21 = true)
       cases (hall 22 (by decide) : m22 = true)
       cases (hall 23 (by decide) : m23 = true)
       cases (hall 24 (by decide) : m24 = true)
       cases (hall 25 (by decide) : m25 = true)
       cases (hall 26 (by decide) : m26 = true)
       clear hall
       have HC3 := Lib.hid hm.1
       have HK3 := Lib.hid (HK2.out.trans hm.2)
       clear hm
       dsimp only [cwX, cond_true]
       cases eqb with
       | false =>
        have HPK := Lib.hid (show pkK q P no fl (i + 1) = pkK q P no fl i by rw [HST.out, if_neg (fun h => by have := HEB.out.1 h.2; cases this)])
        go_wp2_with fail
        go_roundw
        case rel => exact ⟨i + 1, A', no', cp, by have := HI.out; omega, by rw [HI2.out]; rfl, by rw [HPK.out, ← HRE.out], rfl, by rw [HPK.out]; exact HNO.out, (fun j hj => by
         rcases Nat.lt_succ_iff_lt_or_eq.1 hj with h | rfl
         ·exact HNZ.out j h
         ·rw [← HRE.out]; exact HZR.out), HC3.out, by rw [HPK.out]; exact HROW.out WS HK3.out, HBW.out.trans (HK3.out.below (Nat.le_refl _) HBW.out.size)⟩
        case measure => have := HI.out; have := HI2.out; simp only [intOf]; omega
       | true =>
        have HPK := Lib.hid (show pkK q P no fl (i + 1) = ((pkK q P no fl i).1 ++ [(za, zb)], lf) by rw [HST.out, if_pos ⟨HLR.out, HEB.out.2 rfl⟩])
        have HRW5 := Lib.hid (HROW.out WS HK3.out)
        obtain ⟨y0, y1⟩ := HXI.out WS HK3.out
        have hWS : W4.heap.size < WS.heap.size := Nat.lt_of_lt_of_le HLT.out HK3.out.size
        go_wp2_with (at_builtin; refine wpList_append_lies _ rfl _ _ 28 rfl (W4.heap.size + 1) 37 i0 (.agg #[.int .i64 0, .int .i64 0]) 2 16 Tryz.underlying28 HI0.out HZ0.out HZ1.out HZ2.out rfl (by decide) _ _ _ rfl (own_blI HRW5.out (bw_new (Below.refl _ _) _)) ⟨WS.heap.size, 0, none⟩ 1 1 (cbL (za, zb)) rfl rfl (World.news_of_block (cs := (cbL (za, zb)).toArray) (t := 37) (fr := (0, 0)) (heap_alloc_new WS _)) (by simp [Value.oneCell']) (by decide) (by unfold maxLen; omega) (by omega) (by simp; omega) _ rfl ?_)
        intro g5 c5 w5 hown5 hgrow5 hor5 hlt5
        have HO5 := Lib.hid hown5
        have HK5 := Lib.hid (HC3.out.grow HRW5.out (bw_new (Below.refl _ _) (.cells (cbL (za, zb)).toArray 37)) hgrow5)
        clear hown5 hgrow5 hor5 hlt5 y0 y1 hWS
        go_wp2_with fail
        go_roundw
        case rel => exact ⟨i + 1, some ⟨g5, 0, none⟩, no' + 1, c5, by have := HI.out; omega, by rw [HI2.out]; rfl, by rw [HPK.out], rfl, by rw [HPK.out]; simp; exact HNO.out, (fun j hj => by
         rcases Nat.lt_succ_iff_lt_or_eq.1 hj with h | rfl
         ·exact HNZ.out j h
         ·rw [← HRE.out]; exact HZR.out), HK5.out.1, by rw [HPK.out]; show w5.ownsRow _ _ _ _ _ (((pkK q P no fl i).1 ++ [(za, zb)]).flatMap cbL); rw [List.flatMap_append]; exact HO5.out, HBW.out.trans ((HK3.out.below (Nat.le_refl _) HBW.out.size).trans (HK5.out.2.mono (Nat.le_succ _)))⟩
        case measure => have := HI.out; have := HI2.out; simp only [intOf]; omega
  ·obtain rfl : i = m := by omega
   have hiz : ¬ (i : Int) < (i : Int) := by omega
   have hR := HFI.out i (Nat.le_refl _) HNZ.out (.inl rfl)
   --FIN2
   have hnk : no' = k := by rw [HNO.out, hR, HPE.out.2.2.2.1]
   have hoq := own_cq HO.out HNO.out
   rw [hR] at hoq
   subst hnk
   have HS1' := Lib.hid (lsame_any A2 A' c2 cp no' (zP R) wo (fun hl => by
    obtain ⟨g, o, e, hg, hcell⟩ := HCS.out hl
    exact ⟨g, o, e, Nat.lt_of_lt_of_le hg HBW.out.size, fun i hi => ⟨(HBW.out.cell (p := ⟨g, _, none⟩) hg).trans (hcell i hi).1, (HBW.out.cell (p := ⟨g, _, none⟩) hg).trans (hcell i hi).2⟩⟩) hoq (by rw [List.length_map]; exact HPE.out.2.2.2.1) (by omega))
   clear hoq hR
   go_wp2_with fail
   refine HS1'.out.mono ?_
   rintro e W5 ⟨rfl, hb5⟩
   have HB5 := Lib.hid hb5
   clear hb5
   go_wp2_with fail
   exact bodyPost_ret (v := .bool true) (by simp [results, Tryz.results3, go_sem]) rfl ⟨rfl, HB1.out.trans ((HM4.out.below.trans ((HBW.out.trans (HB5.out.mono HBW.out.size)).mono HM4.out.below.size)).mono HB1.out.size)⟩
end Go.Proofs.YtaegjpancbmppaaGreatDoor
