/- Part 32 of 33 of the proof of the law: contracts of the functions that it reaches, and plain facts. Conditions: those that each contract names. -/
import Derived.Test.YtaegjpancbmppaaGreatDoorSumB23
import Derived.Test.YtaegjpancbmppaaGreatDoorSumB22
import Derived.Test.YtaegjpancbmppaaGreatDoorSumB08
import Derived.Test.YtaegjpancbmppaaGreatDoorSumB30
import Derived.Test.YtaegjpancbmppaaGreatDoorSumB31
import Derived.Test.YtaegjpancbmppaaGreatDoorSumB24
import Derived.Test.YtaegjpancbmppaaGreatDoorSumB06
set_option linter.unusedVariables false
set_option linter.unusedSimpArgs false
namespace Go.Proofs.YtaegjpancbmppaaGreatDoor
open Go.RowKit
set_option maxRecDepth 1000000 in
set_option maxHeartbeats 8000000 in
theorem lsums_any (a on fr : Nat) (V : World) (ha : a < 256) (h1 : on < 65536) (h2 : fr < 65536) :
  Calls Tryz.prog 11 #[.int .u8 (a : Int), .int .u16 (on : Int), .int .u16 (fr : Int)] V (LwPost V) := by
 have HK := Lib.hid (iknown_any V)
 obtain ⟨q, hq⟩ : ∃ q, q = a % 5 := ⟨_, rfl⟩
 have hMk := fun X => lMake_any a on fr X ha h1 h2
 unfold MkPost at hMk
 rw [← hq] at hMk
 have hq4 : q ≤ 4 := by omega
 obtain ⟨no, hno⟩ : ∃ x, x = mkOn on (2 ^ q) := ⟨_, rfl⟩
 obtain ⟨nf, hnf⟩ : ∃ x, x = mkFr on fr (2 ^ q) := ⟨_, rfl⟩
 rw [← hno, ← hnf] at hMk
 have HMF := Lib.hid (show MkF q no nf by rw [hno, hnf]; exact mkF_of on fr q)
 have HMK := Lib.hid hMk
 clear hMk hno hnf ha h1 h2 hq
 go_enter Tryz.func11, Tryz.ntmps11
 go_wp2_with fail
 refine HK.out.mono ?_
 rintro e W0 ⟨rfl, hb⟩
 have HB0 := Lib.hid hb
 clear hb HK
 go_wp2_with fail
 refine (HMK.out _).mono ?_
 rintro e W1 ⟨A, B, c, d, rfl, hc, hc9, hA, hB, hT, hb⟩
 have HT := Lib.hid hT
 have HB1 := Lib.hid (HB0.out.trans (hb.mono HB0.out.size))
 have hm1 := (Hp.start W1).new 26 [.int .i64 (q : Int), .slice A no.length c, .slice B nf.length d]
 simp only [List.nil_append] at hm1
 have HM1 := Lib.hid hm1
 have HCC := Lib.hid (And.intro hc hc9)
 clear hc hc9 hA hB hT hb hm1 HMK
 by_cases h10 : 10 < no.length
 ·have h10z : (10 : Int) < (no.length : Int) := by omega
  go_wp2_with fail
  exact bodyPost_ret (v := .bool true) (by simp [results, Tryz.results11, go_sem]) rfl ⟨rfl, HB1.out.trans (HM1.out.below.mono HB1.out.size)⟩
 have h10z : decide ((10 : Int) < (no.length : Int)) = false := decide_eq_false (by omega)
 have hck := chk_mk HMF.out (show q ≤ 8 by omega)
 have hsk := sml_mk HMF.out (show q ≤ 5 by omega)
 have hmay : ∀ r ∈ no, (mayM (zR no) (zR nf)).testBit r = true := fun r hr => by
  unfold mayM
  rw [Nat.testBit_or, show (zR no).map Int.toNat = no from zR_on no, rowM_bit, decide_eq_true hr]; rfl
 have hP0 := sum_primes (show q ≤ 8 by omega) HMF.out.on hmay
 obtain ⟨hS0, hSl⟩ := sum_least (show q ≤ 8 by omega) HMF.out.on hmay
 have hPl := prime_few (q := q) (on := rowM no) (may := mayM (zR no) (zR nf)) hq4
 obtain ⟨MY, hMY⟩ : ∃ x, x = mayM (zR no) (zR nf) := ⟨_, rfl⟩
 have hLS := fun X (h : Below W1.heap.size W1 X) => iLeast_ok A B c d no.length nf.length q (zR no) (zR nf) X (HT.out.below h) hsk
 have hPR := fun X (h : Below W1.heap.size W1 X) => iPrimes_ok A B c d no.length nf.length q (zR no) (zR nf) X (HT.out.below h) hck
 have hES := fun X (h : Below W1.heap.size W1 X) => iEssential_ok A B c d no.length nf.length q (zR no) (zR nf) X (HT.out.below h) hck
 have hAP := fun X (h : Below W1.heap.size W1 X) => iApart_ok A B c d no.length nf.length q (zR no) (zR nf) X (HT.out.below h) hsk HCC.out.1 HCC.out.2
 have hVE := fun X (h : Below W1.heap.size W1 X) (S : List (Nat × Nat)) (As : Option Addr) (ms cs : Nat) (hS : CqRd X X.heap.size As (zP S)) (hs : SumP q MY no S) (hms : ms = S.length) (hm1 : ms ≤ 256) => iVerify_ok A B As c d no.length nf.length q ms cs (zR no) (zR nf) (zP S) X (HT.out.below h) hck hS (by rw [List.length_map]; exact hms) (by omega) (fun x hx => by
  obtain ⟨y, hy, rfl⟩ := List.mem_map.1 hx
  have := (prime_right (show q ≤ 8 by omega) (hs.1 y hy)).2.2.1
  show ((y.2 : Nat) : Int) ≤ _
  omega)
 have hVO : ∀ S, SumP q MY no S → vrE q (rowM no) MY (zP S) = 0 := fun S hs => sum_ok (show q ≤ 8 by omega) HMF.out.on hs
 have hpe : tPr q (zR no) (zR nf) = prS q (rowM no) MY := by rw [hMY]; unfold tPr mayM; rw [show (zR no).map Int.toNat = no from zR_on no]
 rw [← hMY] at hP0 hS0 hSl hPl hLS hAP hVE
 rw [hpe] at hPR hES
 rw [zR_on] at hLS hES hAP hVE
 have hES0 := sum_ess hS0
 have hAP0 := sum_apart (show q ≤ 8 by omega) HMF.out.so HMF.out.on hS0
 have hTB := fun r => sum_table (r := r) (show q ≤ 8 by omega) HMF.out.on hS0
 obtain ⟨P, hP⟩ : ∃ P, P = prS q (rowM no) MY := ⟨_, rfl⟩
 obtain ⟨S, hS⟩ : ∃ S, S = lsL q MY no := ⟨_, rfl⟩
 obtain ⟨R, hR⟩ : ∃ R, R = apL q MY no := ⟨_, rfl⟩
 rw [← hP] at hP0 hPR hES hPl hES0 hSl
 rw [← hS] at hS0 hLS hSl hES0 hAP0 hTB
 rw [← hR] at hAP hAP0
 obtain ⟨E, hE⟩ : ∃ E, E = essL P no := ⟨_, rfl⟩
 rw [← hE] at hES hES0
 obtain ⟨m, hm⟩ : ∃ m, m = P.length := ⟨_, rfl⟩
 obtain ⟨ms, hms⟩ : ∃ m, m = S.length := ⟨_, rfl⟩
 obtain ⟨mr, hmr⟩ : ∃ m, m = R.length := ⟨_, rfl⟩
 obtain ⟨ke, hke⟩ : ∃ k, k = E.length := ⟨_, rfl⟩
 rw [← hm] at hPR hPl hSl
 rw [← hms] at hLS hSl hAP0
 rw [← hmr] at hAP hAP0
 rw [← hke] at hES
 have HLS := Lib.hid hLS
 have HPR := Lib.hid hPR
 have HES := Lib.hid hES
 have HAP := Lib.hid hAP
 have HVP := Lib.hid (fun X (h : Below W1.heap.size W1 X) Ap cp (hc : CqRd X X.heap.size Ap (zP P)) => by
  have := hVE X h P Ap m cp hc hP0 hm hPl
  rw [hVO P hP0] at this
  exact this)
 have HVS := Lib.hid (fun X (h : Below W1.heap.size W1 X) As cs (hc : CqRd X X.heap.size As (zP S)) => by
  have := hVE X h S As ms cs hc hS0 hms (by omega)
  rw [hVO S hS0] at this
  exact this)
 have HF := Lib.hid (And.intro hm (And.intro hms (And.intro hmr (And.intro hke (And.intro hES0 (And.intro hTB (And.intro hMY hS0)))))))
 have hsz : ms ≤ 256 ∧ m ≤ 256 ∧ mr ≤ ms := ⟨by omega, hPl, hAP0⟩
 have HND := Lib.hid (show E.length ≤ 256 by rw [hE]; unfold essL; exact Nat.le_trans (List.length_filter_le _ _) (by rw [← hm]; exact hPl))
 clear hck hsk hmay hP0 hSl hPl hLS hPR hES hAP hVE hVO hpe hES0 hAP0 hTB hP hS hR hE hm hms hmr hke hS0 hMY
 obtain ⟨n, hn⟩ : ∃ n, n = no.length := ⟨_, rfl⟩
 rw [← hn] at HM1 h10z HLS HPR HES HAP HVP HVS
 rw [← hn]
 have HN := Lib.hid hn
 clear hn
 go_wp2_with fail
 refine (HLS.out _ HM1.out.below).mono ?_
 rintro e W2 ⟨As, cs, rfl, ho, hb⟩
 have HS2 := Lib.hid (own_cq ho HF.out.2.1)
 have HM2 := Lib.hid (HM1.out.step hb)
 have t0 : W2.cell? ⟨W1.heap.size, 0, none⟩ = some (.int .i64 (q : Int)) := (HM2.out.at_ 0 rfl).cell 0
 have t1 : W2.cell? ⟨W1.heap.size, 1, none⟩ = some (.slice A n c) := (HM2.out.at_ 0 rfl).cell 1
 have t2 : W2.cell? ⟨W1.heap.size, 2, none⟩ = some (.slice B nf.length d) := (HM2.out.at_ 0 rfl).cell 2
 clear ho hb
 go_wp2_with fail
 refine (HPR.out _ HM2.out.below).mono ?_
 rintro e W3 ⟨Ap, cp, rfl, ho, hb⟩
 have HP3 := Lib.hid (own_cq ho HF.out.1)
 have HS3 := Lib.hid (HS2.out.step hb)
 have HM3 := Lib.hid (HM2.out.step hb)
 clear ho hb t0 t1 t2
 have t0 : W3.cell? ⟨W1.heap.size, 0, none⟩ = some (.int .i64 (q : Int)) := (HM3.out.at_ 0 rfl).cell 0
 have t1 : W3.cell? ⟨W1.heap.size, 1, none⟩ = some (.slice A n c) := (HM3.out.at_ 0 rfl).cell 1
 have t2 : W3.cell? ⟨W1.heap.size, 2, none⟩ = some (.slice B nf.length d) := (HM3.out.at_ 0 rfl).cell 2
 go_wp2_with fail
 refine (HES.out _ HM3.out.below).mono ?_
 rintro e W4 ⟨Ae, ce, rfl, ho, hb⟩
 have HE4 := Lib.hid (own_cq ho HF.out.2.2.2.1)
 have HP4 := Lib.hid (HP3.out.step hb)
 have HS4 := Lib.hid (HS3.out.step hb)
 have HM4 := Lib.hid (HM3.out.step hb)
 clear ho hb t0 t1 t2
 have t0 : W4.cell? ⟨W1.heap.size, 0, none⟩ = some (.int .i64 (q : Int)) := (HM4.out.at_ 0 rfl).cell 0
 have t1 : W4.cell? ⟨W1.heap.size, 1, none⟩ = some (.slice A n c) := (HM4.out.at_ 0 rfl).cell 1
 have t2 : W4.cell? ⟨W1.heap.size, 2, none⟩ = some (.slice B nf.length d) := (HM4.out.at_ 0 rfl).cell 2
 go_wp2_with fail
 refine (HAP.out _ HM4.out.below).mono ?_
 rintro e W5 ⟨Ar, cr, rfl, -, hb⟩
 have HE5 := Lib.hid (HE4.out.step hb)
 have HP5 := Lib.hid (HP4.out.step hb)
 have HS5 := Lib.hid (HS4.out.step hb)
 have HM5 := Lib.hid (HM4.out.step hb)
 clear hb t0 t1 t2
 have t0 : W5.cell? ⟨W1.heap.size, 0, none⟩ = some (.int .i64 (q : Int)) := (HM5.out.at_ 0 rfl).cell 0
 have t1 : W5.cell? ⟨W1.heap.size, 1, none⟩ = some (.slice A n c) := (HM5.out.at_ 0 rfl).cell 1
 have t2 : W5.cell? ⟨W1.heap.size, 2, none⟩ = some (.slice B nf.length d) := (HM5.out.at_ 0 rfl).cell 2
 go_wp2_with fail
 refine (HVS.out _ HM5.out.below As cs HS5.out).mono ?_
 rintro e W6 ⟨rfl, hb⟩
 have HE6 := Lib.hid (HE5.out.step hb)
 have HP6 := Lib.hid (HP5.out.step hb)
 have HS6 := Lib.hid (HS5.out.step hb)
 have HM6 := Lib.hid (HM5.out.step hb)
 clear hb t0 t1 t2
 have t0 : W6.cell? ⟨W1.heap.size, 0, none⟩ = some (.int .i64 (q : Int)) := (HM6.out.at_ 0 rfl).cell 0
 have t1 : W6.cell? ⟨W1.heap.size, 1, none⟩ = some (.slice A n c) := (HM6.out.at_ 0 rfl).cell 1
 have t2 : W6.cell? ⟨W1.heap.size, 2, none⟩ = some (.slice B nf.length d) := (HM6.out.at_ 0 rfl).cell 2
 go_wp2_with fail
 refine (HVP.out _ HM6.out.below Ap cp HP6.out).mono ?_
 rintro e W7 ⟨rfl, hb⟩
 have HE7 := Lib.hid (HE6.out.step hb)
 have HS7 := Lib.hid (HS6.out.step hb)
 have HM7 := Lib.hid (HM6.out.step hb)
 have hmm : decide ((ms : Int) < (mr : Int)) = false := decide_eq_false (by omega)
 have hke : ke ≤ 65536 := by
  rw [HF.out.2.2.2.1]
  have h1 := HF.out.2.2.2.2.1
  have hnd := HND.out
  exact Nat.le_trans hnd (by omega)
 clear hb t0 t1 t2
 go_wp2_with fail
 clear hmm h10z
 have hms2 : ms ≤ 256 := hsz.1
 clear hsz
 go_loopw [16] (fun x wr => ∃ i : Nat, i ≤ ke ∧ x = .int .i64 (i : Int) ∧ Below W7.heap.size W7 wr) (fun x _ => ke - (intOf x).toNat)
 case atStart => exact ⟨0, Nat.zero_le _, rfl, Below.refl _ _⟩
 case round =>
  obtain ⟨wo, rfl⟩ : ∃ W, W = wr := ⟨_, rfl⟩
  obtain ⟨i, hi, rfl, hb⟩ := hrel
  have HBO := Lib.hid hb
  clear hb
  by_cases hlt : i < ke
  ·have hiz : (i : Int) < (ke : Int) := by omega
   have hiE : i < E.length := by rw [← HF.out.2.2.2.1]; exact hlt
   obtain ⟨g4, o4, hAe, hg4, hcc⟩ := (HE7.out.step HBO.out) (by rw [List.length_map]; omega)
   obtain ⟨e0, e1⟩ := hcc i (by rw [List.length_map]; exact hiE)
   rw [zP_get hiE] at e0 e1
   have hmem := HF.out.2.2.2.2.1 _ (List.getElem_mem hiE)
   have hEi : E.getD i (0, 0) = E[i] := by rw [List.getD_eq_getElem?_getD, List.getElem?_eq_getElem hiE]; rfl
   rw [← hEi] at hmem
   obtain ⟨z, hz⟩ : ∃ z, z = E.getD i (0, 0) := ⟨_, rfl⟩
   rw [← hz] at e0 e1 hmem
   obtain ⟨ea, eb⟩ := z
   dsimp only at e0 e1
   have HEC := Lib.hid (show ∀ X, Below wo.heap.size wo X → g4 < X.heap.size ∧ X.cell? ⟨g4, o4 + i * 2, none⟩ = some (.int .i64 (ea : Int)) ∧ X.cell? ⟨g4, o4 + i * 2 + 1, none⟩ = some (.int .i64 (eb : Int)) from fun X h => ⟨Nat.lt_of_lt_of_le hg4 h.size, (h.cell (p := ⟨g4, o4 + i * 2, none⟩) hg4).trans e0, (h.cell (p := ⟨g4, o4 + i * 2 + 1, none⟩) hg4).trans e1⟩)
   subst hAe
   have HMEM := Lib.hid hmem
   have HIL := Lib.hid hlt
   obtain ⟨i2, hi2⟩ : ∃ z : Int, z = (i : Int) + 1 := ⟨_, rfl⟩
   have hwi : IntKind.i64.wrap ((i : Int) + 1) = i2 := by rw [hi2]; exact IntWalk.i64_in _ (by omega)
   have HI2 := Lib.hid hi2
   clear hi2 hlt hi hcc hg4 hmem hEi hz hiE e0 e1
   go_wp2_with fail
   go_loopw [17, 18] (fun y x wx => ∃ k : Nat, k ≤ ms ∧ x = .int .i64 (k : Int) ∧ y = .bool ((S.take k).any fun x => x == (ea, eb)) ∧ Below wo.heap.size wo wx) (fun _ x _ => ms - (intOf x).toNat)
   case atStart => exact ⟨0, Nat.zero_le _, rfl, rfl, Below.refl _ _⟩
   case round =>
    obtain ⟨wi, rfl⟩ : ∃ W, W = wr := ⟨_, rfl⟩
    obtain ⟨k, hk, rfl, rfl, hb⟩ := hrel
    have HBI := Lib.hid hb
    clear hb
    by_cases hlt : k < ms
    ·have hkz : (k : Int) < (ms : Int) := by omega
     have hkS : k < S.length := by rw [← HF.out.2.1]; exact hlt
     obtain ⟨g5, o5, hAs, hg5, hcc⟩ := ((HS7.out.step HBO.out).step HBI.out) (by rw [List.length_map]; omega)
     obtain ⟨y0, y1⟩ := hcc k (by rw [List.length_map]; exact hkS)
     rw [zP_get hkS] at y0 y1
     obtain ⟨f0, f1, f2⟩ := HEC.out wi HBI.out
     have htk := List.take_succ_eq_append_getElem hkS
     have hSk : S.getD k (0, 0) = S[k] := by rw [List.getD_eq_getElem?_getD, List.getElem?_eq_getElem hkS]; rfl
     rw [← hSk] at htk
     obtain ⟨z, hz⟩ : ∃ z, z = S.getD k (0, 0) := ⟨_, rfl⟩
     rw [← hz] at y0 y1 htk
     obtain ⟨sa, sb⟩ := z
     dsimp only at y0 y1
     subst hAs
     have hst : (S.take (k + 1)).any (fun x => x == (ea, eb)) = ((S.take k).any (fun x => x == (ea, eb)) || ((sa, sb) == (ea, eb))) := by rw [htk, List.any_append, List.any_cons, List.any_nil, Bool.or_false]
     obtain ⟨av, hav⟩ : ∃ b, b = (S.take k).any fun x => x == (ea, eb) := ⟨_, rfl⟩
     rw [← hav] at hst ⊢
     have HST := Lib.hid hst
     have HKL := Lib.hid hlt
     obtain ⟨k2, hk2⟩ : ∃ z : Int, z = (k : Int) + 1 := ⟨_, rfl⟩
     have hwk : IntKind.i64.wrap ((k : Int) + 1) = k2 := by rw [hk2]; exact IntWalk.i64_in _ (by omega)
     have HK2 := Lib.hid hk2
     have hg5' : g5 < wi.heap.size := hg5
     clear hk2 hlt hk hcc hg5 htk hSk hz hkS hst hav
     have d0 : wi.drew.cell? ⟨g5, o5 + k * 2, none⟩ = some (.int .i64 (sa : Int)) := y0
     have d1 : wi.drew.cell? ⟨g5, o5 + k * 2 + 1, none⟩ = some (.int .i64 (sb : Int)) := y1
     have d2 : wi.drew.cell? ⟨g4, o4 + i * 2, none⟩ = some (.int .i64 (ea : Int)) := f1
     have d3 : wi.drew.cell? ⟨g4, o4 + i * 2 + 1, none⟩ = some (.int .i64 (eb : Int)) := f2
     have d4 : g5 < wi.drew.heap.size := hg5'
     have d5 : g4 < wi.drew.heap.size := f0
     cases av with
     | true =>
      clear y0 y1 f0 f1 f2 hg5' d0 d1 d2 d3 d4 d5
      go_wp2_with fail
      go_quiet (fail)
      go_wp2_with fail
      go_roundw
      case rel => exact ⟨k + 1, HKL.out, by rw [HK2.out]; rfl, by rw [HST.out]; simp, bw_drewN HBI.out nq⟩
      case measure => have := HKL.out; have := HK2.out; simp only [intOf]; omega
     | false =>
      by_cases hq1 : sa = ea
      ·subst hq1
       by_cases hq2 : sb = eb
       ·subst hq2
        go_wp2_with fail
        go_quiet (fail)
        go_wp2_with fail
        go_roundw
        case rel => exact ⟨k + 1, HKL.out, by rw [HK2.out]; rfl, by rw [HST.out]; simp, bw_drewN HBI.out nq⟩
        case measure => have := HKL.out; have := HK2.out; simp only [intOf]; omega
       ·have hqb : ((sb : Int) == (eb : Int)) = false := by rw [beq_eq_false_iff_ne]; omega
        have HQ := Lib.hid hq2
        go_wp2_with fail
        go_quiet (fail)
        go_wp2_with fail
        go_roundw
        case rel => exact ⟨k + 1, HKL.out, by rw [HK2.out]; rfl, by rw [HST.out]; simp [HQ.out], bw_drewN HBI.out nq⟩
        case measure => have := HKL.out; have := HK2.out; simp only [intOf]; omega
      ·have hqa : ((sa : Int) == (ea : Int)) = false := by rw [beq_eq_false_iff_ne]; omega
       have HQ := Lib.hid hq1
       go_wp2_with fail
       go_quiet (fail)
       go_wp2_with fail
       go_roundw
       case rel => exact ⟨k + 1, HKL.out, by rw [HK2.out]; rfl, by rw [HST.out]; simp [HQ.out], bw_drewN HBI.out nq⟩
       case measure => have := HKL.out; have := HK2.out; simp only [intOf]; omega
    ·obtain rfl : ms = k := by omega
     have hkz : ¬ (ms : Int) < (ms : Int) := by omega
     have hall : ((S.take ms).any fun x => x == (ea, eb)) = true := by
      rw [List.take_of_length_le (by rw [HF.out.2.1]; exact Nat.le_refl _), List.any_eq_true]
      exact ⟨_, HMEM.out, by simp⟩
     rw [hall]
     clear hall hk hlt
     go_wp2_with fail
     go_roundw
     case rel => exact ⟨i + 1, HIL.out, by rw [HI2.out]; rfl, HBO.out.trans (HBI.out.mono HBO.out.size)⟩
     case measure => have := HIL.out; have := HI2.out; simp only [intOf]; omega
  ·obtain rfl : ke = i := by omega
   have hiz : ¬ (ke : Int) < (ke : Int) := by omega
   have HM8 := Lib.hid (HM7.out.step HBO.out)
   have HS8 := Lib.hid (HS7.out.step HBO.out)
   have t0 : wo.cell? ⟨W1.heap.size, 0, none⟩ = some (.int .i64 (q : Int)) := (HM8.out.at_ 0 rfl).cell 0
   have hwl : W1.heap.size < wo.heap.size := (HM8.out.at_ 0 rfl).lt
   have hfo := iFormula_any As ms cs q (zP S) wo (by omega) HS8.out (by rw [List.length_map]; exact HF.out.2.1) (by omega) (fun x hx => by
    obtain ⟨y, hy, rfl⟩ := List.mem_map.1 hx
    have := (prime_right (show q ≤ 8 by omega) (HF.out.2.2.2.2.2.2.2.1 y hy)).2.2.1
    show ((y.2 : Nat) : Int) ≤ _
    omega)
   have HFO := Lib.hid hfo
   have hfe : fmE (q : Int) (zP S) = 0 := by
    unfold fmE
    rw [if_neg (by omega), Int.toNat_natCast, if_pos]
    refine List.all_eq_true.2 fun x hx => ?_
    obtain ⟨y, hy, rfl⟩ := List.mem_map.1 hx
    exact (prime_right (show q ≤ 8 by omega) (HF.out.2.2.2.2.2.2.2.1 y hy)).1
   have HFE := Lib.hid hfe
   clear hi hlt hfo hfe
   go_wp2_with fail
   refine HFO.out.mono ?_
   rintro e w9 (⟨hne, -⟩ | ⟨-, A', cp', rfl, hcp, hF, hb9⟩)
   ·exact absurd HFE.out hne
   obtain ⟨hfm, hvr⟩ := sumF_ok (n := q) (by omega) (zP S) (by rw [List.length_map, ← HF.out.2.1]; exact hms2)
   have hfs : FsR w9 (lowB w9.heap.size) A' ((zP S).map (prodT q)) := by
    have := hF.mono (S' := lowB w9.heap.size) fun b hb => hb.2
    rwa [Int.toNat_natCast] at this
   have HOF := Lib.hid (show ∀ X, Below w9.heap.size w9 X → Calls Tryz.prog 35 #[.agg #[.int .i64 4, .int .i64 0, .slice A' ms cp'], .int .i64 (q : Int)] X (OfPost (q : Int) (Fm.nd 4 0 ((zP S).map (prodT q))) X) from fun X h => by
    have := iTable_any (Fm.nd 4 0 ((zP S).map (prodT q))) A' cp' (q : Int) X hfm (hfs.step h)
    have e : (Fm.nd 4 0 ((zP S).map (prodT q))).l.length = ms := by show ((zP S).map (prodT q)).length = ms; rw [List.length_map, List.length_map]; exact HF.out.2.1.symm
    rw [e] at this
    exact this)
   have HOE := Lib.hid (show ofE (q : Int) (Fm.nd 4 0 ((zP S).map (prodT q))) = 0 by
    unfold ofE
    rw [if_neg (by omega), if_pos (List.all_eq_true.2 fun x hx => decide_eq_true (hvr x hx))])
   have hzl : (zP S).length = ms := by rw [List.length_map]; exact HF.out.2.1.symm
   rw [hzl]
   have HM9 := Lib.hid (HM8.out.step hb9)
   have t0 : w9.cell? ⟨W1.heap.size, 0, none⟩ = some (.int .i64 (q : Int)) := (HM9.out.at_ 0 rfl).cell 0
   have hwl : W1.heap.size < w9.heap.size := (HM9.out.at_ 0 rfl).lt
   clear hcp hF hb9 hfm hvr hfs hzl HFE
   go_wp2_with fail
   refine (HOF.out _ (bw_new (Below.refl _ _) _)).mono ?_
   rintro e w10 (⟨hne, -⟩ | ⟨-, Au, cu, rfl, hRu, hb10⟩)
   ·exact absurd HOE.out hne
   rw [Int.toNat_natCast] at hRu ⊢
   obtain ⟨U, hU⟩ : ∃ U, U = tabF q (Fm.nd 4 0 ((zP S).map (prodT q))) := ⟨_, rfl⟩
   have htb := HF.out.2.2.2.2.2.1
   have hUe : tabF q (Fm.nd 4 0 ((cqI S).map (prodT q))) = U := hU.symm
   rw [← hU] at hRu ⊢
   have HTB := Lib.hid (show ∀ r : Nat, (r ∈ no → r ∈ U) ∧ (r ∈ U → r ∈ no ∨ r ∈ nf) from fun r => by
    have h1 := htb r
    rw [hUe, HF.out.2.2.2.2.2.2.1] at h1
    refine ⟨h1.1, fun h => ?_⟩
    have h2 := h1.2 h
    unfold mayM at h2
    rw [Nat.testBit_or, show (zR no).map Int.toNat = no from zR_on no, show (zR nf).map Int.toNat = nf from zR_on nf, rowM_bit, rowM_bit, Bool.or_eq_true, decide_eq_true_eq, decide_eq_true_eq] at h2
    exact h2)
   have hUl : U.length ≤ 256 := by rw [hU]; exact Nat.le_trans (tabK_len _ _ _) (pow_le8 (by omega))
   obtain ⟨nu, hnu⟩ : ∃ k, k = U.length := ⟨_, rfl⟩
   rw [← hnu] at hUl ⊢
   have HNU := Lib.hid hnu
   have hm10 := ((HM9.out.alloc (.cells #[.int .i64 4, .int .i64 0, .slice A' ms cp'] 53)).step hb10).new 26 [.int .i64 (q : Int), .slice Au nu cu, .slice none 0 0]
   simp only [List.nil_append, List.cons_append] at hm10
   have HM10 := Lib.hid hm10
   have HRU := Lib.hid (rd_stepB hRu (bw_new (Below.refl w10.heap.size w10) (.cells #[.int .i64 (q : Int), .slice Au nu cu, .slice none 0 0] 26)))
   obtain ⟨N, hN⟩ : ∃ N, N = 2 ^ q := ⟨_, rfl⟩
   have hN8 : N ≤ 16 := by rw [hN]; exact Nat.pow_le_pow_right (n := 2) (by decide) (show q ≤ 4 by omega)
   have hsh : wrap64 (2 ^ q) = (N : Int) := by
    have e : ((2 : Int) ^ q) = (N : Int) := by rw [hN, Int.natCast_pow]; rfl
    rw [e]; unfold wrap64; omega
   have HSH := Lib.hid hsh
   have hwn : IntKind.u64.wrap (q : Int) = (q : Int) := IntWalk.u64_in _ ⟨by omega, by omega⟩
   have hn64 : (q : Int) < 64 := by omega
   have HNM := Lib.hid (show n ≤ 1000 ∧ nf.length ≤ 1000 by have := HT.out.nm; rw [HN.out]; exact ⟨this.1, this.2⟩)
   clear hRu hb10 hU htb hUe hnu hm10 t0 hwl hsh hN
   go_wp2_with fail
   go_loopw [21] (fun x wr => ∃ r : Nat, r ≤ N ∧ x = .int .i64 (r : Int) ∧ Below (w10.alloc (.cells #[.int .i64 (q : Int), .slice Au nu cu, .slice none 0 0] 26)).heap.size (w10.alloc (.cells #[.int .i64 (q : Int), .slice Au nu cu, .slice none 0 0] 26)) wr) (fun x _ => N - (intOf x).toNat)
   case atStart => exact ⟨0, Nat.zero_le _, rfl, Below.refl _ _⟩
   case round =>
    obtain ⟨wi, rfl⟩ : ∃ W, W = wr := ⟨_, rfl⟩
    obtain ⟨r, hr, rfl, hb⟩ := hrel
    have HBI := Lib.hid hb
    have t0 : wi.cell? ⟨W1.heap.size, 0, none⟩ = some (.int .i64 (q : Int)) := ((HM10.out.step hb).at_ 0 rfl).cell 0
    have hwl : W1.heap.size < wi.heap.size := ((HM10.out.step hb).at_ 0 rfl).lt
    have hwu : w10.heap.size < wi.heap.size := ((HM10.out.step hb).at_ 1 rfl).lt
    clear hb
    by_cases hlt : r < N
    ·have hrz : (r : Int) < (N : Int) := by omega
     have HRL := Lib.hid hlt
     obtain ⟨r2, hr2⟩ : ∃ z : Int, z = (r : Int) + 1 := ⟨_, rfl⟩
     have hwr : IntKind.i64.wrap ((r : Int) + 1) = r2 := by rw [hr2]; exact IntWalk.i64_in _ (by omega)
     have HR2 := Lib.hid hr2
     have hmz : ∀ l : List Nat, decide ((r : Int) ∈ zR l) = decide (r ∈ l) := fun l => by
      rw [decide_eq_decide, List.mem_map]
      exact ⟨fun ⟨y, hy, e⟩ => by have e' : (y : Int) = (r : Int) := e; have : y = r := by omega
                                  rw [← this]; exact hy, fun h => ⟨r, h, rfl⟩⟩
     obtain ⟨ba, hba⟩ : ∃ b, b = decide (r ∈ no) := ⟨_, rfl⟩
     obtain ⟨bu, hbu⟩ : ∃ b, b = decide (r ∈ U) := ⟨_, rfl⟩
     obtain ⟨bf, hbf⟩ : ∃ b, b = decide (r ∈ nf) := ⟨_, rfl⟩
     have HIA := Lib.hid (show ∀ X, Below wi.heap.size wi X → Calls Tryz.prog 39 #[.slice A n c, .int .i64 (r : Int)] X (fun e w' => e = .returned (.bool ba) ∧ X = w') from fun X h => by
      rw [hba, ← hmz]
      exact lin_any A c n (r : Int) (zR no) X (HT.out.below (((HM10.out.step HBI.out).step h).below)).on (by rw [List.length_map]; exact HN.out) HNM.out.1)
     have HIU := Lib.hid (show ∀ X, Below wi.heap.size wi X → Calls Tryz.prog 39 #[.slice Au nu cu, .int .i64 (r : Int)] X (fun e w' => e = .returned (.bool bu) ∧ X = w') from fun X h => by
      rw [hbu, ← hmz]
      exact lin_any Au cu nu (r : Int) (zR U) X (rd_stepB (rd_stepB HRU.out HBI.out) h) (by rw [List.length_map]; exact HNU.out) (by omega))
     have HIF := Lib.hid (show ∀ X, Below wi.heap.size wi X → Calls Tryz.prog 39 #[.slice B nf.length d, .int .i64 (r : Int)] X (fun e w' => e = .returned (.bool bf) ∧ X = w') from fun X h => by
      rw [hbf, ← hmz]
      exact lin_any B d nf.length (r : Int) (zR nf) X (HT.out.below (((HM10.out.step HBI.out).step h).below)).free (by rw [List.length_map]) HNM.out.2)
     have HTC := Lib.hid (show ∀ X, Below wi.heap.size wi X → X.cell? ⟨W1.heap.size, 1, none⟩ = some (.slice A n c) ∧ X.cell? ⟨w10.heap.size, 1, none⟩ = some (.slice Au nu cu) ∧ X.cell? ⟨W1.heap.size, 2, none⟩ = some (.slice B nf.length d) from fun X h => ⟨(((HM10.out.step HBI.out).step h).at_ 0 rfl).cell 1, (((HM10.out.step HBI.out).step h).at_ 1 rfl).cell 1, (((HM10.out.step HBI.out).step h).at_ 0 rfl).cell 2⟩)
     have hcase : (ba = true ∧ bu = true) ∨ (ba = false ∧ bu = false) ∨ (ba = false ∧ bu = true ∧ bf = true) := by
      obtain ⟨h1, h2⟩ := HTB.out r
      by_cases ha : r ∈ no
      ·exact .inl ⟨by rw [hba]; exact decide_eq_true ha, by rw [hbu]; exact decide_eq_true (h1 ha)⟩
      ·by_cases hu : r ∈ U
       ·exact .inr (.inr ⟨by rw [hba]; exact decide_eq_false ha, by rw [hbu]; exact decide_eq_true hu, by rw [hbf]; exact decide_eq_true ((h2 hu).resolve_left ha)⟩)
       ·exact .inr (.inl ⟨by rw [hba]; exact decide_eq_false ha, by rw [hbu]; exact decide_eq_false hu⟩)
     obtain ⟨p1, p2, p3⟩ := HTC.out wi (Below.refl _ _)
     clear hr2 hlt hr hba hbu hbf hmz
     have hsh := HSH.out
     rcases hcase with ⟨rfl, rfl⟩ | ⟨rfl, rfl⟩ | ⟨rfl, rfl, rfl⟩
     ·go_wp2_with fail
      refine (HIA.out wi (Below.refl _ _)).mono ?_
      rintro e w' ⟨rfl, rfl⟩
      go_wp2_with fail
      refine (HIU.out wi (Below.refl _ _)).mono ?_
      rintro e w' ⟨rfl, rfl⟩
      go_wp2_with fail
      refine (HIU.out wi (Below.refl _ _)).mono ?_
      rintro e w' ⟨rfl, rfl⟩
      go_wp2_with fail
      refine (HIA.out wi (Below.refl _ _)).mono ?_
      rintro e w' ⟨rfl, rfl⟩
      go_wp2_with fail
      go_roundw
      case rel => exact ⟨r + 1, HRL.out, by rw [HR2.out]; rfl, HBI.out⟩
      case measure => clear hsh; have := HRL.out; have := HR2.out; simp only [intOf]; omega
     ·go_wp2_with fail
      refine (HIA.out wi (Below.refl _ _)).mono ?_
      rintro e w' ⟨rfl, rfl⟩
      go_wp2_with fail
      refine (HIU.out wi (Below.refl _ _)).mono ?_
      rintro e w' ⟨rfl, rfl⟩
      go_wp2_with fail
      go_roundw
      case rel => exact ⟨r + 1, HRL.out, by rw [HR2.out]; rfl, HBI.out⟩
      case measure => clear hsh; have := HRL.out; have := HR2.out; simp only [intOf]; omega
     ·go_wp2_with fail
      refine (HIA.out wi (Below.refl _ _)).mono ?_
      rintro e w' ⟨rfl, rfl⟩
      go_wp2_with fail
      refine (HIU.out wi (Below.refl _ _)).mono ?_
      rintro e w' ⟨rfl, rfl⟩
      go_wp2_with fail
      refine (HIA.out wi (Below.refl _ _)).mono ?_
      rintro e w' ⟨rfl, rfl⟩
      go_wp2_with fail
      refine (HIF.out wi (Below.refl _ _)).mono ?_
      rintro e w' ⟨rfl, rfl⟩
      go_wp2_with fail
      go_roundw
      case rel => exact ⟨r + 1, HRL.out, by rw [HR2.out]; rfl, HBI.out⟩
      case measure => clear hsh; have := HRL.out; have := HR2.out; simp only [intOf]; omega
    ·obtain rfl : N = r := by omega
     have hrz : ¬ (N : Int) < (N : Int) := by omega
     have hsh := HSH.out
     clear hlt hr
     go_wp2_with fail
     exact bodyPost_ret (v := .bool true) (by simp [results, Tryz.results11, go_sem]) rfl ⟨rfl, HB1.out.trans ((HM10.out.step HBI.out).below.mono HB1.out.size)⟩
end Go.Proofs.YtaegjpancbmppaaGreatDoor
