/- Part 31 of 33 of the proof of the law: contracts of the functions that it reaches, and plain facts. Conditions: those that each contract names. -/
import Derived.Test.YtaegjpancbmppaaGreatDoorSumB08
import Derived.Test.YtaegjpancbmppaaGreatDoorSumB24
import Derived.Test.YtaegjpancbmppaaGreatDoorSumB15
import Derived.Test.YtaegjpancbmppaaGreatDoorSumB06
set_option linter.unusedVariables false
set_option linter.unusedSimpArgs false
namespace Go.Proofs.YtaegjpancbmppaaGreatDoor
open Go.RowKit
theorem iofrows_any (q a b : Nat) (W : World) (A : Option Addr) (n cp : Nat) (W' : World) (hq : q ≤ 8) (hn : n = (cRows q a b).length) (h : W'.ownsRow W.heap.size 3 1 (.slice A n cp) n ((cRows q a b).map nv)) :
  Calls Tryz.prog 46 #[.slice A n cp] W' fun e w' => e = .returned (.agg (setL (cM q a b)).toArray) ∧ Below W'.heap.size W' w' := by
 have hr : ∀ r ∈ cRows q a b, r < 256 := fun r hr => Nat.lt_of_lt_of_le (cRows_mem.1 hr).1 (pow_le8 hq)
 have hl : n ≤ 1000 := by
  rw [hn]
  unfold cRows
  have := List.length_filter_le (fun r => r &&& a == b) (List.range (2 ^ q))
  rw [List.length_range] at this
  have := pow_le8 hq
  omega
 refine iof_any A cp n (cRows q a b) W' (fun hl' => ?_) hr hn hl
 have := own_rd h hn
 obtain ⟨g, o, e, hg, hc⟩ := this (by rw [List.length_map]; exact hl')
 refine ⟨g, o, e, hg, fun i hi => ?_⟩
 have h2 := hc i (by rw [List.length_map]; exact hi)
 rw [List.getElem_map] at h2
 exact h2
set_option maxRecDepth 1000000 in
set_option maxHeartbeats 8000000 in
theorem iVerify_ok (A B As : Option Addr) (c d n m q ms cs : Nat) (L K : List Int) (S : List (Int × Int)) (w : World) (h : TabAt w w.heap.size A B n m L K) (hk : chkE (q : Int) L K = 0) (hS : CqRd w w.heap.size As S) (hms : ms = S.length) (hm1 : ms ≤ 1000) (h64 : ∀ x ∈ S, x.2 ≤ 9223372036854775807) :
  Calls Tryz.prog 29 #[.agg #[.int .i64 (q : Int), .slice A n c, .slice B m d], .slice As ms cs] w fun e w' => e = .returned (.int .i64 (vrE q (rowM (onR L)) (mayM L K) S)) ∧ Below w.heap.size w w' := by
 obtain ⟨hof1, hof2⟩ := of_tab (c := c) (d := d) h hk
 have HO2 := Lib.hid hof2
 obtain ⟨hq8, l1, -, k1, -⟩ := chk_rows hk
 have hCK := fun W (hb : Below w.heap.size w W) => icheck_tab (c := c) (d := d) (v := (q : Int)) h W hb
 rw [hk] at hCK
 have HCK := Lib.hid hCK
 have HS := Lib.hid (And.intro hS (And.intro hms h64))
 have hlt : rowM (onR L) < 2 ^ 256 := rowM_lt (on_small hq8 l1)
 have hmy : mayM L K = rowM (onR L) ||| rowM (onR K) := rfl
 obtain ⟨on, hon⟩ : ∃ x, x = rowM (onR L) := ⟨_, rfl⟩
 obtain ⟨fr, hfr⟩ : ∃ x, x = rowM (onR K) := ⟨_, rfl⟩
 obtain ⟨may, hmay⟩ : ∃ x, x = mayM L K := ⟨_, rfl⟩
 rw [← hon, ← hfr, ← hmay] at hmy
 rw [← hon] at hof1 hlt
 rw [← hfr] at HO2
 rw [← hon, ← hmay]
 have HO1 := Lib.hid (show ∀ W, Below w.heap.size w W → Calls Tryz.prog 46 #[.slice A n c] W fun e w' => e = .returned (.agg #[.int .u64 (wd on 0 : Nat), .int .u64 (wd on 1 : Nat), .int .u64 (wd on 2 : Nat), .int .u64 (wd on 3 : Nat)]) ∧ Below W.heap.size W w' from hof1)
 have HEI := Lib.hid (fun W => ieither_any on fr W)
 rw [← hmy] at HEI
 have HLT := Lib.hid hlt
 have hm0 := (Hp.start w).new 26 [.int .i64 (q : Int), .slice A n c, .slice B m d]
 simp only [List.nil_append] at hm0
 have HM0 := Lib.hid hm0
 have c0 := (hm0.at_ 0 rfl).cell 0
 have c1 := (hm0.at_ 0 rfl).cell 1
 have c2 := (hm0.at_ 0 rfl).cell 2
 simp only [List.getElem?_cons_zero, List.getElem?_cons_succ] at c0 c1 c2
 obtain ⟨E, hE⟩ : ∃ E, E = vrE q on may S := ⟨_, rfl⟩
 have HE := Lib.hid hE
 rw [← hE]
 clear hof1 hof2 l1 k1 hCK hS hms h64 hon hfr hmay hmy hlt hm0 hE hk h
 go_enter Tryz.func29, Tryz.ntmps29
 go_wp2_with fail
 refine (HCK.out _ HM0.out.below).mono ?_
 rintro e w1 ⟨rfl, hb1⟩
 have HM1 := Lib.hid (HM0.out.step hb1)
 clear hb1 HM0 c0 c1 c2
 have c0 : w1.cell? ⟨w.heap.size, 0, none⟩ = some (.int .i64 (q : Int)) := (HM1.out.at_ 0 rfl).cell 0
 have c1 : w1.cell? ⟨w.heap.size, 1, none⟩ = some (.slice A n c) := (HM1.out.at_ 0 rfl).cell 1
 have c2 : w1.cell? ⟨w.heap.size, 2, none⟩ = some (.slice B m d) := (HM1.out.at_ 0 rfl).cell 2
 go_wp2_with fail
 refine (HO1.out _ HM1.out.below).mono ?_
 rintro e w2 ⟨rfl, hb2⟩
 have hm1 := (HM1.out.step hb2).new 84 [.int .u64 (wd on 0 : Nat), .int .u64 (wd on 1 : Nat), .int .u64 (wd on 2 : Nat), .int .u64 (wd on 3 : Nat)]
 simp only [List.cons_append, List.nil_append] at hm1
 have HM2 := Lib.hid hm1
 have HW1 := Lib.hid hm1.below.size
 clear hm1 hb2 c0 c1 c2
 go_upto_region 5 with fail
 --R5
 refine wp_regionJ 7 #[false, false, false, false, false, false, false] (fun ll aa W => ∃ (m0 m1 m2 m3 m4 m5 m6 : Bool) (gq : Nat), ll = #[m0, m1, m2, m3, m4, m5, m6] ∧ aa = ({ tmps := #[Value.agg #[Value.int IntKind.i64 (q : Int), Value.slice A n c, Value.slice B m d], Value.slice As ms cs, Value.pointer (some { block := w.heap.size, off := 0 }), undef, Value.int IntKind.i64 0, Value.int IntKind.i64 0, Value.pointer (some { block := w2.heap.size, off := 0 }), cwX m5 (.pointer (some ⟨gq, 0, none⟩)) (undef), undef, undef, undef, undef, Value.agg #[Value.int IntKind.i64 (q : Int), Value.slice A n c, Value.slice B m d], Value.int IntKind.i64 0, Value.int IntKind.i64 0, Value.bool false, undef, Value.pointer (some { block := w.heap.size, off := 1 }), Value.slice A n c, Value.agg #[Value.int IntKind.u64 ↑(wd on 0), Value.int IntKind.u64 ↑(wd on 1), Value.int IntKind.u64 ↑(wd on 2), Value.int IntKind.u64 ↑(wd on 3)], cwX m0 (.agg (setL on).toArray) (undef), cwX m1 (.pointer (some ⟨w.heap.size, 2, none⟩)) (undef), cwX m2 (.slice B m d) (undef), cwX m3 (.agg (setL fr).toArray) (undef), cwX m4 (.agg (setL may).toArray) (undef), undef, undef, undef, undef, undef, undef, undef, undef, undef, undef, undef, undef, undef, undef, undef, undef, undef, undef, undef, undef, undef, undef, undef, undef, undef, undef, undef, undef, undef, undef, undef, undef, undef, undef], defers := [] } : Act) ∧ (m6 = true → m5 = true) ∧ BxP w [(w.heap.size, 26, [.int .i64 (q : Int), .slice A n c, .slice B m d]), (w2.heap.size, 84, setL on)] (w2.alloc (.cells (setL on).toArray 84)).heap.size 84 (setL 0) (setL may) m5 m6 gq W) (by kernel_rfl) (by kernel_rfl) (by kernel_rfl) (by kernel_rfl) ?_ ?_ ?_ ?_
 ·rintro ll aa W ⟨m0, m1, m2, m3, m4, m5, m6, gq, rfl, _⟩
  rfl
 ·exact ⟨false, false, false, false, false, false, false, 0, rfl, rfl, fun h => absurd h (by simp), ((BxP.start HM2.out).step (bw_drew (Below.refl _ _)))⟩
 ·rintro ll aa W i o ⟨m0, m1, m2, m3, m4, m5, m6, gq, rfl, rfl, hi0, hm⟩ ho hun hall K hK
  have hi : i < 7 := (Array.getElem?_eq_some_iff.1 ho).1
  have HM := Lib.hid hm
  have HI := Lib.hid hi0
  clear hm hi0
  rcases (show i = 0 ∨ i = 1 ∨ i = 2 ∨ i = 3 ∨ i = 4 ∨ i = 5 ∨ i = 6 by omega) with rfl | rfl | rfl | rfl | rfl | rfl | rfl
  ·cases ho
   simp at hun; subst hun
   clear hall hi
   obtain ⟨q0, q1, q2, q3⟩ := set_of (HM.out.hp.at_ 1 rfl)
   go_simp
   exact hK.out _ _ ⟨true, m1, m2, m3, m4, m5, m6, gq, rfl, rfl, by have h0 := HI.out; exact fun e => by first | rfl | exact h0 e, HM.out⟩
  ·cases ho
   simp at hun; subst hun
   clear hall hi
   go_simp
   exact hK.out _ _ ⟨m0, true, m2, m3, m4, m5, m6, gq, rfl, rfl, by have h0 := HI.out; exact fun e => by first | rfl | exact h0 e, HM.out⟩
  ·cases ho
   cases (getBX hall 1 rfl : m1 = true)
   simp at hun; subst hun
   clear hall hi
   have c2 : W.cell? ⟨w.heap.size, 2, none⟩ = some (.slice B m d) := (HM.out.hp.at_ 0 rfl).cell 2
   go_simp
   exact hK.out _ _ ⟨m0, true, true, m3, m4, m5, m6, gq, rfl, rfl, by have h0 := HI.out; exact fun e => by first | rfl | exact h0 e, HM.out⟩
  ·cases ho
   cases (getBX hall 2 rfl : m2 = true)
   simp at hun; subst hun
   clear hall hi
   go_simp
   refine (HO2.out _ HM.out.hp.below).mono ?_
   rintro e W' ⟨rfl, hb⟩
   exact hK.out _ _ ⟨m0, m1, true, true, m4, m5, m6, gq, rfl, rfl, by have h0 := HI.out; exact fun e => by first | rfl | exact h0 e, HM.out.step hb⟩
  ·cases ho
   cases (getBX hall 0 rfl : m0 = true)
   cases (getBX hall 3 rfl : m3 = true)
   simp at hun; subst hun
   clear hall hi
   go_simp
   refine (HEI.out _).mono ?_
   rintro e W' ⟨rfl, hb⟩
   exact hK.out _ _ ⟨true, m1, m2, true, true, m5, m6, gq, rfl, rfl, by have h0 := HI.out; exact fun e => by first | rfl | exact h0 e, HM.out.step hb⟩
  ·cases ho
   simp at hun; subst hun
   clear hall hi
   obtain rfl : m6 = false := by
    cases m6
    ·rfl
    ·exact absurd (HI.out rfl) (by simp)
   have HN := Lib.hid HM.out.new
   go_simp
   exact hK.out _ _ ⟨m0, m1, m2, m3, m4, true, false, W.heap.size, rfl, rfl, by have h0 := HI.out; exact fun e => by first | rfl | exact h0 e, HN.out⟩
  ·cases ho
   cases (getBX hall 4 rfl : m4 = true)
   cases (getBX hall 5 rfl : m5 = true)
   simp at hun; subst hun
   clear hall hi
   have HN := Lib.hid (HM.out.rowI HW1.out)
   have hbq := HM.out.b rfl rfl
   refine step_store_rowI rfl 84 _ _ rfl rfl gq (setL may).toArray rfl rfl 84 (setL 0).toArray hbq (by kernel_rfl) rfl (by simp [setL, Value.oneCell']) ?_
   exact hK.out _ _ ⟨m0, m1, m2, m3, true, true, true, gq, rfl, rfl, by have h0 := HI.out; exact fun e => by first | rfl | exact h0 e, HN.out⟩
 ·rintro ll aa W3 ⟨m0, m1, m2, m3, m4, m5, m6, gm, rfl, rfl, _, hm⟩ hall
  cases (hall 0 (by decide) : m0 = true)
  cases (hall 1 (by decide) : m1 = true)
  cases (hall 2 (by decide) : m2 = true)
  cases (hall 3 (by decide) : m3 = true)
  cases (hall 4 (by decide) : m4 = true)
  cases (hall 5 (by decide) : m5 = true)
  cases (hall 6 (by decide) : m6 = true)
  clear hall
  have hm3 := (hm.done HW1.out).new 84 (setL 0)
  simp only [List.nil_append, List.cons_append] at hm3
  have HM3 := Lib.hid hm3
  clear hm hm3 HM2
  dsimp only [cwX, cond_true]
  go_wp2_with fail
  go_loopw [27] (fun x wr => ∃ k : Nat, k ≤ ms ∧ x = .int .i64 (k : Int) ∧ vrF q on may (S.take k) = 0 ∧ Hp w [(w.heap.size, 26, [.int .i64 (q : Int), .slice A n c, .slice B m d]), (w2.heap.size, 84, setL on), (gm, 84, setL may), (W3.heap.size, 84, setL (vrH q (S.take k)))] wr) (fun x _ => ms - (intOf x).toNat)
  case atStart => exact ⟨0, Nat.zero_le _, rfl, rfl, HM3.out⟩
  case round =>
   obtain ⟨wo, rfl⟩ : ∃ W, W = wr := ⟨_, rfl⟩
   obtain ⟨k, hk, rfl, hv0, hp⟩ := hrel
   have HP := Lib.hid hp
   have HV0 := Lib.hid hv0
   clear hv0 hp
   by_cases hlt : k < ms
   ·have hkS : k < S.length := by rw [← HS.out.2.1]; exact hlt
    have hkz : (k : Int) < (ms : Int) := by omega
    have HKL := Lib.hid hlt
    obtain ⟨k2, hk2⟩ : ∃ z : Int, z = (k : Int) + 1 := ⟨_, rfl⟩
    have hwk : IntKind.i64.wrap ((k : Int) + 1) = k2 := by rw [hk2]; exact IntWalk.i64_in _ (by omega)
    have HK2 := Lib.hid hk2
    obtain ⟨g4, o4, hA4, hg4, hq4⟩ := HS.out.1 (Nat.lt_of_le_of_lt (Nat.zero_le _) hkS)
    obtain ⟨p0, p1⟩ := hq4 k hkS
    have hx64 := HS.out.2.2 (S[k]) (List.getElem_mem _)
    have hgx : S.getD k (0, 0) = S[k] := by rw [List.getD_eq_getElem?_getD, List.getElem?_eq_getElem hkS]; rfl
    rw [hgx] at p0 p1
    have HAT := Lib.hid (fun h => vrF_at (n := q) (on := on) (may := may) hkS HV0.out h)
    have HNX := Lib.hid (fun h => vrF_next (n := q) (on := on) (may := may) hkS HV0.out h)
    have HHS := Lib.hid (show vrH q (S.take (k + 1)) = vrH q (S.take k) ||| cM q S[k].1.toNat S[k].2.toNat by rw [List.take_succ_eq_append_getElem hkS, vrH_snoc])
    obtain ⟨z, hz⟩ : ∃ z, z = S[k] := ⟨_, rfl⟩
    rw [← hz] at p0 p1 hx64 HAT HNX HHS
    obtain ⟨c', v'⟩ := z
    dsimp only at p0 p1 hx64
    have y0 : wo.cell? ⟨g4, o4 + k * 2, none⟩ = some (.int .i64 c') := (HP.out.below.cell (p := ⟨g4, _, none⟩) hg4).trans p0
    have y1 : wo.cell? ⟨g4, o4 + k * 2 + 1, none⟩ = some (.int .i64 v') := (HP.out.below.cell (p := ⟨g4, _, none⟩) hg4).trans p1
    have c0 : wo.cell? ⟨w.heap.size, 0, none⟩ = some (.int .i64 (q : Int)) := (HP.out.at_ 0 rfl).cell 0
    have hwl : w.heap.size < wo.heap.size := (HP.out.at_ 0 rfl).lt
    have HRI := Lib.hid (fun W => iright_any q c' v' W hq8)
    have H64 := Lib.hid hx64
    subst hA4
    clear hkS hk2 hlt hk hz hgx hx64 hg4 hq4 p0 p1
    go_wp2_with fail
    refine (HRI.out _).mono ?_
    rintro e w4 ⟨rfl, hb4⟩
    have HP4 := Lib.hid (((HP.out.new 37 [.int .i64 c', .int .i64 v'])).step hb4)
    clear hb4 y0 y1 c0 hwl
    cases hr : rgB q c' v' with
    | false =>
     have HEE := Lib.hid (show E = 7 by
      have hx : vrX q on may (c', v') = 7 := by unfold vrX; rw [hr]; rfl
      have h1 := HAT.out (by rw [hx]; decide)
      rw [hx] at h1
      rw [HE.out]; unfold vrE
      rw [h1, if_neg (by decide)])
     clear hr
     go_wp2_with fail
     exact bodyPost_ret (v := .int .i64 7) (by simp [results, Tryz.results29, go_sem]) rfl ⟨by rw [HEE.out], HP4.out.below⟩
    | true =>
     obtain ⟨a, b, rfl, rfl, ha, hb, hadn⟩ := rgB_nat hq8 H64.out hr
     have hpw := pow_le8 hq8
     have ha256 : a < 256 := by omega
     have hb256 : b < 256 := by omega
     have HRR := Lib.hid hr
     have hrw := fun W => irows_any q a b W hq8 ha256 hb256
     have hof := fun A n cp W W' => iofrows_any q a b W A n cp W' hq8
     obtain ⟨rn, hrn⟩ : ∃ x, x = (cRows q a b).length := ⟨_, rfl⟩
     rw [← hrn] at hrw hof
     obtain ⟨M, hM⟩ : ∃ x, x = cM q a b := ⟨_, rfl⟩
     rw [← hM] at hof
     have hml : M < 2 ^ 256 := by rw [hM]; exact cM_lt hq8
     have HRW := Lib.hid hrw
     have HOF := Lib.hid hof
     have HWI := Lib.hid (show ∀ W, Calls Tryz.prog 49 #[.agg #[.int .u64 (wd M 0 : Nat), .int .u64 (wd M 1 : Nat), .int .u64 (wd M 2 : Nat), .int .u64 (wd M 3 : Nat)], .agg #[.int .u64 (wd may 0 : Nat), .int .u64 (wd may 1 : Nat), .int .u64 (wd may 2 : Nat), .int .u64 (wd may 3 : Nat)]] W fun e w' => e = .returned (.bool (adn M may == 0)) ∧ Below W.heap.size W w' from fun W => iwithin_any M may W hml)
     have HME := Lib.hid (show ∀ W, Calls Tryz.prog 57 #[.agg #[.int .u64 (wd M 0 : Nat), .int .u64 (wd M 1 : Nat), .int .u64 (wd M 2 : Nat), .int .u64 (wd M 3 : Nat)], .agg #[.int .u64 (wd on 0 : Nat), .int .u64 (wd on 1 : Nat), .int .u64 (wd on 2 : Nat), .int .u64 (wd on 3 : Nat)]] W fun e w' => e = .returned (.bool (M &&& on != 0)) ∧ Below W.heap.size W w' from fun W => imeets_any M on W hml)
     have hhs := HHS.out
     simp only [Int.toNat_natCast] at hhs
     have hx := show vrX q on may ((a : Int), (b : Int)) = if (impB q may a b && (cM q a b &&& on != 0)) = true then 0 else 20 by unfold vrX; rw [hr, if_pos rfl]; rfl
     rw [show impB q may a b = (adn M may == 0) by rw [hM]; rfl, ← hM] at hx
     rw [← hM] at hhs
     have HH2 := Lib.hid hhs
     have HX := Lib.hid hx
     have c0 : w4.cell? ⟨w.heap.size, 0, none⟩ = some (.int .i64 (q : Int)) := (HP4.out.at_ 0 rfl).cell 0
     have y0 : w4.cell? ⟨wo.heap.size, 0, none⟩ = some (.int .i64 (a : Int)) := (HP4.out.at_ 4 rfl).cell 0
     have y1 : w4.cell? ⟨wo.heap.size, 1, none⟩ = some (.int .i64 (b : Int)) := (HP4.out.at_ 4 rfl).cell 1
     clear hr ha hb hadn hpw hhs hx hrw hof hrn hM hml
     go_wp2_with fail
     refine (HRW.out _).mono ?_
     rintro e w5 ⟨A', cp', rfl, hown, hb5⟩
     have HP5 := Lib.hid (HP4.out.step hb5)
     have HOG := Lib.hid (show Calls Tryz.prog 46 #[.slice A' rn cp'] w5 fun e w' => e = .returned (.agg #[.int .u64 (wd M 0 : Nat), .int .u64 (wd M 1 : Nat), .int .u64 (wd M 2 : Nat), .int .u64 (wd M 3 : Nat)]) ∧ Below w5.heap.size w5 w' from HOF.out A' rn cp' w4 w5 rfl hown)
     clear hown hb5 c0 y0 y1
     go_wp2_with fail
     refine HOG.out.mono ?_
     rintro e w6 ⟨rfl, hb6⟩
     have HQ6 := Lib.hid (HP5.out.step hb6)
     have HP6 := Lib.hid ((HP5.out.step hb6).new 84 (setL M))
     have hw6 : gm < w6.heap.size := ((HP5.out.step hb6).at_ 2 rfl).lt
     have hw62 : w2.heap.size < w6.heap.size := ((HP5.out.step hb6).at_ 1 rfl).lt
     have hw63 : W3.heap.size < w6.heap.size := ((HP5.out.step hb6).at_ 3 rfl).lt
     have m0 : w6.cell? ⟨gm, 0, none⟩ = some (.int .u64 (wd may 0 : Nat)) := (HQ6.out.at_ 2 rfl).cell 0
     have m1 : w6.cell? ⟨gm, 1, none⟩ = some (.int .u64 (wd may 1 : Nat)) := (HQ6.out.at_ 2 rfl).cell 1
     have m2 : w6.cell? ⟨gm, 2, none⟩ = some (.int .u64 (wd may 2 : Nat)) := (HQ6.out.at_ 2 rfl).cell 2
     have m3 : w6.cell? ⟨gm, 3, none⟩ = some (.int .u64 (wd may 3 : Nat)) := (HQ6.out.at_ 2 rfl).cell 3
     clear hb6
     go_wp2_with fail
     refine (HWI.out _).mono ?_
     rintro e w7 ⟨rfl, hb7⟩
     have HP7 := Lib.hid (HP6.out.step hb7)
     clear hb7 m0 m1 m2 m3 hw6 hw62 hw63
     have s0 : w7.cell? ⟨w6.heap.size, 0, none⟩ = some (.int .u64 (wd M 0 : Nat)) := (HP7.out.at_ 5 rfl).cell 0
     have s1 : w7.cell? ⟨w6.heap.size, 1, none⟩ = some (.int .u64 (wd M 1 : Nat)) := (HP7.out.at_ 5 rfl).cell 1
     have s2 : w7.cell? ⟨w6.heap.size, 2, none⟩ = some (.int .u64 (wd M 2 : Nat)) := (HP7.out.at_ 5 rfl).cell 2
     have s3 : w7.cell? ⟨w6.heap.size, 3, none⟩ = some (.int .u64 (wd M 3 : Nat)) := (HP7.out.at_ 5 rfl).cell 3
     have n0 : w7.cell? ⟨w2.heap.size, 0, none⟩ = some (.int .u64 (wd on 0 : Nat)) := (HP7.out.at_ 1 rfl).cell 0
     have n1 : w7.cell? ⟨w2.heap.size, 1, none⟩ = some (.int .u64 (wd on 1 : Nat)) := (HP7.out.at_ 1 rfl).cell 1
     have n2 : w7.cell? ⟨w2.heap.size, 2, none⟩ = some (.int .u64 (wd on 2 : Nat)) := (HP7.out.at_ 1 rfl).cell 2
     have n3 : w7.cell? ⟨w2.heap.size, 3, none⟩ = some (.int .u64 (wd on 3 : Nat)) := (HP7.out.at_ 1 rfl).cell 3
     have h0 : w7.cell? ⟨W3.heap.size, 0, none⟩ = some (.int .u64 (wd (vrH q (S.take k)) 0 : Nat)) := (HP7.out.at_ 3 rfl).cell 0
     have fh0 : w7.frozen? ⟨W3.heap.size, 0, none⟩ = false := (HP7.out.at_ 3 rfl).frozen 0
     have h1 : w7.cell? ⟨W3.heap.size, 1, none⟩ = some (.int .u64 (wd (vrH q (S.take k)) 1 : Nat)) := (HP7.out.at_ 3 rfl).cell 1
     have fh1 : w7.frozen? ⟨W3.heap.size, 1, none⟩ = false := (HP7.out.at_ 3 rfl).frozen 1
     have h2 : w7.cell? ⟨W3.heap.size, 2, none⟩ = some (.int .u64 (wd (vrH q (S.take k)) 2 : Nat)) := (HP7.out.at_ 3 rfl).cell 2
     have fh2 : w7.frozen? ⟨W3.heap.size, 2, none⟩ = false := (HP7.out.at_ 3 rfl).frozen 2
     have h3 : w7.cell? ⟨W3.heap.size, 3, none⟩ = some (.int .u64 (wd (vrH q (S.take k)) 3 : Nat)) := (HP7.out.at_ 3 rfl).cell 3
     have fh3 : w7.frozen? ⟨W3.heap.size, 3, none⟩ = false := (HP7.out.at_ 3 rfl).frozen 3
     have hx := HX.out
     obtain ⟨im, him⟩ : ∃ x, x = (adn M may == 0) := ⟨_, rfl⟩
     obtain ⟨mt, hmt⟩ : ∃ x, x = (M &&& on != 0) := ⟨_, rfl⟩
     have hme := HME.out
     rw [← him, ← hmt] at hx
     rw [← hmt] at hme
     rw [← him]
     have HM2 := Lib.hid hme
     have HX2 := Lib.hid hx
     clear him hmt hme hx
     have HBAD := Lib.hid (show (im && mt) ≠ true → E = 20 from fun h => by
      have h1 := HX2.out
      rw [if_neg h] at h1
      have h2 := HAT.out (by rw [h1]; decide)
      rw [h1] at h2
      rw [HE.out]; unfold vrE
      rw [h2, if_neg (by decide)])
     cases im with
     | false =>
      have HEE := Lib.hid (HBAD.out (by simp))
      go_wp2_with fail
      exact bodyPost_ret (v := .int .i64 20) (by simp [results, Tryz.results29, go_sem]) rfl ⟨by rw [HEE.out], HP7.out.below⟩
     | true =>
      go_wp2_with fail
      refine (HM2.out _).mono ?_
      rintro e w8 ⟨rfl, hb8⟩
      have HP8 := Lib.hid (HP7.out.step hb8)
      clear hb8 s0 s1 s2 s3 n0 n1 n2 n3 h0 h1 h2 h3 fh0 fh1 fh2 fh3
      cases mt with
      | false =>
       have HEE := Lib.hid (HBAD.out (by simp))
       go_wp2_with fail
       exact bodyPost_ret (v := .int .i64 20) (by simp [results, Tryz.results29, go_sem]) rfl ⟨by rw [HEE.out], HP8.out.below⟩
      | true =>
       have HVN := Lib.hid (HNX.out (by rw [HX2.out]; rfl))
       have s0 : w8.cell? ⟨w6.heap.size, 0, none⟩ = some (.int .u64 (wd M 0 : Nat)) := (HP8.out.at_ 5 rfl).cell 0
       have s1 : w8.cell? ⟨w6.heap.size, 1, none⟩ = some (.int .u64 (wd M 1 : Nat)) := (HP8.out.at_ 5 rfl).cell 1
       have s2 : w8.cell? ⟨w6.heap.size, 2, none⟩ = some (.int .u64 (wd M 2 : Nat)) := (HP8.out.at_ 5 rfl).cell 2
       have s3 : w8.cell? ⟨w6.heap.size, 3, none⟩ = some (.int .u64 (wd M 3 : Nat)) := (HP8.out.at_ 5 rfl).cell 3
       have h0 : w8.cell? ⟨W3.heap.size, 0, none⟩ = some (.int .u64 (wd (vrH q (S.take k)) 0 : Nat)) := (HP8.out.at_ 3 rfl).cell 0
       have h1 : w8.cell? ⟨W3.heap.size, 1, none⟩ = some (.int .u64 (wd (vrH q (S.take k)) 1 : Nat)) := (HP8.out.at_ 3 rfl).cell 1
       have h2 : w8.cell? ⟨W3.heap.size, 2, none⟩ = some (.int .u64 (wd (vrH q (S.take k)) 2 : Nat)) := (HP8.out.at_ 3 rfl).cell 2
       have h3 : w8.cell? ⟨W3.heap.size, 3, none⟩ = some (.int .u64 (wd (vrH q (S.take k)) 3 : Nat)) := (HP8.out.at_ 3 rfl).cell 3
       have HEJ := Lib.hid (show ∀ W, Calls Tryz.prog 45 #[.agg #[.int .u64 (wd (vrH q (S.take k)) 0 : Nat), .int .u64 (wd (vrH q (S.take k)) 1 : Nat), .int .u64 (wd (vrH q (S.take k)) 2 : Nat), .int .u64 (wd (vrH q (S.take k)) 3 : Nat)], .agg #[.int .u64 (wd M 0 : Nat), .int .u64 (wd M 1 : Nat), .int .u64 (wd M 2 : Nat), .int .u64 (wd M 3 : Nat)]] W fun e w' => e = .returned (.agg #[.int .u64 (wd (vrH q (S.take (k + 1))) 0 : Nat), .int .u64 (wd (vrH q (S.take (k + 1))) 1 : Nat), .int .u64 (wd (vrH q (S.take (k + 1))) 2 : Nat), .int .u64 (wd (vrH q (S.take (k + 1))) 3 : Nat)]) ∧ Below W.heap.size W w' from fun W => by
        have h := ieither_any (vrH q (S.take k)) M W
        rw [← HH2.out] at h
        exact h)
       go_wp2_with fail
       refine (HEJ.out _).mono ?_
       rintro e w9 ⟨rfl, hb9⟩
       have hp9 := HP8.out.step hb9
       have HP9 := Lib.hid hp9
       clear s0 s1 s2 s3 h0 h1 h2 h3 hb9
       have h0 : w9.cell? ⟨W3.heap.size, 0, none⟩ = some (.int .u64 (wd (vrH q (S.take k)) 0 : Nat)) := (HP9.out.at_ 3 rfl).cell 0
       have fh0 : w9.frozen? ⟨W3.heap.size, 0, none⟩ = false := (HP9.out.at_ 3 rfl).frozen 0
       have h1 : w9.cell? ⟨W3.heap.size, 1, none⟩ = some (.int .u64 (wd (vrH q (S.take k)) 1 : Nat)) := (HP9.out.at_ 3 rfl).cell 1
       have fh1 : w9.frozen? ⟨W3.heap.size, 1, none⟩ = false := (HP9.out.at_ 3 rfl).frozen 1
       have h2 : w9.cell? ⟨W3.heap.size, 2, none⟩ = some (.int .u64 (wd (vrH q (S.take k)) 2 : Nat)) := (HP9.out.at_ 3 rfl).cell 2
       have fh2 : w9.frozen? ⟨W3.heap.size, 2, none⟩ = false := (HP9.out.at_ 3 rfl).frozen 2
       have h3 : w9.cell? ⟨W3.heap.size, 3, none⟩ = some (.int .u64 (wd (vrH q (S.take k)) 3 : Nat)) := (HP9.out.at_ 3 rfl).cell 3
       have fh3 : w9.frozen? ⟨W3.heap.size, 3, none⟩ = false := (HP9.out.at_ 3 rfl).frozen 3
       have HPF := Lib.hid (hp9.put4 3 rfl (.int .u64 (wd (vrH q (S.take (k + 1))) 0 : Nat)) (.int .u64 (wd (vrH q (S.take (k + 1))) 1 : Nat)) (.int .u64 (wd (vrH q (S.take (k + 1))) 2 : Nat)) (.int .u64 (wd (vrH q (S.take (k + 1))) 3 : Nat)))
       clear hp9
       go_wp2_with fail
       go_roundw
       case rel => exact ⟨k + 1, HKL.out, by rw [HK2.out]; rfl, HVN.out, HPF.out.sub (((((List.nil_sublist _).cons_cons _).cons_cons _).cons_cons _).cons_cons _)⟩
       case measure => have := HKL.out; have := HK2.out; simp only [intOf]; omega
   ·obtain rfl : k = ms := by omega
    have hkz : ¬ (k : Int) < (k : Int) := by omega
    have htk : S.take k = S := List.take_of_length_le (by rw [HS.out.2.1]; exact Nat.le_refl _)
    have HEF := Lib.hid (show E = if adn on (vrH q S) = 0 then 0 else 20 by
     have h1 := HV0.out
     rw [htk] at h1
     rw [HE.out]; unfold vrE
     rw [h1, if_pos rfl])
    have hpp := HP.out
    rw [htk] at hpp
    have HPP := Lib.hid hpp
    have HWF := Lib.hid (show Calls Tryz.prog 49 #[.agg #[.int .u64 (wd on 0 : Nat), .int .u64 (wd on 1 : Nat), .int .u64 (wd on 2 : Nat), .int .u64 (wd on 3 : Nat)], .agg #[.int .u64 (wd (vrH q S) 0 : Nat), .int .u64 (wd (vrH q S) 1 : Nat), .int .u64 (wd (vrH q S) 2 : Nat), .int .u64 (wd (vrH q S) 3 : Nat)]] wo fun e w' => e = .returned (.bool (adn on (vrH q S) == 0)) ∧ Below wo.heap.size wo w' from iwithin_any on (vrH q S) wo HLT.out)
    have n0 : wo.cell? ⟨w2.heap.size, 0, none⟩ = some (.int .u64 (wd on 0 : Nat)) := (HPP.out.at_ 1 rfl).cell 0
    have n1 : wo.cell? ⟨w2.heap.size, 1, none⟩ = some (.int .u64 (wd on 1 : Nat)) := (HPP.out.at_ 1 rfl).cell 1
    have n2 : wo.cell? ⟨w2.heap.size, 2, none⟩ = some (.int .u64 (wd on 2 : Nat)) := (HPP.out.at_ 1 rfl).cell 2
    have n3 : wo.cell? ⟨w2.heap.size, 3, none⟩ = some (.int .u64 (wd on 3 : Nat)) := (HPP.out.at_ 1 rfl).cell 3
    have h0 : wo.cell? ⟨W3.heap.size, 0, none⟩ = some (.int .u64 (wd (vrH q S) 0 : Nat)) := (HPP.out.at_ 3 rfl).cell 0
    have h1 : wo.cell? ⟨W3.heap.size, 1, none⟩ = some (.int .u64 (wd (vrH q S) 1 : Nat)) := (HPP.out.at_ 3 rfl).cell 1
    have h2 : wo.cell? ⟨W3.heap.size, 2, none⟩ = some (.int .u64 (wd (vrH q S) 2 : Nat)) := (HPP.out.at_ 3 rfl).cell 2
    have h3 : wo.cell? ⟨W3.heap.size, 3, none⟩ = some (.int .u64 (wd (vrH q S) 3 : Nat)) := (HPP.out.at_ 3 rfl).cell 3
    clear hk hlt htk hpp
    go_wp2_with fail
    refine HWF.out.mono ?_
    rintro e w4 ⟨rfl, hb4⟩
    have HP4 := Lib.hid (HPP.out.step hb4)
    clear hb4
    by_cases hz : adn on (vrH q S) = 0
    ·have HEE := Lib.hid (show E = 0 by rw [HEF.out, if_pos hz])
     have hzb : (adn on (vrH q S) == 0) = true := by rw [hz]; rfl
     rw [hzb]
     clear hz hzb
     go_wp2_with fail
     exact bodyPost_ret (v := .int .i64 0) (by simp [results, Tryz.results29, go_sem]) rfl ⟨by rw [HEE.out], HP4.out.below⟩
    ·have HEE := Lib.hid (show E = 20 by rw [HEF.out, if_neg hz])
     have hzb : (adn on (vrH q S) == 0) = false := by rw [beq_eq_false_iff_ne]; exact hz
     rw [hzb]
     clear hz hzb
     go_wp2_with fail
     exact bodyPost_ret (v := .int .i64 20) (by simp [results, Tryz.results29, go_sem]) rfl ⟨by rw [HEE.out], HP4.out.below⟩
end Go.Proofs.YtaegjpancbmppaaGreatDoor
