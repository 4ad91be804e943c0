/- Part 21 of 22 of the proof of the law: contracts of the functions that it reaches, and plain facts. Conditions: those that each contract names. -/
import Derived.Test.YtkamepalomkpbaaDoorWChkB17
import Derived.Test.YtkamepalomkpbaaDoorWChkB18
import Derived.Test.YtkamepalomkpbaaDoorWChkB20
import Derived.Test.YtkamepalomkpbaaDoorWChkB15
namespace Go.Proofs.YtkamepalomkpbaaDoor
open Go.RowKit
theorem few_size {ws : List Wsh} {m : Nat} (h : fewB ws m = true) : ∀ x ∈ ws, x.nm.size ≤ 1000000000 ∧ x.tn.size ≤ 1000000000 := fun x hx => by
  unfold fewB at h
  have h1 := (Bool.and_eq_true _ _ ▸ (Bool.and_eq_true _ _ ▸ h).2).2
  have h2 : ws.any longB = false := by simpa using h1
  rw [List.any_eq_false] at h2
  have h3 := h2 x hx
  unfold longB at h3
  simp at h3
  omega
theorem both_nil {ws : List Wsh} {rules g : List Int} (h : pbE ws rules ≠ 0) : bothE ws rules g = pbE ws rules := if_pos h
theorem plE_err {ws : List Wsh} {rules : List Int} {gs : List (List Int)} (h : pbE ws rules ≠ 0) : plE ws rules gs = pbE ws rules := if_pos h
set_option maxRecDepth 1000000 in
set_option maxHeartbeats 8000000 in
theorem wchecks_any (A : Option Addr) (n cap : Nat) (B : Option Addr) (m c2 : Nat) (ws : List Wsh) (rules : List Int) (Bd : Nat) (w : World) (hwl : ws.length = n) (hrl : rules.length = m) (hwr : WRd w Bd A ws) (hrr : Rd i64v w Bd B rules) (hnc : n ≤ cap) (hmc : m ≤ c2) (hn : cap ≤ maxLen) (hm : c2 ≤ maxLen) (hok : ∀ x ∈ ws, I64 x.fn ∧ I64 x.fd ∧ x.nm.size ≤ maxLen ∧ x.tn.size ≤ maxLen) (hB : Bd ≤ w.heap.size) (ht : Tab w) :
    Calls Tryd.prog 5 #[.agg #[.slice A n cap, .slice B m c2]] w fun e w' => e = .returned (.bool true) ∧ Below w.heap.size w w' := by
  have hb0 := bw_new (Below.refl _ w) (.cells #[.slice A n cap, .slice B m c2] 29)
  have hbx : Blk (w.alloc (.cells #[.slice A n cap, .slice B m c2] 29)) w.heap.size 29 [.slice A n cap, .slice B m c2] := Blk.new
  have HBX := Lib.hid hbx
  have HB0 := Lib.hid hb0
  have HT := Lib.hid ht
  have HKN := Lib.hid (fun W hT => wknown_any W hT)
  have HS := Lib.hid (show ∀ W, Below w.heap.size w W → Bd ≤ W.heap.size from fun W h => Nat.le_trans hB h.size)
  have HPQ := Lib.hid (show fewB ws m = true → ∀ W, Below w.heap.size w W → Pb W Bd A n cap B m c2 ws rules from fun hf W h => (Pb.mk hwl hrl hwr hrr hnc hmc hn hm (fun x hx => ⟨(hok x hx).1, (hok x hx).2.1, few_size hf x hx⟩)).keep hB h)
  have HFW := Lib.hid (show ∀ W, Below w.heap.size w W → _ from fun W h => few_any A n cap B m c2 ws Bd W hwl (hwr.below (h.mono hB)) hnc hn hmc hm (fun x hx => (hok x hx).2.2) (Nat.le_trans hB h.size))
  clear hwl hrl hwr hrr hok ht hbx
  go_enter Tryd.func5, Tryd.ntmps5
  go_wp2_with fail
  refine (HKN.out _ (HT.out.below HB0.out)).mono ?_
  rintro e w1 ⟨rfl, hb1⟩
  have hbb1 := HB0.out.trans (hb1.mono (by simp))
  have hbx1 := HBX.out.keep hb1
  have HF := Lib.hid (HFW.out _ hbb1)
  have HB1 := Lib.hid hbb1
  have HBX1 := Lib.hid hbx1
  obtain ⟨p0, p1⟩ := hbx1.two
  clear hb1 hbb1 hbx1 hb0
  cases hfw : fewB ws m with
  | false =>
    have hf := HF.out
    rw [hfw] at hf
    have HF := Lib.hid hf
    clear hf hfw
    go_wp2_with fail
    refine HF.out.mono ?_
    rintro e w2 ⟨rfl, hb2⟩
    have HB2 := Lib.hid (HB1.out.trans (hb2.mono HB1.out.size))
    clear hb2
    go_wp2_with fail
    refine (HKN.out _ (HT.out.below HB2.out)).mono ?_
    rintro e w3 ⟨rfl, hb3⟩
    have HB3 := Lib.hid (HB2.out.trans (hb3.mono HB2.out.size))
    clear hb3
    go_wp2
    go_ret
    exact ⟨rfl, HB3.out⟩
  | true =>
    have hf := HF.out
    rw [hfw] at hf
    have HF := Lib.hid hf
    have HPW := Lib.hid (HPQ.out hfw)
    clear hf hfw
    go_wp2_with fail
    refine HF.out.mono ?_
    rintro e w2 ⟨rfl, hb2⟩
    have hbb2 := HB1.out.trans (hb2.mono HB1.out.size)
    have hbx2 := HBX1.out.keep hb2
    have HC := Lib.hid (lcheck37_any A n cap B m c2 ws rules Bd w2 (HPW.out _ hbb2) (HS.out _ hbb2))
    have HB2 := Lib.hid hbb2
    have HBX2 := Lib.hid hbx2
    clear p0 p1
    obtain ⟨p0, p1⟩ := hbx2.two
    clear hb2 hbb2 hbx2
    go_wp2_with fail
    refine HC.out.mono ?_
    rintro e w3 ⟨rfl, hb3⟩
    have hbb3 := HB2.out.trans (hb3.mono HB2.out.size)
    have hbx3 := HBX2.out.keep hb3
    have HD := Lib.hid (wcheck_any A n cap B m c2 ws rules Bd w3 (HPW.out _ hbb3) (HS.out _ hbb3))
    have HB3 := Lib.hid hbb3
    have HBX3 := Lib.hid hbx3
    clear p0 p1
    obtain ⟨p0, p1⟩ := hbx3.two
    clear hb3 hbb3 hbx3
    obtain ⟨c, hc⟩ : ∃ c, c = pbE ws rules := ⟨_, rfl⟩
    rw [← hc] at HD ⊢
    have HCC := Lib.hid hc.symm
    clear hc
    go_wp2_with fail
    refine HD.out.mono ?_
    rintro e w4 ⟨rfl, hb4⟩
    have hbb4 := HB3.out.trans (hb4.mono HB3.out.size)
    have hbx4 := HBX3.out.keep hb4
    have HB4 := Lib.hid hbb4
    have HBX4 := Lib.hid hbx4
    clear p0 p1
    by_cases h0 : c = 0
    · have hz : (c == 0) = true := by simpa using h0
      clear hb4 hbb4 hbx4
      go_wp2
      go_ret
      exact ⟨rfl, HB4.out⟩
    have hz : (c == 0) = false := by simpa using h0
    have HCZ := Lib.hid h0
    have HG := Lib.hid (wheights_err A n cap B m c2 ws rules Bd 0 c w4 (HPW.out _ hbb4) (HS.out _ hbb4) HCC.out h0)
    obtain ⟨p0, p1⟩ := hbx4.two
    clear hb4 hbb4 hbx4 h0
    go_wp2_with fail
    refine HG.out.mono ?_
    rintro e w5 ⟨rfl, hb5⟩
    have hbb5 := HB4.out.trans (hb5.mono HB4.out.size)
    have hbx5 := HBX4.out.keep hb5
    have hbe := both_nil (g := []) (show pbE ws rules ≠ 0 by rw [HCC.out]; exact HCZ.out)
    have hpe := plE_err (gs := []) (show pbE ws rules ≠ 0 by rw [HCC.out]; exact HCZ.out)
    rw [HCC.out] at hbe hpe
    have HBE := Lib.hid hbe
    have HPE := Lib.hid hpe
    have hcost := wcost_any A n cap B m c2 ws rules none 0 0 [] Bd w5 (HPW.out _ hbb5) (HS.out _ hbb5) rfl (fun h => absurd h (by simp)) (Nat.le_refl _) (by decide) (HT.out.below hbb5)
    rw [hbe, if_neg HCZ.out] at hcost
    have HCO := Lib.hid hcost
    have HB5 := Lib.hid hbb5
    have HBX5 := Lib.hid hbx5
    clear p0 p1
    obtain ⟨p0, p1⟩ := hbx5.two
    clear hb5 hbb5 hbx5 hcost hbe hpe
    go_wp2_with fail
    refine HCO.out.mono ?_
    rintro e w6 ⟨rfl, hb6⟩
    have hbb6 := HB5.out.trans (hb6.mono HB5.out.size)
    have hbx6 := HBX5.out.keep hb6
    have hperm := wperm_any A n cap B m c2 ws rules none 0 0 [] Bd w6 (HPW.out _ hbb6) (HS.out _ hbb6) rfl (fun h => absurd h (by simp)) (Nat.le_refl _) (by decide) (HT.out.below hbb6)
    rw [perm_err (by rw [HBE.out]; exact HCZ.out), HBE.out] at hperm
    have HPR := Lib.hid hperm
    have HB6 := Lib.hid hbb6
    have HBX6 := Lib.hid hbx6
    clear p0 p1
    obtain ⟨p0, p1⟩ := hbx6.two
    clear hb6 hbb6 hbx6 hperm
    go_wp2_with fail
    refine HPR.out.mono ?_
    rintro e w7 ⟨rfl, hb7⟩
    have hbb7 := HB6.out.trans (hb7.mono HB6.out.size)
    have hbx7 := HBX6.out.keep hb7
    have HCF := Lib.hid (wconf_err A n cap B m c2 ws rules Bd c w7 (HPW.out _ hbb7) (HS.out _ hbb7) HCC.out HCZ.out)
    have HB7 := Lib.hid hbb7
    have HBX7 := Lib.hid hbx7
    clear p0 p1
    obtain ⟨p0, p1⟩ := hbx7.two
    clear hb7 hbb7 hbx7
    go_wp2_with fail
    refine HCF.out.mono ?_
    rintro e w8 ⟨rfl, hb8⟩
    have hbb8 := HB7.out.trans (hb8.mono HB7.out.size)
    have hbx8 := HBX7.out.keep hb8
    have htot := total_any A n cap B m c2 ws rules none 0 0 [] Bd w8 (HPW.out _ hbb8) (HS.out _ hbb8) rfl (fun h => absurd h (by simp)) (Nat.le_refl _) (by decide) (HT.out.below hbb8)
    rw [HPE.out, if_neg HCZ.out] at htot
    have HTO := Lib.hid htot
    have HB8 := Lib.hid hbb8
    have HBX8 := Lib.hid hbx8
    clear p0 p1
    obtain ⟨p0, p1⟩ := hbx8.two
    clear hb8 hbb8 hbx8 htot
    go_wp2_with fail
    refine HTO.out.mono ?_
    rintro e w9 ⟨rfl, hb9⟩
    have hbb9 := HB8.out.trans (hb9.mono HB8.out.size)
    have hbx9 := HBX8.out.keep hb9
    have HAL := Lib.hid (alone_err A n cap B m c2 ws rules Bd c w9 (HPW.out _ hbb9) (HS.out _ hbb9) HCC.out HCZ.out)
    have HB9 := Lib.hid hbb9
    have HBX9 := Lib.hid hbx9
    clear p0 p1
    obtain ⟨p0, p1⟩ := hbx9.two
    clear hb9 hbb9 hbx9
    go_wp2_with fail
    refine HAL.out.mono ?_
    rintro e w10 ⟨rfl, hb10⟩
    have hbb10 := HB9.out.trans (hb10.mono HB9.out.size)
    have hbx10 := HBX9.out.keep hb10
    have HPL := Lib.hid (fun W (h : Below w.heap.size w W) => by
      have := plan_any A n cap B m c2 ws rules none 0 0 [] Bd W (HPW.out _ h) (HS.out _ h) rfl (fun h => absurd h (by simp)) (Nat.le_refl _) (by decide) (HT.out.below h)
      rw [HPE.out] at this
      exact this)
    have HB10 := Lib.hid hbb10
    have HBX10 := Lib.hid hbx10
    clear p0 p1
    obtain ⟨p0, p1⟩ := hbx10.two
    clear hb10 hbb10 hbx10
    have hcc : (c == c) = true := beq_self_eq_true c
    go_wp2_with fail
    refine (HPL.out _ HB10.out).mono ?_
    rintro e w11 ⟨rfl, hb11⟩
    have HB11 := Lib.hid (HB10.out.trans (hb11.mono HB10.out.size))
    clear hb11 p0 p1
    go_wp2
    exact bodyPost_ret (v := .bool true) (by simp [results, Tryd.results5, go_sem]) rfl ⟨rfl, HB11.out⟩
end Go.Proofs.YtkamepalomkpbaaDoor
