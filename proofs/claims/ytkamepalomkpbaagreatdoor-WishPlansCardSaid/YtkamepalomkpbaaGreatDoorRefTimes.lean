/- bombarderef01.times: the product of two magnitudes. Conditions: groups below the base, at most 200000 groups. -/
import Derived.Test.YtkamepalomkpbaaGreatDoorNum4
import Derived.Test.YtkamepalomkpbaaGreatDoorBoth
import Derived.BigQuiet
import Derived.Deep.QuietTactic
namespace Go.Proofs.YtkamepalomkpbaaGreatDoor
open Go.RowKit

set_option maxRecDepth 100000 in
set_option maxHeartbeats 4000000 in
theorem reftimes_any (G H : List Nat) (A1 A2 : Option Addr) (c1 c2 : Nat) (w : World) (hr1 : Rd n64v w w.heap.size A1 G) (hr2 : Rd n64v w w.heap.size A2 H) (hG : Small4 G) (hH : Small4 H)
    (hg : G.length ≤ 200000) (hh : H.length ≤ 200000) :
    Calls Tryz.prog 81 #[.slice A1 G.length c1, .slice A2 H.length c2] w (RetGrp (gv G * gv H) w) := by
  obtain ⟨i0, hi, hz0, hz1, hz2⟩ := info_parts infoIntG
  have HHI := Lib.hid hi
  have HZ0 := Lib.hid hz0
  have HZ1 := Lib.hid hz1
  have HZ2 := Lib.hid hz2
  have HG := Lib.hid hG
  have HH := Lib.hid hH
  clear hi hz0 hz1 hz2 hG hH
  go_enter Tryz.func81, Tryz.ntmps81
  go_wp2
  go_loopw [5, 6] (fun m iv wr => ∃ (i : Nat) (A : Option Addr) (cp : Nat), i ≤ G.length ∧ m = .slice A (grps (gv (G.take i) * gv H)).length cp ∧ iv = .int .i64 (i : Int) ∧ (grps (gv (G.take i) * gv H)).length ≤ cp ∧
      Rd n64v wr wr.heap.size A (grps (gv (G.take i) * gv H)) ∧ Below w.heap.size w wr)
    (fun _ iv _ => G.length - (intOf iv).toNat)
  case atStart => exact ⟨0, none, 0, by omega, by simp [gv, grps_zero], rfl, by simp [gv, grps_zero], by simp only [List.take_zero, gv, Nat.zero_mul, grps_zero]; exact Rd.nil, Below.refl _ _⟩
  case round =>
    obtain ⟨i, A, cp, hi, rfl, rfl, hcp, hr, hb⟩ := hrel
    obtain ⟨p, hp⟩ : ∃ p, p = gv (G.take i) * gv H := ⟨_, rfl⟩
    have hpl : (grps p).length ≤ 400000 := by rw [hp]; exact Nat.le_trans (grps_mul_len HG.out HH.out i) (by omega)
    rw [← hp] at hr hcp ⊢
    have HP := Lib.hid hp
    have HR := Lib.hid hr
    have HB := Lib.hid hb
    have HPL := Lib.hid hpl
    clear hp hr hb hpl
    by_cases hlt : i < G.length
    · obtain ⟨b1, o1, rfl, hb1, q1⟩ := hr1.at_ (by omega)
      obtain ⟨x, hx⟩ : ∃ x, x = G[i] := ⟨_, rfl⟩
      have hq : w.cell? ⟨b1, o1 + i, none⟩ = some (.int .i64 (x : Int)) := by rw [q1 i hlt, hx]
      have hx4 : x < 10000 := by rw [hx]; exact HG.out.get i hlt
      have HX := Lib.hid hx
      have HQ := Lib.hid hq
      clear hx q1 hq
      go_wp2_with (at_make; refine wpList_make_full _ rfl _ _ 25 rfl wr.heap.size 3 i0 (.int .i64 0) 1 Tryz.underlying25 HHI.out HZ0.out HZ1.out .i64 .i64 _ _ i rfl rfl (by omega) (by omega) (by rw [HZ2.out]; omega) (by unfold maxLen; omega) (Nat.le_refl _) ?_)
      intro w1 hown hgrow
      have hb1w : Below w.heap.size w w1 := HB.out.grown hgrow HB.out.size (by simp)
      rw [toList_madeCells_one] at hown
      have ho1 : w1.ownsRow wr.heap.size 3 1 (.slice (some ⟨wr.heap.size, 0, none⟩) i i) i ((List.replicate i 0 ++ []).map n64v) := by
        simpa [n64v] using hown
      have hbr : Below wr.heap.size wr w1 := (Below.refl _ _).grown hgrow (Nat.le_refl _) (by simp)
      have HO1 := Lib.hid ho1
      have HB1 := Lib.hid hb1w
      have HBR := Lib.hid hbr
      clear hown hgrow ho1 hb1w hbr
      go_wp2
      obtain ⟨wo, rfl⟩ : ∃ wo : World, wo = wr := ⟨_, rfl⟩
      go_loopw [7, 8, 9] (fun rv cv kv wq => ∃ (k c : Nat) (O L : List Nat) (A' : Option Addr) (cp' : Nat), rv = .slice A' (i + k) cp' ∧ cv = .int .i64 (c : Int) ∧ kv = .int .i64 (k : Int) ∧ c < 10000 ∧ k ≤ H.length + 1 ∧ Lib.Kept (InRow H x k O c) ∧ Lib.Kept (L = List.replicate i 0 ++ O) ∧
          wq.ownsRow wo.heap.size 3 1 (.slice A' (i + k) cp') (i + k) (L.map n64v) ∧ Below w.heap.size w wq ∧ Below wo.heap.size wo wq)
        (fun _ _ kv _ => H.length + 2 - (intOf kv).toNat)
      case atStart => exact ⟨0, 0, [], List.replicate i 0 ++ [], some ⟨wo.heap.size, 0, none⟩, i, rfl, rfl, rfl, by omega, by omega, InRow.start H x, rfl, HO1.out, HB1.out, HBR.out⟩
      case round =>
        clear HO1 HB1 HBR
        obtain ⟨k, c, O, L, A', cp', rfl, rfl, rfl, hc4, hk, hin, hL, hown, hbw, hbr⟩ := hrel
        have HI := Lib.hid hin
        have HO := Lib.hid hown
        have HBW := Lib.hid hbw
        have HBR := Lib.hid hbr
        have d1 : wr.cell? ⟨b1, o1 + i, none⟩ = some (.int .i64 (x : Int)) := (hbw.cell (p := ⟨b1, o1 + i, none⟩) hb1).trans HQ.out
        have HLL := Lib.hid hL
        clear hin hown hbw hbr hL
        by_cases hkl : k < H.length
        · obtain ⟨b2, o2, rfl, hb2, q2⟩ := hr2.at_ (by omega)
          obtain ⟨y, hy⟩ : ∃ y, y = H[k] := ⟨_, rfl⟩
          have d2 : wr.cell? ⟨b2, o2 + k, none⟩ = some (.int .i64 (y : Int)) := by rw [HBW.out.cell (p := ⟨b2, o2 + k, none⟩) hb2, q2 k hkl, hy]
          have hy4 : y < 10000 := by rw [hy]; exact HH.out.get k hkl
          have hst := HI.out.step (y := y) (t := c + x * y) hx4 HH.out (by rw [hy, List.getElem?_eq_getElem hkl]; rfl) rfl
          have htb := mul_lt4 hc4 hx4 hy4
          obtain ⟨m, hm⟩ : ∃ m, m = x * y := ⟨_, rfl⟩
          rw [← hm] at hst htb
          have hwm : IntKind.i64.wrap ((x : Int) * (y : Int)) = (m : Int) := by rw [show (x : Int) * (y : Int) = (m : Int) by rw [hm]; simp, IntWalk.i64_in _ (by omega)]
          have hws : IntKind.i64.wrap ((c : Int) + (m : Int)) = ((c + m : Nat) : Int) := by rw [IntWalk.i64_in _ (by omega)]; omega
          have HST := Lib.hid hst
          have HWM := Lib.hid hwm
          have HWS := Lib.hid hws
          clear hy q2 hst hm hwm hws
          go_wp2
          have hwm := HWM.out
          have hws := HWS.out
          go_quiet (fail)
          clear hwm hws
          go_wp2_with (at_builtin; refine wpList_append_own _ rfl _ _ 25 rfl wo.heap.size 3 i0 (.int .i64 0) 1 8 Tryz.underlying25 HHI.out HZ0.out HZ1.out HZ2.out rfl (by decide) _ _ _ rfl ((own_belowG HO.out (below_drewN _ _ _)).alloc _) ⟨wr.heap.size, 0, none⟩ 1 1 [.int .i64 (((c : Int) + m) % 10000)] rfl rfl (cell_one_new _ _ _) (by simp [Value.oneCell']) (by unfold maxLen; omega) (by omega) (by have := HBR.out.size; simp; omega) ?_)
          intro v' w3 hown' hgrow _
          obtain ⟨g', cap', rfl, hcap⟩ := own_form hown' (by omega)
          have hb3 : Below w.heap.size w w3 := ((bw_drewN HBW.out _).alloc HBW.out.size _).grown hgrow (by have := HBW.out.size; simp; omega) (fun g hg => Nat.le_trans HB.out.size (HO.out.lt g hg).1)
          have hb4 : Below wo.heap.size wo w3 := ((bw_drewN HBR.out _).alloc HBR.out.size _).grown hgrow (by have := HBR.out.size; simp; omega) (fun g hg => (HO.out.lt g hg).1)
          have ho3 : w3.ownsRow wo.heap.size 3 1 (.slice (some ⟨g', 0, none⟩) (i + (k + 1)) cap') (i + (k + 1)) ((L ++ [(c + m) % 10000]).map n64v) := by
            have e1 : [(c + m) % 10000].map n64v = [.int .i64 (((c : Int) + m) % 10000)] := by simp
            rw [List.map_append, e1]; exact hown'
          have HO3 := Lib.hid ho3
          have HB3 := Lib.hid hb3
          have HB4 := Lib.hid hb4
          clear hown' hgrow hb3 ho3 hb4
          go_wp2
          go_roundw
          case rel => exact ⟨k + 1, (c + m) / 10000, O ++ [(c + m) % 10000], L ++ [(c + m) % 10000], _, _, rfl, by first | go_num | (congr 1; omega), by go_num, by omega, by omega, HST.out, (show _ = _ by rw [show L = _ from HLL.out, List.append_assoc]), HO3.out, HB3.out, HB4.out⟩
          case measure => simp [intOf]; omega
        · by_cases hc0 : c = 0
          · subst hc0
            have hLl : L.length = i + k := by rw [show L = _ from HLL.out, List.length_append, List.length_replicate, HI.out.1]
            have hLs : Small4 L := by rw [show L = _ from HLL.out]; exact HI.out.2.1.row i
            have hLv : gv (G.take i) * gv H + gv L = gv (G.take (i + 1)) * gv H := by rw [show L = _ from HLL.out]; exact times_row HI.out (by omega) hlt HX.out
            have hrd : Rd n64v wr wr.heap.size A' L := Rd.of_own HO.out hLl.symm
            have hba := both_add (grps p) L A A' cp cp' wr ((HR.out.below HBR.out).more HBR.out.size) hrd (grps_small p) hLs (Nat.le_trans HPL.out (by omega)) (by rw [hLl]; omega)
            rw [hLl, gv_grps, HP.out, hLv, ← HP.out] at hba
            have HBA := Lib.hid hba
            clear hLl hLs hLv hrd hba
            go_wp2_with fail
            refine (HBA.out).mono ?_
            rintro e w5 ⟨A3, c3, rfl, hr3, hcp3, hb2⟩
            have HR3 := Lib.hid hr3
            have HCP := Lib.hid hcp3
            have HB5 := Lib.hid (HBW.out.trans (hb2.mono HBW.out.size))
            clear hb2 hr3 hcp3
            go_wp2
            go_roundw
            case rel => exact ⟨i + 1, A3, c3, by omega, rfl, by go_num, HCP.out, HR3.out, HB5.out⟩
            case measure => simp [intOf]; omega
          · have hkl2 : k = H.length := by
              have := HI.out.2.2.2.2
              by_cases h : H.length < k
              · exact absurd (this h) hc0
              · omega
            have hst := HI.out.step (y := 0) (t := c) hx4 HH.out (by rw [List.getElem?_eq_none (by omega)]; rfl) (by omega)
            have HST := Lib.hid hst
            have hkl3 : k ≤ H.length := by omega
            clear hst hkl2
            go_wp2_with (at_builtin; refine wpList_append_own _ rfl _ _ 25 rfl wo.heap.size 3 i0 (.int .i64 0) 1 8 Tryz.underlying25 HHI.out HZ0.out HZ1.out HZ2.out rfl (by decide) _ _ _ rfl (HO.out.alloc _) ⟨wr.heap.size, 0, none⟩ 1 1 [.int .i64 ((c : Int) % 10000)] rfl rfl (cell_one_new _ _ _) (by simp [Value.oneCell']) (by unfold maxLen; omega) (by omega) (by have := HBR.out.size; simp; omega) ?_)
            intro v' w3 hown' hgrow _
            obtain ⟨g', cap', rfl, hcap⟩ := own_form hown' (by omega)
            have hb3 : Below w.heap.size w w3 := (HBW.out.alloc HBW.out.size _).grown hgrow (by have := HBW.out.size; simp; omega) (fun g hg => Nat.le_trans HB.out.size (HO.out.lt g hg).1)
            have hb4 : Below wo.heap.size wo w3 := (HBR.out.alloc HBR.out.size _).grown hgrow (by have := HBR.out.size; simp; omega) (fun g hg => (HO.out.lt g hg).1)
            have ho3 : w3.ownsRow wo.heap.size 3 1 (.slice (some ⟨g', 0, none⟩) (i + (k + 1)) cap') (i + (k + 1)) ((L ++ [c % 10000]).map n64v) := by
              have e1 : [c % 10000].map n64v = [.int .i64 ((c : Int) % 10000)] := by simp
              rw [List.map_append, e1]; exact hown'
            have HO3 := Lib.hid ho3
            have HB3 := Lib.hid hb3
            have HB4 := Lib.hid hb4
            clear hown' hgrow hb3 ho3 hb4
            go_wp2
            go_roundw
            case rel =>
              exact ⟨k + 1, c / 10000, O ++ [c % 10000], L ++ [c % 10000], _, _, rfl, by first | go_num | (congr 1; omega), by go_num, by omega, by omega, HST.out, (show _ = _ by rw [show L = _ from HLL.out, List.append_assoc]), HO3.out, HB3.out, HB4.out⟩
            case measure => simp [intOf]; omega
    · obtain rfl : i = G.length := by omega
      have hpv : p = gv G * gv H := by rw [HP.out, List.take_length]
      have hsh := short_len (grps p) (grps p).length rfl A cp wr.heap.size wr HR.out (grps_small p) hcp (Nat.le_trans HPL.out (by omega))
      rw [gv_grps] at hsh
      have HSH := Lib.hid hsh
      have HPV := Lib.hid hpv
      have HCP := Lib.hid hcp
      clear hsh hpv hcp
      go_wp2_with fail
      refine (HSH.out).mono ?_
      rintro e w5 ⟨rfl, rfl⟩
      go_wp2
      go_ret
      refine ⟨A, cp, ?_, ?_, ?_, HB.out⟩
      · rw [← HPV.out]; rfl
      · rw [← HPV.out]; exact HR.out
      · rw [← HPV.out]; exact HCP.out

end Go.Proofs.YtkamepalomkpbaaGreatDoor
