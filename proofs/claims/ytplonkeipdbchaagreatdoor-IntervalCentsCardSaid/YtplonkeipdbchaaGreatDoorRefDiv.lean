/- Package bombarderef01: quotient. Conditions: the divisor is not 0; the groups are at most 1000 each. Package bombarderef01: DivMod by a divisor that is greater than 0. Conditions: at most 1000 digits each; the library's table of powers of ten reads as its text lays it. -/
import Derived.Test.YtplonkeipdbchaaGreatDoorRefMul
import Derived.Deep.RegionHeld
namespace Go.Proofs.YtplonkeipdbchaaGreatDoor
section
open Go.RowKit

theorem own_blkQ {w : World} {base e n g : Nat} {xs : List Value} (h : w.ownsRow base e 1 (.slice (some ⟨g, 0, none⟩) n n) n xs) : Blk w g e xs := by
  obtain ⟨hl, hh⟩ := h
  rcases hh with ⟨e1, _⟩ | ⟨g', cap, cur, hv, _, hg, _, _, hs, ht⟩
  · injection e1 with e1; cases e1
  · injection hv with e1 e2 e3
    injection e1 with e1
    injection e1 with e1
    subst e1 e3
    have : cur.toList.take (n * 1) = cur.toList := List.take_of_length_le (by rw [Array.length_toList, hs]; exact Nat.le_refl _)
    rw [this] at ht
    show w.heap[g]? = some (.cells xs.toArray e)
    rw [hg, ← ht]
theorem add_plainQ (b o j : Nat) : (⟨b, o, none⟩ : Addr).add j = ⟨b, o + j, none⟩ := by
  unfold Addr.add
  split <;> simp_all
theorem gv_drop {G : List Nat} {i : Nat} (h : i < G.length) : gv (G.drop i) = G[i] + 10000 * gv (G.drop (i + 1)) := by
  rw [List.drop_eq_getElem_cons h]; rfl
theorem quo_step {g D R q x : Nat} (hq : 0 < q) (h : g = D * q + R) (hD : D = g / q) (hR : R = g % q) : (x + 10000 * g) / q = (x + 10000 * R) / q + 10000 * D ∧ (x + 10000 * g) % q = (x + 10000 * R) % q := by
  have e : x + 10000 * g = x + 10000 * R + (10000 * D) * q := by
    rw [h, Nat.mul_add, ← Nat.mul_assoc]; omega
  rw [e]
  exact ⟨Nat.add_mul_div_right _ _ hq, Nat.add_mul_mod_self_right _ _ _⟩
theorem Small4.cons {x : Nat} {L : List Nat} (hx : x < 10000) (h : Small4 L) : Small4 (x :: L) := fun y hy => by
  rcases List.mem_cons.1 hy with rfl | hy
  · exact hx
  · exact h y hy
theorem Rd.setFar {α : Type} {enc : α → Value} {w : World} {Bd g o : Nat} {A : Option Addr} {L : List α} (h : Rd enc w Bd A L) (hA : ∀ ad, A = some ad → g < ad.block) (u : Value) : Rd enc (w.setCell ⟨g, o, none⟩ u) Bd A L := fun hl => by
  obtain ⟨b, off, rfl, hb, hc⟩ := h hl
  have hne : g < b := hA _ rfl
  refine ⟨b, off, rfl, hb, fun i hi => ?_⟩
  rw [World.cell?_setCell_far _ _ _ _ (by show g ≠ b; omega)]
  exact hc i hi
/-- What the loop over the groups carries. -/
def QuRel (w : World) (gO : Nat) (G : List Nat) (q t : Nat) (RA : Option Addr) (rc : Nat) (D : List Nat) (wx : World) : Prop :=
  t + D.length = G.length ∧ Small4 D ∧ gv D = gv (G.drop t) / q ∧ Rd n64v wx wx.heap.size RA (grps (gv (G.drop t) % q)) ∧ (grps (gv (G.drop t) % q)).length ≤ rc ∧
    Blk wx gO 3 ((List.replicate t 0 ++ D).map n64v) ∧ Below w.heap.size w wx ∧ w.heap.size ≤ gO ∧ ∀ ad, RA = some ad → gO < ad.block

set_option maxRecDepth 100000 in
set_option maxHeartbeats 8000000 in
theorem refquot_any (G : List Nat) (q : Nat) (A1 A2 : Option Addr) (c1 c2 : Nat) (w : World) (hr1 : Rd n64v w w.heap.size A1 G) (hr2 : Rd n64v w w.heap.size A2 (grps q)) (hG : Small4 G) (hq : 0 < q)
    (hg : G.length ≤ 1000) (hh : (grps q).length ≤ 1000) :
    Calls Tryz.prog 89 #[.slice A1 G.length c1, .slice A2 (grps q).length c2] w fun e w' => ∃ QA qc RA rc, e = .returned (.tuple #[.slice QA (grps (gv G / q)).length qc, .slice RA (grps (gv G % q)).length rc]) ∧
      (grps (gv G / q)).length ≤ qc ∧ (grps (gv G % q)).length ≤ rc ∧ Rd n64v w' w'.heap.size QA (grps (gv G / q)) ∧ Rd n64v w' w'.heap.size RA (grps (gv G % q)) ∧ Below w.heap.size w w' := by
  obtain ⟨i0, hi, hz0, hz1, hz2⟩ := info_parts infoIntG
  have HHI := Lib.hid hi
  have HZ0 := Lib.hid hz0
  have HZ1 := Lib.hid hz1
  have HZ2 := Lib.hid hz2
  have HG := Lib.hid hG
  have HR1 := Lib.hid hr1
  have HR2 := Lib.hid hr2
  have HQ := Lib.hid hq
  clear hi hz0 hz1 hz2 hG hr1 hr2 hq
  go_enter Tryz.func89, Tryz.ntmps89
  go_wp2_with (at_make; refine wpList_make_full _ rfl _ _ 80 rfl w.heap.size 3 i0 (.int .i64 0) 1 Tryz.underlying80 HHI.out HZ0.out HZ1.out .i64 .i64 _ _ G.length rfl rfl (by omega) (by omega) (by rw [HZ2.out]; omega) (by unfold maxLen; omega) (Nat.le_refl _) ?_)
  intro w1 hown hgrow
  have hb1 : Below w.heap.size w w1 := (Below.refl _ _).grown hgrow (Nat.le_refl _) (by simp)
  rw [toList_madeCells_one] at hown
  have hblk := own_blkQ hown
  have d0 : G.drop G.length = [] := List.drop_length
  have d1 : gv (G.drop G.length) = 0 := by rw [d0]; rfl
  have d2 : grps (gv (G.drop G.length) % q) = [] := by rw [d1, Nat.zero_mod, grps_zero]
  have HREL := Lib.hid (show QuRel w w.heap.size G q G.length none 0 [] w1 from
    ⟨by simp, show Small4 [] from (fun x hx => by cases hx), by rw [d1, Nat.zero_div]; rfl, by rw [d2]; exact Rd.nil, by rw [d2]; simp, by simpa [n64v] using hblk, hb1, Nat.le_refl _, fun ad e => by cases e⟩)
  clear hown hgrow hb1 hblk
  have hw1 : wrap64 ((G.length : Int) - 1) = (G.length : Int) - 1 := IntWalk.wrap64_in _ ⟨by omega, by omega⟩
  go_wp2_with fail
  go_loopw [6, 8] (fun rv iv wx => ∃ (t : Nat) (RA : Option Addr) (rc : Nat) (D : List Nat), t ≤ G.length ∧ iv = .int .i64 ((t : Int) - 1) ∧ rv = .slice RA (grps (gv (G.drop t) % q)).length rc ∧ QuRel w w.heap.size G q t RA rc D wx) (fun _ iv _ => (intOf iv + 1).toNat)
  case atStart => exact ⟨G.length, none, 0, [], Nat.le_refl _, by first | rfl | rw [hw1], by rw [d2]; rfl, HREL.out⟩
  case round =>
    clear HREL hw1 d0 d1 d2
    obtain ⟨t, RA, rc, D, ht, rfl, rfl, hrel⟩ := hrel
    have HX := Lib.hid hrel
    clear hrel
    cases t with
    | zero =>
      have hiz : ((0 : Nat) : Int) - 1 = -1 := rfl
      rw [hiz]
      obtain ⟨h1, h2, h3, h4, h5, h6, h7, h8, _⟩ := HX.out
      rw [List.drop_zero] at h3 h4 h5
      simp only [List.replicate_zero, List.nil_append] at h6
      have hDl : D.length = G.length := by omega
      have hrd : Rd n64v wr wr.heap.size (some ⟨w.heap.size, 0, none⟩) D := Blk.rd (enc := n64v) (L := D) h6
      have HS := Lib.hid (short_any D (some ⟨w.heap.size, 0, none⟩) D.length wr.heap.size wr hrd h2 (Nat.le_refl _) (by omega))
      have HD := Lib.hid hDl
      have H3 := Lib.hid h3
      have H5 := Lib.hid h5
      have H4 := Lib.hid h4
      have H7 := Lib.hid h7
      have H2 := Lib.hid h2
      have HRD := Lib.hid hrd
      clear h1 h2 h3 h4 h5 h6 h7 h8 hDl hrd HX
      go_wp2_with fail
      rw [← HD.out]
      refine HS.out.mono ?_
      rintro e w2 ⟨rfl, rfl⟩
      go_wp2
      go_ret2
      refine ⟨_, _, _, _, by rw [← H3.out]; rfl, ?_, H5.out, ?_, H4.out, H7.out⟩
      · rw [← H3.out]; exact grps_len_le_len D H2.out
      · rw [← H3.out, grps_eq_take D H2.out]; exact HRD.out.take _
    | succ i =>
      have hiz : ((i + 1 : Nat) : Int) - 1 = (i : Int) := by omega
      rw [hiz]
      obtain ⟨h1, h2, h3, h4, h5, h6, h7, h8, _⟩ := HX.out
      have hil : i < G.length := by omega
      have hq := HQ.out
      have hRlt : gv (G.drop (i + 1)) % q < q := Nat.mod_lt _ hq
      obtain ⟨b1, o1, rfl, hb1, q1⟩ := (HR1.out.below h7).at_ (by omega)
      obtain ⟨x, hx⟩ : ∃ x, x = G[i] := ⟨_, rfl⟩
      have hq0 : wr.cell? ⟨b1, o1 + i, none⟩ = some (.int .i64 (x : Int)) := by rw [q1 i hil, hx]
      have hx4 : x < 10000 := by rw [hx]; exact HG.out.get i hil
      obtain ⟨R, hR⟩ : ∃ R, R = gv (G.drop (i + 1)) % q := ⟨_, rfl⟩
      rw [← hR] at h4 h5 hRlt ⊢
      have hqs := quo_step (x := x) hq (show gv (G.drop (i + 1)) = gv D * q + R by rw [h3, hR, Nat.mul_comm]; exact (Nat.div_add_mod _ _).symm) h3 hR
      rw [hx, ← gv_drop hil] at hqs
      rw [← hx] at hqs
      obtain ⟨N, hN⟩ : ∃ N, N = x + 10000 * R := ⟨_, rfl⟩
      rw [← hN] at hqs
      have hNq : N < 10000 * q := by omega
      have hgN : gv (x :: grps R) = N := by show x + 10000 * gv (grps R) = N; rw [gv_grps, hN]
      have hlR : (grps R).length ≤ 1000 := Nat.le_trans (grps_len_mono (Nat.le_of_lt hRlt)) hh
      have hlN : (grps N).length ≤ (grps R).length + 1 := by have := grps_len_le_len (x :: grps R) (Small4.cons hx4 (grps_small R)); rw [hgN] at this; simpa using this
      have H1 := Lib.hid h1
      have H2 := Lib.hid h2
      have H3 := Lib.hid h3
      have H4 := Lib.hid h4
      have H5 := Lib.hid h5
      have H6 := Lib.hid h6
      have H7 := Lib.hid h7
      have HQS := Lib.hid hqs
      have HGN := Lib.hid hgN
      have HNQ := Lib.hid hNq
      clear h1 h2 h3 h4 h5 h6 h7 h8 hqs hgN hNq hx hR hN q1 hq HX
      go_upto_region 6 with fail
      go_cut [6] (fun s6 wx => ∃ (A' : Option Addr) (c' : Nat), s6 = .slice A' (grps N).length c' ∧ Rd n64v wx wx.heap.size A' (grps N) ∧ (grps N).length ≤ c' ∧ Blk wx w.heap.size 3 ((List.replicate (i + 1) 0 ++ D).map n64v) ∧ Below w.heap.size w wx ∧ ∀ ad, A' = some ad → w.heap.size < ad.block)
      case first =>
        have hi0 : (0 : Int) ≤ (i : Int) := by omega
        have hi1 : (i : Int) < (G.length : Int) := by omega
        have hb2 := bw_new (Below.refl _ wr) (.cells #[.int .i64 (x : Int)] 3)
        have HB2 := Lib.hid hb2
        clear hb2
        cases RA with
        | none =>
          have hR0 : R = 0 := by
            rcases Nat.eq_zero_or_pos R with h | h
            · exact h
            · obtain ⟨_, _, h2, _⟩ := H4.out.at_ (grps_len_pos (by omega))
              cases h2
          subst hR0
          have hl0 : (grps 0).length = 0 := by rw [grps_zero]; rfl
          rw [hl0]
          have HRX := Lib.hid (show Rd n64v (wr.alloc (.cells #[.int .i64 (x : Int)] 3)) (wr.heap.size + 1) (some ⟨wr.heap.size, 0, none⟩) [x] from by
            have := Blk.rd (enc := n64v) (L := [x]) (show Blk (wr.alloc (.cells #[.int .i64 (x : Int)] 3)) wr.heap.size 3 [.int .i64 (x : Int)] from heap_alloc_new wr _)
            rw [World.size_alloc] at this
            exact this)
          have hgx : gv [x] = N := by rw [← HGN.out, grps_zero]
          have HS := Lib.hid (short_any [x] (some ⟨wr.heap.size, 0, none⟩) 1 (wr.heap.size + 1) (wr.alloc (.cells #[.int .i64 (x : Int)] 3)) HRX.out (Small4.cons hx4 (fun _ h => by cases h)) (Nat.le_refl _) (by show 1 ≤ _; omega))
          rw [hgx] at HS
          go_wp2_with fail
          refine HS.out.mono ?_
          rintro e w2 ⟨rfl, rfl⟩
          go_wp2_with fail
          go_meet
          refine ⟨some ⟨wr.heap.size, 0, none⟩, 1, rfl, ?_, ?_, H6.out.alloc _, H7.out.trans (HB2.out.mono H7.out.size), fun ad e => by cases e; exact H6.out.lt⟩
          · have := grps_eq_take [x] (Small4.cons hx4 (fun _ h => by cases h))
            rw [hgx] at this
            rw [this]
            exact (HRX.out.take _).more (by simp)
          · have := grps_len_le_len [x] (Small4.cons hx4 (fun _ h => by cases h))
            rw [hgx] at this
            exact this
        | some ad =>
          have hown := World.ownsRow_lit (base := wr.heap.size) (size := 1) (e := 3) wr #[.int .i64 (x : Int)] 1 (Nat.le_refl _) (by decide) rfl
          have HOW := Lib.hid hown
          have hcell : ∀ j u, ((grps R).map n64v)[j]? = some u → (wr.alloc (.cells #[.int .i64 (x : Int)] 3)).cell? (ad.add j) = some u := fun j u hj => by
            obtain ⟨hj1, hj2⟩ := List.getElem?_eq_some_iff.1 hj
            rw [List.length_map] at hj1
            obtain ⟨b2, o2, hb2, hlt2, hc2⟩ := (H4.out.below HB2.out).at_ (by omega)
            injection hb2 with hb2
            subst hb2
            have := hc2 j hj1
            rw [← hj2, List.getElem_map]
            rw [add_plainQ]
            exact this
          have HC := Lib.hid hcell
          clear hown hcell
          go_wp2_with (at_builtin; refine wpList_append_own _ rfl _ _ 80 rfl wr.heap.size 3 i0 (.int .i64 0) 1 8 Tryz.underlying80 HHI.out HZ0.out HZ1.out HZ2.out rfl (by decide) _ _ _ rfl HOW.out ad (grps R).length rc ((grps R).map n64v) rfl (by simp) HC.out (fun u hu => by obtain ⟨y, _, rfl⟩ := List.mem_map.1 hu; rfl) (by unfold maxLen; omega) (by omega) (by simp) ?_)
          intro v' w3 hown hgrow _
          obtain ⟨g, cap, rfl, hcap⟩ := own_form hown (by omega)
          have hL1 : 1 + (grps R).length = (x :: grps R).length := by simp; omega
          rw [hL1] at hown hcap ⊢
          have hrd : Rd n64v w3 w3.heap.size (some ⟨g, 0, none⟩) (x :: grps R) := Rd.of_own (enc := n64v) (L := x :: grps R) hown rfl
          have hb3 : Below wr.heap.size wr w3 := HB2.out.trans ((Below.refl wr.heap.size _).grown hgrow (by simp) (fun r e => Nat.le_of_eq (Option.some.inj e)))
          have HRD := Lib.hid hrd
          have HB3 := Lib.hid hb3
          have HGE := Lib.hid (show w.heap.size < g from Nat.lt_of_lt_of_le H6.out.lt (hown.lt g rfl).1)
          have HS := Lib.hid (short_any (x :: grps R) (some ⟨g, 0, none⟩) cap w3.heap.size w3 hrd (Small4.cons hx4 (grps_small R)) hcap (by rw [← hL1]; omega))
          rw [HGN.out] at HS
          clear hown hgrow hrd hb3
          go_wp2_with fail
          refine HS.out.mono ?_
          rintro e w2 ⟨rfl, rfl⟩
          go_wp2_with fail
          go_meet
          have hle := grps_len_le_len (x :: grps R) (Small4.cons hx4 (grps_small R))
          have htk := grps_eq_take (x :: grps R) (Small4.cons hx4 (grps_small R))
          rw [HGN.out] at hle htk
          refine ⟨some ⟨g, 0, none⟩, cap, rfl, ?_, Nat.le_trans hle hcap, H6.out.below HB3.out H6.out.lt, H7.out.trans (HB3.out.mono H7.out.size), fun ad e => by cases e; exact HGE.out⟩
          rw [htk]
          exact HRD.out.take _
      case rest =>
        clear H4 H5 H6 H7
        obtain ⟨A', c', rfl, k1, k2, k3, k4, k5⟩ := hcut
        have K5 := Lib.hid k5
        clear k5
        have K1 := Lib.hid k1
        have K3 := Lib.hid k3
        have K4 := Lib.hid k4
        have hNl : (grps N).length ≤ 1001 := by omega
        have HNL := Lib.hid hNl
        have HHQ := Lib.hid hh
        clear k1 k3 k4 hq0
        go_wp2_with fail
        obtain ⟨wo, rfl⟩ : ∃ wo : World, wo = wc := ⟨_, rfl⟩
        go_loopw [9, 10] (fun lv hv wx => ∃ (lo hi : Nat), lv = .int .i64 (lo : Int) ∧ hv = .int .i64 (hi : Int) ∧ lo < hi ∧ hi ≤ 10000 ∧ Lib.Kept (lo * q ≤ N ∧ N < hi * q) ∧ Below wo.heap.size wo wx) (fun lv hv _ => (intOf hv - intOf lv).toNat)
        case atStart => exact ⟨0, 10000, rfl, rfl, by omega, by omega, ⟨by omega, HNQ.out⟩, Below.refl _ _⟩
        case round =>
          obtain ⟨lo, hi, rfl, rfl, hlh, hh4, hkp, hbl⟩ := hrel
          have HKP := Lib.hid hkp
          have HBL := Lib.hid hbl
          clear hkp hbl
          obtain ⟨X, hX⟩ : ∃ X : Int, X = (hi : Int) := ⟨_, rfl⟩
          obtain ⟨Y, hY⟩ : ∃ Y : Int, Y = (lo : Int) := ⟨_, rfl⟩
          obtain ⟨E, hE⟩ : ∃ E : Int, E = X - Y := ⟨_, rfl⟩
          have hw : wrap64 (X - Y) = E := by rw [hE]; exact IntWalk.wrap64_in _ ⟨by omega, by omega⟩
          have HW := Lib.hid hw
          have HXY := Lib.hid (show X = (hi : Int) ∧ Y = (lo : Int) from ⟨hX, hY⟩)
          clear hw
          rw [← hX, ← hY]
          by_cases hend : hi - lo ≤ 1
          · have hd : ¬ (1 < E) := by omega
            have hlo : hi = lo + 1 := by omega
            clear hE hX hY
            have hw := HW.out
            clear hiz hlR hlN hRlt hNl
            go_upto_if 33 with fail
            clear hd hw HW
            by_cases hl0 : lo = 0
            · have hY0 : ¬ (0 < Y) := by have := HXY.out.2; omega
              have KB8 := Lib.hid (K3.out.below HBL.out K3.out.lt)
              have HFAR := K5
              have HRB := Lib.hid (show Rd n64v wr wr.heap.size A' (grps (N - q * lo)) from by rw [hl0, Nat.mul_zero, Nat.sub_zero]; exact (K1.out.below HBL.out).more HBL.out.size)
              have HBW8 := Lib.hid (K4.out.trans (HBL.out.mono K4.out.size))
              have HLB := Lib.hid (show (grps (N - q * lo)).length ≤ c' by rw [hl0, Nat.mul_zero, Nat.sub_zero]; exact k2)
              have HLN := Lib.hid (show (grps N).length = (grps (N - q * lo)).length by rw [hl0, Nat.mul_zero, Nat.sub_zero])
              go_upto_region 15 with fail
              rw [HLN.out]
              clear hY0
              have hcell : wr.cell? ⟨w.heap.size, i, none⟩ = some (.int .i64 0) := by
                have h := KB8.out.cell i
                rw [h, List.getElem?_map, List.getElem?_append_left (by simp), List.getElem?_replicate]
                simp [n64v]
              have hfz : wr.frozen? ⟨w.heap.size, i, none⟩ = false := KB8.out.frozen i
              have hi0 : (0 : Int) ≤ (i : Int) := by omega
              have hi1 : (i : Int) < (G.length : Int) := by omega
              have hset : ((List.replicate (i + 1) 0 ++ D).map n64v).set i (n64v lo) = (List.replicate i 0 ++ lo :: D).map n64v := by
                rw [← List.map_set]
                congr 1
                rw [List.set_append_left _ _ (by simp), List.replicate_succ', List.set_append_right _ _ (by simp)]
                simp
              have hpt := KB8.out.put i (n64v lo)
              rw [hset] at hpt
              have hquo : N / q = lo := Nat.div_eq_of_lt_le HKP.out.1 (by have := HKP.out.2; rw [hlo] at this; exact this)
              have hmod : N % q = N - q * lo := by
                have := Nat.div_add_mod N q
                rw [hquo] at this
                omega
              have HNR := Lib.hid (show QuRel w w.heap.size G q i A' c' (lo :: D) (wr.setCell ⟨w.heap.size, i, none⟩ (.int .i64 (lo : Int))) from
                ⟨by have := H1.out; simp; omega, Small4.cons (by omega) H2.out, by rw [HQS.out.1, hquo]; show lo + 10000 * gv D = _; rw [H3.out], by rw [HQS.out.2, hmod]; exact ((HRB.out.setFar HFAR.out _).more (by simp)), by rw [HQS.out.2, hmod]; exact HLB.out, hpt, bw_set HBW8.out (Nat.le_refl _) _, Nat.le_refl _, HFAR.out⟩)
              have HMD := Lib.hid (show gv (G.drop i) % q = N - q * lo by rw [HQS.out.2, hmod])
              clear hset hpt hquo hmod
              have hY : Y = (lo : Int) := HXY.out.2
              have hwi : wrap64 ((i : Int) - 1) = (i : Int) - 1 := IntWalk.wrap64_in _ ⟨by omega, by omega⟩
              have HWI := Lib.hid hwi
              clear hwi
              subst hY
              clear hl0
              go_wp2_with fail
              go_roundw
              case rel => exact ⟨i, A', c', lo :: D, by omega, by first | rfl | rw [HWI.out], by rw [HMD.out], HNR.out⟩
              case measure =>
                simp only [intOf]
                try rw [HWI.out]
                clear HWI
                omega
            · have hY0 : 0 < Y := by have := HXY.out.2; omega
              have hlq : lo * q ≤ N := HKP.out.1
              have HLQ := Lib.hid hlq
              clear hlq
              go_upto_region 14 with fail
              rw [HXY.out.2]
              clear hY0
              go_wp2_with fail
              have hrm : Rd n64v (wr.alloc (.cells #[.int .i64 (lo : Int)] 3)) (wr.heap.size + 1) (some ⟨wr.heap.size, 0, none⟩) [lo] := by
                have := Blk.rd (enc := n64v) (L := [lo]) (show Blk (wr.alloc (.cells #[.int .i64 (lo : Int)] 3)) wr.heap.size 3 [.int .i64 (lo : Int)] from heap_alloc_new wr _)
                rw [World.size_alloc] at this
                exact this
              have hbw : Below w.heap.size w (wr.alloc (.cells #[.int .i64 (lo : Int)] 3)) := bw_new (K4.out.trans (HBL.out.mono K4.out.size)) _
              have hpl : (grps (q * lo)).length ≤ 1002 := by
                have h1 := grps_len_mul q lo
                have h2 : (grps lo).length ≤ 1 := grps_len_le lo 1 (by omega)
                have := HHQ.out
                omega
              have HT := Lib.hid (reftimes_any (grps q) [lo] A2 (some ⟨wr.heap.size, 0, none⟩) c2 1 (wr.alloc (.cells #[.int .i64 (lo : Int)] 3)) ((HR2.out.below hbw).more hbw.size) (by simpa using hrm) (grps_small q) (Small4.cons (by omega) (fun _ h => by cases h)) (by have := HHQ.out; omega) (by show 1 ≤ _; omega))
              have hgm : gv (grps q) * gv [lo] = q * lo := by rw [gv_grps]; show q * (lo + 10000 * 0) = q * lo; rw [Nat.mul_zero, Nat.add_zero]
              rw [hgm] at HT
              have HPL := Lib.hid hpl
              have HBW := Lib.hid hbw
              clear hrm hbw hpl hgm
              refine HT.out.mono ?_
              rintro e w5 ⟨TA, tc, rfl, ht1, ht2, ht3⟩
              have HT1 := Lib.hid ht1
              have HB5 := Lib.hid (HBW.out.trans (ht3.mono HBW.out.size))
              have HO5 := Lib.hid (HBL.out.trans (((bw_new (Below.refl _ _) (.cells #[.int .i64 (lo : Int)] 3)).trans (ht3.mono (by simp))).mono HBL.out.size))
              clear ht1 ht3 HT HBW
              go_wp2_with fail
              refine (both_subX (grps N) (grps (q * lo)) A' TA c' tc w5 (K1.out.below (HO5.out) |>.more (HO5.out.size)) HT1.out (grps_small _) (grps_small _) (by have := HNL.out; omega) (by have := HPL.out; omega) (by rw [gv_grps, gv_grps, Nat.mul_comm]; exact HLQ.out)).mono ?_
              rw [gv_grps, gv_grps]
              rintro e w6 ⟨B6, c6, rfl, hb1', hb2', hb3', hb4'⟩
              have KB8 := Lib.hid ((K3.out.below HO5.out K3.out.lt).below hb3' (Nat.lt_of_lt_of_le K3.out.lt HO5.out.size))
              have HFAR := Lib.hid (show ∀ ad, B6 = some ad → w.heap.size < ad.block from fun ad e => Nat.lt_of_lt_of_le (Nat.lt_of_lt_of_le K3.out.lt HO5.out.size) (hb4' ad e))
              have HRB := Lib.hid hb1'
              have HLB := Lib.hid hb2'
              have HBW8 := Lib.hid (HB5.out.trans (hb3'.mono HB5.out.size))
              clear hb1' hb2' hb3' hb4' ht2
              go_upto_region 15 with fail
              have hcell : w6.cell? ⟨w.heap.size, i, none⟩ = some (.int .i64 0) := by
                have h := KB8.out.cell i
                rw [h, List.getElem?_map, List.getElem?_append_left (by simp), List.getElem?_replicate]
                simp [n64v]
              have hfz : w6.frozen? ⟨w.heap.size, i, none⟩ = false := KB8.out.frozen i
              have hi0 : (0 : Int) ≤ (i : Int) := by omega
              have hi1 : (i : Int) < (G.length : Int) := by omega
              have hset : ((List.replicate (i + 1) 0 ++ D).map n64v).set i (n64v lo) = (List.replicate i 0 ++ lo :: D).map n64v := by
                rw [← List.map_set]
                congr 1
                rw [List.set_append_left _ _ (by simp), List.replicate_succ', List.set_append_right _ _ (by simp)]
                simp
              have hpt := KB8.out.put i (n64v lo)
              rw [hset] at hpt
              have hquo : N / q = lo := Nat.div_eq_of_lt_le HKP.out.1 (by have := HKP.out.2; rw [hlo] at this; exact this)
              have hmod : N % q = N - q * lo := by
                have := Nat.div_add_mod N q
                rw [hquo] at this
                omega
              have HNR := Lib.hid (show QuRel w w.heap.size G q i B6 c6 (lo :: D) (w6.setCell ⟨w.heap.size, i, none⟩ (.int .i64 (lo : Int))) from
                ⟨by have := H1.out; simp; omega, Small4.cons (by omega) H2.out, by rw [HQS.out.1, hquo]; show lo + 10000 * gv D = _; rw [H3.out], by rw [HQS.out.2, hmod]; exact ((HRB.out.setFar HFAR.out _).more (by simp)), by rw [HQS.out.2, hmod]; exact HLB.out, hpt, bw_set HBW8.out (Nat.le_refl _) _, Nat.le_refl _, HFAR.out⟩)
              have HMD := Lib.hid (show gv (G.drop i) % q = N - q * lo by rw [HQS.out.2, hmod])
              clear hset hpt hquo hmod
              have hY : Y = (lo : Int) := HXY.out.2
              have hwi : wrap64 ((i : Int) - 1) = (i : Int) - 1 := IntWalk.wrap64_in _ ⟨by omega, by omega⟩
              have HWI := Lib.hid hwi
              clear hwi
              subst hY
              go_wp2_with fail
              go_roundw
              case rel => exact ⟨i, B6, c6, lo :: D, by omega, by first | rfl | rw [HWI.out], by rw [HMD.out], HNR.out⟩
              case measure =>
                simp only [intOf]
                try rw [HWI.out]
                clear HWI
                omega
          · have hd : (1 : Int) < E := by omega
            obtain ⟨S, hS⟩ : ∃ S : Int, S = Y + X := ⟨_, rfl⟩
            obtain ⟨mid, hmid⟩ : ∃ m, m = (lo + hi) / 2 := ⟨_, rfl⟩
            have hm1 : lo < mid := by omega
            have hm2 : mid < hi := by omega
            have hdm : S.tdiv 2 = (mid : Int) := by rw [Int.tdiv_eq_ediv_of_nonneg (by omega)]; omega
            have hwm : wrap64 (Y + X) = S := by rw [hS]; exact IntWalk.wrap64_in _ ⟨by omega, by omega⟩
            have hwd : wrap64 (S.tdiv 2) = (mid : Int) := by rw [hdm]; exact IntWalk.wrap64_in _ ⟨by clear hwm; omega, by clear hwm; omega⟩
            clear hE hX hY hS hmid hdm
            have hw := HW.out
            clear hiz hlR hlN hRlt hNl
            go_upto_if 33 with fail
            clear hd hw HW
            go_wp2_with fail
            have HWD := Lib.hid hwd
            clear hwm hwd
            have hrm : Rd n64v (wr.alloc (.cells #[.int .i64 (mid : Int)] 3)) (wr.heap.size + 1) (some ⟨wr.heap.size, 0, none⟩) [mid] := by
              have := Blk.rd (enc := n64v) (L := [mid]) (show Blk (wr.alloc (.cells #[.int .i64 (mid : Int)] 3)) wr.heap.size 3 [.int .i64 (mid : Int)] from heap_alloc_new wr _)
              rw [World.size_alloc] at this
              exact this
            have hbw : Below w.heap.size w (wr.alloc (.cells #[.int .i64 (mid : Int)] 3)) := bw_new (K4.out.trans (HBL.out.mono K4.out.size)) _
            have hpl : (grps (q * mid)).length ≤ 1002 := by
              have h1 := grps_len_mul q mid
              have h2 : (grps mid).length ≤ 1 := grps_len_le mid 1 (by omega)
              have := HHQ.out
              omega
            have HT := Lib.hid (reftimes_any (grps q) [mid] A2 (some ⟨wr.heap.size, 0, none⟩) c2 1 (wr.alloc (.cells #[.int .i64 (mid : Int)] 3)) ((HR2.out.below hbw).more hbw.size) (by simpa using hrm) (grps_small q) (Small4.cons (by omega) (fun _ h => by cases h)) (by have := HHQ.out; omega) (by show 1 ≤ _; omega))
            have hgm : gv (grps q) * gv [mid] = q * mid := by rw [gv_grps]; show q * (mid + 10000 * 0) = q * mid; rw [Nat.mul_zero, Nat.add_zero]
            rw [hgm] at HT
            have HPL := Lib.hid hpl
            have HBW := Lib.hid hbw
            clear hrm hbw hpl hgm
            refine HT.out.mono ?_
            rintro e w5 ⟨TA, tc, rfl, ht1, ht2, ht3⟩
            have HT1 := Lib.hid ht1
            have HB5 := Lib.hid (HBW.out.trans (ht3.mono HBW.out.size))
            have HO5 := Lib.hid (HBL.out.trans (((bw_new (Below.refl _ _) (.cells #[.int .i64 (mid : Int)] 3)).trans (ht3.mono (by simp))).mono HBL.out.size))
            clear ht1 ht3 HT HBW
            go_wp2_with fail
            have HOR := Lib.hid (order_any (q * mid) N TA A' tc c' w5 HT1.out (K1.out.below (HO5.out) |>.more (HO5.out.size)) (by have := HPL.out; omega) (by have := HNL.out; omega))
            obtain ⟨SG, hSG⟩ : ∃ SG, SG = sgnI (((q * mid : Nat) : Int) - (N : Int)) := ⟨_, rfl⟩
            rw [← hSG] at HOR
            refine HOR.out.mono ?_
            rintro e w6 ⟨rfl, hb6⟩
            have HO6 := Lib.hid (HO5.out.trans (hb6.mono HO5.out.size))
            clear hb6 ht2
            by_cases hc : q * mid ≤ N
            · have hs : SG ≤ 0 := by
                rw [hSG]
                unfold sgnI
                split
                · decide
                · rw [if_pos (by omega)]; decide
              have HKN := Lib.hid (show mid * q ≤ N ∧ N < hi * q from ⟨by rw [Nat.mul_comm]; exact hc, HKP.out.2⟩)
              clear hc hSG HOR
              go_wp2_with fail
              go_roundw
              case rel => exact ⟨mid, hi, by rw [HWD.out], by rw [HXY.out.1], hm2, hh4, HKN.out, HO6.out⟩
              case measure =>
                simp only [intOf]
                rw [HWD.out, HXY.out.1, HXY.out.2]
                clear HWD HXY HKP HKN
                omega
            · have hs : ¬ SG ≤ 0 := by
                rw [hSG]
                unfold sgnI
                rw [if_neg (by omega), if_neg (by omega)]
                decide
              have HKN := Lib.hid (show lo * q ≤ N ∧ N < mid * q from ⟨HKP.out.1, by rw [Nat.mul_comm mid]; omega⟩)
              clear hc hSG HOR
              go_wp2_with fail
              go_roundw
              case rel => exact ⟨lo, mid, by rw [HXY.out.2], by rw [HWD.out], hm1, by omega, HKN.out, HO6.out⟩
              case measure =>
                simp only [intOf]
                rw [HWD.out, HXY.out.1, HXY.out.2]
                clear HWD HXY HKP HKN
                omega
end

section
open Go.RowKit

theorem dm_unique {a b q r : Int} (hb : 0 < b) (h : r + b * q = a) (h0 : 0 ≤ r) (h1 : r < b) : a / b = q ∧ a % b = r := (Int.ediv_emod_unique hb).2 ⟨h, h0, h1⟩
set_option maxRecDepth 100000 in
set_option maxHeartbeats 8000000 in
theorem refdivmod_any (a b : Int) (w : World) (ht : Tab w) (hb : 0 < b) (ha : Lib.nDigits a.natAbs ≤ 1000) (hbd : Lib.nDigits b.natAbs ≤ 1000) :
    Calls Tryz.prog 67 #[.string (dec a), .string (dec b)] w fun e w' => e = .returned (.tuple #[.string (dec (a / b)), .string (dec (a % b))]) ∧ Below w.heap.size w w' := by
  obtain ⟨n, hn⟩ : ∃ n, n = a.natAbs := ⟨_, rfl⟩
  obtain ⟨m, hm⟩ : ∃ m, m = b.natAbs := ⟨_, rfl⟩
  have hmp : 0 < m := by omega
  have hmb : (m : Int) = b := by omega
  obtain ⟨k, hk⟩ : ∃ k, k = n / m := ⟨_, rfl⟩
  have hdm := Nat.div_add_mod n m
  have hmod := Nat.mod_lt n hmp
  rw [← hk] at hdm
  obtain ⟨rm, hrm⟩ : ∃ rm, rm = n % m := ⟨_, rfl⟩
  rw [← hrm] at hdm hmod
  have hdmI : b * (k : Int) + (rm : Int) = (n : Int) := by rw [← hmb, ← hdm]; simp
  have hkn : k ≤ n := by rw [hk]; exact Nat.div_le_self _ _
  have hdk : Lib.nDigits k ≤ 1000 := Nat.le_trans (nDigits_mono hkn) (by rw [hn]; exact ha)
  have hga : (grps n).length ≤ 1000 := by rw [hn]; exact Nat.le_trans (grps_len_digits _) ha
  have hgb : (grps m).length ≤ 1000 := by rw [hm]; exact Nat.le_trans (grps_len_digits _) hbd
  have hgk : (grps k).length ≤ 200000 := Nat.le_trans (grps_len_mono hkn) (by omega)
  have hq1 : (if decide (a < 0) = true then -((k : Nat) : Int) else (k : Int)) = (if a < 0 then -(k : Int) else (k : Int)) := by
    by_cases h : a < 0 <;> simp [h]
  obtain ⟨q0, hq0⟩ : ∃ q0 : Int, q0 = if a < 0 then -(k : Int) else (k : Int) := ⟨_, rfl⟩
  rw [← hq0] at hq1
  have hdq : Lib.nDigits q0.natAbs ≤ 1000 := by rw [hq0]; split <;> simpa using hdk
  have hqa : (q0 * b).natAbs ≤ a.natAbs := by
    rw [hq0]
    split
    · rw [Int.neg_mul, Int.mul_comm (k : Int)]; omega
    · rw [Int.mul_comm (k : Int)]; omega
  have hdqb : Lib.nDigits (q0 * b).natAbs ≤ 1000 := Nat.le_trans (nDigits_mono hqa) ha
  obtain ⟨r0, hr0⟩ : ∃ r0 : Int, r0 = a - q0 * b := ⟨_, rfl⟩
  have hra : r0.natAbs ≤ a.natAbs := by
    rw [hr0, hq0]
    split
    · rw [Int.neg_mul, Int.mul_comm (k : Int)]; omega
    · rw [Int.mul_comm (k : Int)]; omega
  have hdr : Lib.nDigits r0.natAbs ≤ 1000 := Nat.le_trans (nDigits_mono hra) ha
  have hfin : (¬ (r0 ≠ 0 ∧ sgn r0 ≠ sgn b) ∧ a / b = q0 ∧ a % b = r0) ∨ ((r0 ≠ 0 ∧ sgn r0 ≠ sgn b) ∧ a / b = q0 - 1 ∧ a % b = r0 + b) := by
    rw [sgn_pos hb]
    by_cases h : a < 0
    · rw [if_pos h] at hq0
      have hr : r0 = -(rm : Int) := by rw [hr0, hq0, Int.neg_mul, Int.mul_comm (k : Int)]; omega
      by_cases hz : rm = 0
      · left
        refine ⟨fun c => c.1 (by rw [hr, hz]; rfl), dm_unique hb ?_ (by omega) (by omega)⟩
        rw [hr0, Int.mul_comm b]; omega
      · right
        refine ⟨⟨by omega, by rw [sgn_neg (by omega)]; decide⟩, dm_unique hb ?_ (by omega) (by omega)⟩
        rw [hr0, Int.mul_sub, Int.mul_one, Int.mul_comm b]; omega
    · rw [if_neg h] at hq0
      have hr : r0 = (rm : Int) := by rw [hr0, hq0, Int.mul_comm (k : Int)]; omega
      left
      refine ⟨fun c => ?_, dm_unique hb ?_ (by omega) (by omega)⟩
      · rw [sgn_pos (by omega)] at c
        exact c.2 rfl
      · rw [hr0, Int.mul_comm b]; omega
  have hsb : sgn b = 1 := sgn_pos hb
  have hs1 := fun W h => refsub_any q0 1 W h (by omega) (Nat.le_trans (nDigits_le 1 1 (by decide) (by decide)) (by decide))
  have ha1 := fun W h => refadd_any r0 b W h (by omega) (by omega)
  have hcb := fun W => refcut_any b W
  rw [decide_eq_false (by omega)] at hcb
  have hml := fun W h => refmul_any q0 b W h (by omega) (by omega)
  have hsu := fun W h => refsub_any a (q0 * b) W h (by omega) (by omega)
  rw [← hr0] at hsu
  have hsr := fun W => refsign_any r0 W
  have hsbb := fun W => refsign_any b W
  have hgra := fun W => group_abs a W (by omega)
  have hgrb := fun W => group_abs b W (by omega)
  rw [← hn] at hgra
  rw [← hm] at hgrb
  have hca := fun W => refcut_any a W
  have h0 := dec_is0 r0
  have HQ := Lib.hid (fun W A c h => whole_any (decide (a < 0)) k A c W h)
  rw [hq1] at HQ
  have h1d : dec 1 = ⟨#[49]⟩ := dec_one
  rw [h1d] at hs1
  have HN := Lib.hid hb
  have HFI := Lib.hid hfin
  have HS1 := Lib.hid hs1
  have HA1 := Lib.hid ha1
  have HCB := Lib.hid hcb
  have HCA := Lib.hid hca
  have HML := Lib.hid hml
  have HSU := Lib.hid hsu
  have HSR := Lib.hid hsr
  have HSB := Lib.hid hsbb
  have HGA := Lib.hid hgra
  have HGB := Lib.hid hgrb
  have HQT := Lib.hid (fun A1 A2 c1 c2 W h1 h2 => refquot_any (grps n) m A1 A2 c1 c2 W h1 h2 (grps_small n) hmp hga hgb)
  have hgn : gv (grps n) = n := gv_grps n
  rw [hgn, ← hk, ← hrm] at HQT
  have HT := Lib.hid ht
  have HZ0 := Lib.hid h0
  have HG1 := Lib.hid (show (grps k).length ≤ 200000 from hgk)
  have HSB1 := Lib.hid hsb
  obtain ⟨fa, hfa⟩ : ∃ f, f = decide (a < 0) := ⟨_, rfl⟩
  rw [← hfa] at HCA HQ
  obtain ⟨sa, hsa⟩ : ∃ s, s = dec a := ⟨_, rfl⟩
  obtain ⟨sb, hsb'⟩ : ∃ s, s = dec b := ⟨_, rfl⟩
  obtain ⟨aa, haa⟩ : ∃ s, s = absS a := ⟨_, rfl⟩
  obtain ⟨ab, hab⟩ : ∃ s, s = absS b := ⟨_, rfl⟩
  obtain ⟨sq, hsq⟩ : ∃ s, s = dec q0 := ⟨_, rfl⟩
  obtain ⟨sr, hsr'⟩ : ∃ s, s = dec r0 := ⟨_, rfl⟩
  obtain ⟨sp, hsp⟩ : ∃ s, s = dec (q0 * b) := ⟨_, rfl⟩
  rw [← hsa] at HCA HSU ⊢
  rw [← hsb'] at HCB HML HSB HA1 ⊢
  rw [← haa] at HCA HGA
  rw [← hab] at HCB HGB
  rw [← hsq] at HS1 HML HQ
  rw [← hsr'] at HSU HSR HA1 HZ0
  rw [← hsp] at HML HSU
  have HSQ := Lib.hid hsq
  have HSRR := Lib.hid hsr'
  clear hn hm hmp hmb hk hdm hmod hrm hdmI hkn hdk hga hgb hgk hq1 hq0 hdq hqa hdqb hr0 hra hdr hfin hsb hs1 ha1 hcb hca hml hsu hsr hsbb hgra hgrb h0 hgn ht ha hbd hfa hsa hsb' haa hab hsq hsr' hsp h1d hb
  go_enter Tryz.func67, Tryz.ntmps67
  go_wp2_with fail
  refine (HCA.out _).mono ?_
  rintro e w1 ⟨rfl, hb1⟩
  have HB1 := Lib.hid hb1
  clear hb1
  go_wp2_with fail
  refine (HCB.out _).mono ?_
  rintro e w2 ⟨rfl, hb2⟩
  have HB2 := Lib.hid (HB1.out.trans (hb2.mono HB1.out.size))
  clear hb2
  go_wp2_with fail
  refine (HGA.out _).mono ?_
  rintro e w3 ⟨A1, c1, rfl, hr1, hc1, hb3⟩
  have HR1 := Lib.hid hr1
  have HB3 := Lib.hid (HB2.out.trans (hb3.mono HB2.out.size))
  clear hb3 hr1
  go_wp2_with fail
  refine (HGB.out _).mono ?_
  rintro e w4 ⟨A2, c2, rfl, hr2, hc2, hb4⟩
  have HR2 := Lib.hid hr2
  have HR1' := Lib.hid ((HR1.out.below hb4).more hb4.size)
  have HB4 := Lib.hid (HB3.out.trans (hb4.mono HB3.out.size))
  clear hb4 hr2
  go_wp2_with fail
  refine (HQT.out A1 A2 c1 c2 _ HR1'.out HR2.out).mono ?_
  rintro e w5 ⟨QA, qc, RA, rc, rfl, k1, k2, k3, k4, hb5⟩
  have HK3 := Lib.hid k3
  have HB5 := Lib.hid (HB4.out.trans (hb5.mono HB4.out.size))
  clear hb5 k3 k4 hc1 hc2
  go_wp2_with fail
  refine (HQ.out _ QA qc (HT.out.below HB5.out) HK3.out HG1.out).mono ?_
  rintro e w6 ⟨rfl, hb6⟩
  have HB6 := Lib.hid (HB5.out.trans (hb6.mono HB5.out.size))
  clear hb6 k1 k2
  go_wp2_with fail
  refine (HML.out _ (HT.out.below HB6.out)).mono ?_
  rintro e w7 ⟨rfl, hb7⟩
  have HB7 := Lib.hid (HB6.out.trans (hb7.mono HB6.out.size))
  clear hb7
  go_wp2_with fail
  refine (HSU.out _ (HT.out.below HB7.out)).mono ?_
  rintro e w8 ⟨rfl, hb8⟩
  have HB8 := Lib.hid (HB7.out.trans (hb8.mono HB7.out.size))
  clear hb8
  by_cases hz : r0 = 0
  · have h0 := HZ0.out
    rw [decide_eq_true hz] at h0
    rcases HFI.out with ⟨_, e1, e2⟩ | ⟨⟨h, _⟩, _⟩
    · have HE := Lib.hid (show dec (a / b) = sq ∧ dec (a % b) = sr from ⟨by rw [e1, HSQ.out], by rw [e2, HSRR.out]⟩)
      clear hz e1 e2
      go_wp2
      go_ret2
      exact ⟨by rw [HE.out.1, HE.out.2]; rfl, HB8.out⟩
    · exact absurd hz h
  · have h0 := HZ0.out
    rw [decide_eq_false hz] at h0
    have HNZ := Lib.hid hz
    clear hz
    obtain ⟨g1, hg1⟩ : ∃ g, g = sgn r0 := ⟨_, rfl⟩
    rw [← hg1] at HSR HFI
    rw [HSB1.out] at HSB HFI
    clear hg1
    go_wp2_with fail
    refine (HSR.out _).mono ?_
    rintro e w9 ⟨rfl, hb9⟩
    have HB9 := Lib.hid (HB8.out.trans (hb9.mono HB8.out.size))
    clear hb9
    go_wp2_with fail
    refine (HSB.out _).mono ?_
    rintro e w10 ⟨rfl, hb10⟩
    have HB10 := Lib.hid (HB9.out.trans (hb10.mono HB9.out.size))
    clear hb10
    rcases HFI.out with ⟨h, e1, e2⟩ | ⟨⟨_, h⟩, e1, e2⟩
    · have hg : g1 = 1 := by
        rcases Int.decEq g1 1 with h' | h'
        · exact absurd ⟨HNZ.out, h'⟩ h
        · exact h'
      have HE := Lib.hid (show dec (a / b) = sq ∧ dec (a % b) = sr from ⟨by rw [e1, HSQ.out], by rw [e2, HSRR.out]⟩)
      clear e1 e2 h
      go_wp2
      go_ret2
      exact ⟨by rw [HE.out.1, HE.out.2]; rfl, HB10.out⟩
    · have HE := Lib.hid (show a / b = q0 - 1 ∧ a % b = r0 + b from ⟨e1, e2⟩)
      clear e1 e2
      go_wp2_with fail
      refine (HS1.out _ (HT.out.below HB10.out)).mono ?_
      rintro e w11 ⟨rfl, hb11⟩
      have HB11 := Lib.hid (HB10.out.trans (hb11.mono HB10.out.size))
      clear hb11
      go_wp2_with fail
      refine (HA1.out _ (HT.out.below HB11.out)).mono ?_
      rintro e w12 ⟨rfl, hb12⟩
      have HB12 := Lib.hid (HB11.out.trans (hb12.mono HB11.out.size))
      clear hb12
      go_wp2
      go_ret2
      exact ⟨by rw [HE.out.1, HE.out.2]; rfl, HB12.out⟩
end
end Go.Proofs.YtplonkeipdbchaaGreatDoor
