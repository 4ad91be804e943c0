/- The statement WishPlans: the walk. For any plan of a problem and any list of groups the call returns true. Conditions: the library's table of powers of ten reads as its text lays it. -/
import Derived.Test.YtkamepalomkpbaaGreatDoorWishLPart
import Derived.Test.YtkamepalomkpbaaGreatDoorWishPlan
import Derived.Test.YtkamepalomkpbaaGreatDoorWishKnown
import Derived.Test.YtkamepalomkpbaaGreatDoorWishMake
namespace Go.Proofs.YtkamepalomkpbaaGreatDoor
open Go.RowKit

theorem nrd_more' {w : World} {Bd Bd' : Nat} {A : Option Addr} {L : List Wnt} (h : NRd w Bd A L) (hB : Bd ≤ Bd') : NRd w Bd' A L := fun hl => by
  obtain ⟨b, off, rfl, hb, hc⟩ := h hl
  exact ⟨b, off, rfl, by omega, hc⟩

set_option maxRecDepth 100000 in
set_option maxHeartbeats 8000000 in
theorem wplansLaw_any (XA : Option Addr) (xn xc bR : Nat) (L : List Wnt) (LA : Option Addr) (ln lc : Nat) (gs : List (List Int)) (w : World) (hL : L.length = xn) (hxc : xn ≤ xc) (hxm : xc ≤ maxLen) (hr : NRd w w.heap.size XA L) (hbR : bR ≤ 255)
    (hgl : gs.length = ln) (hgr : GRd w w.heap.size LA gs) (hgc : ln ≤ lc) (hgm : lc ≤ maxLen) (ht : Tab w) :
    Calls Tryz.prog 6 #[.agg #[.slice XA xn xc, .int .u8 bR], .slice LA ln lc] w fun e w' => e = .returned (.bool true) ∧ Below w.heap.size w w' := by
  have hb0 := bw_new (Below.refl _ w) (.cells #[.slice XA xn xc, .int .u8 bR] 24)
  have hbx : Blk (w.alloc (.cells #[.slice XA xn xc, .int .u8 bR] 24)) w.heap.size 24 [.slice XA xn xc, .int .u8 bR] := Blk.new
  have HB0 := Lib.hid hb0
  have HBX := Lib.hid hbx
  have HT0 := Lib.hid (ht.below hb0)
  have HR0 := Lib.hid (hr.below hb0)
  have HL := Lib.hid hL
  have HT := Lib.hid ht
  have HG := Lib.hid hgr
  have HGL := Lib.hid hgl
  have hgm' := hgm
  unfold maxLen at hgm'
  have HCF := Lib.hid (fun W (h : Below w.heap.size w W) => cfLong_any LA ln lc w.heap.size gs W hgl (hgr.below h) hgc hgm)
  clear hb0 hbx ht hr hL hgr hgl
  by_cases hg7 : 6 < ln
  · go_enter Tryz.func6, Tryz.ntmps6
    go_wp2_with fail
    refine (wknown_any _ HT0.out).mono ?_
    rintro e w1 ⟨rfl, hk1⟩
    have HB1 := Lib.hid (HB0.out.trans (hk1.mono HB0.out.size))
    clear hk1
    go_wp2_with fail
    refine (wknown_any _ (HT.out.below HB1.out)).mono ?_
    rintro e w2 ⟨rfl, hk2⟩
    have HB2 := Lib.hid (HB1.out.trans (hk2.mono HB1.out.size))
    clear hk2
    go_wp2
    go_ret
    exact ⟨rfl, HB2.out⟩
  · obtain ⟨lg, hlg⟩ : ∃ f, f = gs.any (fun g => decide (6 < g.length)) := ⟨_, rfl⟩
    rw [← hlg] at HCF
    clear hlg
    cases lg with
    | true =>
      go_enter Tryz.func6, Tryz.ntmps6
      go_wp2_with fail
      refine (wknown_any _ HT0.out).mono ?_
      rintro e w1 ⟨rfl, hk1⟩
      have HB1 := Lib.hid (HB0.out.trans (hk1.mono HB0.out.size))
      clear hk1
      go_wp2_with fail
      refine (HCF.out _ HB1.out).mono ?_
      rintro e w1' ⟨rfl, rfl⟩
      go_wp2_with fail
      refine (wknown_any _ (HT.out.below HB1.out)).mono ?_
      rintro e w2 ⟨rfl, hk2⟩
      have HB2 := Lib.hid (HB1.out.trans (hk2.mono HB1.out.size))
      clear hk2
      go_wp2
      go_ret
      exact ⟨rfl, HB2.out⟩
    | false =>
      go_enter Tryz.func6, Tryz.ntmps6
      go_wp2_with fail
      refine (wknown_any _ HT0.out).mono ?_
      rintro e w1 ⟨rfl, hk1⟩
      have HB1 := Lib.hid (HB0.out.trans (hk1.mono HB0.out.size))
      have HR1 := Lib.hid (nrd_more' (HR0.out.below (hk1.mono HB0.out.size)) (Nat.le_trans HB0.out.size hk1.size))
      obtain ⟨x0, x1⟩ := (HBX.out.keep hk1).two
      clear hk1
      go_wp2_with fail
      refine (HCF.out _ HB1.out).mono ?_
      rintro e w1' ⟨rfl, rfl⟩
      go_wp2_with fail
      refine (make_any XA xn xc bR L _ HL.out hxc hxm HR1.out hbR).mono ?_
      rintro e w3 ⟨A, n, cap, RA, rn, rc, rfl, hn, hpb, hk3⟩
      have hlt : (L.take n).length = n := by rw [List.length_take, HL.out]; omega
      have hright := mk_right (L := L.take n) (by rw [hlt]; omega) bR
      obtain ⟨ws, hws⟩ : ∃ ws, ws = mkWs 0 (L.take n) := ⟨_, rfl⟩
      obtain ⟨rules, hrules⟩ : ∃ r, r = ruP bR 5 := ⟨_, rfl⟩
      rw [← hws, ← hrules] at hpb hright
      have hwl := hpb.wl
      have hnc := hpb.wc
      have hcm := hpb.wm
      unfold maxLen at hcm
      have HRIGHT := Lib.hid hright
      have HWL := Lib.hid hwl
      have HWR := Lib.hid (pbE_right hright)
      have hb3 := HB1.out.trans (hk3.mono HB1.out.size)
      have hb4 := bw_new (Below.refl _ w3) (.cells #[.slice A n cap, .slice RA rn rc] 29)
      have hrel : BdMem w3 w3.heap.size w3.heap.size A n cap RA rn rc ws rules LA gs (w3.alloc (.cells #[.slice A n cap, .slice RA rn rc] 29)) :=
        ⟨Blk.new, hpb.below hb4, ((HG.out.below hb3).more hb3.size).below hb4, HT.out.below (bw_new hb3 _), hb4⟩
      have HX := Lib.hid hrel
      have HB3 := Lib.hid hb3
      obtain ⟨p0, p1⟩ := hrel.1.two
      clear hk3 hb3 hb4 hpb hrel x0 x1 hws hrules hwl hn hlt hright HB0 HBX HT0 HR0 HB1 HR1 HCF
      obtain ⟨W, hW⟩ : ∃ W, W = w3.alloc (.cells #[.slice A n cap, .slice RA rn rc] 29) := ⟨_, rfl⟩
      have HP := Lib.hid (fun W (h : BdMem w3 w3.heap.size w3.heap.size A n cap RA rn rc ws rules LA gs W) => lpart_any A n cap RA rn rc ws rules LA ln lc gs w3.heap.size W h.2.1 h.2.2.2.2.size HRIGHT.out HGL.out h.2.2.1 hgc hgm h.2.2.2.1)
      have HTO := Lib.hid (fun W (h : BdMem w3 w3.heap.size w3.heap.size A n cap RA rn rc ws rules LA gs W) => total_any A n cap RA rn rc ws rules LA ln lc gs w3.heap.size W h.2.1 h.2.2.2.2.size HGL.out h.2.2.1 hgc hgm h.2.2.2.1)
      have HPL := Lib.hid (fun W (h : BdMem w3 w3.heap.size w3.heap.size A n cap RA rn rc ws rules LA gs W) => plan_any A n cap RA rn rc ws rules LA ln lc gs w3.heap.size W h.2.1 h.2.2.2.2.size HGL.out h.2.2.1 hgc hgm h.2.2.2.1)
      have hzz := @plE_zero ws rules gs
      obtain ⟨z, hz⟩ : ∃ z, z = plE ws rules gs := ⟨_, rfl⟩
      rw [← hz] at HP HTO HPL hzz
      go_wp2_with fail
      rw [← hW] at HX p0 p1 ⊢
      clear hW
      refine (HP.out _ HX.out).mono ?_
      rintro e w5 ⟨rfl, hk5⟩
      have HX5 := Lib.hid (HX.out.below (Nat.le_refl _) hk5)
      clear hk5 p0 p1 HX
      obtain ⟨p0, p1⟩ := HX5.out.1.two
      by_cases hz0 : z = 0
      · subst hz0
        obtain ⟨hq1, hq2, hq3, hq4⟩ := hzz rfl
        rw [if_pos rfl] at HTO
        have HOK := Lib.hid (show ∀ g ∈ gs, gpE n g = 0 by rw [← HWL.out]; exact plA_ok hq2)
        have HIN := Lib.hid hq4
        obtain ⟨tt, htt⟩ : ∃ t, t = totZ ws gs := ⟨_, rfl⟩
        rw [← htt] at HTO
        have HTT := Lib.hid htt
        clear hq1 hq2 hq3 hq4 hzz hz htt
        go_wp2_with fail
        refine (HTO.out _ HX5.out).mono ?_
        rintro e w6 ⟨rfl, hk6⟩
        have HX6 := Lib.hid (HX5.out.below (Nat.le_refl _) hk6)
        clear hk6 p0 p1
        obtain ⟨p0, p1⟩ := HX6.out.1.two
        go_wp2_with fail
        refine (HPL.out _ HX6.out).mono ?_
        rintro e w7 ⟨rfl, hk7⟩
        have HX7 := Lib.hid (HX6.out.below (Nat.le_refl _) hk7)
        clear hk7 p0 p1
        go_wp2_with fail
        go_loopw [9, 49] (fun c v wx => ∃ k : Nat, k ≤ ln ∧ v = .int .i64 k ∧ c = .int .i64 (totZ ws (gs.take k)) ∧ BdMem w3 w3.heap.size w3.heap.size A n cap RA rn rc ws rules LA gs wx) (fun _ v _ => ln - (intOf v).toNat)
        case atStart => exact ⟨0, by omega, rfl, rfl, HX7.out⟩
        case round =>
          obtain ⟨k, hk, rfl, rfl, hrel⟩ := hrel
          have HXr := Lib.hid hrel
          have hsx : w3.heap.size < wr.heap.size := hrel.1.lt
          have hbd := totZ_bd HWR.out (gs := gs.take k) (fun g hg => HIN.out g (List.mem_of_mem_take hg))
          have hkl : (gs.take k).length ≤ 12 := by rw [List.length_take]; omega
          obtain ⟨t, ht⟩ : ∃ t, t = totZ ws (gs.take k) := ⟨_, rfl⟩
          rw [← ht] at hbd ⊢
          have hb0 : -24000 ≤ t := by omega
          have hb1 : t ≤ 24000 := by omega
          have HTS := Lib.hid ht
          clear hrel ht hbd hkl
          by_cases hltj : k < ln
          · have hltg : k < gs.length := by rw [HGL.out]; exact hltj
            obtain ⟨b, off, rfl, hbb, hcell⟩ := HXr.out.2.2.1.at_ (by omega)
            obtain ⟨GA, gc, hck, hrd, hgc1, hgm1⟩ := hcell k hltg
            obtain ⟨g, hg⟩ : ∃ g, g = gs[k] := ⟨_, rfl⟩
            rw [← hg] at hck hrd hgc1
            have hgm2 : g ∈ gs := by rw [hg]; exact List.getElem_mem hltg
            have hgr := HIN.out g hgm2
            have hcb := cost_bd HWR.out hgr
            rw [HWL.out] at hgr
            have hpos : 0 < g.length := List.length_pos_iff.2 (gpE_zero (HOK.out g hgm2)).1
            have HC := Lib.hid (lcost_any A n cap RA rn rc ws rules GA g.length gc g w3.heap.size wr HXr.out.2.1 (by omega) HWR.out hgr rfl hrd hgc1 hgm1 HXr.out.2.2.2.1 hpos)
            have hbw : b < wr.heap.size := by omega
            obtain ⟨p0, p1⟩ := HXr.out.1.two
            have HS := Lib.hid (show t + costZ ws g = totZ ws (gs.take (k + 1)) by rw [take_snoc gs k hltg, totZ_snoc, HTS.out, hg])
            obtain ⟨c, hc⟩ : ∃ c, c = costZ ws g := ⟨_, rfl⟩
            rw [← hc] at HC HS hcb
            obtain ⟨hc0, hc1⟩ := hcb
            clear hg hcell hrd hgr hc hgm2 hpos
            go_wp2_with fail
            refine HC.out.mono ?_
            rintro e w8 ⟨rfl, hk8⟩
            have HX8 := Lib.hid (HXr.out.below (Nat.le_refl _) hk8)
            clear hk8 p0 p1 hck
            go_wp2
            go_roundw
            case rel => exact ⟨k + 1, by omega, by go_num, by rw [← HS.out], HX8.out⟩
            case measure => simp [intOf]; omega
          · have HS := Lib.hid (show t = tt by rw [HTS.out, HTT.out, List.take_of_length_le (by rw [HGL.out]; omega)])
            have htb : (tt == t) = true := by rw [HS.out]; simp
            go_wp2
            go_ret
            exact ⟨rfl, HB3.out.trans (HXr.out.2.2.2.2.mono HB3.out.size)⟩
      · rw [if_neg hz0] at HTO
        have hzn : (z != 0) = true := by simpa using hz0
        have hzf : (z == 0) = false := by simpa using hz0
        clear hzz hz
        go_wp2_with fail
        refine (HTO.out _ HX5.out).mono ?_
        rintro e w6 ⟨rfl, hk6⟩
        have HX6 := Lib.hid (HX5.out.below (Nat.le_refl _) hk6)
        clear hk6 p0 p1
        obtain ⟨p0, p1⟩ := HX6.out.1.two
        go_wp2_with fail
        refine (HPL.out _ HX6.out).mono ?_
        rintro e w7 ⟨rfl, hk7⟩
        have HX7 := Lib.hid (HX6.out.below (Nat.le_refl _) hk7)
        clear hk7 p0 p1
        go_wp2
        go_ret
        exact ⟨rfl, HB3.out.trans (HX7.out.2.2.2.2.mono HB3.out.size)⟩
end Go.Proofs.YtkamepalomkpbaaGreatDoor
