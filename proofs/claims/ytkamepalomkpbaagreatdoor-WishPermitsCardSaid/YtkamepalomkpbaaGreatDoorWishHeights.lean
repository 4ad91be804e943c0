/- The statement WishHeights: the walk. For any plan, any int and any group the call returns true. Conditions: the library's table of powers of ten reads as its text lays it. -/
import Derived.Test.YtkamepalomkpbaaGreatDoorWishLaw
import Derived.Test.YtkamepalomkpbaaGreatDoorWishKnown
import Derived.Test.YtkamepalomkpbaaGreatDoorWishMake
import Derived.Test.YtkamepalomkpbaaGreatDoorWishRight
namespace Go.Proofs.YtkamepalomkpbaaGreatDoor
open Go.RowKit

theorem nrd_more {w : World} {Bd Bd' : Nat} {A : Option Addr} {L : List Wnt} (h : NRd w Bd A L) (hB : Bd ≤ Bd') : NRd w Bd' A L := fun hl => by
  obtain ⟨b, off, rfl, hb, hc⟩ := h hl
  exact ⟨b, off, rfl, by omega, hc⟩
/-- What the walk carries. -/
def WhRel (w : World) (bX Bd : Nat) (A : Option Addr) (n cap : Nat) (B : Option Addr) (m c2 : Nat) (ws : List Wsh) (rules : List Int) (G : Option Addr) (g : List Int) (W : World) : Prop :=
  Blk W bX 29 [.slice A n cap, .slice B m c2] ∧ Pb W Bd A n cap B m c2 ws rules ∧ Rd i64v W Bd G g ∧ Below w.heap.size w W ∧ Bd ≤ W.heap.size ∧ Tab W
theorem WhRel.below {w W W' : World} {bX Bd : Nat} {A : Option Addr} {n cap : Nat} {B : Option Addr} {m c2 : Nat} {ws : List Wsh} {rules : List Int} {G : Option Addr} {g : List Int}
    (h : WhRel w bX Bd A n cap B m c2 ws rules G g W) (hb : Below W.heap.size W W') : WhRel w bX Bd A n cap B m c2 ws rules G g W' := by
  obtain ⟨h1, h2, h3, h4, h5, h6⟩ := h
  exact ⟨h1.keep hb, h2.keep h5 hb, h3.below (hb.mono h5), h4.trans (hb.mono h4.size), Nat.le_trans h5 hb.size, h6.below hb⟩

set_option maxRecDepth 100000 in
set_option maxHeartbeats 8000000 in
theorem wheightsLaw_any (XA : Option Addr) (xn xc bR : Nat) (L : List Wnt) (at_ : Int) (G : Option Addr) (gn gc : Nat) (g : List Int) (w : World) (hL : L.length = xn) (hxc : xn ≤ xc) (hxm : xc ≤ maxLen) (hr : NRd w w.heap.size XA L) (hbR : bR ≤ 255)
    (hgl : g.length = gn) (hgr : Rd i64v w w.heap.size G g) (hgc : gn ≤ gc) (hgm : gc ≤ maxLen) (ht : Tab w) :
    Calls Tryz.prog 4 #[.agg #[.slice XA xn xc, .int .u8 bR], .int .i64 at_, .slice G gn gc] w fun e w' => e = .returned (.bool true) ∧ Below w.heap.size w w' := by
  have hb0 := bw_new (Below.refl _ w) (.cells #[.slice XA xn xc, .int .u8 bR] 24)
  have hbx : Blk (w.alloc (.cells #[.slice XA xn xc, .int .u8 bR] 24)) w.heap.size 24 [.slice XA xn xc, .int .u8 bR] := Blk.new
  have HB0 := Lib.hid hb0
  have HBX := Lib.hid hbx
  have HT0 := Lib.hid (ht.below hb0)
  have HR0 := Lib.hid (hr.below hb0)
  have HL := Lib.hid hL
  have HT := Lib.hid ht
  have HG := Lib.hid hgr
  have HGL := Lib.hid hgl
  have hgm' := hgm
  unfold maxLen at hgm'
  clear hb0 hbx ht hr hL hgr
  by_cases hg7 : 7 < gn
  · go_enter Tryz.func4, Tryz.ntmps4
    go_wp2_with fail
    refine (wknown_any _ HT0.out).mono ?_
    rintro e w1 ⟨rfl, hk1⟩
    have HB1 := Lib.hid (HB0.out.trans (hk1.mono HB0.out.size))
    clear hk1
    go_wp2_with fail
    refine (wknown_any _ (HT.out.below HB1.out)).mono ?_
    rintro e w2 ⟨rfl, hk2⟩
    have HB2 := Lib.hid (HB1.out.trans (hk2.mono HB1.out.size))
    clear hk2
    go_wp2
    go_ret
    exact ⟨rfl, HB2.out⟩
  · go_enter Tryz.func4, Tryz.ntmps4
    go_wp2_with fail
    refine (wknown_any _ HT0.out).mono ?_
    rintro e w1 ⟨rfl, hk1⟩
    have HB1 := Lib.hid (HB0.out.trans (hk1.mono HB0.out.size))
    have HR1 := Lib.hid (nrd_more (HR0.out.below (hk1.mono HB0.out.size)) (Nat.le_trans HB0.out.size hk1.size))
    obtain ⟨x0, x1⟩ := (HBX.out.keep hk1).two
    clear hk1
    go_wp2_with fail
    refine (make_any XA xn xc bR L _ HL.out hxc hxm HR1.out hbR).mono ?_
    rintro e w3 ⟨A, n, cap, RA, rn, rc, rfl, hn, hpb, hk3⟩
    have hlt : (L.take n).length = n := by rw [List.length_take, HL.out]; omega
    have hright := mk_right (L := L.take n) (by rw [hlt]; omega) bR
    obtain ⟨ws, hws⟩ : ∃ ws, ws = mkWs 0 (L.take n) := ⟨_, rfl⟩
    obtain ⟨rules, hrules⟩ : ∃ r, r = ruP bR 5 := ⟨_, rfl⟩
    rw [← hws, ← hrules] at hpb hright
    have hwl := hpb.wl
    have hnc := hpb.wc
    have hcm := hpb.wm
    unfold maxLen at hcm
    have HRIGHT := Lib.hid hright
    have HWL := Lib.hid hwl
    have HWR := Lib.hid (pbE_right hright)
    have HE := Lib.hid (show bothE ws rules g = gpE n g by unfold bothE; rw [if_neg (by rw [hright]; decide), hwl])
    have hb3 := HB1.out.trans (hk3.mono HB1.out.size)
    have hb4 := bw_new (Below.refl _ w3) (.cells #[.slice A n cap, .slice RA rn rc] 29)
    have hrel : WhRel w w3.heap.size w3.heap.size A n cap RA rn rc ws rules G g (w3.alloc (.cells #[.slice A n cap, .slice RA rn rc] 29)) :=
      ⟨Blk.new, hpb.below hb4, ((HG.out.below hb3).more hb3.size).below hb4, bw_new hb3 _, hb4.size, HT.out.below (bw_new hb3 _)⟩
    have HX := Lib.hid hrel
    obtain ⟨p0, p1⟩ := hrel.1.two
    clear hk3 hb3 hb4 hpb hrel x0 x1 hws hrules hwl hn hlt hright HB0 HBX HT0 HR0 HB1 HR1
    obtain ⟨W, hW⟩ : ∃ W, W = w3.alloc (.cells #[.slice A n cap, .slice RA rn rc] 29) := ⟨_, rfl⟩
    go_wp2_with fail
    rw [← hW] at HX p0 p1 ⊢
    clear hW
    refine (wheights_any A n cap RA rn rc ws rules at_ _ _ HX.out.2.1 HX.out.2.2.2.2.1 HRIGHT.out HX.out.2.2.2.2.2).mono ?_
    rintro e w5 ⟨hor, hk5⟩
    have HX5 := Lib.hid (HX.out.below hk5)
    clear hk5 p0 p1 HX
    obtain ⟨p0, p1⟩ := HX5.out.1.two
    have H2 := Lib.hid (fun W (h : WhRel w w3.heap.size w3.heap.size A n cap RA rn rc ws rules G g W) => wcost_any A n cap RA rn rc ws rules G gn gc g _ W h.2.1 h.2.2.2.2.1 HGL.out h.2.2.1 hgc hgm h.2.2.2.2.2)
    have H3 := Lib.hid (fun W (h : WhRel w w3.heap.size w3.heap.size A n cap RA rn rc ws rules G g W) => lgroup_any A n cap RA rn rc g G gn gc _ W HGL.out h.2.2.1 hgc hgm h.2.2.2.2.1)
    rw [HE.out] at H2
    have hz := (show gpE n g = 0 → (∀ i ∈ g, 0 ≤ i ∧ i < (n : Int)) ∧ 0 < gn from fun h => ⟨(gpE_zero h).2, by have := List.length_pos_iff.2 (gpE_zero h).1; have h2 := HGL.out; omega⟩)
    have H4 := Lib.hid (fun W (h : WhRel w w3.heap.size w3.heap.size A n cap RA rn rc ws rules G g W) (h0 : gpE n g = 0) => lcost_any A n cap RA rn rc ws rules G gn gc g _ W h.2.1 h.2.2.2.2.1 HWR.out (hz h0).1 HGL.out h.2.2.1 hgc hgm h.2.2.2.2.2 (hz h0).2)
    obtain ⟨z, hzz⟩ : ∃ z, z = gpE n g := ⟨_, rfl⟩
    obtain ⟨c, hc⟩ : ∃ c, c = costZ ws g := ⟨_, rfl⟩
    rw [← hzz, ← hc] at H2
    rw [← hzz] at H3
    rw [← hzz, ← hc] at H4
    clear hz hzz hc HE
    by_cases hz0 : z = 0
    · subst hz0
      rw [if_pos rfl] at H2
      have h4 := fun W h => H4.out W h rfl
      have H5 := Lib.hid h4
      clear h4 H4
      rcases hor with ⟨hout, rfl⟩ | ⟨⟨hi0, hi1⟩, rfl⟩
      · go_wp2_with fail
        refine (H2.out _ HX5.out).mono ?_
        rintro e w6 ⟨rfl, hk6⟩
        have HX6 := Lib.hid (HX5.out.below hk6)
        clear hk6 p0 p1
        obtain ⟨p0, p1⟩ := HX6.out.1.two
        by_cases hneg : at_ < 0
        · go_wp2_with fail
          refine (H3.out _ HX6.out).mono ?_
          rintro e w8 ⟨rfl, hk8⟩
          have HX8 := Lib.hid (HX6.out.below hk8)
          clear hk8 p0 p1
          obtain ⟨p0, p1⟩ := HX8.out.1.two
          go_wp2_with fail
          refine (H5.out _ HX8.out).mono ?_
          rintro e w9 ⟨rfl, hk9⟩
          have HX9 := Lib.hid (HX8.out.below hk9)
          clear hk9 p0 p1
          go_wp2
          go_ret
          exact ⟨rfl, HX9.out.2.2.2.1⟩
        · have hge : (n : Int) ≤ at_ := by omega
          have hnn : 0 ≤ at_ := by omega
          clear hout
          go_wp2_with fail
          refine (H3.out _ HX6.out).mono ?_
          rintro e w8 ⟨rfl, hk8⟩
          have HX8 := Lib.hid (HX6.out.below hk8)
          clear hk8 p0 p1
          obtain ⟨p0, p1⟩ := HX8.out.1.two
          go_wp2_with fail
          refine (H5.out _ HX8.out).mono ?_
          rintro e w9 ⟨rfl, hk9⟩
          have HX9 := Lib.hid (HX8.out.below hk9)
          clear hk9 p0 p1
          go_wp2
          go_ret
          exact ⟨rfl, HX9.out.2.2.2.1⟩
      · obtain ⟨i, rfl⟩ := Int.eq_ofNat_of_zero_le hi0
        obtain ⟨lw, hlw⟩ : ∃ l, l = loH (wat ws (i : Int)) := ⟨_, rfl⟩
        obtain ⟨hw, hhw⟩ : ∃ l, l = hiH (wat ws (i : Int)) := ⟨_, rfl⟩
        rw [← hlw, ← hhw]
        go_wp2_with fail
        refine (H2.out _ HX5.out).mono ?_
        rintro e w6 ⟨rfl, hk6⟩
        have HX6 := Lib.hid (HX5.out.below hk6)
        clear hk6 p0 p1
        obtain ⟨p0, p1⟩ := HX6.out.1.two
        have hin : i < n := by omega
        have hltw : i < ws.length := by rw [HWL.out]; exact hin
        obtain ⟨b, off, rfl, hbd, hcell⟩ := HX6.out.2.1.wr.at_ (by omega)
        have hat := hcell i hltw
        have hwr := HWR.out ws[i] (List.getElem_mem hltw)
        have hX : wat ws (i : Int) = ws[i] := wat_eq hltw
        obtain ⟨x, hx⟩ : ∃ x, x = ws[i] := ⟨_, rfl⟩
        rw [← hx] at hat hwr hX
        clear hx hcell
        obtain ⟨nm, dv, tn, fn, fd, lo, hi⟩ := x
        obtain ⟨a0, a1, a2, a3, a4, a5, a6⟩ := hat
        dsimp only at a0 a1 a2 a3 a4 a5 a6
        have HH := Lib.hid (fun W h => lheights_any nm dv tn fn fd lo hi W h hwr)
        rw [← hX, ← hlw, ← hhw] at HH
        have hs6 := HX6.out.2.2.2.2.1
        have hbw : b < w6.heap.size := by omega
        clear hwr hX
        go_wp2_with fail
        refine (HH.out _ HX6.out.2.2.2.2.2).mono ?_
        rintro e w7 ⟨rfl, hk7⟩
        have HX7 := Lib.hid (HX6.out.below hk7)
        clear hk7 a0 a1 a2 a3 a4 a5 a6 p0 p1
        obtain ⟨p0, p1⟩ := HX7.out.1.two
        go_wp2_with fail
        refine (H3.out _ HX7.out).mono ?_
        rintro e w8 ⟨rfl, hk8⟩
        have HX8 := Lib.hid (HX7.out.below hk8)
        clear hk8 p0 p1
        obtain ⟨p0, p1⟩ := HX8.out.1.two
        go_wp2_with fail
        refine (H5.out _ HX8.out).mono ?_
        rintro e w9 ⟨rfl, hk9⟩
        have HX9 := Lib.hid (HX8.out.below hk9)
        clear hk9 p0 p1
        go_wp2
        go_ret
        exact ⟨rfl, HX9.out.2.2.2.1⟩
    · have hzn : (z != 0) = true := by simpa using hz0
      have hzf : (z == 0) = false := by simpa using hz0
      rw [if_neg hz0] at H2
      clear H4
      rcases hor with ⟨hout, rfl⟩ | ⟨⟨hi0, hi1⟩, rfl⟩
      · go_wp2_with fail
        refine (H2.out _ HX5.out).mono ?_
        rintro e w6 ⟨rfl, hk6⟩
        have HX6 := Lib.hid (HX5.out.below hk6)
        clear hk6 p0 p1
        obtain ⟨p0, p1⟩ := HX6.out.1.two
        by_cases hneg : at_ < 0
        · go_wp2_with fail
          refine (H3.out _ HX6.out).mono ?_
          rintro e w8 ⟨rfl, hk8⟩
          have HX8 := Lib.hid (HX6.out.below hk8)
          clear hk8 p0 p1
          obtain ⟨p0, p1⟩ := HX8.out.1.two
          go_wp2
          go_ret
          exact ⟨rfl, HX8.out.2.2.2.1⟩
        · have hge : (n : Int) ≤ at_ := by omega
          have hnn : 0 ≤ at_ := by omega
          clear hout
          go_wp2_with fail
          refine (H3.out _ HX6.out).mono ?_
          rintro e w8 ⟨rfl, hk8⟩
          have HX8 := Lib.hid (HX6.out.below hk8)
          clear hk8 p0 p1
          obtain ⟨p0, p1⟩ := HX8.out.1.two
          go_wp2
          go_ret
          exact ⟨rfl, HX8.out.2.2.2.1⟩
      · obtain ⟨i, rfl⟩ := Int.eq_ofNat_of_zero_le hi0
        obtain ⟨lw, hlw⟩ : ∃ l, l = loH (wat ws (i : Int)) := ⟨_, rfl⟩
        obtain ⟨hw, hhw⟩ : ∃ l, l = hiH (wat ws (i : Int)) := ⟨_, rfl⟩
        rw [← hlw, ← hhw]
        go_wp2_with fail
        refine (H2.out _ HX5.out).mono ?_
        rintro e w6 ⟨rfl, hk6⟩
        have HX6 := Lib.hid (HX5.out.below hk6)
        clear hk6 p0 p1
        obtain ⟨p0, p1⟩ := HX6.out.1.two
        have hin : i < n := by omega
        have hltw : i < ws.length := by rw [HWL.out]; exact hin
        obtain ⟨b, off, rfl, hbd, hcell⟩ := HX6.out.2.1.wr.at_ (by omega)
        have hat := hcell i hltw
        have hwr := HWR.out ws[i] (List.getElem_mem hltw)
        have hX : wat ws (i : Int) = ws[i] := wat_eq hltw
        obtain ⟨x, hx⟩ : ∃ x, x = ws[i] := ⟨_, rfl⟩
        rw [← hx] at hat hwr hX
        clear hx hcell
        obtain ⟨nm, dv, tn, fn, fd, lo, hi⟩ := x
        obtain ⟨a0, a1, a2, a3, a4, a5, a6⟩ := hat
        dsimp only at a0 a1 a2 a3 a4 a5 a6
        have HH := Lib.hid (fun W h => lheights_any nm dv tn fn fd lo hi W h hwr)
        rw [← hX, ← hlw, ← hhw] at HH
        have hs6 := HX6.out.2.2.2.2.1
        have hbw : b < w6.heap.size := by omega
        clear hwr hX
        go_wp2_with fail
        refine (HH.out _ HX6.out.2.2.2.2.2).mono ?_
        rintro e w7 ⟨rfl, hk7⟩
        have HX7 := Lib.hid (HX6.out.below hk7)
        clear hk7 a0 a1 a2 a3 a4 a5 a6 p0 p1
        obtain ⟨p0, p1⟩ := HX7.out.1.two
        go_wp2_with fail
        refine (H3.out _ HX7.out).mono ?_
        rintro e w8 ⟨rfl, hk8⟩
        have HX8 := Lib.hid (HX7.out.below hk8)
        clear hk8 p0 p1
        obtain ⟨p0, p1⟩ := HX8.out.1.two
        go_wp2
        go_ret
        exact ⟨rfl, HX8.out.2.2.2.1⟩
end Go.Proofs.YtkamepalomkpbaaGreatDoor
