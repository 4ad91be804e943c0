/- The statement WishPermits: the walk. For any plan and any group the call returns true. Conditions: the library's table of powers of ten reads as its text lays it. -/
import Derived.Test.YtkamepalomkpbaaGreatDoorWishHeights
import Derived.Test.YtkamepalomkpbaaGreatDoorWishLPerm
namespace Go.Proofs.YtkamepalomkpbaaGreatDoor
open Go.RowKit

set_option maxRecDepth 100000 in
set_option maxHeartbeats 8000000 in
theorem wpermitsLaw_any (XA : Option Addr) (xn xc bR : Nat) (L : List Wnt) (G : Option Addr) (gn gc : Nat) (g : List Int) (w : World) (hL : L.length = xn) (hxc : xn ≤ xc) (hxm : xc ≤ maxLen) (hr : NRd w w.heap.size XA L) (hbR : bR ≤ 255)
    (hgl : g.length = gn) (hgr : Rd i64v w w.heap.size G g) (hgc : gn ≤ gc) (hgm : gc ≤ maxLen) (ht : Tab w) :
    Calls Tryz.prog 3 #[.agg #[.slice XA xn xc, .int .u8 bR], .slice G gn gc] w fun e w' => e = .returned (.bool true) ∧ Below w.heap.size w w' := by
  have hb0 := bw_new (Below.refl _ w) (.cells #[.slice XA xn xc, .int .u8 bR] 24)
  have hbx : Blk (w.alloc (.cells #[.slice XA xn xc, .int .u8 bR] 24)) w.heap.size 24 [.slice XA xn xc, .int .u8 bR] := Blk.new
  have HB0 := Lib.hid hb0
  have HBX := Lib.hid hbx
  have HT0 := Lib.hid (ht.below hb0)
  have HR0 := Lib.hid (hr.below hb0)
  have HL := Lib.hid hL
  have HT := Lib.hid ht
  have HG := Lib.hid hgr
  have HGL := Lib.hid hgl
  have hgm' := hgm
  unfold maxLen at hgm'
  clear hb0 hbx ht hr hL hgr
  by_cases hg7 : 7 < gn
  · go_enter Tryz.func3, Tryz.ntmps3
    go_wp2_with fail
    refine (wknown_any _ HT0.out).mono ?_
    rintro e w1 ⟨rfl, hk1⟩
    have HB1 := Lib.hid (HB0.out.trans (hk1.mono HB0.out.size))
    clear hk1
    go_wp2_with fail
    refine (wknown_any _ (HT.out.below HB1.out)).mono ?_
    rintro e w2 ⟨rfl, hk2⟩
    have HB2 := Lib.hid (HB1.out.trans (hk2.mono HB1.out.size))
    clear hk2
    go_wp2
    go_ret
    exact ⟨rfl, HB2.out⟩
  · go_enter Tryz.func3, Tryz.ntmps3
    go_wp2_with fail
    refine (wknown_any _ HT0.out).mono ?_
    rintro e w1 ⟨rfl, hk1⟩
    have HB1 := Lib.hid (HB0.out.trans (hk1.mono HB0.out.size))
    have HR1 := Lib.hid (nrd_more (HR0.out.below (hk1.mono HB0.out.size)) (Nat.le_trans HB0.out.size hk1.size))
    obtain ⟨x0, x1⟩ := (HBX.out.keep hk1).two
    clear hk1
    go_wp2_with fail
    refine (make_any XA xn xc bR L _ HL.out hxc hxm HR1.out hbR).mono ?_
    rintro e w3 ⟨A, n, cap, RA, rn, rc, rfl, hn, hpb, hk3⟩
    have hlt : (L.take n).length = n := by rw [List.length_take, HL.out]; omega
    have hright := mk_right (L := L.take n) (by rw [hlt]; omega) bR
    obtain ⟨ws, hws⟩ : ∃ ws, ws = mkWs 0 (L.take n) := ⟨_, rfl⟩
    obtain ⟨rules, hrules⟩ : ∃ r, r = ruP bR 5 := ⟨_, rfl⟩
    rw [← hws, ← hrules] at hpb hright
    have hwl := hpb.wl
    have hnc := hpb.wc
    have hcm := hpb.wm
    unfold maxLen at hcm
    have HRIGHT := Lib.hid hright
    have HWL := Lib.hid hwl
    have HWR := Lib.hid (pbE_right hright)
    have HE := Lib.hid (show bothE ws rules g = gpE n g by unfold bothE; rw [if_neg (by rw [hright]; decide), hwl])
    have hb3 := HB1.out.trans (hk3.mono HB1.out.size)
    have hb4 := bw_new (Below.refl _ w3) (.cells #[.slice A n cap, .slice RA rn rc] 29)
    have hrel : WhRel w w3.heap.size w3.heap.size A n cap RA rn rc ws rules G g (w3.alloc (.cells #[.slice A n cap, .slice RA rn rc] 29)) :=
      ⟨Blk.new, hpb.below hb4, ((HG.out.below hb3).more hb3.size).below hb4, bw_new hb3 _, hb4.size, HT.out.below (bw_new hb3 _)⟩
    have HX := Lib.hid hrel
    obtain ⟨p0, p1⟩ := hrel.1.two
    clear hk3 hb3 hb4 hpb hrel x0 x1 hws hrules hwl hn hlt hright HB0 HBX HT0 HR0 HB1 HR1
    obtain ⟨W, hW⟩ : ∃ W, W = w3.alloc (.cells #[.slice A n cap, .slice RA rn rc] 29) := ⟨_, rfl⟩
    go_wp2_with fail
    rw [← hW] at HX p0 p1 ⊢
    clear hW
    have H2 := Lib.hid (fun W (h : WhRel w w3.heap.size w3.heap.size A n cap RA rn rc ws rules G g W) => wperm_any A n cap RA rn rc ws rules G gn gc g _ W h.2.1 h.2.2.2.2.1 HGL.out h.2.2.1 hgc hgm h.2.2.2.2.2)
    have H3 := Lib.hid (fun W (h : WhRel w w3.heap.size w3.heap.size A n cap RA rn rc ws rules G g W) => lgroup_any A n cap RA rn rc g G gn gc _ W HGL.out h.2.2.1 hgc hgm h.2.2.2.2.1)
    have hz := (show gpE n g = 0 → (∀ i ∈ g, 0 ≤ i ∧ i < (n : Int)) ∧ 0 < gn from fun h => ⟨(gpE_zero h).2, by have := List.length_pos_iff.2 (gpE_zero h).1; have h2 := HGL.out; omega⟩)
    by_cases hz0 : gpE n g = 0
    · have hbe := HE.out.trans hz0
      obtain ⟨hz1, hz2⟩ := hz hz0
      rw [hz0] at H3
      have H4 := Lib.hid (fun W (h : WhRel w w3.heap.size w3.heap.size A n cap RA rn rc ws rules G g W) => lpair_any A n cap RA rn rc ws rules G gn gc g _ W h.2.1 h.2.2.2.2.1 HWR.out hz1 HGL.out h.2.2.1 hgc hgm h.2.2.2.2.2)
      have H5 := Lib.hid (fun a b hf W (h : WhRel w w3.heap.size w3.heap.size A n cap RA rn rc ws rules G g W) => lperm_some A n cap RA rn rc ws rules G gn gc g _ W h.2.1 h.2.2.2.2.1 HWR.out hz1 HGL.out h.2.2.1 hgc hgm h.2.2.2.2.2 a b hf)
      have H6 := Lib.hid (fun hf W (h : WhRel w w3.heap.size w3.heap.size A n cap RA rn rc ws rules G g W) => lperm_none A n cap RA rn rc ws rules G gn gc g _ W h.2.1 h.2.2.2.2.1 HWR.out hz1 HGL.out h.2.2.1 hgc hgm h.2.2.2.2.2 hf hz2)
      clear hz0 hz hz1
      cases hq : fstP ws rules g with
      | some p =>
        obtain ⟨a, b⟩ := p
        have h2 := H2.out
        rw [perm_pair hbe hq] at h2
        have h2 := Lib.hid h2
        have h4 := H4.out
        rw [hq] at h4
        have h4 := Lib.hid h4
        have h5 := Lib.hid (H5.out a b hq)
        have heq := fun W => eql_two W a b a b
        clear hq hbe H2 H4 H5 H6
        refine (h2.out _ HX.out).mono ?_
        rintro e w5 ⟨rfl, hk5⟩
        have HX5 := Lib.hid (HX.out.below hk5)
        clear hk5 p0 p1 HX
        obtain ⟨p0, p1⟩ := HX5.out.1.two
        go_wp2_with fail
        refine (H3.out _ HX5.out).mono ?_
        rintro e w6 ⟨rfl, hk6⟩
        have HX6 := Lib.hid (HX5.out.below hk6)
        clear hk6 p0 p1
        obtain ⟨p0, p1⟩ := HX6.out.1.two
        go_wp2_with fail
        refine (h4.out _ HX6.out).mono ?_
        rintro e w7 ⟨rfl, hk7⟩
        have HX7 := Lib.hid (HX6.out.below hk7)
        clear hk7 p0 p1
        obtain ⟨p0, p1⟩ := HX7.out.1.two
        have hs7 := HX7.out.1.lt
        unfold lprVal
        dsimp only
        go_wp2_with fail
        refine (h5.out _ (HX7.out.below (bw_new (Below.refl _ _) _))).mono ?_
        rintro e w8 ⟨rfl, hk8⟩
        have HX8 := Lib.hid ((HX7.out.below (bw_new (Below.refl _ _) _)).below hk8)
        have hb8 := (Blk.new (w := w7) (t := 35) (cs := [.int .i64 a, .int .i64 b])).keep hk8
        obtain ⟨q0, q1⟩ := hb8.two
        clear hk8 hb8 p0 p1
        go_wp2
        go_ret
        exact ⟨rfl, HX8.out.2.2.2.1⟩
      | none =>
        have h2 := H2.out
        rw [perm_none hbe hq] at h2
        have h2 := Lib.hid h2
        have h4 := H4.out
        rw [hq] at h4
        have h4 := Lib.hid h4
        have h6 := Lib.hid (H6.out hq)
        clear hq hbe H2 H4 H5 H6
        obtain ⟨d, hd⟩ : ∃ d, d = decide (costZ ws g ≤ 128) := ⟨_, rfl⟩
        rw [← hd] at h2 h6
        clear hd
        have heq := fun W => eql_two W 0 0 0 0
        refine (h2.out _ HX.out).mono ?_
        rintro e w5 ⟨rfl, hk5⟩
        have HX5 := Lib.hid (HX.out.below hk5)
        clear hk5 p0 p1 HX
        obtain ⟨p0, p1⟩ := HX5.out.1.two
        go_wp2_with fail
        refine (H3.out _ HX5.out).mono ?_
        rintro e w6 ⟨rfl, hk6⟩
        have HX6 := Lib.hid (HX5.out.below hk6)
        clear hk6 p0 p1
        obtain ⟨p0, p1⟩ := HX6.out.1.two
        go_wp2_with fail
        refine (h4.out _ HX6.out).mono ?_
        rintro e w7 ⟨rfl, hk7⟩
        have HX7 := Lib.hid (HX6.out.below hk7)
        clear hk7 p0 p1
        obtain ⟨p0, p1⟩ := HX7.out.1.two
        have hs7 := HX7.out.1.lt
        unfold lprVal
        dsimp only
        go_wp2_with fail
        refine (h6.out _ (HX7.out.below (bw_new (Below.refl _ _) _))).mono ?_
        rintro e w8 ⟨rfl, hk8⟩
        have HX8 := Lib.hid ((HX7.out.below (bw_new (Below.refl _ _) _)).below hk8)
        have hb8 := (Blk.new (w := w7) (t := 35) (cs := [.int .i64 0, .int .i64 0])).keep hk8
        obtain ⟨q0, q1⟩ := hb8.two
        clear hk8 hb8 p0 p1
        go_wp2
        go_ret
        exact ⟨rfl, HX8.out.2.2.2.1⟩
    · have hbe : bothE ws rules g ≠ 0 := by rw [HE.out]; exact hz0
      have h2 := H2.out
      rw [perm_err hbe, HE.out] at h2
      obtain ⟨z, hzz⟩ : ∃ z, z = gpE n g := ⟨_, rfl⟩
      rw [← hzz] at h2 H3 hz0
      have h2 := Lib.hid h2
      have hzn : (z != 0) = true := by simpa using hz0
      have hzf : (z == 0) = false := by simpa using hz0
      clear hz hzz hbe H2 HE
      refine (h2.out _ HX.out).mono ?_
      rintro e w5 ⟨rfl, hk5⟩
      have HX5 := Lib.hid (HX.out.below hk5)
      clear hk5 p0 p1 HX
      obtain ⟨p0, p1⟩ := HX5.out.1.two
      go_wp2_with fail
      refine (H3.out _ HX5.out).mono ?_
      rintro e w6 ⟨rfl, hk6⟩
      have HX6 := Lib.hid (HX5.out.below hk6)
      clear hk6 p0 p1
      go_wp2
      go_ret
      exact ⟨rfl, HX6.out.2.2.2.1⟩
end Go.Proofs.YtkamepalomkpbaaGreatDoor
