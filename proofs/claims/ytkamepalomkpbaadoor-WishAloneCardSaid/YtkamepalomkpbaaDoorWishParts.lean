/- The statement WishParts: the walk. For any plan and any bits the call returns true. Conditions: the library's table of powers of ten reads as its text lays it. -/
import Derived.Test.YtkamepalomkpbaaDoorWishDel
namespace Go.Proofs.YtkamepalomkpbaaDoor
open Go.RowKit

theorem NRd.more {w : World} {Bd Bd' : Nat} {A : Option Addr} {l : List Wnt} (h : NRd w Bd A l) (hB : Bd ≤ Bd') : NRd w Bd' A l := fun hl => by
  obtain ⟨b, off, rfl, hb, hc⟩ := h hl
  exact ⟨b, off, rfl, by omega, hc⟩
theorem own_mx {w : World} {base : Nat} {e : TypeId} {size n c m : Nat} {A : Option Addr} {xs : List Value} (h : w.ownsRow base e size (.slice A n c) m xs) : c ≤ maxLen := by
  rcases h.2 with ⟨hv, _⟩ | ⟨g', c', cur, hv, _, _, _, hm, _⟩
  · injection hv with _ _ h3; subst h3; unfold maxLen; omega
  · injection hv with _ _ h3; subst h3; exact hm

/-- What the loop of WishParts over the wishes carries. -/
def PtRel (w : World) (bX : Nat) (A : Option Addr) (n cap : Nat) (B : Option Addr) (m c2 : Nat) (ws : List Wsh) (rules : List Int) (GA : Option Addr) (gn gc : Nat) (g : List Int) (wx : World) : Prop :=
  wx.ownsRow (bX + 1) 3 1 (.slice GA gn gc) gn (g.map i64v) ∧ Blk wx bX 29 [.slice A n cap, .slice B m c2] ∧ Pb wx bX A n cap B m c2 ws rules ∧ Below w.heap.size w wx ∧ Tab wx ∧ bX + 1 ≤ wx.heap.size ∧ w.heap.size ≤ bX
theorem PtRel.step {w wx w3 : World} (ht : Tab w) {bX : Nat} {A : Option Addr} {n cap : Nat} {B : Option Addr} {m c2 : Nat} {ws : List Wsh} {rules : List Int} {GA : Option Addr} {gn gc : Nat} {g : List Int} {GA2 : Option Addr} {gn2 gc2 : Nat} {g2 : List Int} {o : Obj}
    (h : PtRel w bX A n cap B m c2 ws rules GA gn gc g wx) (hgrow : (wx.alloc o).grownBy w3 (Value.slice GA gn gc).ownBlock) (hown : w3.ownsRow (bX + 1) 3 1 (.slice GA2 gn2 gc2) gn2 (g2.map i64v)) : PtRel w bX A n cap B m c2 ws rules GA2 gn2 gc2 g2 w3 := by
  obtain ⟨h1, h2, h3, h4, h5, h6, h7⟩ := h
  have hne : ∀ b, b < bX + 1 → some b ≠ (Value.slice GA gn gc).ownBlock := fun b hb e => by have := (h1.lt _ e.symm).1; omega
  have hbg : Below bX (wx.alloc o) w3 := (Below.refl bX _).grown hgrow (by simp; omega) (fun r e => by have := (h1.lt _ e).1; omega)
  have hbg2 : Below bX wx w3 := ((Below.refl bX wx).alloc (by omega) o).trans hbg
  have hsz := hgrow.size
  rw [World.size_alloc] at hsz
  exact ⟨hown, (h2.alloc o).grown hgrow (hne _ (by omega)), h3.below hbg2, h4.trans (hbg2.mono h7), ht.below (h4.trans (hbg2.mono h7)), by omega, h7⟩

/-- What the calls of WishParts carry. -/
def PtPack (w : World) (bX Bd : Nat) (A : Option Addr) (n cap : Nat) (B : Option Addr) (m c2 : Nat) (ws : List Wsh) (rules : List Int) (GA : Option Addr) (g : List Int) (PA : Option Addr) (p : List Int) (W : World) : Prop :=
  Blk W bX 29 [.slice A n cap, .slice B m c2] ∧ Pb W Bd A n cap B m c2 ws rules ∧ Rd i64v W Bd GA g ∧ Rd i64v W Bd PA p ∧ Below w.heap.size w W ∧ Tab W ∧ Bd ≤ W.heap.size
theorem PtPack.below {w W W' : World} {bX Bd : Nat} {A : Option Addr} {n cap : Nat} {B : Option Addr} {m c2 : Nat} {ws : List Wsh} {rules : List Int} {GA : Option Addr} {g : List Int} {PA : Option Addr} {p : List Int}
    (h : PtPack w bX Bd A n cap B m c2 ws rules GA g PA p W) (hb : Below W.heap.size W W') : PtPack w bX Bd A n cap B m c2 ws rules GA g PA p W' := by
  obtain ⟨h1, h2, h3, h4, h5, h6, h7⟩ := h
  exact ⟨h1.keep hb, h2.keep h7 hb, h3.below (hb.mono h7), h4.below (hb.mono h7), h5.trans (hb.mono h5.size), h6.below hb, Nat.le_trans h7 hb.size⟩

set_option maxRecDepth 100000 in
set_option maxHeartbeats 8000000 in
theorem parts_any (XA : Option Addr) (xn xc bR bits at_ : Nat) (L : List Wnt) (w : World) (hL : L.length = xn) (hxc : xn ≤ xc) (hxm : xc ≤ maxLen) (hr : NRd w w.heap.size XA L) (hbR : bR ≤ 255) (hat : at_ ≤ 255) (ht : Tab w) :
    Calls Tryd.prog 3 #[.agg #[.slice XA xn xc, .int .u8 bR], .int .u8 bits, .int .u8 at_] w fun e w' => e = .returned (.bool true) ∧ Below w.heap.size w w' := by
  have hb0 := bw_new (Below.refl _ w) (.cells #[.slice XA xn xc, .int .u8 bR] 24)
  have hbx : Blk (w.alloc (.cells #[.slice XA xn xc, .int .u8 bR] 24)) w.heap.size 24 [.slice XA xn xc, .int .u8 bR] := Blk.new
  have HB0 := Lib.hid hb0
  have HBX := Lib.hid hbx
  have HT0 := Lib.hid (ht.below hb0)
  have HR0 := Lib.hid (hr.below hb0)
  have HL := Lib.hid hL
  have HT := Lib.hid ht
  clear hb0 hbx ht hr hL
  go_enter Tryd.func3, Tryd.ntmps3
  go_wp2_with fail
  refine (wknown_any _ HT0.out).mono ?_
  rintro e w1 ⟨rfl, hk1⟩
  have HB1 := Lib.hid (HB0.out.trans (hk1.mono HB0.out.size))
  have HR1 := Lib.hid ((HR0.out.below (hk1.mono HB0.out.size)).more (Nat.le_trans HB0.out.size hk1.size))
  obtain ⟨x0, x1⟩ := (HBX.out.keep hk1).two
  clear hk1
  go_wp2_with fail
  refine (make_any XA xn xc bR L _ HL.out hxc hxm HR1.out hbR).mono ?_
  rintro e w3 ⟨A, n, cap, RA, rn, rc, rfl, hn, hpb, hk3⟩
  have hn5 : n ≤ 5 := by omega
  have hnx : n ≤ xn := by omega
  have HLT := Lib.hid (show (L.take n).length = n by rw [List.length_take, HL.out]; omega)
  obtain ⟨ws, hws⟩ : ∃ ws, ws = mkWs 0 (L.take n) := ⟨_, rfl⟩
  obtain ⟨rules, hrules⟩ : ∃ r, r = ruP bR 5 := ⟨_, rfl⟩
  rw [← hws, ← hrules] at hpb
  have HBOTH := Lib.hid (fun (g : List Int) (hg : gpE n g = 0) => show bothE ws rules g = 0 by
    rw [hws, hrules]; exact mk_both (by rw [HLT.out]; exact hn5) bR (by rw [HLT.out]; exact hg))
  have hb3 := HB1.out.trans (hk3.mono HB1.out.size)
  have hrel : PtRel w w3.heap.size A n cap RA rn rc ws rules none 0 0 [] (w3.alloc (.cells #[.slice A n cap, .slice RA rn rc] 29)) :=
    ⟨World.ownsRow_nil _ _ _ _, Blk.new (cs := [.slice A n cap, .slice RA rn rc]), hpb.below (bw_new (Below.refl _ _) _), bw_new hb3 _, HT.out.below (bw_new hb3 _), by simp, hb3.size⟩
  have HREL := Lib.hid hrel
  obtain ⟨i1, hi1, hy0, hy1, hy2⟩ := info_parts infoInt
  have HI1 := Lib.hid hi1
  have HY0 := Lib.hid hy0
  have HY1 := Lib.hid hy1
  have HY2 := Lib.hid hy2
  have hwl := hpb.wl
  clear hi1 hy0 hy1 hy2 hk3 hb3 hrel hpb x0 x1 hws hrules hwl hn
  go_wp2_with fail
  go_loopw [8, 31] (fun u v wx => ∃ (j : Nat) (GA : Option Addr) (gn gc : Nat), j ≤ n ∧ v = .int .i64 j ∧ u = .slice GA gn gc ∧ PtRel w w3.heap.size A n cap RA rn rc ws rules GA gn gc (gP bits j) wx) (fun _ v _ => n - (intOf v).toNat)
  case atStart => exact ⟨0, _, _, _, by omega, rfl, rfl, HREL.out⟩
  case round =>
    obtain ⟨j, GA, gn, gc, hj, rfl, rfl, hrel⟩ := hrel
    have HRL := Lib.hid hrel
    have hgl : gn = (gP bits j).length := by have := hrel.1.1; rw [List.length_map] at this; omega
    have hgn : gn ≤ 5 := by have := gP_len bits j; omega
    have HGL := Lib.hid hgl
    clear hrel hgl
    by_cases hlt : j < n
    · cases hb : bitB bits j with
      | true =>
        have hb' : (Go.bits .and .u8 ((bits : Int) / 2 ^ j) 1 == 1) = true := hb
        have HG := Lib.hid (gP_yes hb)
        clear hb
        go_wp2_with (at_builtin; refine wpList_append_own _ rfl _ _ 27 rfl (w3.heap.size + 1) 3 i1 (.int .i64 0) 1 8 Tryd.underlying27 HI1.out HY0.out HY1.out HY2.out rfl (by decide) _ _ _ rfl (HRL.out.1.alloc _) ⟨wr.heap.size, 0, none⟩ 1 1 [.int .i64 j] rfl rfl (World.news_of_block (cs := #[.int .i64 j]) (t := 3) (fr := (0, 0)) (heap_alloc_new wr _)) (by simp [Value.oneCell']) (by unfold maxLen; omega) (by omega) (by simp; have := HRL.out.2.2.2.2.2.1; omega) ?_)
        intro v' w4 hown hgrow _
        obtain ⟨g, rc2, hv, hrc2⟩ := own_form hown (by omega)
        subst hv
        have HR2 := Lib.hid (HRL.out.step HT.out (g2 := gP bits (j + 1)) hgrow (by rw [HG.out, List.map_append]; exact hown))
        clear hown hgrow hb'
        go_wp2
        go_roundw
        case rel => exact ⟨j + 1, _, _, _, by omega, by go_num, rfl, HR2.out⟩
        case measure => simp [intOf]; omega
      | false =>
        have hb' : (Go.bits .and .u8 ((bits : Int) / 2 ^ j) 1 == 1) = false := hb
        have HR2 : Hid (PtRel w w3.heap.size A n cap RA rn rc ws rules GA gn gc (gP bits (j + 1)) wr) := Lib.hid (by rw [gP_no hb]; exact HRL.out)
        clear hb
        go_wp2
        go_roundw
        case rel => exact ⟨j + 1, _, _, _, by omega, by go_num, rfl, HR2.out⟩
        case measure => simp [intOf]; omega
    · have hjn : j = n := by omega
      subst hjn
      by_cases hg2 : gn < 2
      · go_wp2
        go_ret
        exact ⟨rfl, HRL.out.2.2.2.1⟩
      · obtain ⟨g, hg⟩ : ∃ g, g = gP bits j := ⟨_, rfl⟩
        rw [← hg] at HRL HGL
        obtain ⟨hgr, hgp⟩ := gP_lt bits j
        rw [← hg] at hgr hgp
        obtain ⟨i, hi⟩ : ∃ i, i = at_ % gn := ⟨_, rfl⟩
        have hin : i < gn := by rw [hi]; exact Nat.mod_lt _ (by omega)
        have hie : (at_ : Int) % (gn : Int) = (i : Int) := by rw [hi]; exact (Int.natCast_emod _ _).symm
        obtain ⟨p, hp⟩ : ∃ p, p = g.take i ++ g.drop (i + 1) := ⟨_, rfl⟩
        have hps := part_sub g i
        rw [← hp] at hps
        have hpl : p.length = gn - 1 := by rw [hp, List.length_append, List.length_take, List.length_drop]; have := HGL.out; omega
        have hgne : g ≠ [] := fun e => by have := HGL.out; rw [e, List.length_nil] at this; omega
        have hpne : p ≠ [] := fun e => by rw [e, List.length_nil] at hpl; omega
        have hbg := HBOTH.out g (gp_of hgne hgr hgp)
        have hbp := HBOTH.out p (gp_of hpne (fun x hx => hgr x (hps.subset hx)) (hgp.sublist hps))
        obtain ⟨a1, b1, is1, hv1, hs1⟩ := perm_form hbg
        obtain ⟨a2, b2, is2, hv2, hs2⟩ := perm_form hbp
        obtain ⟨hcost, hor⟩ := parts_law hps hpne hs1 hs2
        have HIE := Lib.hid hie
        have HP := Lib.hid hp
        have HPL := Lib.hid hpl
        have HBG := Lib.hid hbg
        have HBP := Lib.hid hbp
        have HV1 := Lib.hid hv1
        have HV2 := Lib.hid hv2
        have HOR := Lib.hid hor
        obtain ⟨cg, hcg⟩ : ∃ c, c = costZ ws g := ⟨_, rfl⟩
        obtain ⟨cp, hcp⟩ : ∃ c, c = costZ ws p := ⟨_, rfl⟩
        rw [← hcg, ← hcp] at hcost
        have HCG := Lib.hid hcg
        have HCP := Lib.hid hcp
        clear hg hgr hgp hi hie hp hps hpl hgne hpne hbg hbp hv1 hv2 hs1 hs2 hor hcg hcp
        go_wp2_with fail
        refine (clone_ct _ GA gc gn g _ HRL.out.1 (by omega) (by omega)).mono ?_
        rintro e w5 ⟨CA, cc, rfl, hcl, hk5⟩
        have HCL := Lib.hid hcl
        have HB5 := Lib.hid (HRL.out.2.2.2.1.trans (hk5.mono HRL.out.2.2.2.1.size))
        have HK5 := Lib.hid hk5
        clear hcl hk5
        go_wp2_with fail
        rw [HIE.out, show wrap64 ((i : Int) + 1) = (i : Int) + 1 from IntWalk.wrap64_in _ (by omega)]
        refine (delete_ct _ CA cc gn i g _ HCL.out hin).mono ?_
        rintro e w6 ⟨rfl, hrd, hk6⟩
        have hk06 : Below wr.heap.size wr w6 := HK5.out.trans hk6
        have hPA : PtPack w w3.heap.size w6.heap.size A j cap RA rn rc ws rules GA g CA p w6 := by
          have hg0 := (Rd.of_own (enc := i64v) (L := g) HRL.out.1 HGL.out)
          refine ⟨HRL.out.2.1.keep hk06, ((HRL.out.2.2.1.below (hk06.mono (Nat.le_of_succ_le HRL.out.2.2.2.2.2.1))).more (Nat.le_trans (Nat.le_of_succ_le HRL.out.2.2.2.2.2.1) hk06.size)), (hg0.below hk06).more hk06.size, by rw [HP.out]; exact hrd, HRL.out.2.2.2.1.trans (hk06.mono HRL.out.2.2.2.1.size), HRL.out.2.2.2.2.1.below hk06, Nat.le_refl _⟩
        have HPA := Lib.hid hPA
        have hgc := own_cap HRL.out.1
        have hgx := own_mx HRL.out.1
        have hpc : gn - 1 ≤ cc := Nat.le_trans (Nat.sub_le _ _) (own_cap HCL.out)
        have hpx := own_mx HCL.out
        have HGC := Lib.hid (And.intro hgc (And.intro hgx (And.intro hpc hpx)))
        obtain ⟨p0, p1⟩ := hPA.1.two
        clear hrd hk6 hk06 hPA hgc hgx hpc hpx HK5
        go_wp2_with fail
        have C1 := Lib.hid (wcost_any A j cap RA rn rc ws rules GA gn gc g w6.heap.size w6 HPA.out.2.1 HPA.out.2.2.2.2.2.2 HGL.out.symm HPA.out.2.2.1 HGC.out.1 HGC.out.2.1 HPA.out.2.2.2.2.2.1)
        rw [HBG.out, if_pos rfl, ← HCG.out] at C1
        refine C1.out.mono ?_
        rintro e w7 ⟨rfl, hk⟩
        have HPB := Lib.hid (HPA.out.below hk)
        clear p0 p1 C1
        obtain ⟨p0, p1⟩ := HPB.out.1.two
        clear hk
        go_wp2_with fail
        have C2 := Lib.hid (wcost_any A j cap RA rn rc ws rules CA (gn - 1) cc p w6.heap.size w7 HPB.out.2.1 HPB.out.2.2.2.2.2.2 HPL.out HPB.out.2.2.2.1 HGC.out.2.2.1 HGC.out.2.2.2 HPB.out.2.2.2.2.2.1)
        rw [HBP.out, if_pos rfl, ← HCP.out] at C2
        refine C2.out.mono ?_
        rintro e w8 ⟨rfl, hk⟩
        have HPC := Lib.hid (HPB.out.below hk)
        clear p0 p1 C2
        obtain ⟨p0, p1⟩ := HPC.out.1.two
        clear hk
        go_wp2_with fail
        have C3 := Lib.hid (wperm_any A j cap RA rn rc ws rules GA gn gc g w6.heap.size w8 HPC.out.2.1 HPC.out.2.2.2.2.2.2 HGL.out.symm HPC.out.2.2.1 HGC.out.1 HGC.out.2.1 HPC.out.2.2.2.2.2.1)
        rw [HV1.out] at C3
        refine C3.out.mono ?_
        rintro e w9 ⟨rfl, hk⟩
        have HPD := Lib.hid (HPC.out.below hk)
        clear p0 p1 C3
        obtain ⟨p0, p1⟩ := HPD.out.1.two
        clear hk
        go_wp2_with fail
        have C4 := Lib.hid (wperm_any A j cap RA rn rc ws rules CA (gn - 1) cc p w6.heap.size w9 HPD.out.2.1 HPD.out.2.2.2.2.2.2 HPL.out HPD.out.2.2.2.1 HGC.out.2.2.1 HGC.out.2.2.2 HPD.out.2.2.2.2.2.1)
        rw [HV2.out] at C4
        refine C4.out.mono ?_
        rintro e w10 ⟨rfl, hk⟩
        have HBE := Lib.hid (HPD.out.below hk).2.2.2.2.1
        clear p0 p1 C4 hk
        rcases HOR.out with ho | ho
        · subst ho
          go_wp2
          go_ret
          exact ⟨rfl, HBE.out⟩
        · subst ho
          cases is1
          all_goals
            go_wp2
            go_ret
            exact ⟨rfl, HBE.out⟩
end Go.Proofs.YtkamepalomkpbaaDoor
