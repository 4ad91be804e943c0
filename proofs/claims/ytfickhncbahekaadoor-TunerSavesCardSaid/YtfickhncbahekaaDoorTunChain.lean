/- The law's chain. Conditions: the order is right, and has at most 200 steps. -/
import Derived.Test.YtfickhncbahekaaDoorTunChk
import Derived.Test.YtfickhncbahekaaDoorNsetD
namespace Go.Proofs.YtfickhncbahekaaDoor
open Go.RowKit

def ChPost (w : World) (f : Int) (L : List (Int × Int)) (n : Int) (e : Ending) (w' : World) : Prop :=
  Below w.heap.size w w' ∧ ((fz f L n = -2 ∧ e = .returned (.tuple #[.slice none 0 0, .agg #[.int .i64 0, .int .i64 0], .bool false])) ∨
    (fz f L n ≠ -2 ∧ ∃ (A : Option Addr) (c : Nat), e = .returned (.tuple #[.slice A (chB f L n).length c, .agg #[.int .i64 (wyB f L n).1, .int .i64 (wyB f L n).2], .bool true]) ∧ Rd i64v w' w'.heap.size A (chB f L n).reverse ∧ (chB f L n).length ≤ c ∧ c ≤ maxLen))
abbrev ChH (w : World) (f : Int) (A : Option Addr) (m cap : Nat) (a1 a2 : Int) (wx : World) : Prop := Hp w [(w.heap.size, 25, [.int .i64 f, .slice A m cap]), (w.heap.size + 1, 50, [.int .i64 0, .int .i64 0]), (w.heap.size + 2, 50, [.int .i64 a1, .int .i64 a2])] wx
/-- What the first loop keeps. -/
def ChL (w : World) (f : Int) (L : List (Int × Int)) (n : Int) (A : Option Addr) (m cap : Nat) (u v : Value) (wx : World) : Prop := ∃ (n' a1 a2 : Int) (B : List Int) (BA : Option Addr) (bc : Nat), u = .int .i64 n' ∧ v = .slice BA B.length bc ∧ B ++ chB f L n' = chB f L n ∧ addW (a1, a2) (wyB f L n') = wyB f L n ∧ fz f L n' ≠ -2 ∧
  ChH w f A m cap a1 a2 wx ∧ wx.ownsRow (w.heap.size + 3) 3 1 (.slice BA B.length bc) B.length (B.map i64v) ∧ w.heap.size + 3 ≤ wx.heap.size
/-- What the second loop keeps: j entries are still to come. -/
def ChR (B : List Int) (W0 : World) (u v : Value) (wx : World) : Prop := ∃ (j : Nat) (z : Int) (OA : Option Addr) (oc : Nat), v = .int .i64 z ∧ z + 1 = (j : Int) ∧ j ≤ B.length ∧ u = .slice OA (B.drop j).reverse.length oc ∧ wx.ownsRow W0.heap.size 3 1 (.slice OA (B.drop j).reverse.length oc) (B.drop j).reverse.length ((B.drop j).reverse.map i64v) ∧ Below W0.heap.size W0 wx
theorem drop_rev (B : List Int) (k : Nat) (h : k < B.length) : (B.drop k).reverse = (B.drop (k + 1)).reverse ++ [B.getD k 0] := by
  rw [List.drop_eq_getElem_cons h, List.reverse_cons]
  simp [List.getD, h]

set_option maxRecDepth 1000000 in
set_option maxHeartbeats 8000000 in
theorem lchain_none (f n : Int) (A : Option Addr) (m cap : Nat) (L : List (Int × Int)) (w : World) (ha : OArg w w.heap.size A m cap L) (hf : fz f L n = -2) :
    Calls Tryd.prog 17 #[.agg #[.int .i64 f, .slice A m cap], .int .i64 n] w (ChPost w f L n) := by
  have hmx : (m : Int) ≤ 9223372036854775807 := by have := ha.cp; have := ha.mx; unfold maxLen at this; omega
  have HF := Lib.hid (fun W (hW : OArg W W.heap.size A m cap L) => lfirst_any f n m A m cap L W hW hmx)
  have hm0 := (((Hp.start w).new 25 [.int .i64 f, .slice A m cap]).new 50 [.int .i64 0, .int .i64 0]).new 50 [.int .i64 0, .int .i64 0]
  simp only [World.size_alloc, List.nil_append, List.cons_append] at hm0
  rw [show firstZ f L n m = -2 by rw [← ha.len]; exact hf] at HF
  have HM := Lib.hid hm0
  have HA := Lib.hid ha
  have HFZ := Lib.hid hf
  clear hm0 ha hf
  go_enter Tryd.func17, Tryd.ntmps17
  go_wp2_with fail
  refine wp_loop_rounds 1 ?_
  rw [rounds_succ]
  go_wp2_with fail
  refine (HF.out _ (HA.out.step HM.out.below)).mono ?_
  rintro e w1 ⟨rfl, hb1⟩
  have hp1 := HM.out.step hb1
  have HP1 := Lib.hid hp1
  have f0 := (hp1.at_ 1 rfl).frozen 0
  have f1 := (hp1.at_ 1 rfl).frozen 1
  have d0 : w1.cell? ⟨w.heap.size + 1, 0, none⟩ = some (.int .i64 0) := (hp1.at_ 1 rfl).cell 0
  have d1 : w1.cell? ⟨w.heap.size + 1, 1, none⟩ = some (.int .i64 0) := (hp1.at_ 1 rfl).cell 1
  clear hb1 hp1
  go_wp2
  refine bodyPost_ret (v := .tuple #[.slice none 0 0, .agg #[.int .i64 0, .int .i64 0], .bool false]) (by simp [results, Tryd.results17, go_sem, d0, d1]) rfl ⟨(HP1.out.put2 1 rfl (.int .i64 0) (.int .i64 0)).below, .inl ⟨HFZ.out, rfl⟩⟩

set_option maxRecDepth 1000000 in
set_option maxHeartbeats 8000000 in
theorem lchain_some (f n : Int) (A : Option Addr) (m cap : Nat) (L : List (Int × Int)) (w : World) (ha : OArg w w.heap.size A m cap L) (ho : Ord f L) (hm2 : m ≤ 200) (hf : fz f L n ≠ -2) :
    Calls Tryd.prog 17 #[.agg #[.int .i64 f, .slice A m cap], .int .i64 n] w (ChPost w f L n) := by
  have HF := Lib.hid (fun n W (hW : OArg W W.heap.size A m cap L) => lfirst_any f n m A m cap L W hW (by omega))
  have hm0 := (((Hp.start w).new 25 [.int .i64 f, .slice A m cap]).new 50 [.int .i64 0, .int .i64 0]).new 50 [.int .i64 0, .int .i64 0]
  simp only [World.size_alloc, List.nil_append, List.cons_append] at hm0
  have HM := Lib.hid hm0
  have HA := Lib.hid ha
  have HFZ := Lib.hid hf
  have HO := Lib.hid ho
  have HFL := Lib.hid (show ∀ n, firstZ f L n m = fz f L n by intro n; rw [← ha.len]; rfl)
  have HNL := Lib.hid (show ∀ n, (chB f L n).length ≤ 200 by
    intro n
    rcases chB_len ho m n (by have := fz_lt f L n; rw [ha.len] at this; exact this.2) with h | h
    · have := fz_lt f L n; rw [ha.len] at this; omega
    · omega)
  obtain ⟨i0, hi, hz0, hz1, hz2⟩ := info_parts infoIntT
  have HI0 := Lib.hid hi
  have HZ0 := Lib.hid hz0
  have HZ1 := Lib.hid hz1
  have HZ2 := Lib.hid hz2
  have HWB := Lib.hid (show ∀ n, fz f L n ≠ -2 → -200 ≤ (wyB f L n).1 ∧ (wyB f L n).1 ≤ 200 ∧ -200 ≤ (wyB f L n).2 ∧ (wyB f L n).2 ≤ 200 by
    intro n h
    have := wyB_semi ho 200 n (by have := fz_lt f L n; rw [ha.len] at this; omega) h
    omega)
  clear hm0 ha hf ho hi hz0 hz1 hz2
  go_enter Tryd.func17, Tryd.ntmps17
  go_wp2_with fail
  go_loopw [1, 7] (fun u v wx => ChL w f L n A m cap u v wx) (fun u _ _ => (fz f L (intOf u) + 2).toNat)
  case atStart => exact ⟨n, 0, 0, [], none, 0, rfl, rfl, rfl, by unfold addW; simp, HFZ.out, HM.out, World.ownsRow_nil _ _ _ _, by simp⟩
  case round =>
    obtain ⟨n', a1, a2, B, BA, bc, rfl, rfl, hbk, hwy, hnf, hp, hown, hsz⟩ := hrel
    have HP := Lib.hid hp
    have HBK := Lib.hid hbk
    have HWY := Lib.hid hwy
    have HNF := Lib.hid hnf
    obtain ⟨bn, hbn⟩ : ∃ bn, bn = B.length := ⟨_, rfl⟩
    rw [← hbn] at hown ⊢
    have hbl : bn ≤ 200 := by have := HNL.out n; rw [← hbk, List.length_append] at this; omega
    have HBN := Lib.hid hbn
    have HOW := Lib.hid hown
    have c0' : wr.cell? ⟨w.heap.size, 0, none⟩ = some (.int .i64 f) := (hp.at_ 0 rfl).cell 0
    have c1' : wr.cell? ⟨w.heap.size, 1, none⟩ = some (.slice A m cap) := (hp.at_ 0 rfl).cell 1
    have hF := HF.out n' wr (HA.out.step hp.below)
    rw [HFL.out] at hF
    rcases (show fz f L n' = -1 ∨ 0 ≤ fz f L n' by have := fz_lt f L n'; omega) with hz | hz
    · rw [hz] at hF
      have HFF := Lib.hid hF
      have hs := chB_stop (n := n') (f := f) (L := L) (by omega)
      rw [hs.1, List.append_nil] at hbk
      rw [hs.2] at hwy
      have e1 : (a1, a2) = wyB f L n := by rw [← hwy]; unfold addW; simp
      have HE1 := Lib.hid e1
      have HB2 := Lib.hid hbk
      clear hp hbk hwy hnf hown hbn hF hz hs e1
      go_wp2_with fail
      refine HFF.out.mono ?_
      rintro e w1 ⟨rfl, hb1⟩
      have HP1 := Lib.hid (HP.out.step hb1)
      have HO1 := Lib.hid (own_below HOW.out hb1)
      have hsz1 := Nat.le_trans hsz hb1.size
      clear hb1 c0' c1' hsz
      go_wp2_with fail
      go_loopw [12, 13] (fun u v wx => ChR B w1 u v wx) (fun _ v _ => (intOf v + 1).toNat)
      case atStart => exact ⟨bn, (bn : Int) - 1, none, 0, rfl, by omega, by rw [HBN.out]; exact Nat.le_refl _, by rw [HBN.out, List.drop_length]; rfl, by rw [HBN.out, List.drop_length]; exact World.ownsRow_nil _ _ _ _, Below.refl _ _⟩
      case round =>
        obtain ⟨j, z, OA, oc, rfl, hzj, hj, rfl, hown2, hb2⟩ := hrel
        by_cases hj0 : 0 < j
        · obtain ⟨k, rfl⟩ : ∃ k, j = k + 1 := ⟨j - 1, by omega⟩
          obtain rfl : z = (k : Int) := by omega
          have hkb : k < bn := by rw [HBN.out]; omega
          obtain ⟨b, off, rfl, hbb, hcs⟩ := ((Rd.of_own HO1.out HBN.out).below hb2).at_ (by rw [← HBN.out]; omega)
          have hx0 := hcs k (by rw [← HBN.out]; omega)
          obtain ⟨y, hy⟩ : ∃ y, y = B.getD k 0 := ⟨_, rfl⟩
          have hy0 : wr.cell? ⟨b, off + k, none⟩ = some (.int .i64 y) := by rw [hx0, hy]; simp [show k < B.length by rw [← HBN.out]; omega]
          have HDR := Lib.hid (drop_rev B k (by rw [← HBN.out]; omega))
          rw [← hy] at HDR
          obtain ⟨G, hG⟩ : ∃ G, G = (B.drop (k + 1)).reverse := ⟨_, rfl⟩
          rw [← hG] at hown2 HDR ⊢
          have hgl : G.length ≤ 200 := by rw [hG, List.length_reverse, List.length_drop, ← HBN.out]; omega
          obtain ⟨gn, hgn⟩ : ∃ gn, gn = G.length := ⟨_, rfl⟩
          rw [← hgn] at hown2 hgl ⊢
          have HGN := Lib.hid hgn
          have HO2 := Lib.hid hown2
          have HB := Lib.hid hb2
          have hk0 : (0 : Int) ≤ (k : Int) := by omega
          clear hcs hx0 hy hG hgn hown2 hb2 hzj
          go_wp2_with (at_builtin; refine wpList_append_own _ rfl _ _ 46 rfl w1.heap.size 3 i0 (.int .i64 0) 1 8 Tryd.underlying46 HI0.out HZ0.out HZ1.out HZ2.out rfl (by decide) _ _ _ rfl (own_below HO2.out (bw_new (Below.refl _ _) _)) ⟨wr.heap.size, 0, none⟩ 1 1 [.int .i64 y] rfl rfl (World.news_of_block (cs := #[.int .i64 y]) (t := 3) (fr := (0, 0)) (heap_alloc_new wr _)) (by simp [Value.oneCell']) (by unfold maxLen; omega) (by omega) (by have := HB.out.size; simp; omega) ?_)
          intro v' w4 hown hgrow _
          have hb4 : Below w1.heap.size w1 w4 := ((HB.out.alloc HB.out.size _)).grown hgrow (by have := HB.out.size; simp; omega) (fun g hg => (HO2.out.lt g hg).1)
          obtain ⟨g, rc2, hv, hrc2⟩ := own_form hown (by omega)
          subst hv
          have HB4 := Lib.hid hb4
          have HO4 := Lib.hid hown
          clear hown hgrow hb4
          go_wp2
          go_roundw
          case rel =>
            have hl : (B.drop k).reverse.length = gn + 1 := by rw [HDR.out, List.length_append, HGN.out]; rfl
            refine ⟨k, (k : Int) - 1, some ⟨g, 0, none⟩, rc2, rfl, by omega, by omega, by rw [hl], ?_, HB4.out⟩
            rw [hl, HDR.out, List.map_append]
            exact HO4.out
          case measure => simp [intOf]
        · obtain rfl : j = 0 := by omega
          obtain rfl : z = -1 := by omega
          rw [List.drop_zero] at hown2 ⊢
          have hrl : B.reverse.length = bn := by rw [List.length_reverse, HBN.out]
          rw [hrl] at hown2 ⊢
          have hpr := HP1.out.step (hb2.mono (Nat.le_refl _))
          have HP2 := Lib.hid hpr
          have HO2 := Lib.hid hown2
          have f0 := (hpr.at_ 1 rfl).frozen 0
          have f1 := (hpr.at_ 1 rfl).frozen 1
          have d0 : wr.cell? ⟨w.heap.size + 1, 0, none⟩ = some (.int .i64 0) := (hpr.at_ 1 rfl).cell 0
          have d1 : wr.cell? ⟨w.heap.size + 1, 1, none⟩ = some (.int .i64 0) := (hpr.at_ 1 rfl).cell 1
          have e0 : wr.cell? ⟨w.heap.size + 2, 0, none⟩ = some (.int .i64 a1) := (hpr.at_ 2 rfl).cell 0
          have e1 : wr.cell? ⟨w.heap.size + 2, 1, none⟩ = some (.int .i64 a2) := (hpr.at_ 2 rfl).cell 1
          have hs2 := hb2.size
          clear hpr hown2 hb2 hrl hzj
          go_wp2_with fail
          go_region
          all_goals
            go_wp2
            refine bodyPost_ret (v := .tuple #[.slice OA bn oc, .agg #[.int .i64 a1, .int .i64 a2], .bool true]) (by simp [results, Tryd.results17, go_sem, d0, d1]) rfl ⟨(HP2.out.put2 1 rfl (.int .i64 a1) (.int .i64 a2)).drew.below, .inr ⟨HFZ.out, OA, oc, ?_⟩⟩
            rw [← HB2.out, ← HE1.out, ← HBN.out]
            refine ⟨rfl, ?_, own_cap HO2.out, own_mxT HO2.out⟩
            exact Rd.of_own (own_below (own_far (own_far HO2.out (by simp; omega)) (by simp; omega)) (bw_drew (Below.refl _ _))) (by rw [List.length_reverse]; exact HBN.out)
    · obtain ⟨i, hi⟩ := Int.eq_ofNat_of_zero_le hz
      obtain ⟨hil, hto, _, hge, hlt, _, _⟩ := fz_back HO.out hi
      obtain ⟨hc1, hc2⟩ := chB_go HO.out hi
      obtain ⟨hn1, hn2, ⟨x, hx⟩, _⟩ := chkE_zero (HO.out i hil)
      rw [hi] at hF
      rw [HA.out.len] at hil
      obtain ⟨b, off, rfl, hb, hs⟩ := HA.out.rd.at_ (by rw [HA.out.len]; omega)
      have hq := hs i (by rw [HA.out.len]; omega)
      obtain ⟨x0, hx0⟩ : ∃ y, y = L.getD i (0, 0) := ⟨_, rfl⟩
      rw [← hx0] at hq hge hlt hc1 hc2 hn1 hn2 hx hto
      obtain ⟨p, q⟩ := x0
      dsimp only at hge hlt hc1 hc2 hn1 hn2 hx hto
      have hws := wayOf_small (q - p)
      rw [hx, Option.getD_some] at hc2 hws
      obtain ⟨x1, x2⟩ := x
      have HW := Lib.hid (fun W => lway_any p q W hn1 hn2)
      rw [hx] at HW
      simp only [Option.getD_some, Option.isSome_some] at HW
      unfold wv at HW
      dsimp only at HW hws
      have hwn := HWB.out n HFZ.out
      have hwp := HWB.out p (by omega)
      have hwy2 : (a1 + x1, a2 + x2) = (a1 + x1, a2 + x2) ∧ addW (a1 + x1, a2 + x2) (wyB f L p) = wyB f L n := by
        refine ⟨rfl, ?_⟩
        rw [← hwy, hc2]
        unfold addW
        simp only [Int.add_assoc]
      have hw1 : -500 ≤ a1 + x1 ∧ a1 + x1 ≤ 500 ∧ -500 ≤ a2 + x2 ∧ a2 + x2 ≤ 500 ∧ -600 ≤ a1 ∧ a1 ≤ 600 ∧ -600 ≤ a2 ∧ a2 ≤ 600 := by
        have := hwy2.2
        rw [← this] at hwn
        unfold addW at hwn
        dsimp only at hwn
        omega
      obtain ⟨ws1, ws2, ws3, ws4⟩ := hws
      obtain ⟨wa1, wa2, wa3, wa4, wa5, wa6, wa7, wa8⟩ := hw1
      have HWY2 := Lib.hid hwy2.2
      have HC := Lib.hid (show (B ++ [(i : Int)]) ++ chB f L p = chB f L n by rw [← hbk, hc1, List.append_assoc]; rfl)
      have HFF := Lib.hid hF
      have HQ := Lib.hid hq
      have HMS := Lib.hid (show (fz f L p + 2).toNat < (fz f L n' + 2).toNat ∧ fz f L p ≠ -2 from ⟨by rw [hi]; omega, by omega⟩)
      have hi0 : (0 : Int) ≤ (i : Int) := by omega
      have him : (i : Int) < (m : Int) := by omega
      clear hp hbk hwy hnf hown hbn hF hz hs hi hto hge hlt hc1 hc2 hn1 hn2 hx hx0 hq hwn hwp hwy2
      go_wp2_with fail
      refine HFF.out.mono ?_
      rintro e w1 ⟨rfl, hb1⟩
      have hq1 := HQ.out.keep (fun o => ((HP.out.step hb1).below.cell (p := ⟨b, o, none⟩) hb))
      have HP1 := Lib.hid (HP.out.step hb1)
      have g1 : w1.cell? ⟨w.heap.size, 1, none⟩ = some (.slice (some ⟨b, off, none⟩) m cap) := (HP1.out.at_ 0 rfl).cell 1
      have k0 : w1.cell? ⟨b, off + i * 2, none⟩ = some (.int .i64 p) := hq1.1
      have k1 : w1.cell? ⟨b, off + i * 2 + 1, none⟩ = some (.int .i64 q) := hq1.2
      have HO1 := Lib.hid (own_below HOW.out hb1)
      have hsz1 := Nat.le_trans hsz hb1.size
      clear hb1 c0' c1' hsz hq1
      go_wp2_with fail
      refine (HW.out _).mono ?_
      rintro e w2 ⟨rfl, hb2⟩
      have hp2 := (HP1.out.step hb2).new 50 [.int .i64 x1, .int .i64 x2]
      simp only [List.cons_append, List.nil_append] at hp2
      have HP2 := Lib.hid hp2
      have HO2 := Lib.hid (own_below HO1.out hb2)
      have hsz2 := Nat.le_trans hsz1 hb2.size
      have hq2 := HQ.out.keep (fun o => (hp2.below.cell (p := ⟨b, o, none⟩) hb))
      have m0 : (w2.alloc (.cells #[.int .i64 x1, .int .i64 x2] 50)).cell? ⟨w.heap.size + 2, 0, none⟩ = some (.int .i64 a1) := (hp2.at_ 2 rfl).cell 0
      have m1 : (w2.alloc (.cells #[.int .i64 x1, .int .i64 x2] 50)).cell? ⟨w.heap.size + 2, 1, none⟩ = some (.int .i64 a2) := (hp2.at_ 2 rfl).cell 1
      have mf0 := (hp2.at_ 2 rfl).frozen 0
      have mf1 := (hp2.at_ 2 rfl).frozen 1
      obtain ⟨W3, hW3⟩ : ∃ W3, W3 = (((w2.alloc (.cells #[.int .i64 x1, .int .i64 x2] 50)).setCell ⟨w.heap.size + 1 + 1, 0, none⟩ (.int .i64 (a1 + x1))).setCell ⟨w.heap.size + 1 + 1, 1, none⟩ (.int .i64 (a2 + x2))) := ⟨_, rfl⟩
      have hp3 := hp2.put2 2 rfl (.int .i64 (a1 + x1)) (.int .i64 (a2 + x2))
      simp only [List.set_cons_succ, List.set_cons_zero] at hp3
      have ho3 : W3.ownsRow (w.heap.size + 3) 3 1 (.slice BA bn bc) bn (B.map i64v) := by
        rw [hW3]
        exact own_far (own_far (own_below HO2.out (bw_new (Below.refl _ _) _)) (by simp)) (by simp)
      have hz3 : W3.heap.size = w2.heap.size + 1 := by rw [hW3]; simp
      have hnb : (W3.alloc (.cells #[.int .i64 (i : Int)] 3)).heap[w2.heap.size + 1]? = some (.cells #[.int .i64 (i : Int)] 3 (0, 0)) := by rw [← hz3]; exact heap_alloc_new W3 _
      rw [show w.heap.size + 2 = w.heap.size + 1 + 1 from rfl, ← hW3] at hp3
      have HP3 := Lib.hid (hp3.sub (L' := [(w.heap.size, 25, [.int .i64 f, .slice (some ⟨b, off, none⟩) m cap]), (w.heap.size + 1, 50, [.int .i64 0, .int .i64 0]), (w.heap.size + 1 + 1, 50, [.int .i64 (a1 + x1), .int .i64 (a2 + x2)])]) (by simp))
      have ho4 := own_below ho3 (bw_new (Below.refl _ _) (.cells #[.int .i64 (i : Int)] 3))
      have hlt3 := ho3.lt
      rw [hW3] at hnb ho4
      have HNB := Lib.hid hnb
      have HO4 := Lib.hid ho4
      have HLT := Lib.hid hlt3
      have HZ3 := Lib.hid hz3
      have HW3 := Lib.hid hW3
      clear g1 k0 k1 hb2 hp2 hq2 hp3 ho3 hz3 hnb ho4 hW3 hlt3
      go_wp2_with (at_builtin; refine wpList_append_own _ rfl _ _ 46 rfl (w.heap.size + 3) 3 i0 (.int .i64 0) 1 8 Tryd.underlying46 HI0.out HZ0.out HZ1.out HZ2.out rfl (by decide) _ _ _ rfl HO4.out ⟨w2.heap.size + 1, 0, none⟩ 1 1 [.int .i64 (i : Int)] rfl rfl (World.news_of_block (cs := #[.int .i64 (i : Int)]) (t := 3) (fr := (0, 0)) HNB.out) (by simp [Value.oneCell']) (by unfold maxLen; omega) (by omega) (by simp; omega) ?_)
      intro v' w4 hown4 hgrow _
      obtain ⟨g, rc2, hv, hrc2⟩ := own_form hown4 (by omega)
      subst hv
      rw [← HW3.out] at hgrow
      have hp4 := (HP3.out.alloc (.cells #[.int .i64 (i : Int)] 3)).grown hgrow (fun r e => by
        have := (HLT.out r e).1
        refine ⟨by omega, fun x hx => ?_⟩
        simp only [List.mem_cons, List.not_mem_nil, or_false] at hx
        rcases hx with rfl | rfl | rfl <;> (simp; omega))
      have hq4 := HQ.out.keep (fun o => (hp4.below.cell (p := ⟨b, o, none⟩) hb))
      have g1 : w4.cell? ⟨w.heap.size, 1, none⟩ = some (.slice (some ⟨b, off, none⟩) m cap) := (hp4.at_ 0 rfl).cell 1
      have k0 : w4.cell? ⟨b, off + i * 2, none⟩ = some (.int .i64 p) := hq4.1
      have hs4 : w.heap.size + 3 ≤ w4.heap.size := by have := hgrow.size; rw [World.size_alloc, HZ3.out] at this; omega
      have HP4 := Lib.hid hp4
      have HO5 := Lib.hid hown4
      clear hown4 hgrow hp4 hq4 m0 m1 mf0 mf1
      go_wp2
      go_roundw
      case rel =>
        have hl : (B ++ [(i : Int)]).length = bn + 1 := by rw [List.length_append, ← HBN.out]; rfl
        refine ⟨p, a1 + x1, a2 + x2, B ++ [(i : Int)], _, rc2, rfl, by rw [hl], HC.out, HWY2.out, HMS.out.2, HP4.out, ?_, hs4⟩
        rw [hl, List.map_append]
        exact HO5.out
      case measure => exact HMS.out.1
theorem lchain_any (f n : Int) (A : Option Addr) (m cap : Nat) (L : List (Int × Int)) (w : World) (ha : OArg w w.heap.size A m cap L) (ho : Ord f L) (hm2 : m ≤ 200) :
    Calls Tryd.prog 17 #[.agg #[.int .i64 f, .slice A m cap], .int .i64 n] w (ChPost w f L n) := by
  by_cases h : fz f L n = -2
  · exact lchain_none f n A m cap L w ha h
  · exact lchain_some f n A m cap L w ha ho hm2 h
end Go.Proofs.YtfickhncbahekaaDoor
