/- Package tuner: the chain that a run remembers. Conditions: the order is right, and has at most 200 steps; the note is tuned. -/
import Derived.Test.YtfickhncbahekaaDoorTunChain
import Derived.Test.YtfickhncbahekaaDoorTunOpen
namespace Go.Proofs.YtfickhncbahekaaDoor
open Go.RowKit

/-- What the loop keeps. -/
def TcL (w : World) (f : Int) (L : List (Int × Int)) (n : Int) (A : Option Addr) (m cap : Nat) (u v : Value) (wx : World) : Prop := ∃ (n' : Int) (B : List Int) (BA : Option Addr) (bc : Nat), v = .int .i64 (fz f L n') ∧ u = .slice BA B.length bc ∧ B ++ chB f L n' = chB f L n ∧ fz f L n' ≠ -2 ∧
  Hp w [(w.heap.size, 25, [.int .i64 f, .slice A m cap])] wx ∧ wx.ownsRow (w.heap.size + 1) 3 1 (.slice BA B.length bc) B.length (B.map i64v) ∧ w.heap.size + 1 ≤ wx.heap.size

set_option maxRecDepth 1000000 in
set_option maxHeartbeats 8000000 in
theorem tchain_any (f n : Int) (T b2 : Nat) (A : Option Addr) (m cap : Nat) (L : List (Int × Int)) (w : World) (hT : w.cell? ⟨T, 1, none⟩ = some (.map (some b2))) (hTl : T < w.heap.size) (hmc : MapC iK w b2 (ents i64v (stT f L m).fst)) (ha : OArg w w.heap.size A m cap L) (ho : Ord f L) (hm2 : m ≤ 200) (hf : fz f L n ≠ -2) :
    Calls Tryd.prog 41 #[.pointer (some ⟨T, 0, none⟩), .agg #[.int .i64 f, .slice A m cap], .int .i64 n] w (RetInts w (chB f L n).reverse) := by
  have hm0 := (Hp.start w).new 25 [.int .i64 f, .slice A m cap]
  simp only [World.size_alloc, List.nil_append, List.cons_append] at hm0
  have HM := Lib.hid hm0
  have HA := Lib.hid ha
  have HFZ := Lib.hid hf
  have HO := Lib.hid ho
  have HMC := Lib.hid hmc
  have HT := Lib.hid hT
  have HFL := Lib.hid (show ∀ n, fz f L n ≠ -2 → (lkz n (stT f L m).fst).getD 0 = fz f L n by
    intro n h
    have := (st_fst f L m (by rw [ha.len]; exact Nat.le_refl _) n).1
    rw [this, ← ha.len, if_neg (show ¬ firstZ f L n L.length = -2 from h)]
    rfl)
  have HNL := Lib.hid (show ∀ n, (chB f L n).length ≤ 200 by
    intro n
    rcases chB_len ho m n (by have := fz_lt f L n; rw [ha.len] at this; exact this.2) with h | h
    · have := fz_lt f L n; rw [ha.len] at this; omega
    · omega)
  obtain ⟨i0, hi, hz0, hz1, hz2⟩ := info_parts infoIntT
  have HI0 := Lib.hid hi
  have HZ0 := Lib.hid hz0
  have HZ1 := Lib.hid hz1
  have HZ2 := Lib.hid hz2
  have t1 := hT
  rw [← (bw_new (Below.refl w.heap.size w) (.cells #[.int .i64 f, .slice A m cap] 25)).cell (p := ⟨T, 1, none⟩) hTl] at t1
  have lk := (look_iv (hmc.alloc (.cells #[.int .i64 f, .slice A m cap] 25)) n).2
  rw [HFL.out n hf] at lk
  clear hm0 ha hf ho hi hz0 hz1 hz2 hT hmc
  go_enter Tryd.func41, Tryd.ntmps41
  go_wp2_with fail
  clear t1 lk
  go_loopw [7, 8] (fun u v wx => TcL w f L n A m cap u v wx) (fun _ v _ => (intOf v + 2).toNat)
  case atStart => exact ⟨n, [], none, 0, rfl, rfl, rfl, HFZ.out, HM.out, World.ownsRow_nil _ _ _ _, by simp⟩
  case round =>
    obtain ⟨n', B, BA, bc, rfl, rfl, hbk, hnf, hp, hown, hsz⟩ := hrel
    have HP := Lib.hid hp
    obtain ⟨bn, hbn⟩ : ∃ bn, bn = B.length := ⟨_, rfl⟩
    rw [← hbn] at hown ⊢
    have hbl : bn ≤ 200 := by have := HNL.out n; rw [← hbk, List.length_append] at this; omega
    have HBN := Lib.hid hbn
    have HOW := Lib.hid hown
    obtain ⟨z, hz⟩ : ∃ z, z = fz f L n' := ⟨_, rfl⟩
    rw [← hz]
    by_cases hzn : 0 ≤ z
    · obtain ⟨i, rfl⟩ := Int.eq_ofNat_of_zero_le hzn
      obtain ⟨hil, _, _, hge, hlt, _, _⟩ := fz_back HO.out hz.symm
      obtain ⟨hc1, _⟩ := chB_go HO.out hz.symm
      rw [HA.out.len] at hil
      obtain ⟨b, off, rfl, hb, hs⟩ := HA.out.rd.at_ (by rw [HA.out.len]; omega)
      have hq := (hs i (by rw [HA.out.len]; omega)).1
      obtain ⟨p, hp0⟩ : ∃ y, y = (L.getD i (0, 0)).1 := ⟨_, rfl⟩
      rw [← hp0] at hq hge hlt hc1
      have HQ := Lib.hid hq
      have HC := Lib.hid (show (B ++ [(i : Int)]) ++ chB f L p = chB f L n by rw [← hbk, hc1, List.append_assoc]; rfl)
      have HPP := Lib.hid (show fz f L p ≠ -2 by omega)
      have HPI := Lib.hid (show fz f L p < (i : Int) by exact hlt)
      have hi0 : (0 : Int) ≤ (i : Int) := by omega
      have him : (i : Int) < (m : Int) := by omega
      have hil2 : i < m := hil
      clear hbk hnf hown hbn hzn hge hlt hc1 hq hp0 hs hz hp
      go_wp2_with (at_builtin; refine wpList_append_own _ rfl _ _ 46 rfl (w.heap.size + 1) 3 i0 (.int .i64 0) 1 8 Tryd.underlying46 HI0.out HZ0.out HZ1.out HZ2.out rfl (by decide) _ _ _ rfl (own_below HOW.out (bw_new (Below.refl _ _) _)) ⟨wr.heap.size, 0, none⟩ 1 1 [.int .i64 (i : Int)] rfl rfl (World.news_of_block (cs := #[.int .i64 (i : Int)]) (t := 3) (fr := (0, 0)) (heap_alloc_new wr _)) (by simp [Value.oneCell']) (by unfold maxLen; omega) (by omega) (by simp; omega) ?_)
      intro v' w4 hown4 hgrow _
      obtain ⟨g, rc2, hv, hrc2⟩ := own_form hown4 (by omega)
      subst hv
      have hp4 := (HP.out.alloc (.cells #[.int .i64 (i : Int)] 3)).grown hgrow (fun r e => by
        have := (HOW.out.lt r e).1
        refine ⟨by omega, fun x hx => ?_⟩
        simp only [List.mem_cons, List.not_mem_nil, or_false] at hx
        subst hx
        simp; omega)
      have hs4 : w.heap.size + 1 ≤ w4.heap.size := by have := hgrow.size; rw [World.size_alloc] at this; omega
      have g1 : w4.cell? ⟨w.heap.size, 1, none⟩ = some (.slice (some ⟨b, off, none⟩) m cap) := (hp4.at_ 0 rfl).cell 1
      have k0 : w4.cell? ⟨b, off + i * 2, none⟩ = some (.int .i64 p) := (hp4.below.cell (p := ⟨b, off + i * 2, none⟩) hb).trans HQ.out
      have t1 : w4.cell? ⟨T, 1, none⟩ = some (.map (some b2)) := (hp4.below.cell (p := ⟨T, 1, none⟩) hTl).trans HT.out
      have lk := (look_iv (W := w4.drew) ((HMC.out.below hp4.below HMC.out.lt).drew) p).2
      rw [HFL.out p HPP.out] at lk
      have HP4 := Lib.hid hp4
      have HO5 := Lib.hid hown4
      clear hown4 hgrow hp4
      go_wp2_with fail
      go_region
      all_goals
        go_wp2
        go_roundw
        case rel =>
          have hl : (B ++ [(i : Int)]).length = bn + 1 := by rw [List.length_append, ← HBN.out]; rfl
          refine ⟨p, B ++ [(i : Int)], _, rc2, rfl, by rw [hl], HC.out, HPP.out, HP4.out.drew, ?_, hs4⟩
          rw [hl, List.map_append]
          exact own_below HO5.out (bw_drew (Below.refl _ _))
        case measure => have := HPI.out; simp [intOf]; omega
    · have hs := chB_stop (n := n') (f := f) (L := L) (by omega)
      rw [hs.1, List.append_nil] at hbk
      have HB2 := Lib.hid hbk
      rw [hbn] at hown
      have HRV := Lib.hid (rev_own B hown)
      rw [← hbn] at HRV
      clear hbk hnf hown hbn hs hz hp
      go_wp2_with fail
      refine HRV.out.mono ?_
      rintro e w2 ⟨rfl, hown2, hgrow2⟩
      have hb2 := (HP.out.grown hgrow2 (fun r e => by
        have := (HOW.out.lt r e).1
        refine ⟨by omega, fun x hx => ?_⟩
        simp only [List.mem_cons, List.not_mem_nil, or_false] at hx
        subst hx
        simp; omega)).below
      have HB3 := Lib.hid hb2
      have HO3 := Lib.hid hown2
      clear hown2 hgrow2 hb2
      go_wp2
      go_ret
      refine ⟨BA, bc, by rw [← HB2.out, List.length_reverse, ← HBN.out]; rfl, ?_, HB3.out⟩
      rw [← HB2.out]
      have := own_low HO3.out (Nat.le_succ _)
      rw [show B.reverse.length = bn by rw [List.length_reverse, HBN.out]] at this ⊢
      exact this
end Go.Proofs.YtfickhncbahekaaDoor
