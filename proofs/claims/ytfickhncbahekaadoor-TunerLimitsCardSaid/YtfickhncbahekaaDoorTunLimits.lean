/- The statement TunerLimits, walked. Conditions: the library's table reads as its text lays it. -/
import Derived.Test.YtfickhncbahekaaDoorTunKnown
namespace Go.Proofs.YtfickhncbahekaaDoor
open Go.RowKit

/-- The steps up and down. -/
def limL (n : Nat) : List (Int × Int) := (List.range n).map fun i => (60 + 12 * ((i % 2 : Nat) : Int), 72 - 12 * ((i % 2 : Nat) : Int))
theorem limL_len (n : Nat) : (limL n).length = n := by simp [limL]
theorem limL_get (n i : Nat) (h : i < n) : (limL n).getD i (0, 0) = (60 + 12 * ((i % 2 : Nat) : Int), 72 - 12 * ((i % 2 : Nat) : Int)) := by simp [limL, h]
theorem limL_succ (n : Nat) : limL (n + 1) = limL n ++ [(60 + 12 * ((n % 2 : Nat) : Int), 72 - 12 * ((n % 2 : Nat) : Int))] := by simp [limL, List.range_succ]
theorem limE (n : Nat) : runE 60 (limL n) = if 200 < n then 4 else 0 := by
  rw [runE_chk, if_neg (by unfold isN; decide), limL_len]
  by_cases h : 200 < n
  · rw [if_pos h, if_pos h]
  · rw [if_neg h, if_neg h]
    refine scanE_zero fun k _ hk => ?_
    have hk' : k < n := by omega
    unfold chkE
    rw [limL_get n k hk']
    have h2 : k % 2 = 0 ∨ k % 2 = 1 := by omega
    rcases h2 with h2 | h2
    · rw [h2]
      rw [if_neg (by rw [Classical.not_not]; unfold isN; omega), if_neg (by decide), if_neg (by unfold firstZ; simp)]
    · rw [h2]
      have e : firstZ 60 (limL n) 72 k ≠ -2 := by
        have h0 : 0 < k := by omega
        unfold firstZ
        rw [if_neg (by decide), toIx_hit (n := 72) (l := (limL n).take k) (i := 0) (k := 0) (fun j hj => absurd hj (by omega)) (by rw [List.length_take, limL_len]; omega) ?_]
        · simp
        · have := limL_get n 0 (by omega)
          rw [List.getD_eq_getElem?_getD, List.getElem?_take_of_lt h0, ← List.getD_eq_getElem?_getD, this]
          rfl
      rw [if_neg (by rw [Classical.not_not]; unfold isN; omega), if_neg (by decide)]
      exact if_neg e

set_option maxRecDepth 1000000 in
set_option maxHeartbeats 8000000 in
theorem tlimits_any (n : Nat) (w : World) (h1 : n ≤ 255) (ht : DTab w) :
    Calls Tryd.prog 3 #[.int .u8 (n : Int)] w fun e w' => e = .returned (.bool true) ∧ Below w.heap.size w w' := by
  have HT := Lib.hid ht
  have HK := Lib.hid (fun W (h : DTab W) => known_any W h)
  clear ht
  by_cases hn : (n : Int) ≤ 250
  · go_enter Tryd.func3, Tryd.ntmps3
    go_wp2_with fail
    refine (HK.out _ HT.out).mono ?_
    rintro e w1 ⟨rfl, hb1⟩
    have hm0 := ((Hp.start w).step hb1).new 25 [.int .i64 60, .slice none 0 0]
    simp only [List.nil_append] at hm0
    have HM0 := Lib.hid hm0
    obtain ⟨z, hz⟩ : ∃ z, z = w1.heap.size := ⟨_, rfl⟩
    have HZ := Lib.hid hz
    have hzw : w.heap.size ≤ z := by rw [hz]; exact hb1.size
    have hsz : (w1.alloc (.cells #[.int .i64 60, .slice none 0 0] 25)).heap.size = z + 1 := by rw [World.size_alloc, hz]
    have HSZ := Lib.hid hsz
    clear hb1 hm0 hz hsz
    go_wp2_with fail
    go_loopw [4] (fun u wx => ∃ (i : Nat) (A : Option Addr) (c : Nat), i ≤ n ∧ u = .int .i64 (i : Int) ∧ Hp w [(w1.heap.size, 25, [.int .i64 60, .slice A i c])] wx ∧ wx.ownsRow (w1.heap.size + 1) 27 2 (.slice A i c) i (pcs (limL i)) ∧ w1.heap.size + 1 ≤ wx.heap.size) (fun u _ => n - (intOf u).toNat)
    case atStart => exact ⟨0, none, 0, by omega, rfl, HM0.out, World.ownsRow_nil _ _ _ _, by rw [World.size_alloc]; omega⟩
    case round =>
      obtain ⟨i, A, c, hi, rfl, hm, hown, hsz⟩ := hrel
      have c0 : wr.cell? ⟨w1.heap.size, 0, none⟩ = some (.int .i64 60) := (hm.at_ 0 rfl).cell 0
      have c1 : wr.cell? ⟨w1.heap.size, 1, none⟩ = some (.slice A i c) := (hm.at_ 0 rfl).cell 1
      have HM := Lib.hid hm
      have HO := Lib.hid hown
      by_cases hil : i < n
      · obtain ⟨p, hp⟩ : ∃ p, p = i % 2 := ⟨_, rfl⟩
        have htm : (i : Int).tmod 2 = (p : Int) := by rw [IntWalk.rem_in _ _ (by omega)]; omega
        have hp1 : (p : Int) ≤ 1 := by omega
        have hp0 : (0 : Int) ≤ (p : Int) := by omega
        have HLS := Lib.hid (limL_succ i)
        rw [← hp] at HLS
        obtain ⟨i0, hi0, hz0, hz1, hz2⟩ := info_parts infoStepT
        have HI0 := Lib.hid hi0
        have HZ0 := Lib.hid hz0
        have HZ1 := Lib.hid hz1
        have HZ2 := Lib.hid hz2
        have f1 := (hm.at_ 0 rfl).frozen 1
        clear hm hown hp hi0 hz0 hz1 hz2 c0
        go_wp2_with (at_builtin; refine wpList_append_own _ rfl _ _ 23 rfl (w1.heap.size + 1) 27 i0 (.agg #[.int .i64 0, .int .i64 0]) 2 16 Tryd.underlying23 HI0.out HZ0.out HZ1.out HZ2.out rfl (by decide) _ _ _ rfl (own_below HO.out (bw_new (Below.refl _ _) _)) ⟨wr.heap.size, 0, none⟩ 1 1 [.int .i64 (60 + 12 * (p : Int)), .int .i64 (72 - 12 * (p : Int))] rfl rfl (World.news_of_block (cs := #[.int .i64 (60 + 12 * (p : Int)), .int .i64 (72 - 12 * (p : Int))]) (t := 27) (fr := (0, 0)) (heap_alloc_new wr _)) (by simp [Value.oneCell']) (by unfold maxLen; omega) (by omega) (by simp; omega) ?_)
        intro v' w9 hown hgrow _
        obtain ⟨g, rc2, hv, hrc2⟩ := own_form hown (by omega)
        subst hv
        have hgg := fun q e => (HO.out.lt q e).1
        have hm9 := (HM.out.alloc (.cells #[.int .i64 (60 + 12 * (p : Int)), .int .i64 (72 - 12 * (p : Int))] 27)).grown hgrow (fun q e => by
          have := hgg q e
          refine ⟨by have := HZ.out; omega, fun x hx => ?_⟩
          simp only [List.mem_cons, List.not_mem_nil, or_false] at hx
          subst hx
          simp; omega)
        have hm10 := hm9.put 0 rfl 1 (.slice (some ⟨g, 0, none⟩) (i + 1) rc2)
        have hown10 := own_far (p := ⟨w1.heap.size, 1, none⟩) (u := .slice (some ⟨g, 0, none⟩) (i + 1) rc2) hown (by simp)
        rw [show pcs (limL i) ++ [.int .i64 (60 + 12 * (p : Int)), .int .i64 (72 - 12 * (p : Int))] = pcs (limL (i + 1)) from by rw [HLS.out, ← pcs_snoc]] at hown10
        have d1 : w9.cell? ⟨w1.heap.size, 1, none⟩ = some (.slice A i c) := (hm9.at_ 0 rfl).cell 1
        have f9 := (hm9.at_ 0 rfl).frozen 1
        have hs9 : w1.heap.size + 1 ≤ w9.heap.size := by have := hgrow.size; rw [World.size_alloc] at this; omega
        have HM10 := Lib.hid hm10
        have HO10 := Lib.hid hown10
        clear hown hgrow hm9 hm10 hown10 hgg c1 f1
        go_wp2
        go_roundw
        case rel => exact ⟨i + 1, some ⟨g, 0, none⟩, rc2, by omega, rfl, HM10.out, HO10.out, by simpa using hs9⟩
        case measure => simp [intOf]; omega
      · obtain rfl : i = n := by omega
        have HC := Lib.hid (tcheck_any 60 A i c (limL i) wr ⟨limL_len i, SRd.of_own hown (limL_len i).symm, own_cap hown, own_mxT hown⟩)
        have hE := limE i
        have HB := Lib.hid hm.below
        clear hm hown
        by_cases h2 : (200 : Int) < i
        · rw [if_pos (by omega)] at hE
          rw [hE] at HC
          go_wp2_with fail
          refine HC.out.mono ?_
          rintro e w5 ⟨rfl, hb5⟩
          have HB5 := Lib.hid (HB.out.trans (hb5.mono HB.out.size))
          clear hb5
          go_wp2
          go_ret
          exact ⟨by simp, HB5.out⟩
        · rw [if_neg (by omega)] at hE
          rw [hE] at HC
          go_wp2_with fail
          refine HC.out.mono ?_
          rintro e w5 ⟨rfl, hb5⟩
          have HB5 := Lib.hid (HB.out.trans (hb5.mono HB.out.size))
          clear hb5
          go_wp2
          go_ret
          exact ⟨by simp, HB5.out⟩
  · go_enter Tryd.func3, Tryd.ntmps3
    go_wp2_with fail
    refine (HK.out _ HT.out).mono ?_
    rintro e w1 ⟨rfl, hb1⟩
    have HB1 := Lib.hid hb1
    have HT1 := Lib.hid (HT.out.below hb1)
    clear hb1
    go_wp2_with fail
    refine (HK.out _ HT1.out).mono ?_
    rintro e w2 ⟨rfl, hb2⟩
    have HB2 := Lib.hid (HB1.out.trans (hb2.mono HB1.out.size))
    clear hb2
    go_wp2
    go_ret
    exact ⟨rfl, HB2.out⟩
end Go.Proofs.YtfickhncbahekaaDoor
