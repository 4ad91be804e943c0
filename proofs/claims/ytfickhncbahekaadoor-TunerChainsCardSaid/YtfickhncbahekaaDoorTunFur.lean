/- Package tuner: Chain and Furthest. Conditions: the steps lie in a slice of at most maxLen cells. -/
import Derived.Test.YtfickhncbahekaaDoorTunTch
import Derived.Test.YtfickhncbahekaaDoorTunAt
namespace Go.Proofs.YtfickhncbahekaaDoor
open Go.RowKit

set_option maxRecDepth 100000 in
set_option maxHeartbeats 1000000 in
theorem tChain_any (f note : Int) (A : Option Addr) (n cap : Nat) (L : List (Int × Int)) (w : World) (h : OArg w w.heap.size A n cap L) :
    Calls Tryd.prog 15 #[.agg #[.int .i64 f, .slice A n cap], .int .i64 note] w (IntsOr w (chnE f L note) (chB f L note).reverse) := by
  have hb := bw_new (Below.refl _ w) (.cells #[.int .i64 f, .slice A n cap] 25)
  have HR := Lib.hid (run_arg (f := f) (h.step hb))
  have HB := Lib.hid hb
  have HA := Lib.hid h
  clear h hb
  go_enter Tryd.func15, Tryd.ntmps15
  go_wp2_with fail
  refine HR.out.mono ?_
  rintro e w1 ⟨hb1, ⟨h0, rfl⟩ | ⟨h0, GA, gn, gc, DA, dn, dc, rfl, hp⟩⟩
  · have HB1 := Lib.hid (HB.out.trans (hb1.mono HB.out.size))
    have HE := Lib.hid (show chnE f L note = runE f L from if_pos h0)
    have H0 := Lib.hid h0
    obtain ⟨x, hx⟩ : ∃ x, x = runE f L := ⟨_, rfl⟩
    rw [← hx] at h0 H0 HE ⊢
    have hz : (x != 0) = true := by simpa using h0
    clear hb1 h0 hx
    go_wp2
    go_ret2
    rw [HE.out]
    exact ⟨HB1.out, .inl ⟨H0.out, rfl⟩⟩
  · have hT := TnAt.of hb1 hp
    rw [World.size_alloc]
    obtain ⟨h1, h2, h3⟩ := runE_ord h0
    rw [HA.out.len] at h2
    have HO := Lib.hid h3
    have HT := Lib.hid hT
    have t0 := hT.t0
    have hl := look_wv hT.m1 note
    rw [show (lkz note (stT f L n).ways).isSome = decide (fz f L note ≠ -2) by rw [← HA.out.len]; exact ways_some f L note] at hl
    obtain ⟨o, ho⟩ : ∃ o, o = (lkz note (stT f L n).ways).getD (0, 0) := ⟨_, rfl⟩
    rw [← ho] at hl
    obtain ⟨oa, ob⟩ := o
    dsimp only at hl
    by_cases hz : fz f L note = -2
    · rw [show decide (fz f L note ≠ -2) = false by simp [hz]] at hl
      have HE := Lib.hid (show chnE f L note = 11 by unfold chnE; rw [if_neg (by rw [h0]; simp), if_pos hz])
      clear h0 h1 h3 hz ho hp hT hb1
      go_wp2
      go_ret2
      rw [HE.out]
      exact ⟨(HT.out.hp.alloc (.cells #[.int .i64 oa, .int .i64 ob] 50)).below, .inl ⟨by decide, rfl⟩⟩
    · rw [show decide (fz f L note ≠ -2) = true by simp [hz]] at hl
      have HE := Lib.hid (show chnE f L note = 0 by unfold chnE; rw [if_neg (by rw [h0]; simp), if_neg hz])
      have hT2 := hT.step (bw_new (Below.refl _ _) (.cells #[.int .i64 oa, .int .i64 ob] 50))
      have HT2 := Lib.hid hT2
      have c0 : (w1.alloc (.cells #[.int .i64 oa, .int .i64 ob] 50)).cell? ⟨w.heap.size, 0, none⟩ = some (.int .i64 f) := (hT2.hp.at_ 0 rfl).cell 0
      have c1 : (w1.alloc (.cells #[.int .i64 oa, .int .i64 ob] 50)).cell? ⟨w.heap.size, 1, none⟩ = some (.slice A n cap) := (hT2.hp.at_ 0 rfl).cell 1
      have HC := Lib.hid (tchain_any f note (w.heap.size + 1 + 3) (w.heap.size + 1 + 2) A n cap L _ hT2.t1 hT2.lt hT2.m2 (HA.out.step hT2.hp.below) h3 h2 hz)
      clear h0 h1 h3 hz ho hp hT hb1 hT2
      go_wp2_with fail
      refine HC.out.mono ?_
      rintro e w2 ⟨RA, rc, rfl, hown, hb2⟩
      have HB2 := Lib.hid (HT2.out.hp.step hb2).below
      have HO2 := Lib.hid hown
      clear hown hb2
      go_wp2
      go_ret2
      rw [HE.out]
      exact ⟨HB2.out, .inr ⟨rfl, RA, rc, by rw [List.length_reverse]; rfl, Rd.of_own HO2.out rfl, own_cap HO2.out, own_mxT HO2.out⟩⟩

/-- The furthest note among the first k, and its number of steps. -/
def farS (f : Int) (L : List (Int × Int)) : Nat → Int × Int
  | 0 => (0, -1)
  | k + 1 => if fz f L k ≠ -2 ∧ (farS f L k).2 < ((chB f L k).length : Int) then ((k : Int), ((chB f L k).length : Int)) else farS f L k

/-- What Furthest answers. -/
def furV (f : Int) (L : List (Int × Int)) : Value := .tuple (if runE f L = 0 then #[.int .i64 (farS f L 128).1, .int .i64 (farS f L 128).2, .int .i64 0] else #[.int .i64 0, .int .i64 0, .int .i64 (runE f L)])
set_option maxRecDepth 100000 in
set_option maxHeartbeats 1000000 in
theorem furthest_any (f : Int) (A : Option Addr) (n cap : Nat) (L : List (Int × Int)) (w : World) (h : OArg w w.heap.size A n cap L) :
    Calls Tryd.prog 19 #[.agg #[.int .i64 f, .slice A n cap]] w fun e w' => Below w.heap.size w w' ∧ e = .returned (furV f L) := by
  have hb := bw_new (Below.refl _ w) (.cells #[.int .i64 f, .slice A n cap] 25)
  have HR := Lib.hid (run_arg (f := f) (h.step hb))
  have HB := Lib.hid hb
  have HA := Lib.hid h
  clear h hb
  go_enter Tryd.func19, Tryd.ntmps19
  go_wp2_with fail
  refine HR.out.mono ?_
  rintro e w1 ⟨hb1, ⟨h0, rfl⟩ | ⟨h0, GA, gn, gc, DA, dn, dc, rfl, hp⟩⟩
  · have HB1 := Lib.hid (HB.out.trans (hb1.mono HB.out.size))
    have HE := Lib.hid (show furV f L = .tuple #[.int .i64 0, .int .i64 0, .int .i64 (runE f L)] by unfold furV; rw [if_neg h0])
    obtain ⟨x, hx⟩ : ∃ x, x = runE f L := ⟨_, rfl⟩
    rw [← hx] at h0 HE ⊢
    have hz : (x != 0) = true := by simpa using h0
    clear hb1 h0 hx
    go_wp2
    go_ret3
    exact ⟨HB1.out, by rw [HE.out]; rfl⟩
  · have hT := TnAt.of hb1 hp
    have HE := Lib.hid (show furV f L = .tuple #[.int .i64 (farS f L 128).1, .int .i64 (farS f L 128).2, .int .i64 0] by unfold furV; rw [if_pos h0])
    have HEQ := HE
    clear HE
    rw [World.size_alloc]
    obtain ⟨h1, h2, h3⟩ := runE_ord h0
    rw [HA.out.len] at h2
    have HO := Lib.hid h3
    have HT := Lib.hid hT
    have HWS := Lib.hid (show ∀ k : Int, (lkz k (stT f L n).ways).isSome = decide (fz f L k ≠ -2) by rw [← HA.out.len]; exact ways_some f L)
    have HNL := Lib.hid (show ∀ k : Int, (chB f L k).length ≤ 200 by
      intro k
      rcases chB_len h3 n k (by have := fz_lt f L k; rw [HA.out.len] at this; exact this.2) with h | h
      · have := fz_lt f L k; rw [HA.out.len] at this; omega
      · omega)
    clear h0 h1 h3 hp hT hb1
    go_wp2_with fail
    go_loopw [2, 3, 18] (fun u v x wx => ∃ (k : Nat) (a b : Int), x = .int .i64 (k : Int) ∧ k ≤ 128 ∧ u = .int .i64 a ∧ v = .int .i64 b ∧ farS f L k = (a, b) ∧ TnAt w f L A n cap wx) (fun _ _ x _ => 128 - (intOf x).toNat)
    case atStart => exact ⟨0, 0, -1, rfl, by omega, rfl, rfl, rfl, HT.out⟩
    case round =>
      obtain ⟨k, a, b, rfl, hk, rfl, rfl, hab, hT⟩ := hrel
      have HAB := Lib.hid hab
      have HTR := Lib.hid hT
      clear hab
      by_cases hkl : k < 128
      · have t0 := hT.t0
        have hl := look_wv hT.m1 (k : Int)
        rw [HWS.out] at hl
        obtain ⟨o, ho⟩ : ∃ o, o = (lkz (k : Int) (stT f L n).ways).getD (0, 0) := ⟨_, rfl⟩
        rw [← ho] at hl
        obtain ⟨oa, ob⟩ := o
        dsimp only at hl
        have hT2 := hT.step (bw_new (Below.refl _ _) (.cells #[.int .i64 oa, .int .i64 ob] 50))
        have HT2 := Lib.hid hT2
        by_cases hz : fz f L k = -2
        · rw [show decide (fz f L k ≠ -2) = false by simp [hz]] at hl
          have HE := Lib.hid (show farS f L (k + 1) = (a, b) by unfold farS; rw [if_neg (by simp [hz]), HAB.out])
          clear hz ho hT hT2
          go_wp2
          go_roundw
          case rel => exact ⟨k + 1, a, b, by go_num, by omega, rfl, rfl, HE.out, HT2.out⟩
          case measure => simp [intOf]; omega
        · rw [show decide (fz f L k ≠ -2) = true by simp [hz]] at hl
          have c0 : (wr.alloc (.cells #[.int .i64 oa, .int .i64 ob] 50)).cell? ⟨w.heap.size, 0, none⟩ = some (.int .i64 f) := (hT2.hp.at_ 0 rfl).cell 0
          have c1 : (wr.alloc (.cells #[.int .i64 oa, .int .i64 ob] 50)).cell? ⟨w.heap.size, 1, none⟩ = some (.slice A n cap) := (hT2.hp.at_ 0 rfl).cell 1
          have HC := Lib.hid (tchain_any f k (w.heap.size + 1 + 3) (w.heap.size + 1 + 2) A n cap L _ hT2.t1 hT2.lt hT2.m2 (HA.out.step hT2.hp.below) HO.out h2 hz)
          obtain ⟨c, hc⟩ : ∃ c, c = (chB f L k).length := ⟨_, rfl⟩
          have hc2 : c ≤ 200 := by rw [hc]; exact HNL.out _
          have HCC := Lib.hid hc
          have HE := Lib.hid (show farS f L (k + 1) = if b < (c : Int) then ((k : Int), (c : Int)) else (a, b) by
            rw [show farS f L (k + 1) = if fz f L k ≠ -2 ∧ (farS f L k).2 < ((chB f L k).length : Int) then ((k : Int), ((chB f L k).length : Int)) else farS f L k from rfl, HAB.out, ← hc]
            by_cases q : b < (c : Int)
            · rw [if_pos ⟨hz, q⟩, if_pos q]
            · rw [if_neg (fun e => q e.2), if_neg q])
          clear hz ho hT hT2 hc
          go_wp2_with fail
          refine HC.out.mono ?_
          rintro e w2 ⟨RA, rc, rfl, hown, hb2⟩
          rw [List.length_reverse, ← HCC.out]
          have HT3 := Lib.hid (HT2.out.step hb2)
          clear hown hb2
          by_cases q : b < (c : Int)
          · have HE2 := Lib.hid (HE.out.trans (if_pos q))
            go_wp2
            go_roundw
            case rel => exact ⟨k + 1, k, c, by go_num, by omega, rfl, rfl, HE2.out, HT3.out⟩
            case measure => simp [intOf]; omega
          · have HE2 := Lib.hid (HE.out.trans (if_neg q))
            go_wp2
            go_roundw
            case rel => exact ⟨k + 1, a, b, by go_num, by omega, rfl, rfl, HE2.out, HT3.out⟩
            case measure => simp [intOf]; omega
      · obtain rfl : k = 128 := by omega
        go_wp2
        go_ret3
        exact ⟨HTR.out.hp.below, by rw [HEQ.out, HAB.out]; rfl⟩
end Go.Proofs.YtfickhncbahekaaDoor
