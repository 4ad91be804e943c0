/- Package wish: both, Cost, apart, first and Permitted; slices.Index and slices.Contains of ints. Conditions: the problem is right (but for both and the error cases); the library's table of powers of ten reads as its text lays it. -/
import Derived.Test.YtkamepalomkpbaaGreatDoorWishCost
import Derived.RegionTactic
import Derived.BigRegion
namespace Go.Proofs.YtkamepalomkpbaaGreatDoor
open Go.RowKit

/-- slices.Index finds a number, or not; slices.Contains says whether. -/
def RetIdx (L : List Int) (v : Int) (w : World) (e : Ending) (w' : World) : Prop := w = w' ∧ ∃ z : Int, e = .returned (.int .i64 z) ∧ ((0 ≤ z ∧ v ∈ L) ∨ (z = -1 ∧ v ∉ L))
theorem mem_take_succ {L : List Int} {k : Nat} (h : k < L.length) {v : Int} (h0 : v ∉ L.take k) (h1 : v ≠ L[k]) : v ∉ L.take (k + 1) := by
  rw [take_snoc L k h, List.mem_append]
  rintro (h2 | h2)
  · exact h0 h2
  · exact h1 (by simpa using h2)
set_option maxHeartbeats 1000000 in
theorem index_any (L : List Int) (v : Int) (A : Option Addr) (n cap Bd : Nat) (w : World) (hl : L.length = n) (hr : Rd i64v w Bd A L) (hc : n ≤ cap) (hm : cap ≤ maxLen) :
    Calls Tryz.prog 48 #[.slice A n cap, .int .i64 v] w (RetIdx L v w) := by
  subst hl
  unfold maxLen at hm
  go_enter Tryz.func48, Tryz.ntmps48
  go_wp2
  go_loop [8] (fun i => ∃ k : Nat, k ≤ L.length ∧ i = .int .i64 k ∧ Lib.Kept (v ∉ L.take k)) (fun i => L.length - (intOf i).toNat)
  case atStart => exact ⟨0, by omega, rfl, (show v ∉ L.take 0 by simp)⟩
  case round =>
    obtain ⟨k, hk, rfl, hno⟩ := hrel
    have HNO := Lib.hid hno
    clear hno
    by_cases hlt : k < L.length
    · obtain ⟨b, off, rfl, hb, hcell⟩ := rd_at hr (by omega)
      have hck := hcell k hlt
      obtain ⟨x, hx⟩ : ∃ x, x = L[k] := ⟨_, rfl⟩
      rw [← hx] at hck
      have HX := Lib.hid hx
      clear hx hcell hr
      by_cases hv : v = x
      · subst hv
        go_wp2
        go_ret
        exact ⟨rfl, k, rfl, .inl ⟨by omega, by rw [HX.out]; exact List.getElem_mem hlt⟩⟩
      · have hvb : (v == x) = false := by rw [beq_eq_false_iff_ne]; exact hv
        have HV := Lib.hid hv
        clear hv
        go_wp2
        go_round
        case rel => exact ⟨k + 1, by omega, by go_num, mem_take_succ hlt HNO.out (by rw [← HX.out]; exact HV.out)⟩
        case measure => simp [intOf]; omega
    · have HN := Lib.hid (show v ∉ L by
        have h1 : v ∉ L.take k := HNO.out
        rwa [List.take_of_length_le (by omega)] at h1)
      go_wp2
      go_ret
      exact ⟨rfl, -1, rfl, .inr ⟨rfl, HN.out⟩⟩
theorem contains_any (L : List Int) (v : Int) (A : Option Addr) (n cap Bd : Nat) (w : World) (hl : L.length = n) (hr : Rd i64v w Bd A L) (hc : n ≤ cap) (hm : cap ≤ maxLen) :
    Calls Tryz.prog 40 #[.slice A n cap, .int .i64 v] w fun e w' => e = .returned (.bool (decide (v ∈ L))) ∧ w = w' := by
  have hi := Lib.hid (fun W h => index_any L v A n cap Bd W hl h hc hm)
  go_enter Tryz.func40, Tryz.ntmps40
  go_wp2_with fail
  refine (hi.out _ hr).mono ?_
  rintro e w' ⟨rfl, z, rfl, ⟨h0, h1⟩ | ⟨h0, h1⟩⟩
  · have H1 := Lib.hid h1
    clear h1
    go_wp2
    go_ret
    exact ⟨ret_bool (decide_eq_true H1.out).symm, rfl⟩
  · subst h0
    have H1 := Lib.hid h1
    clear h1
    go_wp2
    go_ret
    exact ⟨ret_bool (decide_eq_false H1.out).symm, rfl⟩

set_option maxRecDepth 100000 in
set_option maxHeartbeats 1000000 in
theorem both_any (A : Option Addr) (n cap : Nat) (B : Option Addr) (m c2 : Nat) (ws : List Wsh) (rules : List Int) (G : Option Addr) (gn gc : Nat) (g : List Int) (Bd : Nat) (w : World) (hp : Pb w Bd A n cap B m c2 ws rules) (hB : Bd ≤ w.heap.size)
    (hgl : g.length = gn) (hgr : Rd i64v w Bd G g) (hgc : gn ≤ gc) (hgm : gc ≤ maxLen) :
    Calls Tryz.prog 28 #[.agg #[.slice A n cap, .slice B m c2], .slice G gn gc] w fun e w' => e = .returned (.int .i64 (bothE ws rules g)) ∧ Below w.heap.size w w' := by
  have hE : bothE ws rules g = if pbE ws rules ≠ 0 then pbE ws rules else gpE n g := by unfold bothE; rw [hp.wl]
  have hb0 := bw_new (Below.refl _ w) (.cells #[.slice A n cap, .slice B m c2] 29)
  have hbx : Blk (w.alloc (.cells #[.slice A n cap, .slice B m c2] 29)) w.heap.size 29 [.slice A n cap, .slice B m c2] := Blk.new
  have H1 := Lib.hid (wcheck_any A n cap B m c2 ws rules Bd _ (hp.keep hB hb0) (by simp; omega))
  have HG := Lib.hid (hgr.below (hb0.mono hB))
  have HB := Lib.hid hbx
  have HB0 := Lib.hid hb0
  obtain ⟨z, hz⟩ : ∃ z, z = pbE ws rules := ⟨_, rfl⟩
  rw [← hz] at H1 hE
  have HE := Lib.hid hE
  clear hE hz hp hgr hb0 hbx
  by_cases hz0 : z = 0
  · have hz1 : (z == 0) = true := by simpa using hz0
    have hz2 : (z != 0) = false := by simpa using hz0
    have HE2 := Lib.hid (show bothE ws rules g = gpE n g by rw [HE.out, if_neg (by omega)])
    clear hz0
    go_enter Tryz.func28, Tryz.ntmps28
    go_wp2_with fail
    refine H1.out.mono ?_
    rintro e w1 ⟨rfl, hk⟩
    obtain ⟨p0, p1⟩ := (HB.out.keep hk).two
    have HG1 := Lib.hid (HG.out.below (hk.mono (by simp; omega)))
    have HB1 := Lib.hid (HB0.out.trans (hk.mono (by simp)))
    clear hk
    go_wp2_with fail
    refine (right_any A n cap B m c2 g G gn gc Bd _ hgl HG1.out hgc hgm (Nat.le_trans hB HB1.out.size)).mono ?_
    rintro e w2 ⟨rfl, hk⟩
    go_wp2
    go_ret
    exact ⟨ret_int HE2.out.symm, HB1.out.trans (hk.mono HB1.out.size)⟩
  · have hz1 : (z == 0) = false := by simpa using hz0
    have hz2 : (z != 0) = true := by simpa using hz0
    have HE2 := Lib.hid (show bothE ws rules g = z by rw [HE.out, if_pos hz0])
    clear hz0
    go_enter Tryz.func28, Tryz.ntmps28
    go_wp2_with fail
    refine H1.out.mono ?_
    rintro e w1 ⟨rfl, hk⟩
    have HB1 := Lib.hid (HB0.out.trans (hk.mono (by simp)))
    clear hk
    go_wp2
    go_ret
    exact ⟨ret_int HE2.out.symm, HB1.out⟩
theorem bothE_zero {ws : List Wsh} {rules g : List Int} (h : bothE ws rules g = 0) : pbE ws rules = 0 ∧ gpE ws.length g = 0 := by
  unfold bothE at h
  split at h
  · omega
  · exact ⟨by omega, h⟩
theorem gpE_zero {n : Nat} {g : List Int} (h : gpE n g = 0) : g ≠ [] ∧ ∀ i ∈ g, 0 ≤ i ∧ i < (n : Int) := by
  unfold gpE at h
  split at h
  · omega
  · rename_i h0
    exact ⟨fun e => h0 (by rw [e]; rfl), sqE_mem (by decide) h⟩

set_option maxRecDepth 100000 in
set_option maxHeartbeats 1000000 in
/-- Cost: the cost of a group, or the first error. -/
theorem wcost_any (A : Option Addr) (n cap : Nat) (B : Option Addr) (m c2 : Nat) (ws : List Wsh) (rules : List Int) (G : Option Addr) (gn gc : Nat) (g : List Int) (Bd : Nat) (w : World) (hp : Pb w Bd A n cap B m c2 ws rules) (hB : Bd ≤ w.heap.size)
    (hgl : g.length = gn) (hgr : Rd i64v w Bd G g) (hgc : gn ≤ gc) (hgm : gc ≤ maxLen) (ht : Tab w) :
    Calls Tryz.prog 14 #[.agg #[.slice A n cap, .slice B m c2], .slice G gn gc] w fun e w' => e = .returned (.tuple #[.int .i64 (if bothE ws rules g = 0 then costZ ws g else 0), .int .i64 (bothE ws rules g)]) ∧ Below w.heap.size w w' := by
  have hb0 := bw_new (Below.refl _ w) (.cells #[.slice A n cap, .slice B m c2] 29)
  have hbx : Blk (w.alloc (.cells #[.slice A n cap, .slice B m c2] 29)) w.heap.size 29 [.slice A n cap, .slice B m c2] := Blk.new
  have HP := Lib.hid (hp.keep hB hb0)
  have HG := Lib.hid (hgr.below (hb0.mono hB))
  have H1 := Lib.hid (both_any A n cap B m c2 ws rules G gn gc g Bd _ HP.out (by simp; omega) hgl HG.out hgc hgm)
  have HT := Lib.hid (ht.below hb0)
  have HB := Lib.hid hbx
  have HB0 := Lib.hid hb0
  have HWL := Lib.hid hp.wl
  have HZ := Lib.hid (@bothE_zero ws rules g)
  obtain ⟨z, hz⟩ : ∃ z, z = bothE ws rules g := ⟨_, rfl⟩
  rw [← hz] at H1 HZ ⊢
  clear hz hp hgr hb0 hbx ht
  by_cases hz0 : z = 0
  · have hz1 : (z == 0) = true := by simpa using hz0
    have hz2 : (z != 0) = false := by simpa using hz0
    subst hz0
    have hzz := HZ.out rfl
    have H2 := Lib.hid (fun W hp hB hgr ht => cost_any A n cap B m c2 ws rules G gn gc g Bd W hp hB (pbE_right hzz.1) (by have := (gpE_zero hzz.2).2; rwa [HWL.out] at this) hgl hgr hgc hgm ht)
    rw [if_pos rfl]
    obtain ⟨c, hc⟩ : ∃ c, c = costZ ws g := ⟨_, rfl⟩
    rw [← hc] at H2 ⊢
    clear hzz hc
    go_enter Tryz.func14, Tryz.ntmps14
    go_wp2_with fail
    refine H1.out.mono ?_
    rintro e w1 ⟨rfl, hk⟩
    obtain ⟨p0, p1⟩ := (HB.out.keep hk).two
    have HG1 := Lib.hid (HG.out.below (hk.mono (by simp; omega)))
    have HP1 := Lib.hid (HP.out.keep (by simp; omega) hk)
    have HT1 := Lib.hid (HT.out.below hk)
    have HB1 := Lib.hid (HB0.out.trans (hk.mono (by simp)))
    clear hk
    go_wp2_with fail
    refine (H2.out _ HP1.out (Nat.le_trans hB HB1.out.size) HG1.out HT1.out).mono ?_
    rintro e w2 ⟨rfl, hk⟩
    go_wp2
    go_ret2
    exact ⟨rfl, HB1.out.trans (hk.mono HB1.out.size)⟩
  · have hz1 : (z == 0) = false := by simpa using hz0
    have hz2 : (z != 0) = true := by simpa using hz0
    rw [if_neg hz0]
    clear hz0
    go_enter Tryz.func14, Tryz.ntmps14
    go_wp2_with fail
    refine H1.out.mono ?_
    rintro e w1 ⟨rfl, hk⟩
    have HB1 := Lib.hid (HB0.out.trans (hk.mono (by simp)))
    clear hk
    go_wp2
    go_ret2
    exact ⟨rfl, HB1.out⟩
end Go.Proofs.YtkamepalomkpbaaGreatDoor
