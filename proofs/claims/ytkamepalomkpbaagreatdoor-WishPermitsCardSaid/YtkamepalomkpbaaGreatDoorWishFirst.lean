/- Package wish: first and Permitted. Conditions: the problem is right (but for the error cases); the library's table of powers of ten reads as its text lays it. -/
import Derived.Test.YtkamepalomkpbaaGreatDoorWishPerm
namespace Go.Proofs.YtkamepalomkpbaaGreatDoor
open Go.RowKit

/-- What first returns. -/
def fstVal : Option (Int × Int) → Value
  | some p => .tuple #[.int .i64 p.1, .int .i64 p.2, .bool true]
  | none => .tuple #[.int .i64 0, .int .i64 0, .bool false]
theorem pair_step {ws : List Wsh} {rules : List Int} {a : Int} {g : List Int} {t : Nat} (h : t < g.length) :
    pairOf ws rules a (g.drop t) = if apB rules (wat ws a) (wat ws g[t]) = true then some g[t] else pairOf ws rules a (g.drop (t + 1)) := by
  rw [drop_cons g t h]
  unfold pairOf
  rw [List.find?_cons]
  cases apB rules (wat ws a) (wat ws g[t]) <;> rfl
theorem fst_step {ws : List Wsh} {rules : List Int} {g : List Int} {k : Nat} (h : k < g.length) :
    fstP ws rules (g.drop k) = match pairOf ws rules g[k] (g.drop (k + 1)) with | some b => some (g[k], b) | none => fstP ws rules (g.drop (k + 1)) := by
  rw [drop_cons g k h, fstP_cons]
  rfl

set_option maxRecDepth 100000 in
set_option maxHeartbeats 4000000 in
/-- first: the first pair of a right group that may not share. -/
theorem first_any (A : Option Addr) (n cap : Nat) (B : Option Addr) (m c2 : Nat) (ws : List Wsh) (rules : List Int) (G : Option Addr) (gn gc : Nat) (g : List Int) (Bd : Nat) (w : World) (hp : Pb w Bd A n cap B m c2 ws rules) (hB : Bd ≤ w.heap.size)
    (hr : ∀ x ∈ ws, WR x) (hg : ∀ i ∈ g, 0 ≤ i ∧ i < (n : Int)) (hgl : g.length = gn) (hgr : Rd i64v w Bd G g) (hgc : gn ≤ gc) (hgm : gc ≤ maxLen) (ht : Tab w) :
    Calls Tryz.prog 29 #[.agg #[.slice A n cap, .slice B m c2], .slice G gn gc] w fun e w' => e = .returned (fstVal (fstP ws rules g)) ∧ Below w.heap.size w w' := by
  have hl := hp.wl
  have hcm := hp.wm
  have hnc := hp.wc
  unfold maxLen at hcm hgm
  have hb0 := bw_new (Below.refl _ w) (.cells #[.slice A n cap, .slice B m c2] 29)
  have hrel : CostRel w Bd A n cap B m c2 ws rules G g (w.alloc (.cells #[.slice A n cap, .slice B m c2] 29)) :=
    ⟨Blk.new (cs := [.slice A n cap, .slice B m c2]), hp.keep hB hb0, hgr.below (hb0.mono hB), hb0, by simp, ht.alloc _⟩
  have HREL := Lib.hid hrel
  have HGL := Lib.hid hgl
  have HR := Lib.hid hr
  have HG := Lib.hid hg
  clear hp hl hgl hr hg hgr hb0 hrel ht
  go_enter Tryz.func29, Tryz.ntmps29
  go_wp2_with fail
  go_loopw [13] (fun v wr => ∃ k : Nat, k ≤ gn ∧ v = .int .i64 k ∧ Lib.Kept (fstP ws rules g = fstP ws rules (g.drop k)) ∧ CostRel w Bd A n cap B m c2 ws rules G g wr) (fun v _ => gn - (intOf v).toNat)
  case atStart => exact ⟨0, by omega, rfl, rfl, HREL.out⟩
  case round =>
    obtain ⟨k, hk, rfl, ho, hrel⟩ := hrel
    have HO : Hid (fstP ws rules g = fstP ws rules (g.drop k)) := ho
    have HRL := Lib.hid hrel
    have hs : w.heap.size + 1 ≤ wr.heap.size := hrel.2.2.2.2.1
    clear hrel ho
    by_cases hlt : k < gn
    · have hltg : k < g.length := by rw [HGL.out]; exact hlt
      obtain ⟨gb, go, rfl, hgb, hgcell⟩ := rd_at HRL.out.2.2.1 (by omega)
      have hck := hgcell k hltg
      have hin := HG.out g[k] (List.getElem_mem hltg)
      have HST := Lib.hid (fst_step (ws := ws) (rules := rules) hltg)
      obtain ⟨a, ha⟩ : ∃ a, a = g[k] := ⟨_, rfl⟩
      rw [← ha] at hck hin HST
      obtain ⟨ha0, ha1⟩ := hin
      have hgbw : gb < wr.heap.size := by omega
      clear hgcell ha
      by_cases hcap : gc = k + 1
      · have HN := Lib.hid (show fstP ws rules g = fstP ws rules (g.drop (k + 1)) by
          rw [HO.out, HST.out, List.drop_eq_nil_of_le (by rw [HGL.out]; omega)]; rfl)
        subst hcap
        have hgk : gn = k + 1 := by omega
        subst hgk
        go_wp2_with fail
        go_loop [23] (fun v => v = .int .i64 0) (fun _ => 0)
        case atStart => rfl
        case round =>
          subst hrel
          go_wp2
          go_roundw
          case rel => exact ⟨k + 1, by omega, by go_num, HN.out, HRL.out⟩
          case measure => simp [intOf]
      · have hcap' : k + 1 < gc := by omega
        clear hcap
        go_wp2_with fail
        obtain ⟨wo, rfl⟩ : ∃ wo : World, wo = wr := ⟨_, rfl⟩
        go_loopw [23] (fun v wx => ∃ j : Nat, k + 1 + j ≤ gn ∧ v = .int .i64 j ∧ Lib.Kept (pairOf ws rules a (g.drop (k + 1)) = pairOf ws rules a (g.drop (k + 1 + j))) ∧ CostRel w Bd A n cap B m c2 ws rules (some ⟨gb, go, none⟩) g wx) (fun v _ => gn - (intOf v).toNat)
        case atStart => exact ⟨0, by omega, rfl, rfl, HRL.out⟩
        case round =>
          obtain ⟨j, hj, rfl, hpo, hrel⟩ := hrel
          have HPO : Hid (pairOf ws rules a (g.drop (k + 1)) = pairOf ws rules a (g.drop (k + 1 + j))) := hpo
          have HRX := Lib.hid hrel
          have hsx : w.heap.size + 1 ≤ wr.heap.size := hrel.2.2.2.2.1
          clear hrel hpo hck
          by_cases hlt2 : k + 1 + j < gn
          · have hltx : k + 1 + j < g.length := by rw [HGL.out]; exact hlt2
            obtain ⟨gb', go', e, hgb', hgcell⟩ := rd_at HRX.out.2.2.1 (by omega)
            injection e with e
            injection e with e1 e2 e3
            subst e1
            subst e2
            have hcj := hgcell (k + 1 + j) hltx
            rw [← Nat.add_assoc] at hcj
            have hin := HG.out g[k + 1 + j] (List.getElem_mem hltx)
            have HPS := Lib.hid (pair_step (ws := ws) (rules := rules) (a := a) hltx)
            obtain ⟨b, hb⟩ : ∃ b, b = g[k + 1 + j] := ⟨_, rfl⟩
            rw [← hb] at hcj hin HPS
            obtain ⟨hb0, hb1⟩ := hin
            have hgbx : gb < wr.heap.size := by omega
            obtain ⟨p0, p1⟩ := HRX.out.1.two
            have HAP := Lib.hid (apart_any A n cap B m c2 ws rules Bd wr HRX.out.2.1 (by omega) HR.out a b ⟨ha0, ha1⟩ ⟨hb0, hb1⟩ HRX.out.2.2.2.2.2)
            clear hgcell hb
            cases hq : apB rules (wat ws a) (wat ws b) with
            | true =>
              have hap := HAP.out
              rw [hq] at hap
              have hap := Lib.hid hap
              have HF := Lib.hid (show fstP ws rules g = some (a, b) by
                rw [HO.out, HST.out, HPO.out, HPS.out, hq]; rfl)
              clear hq HAP
              go_wp2_with fail
              refine hap.out.mono ?_
              rintro e w2 ⟨rfl, hk2⟩
              have HB2 := Lib.hid ((HRX.out.below hB hk2).2.2.2.1)
              clear hk2
              go_wp2
              go_ret3
              exact ⟨by rw [HF.out]; rfl, HB2.out⟩
            | false =>
              have hap := HAP.out
              rw [hq] at hap
              have hap := Lib.hid hap
              have HF := Lib.hid (show pairOf ws rules a (g.drop (k + 1)) = pairOf ws rules a (g.drop (k + 1 + (j + 1))) by
                rw [HPO.out, HPS.out, hq]; rfl)
              clear hq HAP
              go_wp2_with fail
              refine hap.out.mono ?_
              rintro e w2 ⟨rfl, hk2⟩
              have HR2 := Lib.hid (HRX.out.below hB hk2)
              clear hk2
              go_wp2
              go_roundw
              case rel => exact ⟨j + 1, by omega, by go_num, HF.out, HR2.out⟩
              case measure => simp [intOf]; omega
          · have hkj : k + 1 + j = gn := by omega
            have HN := Lib.hid (show fstP ws rules g = fstP ws rules (g.drop (k + 1)) by
              rw [HO.out, HST.out, HPO.out, List.drop_eq_nil_of_le (by rw [HGL.out]; omega)]; rfl)
            go_wp2
            go_roundw
            case rel => exact ⟨k + 1, by omega, by go_num, HN.out, HRX.out⟩
            case measure => simp [intOf]; omega
    · have hkg : k = gn := by omega
      have HN := Lib.hid (show fstP ws rules g = none by rw [HO.out, List.drop_eq_nil_of_le (by rw [HGL.out]; omega)]; rfl)
      go_wp2
      go_ret3
      exact ⟨by rw [HN.out]; rfl, HRL.out.2.2.2.1⟩

/-- What Permitted returns. -/
def permVal (ws : List Wsh) (rules g : List Int) : Value :=
  if bothE ws rules g ≠ 0 then .tuple #[.int .i64 0, .int .i64 0, .bool false, .int .i64 (bothE ws rules g)]
  else match fstP ws rules g with
    | some p => .tuple #[.int .i64 p.1, .int .i64 p.2, .bool false, .int .i64 0]
    | none => .tuple #[.int .i64 0, .int .i64 0, .bool (decide (costZ ws g ≤ 128)), .int .i64 0]

theorem perm_err {ws : List Wsh} {rules g : List Int} (h : bothE ws rules g ≠ 0) : permVal ws rules g = .tuple #[.int .i64 0, .int .i64 0, .bool false, .int .i64 (bothE ws rules g)] := if_pos h
theorem perm_pair {ws : List Wsh} {rules g : List Int} {a b : Int} (h : bothE ws rules g = 0) (hf : fstP ws rules g = some (a, b)) : permVal ws rules g = .tuple #[.int .i64 a, .int .i64 b, .bool false, .int .i64 0] := by
  unfold permVal; rw [if_neg (by omega), hf]
theorem perm_none {ws : List Wsh} {rules g : List Int} (h : bothE ws rules g = 0) (hf : fstP ws rules g = none) : permVal ws rules g = .tuple #[.int .i64 0, .int .i64 0, .bool (decide (costZ ws g ≤ 128)), .int .i64 0] := by
  unfold permVal; rw [if_neg (by omega), hf]

set_option maxRecDepth 100000 in
set_option maxHeartbeats 4000000 in
/-- Permitted: whether a group is permitted, or the first pair that may not share, or the first error. -/
theorem wperm_any (A : Option Addr) (n cap : Nat) (B : Option Addr) (m c2 : Nat) (ws : List Wsh) (rules : List Int) (G : Option Addr) (gn gc : Nat) (g : List Int) (Bd : Nat) (w : World) (hp : Pb w Bd A n cap B m c2 ws rules) (hB : Bd ≤ w.heap.size)
    (hgl : g.length = gn) (hgr : Rd i64v w Bd G g) (hgc : gn ≤ gc) (hgm : gc ≤ maxLen) (ht : Tab w) :
    Calls Tryz.prog 9 #[.agg #[.slice A n cap, .slice B m c2], .slice G gn gc] w fun e w' => e = .returned (permVal ws rules g) ∧ Below w.heap.size w w' := by
  have hb0 := bw_new (Below.refl _ w) (.cells #[.slice A n cap, .slice B m c2] 29)
  have hbx : Blk (w.alloc (.cells #[.slice A n cap, .slice B m c2] 29)) w.heap.size 29 [.slice A n cap, .slice B m c2] := Blk.new
  have HP := Lib.hid (hp.keep hB hb0)
  have HG := Lib.hid (hgr.below (hb0.mono hB))
  have H1 := Lib.hid (both_any A n cap B m c2 ws rules G gn gc g Bd _ HP.out (by simp; omega) hgl HG.out hgc hgm)
  have HT := Lib.hid (ht.below hb0)
  have HB := Lib.hid hbx
  have HB0 := Lib.hid hb0
  have HWL := Lib.hid hp.wl
  have HZ := Lib.hid (@bothE_zero ws rules g)
  have HE := Lib.hid (@perm_err ws rules g)
  have HPR := Lib.hid (fun (a b : Int) => @perm_pair ws rules g a b)
  have HPN := Lib.hid (@perm_none ws rules g)
  obtain ⟨z, hz⟩ : ∃ z, z = bothE ws rules g := ⟨_, rfl⟩
  rw [← hz] at H1 HZ HE
  simp only [← hz] at HPR HPN
  clear hz hp hgr hb0 hbx ht
  by_cases hz0 : z = 0
  · have hz1 : (z == 0) = true := by simpa using hz0
    have hz2 : (z != 0) = false := by simpa using hz0
    subst hz0
    have hzz := HZ.out rfl
    have hgg := (gpE_zero hzz.2).2
    rw [HWL.out] at hgg
    have H2 := Lib.hid (fun W hp hB hgr ht => first_any A n cap B m c2 ws rules G gn gc g Bd W hp hB (pbE_right hzz.1) hgg hgl hgr hgc hgm ht)
    have H3 := Lib.hid (fun W hp hB hgr ht => cost_any A n cap B m c2 ws rules G gn gc g Bd W hp hB (pbE_right hzz.1) hgg hgl hgr hgc hgm ht)
    obtain ⟨c, hc⟩ : ∃ c, c = costZ ws g := ⟨_, rfl⟩
    rw [← hc] at H3 HPN
    clear hzz hc hgg
    cases hq : fstP ws rules g with
    | some p =>
      obtain ⟨a, b⟩ := p
      have h2 := H2.out
      rw [hq] at h2
      have h2 := Lib.hid h2
      have hv := Lib.hid (HPR.out a b rfl hq)
      clear H2 hq
      go_enter Tryz.func9, Tryz.ntmps9
      go_wp2_with fail
      refine H1.out.mono ?_
      rintro e w1 ⟨rfl, hk⟩
      obtain ⟨p0, p1⟩ := (HB.out.keep hk).two
      have HG1 := Lib.hid (HG.out.below (hk.mono (by simp; omega)))
      have HP1 := Lib.hid (HP.out.keep (by simp; omega) hk)
      have HT1 := Lib.hid (HT.out.below hk)
      have HB1 := Lib.hid (HB0.out.trans (hk.mono (by simp)))
      clear hk
      go_wp2_with fail
      refine (h2.out _ HP1.out (Nat.le_trans hB HB1.out.size) HG1.out HT1.out).mono ?_
      rintro e w2 ⟨rfl, hk⟩
      have HB2 := Lib.hid (HB1.out.trans (hk.mono HB1.out.size))
      clear hk
      unfold fstVal
      go_wp2
      refine bodyPost_ret (v := .tuple #[.int .i64 a, .int .i64 b, .bool false, .int .i64 0]) (by simp [results, Tryz.results9, go_sem]) rfl ⟨?_, HB2.out⟩
      rw [hv.out]
    | none =>
      have h2 := H2.out
      rw [hq] at h2
      have h2 := Lib.hid h2
      have hv := Lib.hid (HPN.out rfl hq)
      clear H2 hq
      go_enter Tryz.func9, Tryz.ntmps9
      go_wp2_with fail
      refine H1.out.mono ?_
      rintro e w1 ⟨rfl, hk⟩
      obtain ⟨p0, p1⟩ := (HB.out.keep hk).two
      have HG1 := Lib.hid (HG.out.below (hk.mono (by simp; omega)))
      have HP1 := Lib.hid (HP.out.keep (by simp; omega) hk)
      have HT1 := Lib.hid (HT.out.below hk)
      have HB1 := Lib.hid (HB0.out.trans (hk.mono (by simp)))
      have hbx1 := HB.out.keep hk
      have HBX1 := Lib.hid hbx1
      clear hk hbx1
      go_wp2_with fail
      refine (h2.out _ HP1.out (Nat.le_trans hB HB1.out.size) HG1.out HT1.out).mono ?_
      rintro e w2 ⟨rfl, hk⟩
      clear p0 p1
      obtain ⟨p0, p1⟩ := (HBX1.out.keep hk).two
      have hs1 := Nat.le_trans hB HB1.out.size
      have HG2 := Lib.hid (HG1.out.below (hk.mono hs1))
      have HP2 := Lib.hid (HP1.out.keep hs1 hk)
      have HT2 := Lib.hid (HT1.out.below hk)
      have HB2 := Lib.hid (HB1.out.trans (hk.mono HB1.out.size))
      clear hk
      unfold fstVal
      go_wp2_with fail
      refine (H3.out _ HP2.out (Nat.le_trans hB HB2.out.size) HG2.out HT2.out).mono ?_
      rintro e w3 ⟨rfl, hk⟩
      have HB3 := Lib.hid (HB2.out.trans (hk.mono HB2.out.size))
      clear hk p0 p1
      go_wp2
      refine bodyPost_ret (v := .tuple #[.int .i64 0, .int .i64 0, .bool (decide (c ≤ 128)), .int .i64 0]) (by simp [results, Tryz.results9, go_sem]) rfl ⟨?_, HB3.out⟩
      rw [hv.out]
  · have hz1 : (z == 0) = false := by simpa using hz0
    have hz2 : (z != 0) = true := by simpa using hz0
    have hv := Lib.hid (HE.out hz0)
    clear hz0
    go_enter Tryz.func9, Tryz.ntmps9
    go_wp2_with fail
    refine H1.out.mono ?_
    rintro e w1 ⟨rfl, hk⟩
    have HB1 := Lib.hid (HB0.out.trans (hk.mono (by simp)))
    clear hk
    go_wp2
    refine bodyPost_ret (v := .tuple #[.int .i64 0, .int .i64 0, .bool false, .int .i64 z]) (by simp [results, Tryz.results9, go_sem]) rfl ⟨?_, HB1.out⟩
    rw [hv.out]
end Go.Proofs.YtkamepalomkpbaaGreatDoor
