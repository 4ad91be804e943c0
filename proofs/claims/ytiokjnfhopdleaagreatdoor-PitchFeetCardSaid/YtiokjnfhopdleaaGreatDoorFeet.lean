/- Feet: the first usual feet of a shift, or the error. The shifts of the usual feet. Conditions: the library's table of powers of ten reads as its text lays it. -/
import Derived.Test.YtiokjnfhopdleaaGreatDoorUsual
namespace Go.Proofs.YtiokjnfhopdleaaGreatDoor
open Go.RowKit

/-- The shifts of the usual feet on eight feet. -/
def usualS : List Int := [-36, -24, -17, -12, -8, -5, 0, 4, 7, 12, 16, 19, 22, 24, 28, 31, 34, 36, 40, 43, 48, 60]
def usN (k : Nat) : Nat := (usual[k]?.getD (0, 0)).1
def usD (k : Nat) : Nat := (usual[k]?.getD (0, 0)).2
def usS (k : Nat) : Int := usualS[k]?.getD 0
def usChk (k : Nat) : Bool :=
  decide ((1 * usN k) ^ 24 * 4 ^ (usS k).toNat < 2 * ((8 * usD k) ^ 24 * 4 ^ (-(usS k)).toNat)) && decide ((8 * usD k) ^ 24 * 4 ^ (-(usS k)).toNat < 2 * ((1 * usN k) ^ 24 * 4 ^ (usS k).toNat)) &&
    decide (0 < usN k) && decide (0 < usD k) && decide (usN k ≤ 128 * usD k) && decide (usD k ≤ 128) && decide (Nat.gcd (usN k) (usD k) = 1) && decide (usN k ≤ 16384)
theorem usChk_all : ∀ k < 22, usChk k = true := by decide +kernel
theorem us_parts (k : Nat) (hk : k < 22) : PR (usN k) (usD k) ∧ IsShift (8 * usD k) (1 * usN k) (usS k) := by
  have h := usChk_all k hk
  unfold usChk at h
  simp only [Bool.and_eq_true, decide_eq_true_eq] at h
  obtain ⟨⟨⟨⟨⟨⟨⟨h1, h2⟩, h3⟩, h4⟩, h5⟩, h6⟩, h7⟩, h8⟩ := h
  refine ⟨⟨⟨by omega, by omega, by omega, by omega, by rw [Int.natAbs_natCast, Int.natAbs_natCast]; exact h7⟩, by omega, by omega, by omega⟩, .mk (usS k).toNat (-(usS k)).toNat (by omega) h1 h2⟩
theorem usS_mono : ∀ k < 21, usS k < usS (k + 1) := by decide +kernel
theorem usS_lt {j k : Nat} (h : j < k) (hk : k < 22) : usS j < usS k := by
  induction k with
  | zero => omega
  | succ k ih =>
    have h1 := usS_mono k (by omega)
    rcases Nat.lt_or_ge j k with h2 | h2
    · exact Int.lt_trans (ih h2 (by omega)) h1
    · rw [show j = k by omega]; exact h1
theorem us_get (k : Nat) (hk : k < usual.length) : usual[k].1 = usN k ∧ usual[k].2 = usD k := by
  unfold usN usD
  rw [List.getElem?_eq_getElem hk]; exact ⟨rfl, rfl⟩
theorem FRow.us {w : World} {g : Nat} (h : FRow w g (frL usual)) (k : Nat) (hk : k < 22) :
    w.cell? ⟨g, k * 2, none⟩ = some (.int .i64 (usN k)) ∧ w.cell? ⟨g, k * 2 + 1, none⟩ = some (.int .i64 (usD k)) ∧ w.frozen? ⟨g, k * 2, none⟩ = false ∧ w.frozen? ⟨g, k * 2 + 1, none⟩ = false := by
  have h1 := h.cell k hk
  obtain ⟨e1, e2⟩ := us_get k hk
  rw [e1, e2] at h1
  exact h1

theorem pr8 : PR 8 1 := ⟨by decide, by decide, by decide, by decide⟩

/-- What Feet returns. -/
def RetFeet (n : Int) (w : World) (e : Ending) (w' : World) : Prop :=
  Below w.heap.size w w' ∧ ((∃ k, k < 22 ∧ (∀ j < k, usS j ≠ n) ∧ usS k = n ∧ e = .returned (.tuple #[.agg #[.int .i64 (usN k), .int .i64 (usD k)], .int .i64 0])) ∨
    ((∀ j < 22, usS j ≠ n) ∧ e = .returned (.tuple #[.agg #[.int .i64 0, .int .i64 0], .int .i64 18])))

set_option maxRecDepth 100000 in
set_option maxHeartbeats 2000000 in
theorem feet_any (n : Int) (w : World) (ht : Tab w) :
    Calls Tryz.prog 15 #[.int .i64 n] w (RetFeet n w) := by
  go_enter Tryz.func15, Tryz.ntmps15
  go_wp2_with fail
  refine (usual_any _).mono ?_
  rintro e w1 ⟨g, cap, rfl, hcap, hg, hrow, hk⟩
  have R := (Two.new w 0 0 23).below hk
  have hb := (bw_new (Below.refl _ w) (.cells #[.int .i64 0, .int .i64 0] 23)).trans (hk.mono (by simp))
  rw [World.size_alloc] at hg
  clear hk
  go_wp2_with fail
  go_loopw [8] (fun i wr => ∃ k : Nat, k ≤ 22 ∧ i = .int .i64 k ∧ Lib.Kept (∀ j < k, usS j ≠ n) ∧ FRow wr g (frL usual) ∧ Two wr w.heap.size 0 0 ∧ Below w.heap.size w wr)
    (fun i _ => 22 - (intOf i).toNat)
  case atStart => exact ⟨0, by omega, rfl, (show ∀ j < 0, usS j ≠ n from fun j h => absurd h (by omega)), hrow, R, hb⟩
  case round =>
    clear hrow R hb
    obtain ⟨k, hk, rfl, hno, hrow, R, hb⟩ := hrel
    have HNO := Lib.hid hno
    clear hno
    by_cases hlt : k < 22
    · obtain ⟨c0, c1, f0, f1⟩ := hrow.us k hlt
      obtain ⟨hpr, his⟩ := us_parts k hlt
      have HS := Lib.hid (fun W h => shift_any (usN k) (usD k) 8 1 W h hpr pr8)
      obtain ⟨a, ha⟩ : ∃ a, a = usN k := ⟨_, rfl⟩
      obtain ⟨b, hb'⟩ : ∃ b, b = usD k := ⟨_, rfl⟩
      have HA := Lib.hid ha
      have HB := Lib.hid hb'
      have HIS := Lib.hid his
      rw [← ha] at c0 HS
      rw [← hb'] at c1 HS
      clear hpr his ha hb'
      go_wp2_with fail
      refine (HS.out _ (ht.below (bw_new hb _))).mono ?_
      rintro e w2 ⟨s, hs, hs1, hs2, rfl, hk2⟩
      have hsu : s = usS k := by
        rw [HA.out, HB.out] at hs
        exact hs.unique HIS.out
      have HSU := Lib.hid hsu
      have F := (Two.new wr a b 23).below hk2
      have R2 := (R.alloc (.cells #[.int .i64 a, .int .i64 b] 23)).below hk2
      have hb2 := bw_new hb (.cells #[.int .i64 a, .int .i64 b] 23)
      have hrow2 := (hrow.below (bw_new (Below.refl _ _) (.cells #[.int .i64 a, .int .i64 b] 23))).below hk2
      replace hb2 := hb2.trans (hk2.mono hb2.size)
      have hnd : usN k = a ∧ usD k = b := ⟨HA.out.symm, HB.out.symm⟩
      have HND := Lib.hid hnd
      clear hs hk2 hrow hb R c0 c1 f0 f1 hsu hnd
      have hsz : w.heap.size < w2.heap.size := R2.2.2.2.2
      have ⟨d0, d1, d2, d3, _⟩ := R2
      have ⟨e0, e1, e2, e3, _⟩ := F
      by_cases hn : s = n
      · subst hn
        go_wp2
        refine bodyPost_ret (v := .tuple #[.agg #[.int .i64 a, .int .i64 b], .int .i64 0]) (by simp [results, Tryz.results15, go_sem, d0, d1]) rfl ⟨?_, ?_⟩
        · exact bw_set (bw_set hb2 (Nat.le_refl _) _) (Nat.le_refl _) _
        · refine .inl ⟨k, hlt, HNO.out, HSU.out.symm, ?_⟩
          rw [HND.out.1, HND.out.2]
      · have hnb : (s == n) = false := by rw [beq_eq_false_iff_ne]; exact hn
        have HN := Lib.hid hn
        clear hn
        have HR := Lib.hid hrow2
        have HB2 := Lib.hid hb2
        clear hrow2 hb2
        go_wp2
        go_roundw
        case rel =>
          refine ⟨k + 1, by omega, by go_num, (show ∀ j < k + 1, usS j ≠ n from fun j hj => ?_), HR.out, R2, HB2.out⟩
          rcases Nat.lt_or_ge j k with h | h
          · exact HNO.out j h
          · rw [show j = k by omega, ← HSU.out]; exact HN.out
        case measure => simp [intOf]; omega
    · obtain ⟨hkn⟩ : Nonempty (k = 22) := ⟨by omega⟩
      subst hkn
      have ⟨d0, d1, d2, d3, _⟩ := R
      clear hrow
      go_wp2
      refine bodyPost_ret (v := .tuple #[.agg #[.int .i64 0, .int .i64 0], .int .i64 18]) (by simp [results, Tryz.results15, go_sem, d0, d1]) rfl ⟨?_, ?_⟩
      · exact bw_set (bw_set hb (Nat.le_refl _) _) (Nat.le_refl _) _
      · exact .inr ⟨HNO.out, rfl⟩
end Go.Proofs.YtiokjnfhopdleaaGreatDoor
