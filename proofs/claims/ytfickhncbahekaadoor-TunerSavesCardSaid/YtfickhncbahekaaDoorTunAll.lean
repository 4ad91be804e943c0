/- Package noteset: the notes of a set, one by one. Conditions: the words of the set are of 64 bits; the library's table reads as its text lays it; the loop's body keeps what lay below. -/
import Derived.RangeFuncNested
import Derived.RangeFuncBound
import Derived.RangeFuncCalls
import Derived.RangeFuncLeaves
import Derived.RangeFuncBox
import Derived.Shelf.Abstract
import Derived.Shelf.RegionOpen
import Derived.OwnWalkIn
import Derived.TacticsInMore
import Derived.LoopNIn
import Derived.LoopIn
import Derived.Test.YtfickhncbahekaaDoorTz
import Derived.Test.YtfickhncbahekaaDoorNsetF
namespace Go.Proofs.YtfickhncbahekaaDoor
open Go.RowKit Go.Shelf

attribute [local go_sem] Oper.semAt_some

theorem listK_skip (s : Nat × Nat) {a : Nat} : ∀ {b : Nat}, a ≤ b → (∀ m, a ≤ m → m < b → hasN s m = false) → listK s b = listK s a
  | 0, h, _ => by rw [show a = 0 by omega]
  | b + 1, h, hn => by
    by_cases e : a = b + 1
    · rw [e]
    · rw [listK_succ, hn b (by omega) (by omega), if_neg (by simp), List.append_nil]
      exact listK_skip s (by omega) (fun m h1 h2 => hn m h1 (by omega))
theorem listK_all (s : Nat × Nat) : listK s 128 = listN s := rfl
def partN (s : Nat × Nat) (i : Nat) : Nat := if i = 0 then s.1 else s.2
theorem partN_lt {s : Nat × Nat} (h : NOk s) (i : Nat) : partN s i < 18446744073709551616 := by unfold partN; split; exact h.1; exact h.2
theorem hasN_part (s : Nat × Nat) {i c : Nat} (hi : i < 2) (hc : c < 64) : hasN s (64 * i + c) = (partN s i).testBit c := by
  unfold hasN partN
  have : i = 0 ∨ i = 1 := by omega
  rcases this with rfl | rfl
  · rw [if_pos (by omega), if_pos rfl, show 64 * 0 + c = c by omega]
  · rw [if_neg (by omega), if_neg (by omega), show 64 * 1 + c - 64 = c by omega]
theorem index_part (s : Nat × Nat) (i : Nat) (hi : i < 2) (W : World) : (Instr.index 133 (.agg #[.int .u64 (s.1 : Int), .int .u64 (s.2 : Int)]) (.int .i64 (i : Int))).run Tryd.prog W = .ok (.int .u64 (partN s i : Int)) W := by
  have : i = 0 ∨ i = 1 := by omega
  rcases this with rfl | rfl <;> simp [Instr.index, run_underlying Tryd.underlying133, go_sem, partN]

/-- The bits from c on are left. -/
def PartAt (p0 c p : Nat) : Prop := ∀ j, p.testBit j = (p0.testBit j && decide (c ≤ j))
theorem PartAt.start (p0 : Nat) : PartAt p0 0 p0 := fun j => by simp
theorem PartAt.le {p0 c p : Nat} (h : PartAt p0 c p) (h0 : p0 < 18446744073709551616) : p < 18446744073709551616 := by
  rw [show (18446744073709551616 : Nat) = 2 ^ 64 by decide] at *
  refine Nat.lt_pow_two_of_testBit _ (fun i hi => ?_)
  rw [h i, Nat.testBit_lt_two_pow (Nat.lt_of_lt_of_le h0 (Nat.pow_le_pow_right (by decide) hi))]; rfl
theorem PartAt.zero {p0 c : Nat} (h : PartAt p0 c 0) (j : Nat) (hj : c ≤ j) : p0.testBit j = false := by
  have := h j
  rw [Nat.zero_testBit, decide_eq_true hj, Bool.and_true] at this
  exact this.symm
theorem PartAt.next {p0 c p k : Nat} (h : PartAt p0 c p) (hk : LowAt p k) : c ≤ k ∧ p0.testBit k = true ∧ (∀ j, c ≤ j → j < k → p0.testBit j = false) ∧ PartAt p0 (k + 1) (p &&& (p - 1)) := by
  have h1 := h k
  rw [hk.1] at h1
  have h2 : p0.testBit k = true ∧ c ≤ k := by
    have := h1.symm
    rw [Bool.and_eq_true, decide_eq_true_eq] at this
    exact this
  refine ⟨h2.2, h2.1, fun j hj1 hj2 => ?_, fun j => ?_⟩
  · have := h j
    rw [hk.2 j hj2, decide_eq_true hj1, Bool.and_true] at this
    exact this.symm
  · rw [hk.clear j, h j]
    by_cases e : k < j
    · rw [decide_eq_true e, decide_eq_true (show c ≤ j by omega), decide_eq_true (show k + 1 ≤ j by omega)]; simp
    · rw [decide_eq_false e, decide_eq_false (show ¬ k + 1 ≤ j by omega)]; simp
theorem and_pred {p : Nat} (hp : p < 18446744073709551616) (h0 : p ≠ 0) : Go.bits .and .u64 (p : Int) (IntKind.u64.wrap ((p : Int) - 1)) = ((p &&& (p - 1) : Nat) : Int) := by
  have e : IntKind.u64.wrap ((p : Int) - 1) = ((p - 1 : Nat) : Int) := by
    rw [show ((p : Int) - 1) = ((p - 1 : Nat) : Int) by omega]
    exact wrapU64 _ (by omega) (by omega)
  rw [e, and_u64 hp (by omega)]
theorem and_pred_lt {p : Nat} (h0 : p ≠ 0) : p &&& (p - 1) < p := by
  have : p &&& (p - 1) ≤ p - 1 := Nat.and_le_right
  omega

set_option maxRecDepth 100000 in
set_option maxHeartbeats 4000000 in
theorem all1_in (n : Nat) (hn : 2 ≤ n) (l Bs n₀ : Nat) (s : Nat × Nat) (hs : NOk s)
    (J Jx : List Int → World → Prop)
    (hY : ∀ pre x W, J pre W → pre.length < 128 → YieldAt Fence.wide (n - 1) Tryd.prog l #[.int .i64 x] W fun e W' =>
      (e = .returned (.bool true) ∧ J (pre ++ [x]) W' ∧ Below n₀ W W') ∨ (e = .returned (.bool false) ∧ Jx (pre ++ [x]) W'))
    (W : World) (hB0 : W.cell? ⟨Bs, 0, none⟩ = some (.int .u64 (s.1 : Int))) (hB1 : W.cell? ⟨Bs, 1, none⟩ = some (.int .u64 (s.2 : Int))) (ht : DTab W) (hn0 : 0 < n₀) (h0 : J [] W) :
    CallsIn Fence.wide n Tryd.prog 72 #[.func (.yield l) #[] #[], .pointer (some ⟨Bs, 0, none⟩)] W fun e W' => (∃ v, e = .returned v) ∧
      ((∃ ys, ys = listN s ∧ J ys W') ∨ (∃ pre, True ∧ Jx pre W')) := by
  refine callsIn_of_wp Tryd.func72 rfl trivial ?_ rfl
  simp only [Tryd.ntmps72, List.size_toArray, List.length_cons, List.length_nil, Nat.reduceAdd, Nat.reduceSub, Array.replicate_succ, Array.replicate_zero, List.push_toArray, List.append_toArray, List.nil_append, List.cons_append]
  have HT := Lib.hid ht
  have HN0 := Lib.hid hn0
  clear ht hn0
  gi_wp2
  gi_loopw [10] (fun v wr => ∃ i : Nat, i ≤ 2 ∧ v = .int .i64 (i : Int) ∧ J (listK s (64 * i)) wr ∧ Below n₀ W wr)
    (fun v _ => 2 - (intOf v).toNat)
  case atStart => exact ⟨0, by omega, rfl, h0, Below.refl _ _⟩
  case round =>
    obtain ⟨i, hi, rfl, hJ, hb⟩ := hrel
    have HJ := Lib.hid hJ
    have HB := Lib.hid hb
    clear hJ hb hB0 hB1
    by_cases hlt : i < 2
    · have hix := index_part s i hlt wr
      obtain ⟨p0, hp0⟩ : ∃ p0, p0 = partN s i := ⟨_, rfl⟩
      have hpl := partN_lt hs i
      rw [← hp0] at hix hpl
      have HP0 := Lib.hid hp0
      have HPL := Lib.hid hpl
      clear hp0 hpl
      have hd : decide ((i : Int) < 2) = true := decide_eq_true (by omega)
      gi_wp2_with fail
      gi_loopw [4] (fun v wx => ∃ (c p : Nat), c ≤ 64 ∧ v = .int .u64 (p : Int) ∧ PartAt p0 c p ∧ J (listK s (64 * i + c)) wx ∧ Below n₀ W wx) (fun v _ => (intOf v).toNat)
      case atStart => exact ⟨0, p0, by omega, rfl, PartAt.start p0, HJ.out, HB.out⟩
      case round =>
        obtain ⟨c, p, hc, rfl, hpt, hJ, hb⟩ := hrel
        have HPT := Lib.hid hpt
        have HJ2 := Lib.hid hJ
        have HB2 := Lib.hid hb
        clear hpt hJ hb hix
        by_cases h0 : p = 0
        · subst h0
          gi_wp2
          go_roundw
          case rel =>
            refine ⟨i + 1, by omega, by go_num, ?_, HB2.out⟩
            have : listK s (64 * (i + 1)) = listK s (64 * i + c) := listK_skip s (by omega) (fun m h1 h2 => by
              obtain ⟨q, rfl⟩ : ∃ q, m = 64 * i + q := ⟨m - 64 * i, by omega⟩
              rw [hasN_part s hlt (by omega), ← HP0.out]
              exact HPT.out.zero q (by omega))
            rw [this]
            exact HJ2.out
          case measure => simp [intOf]; omega
        · have hpl := HPT.out.le HPL.out
          obtain ⟨k, hk64, hk⟩ := low_ex 64 p (by rw [show (2 : Nat) ^ 64 = 18446744073709551616 by decide]; exact hpl) h0
          obtain ⟨hck, hbit, hskip, hnext⟩ := HPT.out.next hk
          have hTW : DTab wr := HT.out.low (HB2.out) HN0.out
          have HTZ := Lib.hid (fun Wx (h : DTab Wx) => tz_any p k Wx hpl hk hk64 h)
          have hl1 : listK s (64 * i + k) = listK s (64 * i + c) := listK_skip s (by omega) (fun m h1 h2 => by
            obtain ⟨q, rfl⟩ : ∃ q, m = 64 * i + q := ⟨m - 64 * i, by omega⟩
            rw [hasN_part s hlt (by omega), ← HP0.out]
            exact hskip q (by omega) (by omega))
          have hl2 : listK s (64 * i + (k + 1)) = listK s (64 * i + k) ++ [64 * (i : Int) + (k : Int)] := by
            rw [show 64 * i + (k + 1) = 64 * i + k + 1 by omega, listK_succ, hasN_part s hlt hk64, ← HP0.out, hbit, if_pos rfl]
            simp
          have hJ3 : J (listK s (64 * i + k)) wr := by rw [hl1]; exact HJ2.out
          obtain ⟨fn, tmps, assign, body, hy, hR⟩ := hY _ (64 * (i : Int) + (k : Int)) wr hJ3 (by have := listK_len s (64 * i + k); omega)
          have HL2 := Lib.hid hl2
          have HNX := Lib.hid hnext
          have HAP := Lib.hid (And.intro (and_pred hpl h0) (and_pred_lt h0))
          have hp0' : ((p : Int) != 0) = true := by simpa using h0
          clear hpl hk hbit hskip hnext hl1 hl2 hJ3 h0
          have hT2 := Lib.hid hTW
          clear hTW
          gi_wp2_with fail
          refine ⟨trivial, fun _ => by omega, ?_⟩
          refine (callsIn_wide.2 (HTZ.out _ hT2.out)).mono ?_
          rintro e W2 ⟨rfl, rfl⟩
          have hHI : (k : Int) < 64 := by omega
          gi_wp2
          refine ⟨fun _ => by omega, ?_⟩
          refine hR.mono ?_
          rintro e W3 (⟨rfl, hJ4, hk3⟩ | ⟨rfl, hJx3⟩)
          · have HJ4 := Lib.hid (show J (listK s (64 * i + (k + 1))) W3 by rw [HL2.out]; exact hJ4)
            have HK3 := Lib.hid hk3
            clear hJ4 hk3
            gi_wp2
            rw [HAP.out.1]
            go_roundw
            case rel => exact ⟨k + 1, p &&& (p - 1), by omega, rfl, HNX.out, HJ4.out, HB2.out.trans HK3.out⟩
            case measure => have := HAP.out.2; simp only [intOf]; omega
          · gi_wp2
            refine bodyPost_ret (results_none rfl _ _ _) rfl ?_
            exact ⟨⟨_, rfl⟩, .inr ⟨_, trivial, hJx3⟩⟩
    · obtain rfl : i = 2 := by omega
      gi_wp2
      go_end0
      exact ⟨⟨_, rfl⟩, .inl ⟨_, rfl, HJ.out⟩⟩
end Go.Proofs.YtfickhncbahekaaDoor
