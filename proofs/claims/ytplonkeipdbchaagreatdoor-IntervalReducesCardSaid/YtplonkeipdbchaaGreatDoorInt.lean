/- Package integer: Of, quick, split, signed, Sign, Compare, Mul and Power at decimal texts. Conditions: the integers have at most a million digits (Power: its own bounds); the library's table of powers of ten reads as its text lays it. integer.quick at decimal texts: an int where the digits are few, else nothing. Conditions: at most 18 digits are asked for. -/
import Derived.Test.YtplonkeipdbchaaGreatDoorText
import Derived.Test.YtplonkeipdbchaaGreatDoorLong
import Derived.Test.YtplonkeipdbchaaGreatDoorDec
namespace Go.Proofs.YtplonkeipdbchaaGreatDoor
section
open Go.RowKit

theorem cut_dec (z : Int) (w : World) : Calls Tryz.prog 79 #[.string (dec z), .string ⟨#[45]⟩] w fun e w' => e = .returned (.tuple #[.string (absS z), .bool (decide (z < 0))]) ∧ w = w' :=
  (Tryz.strings_CutPrefix (dec z) ⟨#[45]⟩ w).mono fun e w' ⟨he, hw⟩ => ⟨by
    rw [he]
    have e1 : (⟨#[45]⟩ : ByteArray).data.toList = [45] := rfl
    rw [e1, dec_trimPrefix, dec_hasPrefix], hw.symm⟩

theorem of_any (n : Int) (h0 : -9223372036854775808 ≤ n) (h1 : n ≤ 9223372036854775807) (w : World) (ht : Tab w) :
    Calls Tryz.prog 28 #[.int .i64 n] w fun e w' => e = .returned (.string (dec n)) ∧ Below w.heap.size w w' := by
  go_enter Tryz.func28, Tryz.ntmps28
  go_wp2_with (go_at_call 57; refine (itoa_any n h0 h1 _ ht).mono ?_; rintro e w' ⟨rfl, hb⟩)
  go_ret
  exact ⟨rfl, hb⟩

/-- A call returns the magnitude of z and whether z is negative. -/
def RetSplit (z : Int) (w : World) (e : Ending) (w' : World) : Prop :=
  ∃ A cap, e = .returned (.tuple #[.slice A (limbs z.natAbs).length cap, .bool (decide (z < 0))]) ∧ Rd u64v w' w'.heap.size A (limbs z.natAbs) ∧ (limbs z.natAbs).length ≤ cap ∧ Below w.heap.size w w'

set_option maxRecDepth 100000 in
theorem split_any (z : Int) (w : World) (hz : Lib.nDigits z.natAbs ≤ 1000000) :
    Calls Tryz.prog 54 #[.string (dec z)] w (RetSplit z w) := by
  have hdv : dval (absS z).data.toList = z.natAbs := by rw [absS_list, dval_dec]
  have hdg : Digs (absS z).data.toList := by rw [absS_list]; exact digs_dec _
  have hsz : (absS z).size ≤ 1000000 := by rw [absS_size]; exact hz
  have hlong := fun w => long_any (absS z) w hdg hsz
  rw [hdv] at hlong
  have HL := Lib.hid hlong
  clear hdv hdg hsz hlong
  go_enter Tryz.func54, Tryz.ntmps54
  go_wp2_with fail
  refine (cut_dec z _).mono ?_
  rintro e w' ⟨rfl, rfl⟩
  go_wp2_with fail
  refine (HL.out _).mono ?_
  rintro e w' ⟨A, cap, rfl, hr, hc, hb⟩
  have HR := Lib.hid hr
  have HC := Lib.hid hc
  have HB := Lib.hid hb
  clear hr hc hb
  go_wp2
  go_ret2
  exact ⟨A, cap, rfl, HR.out, HC.out, HB.out⟩

theorem neg_text (p : Nat) (hp : p ≠ 0) : (⟨#[45]⟩ : ByteArray) ++ dec (p : Int) = dec (-(p : Int)) := by
  apply ByteArray.ext
  rw [ByteArray.data_append]
  unfold dec; rw [Lib.itoa_neg p (by omega), Lib.itoa_nonneg]
  simp
theorem dec_size (p : Nat) (hp : p ≠ 0) : (dec (p : Int)).size ≤ 9 * (limbs p).length := by
  rw [dec_nat, absS_size]
  have h0 := limbs_len_pos hp
  refine nDigits_le _ _ (by omega) ?_
  rw [pow9]
  exact limbs_len_lt p
set_option maxRecDepth 100000 in
theorem signed_any (p : Nat) (m : Bool) (A : Option Addr) (cap : Nat) (w : World) (ht : Tab w) (hr : Rd u64v w w.heap.size A (limbs p)) (hl : (limbs p).length ≤ 1000000) :
    Calls Tryz.prog 55 #[.slice A (limbs p).length cap, .bool m] w fun e w' => e = .returned (.string (dec (if m then -(p : Int) else p))) ∧ Below w.heap.size w w' := by
  have HT := fun W => text_any p A cap W
  obtain ⟨n, hn⟩ : ∃ n, n = (limbs p).length := ⟨_, rfl⟩
  have hds := fun h => dec_size p h
  rw [← hn] at HT hl hds
  rw [← hn]
  have hnp : n = 0 ↔ p = 0 := by rw [hn, List.length_eq_zero_iff, limbs_eq_nil]
  have htx := HT w ht hr hl
  have HTX := Lib.hid htx
  have HNP := Lib.hid hnp
  have hn1 : n ≤ 1000000 := by omega
  have HDS := Lib.hid hds
  clear HT htx hnp hn hl hds
  cases m with
  | false =>
    go_enter Tryz.func55, Tryz.ntmps55
    go_wp2_with fail
    refine HTX.out.mono ?_
    rintro e w' ⟨rfl, hb⟩
    go_wp2
    go_ret
    exact ⟨rfl, hb⟩
  | true =>
    by_cases hn0 : n = 0
    · subst hn0
      have hp : p = 0 := HNP.out.1 rfl
      subst hp
      go_enter Tryz.func55, Tryz.ntmps55
      go_wp2_with fail
      refine HTX.out.mono ?_
      rintro e w' ⟨rfl, hb⟩
      go_wp2
      go_ret
      exact ⟨rfl, hb⟩
    · have hn2 : 0 < n := by omega
      have hp : p ≠ 0 := fun h => hn0 (HNP.out.2 h)
      have hds : (dec (p : Int)).size ≤ 9000000 := by have := HDS.out hp; omega
      go_enter Tryz.func55, Tryz.ntmps55
      go_wp2_with fail
      refine HTX.out.mono ?_
      rintro e w' ⟨rfl, hb⟩
      go_wp2
      go_ret
      rw [← neg_text p hp]
      exact ⟨rfl, hb⟩
end

section
open Go.RowKit

set_option maxRecDepth 100000 in
theorem quick_no (z : Int) (k : Int) (w : World) (h : k < (Lib.nDigits z.natAbs : Int)) (_hz : Lib.nDigits z.natAbs ≤ 1000000000) :
    Calls Tryz.prog 53 #[.string (dec z), .int .i64 k] w fun e w' => e = .returned (.tuple #[.int .i64 0, .bool false]) ∧ w = w' := by
  have hs := absS_size z
  obtain ⟨s, hsz⟩ : ∃ s, s = absS z := ⟨_, rfl⟩
  rw [← hsz] at hs
  rw [← hs] at h _hz
  have HS := Lib.hid hsz
  clear hs hsz
  go_enter Tryz.func53, Tryz.ntmps53
  go_wp2_with fail
  refine (cut_dec z _).mono ?_
  rintro e w' ⟨rfl, rfl⟩
  rw [← HS.out]
  go_wp2
  go_ret2
  exact ⟨rfl, rfl⟩

set_option maxRecDepth 100000 in
set_option maxHeartbeats 1000000 in
theorem quick_yes (z : Int) (k : Int) (w : World) (h : (Lib.nDigits z.natAbs : Int) ≤ k) (hk : k ≤ 18) :
    Calls Tryz.prog 53 #[.string (dec z), .int .i64 k] w fun e w' => e = .returned (.tuple #[.int .i64 z, .bool true]) ∧ Below w.heap.size w w' := by
  obtain ⟨s, hsz⟩ : ∃ s, s = absS z := ⟨_, rfl⟩
  obtain ⟨C, hC⟩ : ∃ C, C = s.data.toList := ⟨_, rfl⟩
  obtain ⟨N, hN⟩ : ∃ N, N = s.size := ⟨_, rfl⟩
  have hdC : Digs C := by rw [hC, hsz, absS_list]; exact digs_dec _
  have hvC : dval C = z.natAbs := by rw [hC, hsz, absS_list, dval_dec]
  have hNC : N = C.length := by rw [hN, hC, Array.length_toList]; rfl
  have hNk : (N : Int) ≤ k := by rw [hN, hsz, absS_size]; exact h
  have hN18 : N ≤ 18 := by omega
  have HS := Lib.hid hsz
  have HC := Lib.hid hC
  have HN := Lib.hid hN
  have HNC := Lib.hid hNC
  have HV := Lib.hid hvC
  have hcv := fun (w : World) (s : ByteArray) => run_bytes_of_string (P := Tryz.prog) w 9 123 5 s Tryz.underlying9 Tryz.underlying123 Tryz.underlying5
  clear h hsz hC hN hvC hNC
  have hbnd : ∀ j, dval (C.take j) < 1000000000000000000 := fun j => by
    have h1 := dval_lt _ (hdC.take j)
    have h2 : (10 : Nat) ^ (C.take j).length ≤ 10 ^ 18 := Nat.pow_le_pow_right (by decide) (by rw [List.length_take]; have := HNC.out; omega)
    omega
  have HBND := Lib.hid hbnd
  clear hbnd
  obtain ⟨m, hm⟩ : ∃ m, m = decide (z < 0) := ⟨_, rfl⟩
  have hcut : ∀ W, Calls Tryz.prog 79 #[.string (dec z), .string ⟨#[45]⟩] W fun e w' => e = .returned (.tuple #[.string s, .bool m]) ∧ W = w' := fun W => by
    have := cut_dec z W
    rw [← HS.out, ← hm] at this
    exact this
  have hfin : (if m then -(dval C : Int) else (dval C : Int)) = z := by
    rw [HV.out, hm]
    by_cases h : z < 0
    · simp only [h, decide_true, if_true]; omega
    · simp only [h, decide_false, Bool.false_eq_true, if_false]; omega
  have HCUT := Lib.hid hcut
  have HFIN := Lib.hid hfin
  clear hm hcut hfin
  go_enter Tryz.func53, Tryz.ntmps53
  go_wp2_with fail
  refine (HCUT.out _).mono ?_
  rintro e w' ⟨rfl, rfl⟩
  have hNs : (s.size : Int) ≤ k := by rw [← HN.out]; exact hNk
  go_wp2
  generalize grownCap w s.size 0 5 = cap
  obtain ⟨w2, hw2⟩ : ∃ w2, w2 = (w.alloc (Obj.cells (bytesRow s cap) 5 ((bytesRow s cap).size, (bytesRow s cap).size + 1))).drew := ⟨_, rfl⟩
  rw [← hw2, ← HN.out]
  have hrd : Rd (fun c : UInt8 => .int .u8 (c.toNat : Int)) w2 (w.heap.size + 1) (some ⟨w.heap.size, 0, none⟩) C := by rw [hw2, HC.out]; exact conv_rd w s cap _ _
  have hB2 : Below w.heap.size w w2 := by rw [hw2]; exact ((Below.refl _ _).alloc (Nat.le_refl _) _).drew
  have HB := Lib.hid hB2
  clear hw2 hB2 hcv hNs
  go_loop [8, 23] (fun v i => ∃ j : Nat, j ≤ N ∧ i = .int .i64 j ∧ v = .int .i64 (dval (C.take j) : Int)) (fun _ i => N - (intOf i).toNat)
  case atStart => exact ⟨0, Nat.zero_le _, rfl, by simp [dval]⟩
  case round =>
    obtain ⟨j, hj, rfl, rfl⟩ := hrel
    by_cases hlt : j < N
    · have hjC : j < C.length := by have := HNC.out; omega
      obtain ⟨c, hc⟩ : ∃ c, c = C[j] := ⟨_, rfl⟩
      obtain ⟨q, hq⟩ : ∃ q, q = dval (C.take j) := ⟨_, rfl⟩
      have hq1 : q < 100000000000000000 := by
        rw [hq]
        have h1 := dval_lt _ (hdC.take j)
        have h2 : (10 : Nat) ^ (C.take j).length ≤ 10 ^ 17 := Nat.pow_le_pow_right (by decide) (by rw [List.length_take]; omega)
        omega
      obtain ⟨b, off, hA, _, hcell⟩ := hrd.at_ (by omega)
      have hcc : w2.cell? ⟨w.heap.size, j, none⟩ = some (.int .u8 (c.toNat : Int)) := by
        have h1 := hcell j hjC
        injection hA with hA; injection hA with h2 h3 _
        rw [← h2, ← h3, Nat.zero_add] at h1
        rw [h1, hc]
      have hc0 : 48 ≤ c.toNat := by rw [hc]; exact (hdC.get j hjC).1
      have hc1 : c.toNat ≤ 57 := by rw [hc]; exact (hdC.get j hjC).2
      have HD := Lib.hid (dval_take_succ C j hjC)
      rw [← hq, ← hc] at HD
      rw [← hq]
      have HQ := Lib.hid hq
      have HCC := Lib.hid hc
      clear hq hc hcell hA
      go_wp2
      go_round
      case rel => exact ⟨j + 1, by omega, by go_num, by rw [HD.out]; congr 1; omega⟩
      case measure => simp [intOf]; omega
    · obtain rfl : j = N := by omega
      rw [show C.take j = C from List.take_of_length_le (by have := HNC.out; omega)]
      have hv := HBND.out j
      rw [show C.take j = C from List.take_of_length_le (by have := HNC.out; omega)] at hv
      obtain ⟨q, hq⟩ : ∃ q, q = dval C := ⟨_, rfl⟩
      rw [← hq] at hv ⊢
      have HQ := Lib.hid hq
      clear hq
      cases m with
      | false =>
        go_wp2
        go_ret2
        refine ⟨?_, HB.out⟩
        rw [← HFIN.out, ← HQ.out]
        rfl
      | true =>
        go_wp2
        go_ret2
        refine ⟨?_, HB.out⟩
        rw [← HFIN.out, ← HQ.out]
        rfl
end
end Go.Proofs.YtplonkeipdbchaaGreatDoor
