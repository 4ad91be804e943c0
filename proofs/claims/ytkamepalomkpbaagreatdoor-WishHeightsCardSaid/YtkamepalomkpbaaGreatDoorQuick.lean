/- integer.quick at decimal texts: an int where the digits are few, else nothing. Conditions: at most 18 digits are asked for. -/
import Derived.Test.YtkamepalomkpbaaGreatDoorInt
namespace Go.Proofs.YtkamepalomkpbaaGreatDoor
open Go.RowKit

set_option maxRecDepth 100000 in
theorem quick_no (z : Int) (k : Int) (w : World) (h : k < (Lib.nDigits z.natAbs : Int)) (_hz : Lib.nDigits z.natAbs ≤ 1000000000) :
    Calls Tryz.prog 70 #[.string (dec z), .int .i64 k] w fun e w' => e = .returned (.tuple #[.int .i64 0, .bool false]) ∧ w = w' := by
  have hs := absS_size z
  obtain ⟨s, hsz⟩ : ∃ s, s = absS z := ⟨_, rfl⟩
  rw [← hsz] at hs
  rw [← hs] at h _hz
  have HS := Lib.hid hsz
  clear hs hsz
  go_enter Tryz.func70, Tryz.ntmps70
  go_wp2_with fail
  refine (cut_dec z _).mono ?_
  rintro e w' ⟨rfl, rfl⟩
  rw [← HS.out]
  go_wp2
  go_ret2
  exact ⟨rfl, rfl⟩

set_option maxRecDepth 100000 in
set_option maxHeartbeats 1000000 in
theorem quick_yes (z : Int) (k : Int) (w : World) (h : (Lib.nDigits z.natAbs : Int) ≤ k) (hk : k ≤ 18) :
    Calls Tryz.prog 70 #[.string (dec z), .int .i64 k] w fun e w' => e = .returned (.tuple #[.int .i64 z, .bool true]) ∧ Below w.heap.size w w' := by
  obtain ⟨s, hsz⟩ : ∃ s, s = absS z := ⟨_, rfl⟩
  obtain ⟨C, hC⟩ : ∃ C, C = s.data.toList := ⟨_, rfl⟩
  obtain ⟨N, hN⟩ : ∃ N, N = s.size := ⟨_, rfl⟩
  have hdC : Digs C := by rw [hC, hsz, absS_list]; exact digs_dec _
  have hvC : dval C = z.natAbs := by rw [hC, hsz, absS_list, dval_dec]
  have hNC : N = C.length := by rw [hN, hC, Array.length_toList]; rfl
  have hNk : (N : Int) ≤ k := by rw [hN, hsz, absS_size]; exact h
  have hN18 : N ≤ 18 := by omega
  have HS := Lib.hid hsz
  have HC := Lib.hid hC
  have HN := Lib.hid hN
  have HNC := Lib.hid hNC
  have HV := Lib.hid hvC
  have hcv := fun (w : World) (s : ByteArray) => run_bytes_of_string (P := Tryz.prog) w 9 70 5 s Tryz.underlying9 Tryz.underlying70 Tryz.underlying5
  clear h hsz hC hN hvC hNC
  have hbnd : ∀ j, dval (C.take j) < 1000000000000000000 := fun j => by
    have h1 := dval_lt _ (hdC.take j)
    have h2 : (10 : Nat) ^ (C.take j).length ≤ 10 ^ 18 := Nat.pow_le_pow_right (by decide) (by rw [List.length_take]; have := HNC.out; omega)
    omega
  have HBND := Lib.hid hbnd
  clear hbnd
  obtain ⟨m, hm⟩ : ∃ m, m = decide (z < 0) := ⟨_, rfl⟩
  have hcut : ∀ W, Calls Tryz.prog 72 #[.string (dec z), .string ⟨#[45]⟩] W fun e w' => e = .returned (.tuple #[.string s, .bool m]) ∧ W = w' := fun W => by
    have := cut_dec z W
    rw [← HS.out, ← hm] at this
    exact this
  have hfin : (if m then -(dval C : Int) else (dval C : Int)) = z := by
    rw [HV.out, hm]
    by_cases h : z < 0
    · simp only [h, decide_true, if_true]; omega
    · simp only [h, decide_false, Bool.false_eq_true, if_false]; omega
  have HCUT := Lib.hid hcut
  have HFIN := Lib.hid hfin
  clear hm hcut hfin
  go_enter Tryz.func70, Tryz.ntmps70
  go_wp2_with fail
  refine (HCUT.out _).mono ?_
  rintro e w' ⟨rfl, rfl⟩
  have hNs : (s.size : Int) ≤ k := by rw [← HN.out]; exact hNk
  go_wp2
  generalize grownCap w s.size 0 5 = cap
  obtain ⟨w2, hw2⟩ : ∃ w2, w2 = (w.alloc (Obj.cells (bytesRow s cap) 5 ((bytesRow s cap).size, (bytesRow s cap).size + 1))).drew := ⟨_, rfl⟩
  rw [← hw2, ← HN.out]
  have hrd : Rd (fun c : UInt8 => .int .u8 (c.toNat : Int)) w2 (w.heap.size + 1) (some ⟨w.heap.size, 0, none⟩) C := by rw [hw2, HC.out]; exact conv_rd w s cap _ _
  have hB2 : Below w.heap.size w w2 := by rw [hw2]; exact ((Below.refl _ _).alloc (Nat.le_refl _) _).drew
  have HB := Lib.hid hB2
  clear hw2 hB2 hcv hNs
  go_loop [8, 23] (fun v i => ∃ j : Nat, j ≤ N ∧ i = .int .i64 j ∧ v = .int .i64 (dval (C.take j) : Int)) (fun _ i => N - (intOf i).toNat)
  case atStart => exact ⟨0, Nat.zero_le _, rfl, by simp [dval]⟩
  case round =>
    obtain ⟨j, hj, rfl, rfl⟩ := hrel
    by_cases hlt : j < N
    · have hjC : j < C.length := by have := HNC.out; omega
      obtain ⟨c, hc⟩ : ∃ c, c = C[j] := ⟨_, rfl⟩
      obtain ⟨q, hq⟩ : ∃ q, q = dval (C.take j) := ⟨_, rfl⟩
      have hq1 : q < 100000000000000000 := by
        rw [hq]
        have h1 := dval_lt _ (hdC.take j)
        have h2 : (10 : Nat) ^ (C.take j).length ≤ 10 ^ 17 := Nat.pow_le_pow_right (by decide) (by rw [List.length_take]; omega)
        omega
      obtain ⟨b, off, hA, _, hcell⟩ := hrd.at_ (by omega)
      have hcc : w2.cell? ⟨w.heap.size, j, none⟩ = some (.int .u8 (c.toNat : Int)) := by
        have h1 := hcell j hjC
        injection hA with hA; injection hA with h2 h3 _
        rw [← h2, ← h3, Nat.zero_add] at h1
        rw [h1, hc]
      have hc0 : 48 ≤ c.toNat := by rw [hc]; exact (hdC.get j hjC).1
      have hc1 : c.toNat ≤ 57 := by rw [hc]; exact (hdC.get j hjC).2
      have HD := Lib.hid (dval_take_succ C j hjC)
      rw [← hq, ← hc] at HD
      rw [← hq]
      have HQ := Lib.hid hq
      have HCC := Lib.hid hc
      clear hq hc hcell hA
      go_wp2
      go_round
      case rel => exact ⟨j + 1, by omega, by go_num, by rw [HD.out]; congr 1; omega⟩
      case measure => simp [intOf]; omega
    · obtain rfl : j = N := by omega
      rw [show C.take j = C from List.take_of_length_le (by have := HNC.out; omega)]
      have hv := HBND.out j
      rw [show C.take j = C from List.take_of_length_le (by have := HNC.out; omega)] at hv
      obtain ⟨q, hq⟩ : ∃ q, q = dval C := ⟨_, rfl⟩
      rw [← hq] at hv ⊢
      have HQ := Lib.hid hq
      clear hq
      cases m with
      | false =>
        go_wp2
        go_ret2
        refine ⟨?_, HB.out⟩
        rw [← HFIN.out, ← HQ.out]
        rfl
      | true =>
        go_wp2
        go_ret2
        refine ⟨?_, HB.out⟩
        rw [← HFIN.out, ← HQ.out]
        rfl

end Go.Proofs.YtkamepalomkpbaaGreatDoor
