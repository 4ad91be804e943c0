/- Package noteset and its reference: CheckCompass, Right, Has (of the reference), Range. Conditions: the words of a set are of 64 bits. -/
import Derived.Test.YtfickhncbahekaaDoorNsetW
import Derived.Test.YtfickhncbahekaaDoorRegE
namespace Go.Proofs.YtfickhncbahekaaDoor
open Go.RowKit

/-- The error of a compass. -/
def cpE (lo hi : Int) : Int := if lo < 0 ∨ 127 < hi then 3 else if hi < lo then 23 else 0
theorem cpE_cases (lo hi : Int) : (lo < 0 ∧ cpE lo hi = 3) ∨ (0 ≤ lo ∧ 127 < hi ∧ cpE lo hi = 3) ∨ (0 ≤ lo ∧ hi ≤ 127 ∧ hi < lo ∧ cpE lo hi = 23) ∨ (0 ≤ lo ∧ hi ≤ 127 ∧ lo ≤ hi ∧ cpE lo hi = 0) := by
  unfold cpE
  by_cases h1 : lo < 0
  · exact .inl ⟨h1, if_pos (.inl h1)⟩
  · by_cases h2 : 127 < hi
    · exact .inr (.inl ⟨by omega, h2, if_pos (.inr h2)⟩)
    · rw [if_neg (by omega)]
      by_cases h3 : hi < lo
      · exact .inr (.inr (.inl ⟨by omega, by omega, h3, if_pos h3⟩))
      · exact .inr (.inr (.inr ⟨by omega, by omega, by omega, if_neg h3⟩))
set_option maxRecDepth 100000 in
set_option maxHeartbeats 1000000 in
theorem ccompass_any (lo hi : Int) (w : World) :
    Calls Tryd.prog 68 #[.agg #[.int .i64 lo, .int .i64 hi]] w fun e w' => e = .returned (.int .i64 (cpE lo hi)) ∧ Below w.heap.size w w' := by
  rcases cpE_cases lo hi with ⟨h1, k⟩ | ⟨h1, h2, k⟩ | ⟨h1, h2, h3, k⟩ | ⟨h1, h2, h3, k⟩
  all_goals
    have HK := Lib.hid k
    clear k
    go_enter Tryd.func68, Tryd.ntmps68
    go_wp2
    go_ret
    exact ⟨by rw [HK.out]; rfl, bw_new (Below.refl _ _) _⟩
set_option maxRecDepth 100000 in
set_option maxHeartbeats 1000000 in
theorem refRight_any (lo hi : Int) (w : World) :
    Calls Tryd.prog 54 #[.agg #[.int .i64 lo, .int .i64 hi]] w fun e w' => e = .returned (.int .i64 (cpE lo hi)) ∧ Below w.heap.size w w' := by
  rcases cpE_cases lo hi with ⟨h1, k⟩ | ⟨h1, h2, k⟩ | ⟨h1, h2, h3, k⟩ | ⟨h1, h2, h3, k⟩
  all_goals
    have HK := Lib.hid k
    clear k
    go_enter Tryd.func54, Tryd.ntmps54
    go_wp2
    go_ret
    exact ⟨by rw [HK.out]; rfl, bw_new (Below.refl _ _) _⟩
theorem shr_and {a n : Nat} (ha : a < 18446744073709551616) : (Go.bits .and .u64 ((a : Int) / 2 ^ n) 1 == 1) = a.testBit n := by
  have e : ((a : Int) / 2 ^ n) = ((a / 2 ^ n : Nat) : Int) := by
    rw [Int.natCast_ediv, Int.natCast_pow]; rfl
  have hl : a / 2 ^ n < 18446744073709551616 := Nat.lt_of_le_of_lt (Nat.div_le_self _ _) ha
  rw [e, show (1 : Int) = ((1 : Nat) : Int) from rfl, and_u64 hl (by decide), Nat.testBit_eq_decide_div_mod_eq, Nat.and_one_is_mod]
  rw [Bool.eq_iff_iff, beq_iff_eq, decide_eq_true_eq]
  omega
set_option maxRecDepth 100000 in
set_option maxHeartbeats 1000000 in
theorem refHas_any (s : Nat × Nat) (n : Int) (w : World) (hs : NOk s) :
    Calls Tryd.prog 25 #[nv s, .int .i64 n] w fun e w' => e = .returned (.bool (hasZ s n)) ∧ Below w.heap.size w w' := by
  obtain ⟨a, b⟩ := s
  unfold NOk at hs
  unfold nv
  dsimp only at hs ⊢
  obtain ⟨ha, hb⟩ := hs
  by_cases h0 : 0 ≤ n
  · by_cases h1 : n ≤ 127
    · obtain ⟨k, rfl⟩ := Int.eq_ofNat_of_zero_le h0
      by_cases hk : k < 64
      · have HE := Lib.hid (show hasZ (a, b) (k : Int) = (Go.bits .and .u64 ((a : Int) / 2 ^ k) 1 == 1) by
          unfold hasZ nB hasN; rw [decide_eq_true ⟨h0, h1⟩, Int.toNat_natCast, if_pos hk, shr_and ha]; rfl)
        go_enter Tryd.func25, Tryd.ntmps25
        go_wp2
        go_ret
        exact ⟨by rw [HE.out]; rfl, bw_new (Below.refl _ _) _⟩
      · obtain ⟨m, rfl⟩ : ∃ m, k = m + 64 := ⟨k - 64, by omega⟩
        have HE := Lib.hid (show hasZ (a, b) ((m + 64 : Nat) : Int) = (Go.bits .and .u64 ((b : Int) / 2 ^ m) 1 == 1) by
          unfold hasZ nB hasN; rw [decide_eq_true ⟨h0, h1⟩, Int.toNat_natCast, if_neg hk, shr_and hb]; simp)
        go_enter Tryd.func25, Tryd.ntmps25
        go_wp2
        go_ret
        exact ⟨by rw [HE.out]; rfl, bw_new (Below.refl _ _) _⟩
    · have HE := Lib.hid (show hasZ (a, b) n = false by unfold hasZ nB; rw [decide_eq_false (fun k => h1 k.2)]; rfl)
      go_enter Tryd.func25, Tryd.ntmps25
      go_wp2
      go_ret
      exact ⟨by rw [HE.out]; rfl, bw_new (Below.refl _ _) _⟩
  · have HE := Lib.hid (show hasZ (a, b) n = false by unfold hasZ nB; rw [decide_eq_false (fun k => h0 k.1)]; rfl)
    go_enter Tryd.func25, Tryd.ntmps25
    go_wp2
    go_ret
    exact ⟨by rw [HE.out]; rfl, bw_new (Below.refl _ _) _⟩

/-- The notes of some k ones from lo on. -/
def rangeN (lo : Nat) : Nat → Nat × Nat
  | 0 => (0, 0)
  | k + 1 => withN (rangeN lo k) (lo + k)
theorem rangeN_ok (lo : Nat) : ∀ k, lo + k ≤ 128 → NOk (rangeN lo k)
  | 0, _ => by show NOk (0, 0); exact ⟨by decide, by decide⟩
  | k + 1, h => withN_ok (rangeN_ok lo k (by omega)) (by omega)
theorem hasN_range (lo : Nat) (m : Nat) : ∀ k, hasN (rangeN lo k) m = decide (lo ≤ m ∧ m < lo + k)
  | 0 => by rw [show rangeN lo 0 = (0, 0) from rfl, hasN_zero, decide_eq_false (by omega)]
  | k + 1 => by
    rw [show rangeN lo (k + 1) = withN (rangeN lo k) (lo + k) from rfl, hasN_with, hasN_range lo m k]
    rw [Bool.eq_iff_iff]
    simp only [Bool.or_eq_true, decide_eq_true_eq]
    omega
/-- The notes of a right compass. -/
def rangeZ (lo hi : Int) : Nat × Nat := rangeN lo.toNat (hi - lo + 1).toNat
theorem rangeZ_ok {lo hi : Int} (h0 : 0 ≤ lo) (h1 : hi ≤ 127) (h2 : lo ≤ hi) : NOk (rangeZ lo hi) := rangeN_ok _ _ (by omega)
theorem hasZ_range {lo hi : Int} (h0 : 0 ≤ lo) (h1 : hi ≤ 127) (h2 : lo ≤ hi) (n : Int) : hasZ (rangeZ lo hi) n = decide (lo ≤ n ∧ n ≤ hi) := by
  unfold hasZ rangeZ nB
  rw [hasN_range, Bool.eq_iff_iff]
  simp only [Bool.and_eq_true, decide_eq_true_eq]
  omega
/-- What Range answers. -/
def rngV (lo hi : Int) : Value := if cpE lo hi ≠ 0 then nv (0, 0) else nv (rangeZ lo hi)
/-- A set's cells. -/
def ncs (s : Nat × Nat) : List Value := [.int .u64 (s.1 : Int), .int .u64 (s.2 : Int)]
set_option maxRecDepth 100000 in
set_option maxHeartbeats 2000000 in
theorem range_any (lo hi : Int) (w : World) :
    Calls Tryd.prog 57 #[.agg #[.int .i64 lo, .int .i64 hi]] w fun e w' => e = .returned (.tuple #[rngV lo hi, .int .i64 (cpE lo hi)]) ∧ Below w.heap.size w w' := by
  have HC := Lib.hid (fun W => ccompass_any lo hi W)
  have hm := (((Hp.start w).new 41 [.int .i64 lo, .int .i64 hi]).new 39 (ncs (0, 0))).new 39 (ncs (0, 0))
  simp only [World.size_alloc, List.nil_append, List.cons_append] at hm
  have HM := Lib.hid hm
  obtain ⟨x, hx⟩ : ∃ x, x = cpE lo hi := ⟨_, rfl⟩
  rw [← hx] at HC
  have HX := Lib.hid hx
  clear hm
  by_cases h0 : x = 0
  · subst h0
    have hr : 0 ≤ lo ∧ hi ≤ 127 ∧ lo ≤ hi := by rcases cpE_cases lo hi with ⟨_, k⟩ | ⟨_, _, k⟩ | ⟨_, _, _, k⟩ | ⟨h1, h2, h3, k⟩ <;> first | exact ⟨h1, h2, h3⟩ | (rw [k] at hx; omega)
    clear hx
    obtain ⟨h1, h2, h3⟩ := hr
    obtain ⟨l, rfl⟩ := Int.eq_ofNat_of_zero_le h1
    obtain ⟨g, rfl⟩ := Int.eq_ofNat_of_zero_le (show 0 ≤ hi by omega)
    go_enter Tryd.func57, Tryd.ntmps57
    go_wp2_with fail
    refine (HC.out _).mono ?_
    rintro e w1 ⟨rfl, hb1⟩
    have hm1 := HM.out.step hb1
    have HM1 := Lib.hid hm1
    have c0 : w1.cell? ⟨w.heap.size, 0, none⟩ = some (.int .i64 (l : Int)) := (hm1.at_ 0 rfl).cell 0
    clear hb1 hm1
    go_wp2_with fail
    go_loopw [6] (fun v wx => ∃ k : Nat, k ≤ g - l + 1 ∧ v = .int .i64 ((l + k : Nat) : Int) ∧ Hp w [(w.heap.size, 41, [.int .i64 (l : Int), .int .i64 (g : Int)]), (w.heap.size + 1, 39, ncs (0, 0)), (w.heap.size + 1 + 1, 39, ncs (rangeN l k))] wx) (fun v _ => g + 1 - (intOf v).toNat)
    case atStart => exact ⟨0, by omega, rfl, HM1.out⟩
    case round =>
      obtain ⟨k, hk, rfl, hm⟩ := hrel
      have HMR := Lib.hid hm
      have c1 : wr.cell? ⟨w.heap.size, 1, none⟩ = some (.int .i64 (g : Int)) := (hm.at_ 0 rfl).cell 1
      obtain ⟨s, hs⟩ : ∃ s, s = rangeN l k := ⟨_, rfl⟩
      rw [← hs] at hm
      have z0 : wr.cell? ⟨w.heap.size + 1 + 1, 0, none⟩ = some (.int .u64 (s.1 : Int)) := (hm.at_ 2 rfl).cell 0
      have z1 : wr.cell? ⟨w.heap.size + 1 + 1, 1, none⟩ = some (.int .u64 (s.2 : Int)) := (hm.at_ 2 rfl).cell 1
      by_cases hlt : l + k ≤ g
      · have hok : NOk s := by rw [hs]; exact rangeN_ok l k (by omega)
        have HW := Lib.hid (fun W => with_any s (l + k) W hok (by omega))
        obtain ⟨t, ht⟩ : ∃ t, t = withN s (l + k) := ⟨_, rfl⟩
        have HT := Lib.hid (show rangeN l (k + 1) = t by rw [ht, hs]; rfl)
        rw [← ht] at HW
        rw [← hs] at HMR
        obtain ⟨s1, s2⟩ := s
        obtain ⟨t1, t2⟩ := t
        unfold nv at HW
        dsimp only at HW z0 z1
        clear hs ht hok hm
        go_wp2_with fail
        refine (HW.out _).mono ?_
        rintro e w2 ⟨rfl, hb2⟩
        have hm2 := HMR.out.step hb2
        have y0 : w2.cell? ⟨w.heap.size + 1 + 1, 0, none⟩ = some (.int .u64 (s1 : Int)) := (hm2.at_ 2 rfl).cell 0
        have y1 : w2.cell? ⟨w.heap.size + 1 + 1, 1, none⟩ = some (.int .u64 (s2 : Int)) := (hm2.at_ 2 rfl).cell 1
        have f0 := (hm2.at_ 2 rfl).frozen 0
        have f1 := (hm2.at_ 2 rfl).frozen 1
        have HM3 := Lib.hid (hm2.put2 2 rfl (.int .u64 (t1 : Int)) (.int .u64 (t2 : Int)))
        clear hb2 hm2 z0 z1
        go_wp2
        go_roundw
        case rel => exact ⟨k + 1, by omega, by go_num, by rw [HT.out]; exact HM3.out⟩
        case measure => simp [intOf]; omega
      · have HV := Lib.hid (show rngV (l : Int) (g : Int) = .agg #[.int .u64 (s.1 : Int), .int .u64 (s.2 : Int)] by
          unfold rngV
          rw [if_neg (fun e => e HX.out.symm)]
          unfold rangeZ
          rw [show ((l : Int)).toNat = l by simp, show ((g : Int) - l + 1).toNat = k by omega, ← hs]
          rfl)
        rw [← hs] at HMR
        have d0 : wr.cell? ⟨w.heap.size + 1, 0, none⟩ = some (.int .u64 0) := (hm.at_ 1 rfl).cell 0
        have d1 : wr.cell? ⟨w.heap.size + 1, 1, none⟩ = some (.int .u64 0) := (hm.at_ 1 rfl).cell 1
        have f0 := (hm.at_ 1 rfl).frozen 0
        have f1 := (hm.at_ 1 rfl).frozen 1
        obtain ⟨s1, s2⟩ := s
        dsimp only at z0 z1
        clear hs hm
        go_wp2
        refine bodyPost_ret (v := .tuple #[.agg #[.int .u64 (s1 : Int), .int .u64 (s2 : Int)], .int .i64 0]) (by simp [results, Tryd.results57, go_sem, d0, d1]) rfl ⟨by rw [HV.out, ← HX.out], ?_⟩
        exact (HMR.out.put2 1 rfl (.int .u64 (s1 : Int)) (.int .u64 (s2 : Int))).below
  · have hz : (x != 0) = true := by simpa using h0
    have HV := Lib.hid (show rngV lo hi = .agg #[.int .u64 0, .int .u64 0] by unfold rngV; rw [if_pos (by rw [← hx]; exact h0)]; rfl)
    clear hx h0
    go_enter Tryd.func57, Tryd.ntmps57
    go_wp2_with fail
    refine (HC.out _).mono ?_
    rintro e w1 ⟨rfl, hb1⟩
    have hm1 := HM.out.step hb1
    have HM1 := Lib.hid hm1
    have d0 : w1.cell? ⟨w.heap.size + 1, 0, none⟩ = some (.int .u64 0) := (hm1.at_ 1 rfl).cell 0
    have d1 : w1.cell? ⟨w.heap.size + 1, 1, none⟩ = some (.int .u64 0) := (hm1.at_ 1 rfl).cell 1
    have e0 : w1.cell? ⟨w.heap.size + 1 + 1, 0, none⟩ = some (.int .u64 0) := (hm1.at_ 2 rfl).cell 0
    have e1 : w1.cell? ⟨w.heap.size + 1 + 1, 1, none⟩ = some (.int .u64 0) := (hm1.at_ 2 rfl).cell 1
    have f0 := (hm1.at_ 1 rfl).frozen 0
    have f1 := (hm1.at_ 1 rfl).frozen 1
    clear hb1 hm1
    go_wp2
    refine bodyPost_ret (v := .tuple #[.agg #[.int .u64 0, .int .u64 0], .int .i64 x]) (by simp [results, Tryd.results57, go_sem, d0, d1]) rfl ⟨by rw [HV.out, ← HX.out], ?_⟩
    exact (HM1.out.put2 1 rfl (.int .u64 0) (.int .u64 0)).below
end Go.Proofs.YtfickhncbahekaaDoor
