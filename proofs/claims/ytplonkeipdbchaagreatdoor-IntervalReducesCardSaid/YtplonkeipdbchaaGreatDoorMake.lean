/- Package fraction: Make. Conditions: the parts are ints. -/
import Derived.Test.YtplonkeipdbchaaGreatDoorFrac2
namespace Go.Proofs.YtplonkeipdbchaaGreatDoor
open Go.RowKit

/-- What Make returns: numerator, denominator, error. -/
def fMake (num den : Int) : Int × Int × Int :=
  if den = 0 then (0, 0, 17)
  else if 1000000 < num.natAbs / Nat.gcd num.natAbs den.natAbs ∨ 1000000 < den.natAbs / Nat.gcd num.natAbs den.natAbs then (0, 0, 4)
  else (if decide (num < 0) = decide (den < 0) then ((num.natAbs / Nat.gcd num.natAbs den.natAbs : Nat) : Int) else -((num.natAbs / Nat.gcd num.natAbs den.natAbs : Nat) : Int), ((den.natAbs / Nat.gcd num.natAbs den.natAbs : Nat) : Int), 0)

/-- A fraction and an error. -/
def fRet (r : Int × Int × Int) : Value := .tuple #[.agg #[.int .i64 r.1, .int .i64 r.2.1], .int .i64 r.2.2]

set_option maxRecDepth 100000 in
set_option maxHeartbeats 2000000 in
theorem make_any (num den : Int) (w : World) (hn : I64 num) (hd : I64 den) :
    Calls Tryz.prog 95 #[.int .i64 num, .int .i64 den] w fun e w' => e = .returned (fRet (fMake num den)) ∧ Below w.heap.size w w' := by
  obtain ⟨hn0, hn1⟩ := hn
  obtain ⟨hd0, hd1⟩ := hd
  by_cases h0 : den = 0
  · have hf : fMake num den = (0, 0, 17) := by unfold fMake; rw [if_pos h0]
    rw [hf]
    have h0' : (den == 0) = true := by simpa using h0
    clear hf h0
    go_enter Tryz.func95, Tryz.ntmps95
    go_wp2
    refine bodyPost_ret (v := .tuple #[.agg #[.int .i64 0, .int .i64 0], .int .i64 17]) (by simp [results, Tryz.results95, go_sem]) rfl ⟨rfl, ?_⟩
    exact (Below.refl _ _).alloc (Nat.le_refl _) _
  · have h0' : (den == 0) = false := by simpa using h0
    obtain ⟨n, hn⟩ : ∃ n, n = num.natAbs := ⟨_, rfl⟩
    obtain ⟨m, hm⟩ : ∃ m, m = den.natAbs := ⟨_, rfl⟩
    obtain ⟨g, hg⟩ : ∃ g, g = Nat.gcd n m := ⟨_, rfl⟩
    have hmn := fun W => magnitude_any num W hn0 hn1
    have hmd := fun W => magnitude_any den W hd0 hd1
    have hgc := fun W => gcd_any n m W (by omega) (by omega)
    rw [← hn] at hmn
    rw [← hm] at hmd
    rw [← hg] at hgc
    have hg0 : 0 < g := by rw [hg]; exact Nat.gcd_pos_of_pos_right _ (by omega)
    have hgz : ((g : Int) == 0) = false := by rw [beq_eq_false_iff_ne]; omega
    have hnb : n ≤ 9223372036854775808 := by omega
    have hmb : m ≤ 9223372036854775808 := by omega
    obtain ⟨x, hx⟩ : ∃ x, x = n / g := ⟨_, rfl⟩
    obtain ⟨y, hy⟩ : ∃ y, y = m / g := ⟨_, rfl⟩
    have hxi : (n : Int) / (g : Int) = (x : Int) := by rw [hx]; simp
    have hyi : (m : Int) / (g : Int) = (y : Int) := by rw [hy]; simp
    have hxn : x ≤ n := by rw [hx]; exact Nat.div_le_self _ _
    have hym : y ≤ m := by rw [hy]; exact Nat.div_le_self _ _
    have hwx : IntKind.u64.wrap ((n : Int) / (g : Int)) = (x : Int) := by rw [hxi, IntKind.wrap_u64]; omega
    have hwy : IntKind.u64.wrap ((m : Int) / (g : Int)) = (y : Int) := by rw [hyi, IntKind.wrap_u64]; omega
    have HWX := Lib.hid hwx
    have HWY := Lib.hid hwy
    have hf : fMake num den = (if 1000000 < x ∨ 1000000 < y then (0, 0, 4) else (if decide (num < 0) = decide (den < 0) then (x : Int) else -(x : Int), (y : Int), 0)) := by
      unfold fMake; rw [if_neg h0, ← hn, ← hm, ← hg, ← hx, ← hy]
    have HMN := Lib.hid hmn
    have HMD := Lib.hid hmd
    have HGC := Lib.hid hgc
    have HF := Lib.hid hf
    clear hmn hmd hgc hf hxi hyi hwx hwy hx hy hg hn hm h0
    go_enter Tryz.func95, Tryz.ntmps95
    go_wp2_with fail
    refine (HMN.out _).mono ?_
    rintro e w1 ⟨rfl, rfl⟩
    go_wp2_with fail
    refine (HMD.out _).mono ?_
    rintro e w1 ⟨rfl, rfl⟩
    go_wp2_with fail
    refine (HGC.out _).mono ?_
    rintro e w1 ⟨rfl, k, rfl⟩
    go_wp2_with fail
    have hwx := HWX.out
    have hwy := HWY.out
    go_quiet (fail)
    clear hwx hwy
    by_cases h1 : 1000000 < x
    · have hf : fMake num den = (0, 0, 4) := by rw [HF.out, if_pos (Or.inl h1)]
      have HF2 := Lib.hid hf
      clear hf
      go_wp2_with fail
      refine bodyPost_ret (v := fRet (0, 0, 4)) (by simp [results, Tryz.results95, go_sem, fRet]) rfl ⟨by rw [HF2.out], ?_⟩
      (repeat (first | exact Below.refl _ _ | refine bw_new ?_ _ | refine bw_set ?_ (by first | omega | simp) _ | refine bw_drewN ?_ _))
    · by_cases h2 : 1000000 < y
      · have hf : fMake num den = (0, 0, 4) := by rw [HF.out, if_pos (Or.inr h2)]
        have HF2 := Lib.hid hf
        clear hf
        go_wp2_with fail
        refine bodyPost_ret (v := fRet (0, 0, 4)) (by simp [results, Tryz.results95, go_sem, fRet]) rfl ⟨by rw [HF2.out], ?_⟩
        (repeat (first | exact Below.refl _ _ | refine bw_new ?_ _ | refine bw_set ?_ (by first | omega | simp) _ | refine bw_drewN ?_ _))
      · by_cases h3 : num < 0
        · by_cases h4 : den < 0
          · have hf : fMake num den = ((x : Int), (y : Int), 0) := by rw [HF.out, if_neg (by omega), decide_eq_true h3, decide_eq_true h4, if_pos rfl]
            have HF2 := Lib.hid hf
            clear hf
            go_wp2_with fail
            refine bodyPost_ret (v := fRet ((x : Int), (y : Int), 0)) (by simp [results, Tryz.results95, go_sem, fRet]) rfl ⟨by rw [HF2.out], ?_⟩
            (repeat (first | exact Below.refl _ _ | refine bw_new ?_ _ | refine bw_set ?_ (by first | omega | simp) _ | refine bw_drewN ?_ _))
          · have hf : fMake num den = (-(x : Int), (y : Int), 0) := by rw [HF.out, if_neg (by omega), decide_eq_true h3, decide_eq_false h4, if_neg (by decide)]
            have HF2 := Lib.hid hf
            clear hf
            go_wp2_with fail
            refine bodyPost_ret (v := fRet (-(x : Int), (y : Int), 0)) (by simp [results, Tryz.results95, go_sem, fRet]) rfl ⟨by rw [HF2.out], ?_⟩
            (repeat (first | exact Below.refl _ _ | refine bw_new ?_ _ | refine bw_set ?_ (by first | omega | simp) _ | refine bw_drewN ?_ _))
        · by_cases h4 : den < 0
          · have hf : fMake num den = (-(x : Int), (y : Int), 0) := by rw [HF.out, if_neg (by omega), decide_eq_false h3, decide_eq_true h4, if_neg (by decide)]
            have HF2 := Lib.hid hf
            clear hf
            go_wp2_with fail
            refine bodyPost_ret (v := fRet (-(x : Int), (y : Int), 0)) (by simp [results, Tryz.results95, go_sem, fRet]) rfl ⟨by rw [HF2.out], ?_⟩
            (repeat (first | exact Below.refl _ _ | refine bw_new ?_ _ | refine bw_set ?_ (by first | omega | simp) _ | refine bw_drewN ?_ _))
          · have hf : fMake num den = ((x : Int), (y : Int), 0) := by rw [HF.out, if_neg (by omega), decide_eq_false h3, decide_eq_false h4, if_pos rfl]
            have HF2 := Lib.hid hf
            clear hf
            go_wp2_with fail
            refine bodyPost_ret (v := fRet ((x : Int), (y : Int), 0)) (by simp [results, Tryz.results95, go_sem, fRet]) rfl ⟨by rw [HF2.out], ?_⟩
            (repeat (first | exact Below.refl _ _ | refine bw_new ?_ _ | refine bw_set ?_ (by first | omega | simp) _ | refine bw_drewN ?_ _))

end Go.Proofs.YtplonkeipdbchaaGreatDoor
