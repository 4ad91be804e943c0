/- Package bombardelaw13: f, check, odd and known. Conditions: the ints are at most 2 to the 62 (f); the library's table of powers of ten reads as its text lays it. -/
import Derived.Test.YtiokjnfhopdleaaGreatDoorClass
import Derived.Test.YtiokjnfhopdleaaGreatDoorRef05
namespace Go.Proofs.YtiokjnfhopdleaaGreatDoor
open Go.RowKit

set_option maxRecDepth 100000 in
theorem lf_any (n d : Int) (w : World) (hn0 : -4611686018427387904 ≤ n) (hn1 : n ≤ 4611686018427387904) (hd0 : 0 < d) (hd1 : d ≤ 4611686018427387904) :
    Calls Tryz.prog 10 #[.int .i64 n, .int .i64 d] w fun e w' => e = .returned (.agg #[.int .i64 (lowN n d), .int .i64 (lowD n d)]) ∧ Below w.heap.size w w' := by
  have h := fun W => lowest_any n d W hn0 hn1 hd0 hd1
  obtain ⟨x, hx⟩ : ∃ x, x = lowN n d := ⟨_, rfl⟩
  obtain ⟨y, hy⟩ : ∃ y, y = lowD n d := ⟨_, rfl⟩
  rw [← hx, ← hy] at h ⊢
  have H := Lib.hid h
  clear h hx hy
  go_enter Tryz.func10, Tryz.ntmps10
  go_wp2_with fail
  refine (H.out _).mono ?_
  rintro e w1 ⟨rfl, hb⟩
  obtain ⟨hc, hf⟩ := bcell hb
  have hz := hb.size
  simp at hz
  have HB := Lib.hid ((bw_new (Below.refl _ w) _).trans (hb.mono (by simp)))
  have c0 : w1.cell? ⟨w.heap.size, 0, none⟩ = some (.int .i64 0) := by rw [hc _ _ (by simp), World.cell?_alloc_new]; rfl
  have c1 : w1.cell? ⟨w.heap.size, 1, none⟩ = some (.int .i64 0) := by rw [hc _ _ (by simp), World.cell?_alloc_new]; rfl
  have f0 : w1.frozen? ⟨w.heap.size, 0, none⟩ = false := by rw [hf _ _ (by simp)]; exact World.frozen?_alloc_new _ _ _ _
  have f1 : w1.frozen? ⟨w.heap.size, 1, none⟩ = false := by rw [hf _ _ (by simp)]; exact World.frozen?_alloc_new _ _ _ _
  clear hb hc hf
  go_wp2
  refine bodyPost_ret (v := .agg #[.int .i64 x, .int .i64 y]) (by simp [results, Tryz.results10, go_sem, c0, c1]) rfl ⟨rfl, ?_⟩
  exact bw_set (bw_set HB.out (Nat.le_refl _) _) (Nat.le_refl _) _

set_option maxRecDepth 100000 in
set_option maxHeartbeats 1000000 in
theorem lcheck_any (n d : Int) (w : World) :
    Calls Tryz.prog 7 #[.agg #[.int .i64 n, .int .i64 d]] w fun e w' => e = .returned (.int .i64 (pErr n d)) ∧ Below w.heap.size w w' := by
  have hc := fun W => rightFraction_any n d W
  by_cases hr : Right n d
  · have hd0 := hr.1
    have hd1 := hr.2.1
    have hn0 := hr.2.2.1
    have hn1 := hr.2.2.2.1
    rw [rightB_ok hr] at hc
    have HC := Lib.hid hc
    by_cases h1 : n ≤ 0
    · have HE := Lib.hid (show pErr n d = 3 by unfold pErr; rw [if_neg (fun k => k hr), if_pos (Or.inl h1)])
      clear hc hr
      go_enter Tryz.func7, Tryz.ntmps7
      go_wp2_with fail
      refine (HC.out _).mono ?_
      rintro e w1 ⟨rfl, hb⟩
      obtain ⟨hc1, hf1⟩ := bcell hb
      go_wp2
      go_ret
      exact ⟨ret_int HE.out.symm, (bw_new (Below.refl _ w) _).trans (hb.mono (by simp))⟩
    · by_cases h2 : 128 * d < n
      · have HE := Lib.hid (show pErr n d = 3 by unfold pErr; rw [if_neg (fun k => k hr), if_pos (Or.inr h2)])
        clear hc hr
        go_enter Tryz.func7, Tryz.ntmps7
        go_wp2_with fail
        refine (HC.out _).mono ?_
        rintro e w1 ⟨rfl, hb⟩
        obtain ⟨hc1, hf1⟩ := bcell hb
        go_wp2
        go_ret
        exact ⟨ret_int HE.out.symm, (bw_new (Below.refl _ w) _).trans (hb.mono (by simp))⟩
      · by_cases h3 : 128 < d
        · have HE := Lib.hid (show pErr n d = 4 by unfold pErr; rw [if_neg (fun k => k hr), if_neg (by omega), if_pos h3])
          clear hc hr
          go_enter Tryz.func7, Tryz.ntmps7
          go_wp2_with fail
          refine (HC.out _).mono ?_
          rintro e w1 ⟨rfl, hb⟩
          obtain ⟨hc1, hf1⟩ := bcell hb
          go_wp2
          go_ret
          exact ⟨ret_int HE.out.symm, (bw_new (Below.refl _ w) _).trans (hb.mono (by simp))⟩
        · have HE := Lib.hid (show pErr n d = 0 by unfold pErr; rw [if_neg (fun k => k hr), if_neg (by omega), if_neg h3])
          clear hc hr
          go_enter Tryz.func7, Tryz.ntmps7
          go_wp2_with fail
          refine (HC.out _).mono ?_
          rintro e w1 ⟨rfl, hb⟩
          obtain ⟨hc1, hf1⟩ := bcell hb
          go_wp2
          go_ret
          exact ⟨ret_int HE.out.symm, (bw_new (Below.refl _ w) _).trans (hb.mono (by simp))⟩
  · rw [rightB_no hr] at hc
    have HC := Lib.hid hc
    have HE := Lib.hid (show pErr n d = 2 by unfold pErr; rw [if_pos hr])
    clear hc hr
    go_enter Tryz.func7, Tryz.ntmps7
    go_wp2_with fail
    refine (HC.out _).mono ?_
    rintro e w1 ⟨rfl, hb⟩
    go_wp2
    go_ret
    exact ⟨ret_int HE.out.symm, (bw_new (Below.refl _ w) _).trans (hb.mono (by simp))⟩

set_option maxRecDepth 100000 in
theorem lodd_any (n : Nat) (w : World) (h0 : 0 < n) (h1 : n ≤ 4611686018427387904) :
    Calls Tryz.prog 14 #[.int .i64 n] w fun e w' => e = .returned (.int .i64 (oddOf n : Int)) ∧ w = w' := by
  go_enter Tryz.func14, Tryz.ntmps14
  go_wp2
  go_loop [0] (fun v => ∃ x : Nat, 0 < x ∧ x ≤ 4611686018427387904 ∧ v = .int .i64 x ∧ oddOf x = oddOf n) (fun v => (intOf v).toNat)
  case atStart => exact ⟨n, h0, h1, rfl, rfl⟩
  case round =>
    obtain ⟨x, hx0, hx1, rfl, ho⟩ := hrel
    have HO := Lib.hid ho
    clear ho
    by_cases hp : x % 2 = 0
    · have ht : ((x : Int) % 2 == 0) = true := by rw [beq_iff_eq]; omega
      have HE := Lib.hid (oddOf_even (by omega) hp)
      clear hp
      go_wp2
      go_round
      case rel => exact ⟨x / 2, by have := (beq_iff_eq.1 ht); omega, by omega, by simp, by rw [← HO.out, HE.out]⟩
      case measure => simp [intOf]; omega
    · have ht : ((x : Int) % 2 == 0) = false := by rw [beq_eq_false_iff_ne]; omega
      have HE := Lib.hid (oddOf_odd (n := x) (by omega))
      clear hp
      go_wp2
      go_ret
      exact ⟨ret_int (by rw [← HO.out, HE.out]), rfl⟩

theorem right_dec (n d : Int) (h : 0 < d ∧ d ≤ 1000000 ∧ -1000000 ≤ n ∧ n ≤ 1000000 ∧ Nat.gcd n.natAbs d.natAbs = 1) : Right n d := h
theorem is19 : IsShift (8 * 3) (1 * 8) 19 := .mk 19 0 (by decide) (by decide) (by decide)
theorem isM12 : IsShift (8 * 1) (1 * 16) (-12) := .mk 0 12 (by decide) (by decide) (by decide)
theorem f_ct (n d : Nat) (a b : Nat) (w : World) (hd : 0 < d) (hn1 : n ≤ 1000000) (hd1 : d ≤ 1000000) (ha : lowN n d = a) (hb : lowD n d = b) :
    Calls Tryz.prog 10 #[.int .i64 n, .int .i64 d] w fun e w' => e = .returned (.agg #[.int .i64 a, .int .i64 b]) ∧ Below w.heap.size w w' := by
  have := lf_any n d w (by omega) (by omega) (by omega) (by omega)
  rwa [ha, hb] at this

set_option maxRecDepth 100000 in
set_option maxHeartbeats 1000000 in
theorem known_any (w : World) (ht : Tab w) :
    Calls Tryz.prog 6 #[] w fun e w' => e = .returned (.bool true) ∧ Below w.heap.size w w' := by
  have f83 := fun W => f_ct 8 3 8 3 W (by decide) (by decide) (by decide) (by decide) (by decide)
  have f81 := fun W => f_ct 8 1 8 1 W (by decide) (by decide) (by decide) (by decide) (by decide)
  have f161 := fun W => f_ct 16 1 16 1 W (by decide) (by decide) (by decide) (by decide) (by decide)
  have f85 := fun W => f_ct 8 5 8 5 W (by decide) (by decide) (by decide) (by decide) (by decide)
  have p83 : PR (8 : Nat) (3 : Nat) := ⟨by decide, by decide, by decide, by decide⟩
  have p81 : PR (8 : Nat) (1 : Nat) := ⟨by decide, by decide, by decide, by decide⟩
  have p161 : PR (16 : Nat) (1 : Nat) := ⟨by decide, by decide, by decide, by decide⟩
  have p85 : PR (8 : Nat) (5 : Nat) := ⟨by decide, by decide, by decide, by decide⟩
  have s1 : ∀ W, Tab W → Calls Tryz.prog 11 #[.agg #[.int .i64 8, .int .i64 3], .agg #[.int .i64 8, .int .i64 1]] W fun e W' => e = .returned (.tuple #[.int .i64 19, .int .i64 0]) ∧ Below W.heap.size W W' := fun W hW =>
    (pshift_ok 8 3 8 1 W hW p83 p81).mono fun e W' ⟨s, hs, _, _, he, hb⟩ => ⟨by rw [he, hs.unique is19], hb⟩
  have s2 : ∀ W, Tab W → Calls Tryz.prog 11 #[.agg #[.int .i64 16, .int .i64 1], .agg #[.int .i64 8, .int .i64 1]] W fun e W' => e = .returned (.tuple #[.int .i64 (-12), .int .i64 0]) ∧ Below W.heap.size W W' := fun W hW =>
    (pshift_ok 16 1 8 1 W hW p161 p81).mono fun e W' ⟨s, hs, _, _, he, hb⟩ => ⟨by rw [he, hs.unique isM12], hb⟩
  have o8 : oddOf 8 = 1 := by rw [oddOf_even (by decide) (by decide), oddOf_even (by decide) (by decide), oddOf_even (by decide) (by decide), oddOf_odd (by decide)]
  have o5 : oddOf 5 = 5 := oddOf_odd (by decide)
  have hcl : cls 8 5 = sTierce := by unfold cls; rw [o8, o5]; rfl
  have s3 : ∀ W, Calls Tryz.prog 21 #[.agg #[.int .i64 8, .int .i64 5]] W fun e W' => e = .returned (.tuple #[.string sTierce, .int .i64 0]) ∧ Below W.heap.size W W' := fun W => by
    have := class_ok 8 5 W p85
    rwa [hcl] at this
  have hst : (sTierce.toList == [116, 105, 101, 114, 99, 101]) = true := by rw [bytes_ne]; rfl
  have F83 := Lib.hid f83
  have F81 := Lib.hid f81
  have F161 := Lib.hid f161
  have F85 := Lib.hid f85
  have S1 := Lib.hid s1
  have S2 := Lib.hid s2
  have S3 := Lib.hid s3
  clear f83 f81 f161 f85 p83 p81 p161 p85 s1 s2 s3 o8 o5 hcl
  go_enter Tryz.func6, Tryz.ntmps6
  go_wp2_with fail
  refine (F83.out _).mono ?_
  rintro e w1 ⟨rfl, hb1⟩
  go_wp2_with fail
  refine (F81.out _).mono ?_
  rintro e w2 ⟨rfl, hb2⟩
  have hb := hb1.trans (hb2.mono hb1.size)
  clear hb1 hb2
  go_wp2_with fail
  refine (S1.out _ (ht.below hb)).mono ?_
  rintro e w3 ⟨rfl, hb3⟩
  have hb := hb.trans (hb3.mono hb.size)
  clear hb3
  go_wp2_with fail
  refine (F161.out _).mono ?_
  rintro e w4 ⟨rfl, hb4⟩
  have hb := hb.trans (hb4.mono hb.size)
  clear hb4
  go_wp2_with fail
  refine (F81.out _).mono ?_
  rintro e w5 ⟨rfl, hb5⟩
  have hb := hb.trans (hb5.mono hb.size)
  clear hb5
  go_wp2_with fail
  refine (S2.out _ (ht.below hb)).mono ?_
  rintro e w6 ⟨rfl, hb6⟩
  have hb := hb.trans (hb6.mono hb.size)
  clear hb6
  go_wp2_with fail
  refine (F85.out _).mono ?_
  rintro e w7 ⟨rfl, hb7⟩
  have hb := hb.trans (hb7.mono hb.size)
  clear hb7
  go_wp2_with fail
  refine (S3.out _).mono ?_
  rintro e w8 ⟨rfl, hb8⟩
  have hb := hb.trans (hb8.mono hb.size)
  clear hb8
  go_wp2
  go_ret
  exact ⟨rfl, hb⟩

end Go.Proofs.YtiokjnfhopdleaaGreatDoor
