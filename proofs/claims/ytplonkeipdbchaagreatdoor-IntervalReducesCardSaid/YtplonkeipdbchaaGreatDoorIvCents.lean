/- Package interval: Cents. Conditions: the numbers are ints; the library's table of powers of ten reads as its text lays it. -/
import Derived.Test.YtplonkeipdbchaaGreatDoorIvBounds
import Derived.Test.YtplonkeipdbchaaGreatDoorIvCheck
namespace Go.Proofs.YtplonkeipdbchaaGreatDoor
open Go.RowKit

abbrev s240000 : ByteArray := ⟨#[50, 52, 48, 48, 48, 48]⟩
theorem dec_240000 : dec 240000 = s240000 := by kernel_rfl
theorem dec_two : dec 2 = ⟨#[50]⟩ := by kernel_rfl
/-- The hundredths of a cent, as the code reckons them. -/
def cenZ (x y z D : Int) : Int := (loZ x y z * 240000 + D * lgU) / (D * lgU * 2)
theorem cen_bd {x y z D : Int} (hx : M12 x) (hy : M12 y) (hz : M12 z) (hD : 1 ≤ D ∧ D ≤ 240) :
    (0 < D * lgU ∧ (D * lgU).natAbs < 10 ^ 40) ∧ (loZ x y z * 240000).natAbs < 10 ^ 60 ∧ (loZ x y z * 240000 + D * lgU).natAbs < 10 ^ 61 ∧ (0 < D * lgU * 2 ∧ (D * lgU * 2).natAbs < 10 ^ 41) := by
  have h1 := lo_bd hx hy hz
  have h2 : D * lgU = D * 1000000000000000000000000000000 := rfl
  rw [h2]
  omega
theorem prt_num {S : List (Int × Int)} {l : List Int} {D : Int} (h : prt S = some (l, D)) (hS : Mild S) : (1 ≤ D ∧ D ≤ 240) ∧ ∀ x ∈ l, -6000 ≤ x ∧ x ≤ 6000 := by
  unfold prt at h
  split at h
  · cases h
  · rename_i D' hD
    cases hn : prN S D' with
    | none => rw [hn] at h; cases h
    | some t =>
      rw [hn] at h
      cases h
      constructor
      · clear hn
        have key : ∀ (L : List (Int × Int)) (x : Int), Mild L → (1 ≤ x ∧ x ≤ 240) → prD L x = some D → 1 ≤ D ∧ D ≤ 240 := by
          intro L
          induction L with
          | nil => intro x _ hx he; cases he; exact hx
          | cons p r ih =>
            intro x hm hx he
            obtain ⟨n, d⟩ := p
            unfold prD at he
            split at he
            · cases he
            · split at he
              · cases he
              · rename_i h1 h2
                have hd := (hm (n, d) List.mem_cons_self).1
                have hb := lcmA_bd hx (d := d) ⟨hd.1, by omega⟩
                exact ih _ (fun q hq => hm q (List.mem_cons_of_mem _ hq)) ⟨hb.2.2.1, by omega⟩ he
        exact key S 1 hS ⟨by decide, by decide⟩ hD
      · clear hD hS
        induction S generalizing l with
        | nil => cases hn; intro x hx; cases hx
        | cons p r ih =>
          obtain ⟨n, d⟩ := p
          unfold prN at hn
          split at hn
          · cases hn
          · rename_i hb
            cases hr : prN r D with
            | none => rw [hr] at hn; cases hn
            | some t =>
              rw [hr] at hn
              cases hn
              intro x hx
              rcases List.mem_cons.1 hx with rfl | hx
              · omega
              · exact ih hr x hx
theorem cen_small {x y z D : Int} (hx : -6000 ≤ x ∧ x ≤ 6000) (hy : -6000 ≤ y ∧ y ≤ 6000) (hz : -6000 ≤ z ∧ z ≤ 6000) (hD : 1 ≤ D ∧ D ≤ 240) : (cenZ x y z D).natAbs < 10 ^ 18 := by
  have h2 : D * lgU = D * 1000000000000000000000000000000 := rfl
  have h3 : lgZ x y z = x * 1000000000000000000000000000000 + (y * 1584962500721156181453738943947 + (z * 2321928094887362347870319429489 + 0)) := rfl
  have hlo : -100000000000000000000000000000000000 ≤ loZ x y z ∧ loZ x y z ≤ 100000000000000000000000000000000000 := by
    unfold loZ
    rw [h3]
    split <;> split <;> omega
  obtain ⟨hl1, hl2⟩ := hlo
  have hpos : 0 < D * lgU * 2 := by rw [h2]; omega
  unfold cenZ
  have h4 : -100000000000000000 ≤ (loZ x y z * 240000 + D * lgU) / (D * lgU * 2) := by
    rw [Int.le_ediv_iff_mul_le hpos, h2]
    omega
  have h5 : (loZ x y z * 240000 + D * lgU) / (D * lgU * 2) < 100000000000000000 := by
    rw [Int.ediv_lt_iff_lt_mul hpos, h2]
    omega
  omega

/-- The box of a size. -/
def CeMem (w : World) (n0 d0 n1 d1 n2 d2 : Int) (W : World) : Prop :=
  Blk W w.heap.size 25 [.int .i64 n0, .int .i64 d0, .int .i64 n1, .int .i64 d1, .int .i64 n2, .int .i64 d2] ∧ Tab W ∧ Below w.heap.size w W
theorem CeMem.below {w W W' : World} {n0 d0 n1 d1 n2 d2 : Int} (h : CeMem w n0 d0 n1 d1 n2 d2 W) (hb : Below W.heap.size W W') : CeMem w n0 d0 n1 d1 n2 d2 W' := ⟨h.1.below hb h.1.lt, h.2.1.below hb, h.2.2.trans (hb.mono h.2.2.size)⟩
theorem ivE_cases {S : List (Int × Int)} (h : ivE S = 0) : (∀ q ∈ S, Right q.1 q.2) ∧ prt S ≠ none := by
  unfold ivE at h
  split at h
  · rename_i h1
    split at h
    · omega
    · rename_i h2; exact ⟨h1, h2⟩
  · omega

set_option maxRecDepth 100000 in
set_option maxHeartbeats 8000000 in
theorem icents_err (n0 d0 n1 d1 n2 d2 : Int) (w : World) (hn0 : I64 n0) (hd0 : I64 d0) (hn1 : I64 n1) (hd1 : I64 d1) (hn2 : I64 n2) (hd2 : I64 d2) (h : ivE [(n0, d0), (n1, d1), (n2, d2)] ≠ 0) :
    Calls Tryz.prog 8 #[.agg #[.int .i64 n0, .int .i64 d0, .int .i64 n1, .int .i64 d1, .int .i64 n2, .int .i64 d2]] w fun e w' => e = .returned (.tuple #[.int .i64 0, .int .i64 (ivE [(n0, d0), (n1, d1), (n2, d2)])]) ∧ Below w.heap.size w w' := by
  have hc := fun W => icheck_any n0 d0 n1 d1 n2 d2 W hn0 hd0 hn1 hd1 hn2 hd2
  obtain ⟨r, hr⟩ : ∃ r, r = ivE [(n0, d0), (n1, d1), (n2, d2)] := ⟨_, rfl⟩
  rw [← hr] at hc h ⊢
  have HC := Lib.hid hc
  have hz1 : (r == 0) = false := by simpa using h
  have hz2 : (r != 0) = true := by simpa using h
  clear hc hr h hn0 hd0 hn1 hd1 hn2 hd2
  go_enter Tryz.func8, Tryz.ntmps8
  go_wp2_with fail
  refine (HC.out _).mono ?_
  rintro e w1 ⟨rfl, hb⟩
  have HB := Lib.hid ((bw_new (Below.refl w.heap.size w) _).trans (hb.mono (by simp)))
  clear hb
  go_wp2
  go_ret2
  exact ⟨rfl, HB.out⟩

set_option maxRecDepth 100000 in
set_option maxHeartbeats 8000000 in
theorem icents_any (n0 d0 n1 d1 n2 d2 x y z D : Int) (w : World) (ht : Tab w) (hn0 : I64 n0) (hd0 : I64 d0) (hn1 : I64 n1) (hd1 : I64 d1) (hn2 : I64 n2) (hd2 : I64 d2) (h : ivE [(n0, d0), (n1, d1), (n2, d2)] = 0) (hpr : prt [(n0, d0), (n1, d1), (n2, d2)] = some ([x, y, z], D)) :
    Calls Tryz.prog 8 #[.agg #[.int .i64 n0, .int .i64 d0, .int .i64 n1, .int .i64 d1, .int .i64 n2, .int .i64 d2]] w fun e w' => e = .returned (.tuple #[.int .i64 (cenZ x y z D), .int .i64 0]) ∧ Below w.heap.size w w' := by
  have hc := fun W => icheck_any n0 d0 n1 d1 n2 d2 W hn0 hd0 hn1 hd1 hn2 hd2
  rw [h] at hc
  obtain ⟨hright, _⟩ := ivE_cases h
  have hp := fun W => parts_any n0 d0 n1 d1 n2 d2 W (right_mild hright)
  unfold PaRet at hp
  rw [hpr] at hp
  obtain ⟨hD, hl⟩ := prt_num hpr (right_mild hright)
  have hx := hl x (by simp)
  have hy := hl y (by simp)
  have hz := hl z (by simp)
  have mx : M12 x := ⟨by omega, by omega⟩
  have my : M12 y := ⟨by omega, by omega⟩
  have mz : M12 z := ⟨by omega, by omega⟩
  have mD : M12 D := ⟨by omega, by omega⟩
  obtain ⟨⟨b1, b2⟩, b3, b4, b5, b6⟩ := cen_bd mx my mz hD
  have hsm := cen_small hx hy hz hD
  have hlo := lo_bd mx my mz
  have hbn := fun W hW => bounds_any x y z W hW mx my mz
  have hof := fun W hW => of12 D W hW mD
  have hmu := fun W hW => mul_unit D W hW mD
  have h41 : (41 : Nat) ≤ 90000 := by decide
  have hm24 : ∀ W, Tab W → Calls Tryz.prog 27 #[.string (dec (loZ x y z)), .string s240000] W fun e W' => e = .returned (.string (dec (loZ x y z * 240000))) ∧ Below W.heap.size W W' := fun W hW => by
    rw [← dec_240000]
    exact mul_any _ _ W hW (Nat.le_trans (nDigits_pow (k := 46) (by decide) hlo) (by decide)) (Nat.le_trans (nDigits_pow (k := 6) (by decide) (by decide)) (by decide))
  have had : ∀ W, Tab W → Calls Tryz.prog 29 #[.string (dec (loZ x y z * 240000)), .string (dec (D * lgU))] W fun e W' => e = .returned (.string (dec (loZ x y z * 240000 + D * lgU))) ∧ Below W.heap.size W W' := fun W hW =>
    add_any _ _ W hW (Nat.le_trans (nDigits_pow (k := 60) (by decide) b3) (by decide)) (Nat.le_trans (nDigits_pow (k := 40) (by decide) b2) (by decide))
  have hm2 : ∀ W, Tab W → Calls Tryz.prog 27 #[.string (dec (D * lgU)), .string ⟨#[50]⟩] W fun e W' => e = .returned (.string (dec (D * lgU * 2))) ∧ Below W.heap.size W W' := fun W hW => by
    rw [← dec_two]
    exact mul_any _ _ W hW (Nat.le_trans (nDigits_pow (k := 40) (by decide) b2) (by decide)) (Nat.le_trans (nDigits_pow (k := 1) (by decide) (by decide)) (by decide))
  have hdm : ∀ W, Tab W → Calls Tryz.prog 30 #[.string (dec (loZ x y z * 240000 + D * lgU)), .string (dec (D * lgU * 2))] W fun e W' => e = .returned (.tuple #[.string (dec (cenZ x y z D)), .string (dec ((loZ x y z * 240000 + D * lgU) % (D * lgU * 2))), .int .i64 0]) ∧ Below W.heap.size W W' := fun W hW =>
    divmod_pos _ _ W hW (Nat.le_trans (nDigits_pow (k := 61) (by decide) b4) (by decide)) (Nat.le_trans (nDigits_pow (k := 41) (by decide) b6) (by decide)) b5
  have hsl := fun W => small_yes (cenZ x y z D) W (nDigits_pow (by decide) hsm)
  obtain ⟨lo, hlo'⟩ : ∃ a, a = dec (loZ x y z) := ⟨_, rfl⟩
  obtain ⟨hi, hhi'⟩ : ∃ a, a = dec (hiZ x y z) := ⟨_, rfl⟩
  obtain ⟨dd, hdd⟩ : ∃ a, a = dec (D * lgU) := ⟨_, rfl⟩
  obtain ⟨t1, ht1⟩ : ∃ a, a = dec (loZ x y z * 240000) := ⟨_, rfl⟩
  obtain ⟨t2, ht2⟩ : ∃ a, a = dec (loZ x y z * 240000 + D * lgU) := ⟨_, rfl⟩
  obtain ⟨t3, ht3⟩ : ∃ a, a = dec (D * lgU * 2) := ⟨_, rfl⟩
  obtain ⟨t4, ht4⟩ : ∃ a, a = dec ((loZ x y z * 240000 + D * lgU) % (D * lgU * 2)) := ⟨_, rfl⟩
  obtain ⟨c, hcc⟩ : ∃ c, c = cenZ x y z D := ⟨_, rfl⟩
  obtain ⟨t5, ht5⟩ : ∃ a, a = dec c := ⟨_, rfl⟩
  obtain ⟨t6, ht6⟩ : ∃ a, a = dec D := ⟨_, rfl⟩
  rw [← hlo', ← hhi'] at hbn
  rw [← ht6] at hof
  simp only [← ht6, ← hdd] at hmu
  simp only [← hlo', ← ht1] at hm24
  simp only [← ht1, ← hdd, ← ht2] at had
  simp only [← hdd, ← ht3] at hm2
  simp only [← ht2, ← ht3, ← ht4, ← hcc, ← ht5] at hdm
  simp only [← hcc, ← ht5] at hsl
  rw [← hcc]
  have HC := Lib.hid hc
  have HP := Lib.hid hp
  have HBN := Lib.hid hbn
  have HOF := Lib.hid hof
  have HMU := Lib.hid hmu
  have HM24 := Lib.hid hm24
  have HAD := Lib.hid had
  have HM2 := Lib.hid hm2
  have HDM := Lib.hid hdm
  have HSL := Lib.hid hsl
  have hM0 : CeMem w n0 d0 n1 d1 n2 d2 (w.alloc (.cells #[.int .i64 n0, .int .i64 d0, .int .i64 n1, .int .i64 d1, .int .i64 n2, .int .i64 d2] 25)) := ⟨heap_alloc_new w _, ht.below (bw_new (Below.refl _ _) _), bw_new (Below.refl _ _) _⟩
  have HM0 := Lib.hid hM0
  clear hc hp hbn hof hmu hm24 had hm2 hdm hsl hlo' hhi' hdd ht1 ht2 ht3 ht4 hcc ht5 ht6 hn0 hd0 hn1 hd1 hn2 hd2 h hpr hright hl hx hy hz mx my mz mD b1 b2 b3 b4 b5 b6 hsm hlo hM0 ht h41 hD
  go_enter Tryz.func8, Tryz.ntmps8
  go_wp2_with fail
  refine (HC.out _).mono ?_
  rintro e w1 ⟨rfl, hb⟩
  have HM1 := Lib.hid (HM0.out.below hb)
  obtain ⟨c0, c1, c2, c3, c4, c5⟩ := six_of HM1.out.1
  clear hb
  go_wp2_with fail
  refine (HP.out _).mono ?_
  rintro e w2 ⟨rfl, hb⟩
  have HM2' := Lib.hid ((HM1.out.below hb).below (bw_new (Below.refl _ _) (.cells #[.int .i64 x, .int .i64 y, .int .i64 z] 26)))
  clear hb c0 c1 c2 c3 c4 c5
  go_wp2_with fail
  refine (HBN.out _ HM2'.out.2.1).mono ?_
  rintro e w3 ⟨rfl, hb⟩
  have HM3 := Lib.hid (HM2'.out.below hb)
  clear hb
  go_wp2_with fail
  refine (HOF.out _ HM3.out.2.1).mono ?_
  rintro e w4 ⟨rfl, hb⟩
  have HM4 := Lib.hid (HM3.out.below hb)
  clear hb
  go_wp2_with fail
  refine (HMU.out _ HM4.out.2.1).mono ?_
  rintro e w5 ⟨rfl, hb⟩
  have HM5 := Lib.hid (HM4.out.below hb)
  clear hb
  go_wp2_with fail
  refine (HM24.out _ HM5.out.2.1).mono ?_
  rintro e w6 ⟨rfl, hb⟩
  have HM6 := Lib.hid (HM5.out.below hb)
  clear hb
  go_wp2_with fail
  refine (HAD.out _ HM6.out.2.1).mono ?_
  rintro e w7 ⟨rfl, hb⟩
  have HM7 := Lib.hid (HM6.out.below hb)
  clear hb
  go_wp2_with fail
  refine (HM2.out _ HM7.out.2.1).mono ?_
  rintro e w8 ⟨rfl, hb⟩
  have HM8 := Lib.hid (HM7.out.below hb)
  clear hb
  go_wp2_with fail
  refine (HDM.out _ HM8.out.2.1).mono ?_
  rintro e w9 ⟨rfl, hb⟩
  have HM9 := Lib.hid (HM8.out.below hb)
  clear hb
  go_wp2_with fail
  refine (HSL.out _).mono ?_
  rintro e w10 ⟨rfl, hb⟩
  have HM10 := Lib.hid (HM9.out.below hb)
  clear hb
  go_wp2
  go_ret2
  exact ⟨rfl, HM10.out.2.2⟩
end Go.Proofs.YtplonkeipdbchaaGreatDoor
