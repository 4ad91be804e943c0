/- Part 45 of 46 of the proof of the law: contracts of the functions that it reaches, and plain facts. Conditions: those that each contract names. -/
import Derived.Test.YtlmheeommpbimaaGreatDoorIntB42
import Derived.Test.YtlmheeommpbimaaGreatDoorIntB43
import Derived.Test.YtlmheeommpbimaaGreatDoorIntB44
import Derived.Test.YtlmheeommpbimaaGreatDoorIntB39
import Derived.Test.YtlmheeommpbimaaGreatDoorIntB37
namespace Go.Proofs.YtlmheeommpbimaaGreatDoor
open Go.RowKit
abbrev S3f (N0 N1 N2 E : Int) : List (Int × Int) := [(lowN N0 E, lowD N0 E), (lowN N1 E, lowD N1 E), (lowN N2 E, lowD N2 E)]
open Classical in
noncomputable def ovK (N0 N1 N2 E : Int) : Bool := decide (ivE (S3f N0 N1 N2 E) = 0)
open Classical in
noncomputable def ovU (N0 N1 N2 E : Int) : Int × Int × Int × Int :=
 if ivE (S3f N0 N1 N2 E) = 0 then (match prt (S3f N0 N1 N2 E) with | some ([x, y, z], D) => (x, y, z, D) | _ => (0, 0, 0, 0)) else (0, 0, 0, 0)
theorem ovU_no {N0 N1 N2 E : Int} (h : ivE (S3f N0 N1 N2 E) ≠ 0) : ovU N0 N1 N2 E = (0, 0, 0, 0) := if_neg h
theorem ovU_at {N0 N1 N2 E x y z D : Int} (h : ivE (S3f N0 N1 N2 E) = 0) (hp : prt (S3f N0 N1 N2 E) = some ([x, y, z], D)) : ovU N0 N1 N2 E = (x, y, z, D) := by
 unfold ovU
 rw [if_pos h, hp]
theorem ovU_prt {N0 N1 N2 E : Int} (h : ivE (S3f N0 N1 N2 E) = 0) : prt (S3f N0 N1 N2 E) = some ([(ovU N0 N1 N2 E).1, (ovU N0 N1 N2 E).2.1, (ovU N0 N1 N2 E).2.2.1], (ovU N0 N1 N2 E).2.2.2) := by
 obtain ⟨hr, hn⟩ := ivE_cases h
 rcases hp : prt (S3f N0 N1 N2 E) with _ | ⟨l, D⟩
 ·exact absurd hp hn
 ·obtain ⟨x, y, z, rfl⟩ := prt_three hp
  rw [ovU_at h hp]
theorem lover_tot (N0 N1 N2 E : Int) (w : World) (h0 : -4611686018427387904 ≤ N0 ∧ N0 ≤ 4611686018427387904) (h1 : -4611686018427387904 ≤ N1 ∧ N1 ≤ 4611686018427387904) (h2 : -4611686018427387904 ≤ N2 ∧ N2 ≤ 4611686018427387904) (hE : 0 < E) (hE2 : E ≤ 4611686018427387904) :
  Calls Tryz.prog 18 #[ovv N0 N1 N2 E] w fun e w' => e = .returned (.tuple #[ovn (ovU N0 N1 N2 E), .bool (ovK N0 N1 N2 E)]) ∧ Below w.heap.size w w' := by
 have hall : ∀ {b0 b1 b2 : Bool}, rightB (lowN N0 E) (lowD N0 E) = b0 → rightB (lowN N1 E) (lowD N1 E) = b1 → rightB (lowN N2 E) (lowD N2 E) = b2 → b0 = true → b1 = true → b2 = true → ∀ q ∈ S3f N0 N1 N2 E, Right q.1 q.2 := by
  intro b0 b1 b2 e0 e1 e2 f0 f1 f2 q hq
  simp only [S3f, List.mem_cons, List.not_mem_nil, or_false] at hq
  rcases hq with rfl | rfl | rfl
  ·exact of_decide_eq_true (e0.trans f0)
  ·exact of_decide_eq_true (e1.trans f1)
  ·exact of_decide_eq_true (e2.trans f2)
 refine (lover_all N0 N1 N2 E _ _ _ _ _ _ (ovU N0 N1 N2 E).1 (ovU N0 N1 N2 E).2.1 (ovU N0 N1 N2 E).2.2.1 (ovU N0 N1 N2 E).2.2.2 (ivE (S3f N0 N1 N2 E)) _ _ _ w (fun W => write_any N0 N1 N2 E W h0 h1 h2 hE hE2) rfl rfl rfl (fun f0 f1 f2 W => ?_)).mono ?_
 ·have hr := hall rfl rfl rfl f0 f1 f2
  refine (read_any _ _ _ _ _ _ W).mono ?_
  rintro e w' ⟨he, hb⟩
  refine ⟨he.trans ?_, hb⟩
  rcases hp : prt (S3f N0 N1 N2 E) with _ | ⟨l, D⟩
  ·rw [ovU_no (by rw [ivE_lim hr hp]; decide), rdV_lim hr hp, ivE_lim hr hp]
  ·obtain ⟨x, y, z, rfl⟩ := prt_three hp
   have h0 : ivE (S3f N0 N1 N2 E) = 0 := ivE_ok hr (by rw [hp]; simp)
   rw [ovU_at h0 hp, rdV_ok hr hp, h0]
 ·rintro e w' ⟨he, hb⟩
  refine ⟨he.trans ?_, hb⟩
  have hz : ∀ z : Int, (z == 0) = decide (z = 0) := fun z => rfl
  by_cases hk : (rightB (lowN N0 E) (lowD N0 E) && (rightB (lowN N1 E) (lowD N1 E) && rightB (lowN N2 E) (lowD N2 E))) = true
  ·rw [if_pos hk]
   have e : (ivE (S3f N0 N1 N2 E) == 0) = ovK N0 N1 N2 E := by
    unfold ovK
    by_cases h : ivE (S3f N0 N1 N2 E) = 0
    ·rw [decide_eq_true h, h]; rfl
    ·rw [decide_eq_false h]; simpa using h
   rw [e]
  ·rw [if_neg hk]
   have hne : ivE (S3f N0 N1 N2 E) ≠ 0 := fun h => hk (by
    obtain ⟨hr, _⟩ := ivE_cases h
    rw [rightB_ok (hr (lowN N0 E, lowD N0 E) (by simp)), rightB_ok (hr (lowN N1 E, lowD N1 E) (by simp)), rightB_ok (hr (lowN N2 E, lowD N2 E) (by simp))]
    rfl)
   have hk0 : ovK N0 N1 N2 E = false := by unfold ovK; exact decide_eq_false hne
   rw [ovU_no hne, hk0]
theorem cross_of {u b a D E N : Int} (hb : 0 < b) (h1 : u * b = a * D) (h2 : a * E = N * b) : u * E = N * D := by
 refine Int.eq_of_mul_eq_mul_right (show b ≠ 0 by omega) ?_
 rw [Int.mul_right_comm, h1, Int.mul_right_comm, h2, Int.mul_right_comm]
theorem ovU_ok {N0 N1 N2 E : Int} (hE : 0 < E) (h : ovK N0 N1 N2 E = true) : (1 ≤ (ovU N0 N1 N2 E).2.2.2 ∧ (ovU N0 N1 N2 E).2.2.2 ≤ 240) ∧ Bx (ovU N0 N1 N2 E).1 (ovU N0 N1 N2 E).2.1 (ovU N0 N1 N2 E).2.2.1 ∧
  (ovU N0 N1 N2 E).1 * E = N0 * (ovU N0 N1 N2 E).2.2.2 ∧ (ovU N0 N1 N2 E).2.1 * E = N1 * (ovU N0 N1 N2 E).2.2.2 ∧ (ovU N0 N1 N2 E).2.2.1 * E = N2 * (ovU N0 N1 N2 E).2.2.2 := by
 have h0 : ivE (S3f N0 N1 N2 E) = 0 := by unfold ovK at h; exact of_decide_eq_true h
 have hp := ovU_prt h0
 obtain ⟨hr, _⟩ := ivE_cases h0
 obtain ⟨hD, hl⟩ := prt_num hp (right_mild hr)
 obtain ⟨r0, r1, r2⟩ := prt_rat hr hp
 have l0 := (low_mul N0 E hE)
 exact ⟨hD, ⟨hl _ (by simp), hl _ (by simp), hl _ (by simp)⟩, cross_of (lowD_pos hE) r0 (rd_low hE), cross_of (lowD_pos hE) r1 (rd_low hE), cross_of (lowD_pos hE) r2 (rd_low hE)⟩
theorem ovU_bd {N0 N1 N2 E : Int} (hE : 0 < E) : Bx (ovU N0 N1 N2 E).1 (ovU N0 N1 N2 E).2.1 (ovU N0 N1 N2 E).2.2.1 := by
 cases h : ovK N0 N1 N2 E with
 | true => exact (ovU_ok hE h).2.1
 | false =>
  have h0 : ivE (S3f N0 N1 N2 E) ≠ 0 := by unfold ovK at h; exact of_decide_eq_false h
  rw [ovU_no h0]
  exact ⟨⟨by decide, by decide⟩, ⟨by decide, by decide⟩, by decide, by decide⟩
theorem sgn_cross {a b c x y z D u : Int} (hD : 0 < D) (hu : 0 < u) (h0 : a * D = x * u) (h1 : b * D = y * u) (h2 : c * D = z * u) : sgn (lgZ a b c) = sgn (lgZ x y z) := by
 have e : D * lgZ a b c = u * lgZ x y z := by
  rw [← lg_mul, ← lg_mul, Int.mul_comm D, Int.mul_comm D, Int.mul_comm D, h0, h1, h2, Int.mul_comm u, Int.mul_comm u, Int.mul_comm u]
 rw [← sgn_mul_pos hD, e, sgn_mul_pos hu]
abbrev dfN (x d s t : Int) : Int := lowN (lowN x d * t - s * lowD x d) (lowD x d * t)
abbrev dfD (x d s t : Int) : Int := lowD (lowN x d * t - s * lowD x d) (lowD x d * t)
abbrev fl3 (d : Int) (v : Int × Int × Int) (s0 s1 s2 s3 s4 s5 : Int) : List (Int × Int) := [(dfN v.1 d s0 s1, dfD v.1 d s0 s1), (dfN v.2.1 d s2 s3, dfD v.2.1 d s2 s3), (dfN v.2.2 d s4 s5, dfD v.2.2 d s4 s5)]
abbrev mv0 (d : Int) (P S : Nat → Int) (n k j : Nat) : Int := if k = 0 then 0 else (lbV d P S j (j + n)).1
abbrev mv1 (d : Int) (P S : Nat → Int) (n k j : Nat) : Int := if k = 0 then 0 else (lbV d P S j (j + n)).2.1
abbrev mv2 (d : Int) (P S : Nat → Int) (n k j : Nat) : Int := if k = 0 then 0 else (lbV d P S j (j + n)).2.2.1
abbrev mv3 (d : Int) (P S : Nat → Int) (n k j : Nat) : Int := if k = 0 then 1 else (lbV d P S j (j + n)).2.2.2
abbrev tv0 (d : Int) (P S : Nat → Int) (n k j : Nat) : Int := (lbV d P S k (k + n)).1 * mv3 d P S n k j + -1 * mv0 d P S n k j * (lbV d P S k (k + n)).2.2.2
abbrev tv1 (d : Int) (P S : Nat → Int) (n k j : Nat) : Int := (lbV d P S k (k + n)).2.1 * mv3 d P S n k j + -1 * mv1 d P S n k j * (lbV d P S k (k + n)).2.2.2
abbrev tv2 (d : Int) (P S : Nat → Int) (n k j : Nat) : Int := (lbV d P S k (k + n)).2.2.1 * mv3 d P S n k j + -1 * mv2 d P S n k j * (lbV d P S k (k + n)).2.2.2
abbrev tv3 (d : Int) (P S : Nat → Int) (n k j : Nat) : Int := (lbV d P S k (k + n)).2.2.2 * mv3 d P S n k j
noncomputable abbrev ovT (d : Int) (P S : Nat → Int) (n k j : Nat) : Int × Int × Int × Int := ovU (tv0 d P S n k j) (tv1 d P S n k j) (tv2 d P S n k j) (tv3 d P S n k j)
noncomputable abbrev ovO (d : Int) (P S : Nat → Int) (n k j : Nat) : Bool := ovK (tv0 d P S n k j) (tv1 d P S n k j) (tv2 d P S n k j) (tv3 d P S n k j)
section
variable {d : Int} {P S : Nat → Int} (h : PlnC d P S)
include h
theorem lbV_bd (m n : Nat) (hm : m < 200) (hn : n < 200) : (-6000 ≤ (lbV d P S m n).1 ∧ (lbV d P S m n).1 ≤ 6000) ∧ (-6000 ≤ (lbV d P S m n).2.1 ∧ (lbV d P S m n).2.1 ≤ 6000) ∧ (-6000 ≤ (lbV d P S m n).2.2.1 ∧ (lbV d P S m n).2.2.1 ≤ 6000) ∧ 1 ≤ (lbV d P S m n).2.2.2 ∧ (lbV d P S m n).2.2.2 ≤ 12 := by
 unfold lbV
 split
 ·have hd := h.d
  have hV := nrm_ok (pl_d h) (vB_Bx h hm hn)
  have hb := hV.bd (vB_Bx h hm hn)
  have hdn := hV.den
  unfold Bx at hb
  dsimp only [nr3]
  omega
 ·dsimp only
  omega
theorem lbV_ok {m n : Nat} (hm : m < 200) (hn : n < 200) (hb : lbB d P S m n = true) : (lbV d P S m n).1 * d = (vB d P S m n).1 * (lbV d P S m n).2.2.2 ∧ (lbV d P S m n).2.1 * d = (vB d P S m n).2.1 * (lbV d P S m n).2.2.2 ∧ (lbV d P S m n).2.2.1 * d = (vB d P S m n).2.2 * (lbV d P S m n).2.2.2 := by
 unfold lbV
 rw [if_pos hb]
 have hV := nrm_ok (pl_d h) (vB_Bx h hm hn)
 exact ⟨hV.ex, hV.ey, hV.ez⟩
theorem lsize_lbi {m n : Nat} (hm : m < 200) (hn : n < 200) (hb : lbB d P S m n = true) (w : World) :
  Calls Tryz.prog 16 #[ovn (lbV d P S m n)] w fun e w' => e = .returned (szD (vB d P S m n).1 (vB d P S m n).2.1 (vB d P S m n).2.2 d) ∧ Below w.heap.size w w' := by
 unfold lbV
 rw [if_pos hb]
 exact lsize_nrm w (pl_d h) (vB_Bx h hm hn)
def wdL (d : Int) (P S : Nat → Int) (n k j : Nat) : Int := sgn (lgZ ((vB d P S k (k + n)).1 - (vB d P S j (j + n)).1) ((vB d P S k (k + n)).2.1 - (vB d P S j (j + n)).2.1) ((vB d P S k (k + n)).2.2 - (vB d P S j (j + n)).2.2))
theorem tWidest_pl (n : Nat) (hn : n ≤ 36) (w : World) (ht : Tab w) :
  Calls Tryz.prog 34 #[.agg (cirL (cirP d P S)).toArray, .int .i64 (n : Int)] w fun e w' => e = .returned (.tuple #[.int .i64 (wdB (wdL d P S n) 12 : Nat), .int .i64 0]) ∧ Below w.heap.size w w' := by
 refine tWidest_gen (cirP d P S) n (fun k => lowN (vB d P S k (k + n)).1 d) (fun k => lowD (vB d P S k (k + n)).1 d) (fun k => lowN (vB d P S k (k + n)).2.1 d) (fun k => lowD (vB d P S k (k + n)).2.1 d) (fun k => lowN (vB d P S k (k + n)).2.2 d) (fun k => lowD (vB d P S k (k + n)).2.2 d) (wdL d P S n) w ht (plan_tm h) ?_ (by omega) (fun k W hk hT => ?_) (fun k j W hk hj hT => tcmp_any _ _ _ _ _ _ d W (pl_d h) hT (vB_Bx h (by omega) (by omega)) (vB_Bx h (by omega) (by omega)))
 ·unfold abE
  rw [ckE_pl h, if_neg (by simp), if_neg (by omega)]
 ·have := tbetween_pl h (m := k) (n := k + n) (by omega) (by omega) W hT
  rw [Int.natCast_add] at this
  exact this
theorem livs_pl (n : Nat) (hn : n ≤ 36) (x1 s0 s1 s2 s3 s4 s5 : Int) (LA : Option Addr) (lc : Nat) (w : World) (ht : Tab w) (B : Nat → Bool)
  (hB : ∀ k : Nat, k < 12 → B k = eqZ (lowN (vB d P S k (k + n)).1 d) (lowD (vB d P S k (k + n)).1 d) (lowN (vB d P S k (k + n)).2.1 d) (lowD (vB d P S k (k + n)).2.1 d) (lowN (vB d P S k (k + n)).2.2 d) (lowD (vB d P S k (k + n)).2.2 d) s0 s1 s2 s3 s4 s5)
  (hl : Rd i64z w w.heap.size LA (lsB B 12)) (hlc : (lsB B 12).length ≤ lc) :
  Calls Tryz.prog 39 #[.agg (cirL (cirP d P S)).toArray, .agg #[.int .i64 (n : Int), .int .i64 x1], szv s0 s1 s2 s3 s4 s5, .slice LA (lsB B 12).length lc, .int .i64 (wdB (wdL d P S n) 12 : Nat)] w fun e w' => e = .returned (.bool true) ∧ Below w.heap.size w w' := by
 have hd := h.d
 have hbd := fun k (hk : k < 12) => lbV_bd h k (k + n) (by omega) (by omega)
 have hmd : ∀ k j, k < 12 → j ≤ k → (-6000 ≤ (mv0 d P S n k j) ∧ (mv0 d P S n k j) ≤ 6000) ∧ (-6000 ≤ (mv1 d P S n k j) ∧ (mv1 d P S n k j) ≤ 6000) ∧ (-6000 ≤ (mv2 d P S n k j) ∧ (mv2 d P S n k j) ≤ 6000) ∧ 1 ≤ (mv3 d P S n k j) ∧ (mv3 d P S n k j) ≤ 12 := fun k j hk hj => by
  by_cases h0 : k = 0
  ·simp only [mv0, mv1, mv2, mv3, h0, if_true]
   omega
  ·simp only [mv0, mv1, mv2, mv3, h0, if_false]
   exact hbd j (by omega)
 have hab := fun k j (hk : k < 12) (hj : j ≤ k) => (fun x u => fun (hx : -6000 ≤ x ∧ x ≤ 6000) (hu : -6000 ≤ u ∧ u ≤ 6000) => (radd_bd (x := x) (u := u) (D := (lbV d P S k (k + n)).2.2.2) (E := (mv3 d P S n k j)) (k := -1) (by omega) (by omega) (by have := hbd k hk; omega) (by have := hmd k j hk hj; omega) (.inr rfl)).2.2.2.2)
 have hDE : ∀ k j, k < 12 → j ≤ k → 1 ≤ tv3 d P S n k j ∧ tv3 d P S n k j ≤ 144 := fun k j hk hj => by
  have a := (hbd k hk).2.2.2
  have b := (hmd k j hk hj).2.2.2
  constructor
  ·have : 1 * 1 ≤ tv3 d P S n k j := Int.mul_le_mul a.1 b.1 (by decide) (by omega)
   omega
  ·have : tv3 d P S n k j ≤ 12 * 12 := Int.mul_le_mul a.2 b.2 (by omega) (by decide)
   omega
 refine livs_gen (cirP d P S) n x1 s0 s1 s2 s3 s4 s5 (fun k => (lbV d P S k (k + n)).1) (fun k => (lbV d P S k (k + n)).2.1) (fun k => (lbV d P S k (k + n)).2.2.1) (fun k => (lbV d P S k (k + n)).2.2.2) (fun k => lowN (vB d P S k (k + n)).1 d) (fun k => lowD (vB d P S k (k + n)).1 d) (fun k => lowN (vB d P S k (k + n)).2.1 d) (fun k => lowD (vB d P S k (k + n)).2.1 d) (fun k => lowN (vB d P S k (k + n)).2.2 d) (fun k => lowD (vB d P S k (k + n)).2.2 d) (fun k j => tv0 d P S n k j) (fun k j => tv1 d P S n k j) (fun k j => tv2 d P S n k j) (fun k j => tv3 d P S n k j) (fun k j => (ovT d P S n k j).1) (fun k j => (ovT d P S n k j).2.1) (fun k j => (ovT d P S n k j).2.2.1) (fun k j => (ovT d P S n k j).2.2.2) (fun k => lbB d P S k (k + n)) (fun k => shB (lbV d P S k (k + n)).1 (lbV d P S k (k + n)).2.1 (lbV d P S k (k + n)).2.2.1) B (fun k j => ovO d P S n k j) (fun k j => shB (ovT d P S n k j).1 (ovT d P S n k j).2.1 (ovT d P S n k j).2.2.1) (wdL d P S n) LA lc w.heap.size w ht (by omega) hl (Nat.le_refl _) hlc (fun k W hk hT => ?_) (fun k W hk => ?_) (fun k W hk hb => lsize_lbi h (by omega) (by omega) hb W) hB (fun k j W hk hj _ _ => ?_) (fun k j W hk hj _ _ => ?_) (fun k j W hk hj _ _ => ?_) (fun k j W hk hj hb1 hb2 hok hsd hT => ?_)
 ·have := lbetween_pl h (m := k) (n := k + n) (by omega) (by omega) W hT
  rw [Int.natCast_add] at this
  exact this
 ·have := hbd k hk
  exact lshort41_any _ _ _ _ W (by omega) (by omega) (by omega)
 ·have a := hbd k hk
  have b := hmd k j hk hj
  dsimp only [mv0, mv1, mv2, mv3] at b
  exact radd_any _ _ _ _ _ _ _ _ (-1) W (by omega) (by omega) (by omega) (by omega) (by omega) (by omega) (by omega) (by omega) (.inr rfl)
 ·have a := hbd k hk
  have b := hmd k j hk hj
  have c := hDE k j hk hj
  have e0 : -2000000000000 ≤ tv0 d P S n k j ∧ tv0 d P S n k j ≤ 2000000000000 := hab k j hk hj _ _ a.1 b.1
  have e1 : -2000000000000 ≤ tv1 d P S n k j ∧ tv1 d P S n k j ≤ 2000000000000 := hab k j hk hj _ _ a.2.1 b.2.1
  have e2 : -2000000000000 ≤ tv2 d P S n k j ∧ tv2 d P S n k j ≤ 2000000000000 := hab k j hk hj _ _ a.2.2.1 b.2.2.1
  exact lover_tot (tv0 d P S n k j) (tv1 d P S n k j) (tv2 d P S n k j) (tv3 d P S n k j) W ⟨by omega, by omega⟩ ⟨by omega, by omega⟩ ⟨by omega, by omega⟩ (by omega) (by omega)
 ·have c := hDE k j hk hj
  have u : Bx (ovT d P S n k j).1 (ovT d P S n k j).2.1 (ovT d P S n k j).2.2.1 := ovU_bd (N0 := tv0 d P S n k j) (N1 := tv1 d P S n k j) (N2 := tv2 d P S n k j) (E := tv3 d P S n k j) (by omega)
  unfold Bx at u
  exact lshort41_any (ovT d P S n k j).1 (ovT d P S n k j).2.1 (ovT d P S n k j).2.2.1 _ W (by omega) (by omega) (by omega)
 ·have c := hDE k j hk (by omega)
  have hk0 : ¬ k = 0 := by omega
  obtain ⟨hD, hb, e0, e1, e2⟩ := ovU_ok (N0 := tv0 d P S n k j) (N1 := tv1 d P S n k j) (N2 := tv2 d P S n k j) (E := tv3 d P S n k j) (by omega) hok
  have hb : Bx (ovT d P S n k j).1 (ovT d P S n k j).2.1 (ovT d P S n k j).2.2.1 := hb
  unfold Bx at hb
  have hs := refSign_any (ovT d P S n k j).1 (ovT d P S n k j).2.1 (ovT d P S n k j).2.2.1 (ovT d P S n k j).2.2.2 W hT (by omega) (by omega) (by omega)
  have hk1 := lbV_ok h (m := k) (n := k + n) (by omega) (by omega) hb1
  have hk2 := lbV_ok h (m := j) (n := j + n) (by omega) (by omega) hb2
  have f0 := add_cross (k := -1) hk1.1 hk2.1
  have f1 := add_cross (k := -1) hk1.2.1 hk2.2.1
  have f2 := add_cross (k := -1) hk1.2.2 hk2.2.2
  simp only [ovT, tv0, tv1, tv2, tv3, mv0, mv1, mv2, mv3, hk0, if_false] at c e0 e1 e2 hs hD ⊢
  have g : ∀ {u N V Dd E x : Int}, 0 < E → u * E = N * Dd → N * d = x * E → u * d = x * Dd := fun {u N V Dd E x} hE a1 a2 => by
   refine Int.eq_of_mul_eq_mul_right (show E ≠ 0 by omega) ?_
   rw [Int.mul_right_comm, a1, Int.mul_right_comm, a2, Int.mul_right_comm]
  have r := sgn_cross (D := d) (by omega) (show 0 < _ by exact hD.1) (g (V := 0) (by omega) e0 f0) (g (V := 0) (by omega) e1 f1) (g (V := 0) (by omega) e2 f2)
  rw [r] at hs
  refine hs.mono ?_
  rintro e w' ⟨he, hb⟩
  refine ⟨he.trans ?_, hb⟩
  unfold wdL
  simp only [Int.neg_mul, Int.one_mul, Int.sub_eq_add_neg]
open Classical in
noncomputable def erF (d : Int) (P S : Nat → Int) (i n : Nat) (s0 s1 s2 s3 s4 s5 : Int) : Int := if ivE (fl3 d (vB d P S i (i + n)) s0 s1 s2 s3 s4 s5) = 0 then 0 else 4
open Classical in
noncomputable def erD (d : Int) (P S : Nat → Int) (i n : Nat) (s0 s1 s2 s3 s4 s5 : Int) (k : Nat) : Int := if ivE (fl3 d (vB d P S i (i + n)) s0 s1 s2 s3 s4 s5) = 0 then (match k with | 0 => (dfN (vB d P S i (i + n)).1 d s0 s1) | 1 => (dfD (vB d P S i (i + n)).1 d s0 s1) | 2 => (dfN (vB d P S i (i + n)).2.1 d s2 s3) | 3 => (dfD (vB d P S i (i + n)).2.1 d s2 s3) | 4 => (dfN (vB d P S i (i + n)).2.2 d s4 s5) | _ => (dfD (vB d P S i (i + n)).2.2 d s4 s5)) else 0
noncomputable abbrev erV (d : Int) (P S : Nat → Int) (i n : Nat) (s0 s1 s2 s3 s4 s5 : Int) : Value := szv (erD d P S i n s0 s1 s2 s3 s4 s5 0) (erD d P S i n s0 s1 s2 s3 s4 s5 1) (erD d P S i n s0 s1 s2 s3 s4 s5 2) (erD d P S i n s0 s1 s2 s3 s4 s5 3) (erD d P S i n s0 s1 s2 s3 s4 s5 4) (erD d P S i n s0 s1 s2 s3 s4 s5 5)
theorem tError_pl (n i : Nat) (hn : n ≤ 36) (hi : i < 12) (s0 s1 s2 s3 s4 s5 : Int) (w : World) (ht : Tab w) (hs : ivE [(s0, s1), (s2, s3), (s4, s5)] = 0)
  (hck : ∀ W, Calls Tryz.prog 38 #[szv s0 s1 s2 s3 s4 s5] W fun e w' => e = .returned (.int .i64 0) ∧ Below W.heap.size W w') :
  Calls Tryz.prog 33 #[.agg (cirL (cirP d P S)).toArray, .int .i64 (i : Int), .int .i64 (n : Int), szv s0 s1 s2 s3 s4 s5] w fun e w' => e = .returned (.tuple #[erV d P S i n s0 s1 s2 s3 s4 s5, .int .i64 (erF d P S i n s0 s1 s2 s3 s4 s5)]) ∧ Below w.heap.size w w' := by
 have hab : abE (cirP d P S) n = 0 := by
  unfold abE
  rw [ckE_pl h, if_neg (by simp), if_neg (by omega)]
 have hbt := fun W hT => by
  have := tbetween_pl h (m := i) (n := i + n) (by omega) (by omega) W hT
  rw [Int.natCast_add] at this
  exact this
 have hsb := fun W => iSub_any _ _ _ _ _ _ s0 s1 s2 s3 s4 s5 W (szD_ok (pl_d h) (vB_Bx h (m := i) (n := i + n) (by omega) (by omega))) hs
 by_cases hF : ivE (fl3 d (vB d P S i (i + n)) s0 s1 s2 s3 s4 s5) = 0
 ·have e0 : erF d P S i n s0 s1 s2 s3 s4 s5 = 0 := if_pos hF
  have e1 : ∀ k, erD d P S i n s0 s1 s2 s3 s4 s5 k = (match k with | 0 => (dfN (vB d P S i (i + n)).1 d s0 s1) | 1 => (dfD (vB d P S i (i + n)).1 d s0 s1) | 2 => (dfN (vB d P S i (i + n)).2.1 d s2 s3) | 3 => (dfD (vB d P S i (i + n)).2.1 d s2 s3) | 4 => (dfN (vB d P S i (i + n)).2.2 d s4 s5) | _ => (dfD (vB d P S i (i + n)).2.2 d s4 s5)) := fun k => if_pos hF
  rw [e0]
  unfold erV
  rw [e1, e1, e1, e1, e1, e1]
  refine tError_gen (cirP d P S) i n s0 s1 s2 s3 s4 s5 _ _ _ _ _ _ (dfN (vB d P S i (i + n)).1 d s0 s1) (dfD (vB d P S i (i + n)).1 d s0 s1) (dfN (vB d P S i (i + n)).2.1 d s2 s3) (dfD (vB d P S i (i + n)).2.1 d s2 s3) (dfN (vB d P S i (i + n)).2.2 d s4 s5) (dfD (vB d P S i (i + n)).2.2 d s4 s5) (dfN (vB d P S i (i + n)).1 d s0 s1) (dfD (vB d P S i (i + n)).1 d s0 s1) (dfN (vB d P S i (i + n)).2.1 d s2 s3) (dfD (vB d P S i (i + n)).2.1 d s2 s3) (dfN (vB d P S i (i + n)).2.2 d s4 s5) (dfD (vB d P S i (i + n)).2.2 d s4 s5) 0 0 w ht (plan_tm h) hab (by omega) (by omega) hck hbt (fun W => ?_) (fun W => ?_)
  ·refine (hsb W).mono ?_
   rintro e w' ⟨he, hb⟩
   refine ⟨he.trans ?_, hb⟩
   unfold ivR
   rw [if_pos hF]
  ·have := tlimited_any (dfN (vB d P S i (i + n)).1 d s0 s1) (dfD (vB d P S i (i + n)).1 d s0 s1) (dfN (vB d P S i (i + n)).2.1 d s2 s3) (dfD (vB d P S i (i + n)).2.1 d s2 s3) (dfN (vB d P S i (i + n)).2.2 d s4 s5) (dfD (vB d P S i (i + n)).2.2 d s4 s5) 0 W
   unfold limV at this
   rw [if_pos rfl] at this
   exact this
 ·have e0 : erF d P S i n s0 s1 s2 s3 s4 s5 = 4 := if_neg hF
  have e1 : ∀ k, erD d P S i n s0 s1 s2 s3 s4 s5 k = 0 := fun k => if_neg hF
  rw [e0]
  unfold erV
  rw [e1, e1, e1, e1, e1, e1]
  refine tError_gen (cirP d P S) i n s0 s1 s2 s3 s4 s5 _ _ _ _ _ _ 0 0 0 0 0 0 0 0 0 0 0 0 4 4 w ht (plan_tm h) hab (by omega) (by omega) hck hbt (fun W => ?_) (fun W => ?_)
  ·refine (hsb W).mono ?_
   rintro e w' ⟨he, hb⟩
   refine ⟨he.trans ?_, hb⟩
   unfold ivR
   rw [if_neg hF]
  ·have := tlimited_any 0 0 0 0 0 0 4 W
   unfold limV at this
   rw [if_neg (by decide)] at this
   exact this
theorem lerrs_pl (n i : Nat) (hn : n ≤ 36) (hi : i < 12) (s0 s1 s2 s3 s4 s5 : Int) (w : World) (ht : Tab w) (hs : ivE [(s0, s1), (s2, s3), (s4, s5)] = 0) :
  Calls Tryz.prog 40 #[.agg (cirL (cirP d P S)).toArray, .agg #[.int .i64 (n : Int), .int .i64 (i : Int)], szv s0 s1 s2 s3 s4 s5, erV d P S i n s0 s1 s2 s3 s4 s5, .int .i64 (erF d P S i n s0 s1 s2 s3 s4 s5)] w fun e w' => e = .returned (.bool true) ∧ Below w.heap.size w w' := by
 have hd := h.d
 obtain ⟨hr, hpn⟩ := ivE_cases hs
 rcases hp : prt [(s0, s1), (s2, s3), (s4, s5)] with _ | ⟨l, E⟩
 ·exact absurd hp hpn
 obtain ⟨X, Y, Z, rfl⟩ := prt_three hp
 obtain ⟨hE, hl⟩ := prt_num hp (right_mild hr)
 obtain ⟨r0, r1, r2⟩ := prt_rat hr hp
 have hX := hl X (by simp)
 have hY := hl Y (by simp)
 have hZ := hl Z (by simp)
 have hv := lbV_bd h i (i + n) (by omega) (by omega)
 have q0 := (hr (s0, s1) (by simp)).1
 have q1 := (hr (s2, s3) (by simp)).1
 have q2 := (hr (s4, s5) (by simp)).1
 have hDE : 1 ≤ (lbV d P S i (i + n)).2.2.2 * E ∧ (lbV d P S i (i + n)).2.2.2 * E ≤ 2880 := by
  constructor
  ·have : 1 * 1 ≤ (lbV d P S i (i + n)).2.2.2 * E := Int.mul_le_mul hv.2.2.2.1 hE.1 (by decide) (by omega)
   omega
  ·have : (lbV d P S i (i + n)).2.2.2 * E ≤ 12 * 240 := Int.mul_le_mul hv.2.2.2.2 hE.2 (by omega) (by decide)
   omega
 have hab := fun x u => fun (hx : -6000 ≤ x ∧ x ≤ 6000) (hu : -6000 ≤ u ∧ u ≤ 6000) => (radd_bd (x := x) (u := u) (D := (lbV d P S i (i + n)).2.2.2) (E := E) (k := -1) (by omega) (by omega) (by omega) (by omega) (.inr rfl)).2.2.2.2
 have b0 := hab _ X hv.1 hX
 have b1 := hab _ Y hv.2.1 hY
 have b2 := hab _ Z hv.2.2.1 hZ
 have key : lbB d P S i (i + n) = true → S3f ((lbV d P S i (i + n)).1 * E + -1 * X * (lbV d P S i (i + n)).2.2.2) ((lbV d P S i (i + n)).2.1 * E + -1 * Y * (lbV d P S i (i + n)).2.2.2) ((lbV d P S i (i + n)).2.2.1 * E + -1 * Z * (lbV d P S i (i + n)).2.2.2) ((lbV d P S i (i + n)).2.2.2 * E) = (fl3 d (vB d P S i (i + n)) s0 s1 s2 s3 s4 s5) := fun hb => by
  obtain ⟨e0, e1, e2⟩ := lbV_ok h (m := i) (n := i + n) (by omega) (by omega) hb
  have g : ∀ {v x D U s t : Int}, v * d = x * D → U * t = s * E → 0 < t → 1 ≤ D → D * E ≤ 2880 → 1 ≤ D * E → lowN (v * E + -1 * U * D) (D * E) = lowN (lowN x d * t - s * lowD x d) (lowD x d * t) ∧ lowD (v * E + -1 * U * D) (D * E) = lowD (lowN x d * t - s * lowD x d) (lowD x d * t) := fun {v x D U s t} a1 a2 a3 _ _ a6 => by
   have hdp : 0 < d := by omega
   refine low_cross (by omega) (Int.mul_pos (lowD_pos hdp) a3) ?_
   have a4 := rd_low (n := x) hdp
   have a5 : v * lowD x d = lowN x d * D := by
    refine Int.eq_of_mul_eq_mul_right (show d ≠ 0 by omega) ?_
    rw [Int.mul_right_comm, a1, Int.mul_right_comm (lowN x d), a4, Int.mul_right_comm]
   rw [Int.add_mul, Int.sub_mul, Int.neg_mul, Int.neg_mul, Int.one_mul, Int.neg_mul, ← Int.sub_eq_add_neg]
   congr 1
   ·have c1 : v * E * (lowD x d * t) = v * lowD x d * (E * t) := by simp only [Int.mul_assoc, Int.mul_comm, Int.mul_left_comm]
    have c2 : lowN x d * t * (D * E) = lowN x d * D * (E * t) := by simp only [Int.mul_assoc, Int.mul_comm, Int.mul_left_comm]
    rw [c1, c2, a5]
   ·have c1 : U * D * (lowD x d * t) = U * t * (D * lowD x d) := by simp only [Int.mul_assoc, Int.mul_comm, Int.mul_left_comm]
    have c2 : s * lowD x d * (D * E) = s * E * (D * lowD x d) := by simp only [Int.mul_assoc, Int.mul_comm, Int.mul_left_comm]
    rw [c1, c2, a2]
  obtain ⟨g0, g1⟩ := g e0 r0 q0 hv.2.2.2.1 hDE.2 hDE.1
  obtain ⟨g2, g3⟩ := g e1 r1 q1 hv.2.2.2.1 hDE.2 hDE.1
  obtain ⟨g4, g5⟩ := g e2 r2 q2 hv.2.2.2.1 hDE.2 hDE.1
  unfold S3f
  rw [g0, g1, g2, g3, g4, g5]
 generalize hN0 : (lbV d P S i (i + n)).1 * E + -1 * X * (lbV d P S i (i + n)).2.2.2 = N0 at *
 generalize hN1 : (lbV d P S i (i + n)).2.1 * E + -1 * Y * (lbV d P S i (i + n)).2.2.2 = N1 at *
 generalize hN2 : (lbV d P S i (i + n)).2.2.1 * E + -1 * Z * (lbV d P S i (i + n)).2.2.2 = N2 at *
 generalize hN3 : (lbV d P S i (i + n)).2.2.2 * E = N3 at *
 refine lerrors_gen (cirP d P S) n i s0 s1 s2 s3 s4 s5 (erD d P S i n s0 s1 s2 s3 s4 s5 0) (erD d P S i n s0 s1 s2 s3 s4 s5 1) (erD d P S i n s0 s1 s2 s3 s4 s5 2) (erD d P S i n s0 s1 s2 s3 s4 s5 3) (erD d P S i n s0 s1 s2 s3 s4 s5 4) (erD d P S i n s0 s1 s2 s3 s4 s5 5) (erF d P S i n s0 s1 s2 s3 s4 s5) (lbV d P S i (i + n)).1 (lbV d P S i (i + n)).2.1 (lbV d P S i (i + n)).2.2.1 (lbV d P S i (i + n)).2.2.2 X Y Z E N0 N1 N2 N3 (ovU N0 N1 N2 N3).1 (ovU N0 N1 N2 N3).2.1 (ovU N0 N1 N2 N3).2.2.1 (ovU N0 N1 N2 N3).2.2.2 (lowN N0 N3) (lowD N0 N3) (lowN N1 N3) (lowD N1 N3) (lowN N2 N3) (lowD N2 N3) 0 (lbB d P S i (i + n)) (ovK N0 N1 N2 N3) w ht (by omega) (fun W hT => ?_) (fun W => ?_) (fun _ W => ?_) (fun _ W => lover_tot _ _ _ _ W ⟨by omega, by omega⟩ ⟨by omega, by omega⟩ ⟨by omega, by omega⟩ (by omega) (by omega)) (fun _ hk W => ?_) (fun hb => ?_)
 ·have := lbetween_pl h (m := i) (n := i + n) (by omega) (by omega) W hT
  rw [Int.natCast_add] at this
  exact this
 ·have := read_any s0 s1 s2 s3 s4 s5 W
  rw [rdV_ok hr hp] at this
  exact this
 ·rw [← hN0, ← hN1, ← hN2, ← hN3]
  exact radd_any _ _ _ _ _ _ _ _ (-1) W (by omega) (by omega) (by omega) (by omega) (by omega) (by omega) (by omega) (by omega) (.inr rfl)
 ·obtain ⟨hD, hB, e0, e1, e2⟩ := ovU_ok (by omega) hk
  unfold Bx at hB
  exact lsize_at W (by omega) ⟨by omega, by omega⟩ ⟨by omega, by omega⟩ ⟨by omega, by omega⟩ ⟨by omega, by omega⟩ e0 e1 e2
 ·have hk := key hb
  have e : S3f N0 N1 N2 N3 = [(lowN N0 N3, lowD N0 N3), (lowN N1 N3, lowD N1 N3), (lowN N2 N3, lowD N2 N3)] := rfl
  constructor
  ·intro ho
   have hF : ¬ ivE (fl3 d (vB d P S i (i + n)) s0 s1 s2 s3 s4 s5) = 0 := by rw [← hk]; unfold ovK at ho; exact of_decide_eq_false ho
   exact ⟨if_neg hF, if_neg hF, if_neg hF, if_neg hF, if_neg hF, if_neg hF, if_neg hF⟩
  ·intro ho
   have hF : ivE (fl3 d (vB d P S i (i + n)) s0 s1 s2 s3 s4 s5) = 0 := by rw [← hk]; unfold ovK at ho; exact of_decide_eq_true ho
   have k0 := congrArg (fun l : List (Int × Int) => l[0]?) hk
   have k1 := congrArg (fun l : List (Int × Int) => l[1]?) hk
   have k2 := congrArg (fun l : List (Int × Int) => l[2]?) hk
   simp only [e, List.getElem?_cons_succ, List.getElem?_cons_zero, Option.some.injEq, Prod.mk.injEq] at k0 k1 k2
   exact ⟨if_pos hF, (if_pos hF).trans k0.1.symm, (if_pos hF).trans k0.2.symm, (if_pos hF).trans k1.1.symm, (if_pos hF).trans k1.2.symm, (if_pos hF).trans k2.1.symm, (if_pos hF).trans k2.2.symm⟩
end
end Go.Proofs.YtlmheeommpbimaaGreatDoor
namespace Go.Proofs.YtlmheeommpbimaaGreatDoor
open Go.RowKit
theorem lintlaw_any (m e x0 x1 s0 s1 s2 s3 s4 s5 : Int) (X : Nat → Int × Int) (w : World) (ht : Tab w) (hm : 0 ≤ m ∧ m < 256) (he : 0 ≤ e ∧ e < 256) (hX : ∀ i, i < 12 → (-128 ≤ (X i).1 ∧ (X i).1 ≤ 127) ∧ (-128 ≤ (X i).2 ∧ (X i).2 ≤ 127))
  (hS : (I64 s0 ∧ I64 s1) ∧ (I64 s2 ∧ I64 s3) ∧ I64 s4 ∧ I64 s5) :
  Calls Tryz.prog 9 #[.agg (plC m X e).toArray, .agg #[.int .i64 x0, .int .i64 x1], szv s0 s1 s2 s3 s4 s5] w fun e w' => e = .returned (.bool true) ∧ Below w.heap.size w w' := by
 have h := pl_pln m e X
 have hMK := fun W => lMake_any m e X W hm he hX
 generalize plD m e = D at *
 generalize plP m X = P at *
 generalize plQ m X = S at *
 have k0 := ckE_pl h
 have h64 := plan_tm h
 have hck := fun W => icheck_any s0 s1 s2 s3 s4 s5 W hS.1.1 hS.1.2 hS.2.1.1 hS.2.1.2 hS.2.2.1 hS.2.2.2
 obtain ⟨c, hc⟩ : ∃ c, c = ivE [(s0, s1), (s2, s3), (s4, s5)] := ⟨_, rfl⟩
 rw [← hc] at hck
 by_cases ho : x0 < 0 ∨ 36 < x0
 ·have ha : abE (cirP D P S) x0 = 3 := by
   unfold abE
   rw [k0, if_neg (by simp), if_pos ho]
  have ha0 : abE (cirP D P S) x0 ≠ 0 := by rw [ha]; decide
  refine lint_gen m e X (cirP D P S) x0 x1 s0 s1 s2 s3 s4 s5 0 0 0 0 0 0 3 0 3 3 c [] w ht hMK (fun W _ => ?_) (fun W _ => ?_) (fun W _ => ?_) hck (fun _ => ⟨rfl, rfl, rfl, rfl, rfl, rfl, rfl, rfl, rfl, rfl, rfl⟩) (fun hx => absurd ho (by omega)) (fun hx => absurd ho (by omega)) (fun hx => absurd ho (by omega))
  ·refine (tPure_err (cirP D P S) x0 s0 s1 s2 s3 s4 s5 W h64 ha0).mono ?_
   rintro e w' ⟨he, hb⟩
   rw [ha] at he
   exact ⟨none, 0, he, fun hl => absurd hl (by simp), Nat.le_refl _, hb⟩
  ·have := tError_err (cirP D P S) x0 x1 s0 s1 s2 s3 s4 s5 W h64 ha0
   rwa [ha] at this
  ·have := tWidest_err (cirP D P S) x0 W h64 ha0
   rwa [ha] at this
 ·obtain ⟨n, rfl⟩ : ∃ n : Nat, x0 = (n : Int) := ⟨x0.toNat, by omega⟩
  have hn : n ≤ 36 := by omega
  have ha : abE (cirP D P S) n = 0 := by
   unfold abE
   rw [k0, if_neg (by simp), if_neg (by omega)]
  have hWI := fun W hT => tWidest_pl h n hn W hT
  by_cases hz : c = 0
  ·rw [hz] at hck
   have hs0 : ivE [(s0, s1), (s2, s3), (s4, s5)] = 0 := by rw [← hc]; exact hz
   obtain ⟨B, hB⟩ : ∃ B : Nat → Bool, B = fun k => eqZ (lowN (vB D P S k (k + n)).1 D) (lowD (vB D P S k (k + n)).1 D) (lowN (vB D P S k (k + n)).2.1 D) (lowD (vB D P S k (k + n)).2.1 D) (lowN (vB D P S k (k + n)).2.2 D) (lowD (vB D P S k (k + n)).2.2 D) s0 s1 s2 s3 s4 s5 := ⟨_, rfl⟩
   have hBk : ∀ k : Nat, k < 12 → B k = eqZ (lowN (vB D P S k (k + n)).1 D) (lowD (vB D P S k (k + n)).1 D) (lowN (vB D P S k (k + n)).2.1 D) (lowD (vB D P S k (k + n)).2.1 D) (lowN (vB D P S k (k + n)).2.2 D) (lowD (vB D P S k (k + n)).2.2 D) s0 s1 s2 s3 s4 s5 := fun k _ => by rw [hB]
   have hPU : ∀ W, Tab W → Calls Tryz.prog 32 #[.agg (cirL (cirP D P S)).toArray, .int .i64 (n : Int), szv s0 s1 s2 s3 s4 s5] W fun e w' => ∃ (LA : Option Addr) (lc : Nat), e = .returned (.tuple #[.slice LA (lsB B 12).length lc, .int .i64 0]) ∧ Rd i64z w' w'.heap.size LA (lsB B 12) ∧ (lsB B 12).length ≤ lc ∧ Below W.heap.size W w' := fun W hT => by
    refine (tPure_pl h n hn s0 s1 s2 s3 s4 s5 W hT hck B hBk).mono ?_
    rintro e w' ⟨A, cc, he, ho, hb⟩
    exact ⟨A, cc, he, Rd.of_own ho rfl, own_cap ho, hb⟩
   by_cases hr : x1 < 0 ∨ 11 < x1
   ·exact lint_gen m e X (cirP D P S) n x1 s0 s1 s2 s3 s4 s5 0 0 0 0 0 0 3 (wdB (wdL D P S n) 12 : Nat) 0 0 0 (lsB B 12) w ht hMK hPU (fun W _ => tError_rng (cirP D P S) x1 n s0 s1 s2 s3 s4 s5 W h64 ha hr) hWI hck (fun hx => absurd hx (by omega)) (fun _ hx => absurd rfl hx) (fun _ _ _ => ⟨rfl, rfl, rfl, rfl, rfl, rfl, rfl⟩) (fun _ _ hx => absurd hr (by omega))
   ·obtain ⟨i, rfl⟩ : ∃ i : Nat, x1 = (i : Int) := ⟨x1.toNat, by omega⟩
    have hi : i < 12 := by omega
    refine lint_gen m e X (cirP D P S) n i s0 s1 s2 s3 s4 s5 _ _ _ _ _ _ (erF D P S i n s0 s1 s2 s3 s4 s5) (wdB (wdL D P S n) 12 : Nat) 0 0 0 (lsB B 12) w ht hMK hPU (fun W hT => tError_pl h n i hn hi s0 s1 s2 s3 s4 s5 W hT hs0 hck) hWI hck (fun hx => absurd hx (by omega)) (fun _ hx => absurd rfl hx) (fun _ _ hx => absurd hx (by omega)) (fun _ _ _ => ⟨rfl, rfl, ?_, fun W LA lc hT hl hlc => livs_pl h n hn i s0 s1 s2 s3 s4 s5 LA lc W hT B hBk hl hlc, fun W hT => lerrs_pl h n i hn hi s0 s1 s2 s3 s4 s5 W hT hs0⟩)
    unfold erF
    split
    ·exact .inl rfl
    ·exact .inr rfl
  ·have hPU : ∀ W, Tab W → Calls Tryz.prog 32 #[.agg (cirL (cirP D P S)).toArray, .int .i64 (n : Int), szv s0 s1 s2 s3 s4 s5] W fun e w' => ∃ (LA : Option Addr) (lc : Nat), e = .returned (.tuple #[.slice LA ([] : List Int).length lc, .int .i64 c]) ∧ Rd i64z w' w'.heap.size LA ([] : List Int) ∧ ([] : List Int).length ≤ lc ∧ Below W.heap.size W w' := fun W _ => by
    refine (tPure_chk (cirP D P S) n c s0 s1 s2 s3 s4 s5 W h64 ha hck hz).mono ?_
    rintro e w' ⟨he, hb⟩
    exact ⟨none, 0, he, fun hl => absurd hl (by simp), Nat.le_refl _, hb⟩
   by_cases hr : x1 < 0 ∨ 11 < x1
   ·exact lint_gen m e X (cirP D P S) n x1 s0 s1 s2 s3 s4 s5 0 0 0 0 0 0 3 (wdB (wdL D P S n) 12 : Nat) 0 c c [] w ht hMK hPU (fun W _ => tError_rng (cirP D P S) x1 n s0 s1 s2 s3 s4 s5 W h64 ha hr) hWI hck (fun hx => absurd hx (by omega)) (fun _ _ => ⟨rfl, rfl, fun _ => ⟨rfl, rfl, rfl, rfl, rfl, rfl, rfl⟩, fun hx => absurd hr (by omega)⟩) (fun _ hx => absurd hx hz) (fun _ hx => absurd hx hz)
   ·exact lint_gen m e X (cirP D P S) n x1 s0 s1 s2 s3 s4 s5 0 0 0 0 0 0 c (wdB (wdL D P S n) 12 : Nat) 0 c c [] w ht hMK hPU (fun W _ => tError_chk (cirP D P S) x1 n c s0 s1 s2 s3 s4 s5 W h64 ha (by omega) hck hz) hWI hck (fun hx => absurd hx (by omega)) (fun _ _ => ⟨rfl, rfl, fun hx => absurd hx hr, fun _ => ⟨rfl, rfl, rfl, rfl, rfl, rfl, rfl⟩⟩) (fun _ hx => absurd hx hz) (fun _ hx => absurd hx hz)
end Go.Proofs.YtlmheeommpbimaaGreatDoor
