/- Part 34 of 39 of the proof of the law: contracts of the functions that it reaches, and plain facts. Conditions: those that each contract names. -/
import Derived.Test.YtendjepcjmfmfaaGreatDoorEqlB32
import Derived.Test.YtendjepcjmfmfaaGreatDoorEqlB33
import Derived.Deep.AppendLies
import Derived.OwnWalk
import Derived.Deep.QuietTactic
import Derived.BigQuiet
namespace Go.Proofs.YtendjepcjmfmfaaGreatDoor
open Go.RowKit
def vN (d : Int) (P S : Nat → Int) (n : Nat) : Int × Int × Int :=
 ((vS d P S (7 * n % 12)).1 - d * ocZ (vS d P S (7 * n % 12)).1 (vS d P S (7 * n % 12)).2.1 (vS d P S (7 * n % 12)).2.2 d, (vS d P S (7 * n % 12)).2.1, (vS d P S (7 * n % 12)).2.2)
theorem oc_near {x y z d : Int} (hd : 1 ≤ d ∧ d ≤ 12) (hx : -1584 ≤ x ∧ x ≤ 1584) (hy : -1248 ≤ y ∧ y ≤ 1248) (hz : -132 ≤ z ∧ z ≤ 132) : -2400 ≤ x - d * ocZ x y z d ∧ x - d * ocZ x y z d ≤ 2400 := by
 have hp : 0 < d * lgU := Int.mul_pos (by omega) (by decide)
 have h := lg_eq x y z
 have h1 : ocZ x y z d * (d * lgU) ≤ lgZ x y z := Int.ediv_mul_le _ (Int.ne_of_gt hp)
 have h2 : lgZ x y z < (ocZ x y z d + 1) * (d * lgU) := Int.lt_ediv_add_one_mul_self _ hp
 rw [Int.add_mul, Int.one_mul] at h2
 rw [← Int.mul_assoc] at h1 h2
 rw [Int.mul_comm d]
 obtain ⟨k, hk⟩ : ∃ k, k = ocZ x y z d * d := ⟨_, rfl⟩
 rw [← hk] at h1 h2 ⊢
 unfold lgU lgT lgF at *
 omega
theorem vN_bd {d : Int} {P S : Nat → Int} (h : PlnC d P S) (n : Nat) : (-2400 ≤ (vN d P S n).1 ∧ (vN d P S n).1 ≤ 2400) ∧ (-1248 ≤ (vN d P S n).2.1 ∧ (vN d P S n).2.1 ≤ 1248) ∧ (-132 ≤ (vN d P S n).2.2 ∧ (vN d P S n).2.2 ≤ 132) := by
 have := vS_bd h (7 * n % 12) (by omega)
 refine ⟨oc_near h.d (by omega) (by omega) (by omega), ?_, ?_⟩ <;> (dsimp only [vN]; omega)
theorem vN_Bx {d : Int} {P S : Nat → Int} (h : PlnC d P S) (n : Nat) : Bx (vN d P S n).1 (vN d P S n).2.1 (vN d P S n).2.2 := by
 have := vN_bd h n
 unfold Bx
 omega
abbrev TnM (w : World) (d : Int) (P S : Nat → Int) (W : World) : Prop :=
 Hp w [(w.heap.size, 38, cirL (cirP d P S)), (w.heap.size + 1, 49, [.int .i64 0, .int .i64 0, .int .i64 0, .int .i64 0, .int .i64 0, .int .i64 0])] W
def TnR (w : World) (d : Int) (P S : Nat → Int) (K : Nat) (v : Value) (W : World) : Prop :=
 ∃ j : Nat, v = .int .i64 (j : Int) ∧ j ≤ K ∧ TnM w d P S W
theorem TnR.of {w : World} {d : Int} {P S : Nat → Int} {K j : Nat} {W : World} (hj : j ≤ K) (h : TnM w d P S W) : TnR w d P S K (.int .i64 (j : Int)) W := ⟨j, rfl, hj, h⟩
set_option maxRecDepth 1000000 in
set_option maxHeartbeats 8000000 in
theorem tnote_any (d : Int) (P S : Nat → Int) (n : Nat) (w : World) (ht : Tab w) (h : PlnC d P S) (hn : n < 12) :
  Calls Tryz.prog 122 #[.agg (cirL (cirP d P S)).toArray, .int .i64 (n : Int)] w fun e w' => e = .returned (.tuple #[szD (vN d P S n).1 (vN d P S n).2.1 (vN d P S n).2.2 d, .int .i64 0]) ∧ Below w.heap.size w w' := by
 have HDB : Hid (1 ≤ d ∧ d ≤ 240) := Lib.hid ⟨h.d.1, by have := h.d.2; omega⟩
 have hNB := vN_Bx h n
 unfold vN at hNB ⊢
 obtain ⟨K, hK⟩ : ∃ K, K = 7 * n % 12 := ⟨_, rfl⟩
 rw [← hK] at hNB ⊢
 have hK2 : K < 12 ∧ 7 * K % 12 = n := by omega
 have HSU := Lib.hid (fun W => tsum_any d P S K W h (by omega))
 have HRD := Lib.hid (fun W (hT : Tab W) => tred_any (vS d P S K).1 (vS d P S K).2.1 (vS d P S K).2.2 d W HDB.out hT (vS_Bx h (by omega)) hNB)
 dsimp only [szD] at HSU HRD ⊢
 clear hNB h
 obtain ⟨x0, hx0⟩ : ∃ y : Int, y = lowN ((vS d P S K).1) d := ⟨_, rfl⟩
 obtain ⟨x1, hx1⟩ : ∃ y : Int, y = lowD ((vS d P S K).1) d := ⟨_, rfl⟩
 obtain ⟨x2, hx2⟩ : ∃ y : Int, y = lowN ((vS d P S K).2.1) d := ⟨_, rfl⟩
 obtain ⟨x3, hx3⟩ : ∃ y : Int, y = lowD ((vS d P S K).2.1) d := ⟨_, rfl⟩
 obtain ⟨x4, hx4⟩ : ∃ y : Int, y = lowN ((vS d P S K).2.2) d := ⟨_, rfl⟩
 obtain ⟨x5, hx5⟩ : ∃ y : Int, y = lowD ((vS d P S K).2.2) d := ⟨_, rfl⟩
 rw [← hx0] at HSU HRD
 rw [← hx1] at HSU HRD
 rw [← hx2] at HSU HRD
 rw [← hx3] at HSU HRD
 rw [← hx4] at HSU HRD
 rw [← hx5] at HSU HRD
 obtain ⟨n0, hn0⟩ : ∃ y : Int, y = lowN ((vS d P S K).1 - d * ocZ (vS d P S K).1 (vS d P S K).2.1 (vS d P S K).2.2 d) d := ⟨_, rfl⟩
 obtain ⟨n1, hn1⟩ : ∃ y : Int, y = lowD ((vS d P S K).1 - d * ocZ (vS d P S K).1 (vS d P S K).2.1 (vS d P S K).2.2 d) d := ⟨_, rfl⟩
 rw [← hn0, ← hn1] at HRD ⊢
 rw [← hx2]
 rw [← hx3]
 rw [← hx4]
 rw [← hx5]
 obtain ⟨oc, hoc⟩ : ∃ y : Int, y = ocZ (vS d P S K).1 (vS d P S K).2.1 (vS d P S K).2.2 d := ⟨_, rfl⟩
 rw [← hoc] at HRD
 clear hx0 hx1 hx2 hx3 hx4 hx5 hn0 hn1 hoc
 have HT := Lib.hid ht
 have HK := Lib.hid hK2
 clear hK hK2 hn
 have HL := Lib.hid (fun W => tlimited_any n0 n1 x2 x3 x4 x5 0 W)
 unfold limV at HL
 rw [if_pos rfl] at HL
 have hm0 := ((Hp.start w).new 38 (cirL (cirP d P S))).new 49 [.int .i64 0, .int .i64 0, .int .i64 0, .int .i64 0, .int .i64 0, .int .i64 0]
 simp only [World.size_alloc, List.nil_append, List.cons_append] at hm0
 have HM0 := Lib.hid hm0
 clear hm0 ht
 go_enter Tryz.func122, Tryz.ntmps122
 go_wp2_with fail
 go_loopw [6] (fun v W => TnR w d P S K v W) (fun v _ => K - (intOf v).toNat)
 case atStart => exact ⟨0, rfl, by omega, HM0.out⟩
 case round =>
  obtain ⟨j, rfl, hj, hm⟩ := hrel
  have hj12 : j < 12 := by have := HK.out; omega
  by_cases hjl : j < K
  ·have hne : (7 * (j : Int) % 12 != (n : Int)) = true := by
    simp only [bne_iff_ne, ne_eq]
    have := HK.out
    omega
   have HRL := Lib.hid (TnR.of (K := K) (S := S) (P := P) (d := d) (j := j + 1) (by omega) hm)
   clear hm
   go_wp2
   go_roundw
   case rel => first | exact HRL.out | ((repeat apply Exists.intro); exact ⟨HRL.out, rfl⟩)
   case measure => simp [intOf]; omega
  ·obtain rfl : j = K := by omega
   have hne : (7 * (j : Int) % 12 != (n : Int)) = false := by
    simp only [bne_eq_false_iff_eq]
    have := HK.out
    omega
   have HMR := Lib.hid hm
   clear hm
   go_wp2_with (refine wpList_load_row rfl 38 _ rfl w.heap.size rfl 38 (cirL (cirP d P S)).toArray (0, 0) _ (HMR.out.at_ 0 rfl) Tryz.underlying38 rfl (by rw [infoCircle, List.size_toArray, cirL_len]) ?_)
   refine (HSU.out _).mono ?_
   rintro e w3 ⟨rfl, hb3⟩
   have hm3 := (HMR.out.step hb3).new 49 [.int .i64 x0, .int .i64 x1, .int .i64 x2, .int .i64 x3, .int .i64 x4, .int .i64 x5]
   simp only [List.nil_append, List.cons_append] at hm3
   have HM3 := Lib.hid hm3
   obtain ⟨a0, a1, a2, a3, a4, a5⟩ := six_of (hm3.at_ 2 rfl)
   clear hb3 hm3
   go_wp2_with fail
   refine (HRD.out _ (HT.out.below HM3.out.below)).mono ?_
   rintro e w4 ⟨rfl, hb4⟩
   clear a0 a1 a2 a3 a4 a5
   have hm4 := (HM3.out.step hb4).new 49 [.int .i64 n0, .int .i64 n1, .int .i64 x2, .int .i64 x3, .int .i64 x4, .int .i64 x5]
   simp only [List.nil_append, List.cons_append] at hm4
   have HM4 := Lib.hid hm4
   obtain ⟨a0, a1, a2, a3, a4, a5⟩ := six_of (hm4.at_ 3 rfl)
   clear hb4 hm4
   go_wp2_with fail
   refine (HL.out _).mono ?_
   rintro e w5 ⟨rfl, hb5⟩
   have hq5 := HM4.out.step hb5
   clear a0 a1 a2 a3 a4 a5
   obtain ⟨a0, a1, a2, a3, a4, a5⟩ := six_of (hq5.at_ 3 rfl)
   obtain ⟨z0, z1, z2, z3, z4, z5⟩ := six_of (hq5.at_ 1 rfl)
   obtain ⟨f0, f1, f2, f3, f4, f5⟩ := six_free (hq5.at_ 1 rfl)
   have HB := Lib.hid (fun a' b' c' d' x' y' => hq5.put6s 1 rfl a' b' c' d' x' y')
   clear hb5 hq5
   go_wp2
   exact bodyPost_ret (v := .tuple #[szv n0 n1 x2 x3 x4 x5, .int .i64 0]) (by simp [results, Tryz.results122, go_sem, z0, z1, z2, z3, z4, z5, f0, f1, f2, f3, f4, f5]) rfl ⟨rfl, HB.out _ _ _ _ _ _⟩
def ixE (C : Nat → Tm) (n : Int) : Int := if ckE C ≠ 0 then ckE C else if n < 0 ∨ 11 < n then 3 else 0
theorem plan_tm {d : Int} {P S : Nat → Int} (h : PlnC d P S) : ∀ i, i < 12 → Tm64 (cirP d P S i) := by
 intro i hi
 have hd := h.d
 have h2 := h.p i hi
 have h3 := h.s i hi
 have a := right_i64 (t_right_low (n := P i) (d := d) (by omega) (by omega))
 have b := right_i64 (t_right_low (n := S i) (d := d) (by omega) (by omega))
 exact ⟨a, b⟩
theorem rg_low {n d : Int} (hd : 1 ≤ d ∧ d ≤ 12) (hn : -11 ≤ n ∧ n ≤ 11) : rgP (lowN n d) (lowD n d) := by
 obtain ⟨g, hg, h1, h2, h3, _⟩ := low_mul n d (by omega)
 have ha : -12 ≤ lowN n d ∧ lowN n d ≤ 12 := by
  constructor
  ·by_cases c : -12 ≤ lowN n d
   ·exact c
   ·have : g * lowN n d ≤ 1 * lowN n d := Int.mul_le_mul_of_nonpos_right (by omega) (by omega)
    omega
  ·by_cases c : lowN n d ≤ 12
   ·exact c
   ·have : 1 * lowN n d ≤ g * lowN n d := Int.mul_le_mul_of_nonneg_right (by omega) (by omega)
    omega
 unfold rgP
 omega
theorem ckE_pl {d : Int} {P S : Nat → Int} (h : PlnC d P S) : ckE (cirP d P S) = 0 := by
 have hd := h.d
 have hr : ∀ i, i < 12 → (Right (lowN (P i) d) (lowD (P i) d) ∧ Right (lowN (S i) d) (lowD (S i) d)) := fun i hi => by
  have h2 := h.p i hi
  have h3 := h.s i hi
  exact ⟨t_right_low (by omega) (by omega), t_right_low (by omega) (by omega)⟩
 rw [ckE_end (fun j hj => tmE_ok (hr j hj) (by
  have h2 := h.p j hj
  have h3 := h.s j hj
  exact ⟨rg_low hd (by omega), rg_low hd (by omega)⟩))]
 have hq : ∀ q ∈ frsL (cirP d P S) 12, (Right q.1 q.2 ∧ q.2 ∣ d) := fun q hq => by
  unfold frsL at hq
  rw [List.mem_flatMap] at hq
  obtain ⟨j, hj, hq⟩ := hq
  have hj2 := List.mem_range.1 hj
  have hdv : ∀ n, lowD n d ∣ d := fun n => by
   obtain ⟨g, _, _, h2, _⟩ := low_mul n d (by omega)
   exact ⟨g, by rw [Int.mul_comm]; exact h2.symm⟩
  simp only [List.mem_cons, List.not_mem_nil, or_false] at hq
  rcases hq with rfl | rfl
  ·exact ⟨(hr j hj2).1, hdv _⟩
  ·exact ⟨(hr j hj2).2, hdv _⟩
 obtain ⟨D, e, _⟩ := prD_total (S := frsL (cirP d P S) 12) (x := 1) (M := d) (fun q h0 => by
  obtain ⟨a, b, c, e, _⟩ := (hq q h0).1
  exact ⟨⟨by omega, b⟩, c, e⟩) (by decide) (by omega) (Int.one_dvd d) (fun q h0 => (hq q h0).2)
 rw [if_neg (by rw [e]; simp)]
def eqZ (a0 a1 a2 a3 a4 a5 b0 b1 b2 b3 b4 b5 : Int) : Bool := a0 == b0 && (a1 == b1 && (a2 == b2 && (a3 == b3 && (a4 == b4 && a5 == b5))))
theorem eqZ_run (a0 a1 a2 a3 a4 a5 b0 b1 b2 b3 b4 b5 : Int) (W : World) :
  (if a0 = b0 then if a1 = b1 then if a2 = b2 then if a3 = b3 then if a4 = b4 then if a5 = b5 then Result.ok (Next.value (Value.bool true)) W else Result.ok (Next.value (Value.bool false)) W
   else Result.ok (Next.value (Value.bool false)) W else Result.ok (Next.value (Value.bool false)) W else Result.ok (Next.value (Value.bool false)) W else Result.ok (Next.value (Value.bool false)) W else Result.ok (Next.value (Value.bool false)) W) = Result.ok (Next.value (Value.bool (eqZ a0 a1 a2 a3 a4 a5 b0 b1 b2 b3 b4 b5))) W := by
 unfold eqZ
 repeat' split
 all_goals simp [*]
def abE (C : Nat → Tm) (n : Int) : Int := if ckE C ≠ 0 then ckE C else if n < 0 ∨ 36 < n then 3 else 0
set_option maxRecDepth 1000000 in
set_option maxHeartbeats 4000000 in
theorem tabove_any (C : Nat → Tm) (n : Int) (w : World) (hC : ∀ i, i < 12 → Tm64 (C i)) :
  Calls Tryz.prog 68 #[.agg (cirL C).toArray, .int .i64 n] w fun e w' => e = .returned (.int .i64 (abE C n)) ∧ Below w.heap.size w w' := by
 have HCK := Lib.hid (fun W => tcheck_any C W hC)
 have hx : ∀ c : Int, c = ckE C → abE C n = if c ≠ 0 then c else if n < 0 ∨ 36 < n then 3 else 0 := fun c hc => by subst hc; rfl
 obtain ⟨c, hc⟩ : ∃ c, c = ckE C := ⟨_, rfl⟩
 have HX := Lib.hid (hx c hc)
 rw [← hc] at HCK
 have hm0 := (Hp.start w).new 38 (cirL C)
 simp only [World.size_alloc, List.nil_append, List.cons_append] at hm0
 have HM0 := Lib.hid hm0
 clear hm0 hc hx
 go_enter Tryz.func68, Tryz.ntmps68
 go_wp2_with (refine wpList_load_row rfl 38 _ rfl w.heap.size rfl 38 (cirL C).toArray (0, 0) _ (HM0.out.at_ 0 rfl) Tryz.underlying38 rfl (by rw [infoCircle, List.size_toArray, cirL_len]) ?_)
 refine (HCK.out _).mono ?_
 rintro e w1 ⟨rfl, hb1⟩
 have HB := Lib.hid (HM0.out.step hb1).below
 clear hb1
 by_cases h0 : c = 0
 ·subst h0
  by_cases h1 : n < 0
  ·have HE := Lib.hid (HX.out.trans (by rw [if_neg (by simp), if_pos (Or.inl h1)]))
   go_wp2
   exact bodyPost_ret (v := .int .i64 3) (by simp [results, Tryz.results68, go_sem]) rfl ⟨by rw [HE.out], HB.out⟩
  ·by_cases h2 : 36 < n
   ·have HE := Lib.hid (HX.out.trans (by rw [if_neg (by simp), if_pos (Or.inr h2)]))
    go_wp2
    exact bodyPost_ret (v := .int .i64 3) (by simp [results, Tryz.results68, go_sem]) rfl ⟨by rw [HE.out], HB.out⟩
   ·have HE := Lib.hid (HX.out.trans (by rw [if_neg (by simp), if_neg (by omega)]))
    go_wp2
    exact bodyPost_ret (v := .int .i64 0) (by simp [results, Tryz.results68, go_sem]) rfl ⟨by rw [HE.out], HB.out⟩
 ·have HE := Lib.hid (HX.out.trans (by rw [if_pos h0]))
  have hz : (c != 0) = true := by simpa using h0
  clear h0
  go_wp2
  exact bodyPost_ret (v := .int .i64 c) (by simp [results, Tryz.results68, go_sem]) rfl ⟨by rw [HE.out], HB.out⟩
abbrev i64z : Int → Value := fun x => .int .i64 x
theorem infoIntZ : (Tryz.prog.info? 3).map (fun i => (i.zero, i.size, i.bytes)) = some (some (.int .i64 0), 1, 8) := by kernel_rfl
theorem own_bl {w w' : World} {base : Nat} {e : TypeId} {size n : Nat} {v : Value} {xs : List Value} (h : w.ownsRow base e size v n xs) (hb : Below w.heap.size w w') : w'.ownsRow base e size v n xs := by
 refine ⟨h.1, ?_⟩
 rcases h.2 with h0 | ⟨g, cap, cur, hv, hbs, hg, hr⟩
 ·exact .inl h0
 ·refine .inr ⟨g, cap, cur, hv, hbs, ?_, hr⟩
  have hlt : g < w.heap.size := (Array.getElem?_eq_some_iff.1 hg).1
  exact (hb.block g hlt).trans hg
theorem own_lw {w : World} {base base' : Nat} {e : TypeId} {size n : Nat} {v : Value} {xs : List Value} (h : w.ownsRow base e size v n xs) (hb : base' ≤ base) : w.ownsRow base' e size v n xs := by
 refine ⟨h.1, ?_⟩
 rcases h.2 with h0 | ⟨g, cap, cur, hv, hbs, hg, hr⟩
 ·exact .inl h0
 ·exact .inr ⟨g, cap, cur, hv, by omega, hg, hr⟩
theorem Hp.grw {w W W' : World} {L : List (Nat × TypeId × List Value)} (h : Hp w L W) {row : Option Nat} (hg : W.grownBy W' row) (hr : ∀ q, row = some q → w.heap.size ≤ q ∧ ∀ p ∈ L, p.1 ≠ q) : Hp w L W' :=
 ⟨h.below.grown hg h.below.size (fun k e => (hr k e).1), fun p hp => ⟨(hg.block p.1 (h.blk p hp).1.lt (fun e => (hr _ e.symm).2 p hp rfl)).trans (h.blk p hp).1, (h.blk p hp).2⟩, h.apart⟩
def lsB (B : Nat → Bool) (k : Nat) : List Int := ((List.range k).filter B).map fun n : Nat => (n : Int)
theorem lsB_succ (B : Nat → Bool) (k : Nat) : lsB B (k + 1) = lsB B k ++ if B k = true then [(k : Int)] else [] := by
 unfold lsB
 rw [List.range_succ, List.filter_append, List.map_append, List.filter_cons]
 cases B k <;> simp
theorem lsB_len (B : Nat → Bool) (k : Nat) : (lsB B k).length ≤ k := by
 unfold lsB
 rw [List.length_map]
 have := List.length_filter_le B (List.range k)
 rwa [List.length_range] at this
set_option maxRecDepth 1000000 in
set_option maxHeartbeats 4000000 in
theorem tPure_gen (C : Nat → Tm) (n s0 s1 s2 s3 s4 s5 : Int) (b0 b1 b2 b3 b4 b5 : Nat → Int) (B : Nat → Bool) (w : World) (ht : Tab w) (hn : 0 ≤ n ∧ n ≤ 36)
  (hC : ∀ i, i < 12 → Tm64 (C i)) (hk : abE C n = 0)
  (hs : ∀ W, Calls Tryz.prog 44 #[szv s0 s1 s2 s3 s4 s5] W fun e w' => e = .returned (.int .i64 0) ∧ Below W.heap.size W w')
  (hB : ∀ (k : Nat) (W : World), k < 12 → Tab W → Calls Tryz.prog 69 #[.agg (cirL C).toArray, .int .i64 (k : Int), .int .i64 ((k : Int) + n)] W fun e w' => e = .returned (.tuple #[szv (b0 k) (b1 k) (b2 k) (b3 k) (b4 k) (b5 k), .int .i64 0]) ∧ Below W.heap.size W w')
  (he : ∀ k : Nat, k < 12 → B k = eqZ (b0 k) (b1 k) (b2 k) (b3 k) (b4 k) (b5 k) s0 s1 s2 s3 s4 s5) :
  Calls Tryz.prog 34 #[.agg (cirL C).toArray, .int .i64 n, szv s0 s1 s2 s3 s4 s5] w fun e w' => ∃ (A : Option Addr) (c : Nat), e = .returned (.tuple #[.slice A (lsB B 12).length c, .int .i64 0]) ∧ w'.ownsRow w.heap.size 3 1 (.slice A (lsB B 12).length c) (lsB B 12).length ((lsB B 12).map i64z) ∧ Below w.heap.size w w' := by
 have hck := fun W => tabove_any C n W hC
 rw [hk] at hck
 have HCK := Lib.hid hck
 have HS := Lib.hid hs
 have HBT := Lib.hid hB
 have HEQ := Lib.hid he
 have HT := Lib.hid ht
 obtain ⟨hn0, hn1⟩ := hn
 have hm0 := ((Hp.start w).new 38 (cirL C)).new 49 [.int .i64 s0, .int .i64 s1, .int .i64 s2, .int .i64 s3, .int .i64 s4, .int .i64 s5]
 simp only [World.size_alloc, List.nil_append, List.cons_append] at hm0
 have HM0 := Lib.hid hm0
 obtain ⟨i0, hi, hz0, hz1, hz2⟩ := info_parts infoIntZ
 have HI0 := Lib.hid hi
 have HZ0 := Lib.hid hz0
 have HZ1 := Lib.hid hz1
 have HZ2 := Lib.hid hz2
 clear hm0 hs hB he ht hck hk hi hz0 hz1 hz2
 go_enter Tryz.func34, Tryz.ntmps34
 go_wp2_with (refine wpList_load_row rfl 38 _ rfl w.heap.size rfl 38 (cirL C).toArray (0, 0) _ (HM0.out.at_ 0 rfl) Tryz.underlying38 rfl (by rw [infoCircle, List.size_toArray, cirL_len]) ?_)
 refine (HCK.out _).mono ?_
 rintro e w1 ⟨rfl, hb1⟩
 have hm1 := HM0.out.step hb1
 have HM1 := Lib.hid hm1
 obtain ⟨y0, y1, y2, y3, y4, y5⟩ := six_of (hm1.at_ 1 rfl)
 clear hb1 hm1
 go_wp2_with fail
 refine (HS.out _).mono ?_
 rintro e w2 ⟨rfl, hb2⟩
 have HM2 := Lib.hid (HM1.out.step hb2)
 clear hb2 y0 y1 y2 y3 y4 y5
 go_wp2_with fail
 go_loopw [10, 25] (fun u v wx => ∃ (k : Nat) (A : Option Addr) (c : Nat), k ≤ 12 ∧ v = .int .i64 (k : Int) ∧ u = .slice A (lsB B k).length c ∧ wx.ownsRow (w.heap.size + 2) 3 1 (.slice A (lsB B k).length c) (lsB B k).length ((lsB B k).map i64z) ∧ Hp w [(w.heap.size, 38, cirL C), (w.heap.size + 1, 49, [.int .i64 s0, .int .i64 s1, .int .i64 s2, .int .i64 s3, .int .i64 s4, .int .i64 s5])] wx ∧ w.heap.size + 2 ≤ wx.heap.size) (fun _ v _ => 12 - (intOf v).toNat)
 case atStart => exact ⟨0, none, 0, by omega, rfl, rfl, World.ownsRow_nil _ _ _ _, HM2.out, by have := (HM2.out.at_ 1 rfl).lt; omega⟩
 case round =>
  obtain ⟨k, A, c, hk, rfl, rfl, hown, hm, hsz⟩ := hrel
  obtain ⟨l, hl⟩ : ∃ l, l = lsB B k := ⟨_, rfl⟩
  have hll : l.length ≤ 12 := by rw [hl]; exact Nat.le_trans (lsB_len _ _) hk
  rw [← hl] at hown ⊢
  obtain ⟨m, hmm⟩ : ∃ m, m = l.length := ⟨_, rfl⟩
  rw [← hmm] at hown hll ⊢
  have HO := Lib.hid hown
  have HMR := Lib.hid hm
  have HL := Lib.hid (And.intro hl hmm)
  clear hown hm hl hmm
  by_cases hlt : k < 12
  ·have HBK := Lib.hid (fun W hT => HBT.out k W hlt hT)
   have heq := HEQ.out k hlt
   obtain ⟨x0, hx0⟩ : ∃ x, x = b0 k := ⟨_, rfl⟩
   obtain ⟨x1, hx1⟩ : ∃ x, x = b1 k := ⟨_, rfl⟩
   obtain ⟨x2, hx2⟩ : ∃ x, x = b2 k := ⟨_, rfl⟩
   obtain ⟨x3, hx3⟩ : ∃ x, x = b3 k := ⟨_, rfl⟩
   obtain ⟨x4, hx4⟩ : ∃ x, x = b4 k := ⟨_, rfl⟩
   obtain ⟨x5, hx5⟩ : ∃ x, x = b5 k := ⟨_, rfl⟩
   rw [← hx0, ← hx1, ← hx2, ← hx3, ← hx4, ← hx5] at HBK heq
   clear hx0 hx1 hx2 hx3 hx4 hx5
   have HLS := Lib.hid (lsB_succ B k)
   obtain ⟨z, hz⟩ : ∃ z : Int, z = (k : Int) := ⟨_, rfl⟩
   rw [← hz] at HBK
   have HEK := Lib.hid heq
   have HZK := Lib.hid hz
   have hz12 : 0 ≤ z ∧ z < 12 := by omega
   rw [← hz]
   clear hz heq
   go_wp2_with (refine wpList_load_row rfl 38 _ rfl w.heap.size rfl 38 (cirL C).toArray (0, 0) _ (HMR.out.at_ 0 rfl) Tryz.underlying38 rfl (by rw [infoCircle, List.size_toArray, cirL_len]) ?_)
   refine (HBK.out _ (HT.out.below HMR.out.below)).mono ?_
   rintro e w3 ⟨rfl, hb3⟩
   have hm3 := (HMR.out.step hb3).new 49 [.int .i64 x0, .int .i64 x1, .int .i64 x2, .int .i64 x3, .int .i64 x4, .int .i64 x5]
   simp only [List.nil_append, List.cons_append] at hm3
   obtain ⟨y0, y1, y2, y3, y4, y5⟩ := six_of (hm3.at_ 1 rfl)
   obtain ⟨u0, u1, u2, u3, u4, u5⟩ := six_of (hm3.at_ 2 rfl)
   have HO3 := Lib.hid (own_bl (own_bl HO.out hb3) (bw_new (Below.refl _ _) (.cells #[.int .i64 x0, .int .i64 x1, .int .i64 x2, .int .i64 x3, .int .i64 x4, .int .i64 x5] 49)))
   have HM3 := Lib.hid (hm3.sub (L' := [(w.heap.size, 38, cirL C), (w.heap.size + 1, 49, [.int .i64 s0, .int .i64 s1, .int .i64 s2, .int .i64 s3, .int .i64 s4, .int .i64 s5])]) (by simp))
   have hsz3 : w.heap.size + 2 ≤ w3.heap.size := Nat.le_trans hsz hb3.size
   clear hb3 hm3
   cases hbk : B k with
   | true =>
    have hE : eqZ x0 x1 x2 x3 x4 x5 s0 s1 s2 s3 s4 s5 = true := by rw [← HEK.out, hbk]
    rw [hbk, if_pos rfl] at HLS
    clear hbk
    go_wp2_with (first
     | (rw [eqZ_run, hE])
     | (at_builtin; refine wpList_append_own _ rfl _ _ 83 rfl (w.heap.size + 2) 3 i0 (.int .i64 0) 1 8 Tryz.underlying83 HI0.out HZ0.out HZ1.out HZ2.out rfl (by decide) _ _ _ rfl (own_bl HO3.out (bw_new (Below.refl _ _) _)) ⟨w3.heap.size + 1, 0, none⟩ 1 1 [.int .i64 z] rfl rfl ?cells (by simp [Value.oneCell']) (by unfold maxLen; omega) (by omega) (by simp; omega) ?_))
    case cells =>
     have hcn := heap_alloc_new (w3.alloc (.cells #[.int .i64 x0, .int .i64 x1, .int .i64 x2, .int .i64 x3, .int .i64 x4, .int .i64 x5] 49)) (.cells #[.int .i64 z] 3)
     rw [World.size_alloc] at hcn
     exact World.news_of_block (cs := #[.int .i64 z]) (t := 3) (fr := (0, 0)) hcn
    intro v' w4 hown hgrow _
    obtain ⟨g, rc2, hv, hrc2⟩ := own_form hown (by omega)
    subst hv
    have hm4 : Hp w [(w.heap.size, 38, cirL C), (w.heap.size + 1, 49, [.int .i64 s0, .int .i64 s1, .int .i64 s2, .int .i64 s3, .int .i64 s4, .int .i64 s5])] w4 := (HM3.out.alloc _).grw hgrow (fun q hq => by
     have := (HO3.out.lt _ hq).1
     refine ⟨by omega, fun p hp => ?_⟩
     simp only [List.mem_cons, List.not_mem_nil, or_false] at hp
     rcases hp with rfl | rfl
     ·show w.heap.size ≠ q; omega
     ·show w.heap.size + 1 ≠ q; omega)
    have HM4 := Lib.hid hm4
    have hs4 := hgrow.size
    rw [World.size_alloc, World.size_alloc] at hs4
    have HO4 := Lib.hid hown
    clear hown hgrow hm4 hE y0 y1 y2 y3 y4 y5 u0 u1 u2 u3 u4 u5
    go_wp2
    go_roundw
    case rel =>
     obtain ⟨rfl, rfl⟩ := HL.out
     have hzk := HZK.out
     have e : lsB B (k + 1) = lsB B k ++ [z] := by rw [HLS.out, hzk]
     refine ⟨k + 1, _, _, by omega, by rw [hzk]; go_num, by rw [e, List.length_append]; rfl, ?_, HM4.out, by omega⟩
     rw [e, List.length_append, List.map_append]
     exact HO4.out
    case measure => simp [intOf]; have := HZK.out; omega
   | false =>
    have hE : eqZ x0 x1 x2 x3 x4 x5 s0 s1 s2 s3 s4 s5 = false := by rw [← HEK.out, hbk]
    rw [hbk] at HLS
    clear hbk
    go_wp2_with (rw [eqZ_run, hE])
    go_roundw
    case rel =>
     obtain ⟨rfl, rfl⟩ := HL.out
     have hzk := HZK.out
     have e : lsB B (k + 1) = lsB B k := by rw [HLS.out]; simp
     refine ⟨k + 1, _, _, by omega, by rw [hzk]; go_num, by rw [e], ?_, HM3.out, by rw [World.size_alloc]; omega⟩
     rw [e]
     exact HO3.out
    case measure => simp [intOf]; have := HZK.out; omega
  ·obtain rfl : k = 12 := by omega
   go_wp2
   obtain ⟨rfl, rfl⟩ := HL.out
   exact bodyPost_ret (v := .tuple #[.slice A (lsB B 12).length c, .int .i64 0]) (by simp [results, Tryz.results34, go_sem]) rfl ⟨A, c, rfl, own_lw HO.out (by omega), HMR.out.below⟩
set_option maxRecDepth 1000000 in
set_option maxHeartbeats 4000000 in
theorem tplace_gen (C : Nat → Tm) (n m q : Nat) (n0 n1 n2 n3 n4 n5 o0 o1 o2 o3 o4 o5 a0 a1 a2 a3 a4 a5 : Int) (w : World) (ht : Tab w) (hn : n < 1000) (hm : n % 12 = m) (hq : n / 12 = q)
  (hN : ∀ W, Tab W → Calls Tryz.prog 122 #[.agg (cirL C).toArray, .int .i64 (m : Int)] W fun e w' => e = .returned (.tuple #[szv n0 n1 n2 n3 n4 n5, .int .i64 0]) ∧ Below W.heap.size W w')
  (hO : ∀ W, Calls Tryz.prog 124 #[.int .i64 (q : Int)] W fun e w' => e = .returned (szv o0 o1 o2 o3 o4 o5) ∧ Below W.heap.size W w')
  (hA : ∀ W, Calls Tryz.prog 123 #[szv n0 n1 n2 n3 n4 n5, szv o0 o1 o2 o3 o4 o5] W fun e w' => e = .returned (.tuple #[szv a0 a1 a2 a3 a4 a5, .int .i64 0]) ∧ Below W.heap.size W w') :
  Calls Tryz.prog 100 #[.agg (cirL C).toArray, .int .i64 (n : Int)] w fun e w' => e = .returned (.tuple #[szv a0 a1 a2 a3 a4 a5, .int .i64 0]) ∧ Below w.heap.size w w' := by
 have HN := Lib.hid hN
 have HO := Lib.hid hO
 have HA := Lib.hid hA
 have HT := Lib.hid ht
 have HL := Lib.hid (fun W => tlimited_any a0 a1 a2 a3 a4 a5 0 W)
 unfold limV at HL
 rw [if_pos rfl] at HL
 have hm0 := ((Hp.start w).new 38 (cirL C)).new 49 [.int .i64 0, .int .i64 0, .int .i64 0, .int .i64 0, .int .i64 0, .int .i64 0]
 simp only [World.size_alloc, List.nil_append, List.cons_append] at hm0
 have HM0 := Lib.hid hm0
 clear hm0 ht hN hO hA
 obtain ⟨x, hx⟩ : ∃ x : Int, x = (n : Int) := ⟨_, rfl⟩
 obtain ⟨y, hy⟩ : ∃ y : Int, y = (m : Int) := ⟨_, rfl⟩
 obtain ⟨z, hz⟩ : ∃ z : Int, z = (q : Int) := ⟨_, rfl⟩
 have hxy : x.tmod 12 = y := by rw [Int.tmod_eq_emod_of_nonneg (by omega)]; omega
 have hxz : x.tdiv 12 = z := by rw [Int.tdiv_eq_ediv_of_nonneg (by omega)]; omega
 have hx0 : 0 ≤ x ∧ x < 1000 := by omega
 have hzw : IntKind.i64.wrap z = z := IntWalk.i64_in _ (by omega)
 rw [← hx]
 rw [← hy] at HN
 rw [← hz] at HO
 clear hx hy hz hm hq hn
 go_enter Tryz.func100, Tryz.ntmps100
 go_wp2_with (refine wpList_load_row rfl 38 _ rfl w.heap.size rfl 38 (cirL C).toArray (0, 0) _ (HM0.out.at_ 0 rfl) Tryz.underlying38 rfl (by rw [infoCircle, List.size_toArray, cirL_len]) ?_)
 refine (HN.out _ (HT.out.below HM0.out.below)).mono ?_
 rintro e w1 ⟨rfl, hb1⟩
 have hm1 := (HM0.out.step hb1).new 49 [.int .i64 n0, .int .i64 n1, .int .i64 n2, .int .i64 n3, .int .i64 n4, .int .i64 n5]
 simp only [List.nil_append, List.cons_append] at hm1
 have HM1 := Lib.hid hm1
 clear hb1 hm1
 go_upto_region 4 with fail
 refine wp_regionJ 12 #[false, false, false, false, false, false, false, false, false, false, false, false] (fun l a W => ∃ (m0 m1 m2 m3 m4 m5 m6 m7 m8 m9 m10 m11 : Bool), l = #[m0, m1, m2, m3, m4, m5, m6, m7, m8, m9, m10, m11] ∧ a = ({ tmps := #[Value.agg (cirL C).toArray, Value.int IntKind.i64 x, Value.pointer (some { block := w.heap.size, off := 0 }), undef, Value.pointer (some { block := w.heap.size + 1, off := 0 }), Value.int IntKind.i64 0, Value.pointer (some { block := w1.heap.size, off := 0 }), Value.int IntKind.i64 0, Value.tuple #[szv n0 n1 n2 n3 n4 n5, Value.int IntKind.i64 0], Value.agg (cirL C).toArray, Value.int IntKind.i64 x, Value.int IntKind.i64 y, Value.tuple #[szv n0 n1 n2 n3 n4 n5, Value.int IntKind.i64 0], szv n0 n1 n2 n3 n4 n5, Value.int IntKind.i64 0, Value.int IntKind.i64 0, Value.bool false, undef, undef, cwX m0 (szv n0 n1 n2 n3 n4 n5) (undef), cwX m1 (.int .i64 x) (undef), cwX m2 (.int .i64 z) (undef), cwX m3 (szv o0 o1 o2 o3 o4 o5) (undef), cwX m4 (.tuple #[szv a0 a1 a2 a3 a4 a5, .int .i64 0]) (undef), cwX m5 (szv a0 a1 a2 a3 a4 a5) (undef), cwX m6 (.int .i64 0) (undef), cwX m7 (.tuple #[szv a0 a1 a2 a3 a4 a5, .int .i64 0]) (undef), cwX m8 (szv a0 a1 a2 a3 a4 a5) (undef), cwX m9 (.int .i64 0) (undef)], defers := [] } : Act) ∧ (True) ∧ Hp w [(w.heap.size, 38, cirL C), (w.heap.size + 1, 49, bif m10 then [.int .i64 a0, .int .i64 a1, .int .i64 a2, .int .i64 a3, .int .i64 a4, .int .i64 a5] else [.int .i64 0, .int .i64 0, .int .i64 0, .int .i64 0, .int .i64 0, .int .i64 0]), (w1.heap.size, 49, [.int .i64 n0, .int .i64 n1, .int .i64 n2, .int .i64 n3, .int .i64 n4, .int .i64 n5])] W) (by kernel_rfl) (by kernel_rfl) (by kernel_rfl) (by kernel_rfl) ?_ ?_ ?_ ?_
 ·rintro l a W ⟨m0, m1, m2, m3, m4, m5, m6, m7, m8, m9, m10, m11, rfl, _⟩
  rfl
 ·exact ⟨false, false, false, false, false, false, false, false, false, false, false, false, rfl, rfl, trivial, HM1.out.drew⟩
 ·rintro l a W i o ⟨m0, m1, m2, m3, m4, m5, m6, m7, m8, m9, m10, m11, rfl, rfl, hi0, hm⟩ ho hun hall K hK
  have hi : i < 12 := (Array.getElem?_eq_some_iff.1 ho).1
  have HM := Lib.hid hm
  have HI := Lib.hid hi0
  clear hm hi0
  rcases (show i = 0 ∨ i = 1 ∨ i = 2 ∨ i = 3 ∨ i = 4 ∨ i = 5 ∨ i = 6 ∨ i = 7 ∨ i = 8 ∨ i = 9 ∨ i = 10 ∨ i = 11 by omega) with rfl | rfl | rfl | rfl | rfl | rfl | rfl | rfl | rfl | rfl | rfl | rfl
  ·cases ho
   simp at hun; subst hun
   clear hall hi
   obtain ⟨y0, y1, y2, y3, y4, y5⟩ := six_of (HM.out.at_ 2 rfl)
   go_simp
   exact hK.out _ _ ⟨true, m1, m2, m3, m4, m5, m6, m7, m8, m9, m10, m11, rfl, rfl, trivial, HM.out⟩
  ·cases ho
   simp at hun; subst hun
   clear hall hi
   go_simp
   exact hK.out _ _ ⟨m0, true, m2, m3, m4, m5, m6, m7, m8, m9, m10, m11, rfl, rfl, trivial, HM.out⟩
  ·cases ho
   cases (getBX hall 1 rfl : m1 = true)
   simp at hun; subst hun
   clear hall hi
   go_simp
   exact hK.out _ _ ⟨m0, true, true, m3, m4, m5, m6, m7, m8, m9, m10, m11, rfl, rfl, trivial, HM.out⟩
  ·cases ho
   cases (getBX hall 2 rfl : m2 = true)
   simp at hun; subst hun
   clear hall hi
   go_simp
   refine (HO.out _).mono ?_
   rintro e W' ⟨rfl, hb⟩
   exact hK.out _ _ ⟨m0, m1, true, true, m4, m5, m6, m7, m8, m9, m10, m11, rfl, rfl, trivial, HM.out.step hb⟩
  ·cases ho
   cases (getBX hall 0 rfl : m0 = true)
   cases (getBX hall 3 rfl : m3 = true)
   simp at hun; subst hun
   clear hall hi
   go_simp
   refine (HA.out _).mono ?_
   rintro e W' ⟨rfl, hb⟩
   exact hK.out _ _ ⟨true, m1, m2, true, true, m5, m6, m7, m8, m9, m10, m11, rfl, rfl, trivial, HM.out.step hb⟩
  ·cases ho
   cases (getBX hall 4 rfl : m4 = true)
   simp at hun; subst hun
   clear hall hi
   go_simp
   exact hK.out _ _ ⟨m0, m1, m2, m3, true, true, m6, m7, m8, m9, m10, m11, rfl, rfl, trivial, HM.out⟩
  ·cases ho
   cases (getBX hall 4 rfl : m4 = true)
   simp at hun; subst hun
   clear hall hi
   go_simp
   exact hK.out _ _ ⟨m0, m1, m2, m3, true, m5, true, m7, m8, m9, m10, m11, rfl, rfl, trivial, HM.out⟩
  ·cases ho
   cases (getBX hall 5 rfl : m5 = true)
   cases (getBX hall 6 rfl : m6 = true)
   simp at hun; subst hun
   clear hall hi
   go_simp
   refine (HL.out _).mono ?_
   rintro e W' ⟨rfl, hb⟩
   exact hK.out _ _ ⟨m0, m1, m2, m3, m4, true, true, true, m8, m9, m10, m11, rfl, rfl, trivial, HM.out.step hb⟩
  ·cases ho
   cases (getBX hall 7 rfl : m7 = true)
   simp at hun; subst hun
   clear hall hi
   go_simp
   exact hK.out _ _ ⟨m0, m1, m2, m3, m4, m5, m6, true, true, m9, m10, m11, rfl, rfl, trivial, HM.out⟩
  ·cases ho
   cases (getBX hall 7 rfl : m7 = true)
   simp at hun; subst hun
   clear hall hi
   go_simp
   exact hK.out _ _ ⟨m0, m1, m2, m3, m4, m5, m6, true, m8, true, m10, m11, rfl, rfl, trivial, HM.out⟩
  ·cases ho
   cases (getBX hall 8 rfl : m8 = true)
   simp at hun; subst hun
   clear hall hi
   have z0 : W.cell? ⟨w.heap.size + 1, 0, none⟩ = some (.int .i64 0) := (HM.out.at_ 1 rfl).cell 0
   have f0 := (HM.out.at_ 1 rfl).frozen 0
   have z1 : W.cell? ⟨w.heap.size + 1, 1, none⟩ = some (.int .i64 0) := (HM.out.at_ 1 rfl).cell 1
   have f1 := (HM.out.at_ 1 rfl).frozen 1
   have z2 : W.cell? ⟨w.heap.size + 1, 2, none⟩ = some (.int .i64 0) := (HM.out.at_ 1 rfl).cell 2
   have f2 := (HM.out.at_ 1 rfl).frozen 2
   have z3 : W.cell? ⟨w.heap.size + 1, 3, none⟩ = some (.int .i64 0) := (HM.out.at_ 1 rfl).cell 3
   have f3 := (HM.out.at_ 1 rfl).frozen 3
   have z4 : W.cell? ⟨w.heap.size + 1, 4, none⟩ = some (.int .i64 0) := (HM.out.at_ 1 rfl).cell 4
   have f4 := (HM.out.at_ 1 rfl).frozen 4
   have z5 : W.cell? ⟨w.heap.size + 1, 5, none⟩ = some (.int .i64 0) := (HM.out.at_ 1 rfl).cell 5
   have f5 := (HM.out.at_ 1 rfl).frozen 5
   have HN := Lib.hid (HM.out.put6 1 rfl (.int .i64 a0) (.int .i64 a1) (.int .i64 a2) (.int .i64 a3) (.int .i64 a4) (.int .i64 a5))
   go_simp
   exact hK.out _ _ ⟨m0, m1, m2, m3, m4, m5, m6, m7, true, m9, true, m11, rfl, rfl, trivial, HN.out⟩
  ·cases ho
   cases (getBX hall 9 rfl : m9 = true)
   simp at hun; subst hun
   clear hall hi
   go_simp
   exact hK.out _ _ ⟨m0, m1, m2, m3, m4, m5, m6, m7, m8, true, m10, true, rfl, rfl, trivial, HM.out⟩
 ·rintro l a W ⟨m0, m1, m2, m3, m4, m5, m6, m7, m8, m9, m10, m11, rfl, rfl, _, hm⟩ hall
  cases (hall 0 (by decide) : m0 = true)
  cases (hall 1 (by decide) : m1 = true)
  cases (hall 2 (by decide) : m2 = true)
  cases (hall 3 (by decide) : m3 = true)
  cases (hall 4 (by decide) : m4 = true)
  cases (hall 5 (by decide) : m5 = true)
  cases (hall 6 (by decide) : m6 = true)
  cases (hall 7 (by decide) : m7 = true)
  cases (hall 8 (by decide) : m8 = true)
  cases (hall 9 (by decide) : m9 = true)
  cases (hall 10 (by decide) : m10 = true)
  cases (hall 11 (by decide) : m11 = true)
  clear hall
  have HQ : Hid (Hp w [(w.heap.size, 38, cirL C), (w.heap.size + 1, 49, [.int .i64 a0, .int .i64 a1, .int .i64 a2, .int .i64 a3, .int .i64 a4, .int .i64 a5]), (w1.heap.size, 49, [.int .i64 n0, .int .i64 n1, .int .i64 n2, .int .i64 n3, .int .i64 n4, .int .i64 n5])] _) := Lib.hid hm
  clear hm
  dsimp only [cwX, cond_true]
  have hq := HQ.out
  obtain ⟨z0, z1, z2, z3, z4, z5⟩ := six_of (hq.at_ 1 rfl)
  obtain ⟨f0, f1, f2, f3, f4, f5⟩ := six_free (hq.at_ 1 rfl)
  have HB := Lib.hid hq.below
  clear hq
  go_wp2
  exact bodyPost_ret (v := .tuple #[szv a0 a1 a2 a3 a4 a5, .int .i64 0]) (by simp [results, Tryz.results100, go_sem, z0, z1, z2, z3, z4, z5, f0, f1, f2, f3, f4, f5]) rfl ⟨rfl, HB.out⟩
set_option maxRecDepth 1000000 in
set_option maxHeartbeats 4000000 in
theorem tbetween_gen (C : Nat → Tm) (m n : Nat) (p0 p1 p2 p3 p4 p5 q0 q1 q2 q3 q4 q5 s0 s1 s2 s3 s4 s5 : Int) (w : World) (ht : Tab w)
  (hM : ∀ W, Tab W → Calls Tryz.prog 100 #[.agg (cirL C).toArray, .int .i64 (m : Int)] W fun e w' => e = .returned (.tuple #[szv p0 p1 p2 p3 p4 p5, .int .i64 0]) ∧ Below W.heap.size W w')
  (hN : ∀ W, Tab W → Calls Tryz.prog 100 #[.agg (cirL C).toArray, .int .i64 (n : Int)] W fun e w' => e = .returned (.tuple #[szv q0 q1 q2 q3 q4 q5, .int .i64 0]) ∧ Below W.heap.size W w')
  (hS : ∀ W, Calls Tryz.prog 102 #[szv q0 q1 q2 q3 q4 q5, szv p0 p1 p2 p3 p4 p5] W fun e w' => e = .returned (.tuple #[szv s0 s1 s2 s3 s4 s5, .int .i64 0]) ∧ Below W.heap.size W w') :
  Calls Tryz.prog 69 #[.agg (cirL C).toArray, .int .i64 (m : Int), .int .i64 (n : Int)] w fun e w' => e = .returned (.tuple #[szv s0 s1 s2 s3 s4 s5, .int .i64 0]) ∧ Below w.heap.size w w' := by
 have HM := Lib.hid hM
 have HN := Lib.hid hN
 have HS := Lib.hid hS
 have HT := Lib.hid ht
 have HL := Lib.hid (fun W => tlimited_any s0 s1 s2 s3 s4 s5 0 W)
 unfold limV at HL
 rw [if_pos rfl] at HL
 have hm0 := ((Hp.start w).new 38 (cirL C)).new 49 [.int .i64 0, .int .i64 0, .int .i64 0, .int .i64 0, .int .i64 0, .int .i64 0]
 simp only [World.size_alloc, List.nil_append, List.cons_append] at hm0
 have HM0 := Lib.hid hm0
 clear hm0 ht hM hN hS
 go_enter Tryz.func69, Tryz.ntmps69
 go_wp2_with (refine wpList_load_row rfl 38 _ rfl w.heap.size rfl 38 (cirL C).toArray (0, 0) _ (HM0.out.at_ 0 rfl) Tryz.underlying38 rfl (by rw [infoCircle, List.size_toArray, cirL_len]) ?_)
 refine (HM.out _ (HT.out.below HM0.out.below)).mono ?_
 rintro e w1 ⟨rfl, hb1⟩
 have hm1 := (HM0.out.step hb1).new 49 [.int .i64 p0, .int .i64 p1, .int .i64 p2, .int .i64 p3, .int .i64 p4, .int .i64 p5]
 simp only [List.nil_append, List.cons_append] at hm1
 have HM1 := Lib.hid hm1
 clear hb1 hm1
 go_wp2_with (refine wpList_load_row rfl 38 _ rfl w.heap.size rfl 38 (cirL C).toArray (0, 0) _ (HM1.out.at_ 0 rfl) Tryz.underlying38 rfl (by rw [infoCircle, List.size_toArray, cirL_len]) ?_)
 refine (HN.out _ (HT.out.below HM1.out.below)).mono ?_
 rintro e w2 ⟨rfl, hb2⟩
 have hm2 := (HM1.out.step hb2).new 49 [.int .i64 q0, .int .i64 q1, .int .i64 q2, .int .i64 q3, .int .i64 q4, .int .i64 q5]
 simp only [List.nil_append, List.cons_append] at hm2
 have HM2 := Lib.hid hm2
 obtain ⟨y0, y1, y2, y3, y4, y5⟩ := six_of (hm2.at_ 2 rfl)
 obtain ⟨x0, x1, x2, x3, x4, x5⟩ := six_of (hm2.at_ 3 rfl)
 clear hb2 hm2
 go_wp2_with fail
 refine (HS.out _).mono ?_
 rintro e w3 ⟨rfl, hb3⟩
 have HM3 := Lib.hid (HM2.out.step hb3)
 clear hb3 x0 x1 x2 x3 x4 x5 y0 y1 y2 y3 y4 y5
 go_wp2_with fail
 refine (HL.out _).mono ?_
 rintro e w4 ⟨rfl, hb4⟩
 have hq := HM3.out.step hb4
 obtain ⟨z0, z1, z2, z3, z4, z5⟩ := six_of (hq.at_ 1 rfl)
 obtain ⟨f0, f1, f2, f3, f4, f5⟩ := six_free (hq.at_ 1 rfl)
 have HB := Lib.hid (hq.put6s 1 rfl (.int .i64 s0) (.int .i64 s1) (.int .i64 s2) (.int .i64 s3) (.int .i64 s4) (.int .i64 s5))
 clear hb4 hq
 go_wp2
 exact bodyPost_ret (v := .tuple #[szv s0 s1 s2 s3 s4 s5, .int .i64 0]) (by simp [results, Tryz.results69, go_sem, z0, z1, z2, z3, z4, z5, f0, f1, f2, f3, f4, f5]) rfl ⟨rfl, HB.out⟩
end Go.Proofs.YtendjepcjmfmfaaGreatDoor
