/- Part 32 of 47 of the proof of the law: contracts of the functions that it reaches, and plain facts. Conditions: those that each contract names. -/
import Derived.Test.YtendjepcjmfmfaaGreatDoorOrdB30
import Derived.Test.YtendjepcjmfmfaaGreatDoorOrdB31
import Derived.Deep.AppendLies
import Derived.OwnWalk
import Derived.Deep.QuietTactic
import Derived.BigQuiet
import Derived.Test.YtendjepcjmfmfaaGreatDoorOrdB28
import Derived.Test.YtendjepcjmfmfaaGreatDoorOrdB13
import Derived.Test.YtendjepcjmfmfaaGreatDoorOrdB06
namespace Go.Proofs.YtendjepcjmfmfaaGreatDoor
open Go.RowKit
def vN (d : Int) (P S : Nat → Int) (n : Nat) : Int × Int × Int :=
 ((vS d P S (7 * n % 12)).1 - d * ocZ (vS d P S (7 * n % 12)).1 (vS d P S (7 * n % 12)).2.1 (vS d P S (7 * n % 12)).2.2 d, (vS d P S (7 * n % 12)).2.1, (vS d P S (7 * n % 12)).2.2)
theorem oc_near {x y z d : Int} (hd : 1 ≤ d ∧ d ≤ 12) (hx : -1584 ≤ x ∧ x ≤ 1584) (hy : -1248 ≤ y ∧ y ≤ 1248) (hz : -132 ≤ z ∧ z ≤ 132) : -2400 ≤ x - d * ocZ x y z d ∧ x - d * ocZ x y z d ≤ 2400 := by
 have hp : 0 < d * lgU := Int.mul_pos (by omega) (by decide)
 have h := lg_eq x y z
 have h1 : ocZ x y z d * (d * lgU) ≤ lgZ x y z := Int.ediv_mul_le _ (Int.ne_of_gt hp)
 have h2 : lgZ x y z < (ocZ x y z d + 1) * (d * lgU) := Int.lt_ediv_add_one_mul_self _ hp
 rw [Int.add_mul, Int.one_mul] at h2
 rw [← Int.mul_assoc] at h1 h2
 rw [Int.mul_comm d]
 obtain ⟨k, hk⟩ : ∃ k, k = ocZ x y z d * d := ⟨_, rfl⟩
 rw [← hk] at h1 h2 ⊢
 unfold lgU lgT lgF at *
 omega
theorem vN_bd {d : Int} {P S : Nat → Int} (h : PlnC d P S) (n : Nat) : (-2400 ≤ (vN d P S n).1 ∧ (vN d P S n).1 ≤ 2400) ∧ (-1248 ≤ (vN d P S n).2.1 ∧ (vN d P S n).2.1 ≤ 1248) ∧ (-132 ≤ (vN d P S n).2.2 ∧ (vN d P S n).2.2 ≤ 132) := by
 have := vS_bd h (7 * n % 12) (by omega)
 refine ⟨oc_near h.d (by omega) (by omega) (by omega), ?_, ?_⟩ <;> (dsimp only [vN]; omega)
theorem vN_Bx {d : Int} {P S : Nat → Int} (h : PlnC d P S) (n : Nat) : Bx (vN d P S n).1 (vN d P S n).2.1 (vN d P S n).2.2 := by
 have := vN_bd h n
 unfold Bx
 omega
abbrev TnM (w : World) (d : Int) (P S : Nat → Int) (W : World) : Prop :=
 Hp w [(w.heap.size, 38, cirL (cirP d P S)), (w.heap.size + 1, 49, [.int .i64 0, .int .i64 0, .int .i64 0, .int .i64 0, .int .i64 0, .int .i64 0])] W
def TnR (w : World) (d : Int) (P S : Nat → Int) (K : Nat) (v : Value) (W : World) : Prop :=
 ∃ j : Nat, v = .int .i64 (j : Int) ∧ j ≤ K ∧ TnM w d P S W
theorem TnR.of {w : World} {d : Int} {P S : Nat → Int} {K j : Nat} {W : World} (hj : j ≤ K) (h : TnM w d P S W) : TnR w d P S K (.int .i64 (j : Int)) W := ⟨j, rfl, hj, h⟩
set_option maxRecDepth 1000000 in
set_option maxHeartbeats 8000000 in
theorem tnote_any (d : Int) (P S : Nat → Int) (n : Nat) (w : World) (ht : Tab w) (h : PlnC d P S) (hn : n < 12) :
  Calls Tryz.prog 122 #[.agg (cirL (cirP d P S)).toArray, .int .i64 (n : Int)] w fun e w' => e = .returned (.tuple #[szD (vN d P S n).1 (vN d P S n).2.1 (vN d P S n).2.2 d, .int .i64 0]) ∧ Below w.heap.size w w' := by
 have HDB : Hid (1 ≤ d ∧ d ≤ 240) := Lib.hid ⟨h.d.1, by have := h.d.2; omega⟩
 have hNB := vN_Bx h n
 unfold vN at hNB ⊢
 obtain ⟨K, hK⟩ : ∃ K, K = 7 * n % 12 := ⟨_, rfl⟩
 rw [← hK] at hNB ⊢
 have hK2 : K < 12 ∧ 7 * K % 12 = n := by omega
 have HSU := Lib.hid (fun W => tsum_any d P S K W h (by omega))
 have HRD := Lib.hid (fun W (hT : Tab W) => tred_any (vS d P S K).1 (vS d P S K).2.1 (vS d P S K).2.2 d W HDB.out hT (vS_Bx h (by omega)) hNB)
 dsimp only [szD] at HSU HRD ⊢
 clear hNB h
 obtain ⟨x0, hx0⟩ : ∃ y : Int, y = lowN ((vS d P S K).1) d := ⟨_, rfl⟩
 obtain ⟨x1, hx1⟩ : ∃ y : Int, y = lowD ((vS d P S K).1) d := ⟨_, rfl⟩
 obtain ⟨x2, hx2⟩ : ∃ y : Int, y = lowN ((vS d P S K).2.1) d := ⟨_, rfl⟩
 obtain ⟨x3, hx3⟩ : ∃ y : Int, y = lowD ((vS d P S K).2.1) d := ⟨_, rfl⟩
 obtain ⟨x4, hx4⟩ : ∃ y : Int, y = lowN ((vS d P S K).2.2) d := ⟨_, rfl⟩
 obtain ⟨x5, hx5⟩ : ∃ y : Int, y = lowD ((vS d P S K).2.2) d := ⟨_, rfl⟩
 rw [← hx0] at HSU HRD
 rw [← hx1] at HSU HRD
 rw [← hx2] at HSU HRD
 rw [← hx3] at HSU HRD
 rw [← hx4] at HSU HRD
 rw [← hx5] at HSU HRD
 obtain ⟨n0, hn0⟩ : ∃ y : Int, y = lowN ((vS d P S K).1 - d * ocZ (vS d P S K).1 (vS d P S K).2.1 (vS d P S K).2.2 d) d := ⟨_, rfl⟩
 obtain ⟨n1, hn1⟩ : ∃ y : Int, y = lowD ((vS d P S K).1 - d * ocZ (vS d P S K).1 (vS d P S K).2.1 (vS d P S K).2.2 d) d := ⟨_, rfl⟩
 rw [← hn0, ← hn1] at HRD ⊢
 rw [← hx2]
 rw [← hx3]
 rw [← hx4]
 rw [← hx5]
 obtain ⟨oc, hoc⟩ : ∃ y : Int, y = ocZ (vS d P S K).1 (vS d P S K).2.1 (vS d P S K).2.2 d := ⟨_, rfl⟩
 rw [← hoc] at HRD
 clear hx0 hx1 hx2 hx3 hx4 hx5 hn0 hn1 hoc
 have HT := Lib.hid ht
 have HK := Lib.hid hK2
 clear hK hK2 hn
 have HL := Lib.hid (fun W => tlimited_any n0 n1 x2 x3 x4 x5 0 W)
 unfold limV at HL
 rw [if_pos rfl] at HL
 have hm0 := ((Hp.start w).new 38 (cirL (cirP d P S))).new 49 [.int .i64 0, .int .i64 0, .int .i64 0, .int .i64 0, .int .i64 0, .int .i64 0]
 simp only [World.size_alloc, List.nil_append, List.cons_append] at hm0
 have HM0 := Lib.hid hm0
 clear hm0 ht
 go_enter Tryz.func122, Tryz.ntmps122
 go_wp2_with fail
 go_loopw [6] (fun v W => TnR w d P S K v W) (fun v _ => K - (intOf v).toNat)
 case atStart => exact ⟨0, rfl, by omega, HM0.out⟩
 case round =>
  obtain ⟨j, rfl, hj, hm⟩ := hrel
  have hj12 : j < 12 := by have := HK.out; omega
  by_cases hjl : j < K
  ·have hne : (7 * (j : Int) % 12 != (n : Int)) = true := by
    simp only [bne_iff_ne, ne_eq]
    have := HK.out
    omega
   have HRL := Lib.hid (TnR.of (K := K) (S := S) (P := P) (d := d) (j := j + 1) (by omega) hm)
   clear hm
   go_wp2
   go_roundw
   case rel => first | exact HRL.out | ((repeat apply Exists.intro); exact ⟨HRL.out, rfl⟩)
   case measure => simp [intOf]; omega
  ·obtain rfl : j = K := by omega
   have hne : (7 * (j : Int) % 12 != (n : Int)) = false := by
    simp only [bne_eq_false_iff_eq]
    have := HK.out
    omega
   have HMR := Lib.hid hm
   clear hm
   go_wp2_with (refine wpList_load_row rfl 38 _ rfl w.heap.size rfl 38 (cirL (cirP d P S)).toArray (0, 0) _ (HMR.out.at_ 0 rfl) Tryz.underlying38 rfl (by rw [infoCircle, List.size_toArray, cirL_len]) ?_)
   refine (HSU.out _).mono ?_
   rintro e w3 ⟨rfl, hb3⟩
   have hm3 := (HMR.out.step hb3).new 49 [.int .i64 x0, .int .i64 x1, .int .i64 x2, .int .i64 x3, .int .i64 x4, .int .i64 x5]
   simp only [List.nil_append, List.cons_append] at hm3
   have HM3 := Lib.hid hm3
   obtain ⟨a0, a1, a2, a3, a4, a5⟩ := six_of (hm3.at_ 2 rfl)
   clear hb3 hm3
   go_wp2_with fail
   refine (HRD.out _ (HT.out.below HM3.out.below)).mono ?_
   rintro e w4 ⟨rfl, hb4⟩
   clear a0 a1 a2 a3 a4 a5
   have hm4 := (HM3.out.step hb4).new 49 [.int .i64 n0, .int .i64 n1, .int .i64 x2, .int .i64 x3, .int .i64 x4, .int .i64 x5]
   simp only [List.nil_append, List.cons_append] at hm4
   have HM4 := Lib.hid hm4
   obtain ⟨a0, a1, a2, a3, a4, a5⟩ := six_of (hm4.at_ 3 rfl)
   clear hb4 hm4
   go_wp2_with fail
   refine (HL.out _).mono ?_
   rintro e w5 ⟨rfl, hb5⟩
   have hq5 := HM4.out.step hb5
   clear a0 a1 a2 a3 a4 a5
   obtain ⟨a0, a1, a2, a3, a4, a5⟩ := six_of (hq5.at_ 3 rfl)
   obtain ⟨z0, z1, z2, z3, z4, z5⟩ := six_of (hq5.at_ 1 rfl)
   obtain ⟨f0, f1, f2, f3, f4, f5⟩ := six_free (hq5.at_ 1 rfl)
   have HB := Lib.hid (fun a' b' c' d' x' y' => hq5.put6s 1 rfl a' b' c' d' x' y')
   clear hb5 hq5
   go_wp2
   exact bodyPost_ret (v := .tuple #[szv n0 n1 x2 x3 x4 x5, .int .i64 0]) (by simp [results, Tryz.results122, go_sem, z0, z1, z2, z3, z4, z5, f0, f1, f2, f3, f4, f5]) rfl ⟨rfl, HB.out _ _ _ _ _ _⟩
def ixE (C : Nat → Tm) (n : Int) : Int := if ckE C ≠ 0 then ckE C else if n < 0 ∨ 11 < n then 3 else 0
theorem plan_tm {d : Int} {P S : Nat → Int} (h : PlnC d P S) : ∀ i, i < 12 → Tm64 (cirP d P S i) := by
 intro i hi
 have hd := h.d
 have h2 := h.p i hi
 have h3 := h.s i hi
 have a := right_i64 (t_right_low (n := P i) (d := d) (by omega) (by omega))
 have b := right_i64 (t_right_low (n := S i) (d := d) (by omega) (by omega))
 exact ⟨a, b⟩
theorem rg_low {n d : Int} (hd : 1 ≤ d ∧ d ≤ 12) (hn : -11 ≤ n ∧ n ≤ 11) : rgP (lowN n d) (lowD n d) := by
 obtain ⟨g, hg, h1, h2, h3, _⟩ := low_mul n d (by omega)
 have ha : -12 ≤ lowN n d ∧ lowN n d ≤ 12 := by
  constructor
  ·by_cases c : -12 ≤ lowN n d
   ·exact c
   ·have : g * lowN n d ≤ 1 * lowN n d := Int.mul_le_mul_of_nonpos_right (by omega) (by omega)
    omega
  ·by_cases c : lowN n d ≤ 12
   ·exact c
   ·have : 1 * lowN n d ≤ g * lowN n d := Int.mul_le_mul_of_nonneg_right (by omega) (by omega)
    omega
 unfold rgP
 omega
theorem ckE_pl {d : Int} {P S : Nat → Int} (h : PlnC d P S) : ckE (cirP d P S) = 0 := by
 have hd := h.d
 have hr : ∀ i, i < 12 → (Right (lowN (P i) d) (lowD (P i) d) ∧ Right (lowN (S i) d) (lowD (S i) d)) := fun i hi => by
  have h2 := h.p i hi
  have h3 := h.s i hi
  exact ⟨t_right_low (by omega) (by omega), t_right_low (by omega) (by omega)⟩
 rw [ckE_end (fun j hj => tmE_ok (hr j hj) (by
  have h2 := h.p j hj
  have h3 := h.s j hj
  exact ⟨rg_low hd (by omega), rg_low hd (by omega)⟩))]
 have hq : ∀ q ∈ frsL (cirP d P S) 12, (Right q.1 q.2 ∧ q.2 ∣ d) := fun q hq => by
  unfold frsL at hq
  rw [List.mem_flatMap] at hq
  obtain ⟨j, hj, hq⟩ := hq
  have hj2 := List.mem_range.1 hj
  have hdv : ∀ n, lowD n d ∣ d := fun n => by
   obtain ⟨g, _, _, h2, _⟩ := low_mul n d (by omega)
   exact ⟨g, by rw [Int.mul_comm]; exact h2.symm⟩
  simp only [List.mem_cons, List.not_mem_nil, or_false] at hq
  rcases hq with rfl | rfl
  ·exact ⟨(hr j hj2).1, hdv _⟩
  ·exact ⟨(hr j hj2).2, hdv _⟩
 obtain ⟨D, e, _⟩ := prD_total (S := frsL (cirP d P S) 12) (x := 1) (M := d) (fun q h0 => by
  obtain ⟨a, b, c, e, _⟩ := (hq q h0).1
  exact ⟨⟨by omega, b⟩, c, e⟩) (by decide) (by omega) (Int.one_dvd d) (fun q h0 => (hq q h0).2)
 rw [if_neg (by rw [e]; simp)]
def eqZ (a0 a1 a2 a3 a4 a5 b0 b1 b2 b3 b4 b5 : Int) : Bool := a0 == b0 && (a1 == b1 && (a2 == b2 && (a3 == b3 && (a4 == b4 && a5 == b5))))
def abE (C : Nat → Tm) (n : Int) : Int := if ckE C ≠ 0 then ckE C else if n < 0 ∨ 36 < n then 3 else 0
abbrev i64z : Int → Value := fun x => .int .i64 x
theorem infoIntZ : (Tryz.prog.info? 3).map (fun i => (i.zero, i.size, i.bytes)) = some (some (.int .i64 0), 1, 8) := by kernel_rfl
theorem own_bl {w w' : World} {base : Nat} {e : TypeId} {size n : Nat} {v : Value} {xs : List Value} (h : w.ownsRow base e size v n xs) (hb : Below w.heap.size w w') : w'.ownsRow base e size v n xs := by
 refine ⟨h.1, ?_⟩
 rcases h.2 with h0 | ⟨g, cap, cur, hv, hbs, hg, hr⟩
 ·exact .inl h0
 ·refine .inr ⟨g, cap, cur, hv, hbs, ?_, hr⟩
  have hlt : g < w.heap.size := (Array.getElem?_eq_some_iff.1 hg).1
  exact (hb.block g hlt).trans hg
theorem own_lw {w : World} {base base' : Nat} {e : TypeId} {size n : Nat} {v : Value} {xs : List Value} (h : w.ownsRow base e size v n xs) (hb : base' ≤ base) : w.ownsRow base' e size v n xs := by
 refine ⟨h.1, ?_⟩
 rcases h.2 with h0 | ⟨g, cap, cur, hv, hbs, hg, hr⟩
 ·exact .inl h0
 ·exact .inr ⟨g, cap, cur, hv, by omega, hg, hr⟩
theorem Hp.grw {w W W' : World} {L : List (Nat × TypeId × List Value)} (h : Hp w L W) {row : Option Nat} (hg : W.grownBy W' row) (hr : ∀ q, row = some q → w.heap.size ≤ q ∧ ∀ p ∈ L, p.1 ≠ q) : Hp w L W' :=
 ⟨h.below.grown hg h.below.size (fun k e => (hr k e).1), fun p hp => ⟨(hg.block p.1 (h.blk p hp).1.lt (fun e => (hr _ e.symm).2 p hp rfl)).trans (h.blk p hp).1, (h.blk p hp).2⟩, h.apart⟩
def lsB (B : Nat → Bool) (k : Nat) : List Int := ((List.range k).filter B).map fun n : Nat => (n : Int)
set_option maxRecDepth 1000000 in
set_option maxHeartbeats 4000000 in
theorem tplace_gen (C : Nat → Tm) (n m q : Nat) (n0 n1 n2 n3 n4 n5 o0 o1 o2 o3 o4 o5 a0 a1 a2 a3 a4 a5 : Int) (w : World) (ht : Tab w) (hn : n < 1000) (hm : n % 12 = m) (hq : n / 12 = q)
  (hN : ∀ W, Tab W → Calls Tryz.prog 122 #[.agg (cirL C).toArray, .int .i64 (m : Int)] W fun e w' => e = .returned (.tuple #[szv n0 n1 n2 n3 n4 n5, .int .i64 0]) ∧ Below W.heap.size W w')
  (hO : ∀ W, Calls Tryz.prog 124 #[.int .i64 (q : Int)] W fun e w' => e = .returned (szv o0 o1 o2 o3 o4 o5) ∧ Below W.heap.size W w')
  (hA : ∀ W, Calls Tryz.prog 123 #[szv n0 n1 n2 n3 n4 n5, szv o0 o1 o2 o3 o4 o5] W fun e w' => e = .returned (.tuple #[szv a0 a1 a2 a3 a4 a5, .int .i64 0]) ∧ Below W.heap.size W w') :
  Calls Tryz.prog 100 #[.agg (cirL C).toArray, .int .i64 (n : Int)] w fun e w' => e = .returned (.tuple #[szv a0 a1 a2 a3 a4 a5, .int .i64 0]) ∧ Below w.heap.size w w' := by
 have HN := Lib.hid hN
 have HO := Lib.hid hO
 have HA := Lib.hid hA
 have HT := Lib.hid ht
 have HL := Lib.hid (fun W => tlimited_any a0 a1 a2 a3 a4 a5 0 W)
 unfold limV at HL
 rw [if_pos rfl] at HL
 have hm0 := ((Hp.start w).new 38 (cirL C)).new 49 [.int .i64 0, .int .i64 0, .int .i64 0, .int .i64 0, .int .i64 0, .int .i64 0]
 simp only [World.size_alloc, List.nil_append, List.cons_append] at hm0
 have HM0 := Lib.hid hm0
 clear hm0 ht hN hO hA
 obtain ⟨x, hx⟩ : ∃ x : Int, x = (n : Int) := ⟨_, rfl⟩
 obtain ⟨y, hy⟩ : ∃ y : Int, y = (m : Int) := ⟨_, rfl⟩
 obtain ⟨z, hz⟩ : ∃ z : Int, z = (q : Int) := ⟨_, rfl⟩
 have hxy : x.tmod 12 = y := by rw [Int.tmod_eq_emod_of_nonneg (by omega)]; omega
 have hxz : x.tdiv 12 = z := by rw [Int.tdiv_eq_ediv_of_nonneg (by omega)]; omega
 have hx0 : 0 ≤ x ∧ x < 1000 := by omega
 have hzw : IntKind.i64.wrap z = z := IntWalk.i64_in _ (by omega)
 rw [← hx]
 rw [← hy] at HN
 rw [← hz] at HO
 clear hx hy hz hm hq hn
 go_enter Tryz.func100, Tryz.ntmps100
 go_wp2_with (refine wpList_load_row rfl 38 _ rfl w.heap.size rfl 38 (cirL C).toArray (0, 0) _ (HM0.out.at_ 0 rfl) Tryz.underlying38 rfl (by rw [infoCircle, List.size_toArray, cirL_len]) ?_)
 refine (HN.out _ (HT.out.below HM0.out.below)).mono ?_
 rintro e w1 ⟨rfl, hb1⟩
 have hm1 := (HM0.out.step hb1).new 49 [.int .i64 n0, .int .i64 n1, .int .i64 n2, .int .i64 n3, .int .i64 n4, .int .i64 n5]
 simp only [List.nil_append, List.cons_append] at hm1
 have HM1 := Lib.hid hm1
 clear hb1 hm1
 go_upto_region 4 with fail
 refine wp_regionJ 12 #[false, false, false, false, false, false, false, false, false, false, false, false] (fun l a W => ∃ (m0 m1 m2 m3 m4 m5 m6 m7 m8 m9 m10 m11 : Bool), l = #[m0, m1, m2, m3, m4, m5, m6, m7, m8, m9, m10, m11] ∧ a = ({ tmps := #[Value.agg (cirL C).toArray, Value.int IntKind.i64 x, Value.pointer (some { block := w.heap.size, off := 0 }), undef, Value.pointer (some { block := w.heap.size + 1, off := 0 }), Value.int IntKind.i64 0, Value.pointer (some { block := w1.heap.size, off := 0 }), Value.int IntKind.i64 0, Value.tuple #[szv n0 n1 n2 n3 n4 n5, Value.int IntKind.i64 0], Value.agg (cirL C).toArray, Value.int IntKind.i64 x, Value.int IntKind.i64 y, Value.tuple #[szv n0 n1 n2 n3 n4 n5, Value.int IntKind.i64 0], szv n0 n1 n2 n3 n4 n5, Value.int IntKind.i64 0, Value.int IntKind.i64 0, Value.bool false, undef, undef, cwX m0 (szv n0 n1 n2 n3 n4 n5) (undef), cwX m1 (.int .i64 x) (undef), cwX m2 (.int .i64 z) (undef), cwX m3 (szv o0 o1 o2 o3 o4 o5) (undef), cwX m4 (.tuple #[szv a0 a1 a2 a3 a4 a5, .int .i64 0]) (undef), cwX m5 (szv a0 a1 a2 a3 a4 a5) (undef), cwX m6 (.int .i64 0) (undef), cwX m7 (.tuple #[szv a0 a1 a2 a3 a4 a5, .int .i64 0]) (undef), cwX m8 (szv a0 a1 a2 a3 a4 a5) (undef), cwX m9 (.int .i64 0) (undef)], defers := [] } : Act) ∧ (True) ∧ Hp w [(w.heap.size, 38, cirL C), (w.heap.size + 1, 49, bif m10 then [.int .i64 a0, .int .i64 a1, .int .i64 a2, .int .i64 a3, .int .i64 a4, .int .i64 a5] else [.int .i64 0, .int .i64 0, .int .i64 0, .int .i64 0, .int .i64 0, .int .i64 0]), (w1.heap.size, 49, [.int .i64 n0, .int .i64 n1, .int .i64 n2, .int .i64 n3, .int .i64 n4, .int .i64 n5])] W) (by kernel_rfl) (by kernel_rfl) (by kernel_rfl) (by kernel_rfl) ?_ ?_ ?_ ?_
 ·rintro l a W ⟨m0, m1, m2, m3, m4, m5, m6, m7, m8, m9, m10, m11, rfl, _⟩
  rfl
 ·exact ⟨false, false, false, false, false, false, false, false, false, false, false, false, rfl, rfl, trivial, HM1.out.drew⟩
 ·rintro l a W i o ⟨m0, m1, m2, m3, m4, m5, m6, m7, m8, m9, m10, m11, rfl, rfl, hi0, hm⟩ ho hun hall K hK
  have hi : i < 12 := (Array.getElem?_eq_some_iff.1 ho).1
  have HM := Lib.hid hm
  have HI := Lib.hid hi0
  clear hm hi0
  rcases (show i = 0 ∨ i = 1 ∨ i = 2 ∨ i = 3 ∨ i = 4 ∨ i = 5 ∨ i = 6 ∨ i = 7 ∨ i = 8 ∨ i = 9 ∨ i = 10 ∨ i = 11 by omega) with rfl | rfl | rfl | rfl | rfl | rfl | rfl | rfl | rfl | rfl | rfl | rfl
  ·cases ho
   simp at hun; subst hun
   clear hall hi
   obtain ⟨y0, y1, y2, y3, y4, y5⟩ := six_of (HM.out.at_ 2 rfl)
   go_simp
   exact hK.out _ _ ⟨true, m1, m2, m3, m4, m5, m6, m7, m8, m9, m10, m11, rfl, rfl, trivial, HM.out⟩
  ·cases ho
   simp at hun; subst hun
   clear hall hi
   go_simp
   exact hK.out _ _ ⟨m0, true, m2, m3, m4, m5, m6, m7, m8, m9, m10, m11, rfl, rfl, trivial, HM.out⟩
  ·cases ho
   cases (getBX hall 1 rfl : m1 = true)
   simp at hun; subst hun
   clear hall hi
   go_simp
   exact hK.out _ _ ⟨m0, true, true, m3, m4, m5, m6, m7, m8, m9, m10, m11, rfl, rfl, trivial, HM.out⟩
  ·cases ho
   cases (getBX hall 2 rfl : m2 = true)
   simp at hun; subst hun
   clear hall hi
   go_simp
   refine (HO.out _).mono ?_
   rintro e W' ⟨rfl, hb⟩
   exact hK.out _ _ ⟨m0, m1, true, true, m4, m5, m6, m7, m8, m9, m10, m11, rfl, rfl, trivial, HM.out.step hb⟩
  ·cases ho
   cases (getBX hall 0 rfl : m0 = true)
   cases (getBX hall 3 rfl : m3 = true)
   simp at hun; subst hun
   clear hall hi
   go_simp
   refine (HA.out _).mono ?_
   rintro e W' ⟨rfl, hb⟩
   exact hK.out _ _ ⟨true, m1, m2, true, true, m5, m6, m7, m8, m9, m10, m11, rfl, rfl, trivial, HM.out.step hb⟩
  ·cases ho
   cases (getBX hall 4 rfl : m4 = true)
   simp at hun; subst hun
   clear hall hi
   go_simp
   exact hK.out _ _ ⟨m0, m1, m2, m3, true, true, m6, m7, m8, m9, m10, m11, rfl, rfl, trivial, HM.out⟩
  ·cases ho
   cases (getBX hall 4 rfl : m4 = true)
   simp at hun; subst hun
   clear hall hi
   go_simp
   exact hK.out _ _ ⟨m0, m1, m2, m3, true, m5, true, m7, m8, m9, m10, m11, rfl, rfl, trivial, HM.out⟩
  ·cases ho
   cases (getBX hall 5 rfl : m5 = true)
   cases (getBX hall 6 rfl : m6 = true)
   simp at hun; subst hun
   clear hall hi
   go_simp
   refine (HL.out _).mono ?_
   rintro e W' ⟨rfl, hb⟩
   exact hK.out _ _ ⟨m0, m1, m2, m3, m4, true, true, true, m8, m9, m10, m11, rfl, rfl, trivial, HM.out.step hb⟩
  ·cases ho
   cases (getBX hall 7 rfl : m7 = true)
   simp at hun; subst hun
   clear hall hi
   go_simp
   exact hK.out _ _ ⟨m0, m1, m2, m3, m4, m5, m6, true, true, m9, m10, m11, rfl, rfl, trivial, HM.out⟩
  ·cases ho
   cases (getBX hall 7 rfl : m7 = true)
   simp at hun; subst hun
   clear hall hi
   go_simp
   exact hK.out _ _ ⟨m0, m1, m2, m3, m4, m5, m6, true, m8, true, m10, m11, rfl, rfl, trivial, HM.out⟩
  ·cases ho
   cases (getBX hall 8 rfl : m8 = true)
   simp at hun; subst hun
   clear hall hi
   have z0 : W.cell? ⟨w.heap.size + 1, 0, none⟩ = some (.int .i64 0) := (HM.out.at_ 1 rfl).cell 0
   have f0 := (HM.out.at_ 1 rfl).frozen 0
   have z1 : W.cell? ⟨w.heap.size + 1, 1, none⟩ = some (.int .i64 0) := (HM.out.at_ 1 rfl).cell 1
   have f1 := (HM.out.at_ 1 rfl).frozen 1
   have z2 : W.cell? ⟨w.heap.size + 1, 2, none⟩ = some (.int .i64 0) := (HM.out.at_ 1 rfl).cell 2
   have f2 := (HM.out.at_ 1 rfl).frozen 2
   have z3 : W.cell? ⟨w.heap.size + 1, 3, none⟩ = some (.int .i64 0) := (HM.out.at_ 1 rfl).cell 3
   have f3 := (HM.out.at_ 1 rfl).frozen 3
   have z4 : W.cell? ⟨w.heap.size + 1, 4, none⟩ = some (.int .i64 0) := (HM.out.at_ 1 rfl).cell 4
   have f4 := (HM.out.at_ 1 rfl).frozen 4
   have z5 : W.cell? ⟨w.heap.size + 1, 5, none⟩ = some (.int .i64 0) := (HM.out.at_ 1 rfl).cell 5
   have f5 := (HM.out.at_ 1 rfl).frozen 5
   have HN := Lib.hid (HM.out.put6 1 rfl (.int .i64 a0) (.int .i64 a1) (.int .i64 a2) (.int .i64 a3) (.int .i64 a4) (.int .i64 a5))
   go_simp
   exact hK.out _ _ ⟨m0, m1, m2, m3, m4, m5, m6, m7, true, m9, true, m11, rfl, rfl, trivial, HN.out⟩
  ·cases ho
   cases (getBX hall 9 rfl : m9 = true)
   simp at hun; subst hun
   clear hall hi
   go_simp
   exact hK.out _ _ ⟨m0, m1, m2, m3, m4, m5, m6, m7, m8, true, m10, true, rfl, rfl, trivial, HM.out⟩
 ·rintro l a W ⟨m0, m1, m2, m3, m4, m5, m6, m7, m8, m9, m10, m11, rfl, rfl, _, hm⟩ hall
  cases (hall 0 (by decide) : m0 = true)
  cases (hall 1 (by decide) : m1 = true)
  cases (hall 2 (by decide) : m2 = true)
  cases (hall 3 (by decide) : m3 = true)
  cases (hall 4 (by decide) : m4 = true)
  cases (hall 5 (by decide) : m5 = true)
  cases (hall 6 (by decide) : m6 = true)
  cases (hall 7 (by decide) : m7 = true)
  cases (hall 8 (by decide) : m8 = true)
  cases (hall 9 (by decide) : m9 = true)
  cases (hall 10 (by decide) : m10 = true)
  cases (hall 11 (by decide) : m11 = true)
  clear hall
  have HQ : Hid (Hp w [(w.heap.size, 38, cirL C), (w.heap.size + 1, 49, [.int .i64 a0, .int .i64 a1, .int .i64 a2, .int .i64 a3, .int .i64 a4, .int .i64 a5]), (w1.heap.size, 49, [.int .i64 n0, .int .i64 n1, .int .i64 n2, .int .i64 n3, .int .i64 n4, .int .i64 n5])] _) := Lib.hid hm
  clear hm
  dsimp only [cwX, cond_true]
  have hq := HQ.out
  obtain ⟨z0, z1, z2, z3, z4, z5⟩ := six_of (hq.at_ 1 rfl)
  obtain ⟨f0, f1, f2, f3, f4, f5⟩ := six_free (hq.at_ 1 rfl)
  have HB := Lib.hid hq.below
  clear hq
  go_wp2
  exact bodyPost_ret (v := .tuple #[szv a0 a1 a2 a3 a4 a5, .int .i64 0]) (by simp [results, Tryz.results100, go_sem, z0, z1, z2, z3, z4, z5, f0, f1, f2, f3, f4, f5]) rfl ⟨rfl, HB.out⟩
set_option maxRecDepth 1000000 in
set_option maxHeartbeats 4000000 in
theorem tbetween_gen (C : Nat → Tm) (m n : Nat) (p0 p1 p2 p3 p4 p5 q0 q1 q2 q3 q4 q5 s0 s1 s2 s3 s4 s5 : Int) (w : World) (ht : Tab w)
  (hM : ∀ W, Tab W → Calls Tryz.prog 100 #[.agg (cirL C).toArray, .int .i64 (m : Int)] W fun e w' => e = .returned (.tuple #[szv p0 p1 p2 p3 p4 p5, .int .i64 0]) ∧ Below W.heap.size W w')
  (hN : ∀ W, Tab W → Calls Tryz.prog 100 #[.agg (cirL C).toArray, .int .i64 (n : Int)] W fun e w' => e = .returned (.tuple #[szv q0 q1 q2 q3 q4 q5, .int .i64 0]) ∧ Below W.heap.size W w')
  (hS : ∀ W, Calls Tryz.prog 102 #[szv q0 q1 q2 q3 q4 q5, szv p0 p1 p2 p3 p4 p5] W fun e w' => e = .returned (.tuple #[szv s0 s1 s2 s3 s4 s5, .int .i64 0]) ∧ Below W.heap.size W w') :
  Calls Tryz.prog 69 #[.agg (cirL C).toArray, .int .i64 (m : Int), .int .i64 (n : Int)] w fun e w' => e = .returned (.tuple #[szv s0 s1 s2 s3 s4 s5, .int .i64 0]) ∧ Below w.heap.size w w' := by
 have HM := Lib.hid hM
 have HN := Lib.hid hN
 have HS := Lib.hid hS
 have HT := Lib.hid ht
 have HL := Lib.hid (fun W => tlimited_any s0 s1 s2 s3 s4 s5 0 W)
 unfold limV at HL
 rw [if_pos rfl] at HL
 have hm0 := ((Hp.start w).new 38 (cirL C)).new 49 [.int .i64 0, .int .i64 0, .int .i64 0, .int .i64 0, .int .i64 0, .int .i64 0]
 simp only [World.size_alloc, List.nil_append, List.cons_append] at hm0
 have HM0 := Lib.hid hm0
 clear hm0 ht hM hN hS
 go_enter Tryz.func69, Tryz.ntmps69
 go_wp2_with (refine wpList_load_row rfl 38 _ rfl w.heap.size rfl 38 (cirL C).toArray (0, 0) _ (HM0.out.at_ 0 rfl) Tryz.underlying38 rfl (by rw [infoCircle, List.size_toArray, cirL_len]) ?_)
 refine (HM.out _ (HT.out.below HM0.out.below)).mono ?_
 rintro e w1 ⟨rfl, hb1⟩
 have hm1 := (HM0.out.step hb1).new 49 [.int .i64 p0, .int .i64 p1, .int .i64 p2, .int .i64 p3, .int .i64 p4, .int .i64 p5]
 simp only [List.nil_append, List.cons_append] at hm1
 have HM1 := Lib.hid hm1
 clear hb1 hm1
 go_wp2_with (refine wpList_load_row rfl 38 _ rfl w.heap.size rfl 38 (cirL C).toArray (0, 0) _ (HM1.out.at_ 0 rfl) Tryz.underlying38 rfl (by rw [infoCircle, List.size_toArray, cirL_len]) ?_)
 refine (HN.out _ (HT.out.below HM1.out.below)).mono ?_
 rintro e w2 ⟨rfl, hb2⟩
 have hm2 := (HM1.out.step hb2).new 49 [.int .i64 q0, .int .i64 q1, .int .i64 q2, .int .i64 q3, .int .i64 q4, .int .i64 q5]
 simp only [List.nil_append, List.cons_append] at hm2
 have HM2 := Lib.hid hm2
 obtain ⟨y0, y1, y2, y3, y4, y5⟩ := six_of (hm2.at_ 2 rfl)
 obtain ⟨x0, x1, x2, x3, x4, x5⟩ := six_of (hm2.at_ 3 rfl)
 clear hb2 hm2
 go_wp2_with fail
 refine (HS.out _).mono ?_
 rintro e w3 ⟨rfl, hb3⟩
 have HM3 := Lib.hid (HM2.out.step hb3)
 clear hb3 x0 x1 x2 x3 x4 x5 y0 y1 y2 y3 y4 y5
 go_wp2_with fail
 refine (HL.out _).mono ?_
 rintro e w4 ⟨rfl, hb4⟩
 have hq := HM3.out.step hb4
 obtain ⟨z0, z1, z2, z3, z4, z5⟩ := six_of (hq.at_ 1 rfl)
 obtain ⟨f0, f1, f2, f3, f4, f5⟩ := six_free (hq.at_ 1 rfl)
 have HB := Lib.hid (hq.put6s 1 rfl (.int .i64 s0) (.int .i64 s1) (.int .i64 s2) (.int .i64 s3) (.int .i64 s4) (.int .i64 s5))
 clear hb4 hq
 go_wp2
 exact bodyPost_ret (v := .tuple #[szv s0 s1 s2 s3 s4 s5, .int .i64 0]) (by simp [results, Tryz.results69, go_sem, z0, z1, z2, z3, z4, z5, f0, f1, f2, f3, f4, f5]) rfl ⟨rfl, HB.out⟩
set_option maxRecDepth 100000 in
set_option maxHeartbeats 1000000 in
theorem bgcd_any (a b : Int) (w : World) (ha : 0 ≤ a) (ha' : a ≤ 4611686018427387904) (hb : 0 ≤ b) (hb' : b ≤ 4611686018427387904) :
  Calls Tryz.prog 87 #[.int .i64 a, .int .i64 b] w fun e w' => e = .returned (.int .i64 (Nat.gcd a.natAbs b.natAbs : Int)) ∧ ∃ k, w' = w.drewN k := by
 go_enter Tryz.func87, Tryz.ntmps87
 go_wp2
 go_loopw [0, 1] (fun u v wr => ∃ (x y : Int) (k : Nat), 0 ≤ x ∧ x ≤ 4611686018427387904 ∧ 0 ≤ y ∧ y ≤ 4611686018427387904 ∧ u = .int .i64 x ∧ v = .int .i64 y ∧ Nat.gcd x.natAbs y.natAbs = Nat.gcd a.natAbs b.natAbs ∧ wr = w.drewN k) (fun _ v _ => (intOf v).natAbs)
 case atStart => exact ⟨a, b, 0, ha, ha', hb, hb', rfl, rfl, rfl, rfl⟩
 case round =>
  obtain ⟨x, y, k, hx0, hx1, hy0, hy1, rfl, rfl, hg, rfl⟩ := hrel
  have HG := Lib.hid hg
  clear hg
  by_cases h0 : y = 0
  ·subst h0
   have hG := HG.out
   rw [Int.natAbs_zero, Nat.gcd_zero_right] at hG
   have HM := Lib.hid (show x = (Nat.gcd a.natAbs b.natAbs : Int) by rw [← hG]; omega)
   clear hG
   go_wp2
   go_ret
   exact ⟨ret_int (by rw [← HM.out]), k, rfl⟩
  ·have hyp : 0 < y := by omega
   have hyz : (y == 0) = false := by simpa using h0
   have hyz2 : (y != 0) = true := by simpa using h0
   obtain ⟨r, hr⟩ : ∃ r, r = x % y := ⟨_, rfl⟩
   have hrn : r.natAbs = x.natAbs % y.natAbs := by rw [hr, ← Int.tmod_eq_emod_of_nonneg hx0, Int.natAbs_tmod]
   have hrl : r.natAbs < y.natAbs := by rw [hrn]; exact Nat.mod_lt _ (by omega)
   have hr0 : 0 ≤ r := by rw [hr]; exact Int.emod_nonneg x h0
   have HN := Lib.hid hrn
   have HL := Lib.hid hrl
   have HR := Lib.hid hr
   have HR0 := Lib.hid hr0
   clear hr hrn hrl hr0
   go_wp2
   go_quiet (fail)
   go_wp2
   rw [← HR.out]
   go_roundw
   case rel => exact ⟨y, r, k + nq, hy0, hy1, HR0.out, by have := HL.out; omega, rfl, rfl, by rw [← HG.out, HN.out, Nat.gcd_comm y.natAbs, ← Nat.gcd_rec, Nat.gcd_comm], by rw [World.drewN_drewN]⟩
   case measure => simp only [intOf]; exact HL.out
theorem bgcd_at (a b : Int) (w : World) (ha : 0 ≤ a) (ha' : a ≤ 4611686018427387904) (hb : 0 ≤ b) (hb' : b ≤ 4611686018427387904) :
  Calls Tryz.prog 87 #[.int .i64 a, .int .i64 b] w fun e w' => e = .returned (.int .i64 (Nat.gcd a.natAbs b.natAbs : Int)) ∧ Below w.heap.size w w' := by
 refine (bgcd_any a b w ha ha' hb hb').mono ?_
 rintro e w' ⟨he, k, rfl⟩
 exact ⟨he, below_drewN _ _ _⟩
theorem lcm_prod {x d : Int} (hx : 1 ≤ x) (hd : 1 ≤ d) : x * (d / (Nat.gcd x.natAbs d.natAbs : Int)) = lcmA x d := by
 have hg : 0 < (Nat.gcd x.natAbs d.natAbs : Int) := by
  have := Nat.gcd_pos_of_pos_left d.natAbs (show 0 < x.natAbs by omega)
  omega
 have h1 : (Nat.gcd x.natAbs d.natAbs : Int) ∣ x := Int.natAbs_dvd_natAbs.1 (by rw [Int.natAbs_natCast]; exact Nat.gcd_dvd_left _ _)
 have h2 : (Nat.gcd x.natAbs d.natAbs : Int) ∣ d := Int.natAbs_dvd_natAbs.1 (by rw [Int.natAbs_natCast]; exact Nat.gcd_dvd_right _ _)
 unfold lcmA
 obtain ⟨g, hg0⟩ : ∃ g : Int, g = (Nat.gcd x.natAbs d.natAbs : Int) := ⟨_, rfl⟩
 rw [← hg0] at hg h1 h2 ⊢
 obtain ⟨p, rfl⟩ := h1
 obtain ⟨q, rfl⟩ := h2
 rw [Int.mul_ediv_cancel_left _ (by omega), Int.mul_ediv_cancel_left _ (by omega)]
 simp only [Int.mul_left_comm, Int.mul_comm]
theorem prt_inv {a0 b0 a1 b1 a2 b2 x y z D : Int} (hS : ∀ q ∈ [(a0, b0), (a1, b1), (a2, b2)], Right q.1 q.2) (h : prt [(a0, b0), (a1, b1), (a2, b2)] = some ([x, y, z], D)) :
  ∃ E1 E2 : Int, lcmA 1 b0 = E1 ∧ lcmA E1 b1 = E2 ∧ lcmA E2 b2 = D ∧ ((1 ≤ E1 ∧ E1 ≤ 240) ∧ (1 ≤ E2 ∧ E2 ≤ 240) ∧ (1 ≤ D ∧ D ≤ 240)) ∧ (x = a0 * (D / b0) ∧ y = a1 * (D / b1) ∧ z = a2 * (D / b2)) ∧ ((-6000 ≤ x ∧ x ≤ 6000) ∧ (-6000 ≤ y ∧ y ≤ 6000) ∧ (-6000 ≤ z ∧ z ≤ 6000)) := by
 have hM : Mild [(a0, b0), (a1, b1), (a2, b2)] := fun q hq => by
  obtain ⟨h1, h2, h3, h4, _⟩ := hS q hq
  exact ⟨⟨by omega, h2⟩, h3, h4⟩
 obtain ⟨hD, hn⟩ := prt_num h hM
 have h0 := hM (a0, b0) (by simp)
 have h1 := hM (a1, b1) (by simp)
 have h2 := hM (a2, b2) (by simp)
 dsimp only at h0 h1 h2
 have hx := hn x (by simp)
 have hy := hn y (by simp)
 have hz := hn z (by simp)
 unfold prt at h
 split at h
 ·cases h
 ·rename_i D' hp
  have hp0 := hp
  rw [prD_cons (by decide) h0.1.1] at hp
  split at hp
  ·cases hp
  ·have k1 : 1 ≤ lcmA 1 b0 := by have := lcmA_ge (x := 1) (by decide) h0.1.1; omega
   rw [prD_cons k1 h1.1.1] at hp
   split at hp
   ·cases hp
   ·have k2 : 1 ≤ lcmA (lcmA 1 b0) b1 := by have := lcmA_ge k1 h1.1.1; omega
    rw [prD_cons k2 h2.1.1] at hp
    split at hp
    ·cases hp
    ·cases hp
     cases hq : prN [(a0, b0), (a1, b1), (a2, b2)] (lcmA (lcmA (lcmA 1 b0) b1) b2) with
     | none => rw [hq] at h; cases h
     | some l =>
      rw [hq] at h
      have hl := prN_eq hq
      injection h with h
      injection h with e1 e2
      subst e2
      subst hl
      simp only [List.map_cons, List.map_nil, List.cons.injEq, and_true] at e1
      exact ⟨_, _, rfl, rfl, rfl, ⟨⟨k1, by omega⟩, ⟨k2, by omega⟩, hD⟩, ⟨e1.1.symm, e1.2.1.symm, e1.2.2.symm⟩, hx, hy, hz⟩
def rsT (T : Int) (a b c : Nat) : Nat → Int
 | 0 => T
 | 1 => T * 2 ^ a
 | 2 => T * 2 ^ a * 3 ^ b
 | _ => T * 2 ^ a * 3 ^ b * 5 ^ c
theorem rsT_z0 {T : Int} {a : Nat} (b c : Nat) (h : a = 0) : rsT T a b c (0 + 1) = rsT T a b c 0 := by subst h; show T * 2 ^ 0 = T; rw [Int.pow_zero, Int.mul_one]
theorem rsT_z1 {T : Int} (a : Nat) {b : Nat} (c : Nat) (h : b = 0) : rsT T a b c (1 + 1) = rsT T a b c 1 := by subst h; show T * 2 ^ a * 3 ^ 0 = T * 2 ^ a; rw [Int.pow_zero, Int.mul_one]
theorem rsT_z2 {T : Int} (a b : Nat) {c : Nat} (h : c = 0) : rsT T a b c (2 + 1) = rsT T a b c 2 := by subst h; show T * 2 ^ a * 3 ^ b * 5 ^ 0 = T * 2 ^ a * 3 ^ b; rw [Int.pow_zero, Int.mul_one]
theorem rsT_eq (T : Int) (a b c k : Nat) : rsT T a b c k = T * rsU a b c k := by
 match k with
 | 0 => show T = T * 1; rw [Int.mul_one]
 | 1 => show T * 2 ^ a = T * (1 * 2 ^ a); rw [Int.one_mul]
 | 2 => show T * 2 ^ a * 3 ^ b = T * (1 * 2 ^ a * 3 ^ b); simp only [Int.one_mul, Int.mul_assoc]
 | n + 3 => show T * 2 ^ a * 3 ^ b * 5 ^ c = T * (1 * 2 ^ a * 3 ^ b * 5 ^ c); simp only [Int.one_mul, Int.mul_assoc]
theorem mul_digits (p q : Int) : Lib.nDigits (p * q).natAbs ≤ Lib.nDigits p.natAbs + Lib.nDigits q.natAbs := by
 refine nDigits_le _ _ (by have := Lib.nDigits_pos p.natAbs; omega) ?_
 rw [Int.natAbs_mul, Nat.pow_add]
 exact Nat.mul_lt_mul'' (Lib.lt_pow_nDigits _) (Lib.lt_pow_nDigits _)
theorem rsT_digits (T : Int) (a b c k : Nat) (ha : a ≤ 20000) (hb : b ≤ 20000) (hc : c ≤ 20000) : Lib.nDigits (rsT T a b c k).natAbs ≤ Lib.nDigits T.natAbs + 60001 := by
 rw [rsT_eq]
 have h1 := mul_digits T (rsU a b c k)
 have h2 := rsU_digits a b c k ha hb hc
 omega
end Go.Proofs.YtendjepcjmfmfaaGreatDoor
