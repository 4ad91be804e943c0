/- Part 41 of 42 of the proof of the law: contracts of the functions that it reaches, and plain facts. Conditions: those that each contract names. -/
import Derived.Test.YtendjepcjmfmfaaGreatDoorRatB38
import Derived.Test.YtendjepcjmfmfaaGreatDoorRatB40
import Derived.Test.YtendjepcjmfmfaaGreatDoorRatB28
namespace Go.Proofs.YtendjepcjmfmfaaGreatDoor
open Go.RowKit
def RtOk (a0 b0 a1 b1 a2 b2 : Int) : Prop :=
 (∃ c : Int, c ≠ 0 ∧ (∀ W, Tab W → Calls Tryz.prog 18 #[szv a0 b0 a1 b1 a2 b2] W fun e w' => e = .returned (.tuple #[.agg #[.int .i64 0, .int .i64 0], .int .i64 c]) ∧ Below W.heap.size W w') ∧ (∀ W, Tab W → Calls Tryz.prog 19 #[szv a0 b0 a1 b1 a2 b2] W fun e w' => e = .returned (.int .i64 c) ∧ Below W.heap.size W w')) ∨
 (∃ lo hi x y z D u v : Int, (1 ≤ lo ∧ lo ≤ 128000000 ∧ lo ≤ hi ∧ hi ≤ lo + 1) ∧ (u ≤ 0 ∧ 0 ≤ v) ∧ (hi = lo + 1 → u ≠ 0 ∧ v ≠ 0) ∧ ((-6000 ≤ x ∧ x ≤ 6000) ∧ (-6000 ≤ y ∧ y ≤ 6000) ∧ (-6000 ≤ z ∧ z ≤ 6000)) ∧
  (∀ W, Tab W → Calls Tryz.prog 18 #[szv a0 b0 a1 b1 a2 b2] W fun e w' => e = .returned (.tuple #[.agg #[.int .i64 lo, .int .i64 hi], .int .i64 0]) ∧ Below W.heap.size W w') ∧ (∀ W, Tab W → Calls Tryz.prog 19 #[szv a0 b0 a1 b1 a2 b2] W fun e w' => e = .returned (.int .i64 0) ∧ Below W.heap.size W w') ∧
  (∀ W, Calls Tryz.prog 20 #[szv a0 b0 a1 b1 a2 b2] W fun e w' => e = .returned (.tuple #[.agg #[.int .i64 x, .int .i64 y, .int .i64 z], .int .i64 D]) ∧ Below W.heap.size W w') ∧ (∀ W, Tab W → Calls Tryz.prog 21 #[.int .i64 lo, szv a0 b0 a1 b1 a2 b2] W fun e w' => e = .returned (.int .i64 u) ∧ Below W.heap.size W w') ∧ (∀ W, Tab W → Calls Tryz.prog 21 #[.int .i64 hi, szv a0 b0 a1 b1 a2 b2] W fun e w' => e = .returned (.int .i64 v) ∧ Below W.heap.size W w'))
theorem ivE_prt {a0 b0 a1 b1 a2 b2 : Int} (h : ivE [(a0, b0), (a1, b1), (a2, b2)] = 0) : (∀ q ∈ [(a0, b0), (a1, b1), (a2, b2)], Right q.1 q.2) ∧ ∃ x y z D, prt [(a0, b0), (a1, b1), (a2, b2)] = some ([x, y, z], D) := by
 obtain ⟨h1, h2⟩ := ivE_cases h
 refine ⟨h1, ?_⟩
 cases hp : prt [(a0, b0), (a1, b1), (a2, b2)] with
 | none => exact absurd hp h2
 | some r =>
  obtain ⟨l, D⟩ := r
  have hl : l.length = 3 := by
   unfold prt at hp
   split at hp
   ·cases hp
   ·rename_i D' _
    cases hq : prN [(a0, b0), (a1, b1), (a2, b2)] D' with
    | none => rw [hq] at hp; cases hp
    | some l' =>
     rw [hq] at hp
     injection hp with hp
     injection hp with e1 e2
     rw [← e1]
     exact prN_len hq
  match l, hl with
  | [x, y, z], _ => exact ⟨x, y, z, D, rfl⟩
theorem sgn_ge0 {t : Int} (h : 0 ≤ t) : 0 ≤ sgn t := by unfold sgn; split <;> (try split) <;> omega
set_option maxRecDepth 100000 in
theorem rtok_any (a0 b0 a1 b1 a2 b2 : Int) (i0 : I64 a0) (i1 : I64 b0) (i2 : I64 a1) (i3 : I64 b1) (i4 : I64 a2) (i5 : I64 b2) : RtOk a0 b0 a1 b1 a2 b2 := by
 by_cases he : ivE [(a0, b0), (a1, b1), (a2, b2)] = 0
 ·obtain ⟨hS, x, y, z, D, hp⟩ : (∀ q ∈ [(a0, b0), (a1, b1), (a2, b2)], Right q.1 q.2) ∧ ∃ x y z D, prt [(a0, b0), (a1, b1), (a2, b2)] = some ([x, y, z], D) := ivE_prt he
  obtain ⟨-, -, -, -, -, ⟨-, -, r3⟩, -, bx, by_, bz⟩ := prt_inv hS hp
  have hC := fun W => icheck_any a0 b0 a1 b1 a2 b2 W i0 i1 i2 i3 i4 i5
  rw [he] at hC
  have e1 : (∀ q ∈ [(-7, (1 : Int)), ((0 : Int), 1), (0, 1)], Right q.1 q.2) ∧ prt [(-7, 1), (0, 1), (0, 1)] = some ([-7, 0, 0], 1) := by decide
  have e2 : (∀ q ∈ [(7, (1 : Int)), ((0 : Int), 1), (0, 1)], Right q.1 q.2) ∧ prt [(7, 1), (0, 1), (0, 1)] = some ([7, 0, 0], 1) := by decide
  have hU := fun W hT => icompare_all a0 b0 a1 b1 a2 b2 (-7) 1 0 1 0 1 x y z D (-7) 0 0 1 W hT hS e1.1 hp e1.2
  have hV := fun W hT => icompare_all a0 b0 a1 b1 a2 b2 7 1 0 1 0 1 x y z D 7 0 0 1 W hT hS e2.1 hp e2.2
  have hfar := fun W hT => lfar_gen a0 b0 a1 b1 a2 b2 _ _ W hT hC hU hV
  have hrt := fun W hT => ratio_all a0 b0 a1 b1 a2 b2 x y z D W hT hS hp
  have hsg : (sgn (1 * lgZ x y z - D * lgZ (-7) 0 0) < 0 ∨ 0 < sgn (1 * lgZ x y z - D * lgZ 7 0 0)) ↔ (lgZ (x + 7 * D) y z < 0 ∨ 0 < lgZ (x - 7 * D) y z) := by
   rw [← far_iff]
   have s1 : ∀ t : Int, sgn t < 0 ↔ sgn t = -1 := fun t => by unfold sgn; split <;> (try split) <;> omega
   have s2 : ∀ t : Int, 0 < sgn t ↔ sgn t = 1 := fun t => by unfold sgn; split <;> (try split) <;> omega
   rw [s1, s2]
  by_cases hf : lgZ (x + 7 * D) y z < 0 ∨ 0 < lgZ (x - 7 * D) y z
  ·refine .inl ⟨3, by decide, fun W hT => ?_, fun W hT => ?_⟩
   ·have := hrt W hT
    unfold rtV at this
    rw [if_pos hf] at this
    exact this
   ·have := hfar W hT
    rw [if_pos (hsg.2 hf)] at this
    exact this
  ·obtain ⟨⟨h1, h2⟩, h3, h4⟩ := rtLo_ok bx by_ bz r3 (fun k => hf ((far_iff x y z D).1 k))
   have h5 := rtHi_ok h4
   have hhi : rtLo x y z D ≤ rtHi x y z D ∧ rtHi x y z D ≤ rtLo x y z D + 1 := by unfold rtHi; split <;> omega
   have hne : rtHi x y z D = rtLo x y z D + 1 → rtLo x y z D ^ D.toNat * qsL x y z ≠ qsR x y z D ∧ rtHi x y z D ^ D.toNat * qsL x y z ≠ qsR x y z D := fun h => by
    have hn : rtLo x y z D ^ D.toNat * qsL x y z ≠ qsR x y z D := fun hc => by
     unfold rtHi at h
     rw [if_pos hc] at h
     omega
    refine ⟨hn, fun hc => ?_⟩
    rw [h] at hc
    exact absurd hc (Int.ne_of_gt h4)
   have hsd : ∀ k : Int, 0 ≤ k → k ≤ 128000001 → ∀ W, Tab W → Calls Tryz.prog 21 #[.int .i64 k, szv a0 b0 a1 b1 a2 b2] W fun e w' => e = .returned (.int .i64 (sgn (k ^ D.toNat * qsL x y z - qsR x y z D))) ∧ Below W.heap.size W w' := fun k hk hk2 W hT => by
    obtain ⟨n, rfl⟩ : ∃ n : Nat, k = (n : Int) := ⟨k.toNat, by omega⟩
    exact lside_any a0 b0 a1 b1 a2 b2 x y z D n W hT (by omega) hS hp
   refine .inr ⟨rtLo x y z D, rtHi x y z D, x, y, z, D, _, _, ⟨h1, h2, hhi.1, hhi.2⟩, ⟨sgn_le0.2 (Int.sub_nonpos_of_le h3), sgn_ge0 (Int.sub_nonneg_of_le h5)⟩, fun h => ⟨fun hc => (hne h).1 (Int.eq_of_sub_eq_zero (sgn_eq0.1 hc)), fun hc => (hne h).2 (Int.eq_of_sub_eq_zero (sgn_eq0.1 hc))⟩, ⟨bx, by_, bz⟩, fun W hT => ?_, fun W hT => ?_, fun W => lexp_any a0 b0 a1 b1 a2 b2 x y z D W hS hp, fun W hT => hsd _ (by omega) (by omega) W hT, fun W hT => hsd _ (by omega) (by omega) W hT⟩
   ·have := hrt W hT
    unfold rtV at this
    rw [if_neg hf] at this
    exact this
   ·have := hfar W hT
    rw [if_neg (fun h => hf (hsg.1 h))] at this
    exact this
 ·exact .inl ⟨_, he, fun W _ => ratio_err a0 b0 a1 b1 a2 b2 W i0 i1 i2 i3 i4 i5 he, fun W _ => lfar_err a0 b0 a1 b1 a2 b2 _ W he (fun W => icheck_any a0 b0 a1 b1 a2 b2 W i0 i1 i2 i3 i4 i5)⟩
def RtqRel (w : World) (g : Nat) (p0 q0 p1 q1 p2 q2 s0 s1 s2 s3 s4 s5 : Int) (i : Value) (W : World) : Prop :=
 ∃ k : Nat, k ≤ 2 ∧ i = .int .i64 (k : Int) ∧ Hp w [(g, 49, [.int .i64 p0, .int .i64 q0, .int .i64 p1, .int .i64 q1, .int .i64 p2, .int .i64 q2, .int .i64 s0, .int .i64 s1, .int .i64 s2, .int .i64 s3, .int .i64 s4, .int .i64 s5])] W
theorem rt_rows (p0 q0 p1 q1 p2 q2 s0 s1 s2 s3 s4 s5 : Int) (h0 : RtOk p0 q0 p1 q1 p2 q2) (h1 : RtOk s0 s1 s2 s3 s4 s5) (W : World) (g : Nat) (t : TypeId) (hb : Blk W g t [.int .i64 p0, .int .i64 q0, .int .i64 p1, .int .i64 q1, .int .i64 p2, .int .i64 q2, .int .i64 s0, .int .i64 s1, .int .i64 s2, .int .i64 s3, .int .i64 s4, .int .i64 s5]) : ∀ k : Nat, k < 2 → ∃ a0 b0 a1 b1 a2 b2 : Int,
  (W.cell? ⟨g, k * 6, none⟩ = some (.int .i64 a0) ∧ W.cell? ⟨g, k * 6 + 1, none⟩ = some (.int .i64 b0) ∧ W.cell? ⟨g, k * 6 + 2, none⟩ = some (.int .i64 a1) ∧ W.cell? ⟨g, k * 6 + 3, none⟩ = some (.int .i64 b1) ∧ W.cell? ⟨g, k * 6 + 4, none⟩ = some (.int .i64 a2) ∧ W.cell? ⟨g, k * 6 + 5, none⟩ = some (.int .i64 b2)) ∧ RtOk a0 b0 a1 b1 a2 b2 := fun k hk => by
 rcases (show k = 0 ∨ k = 1 by omega) with rfl | rfl
 ·exact ⟨p0, q0, p1, q1, p2, q2, ⟨hb.cell 0, hb.cell 1, hb.cell 2, hb.cell 3, hb.cell 4, hb.cell 5⟩, h0⟩
 ·exact ⟨s0, s1, s2, s3, s4, s5, ⟨hb.cell 6, hb.cell 7, hb.cell 8, hb.cell 9, hb.cell 10, hb.cell 11⟩, h1⟩
theorem run_max_six42 (ts : Array TypeId) (t : TypeId) (a b c : Int) : ∃ m, ∀ w, (Builtin.max_ ts t #[.int .i64 a, .int .i64 (-a), .int .i64 b, .int .i64 (-b), .int .i64 c, .int .i64 (-c)]).run Tryz.prog w = .ok (.int .i64 m) w :=
 ⟨_, fun w => by simp [Builtin.max_, Builtin.max2]; rfl⟩
theorem four42r {W : World} {g : Nat} {t : TypeId} {a b c d : Value} (h : Blk W g t [a, b, c, d]) : W.cell? ⟨g, 0, none⟩ = some a ∧ W.cell? ⟨g, 1, none⟩ = some b ∧ W.cell? ⟨g, 2, none⟩ = some c ∧ W.cell? ⟨g, 3, none⟩ = some d := ⟨h.cell 0, h.cell 1, h.cell 2, h.cell 3⟩
set_option maxRecDepth 1000000 in
set_option maxHeartbeats 8000000 in
theorem lratios_gen (n0 n1 n2 d p0 q0 p1 q1 p2 q2 s0 s1 s2 s3 s4 s5 : Int) (w : World) (ht : Tab w) (h0 : RtOk p0 q0 p1 q1 p2 q2) (h1 : RtOk s0 s1 s2 s3 s4 s5)
  (hM : ∀ W, Calls Tryz.prog 17 #[plv n0 n1 n2 d] W fun e w' => e = .returned (szv p0 q0 p1 q1 p2 q2) ∧ Below W.heap.size W w') :
  Calls Tryz.prog 4 #[plv n0 n1 n2 d, szv s0 s1 s2 s3 s4 s5] w fun e w' => e = .returned (.bool true) ∧ Below w.heap.size w w' := by
 have HKN := Lib.hid (fun W hT => bknown_any W hT)
 have HT := Lib.hid ht
 have HM := Lib.hid hM
 have HRR := Lib.hid (rt_rows p0 q0 p1 q1 p2 q2 s0 s1 s2 s3 s4 s5 h0 h1)
 have hm0 := ((Hp.start w).new 47 [.int .i8 n0, .int .i8 n1, .int .i8 n2, .int .u8 d]).new 49 [.int .i64 s0, .int .i64 s1, .int .i64 s2, .int .i64 s3, .int .i64 s4, .int .i64 s5]
 simp only [World.size_alloc, List.nil_append, List.cons_append] at hm0
 have HM0 := Lib.hid hm0
 clear ht hM hm0 h0 h1
 go_enter Tryz.func4, Tryz.ntmps4
 go_wp2_with fail
 refine (HKN.out _ (HT.out.below HM0.out.below)).mono ?_
 rintro e w1 ⟨rfl, hb1⟩
 have HM1 := Lib.hid (HM0.out.step hb1)
 clear hb1 HM0
 go_upto_region 3 with fail
 have HMK := HM
 clear HM
 refine wp_regionJ 6 #[false, false, false, false, false, false] (fun l a W => ∃ (m0 m1 m2 m3 m4 m5 : Bool) (g : Nat), l = #[m0, m1, m2, m3, m4, m5] ∧ a = ({ tmps := #[.agg #[.int .i8 n0, .int .i8 n1, .int .i8 n2, .int .u8 d], .agg #[.int .i64 s0, .int .i64 s1, .int .i64 s2, .int .i64 s3, .int .i64 s4, .int .i64 s5], .pointer (some ⟨w.heap.size, 0, none⟩), .pointer (some ⟨w.heap.size + 1, 0, none⟩), .bool false, undef, undef, undef, undef, undef, undef, undef, .bool true, .bool false, cwX m0 (.agg #[.int .i8 n0, .int .i8 n1, .int .i8 n2, .int .u8 d]) (undef), cwX m1 (.agg #[.int .i64 p0, .int .i64 q0, .int .i64 p1, .int .i64 q1, .int .i64 p2, .int .i64 q2]) (undef), cwX m2 (.agg #[.int .i64 s0, .int .i64 s1, .int .i64 s2, .int .i64 s3, .int .i64 s4, .int .i64 s5]) (undef), cwX m3 (.slice (some ⟨g, 0, none⟩) 2 2) (undef), cwX m4 (.int .i64 2) (undef), cwX m5 (.int .i64 0) (undef), undef, undef, undef, undef, undef, undef, undef, undef, undef, undef, undef, undef, undef, undef, undef, undef, undef, undef, undef, undef, undef, undef, undef, undef, undef, undef, undef, undef, undef, undef, undef, undef, undef, undef, undef, undef, undef, undef, undef, undef, undef, undef, undef, undef, undef, undef, undef, undef, undef, undef, undef, undef, undef, undef, undef, undef, undef, undef, undef, undef, undef, undef, undef, undef, undef, undef, undef, undef, undef, undef, undef, undef, undef, undef, undef, undef, undef, undef, undef, undef, undef, undef, undef, undef, undef, undef, undef, undef, undef, undef, undef, undef, undef, undef, undef, undef, undef, undef, undef, undef, undef, undef, undef], defers := [] } : Act) ∧ (True) ∧ Hp w (bif m3 then [(w.heap.size, 47, [.int .i8 n0, .int .i8 n1, .int .i8 n2, .int .u8 d]), (w.heap.size + 1, 49, [.int .i64 s0, .int .i64 s1, .int .i64 s2, .int .i64 s3, .int .i64 s4, .int .i64 s5])] ++ [(g, 49, [.int .i64 p0, .int .i64 q0, .int .i64 p1, .int .i64 q1, .int .i64 p2, .int .i64 q2, .int .i64 s0, .int .i64 s1, .int .i64 s2, .int .i64 s3, .int .i64 s4, .int .i64 s5])] else [(w.heap.size, 47, [.int .i8 n0, .int .i8 n1, .int .i8 n2, .int .u8 d]), (w.heap.size + 1, 49, [.int .i64 s0, .int .i64 s1, .int .i64 s2, .int .i64 s3, .int .i64 s4, .int .i64 s5])]) W) (by kernel_rfl) (by kernel_rfl) (by kernel_rfl) (by kernel_rfl) ?_ ?_ ?_ ?_
 ·rintro l a W ⟨m0, m1, m2, m3, m4, m5, g, rfl, _⟩
  rfl
 ·exact ⟨false, false, false, false, false, false, 0, rfl, rfl, trivial, HM1.out.drew⟩
 ·rintro l a W i o ⟨m0, m1, m2, m3, m4, m5, g, rfl, rfl, hi0, hm⟩ ho hun hall K hK
  have hi : i < 6 := (Array.getElem?_eq_some_iff.1 ho).1
  have HM := Lib.hid hm
  have HI := Lib.hid hi0
  clear hm hi0
  rcases (show i = 0 ∨ i = 1 ∨ i = 2 ∨ i = 3 ∨ i = 4 ∨ i = 5 by omega) with rfl | rfl | rfl | rfl | rfl | rfl
  ·cases ho
   simp at hun; subst hun
   clear hall hi
   obtain ⟨c0, c1, c2, c3⟩ := four42r (show Blk W w.heap.size 47 [.int .i8 n0, .int .i8 n1, .int .i8 n2, .int .u8 d] by cases m3 <;> exact HM.out.at_ 0 rfl)
   go_simp
   exact hK.out _ _ ⟨true, m1, m2, m3, m4, m5, g, rfl, rfl, trivial, HM.out⟩
  ·cases ho
   cases (getBX hall 0 rfl : m0 = true)
   simp at hun; subst hun
   clear hall hi
   go_simp
   refine (HMK.out _).mono ?_
   rintro e W' ⟨rfl, hb⟩
   exact hK.out _ _ ⟨true, true, m2, m3, m4, m5, g, rfl, rfl, trivial, HM.out.step hb⟩
  ·cases ho
   simp at hun; subst hun
   clear hall hi
   obtain ⟨c0, c1, c2, c3, c4, c5⟩ := six_of (show Blk W (w.heap.size + 1) 49 [.int .i64 s0, .int .i64 s1, .int .i64 s2, .int .i64 s3, .int .i64 s4, .int .i64 s5] by cases m3 <;> exact HM.out.at_ 1 rfl)
   go_simp
   exact hK.out _ _ ⟨m0, m1, true, m3, m4, m5, g, rfl, rfl, trivial, HM.out⟩
  ·cases ho
   cases (getBX hall 1 rfl : m1 = true)
   cases (getBX hall 2 rfl : m2 = true)
   simp at hun; subst hun
   clear hall hi
   go_simp
   exact hK.out _ _ ⟨m0, true, true, true, m4, m5, W.heap.size, rfl, rfl, trivial, HM.out.new _ _⟩
  ·cases ho
   cases (getBX hall 3 rfl : m3 = true)
   simp at hun; subst hun
   clear hall hi
   go_simp
   exact hK.out _ _ ⟨m0, m1, m2, true, true, m5, g, rfl, rfl, trivial, HM.out⟩
  ·cases ho
   simp at hun; subst hun
   clear hall hi
   go_simp
   exact hK.out _ _ ⟨m0, m1, m2, m3, m4, true, g, rfl, rfl, trivial, HM.out⟩
 ·rintro l a W ⟨m0, m1, m2, m3, m4, m5, g, rfl, rfl, _, hm⟩ hall
  cases (hall 0 (by decide) : m0 = true)
  cases (hall 1 (by decide) : m1 = true)
  cases (hall 2 (by decide) : m2 = true)
  cases (hall 3 (by decide) : m3 = true)
  cases (hall 4 (by decide) : m4 = true)
  cases (hall 5 (by decide) : m5 = true)
  clear hall
  have HQ := Lib.hid (show Hp w [(g, 49, [.int .i64 p0, .int .i64 q0, .int .i64 p1, .int .i64 q1, .int .i64 p2, .int .i64 q2, .int .i64 s0, .int .i64 s1, .int .i64 s2, .int .i64 s3, .int .i64 s4, .int .i64 s5])] _ from hm.sub (List.sublist_append_right _ _))
  clear hm HM1 HMK
  dsimp only [cwX, cond_true]
  go_wp2_with fail
  go_loopw [19] (fun i wr => RtqRel w g p0 q0 p1 q1 p2 q2 s0 s1 s2 s3 s4 s5 i wr) (fun i _ => 2 - (intOf i).toNat)
  case atStart => exact ⟨0, by omega, rfl, HQ.out⟩
  case round =>
   obtain ⟨k, hk, rfl, hm⟩ := hrel
   have HJ := Lib.hid hm
   clear hm HQ
   by_cases hlt : k < 2
   ·obtain ⟨a0, b0, a1, b1, a2, b2, ⟨c0, c1, c2, c3, c4, c5⟩, hok⟩ := HRR.out _ _ _ (HJ.out.at_ 0 rfl) k hlt
    have hlk : (k : Int) < 2 := by omega
    have hm2 := HJ.out.new 49 [.int .i64 a0, .int .i64 b0, .int .i64 a1, .int .i64 b1, .int .i64 a2, .int .i64 b2]
    simp only [List.nil_append, List.cons_append] at hm2
    have HJ2 := Lib.hid hm2
    clear hm2
    rcases hok with ⟨c, hc, hR, hF⟩ | ⟨lo, hi, x, y, z, D, u, v, hb, huv, hne, hxyz, hR, hF, hX, hL, hH⟩
    ·have hz : (c != 0) = true := by simpa using hc
     have HR := Lib.hid hR
     have HF := Lib.hid hF
     obtain ⟨y0, y1, y2, y3, y4, y5⟩ := six_of (HJ2.out.at_ 1 rfl)
     have HLT := Lib.hid hlt
     clear hc hR hF hk hlt
     go_wp2_with fail
     refine (HR.out _ (HT.out.below HJ2.out.below)).mono ?_
     rintro e w2 ⟨rfl, hb2⟩
     have hm3 := (HJ2.out.step hb2).new 53 [.int .i64 0, .int .i64 0]
     simp only [List.nil_append, List.cons_append] at hm3
     have HJ3 := Lib.hid hm3
     clear hb2 HJ2 hm3 y0 y1 y2 y3 y4 y5 c0 c1 c2 c3 c4 c5
     obtain ⟨y0, y1, y2, y3, y4, y5⟩ := six_of (HJ3.out.at_ 1 rfl)
     go_wp2_with fail
     refine (HF.out _ (HT.out.below HJ3.out.below)).mono ?_
     rintro e w3 ⟨rfl, hb3⟩
     have HJ4 := Lib.hid (HJ3.out.step hb3)
     obtain ⟨z0, z1⟩ := two_of (HJ4.out.at_ 2 rfl)
     clear hb3 HJ3 y0 y1 y2 y3 y4 y5
     go_wp2_with fail
     go_roundw
     case rel => exact ⟨k + 1, by have := HLT.out; omega, rfl, HJ4.out.sub (by simp)⟩
     case measure => have := HLT.out; simp only [intOf]; omega
    ·have HB := Lib.hid hb
     have HUV := Lib.hid huv
     have HNE := Lib.hid hne
     have HXYZ := Lib.hid hxyz
     have HR := Lib.hid hR
     have HF := Lib.hid hF
     have HX := Lib.hid hX
     have HL := Lib.hid hL
     have HH := Lib.hid hH
     obtain ⟨y0, y1, y2, y3, y4, y5⟩ := six_of (HJ2.out.at_ 1 rfl)
     have HLT := Lib.hid hlt
     clear hb huv hne hxyz hR hF hX hL hH hk hlt
     go_wp2_with fail
     refine (HR.out _ (HT.out.below HJ2.out.below)).mono ?_
     rintro e w2 ⟨rfl, hb2⟩
     have hm3 := (HJ2.out.step hb2).new 53 [.int .i64 lo, .int .i64 hi]
     simp only [List.nil_append, List.cons_append] at hm3
     have HJ3 := Lib.hid hm3
     clear hb2 HJ2 hm3 y0 y1 y2 y3 y4 y5 c0 c1 c2 c3 c4 c5
     obtain ⟨y0, y1, y2, y3, y4, y5⟩ := six_of (HJ3.out.at_ 1 rfl)
     go_wp2_with fail
     refine (HF.out _ (HT.out.below HJ3.out.below)).mono ?_
     rintro e w3 ⟨rfl, hb3⟩
     have HJ4 := Lib.hid (HJ3.out.step hb3)
     clear hb3 HJ3 y0 y1 y2 y3 y4 y5
     obtain ⟨y0, y1, y2, y3, y4, y5⟩ := six_of (HJ4.out.at_ 1 rfl)
     go_wp2_with fail
     refine (HX.out _).mono ?_
     rintro e w4 ⟨rfl, hb4⟩
     have hm5 := (HJ4.out.step hb4).new 57 [.int .i64 x, .int .i64 y, .int .i64 z]
     simp only [List.nil_append, List.cons_append] at hm5
     have HJ5 := Lib.hid hm5
     obtain ⟨z0, z1, z2⟩ := three_of (hm5.at_ 3 rfl)
     have wx : IntKind.i64.wrap (-x) = -x ∧ IntKind.i64.wrap (-y) = -y ∧ IntKind.i64.wrap (-z) = -z := by
      have := HXYZ.out
      exact ⟨IntWalk.i64_in _ (by omega), IntWalk.i64_in _ (by omega), IntWalk.i64_in _ (by omega)⟩
     obtain ⟨wx0, wx1, wx2⟩ := wx
     clear hb4 HJ4 hm5 y0 y1 y2 y3 y4 y5
     by_cases hD : 24 < D
     ·go_wp2_with fail
      go_roundw
      case rel => exact ⟨k + 1, by have := HLT.out; omega, rfl, HJ5.out.sub (by simp)⟩
      case measure => have := HLT.out; simp only [intOf]; omega
     ·obtain ⟨mx, hmx⟩ := run_max_six42 #[3, 3, 3, 3, 3, 3] 3 x y z
      by_cases hmg : 200 < mx
      ·go_wp2_with fail
       go_roundw
       case rel => exact ⟨k + 1, by have := HLT.out; omega, rfl, HJ5.out.sub (by simp)⟩
       case measure => have := HLT.out; simp only [intOf]; omega
      ·obtain ⟨h1, h2, h3, h4⟩ := HB.out
       obtain ⟨l1, hl1⟩ : ∃ l, l = lo + 1 := ⟨_, rfl⟩
       have hwl : IntKind.i64.wrap (lo + 1) = l1 := by rw [hl1]; exact IntWalk.i64_in _ (by omega)
       have g1 : ¬ lo < 1 := by omega
       have g2 : ¬ hi < lo := by omega
       have g3 : ¬ l1 < hi := by omega
       have HL1 := Lib.hid hl1
       obtain ⟨y0, y1⟩ := two_of (HJ5.out.at_ 2 rfl)
       obtain ⟨x0, x1, x2, x3, x4, x5⟩ := six_of (HJ5.out.at_ 1 rfl)
       clear h1 h2 h3 h4 hl1
       go_wp2_with fail
       refine (HL.out _ (HT.out.below HJ5.out.below)).mono ?_
       rintro e w5 ⟨rfl, hb5⟩
       have HJ6 := Lib.hid (HJ5.out.step hb5)
       clear hb5 HJ5 y0 y1 x0 x1 x2 x3 x4 x5 z0 z1 z2 wx0 wx1 wx2 hmx hmg hD
       obtain ⟨y0, y1⟩ := two_of (HJ6.out.at_ 2 rfl)
       obtain ⟨x0, x1, x2, x3, x4, x5⟩ := six_of (HJ6.out.at_ 1 rfl)
       have g4 : ¬ 0 < u := by have := HUV.out.1; omega
       go_wp2_with fail
       refine (HH.out _ (HT.out.below HJ6.out.below)).mono ?_
       rintro e w6 ⟨rfl, hb6⟩
       have HJ7 := Lib.hid (HJ6.out.step hb6)
       clear hb6 HJ6 y0 y1 x0 x1 x2 x3 x4 x5
       obtain ⟨y0, y1⟩ := two_of (HJ7.out.at_ 2 rfl)
       obtain ⟨x0, x1, x2, x3, x4, x5⟩ := six_of (HJ7.out.at_ 1 rfl)
       have g5 : ¬ v < 0 := by have := HUV.out.2; omega
       by_cases hh : hi = l1
       ·obtain ⟨n1', n2'⟩ := HNE.out (hh.trans HL1.out)
        have e1 : (u == 0) = false := by simpa using n1'
        have e2 : (v == 0) = false := by simpa using n2'
        have e0 : (hi == l1) = true := by simpa using hh
        clear n1' n2' hh HNE
        go_wp2_with fail
        refine (HL.out _ (HT.out.below HJ7.out.below)).mono ?_
        rintro e w7 ⟨rfl, hb7⟩
        have HJ8 := Lib.hid (HJ7.out.step hb7)
        clear hb7 HJ7 y0 y1 x0 x1 x2 x3 x4 x5 g5 e0
        obtain ⟨y0, y1⟩ := two_of (HJ8.out.at_ 2 rfl)
        obtain ⟨x0, x1, x2, x3, x4, x5⟩ := six_of (HJ8.out.at_ 1 rfl)
        go_wp2_with fail
        refine (HH.out _ (HT.out.below HJ8.out.below)).mono ?_
        rintro e w8 ⟨rfl, hb8⟩
        have HJ9 := Lib.hid (HJ8.out.step hb8)
        clear hb8 HJ8 y0 y1 x0 x1 x2 x3 x4 x5
        go_wp2_with fail
        go_roundw
        case rel => exact ⟨k + 1, by have := HLT.out; omega, rfl, HJ9.out.sub (by simp)⟩
        case measure => have := HLT.out; simp only [intOf]; omega
       ·have e0 : (hi == l1) = false := by simpa using hh
        clear hh HNE
        go_wp2_with fail
        go_roundw
        case rel => exact ⟨k + 1, by have := HLT.out; omega, rfl, HJ7.out.sub (by simp)⟩
        case measure => have := HLT.out; simp only [intOf]; omega
   ·obtain rfl : k = 2 := by omega
    clear hlt hk
    go_wp2_with fail
    exact bodyPost_ret (v := .bool true) (by simp [results, Tryz.results4, go_sem]) rfl ⟨rfl, HJ.out.below⟩
theorem lratios_any (n0 n1 n2 d s0 s1 s2 s3 s4 s5 : Int) (w : World) (ht : Tab w) (h0 : -128 ≤ n0 ∧ n0 ≤ 127) (h1 : -128 ≤ n1 ∧ n1 ≤ 127) (h2 : -128 ≤ n2 ∧ n2 ≤ 127) (hd : 0 ≤ d ∧ d ≤ 255) (i0 : I64 s0) (i1 : I64 s1) (i2 : I64 s2) (i3 : I64 s3) (i4 : I64 s4) (i5 : I64 s5) :
  Calls Tryz.prog 4 #[plv n0 n1 n2 d, szv s0 s1 s2 s3 s4 s5] w fun e w' => e = .returned (.bool true) ∧ Below w.heap.size w w' := by
 obtain ⟨hr, -⟩ := plan_prt (n0 := n0) (n1 := n1) (n2 := n2) (M := 1 + d % 12) (by omega) (by omega) (by omega) (by omega)
 have hi : ∀ {n d : Int}, Right n d → I64 n ∧ I64 d := fun h => by
  obtain ⟨h1, h2, h3, h4, _⟩ := h
  exact ⟨⟨by omega, by omega⟩, ⟨by omega, by omega⟩⟩
 have r0 := hi (hr (lowN n0 (1 + d % 12), lowD n0 (1 + d % 12)) (by simp))
 have r1 := hi (hr (lowN n1 (1 + d % 12), lowD n1 (1 + d % 12)) (by simp))
 have r2 := hi (hr (lowN n2 (1 + d % 12), lowD n2 (1 + d % 12)) (by simp))
 exact lratios_gen n0 n1 n2 d _ _ _ _ _ _ s0 s1 s2 s3 s4 s5 w ht (rtok_any _ _ _ _ _ _ r0.1 r0.2 r1.1 r1.2 r2.1 r2.2) (rtok_any s0 s1 s2 s3 s4 s5 i0 i1 i2 i3 i4 i5) (fun W => lmake_any n0 n1 n2 d W h0 h1 h2 hd)
end Go.Proofs.YtendjepcjmfmfaaGreatDoor
