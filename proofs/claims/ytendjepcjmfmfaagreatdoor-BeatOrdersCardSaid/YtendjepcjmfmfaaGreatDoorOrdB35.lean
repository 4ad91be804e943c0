/- Part 35 of 47 of the proof of the law: contracts of the functions that it reaches, and plain facts. Conditions: those that each contract names. -/
import Derived.Test.YtendjepcjmfmfaaGreatDoorOrdB32
import Derived.Deep.DeepCutAuto
namespace Go.Proofs.YtendjepcjmfmfaaGreatDoor
open Go.RowKit
abbrev qL (g : Nat) (a0 b0 a1 b1 a2 b2 : Int) (q : List Value) : List (Nat × TypeId × List Value) :=
 [(g, 49, [.int .i64 a0, .int .i64 b0, .int .i64 a1, .int .i64 b1, .int .i64 a2, .int .i64 b2]), (g + 1, 116, [.int .i64 0, .string ⟨#[]⟩, .string ⟨#[]⟩]),
  (g + 1 + 1, 34, [.int .i64 a0, .int .i64 b0, .int .i64 a1, .int .i64 b1, .int .i64 a2, .int .i64 b2]), (g + 1 + 1 + 1, 116, q)]
theorem two_of {W : World} {g : Nat} {t : TypeId} {a b : Value} (h : Blk W g t [a, b]) : W.cell? ⟨g, 0, none⟩ = some a ∧ W.cell? ⟨g, 1, none⟩ = some b := ⟨h.cell 0, h.cell 1⟩
theorem ask_step {E b F : Int} (hE : 1 ≤ E ∧ E ≤ 240) (hb : 1 ≤ b ∧ b ≤ 1000000) (hl : lcmA E b = F) (hF : 1 ≤ F ∧ F ≤ 240) :
  ∃ g q : Int, (∀ W, Calls Tryz.prog 87 #[.int .i64 E, .int .i64 b] W fun e w' => e = .returned (.int .i64 g) ∧ Below W.heap.size W w') ∧ ((g == 0) = false ∧ ¬ g = 0) ∧ IntKind.i64.wrap (b.tdiv g) = q ∧ IntKind.i64.wrap (E * q) = F := by
 have hg : 0 < (Nat.gcd E.natAbs b.natAbs : Int) := by
  have := Nat.gcd_pos_of_pos_left b.natAbs (show 0 < E.natAbs by omega)
  omega
 have hp := lcm_prod hE.1 hb.1
 refine ⟨(Nat.gcd E.natAbs b.natAbs : Int), b / (Nat.gcd E.natAbs b.natAbs : Int), fun W => bgcd_at E b W (by omega) (by omega) (by omega) (by omega), ?_, ?_, ?_⟩
 ·exact ⟨by rw [beq_eq_false_iff_ne]; omega, by omega⟩
 ·rw [Int.tdiv_eq_ediv_of_nonneg (by omega)]
  have h1 : 0 ≤ b / (Nat.gcd E.natAbs b.natAbs : Int) := Int.ediv_nonneg (by omega) (by omega)
  have h2 := Int.ediv_le_self (a := b) (Nat.gcd E.natAbs b.natAbs : Int) (by omega)
  exact IntWalk.i64_in _ (by omega)
 ·rw [hp, hl]; exact IntWalk.i64_in _ (by omega)
theorem ask_num {a b x D : Int} (hx : x = a * (D / b)) (hb : 1 ≤ b ∧ b ≤ 1000000) (hD : 0 ≤ D ∧ D ≤ 240) (hx6 : -6000 ≤ x ∧ x ≤ 6000) :
  ∃ q : Int, IntKind.i64.wrap (D.tdiv b) = q ∧ IntKind.i64.wrap (a * q) = x ∧ (b == 0) = false ∧ ¬ b = 0 := by
 refine ⟨D / b, ?_, ?_, by rw [beq_eq_false_iff_ne]; omega, by omega⟩
 ·rw [Int.tdiv_eq_ediv_of_nonneg (by omega)]
  have h1 : 0 ≤ D / b := Int.ediv_nonneg (by omega) (by omega)
  have h2 := Int.ediv_le_self (a := D) b (by omega)
  exact IntWalk.i64_in _ (by omega)
 ·rw [← hx]; exact IntWalk.i64_in _ (by omega)
theorem ask_neg {n : Int} {p p' : Nat} (hp : p = (-n).toNat) (hp' : p' = n.toNat) (h6 : -6000 ≤ n ∧ n ≤ 6000) (h : n < 0) : n < 0 ∧ IntKind.i64.wrap (-n) = (p : Int) ∧ max n (p : Int) = p ∧ p' = 0 :=
 ⟨h, by rw [IntWalk.i64_in _ (by omega)]; omega, by omega, by omega⟩
theorem ask_pos {n : Int} {p p' : Nat} (hp : p = (-n).toNat) (hp' : p' = n.toNat) (h6 : -6000 ≤ n ∧ n ≤ 6000) (h : 0 ≤ n) : ¬ n < 0 ∧ IntKind.i64.wrap (-n) = -n ∧ max n (-n) = p' ∧ p = 0 :=
 ⟨by omega, by rw [IntWalk.i64_in _ (by omega)], by omega, by omega⟩
def qE (E0 E1 E2 D : Int) : Nat → Int
 | 0 => E0
 | 1 => E1
 | 2 => E2
 | _ => D
def QaRel (w : World) (a0 b0 a1 b1 a2 b2 E0 E1 E2 D : Int) (i : Value) (W : World) : Prop :=
 ∃ k : Nat, k ≤ 3 ∧ i = .int .i64 (k : Int) ∧ Hp w (qL w.heap.size a0 b0 a1 b1 a2 b2 [.int .i64 (qE E0 E1 E2 D k), .string ⟨#[49]⟩, .string ⟨#[]⟩]) W
def QbRel (w : World) (g5 : Nat) (a0 b0 a1 b1 a2 b2 : Int) (D T : Int) (a b c a' b' c' : Nat) (i : Value) (W : World) : Prop :=
 ∃ k : Nat, k ≤ 3 ∧ i = .int .i64 (k : Int) ∧ Hp w (qL w.heap.size a0 b0 a1 b1 a2 b2 [.int .i64 D, .string (dec (rsT 1 a b c k)), .string (dec (rsT T a' b' c' k))] ++ [(g5, 3, [.int .i64 2, .int .i64 3, .int .i64 5])]) W
set_option maxRecDepth 100000 in
set_option maxHeartbeats 8000000 in
theorem ask_any (a0 b0 a1 b1 a2 b2 x y z D : Int) (w : World) (ht : Tab w) (hS : ∀ q ∈ [(a0, b0), (a1, b1), (a2, b2)], Right q.1 q.2) (hp : prt [(a0, b0), (a1, b1), (a2, b2)] = some ([x, y, z], D)) :
  Calls Tryz.prog 47 #[szv a0 b0 a1 b1 a2 b2] w fun e w' => e = .returned (.agg #[.int .i64 D, .string (dec (rsT 1 (-x).toNat (-y).toNat (-z).toNat 3)), .string (dec (rsT (1000000 ^ D.toNat) x.toNat y.toNat z.toNat 3))]) ∧ Below w.heap.size w w' := by
 obtain ⟨E1, E2, l0, l1, l2, ⟨r1, r2, r3⟩, ⟨x0, x1, x2⟩, bx, by_, bz⟩ := prt_inv hS hp
 have hm0 := (Hp.start w).new 49 [.int .i64 a0, .int .i64 b0, .int .i64 a1, .int .i64 b1, .int .i64 a2, .int .i64 b2]
 have hm1 := hm0.new 116 [.int .i64 0, .string ⟨#[]⟩, .string ⟨#[]⟩]
 simp only [World.size_alloc, List.nil_append, List.cons_append] at hm1
 have HM0 := Lib.hid hm1
 have hm2 := hm1.new 34 [.int .i64 a0, .int .i64 b0, .int .i64 a1, .int .i64 b1, .int .i64 a2, .int .i64 b2]
 have hm3 := hm2.new 116 [.int .i64 1, .string ⟨#[49]⟩, .string ⟨#[]⟩]
 simp only [World.size_alloc, List.nil_append, List.cons_append] at hm3
 have HM4 := Lib.hid hm3
 obtain ⟨p0, p1, p2, p3, p4, p5⟩ := six_of (hm1.at_ 0 rfl)
 have R0 := hS (a0, b0) (by simp)
 have R1 := hS (a1, b1) (by simp)
 have R2 := hS (a2, b2) (by simp)
 obtain ⟨E0, he0⟩ : ∃ e : Int, e = 1 := ⟨_, rfl⟩
 have A0 := Lib.hid (ask_step (E := E0) (by omega) ⟨R0.1, R0.2.1⟩ (by rw [he0]; exact l0) r1)
 have HE0 := Lib.hid he0
 have A1 := Lib.hid (ask_step r1 ⟨R1.1, R1.2.1⟩ l1 r2)
 have A2 := Lib.hid (ask_step r2 ⟨R2.1, R2.2.1⟩ l2 r3)
 obtain ⟨m, hmD⟩ : ∃ m : Nat, D = (m : Int) := ⟨D.toNat, by omega⟩
 have hm240 : m ≤ 240 := by omega
 obtain ⟨T, hT⟩ : ∃ T : Int, T = 1000000 ^ D.toNat := ⟨_, rfl⟩
 rw [← hT]
 have hTm : T = 1000000 ^ m := by rw [hT, hmD]; rfl
 have hpw := fun W h => power_any 1000000 m W h (by omega) (by rw [show Lib.nDigits (1000000 : Int).natAbs = 7 by decide +kernel]; omega) (by rw [show Lib.nDigits (1000000 : Int).natAbs = 7 by decide +kernel]; omega)
 rw [← hTm, ← hmD] at hpw
 have HPW := Lib.hid hpw
 have HOF := Lib.hid (fun W h => of_any 1000000 (by decide) (by decide) W h)
 have HT := Lib.hid ht
 obtain ⟨a, ha⟩ : ∃ a, a = (-x).toNat := ⟨_, rfl⟩
 obtain ⟨b, hb⟩ : ∃ a, a = (-y).toNat := ⟨_, rfl⟩
 obtain ⟨c, hc⟩ : ∃ a, a = (-z).toNat := ⟨_, rfl⟩
 obtain ⟨a', ha'⟩ : ∃ a, a = x.toNat := ⟨_, rfl⟩
 obtain ⟨b', hb'⟩ : ∃ a, a = y.toNat := ⟨_, rfl⟩
 obtain ⟨c', hc'⟩ : ∃ a, a = z.toNat := ⟨_, rfl⟩
 rw [← ha, ← hb, ← hc, ← ha', ← hb', ← hc']
 have hdT : Lib.nDigits T.natAbs ≤ 1681 := by
  have h1 := pow_digits 1000000 m
  rw [← hTm, show Lib.nDigits (1000000 : Int).natAbs = 7 by decide +kernel] at h1
  omega
 have kL := fun k => rsT_digits 1 a b c k (by omega) (by omega) (by omega)
 have kR := fun k => rsT_digits T a' b' c' k (by omega) (by omega) (by omega)
 have hd1 : Lib.nDigits (1 : Int).natAbs = 1 := by decide +kernel
 rw [hd1] at kL
 have N0 := Lib.hid (ask_num (D := D) (by exact x0) ⟨R0.1, R0.2.1⟩ (by omega) bx)
 have SA0 := Lib.hid (ask_neg ha ha' bx)
 have SB0 := Lib.hid (ask_pos ha ha' bx)
 have PA0 := Lib.hid (fun W h => power_any 2 a W h (by omega) (Nat.le_trans (Nat.mul_le_mul_left a (nd1 (q := 2) (by decide))) (by omega)) (Nat.le_trans (nd1 (q := 2) (by decide)) (by decide)))
 have MA0 := Lib.hid (fun W h => mul_any (rsT 1 a b c 0) (2 ^ a) W h (by have := kL 0; omega) (by have := pow2_digits 2 a (nd1 (by decide)) (by omega); omega))
 have PB0 := Lib.hid (fun W h => power_any 2 a' W h (by omega) (Nat.le_trans (Nat.mul_le_mul_left a' (nd1 (q := 2) (by decide))) (by omega)) (Nat.le_trans (nd1 (q := 2) (by decide)) (by decide)))
 have MB0 := Lib.hid (fun W h => mul_any (rsT T a' b' c' 0) (2 ^ a') W h (by have := kR 0; omega) (by have := pow2_digits 2 a' (nd1 (by decide)) (by omega); omega))
 have OF0 := Lib.hid (fun W h => of_any 2 (by decide) (by decide) W h)
 have N1 := Lib.hid (ask_num (D := D) (by exact x1) ⟨R1.1, R1.2.1⟩ (by omega) by_)
 have SA1 := Lib.hid (ask_neg hb hb' by_)
 have SB1 := Lib.hid (ask_pos hb hb' by_)
 have PA1 := Lib.hid (fun W h => power_any 3 b W h (by omega) (Nat.le_trans (Nat.mul_le_mul_left b (nd1 (q := 3) (by decide))) (by omega)) (Nat.le_trans (nd1 (q := 3) (by decide)) (by decide)))
 have MA1 := Lib.hid (fun W h => mul_any (rsT 1 a b c 1) (3 ^ b) W h (by have := kL 1; omega) (by have := pow2_digits 3 b (nd1 (by decide)) (by omega); omega))
 have PB1 := Lib.hid (fun W h => power_any 3 b' W h (by omega) (Nat.le_trans (Nat.mul_le_mul_left b' (nd1 (q := 3) (by decide))) (by omega)) (Nat.le_trans (nd1 (q := 3) (by decide)) (by decide)))
 have MB1 := Lib.hid (fun W h => mul_any (rsT T a' b' c' 1) (3 ^ b') W h (by have := kR 1; omega) (by have := pow2_digits 3 b' (nd1 (by decide)) (by omega); omega))
 have OF1 := Lib.hid (fun W h => of_any 3 (by decide) (by decide) W h)
 have N2 := Lib.hid (ask_num (D := D) (by exact x2) ⟨R2.1, R2.2.1⟩ (by omega) bz)
 have SA2 := Lib.hid (ask_neg hc hc' bz)
 have SB2 := Lib.hid (ask_pos hc hc' bz)
 have PA2 := Lib.hid (fun W h => power_any 5 c W h (by omega) (Nat.le_trans (Nat.mul_le_mul_left c (nd1 (q := 5) (by decide))) (by omega)) (Nat.le_trans (nd1 (q := 5) (by decide)) (by decide)))
 have MA2 := Lib.hid (fun W h => mul_any (rsT 1 a b c 2) (5 ^ c) W h (by have := kL 2; omega) (by have := pow2_digits 5 c (nd1 (by decide)) (by omega); omega))
 have PB2 := Lib.hid (fun W h => power_any 5 c' W h (by omega) (Nat.le_trans (Nat.mul_le_mul_left c' (nd1 (q := 5) (by decide))) (by omega)) (Nat.le_trans (nd1 (q := 5) (by decide)) (by decide)))
 have MB2 := Lib.hid (fun W h => mul_any (rsT T a' b' c' 2) (5 ^ c') W h (by have := kR 2; omega) (by have := pow2_digits 5 c' (nd1 (by decide)) (by omega); omega))
 have OF2 := Lib.hid (fun W h => of_any 5 (by decide) (by decide) W h)
 clear hm0 hm1 hm2 hm3 l0 l1 l2 he0 hpw hmD hT hTm ha hb hc ha' hb' hc' kL kR hd1 hdT R0 R1 R2 x0 x1 x2 hm240
 go_enter Tryz.func47, Tryz.ntmps47
 go_wp2_with fail
 go_loopw [22] (fun i wr => QaRel w a0 b0 a1 b1 a2 b2 E0 E1 E2 D i wr) (fun i _ => 3 - (intOf i).toNat)
 case atStart => exact ⟨0, by omega, rfl, by rw [HE0.out]; exact HM4.out⟩
 case round =>
  obtain ⟨k, hk, rfl, hm⟩ := hrel
  have HM := Lib.hid hm
  clear hm HM4
  by_cases hlt : k < 3
  ·rcases (show k = 0 ∨ k = 1 ∨ k = 2 by omega) with rfl | rfl | rfl
   ·obtain ⟨c0, c1, c2, c3, c4, c5⟩ := six_of (HM.out.at_ 2 rfl)
    have hm5 := HM.out.new 34 [.int .i64 a0, .int .i64 b0]
    have HM5 := Lib.hid hm5
    obtain ⟨g, q, hgc, hg1, hw1, hw2⟩ := A0.out
    have HGC := Lib.hid hgc
    have HQ := Lib.hid (And.intro hg1 (And.intro hw1 hw2))
    clear hm5 hgc hg1 hw1 hw2
    go_upto_region 6 with fail
    clear c0 c1 c2 c3 c4 c5 HM
    obtain ⟨⟨hg1, hg2⟩, hw1, hw2⟩ := HQ.out
    refine wp_regionJ 13 #[false, false, false, false, false, false, false, false, false, false, false, false, false] (fun l a W => ∃ (m0 m1 m2 m3 m4 m5 m6 m7 m8 m9 m10 m11 m12 : Bool), l = #[m0, m1, m2, m3, m4, m5, m6, m7, m8, m9, m10, m11, m12] ∧ a = ({ tmps := #[szv a0 b0 a1 b1 a2 b2, .pointer (some ⟨w.heap.size, 0, none⟩), .pointer (some ⟨w.heap.size + 1, 0, none⟩), .slice (some { block := w.heap.size + 1 + 1, off := 0 }) 3 3, .pointer (some ⟨w.heap.size + 1 + 1 + 1, 0, none⟩), undef, .pointer (some ⟨wr.heap.size, 0, none⟩), undef, undef, undef, undef, undef, .pointer (some ⟨w.heap.size, 0, none⟩), .agg #[.int .i64 a0, .int .i64 b0], .pointer (some ⟨w.heap.size, 2, none⟩), .agg #[.int .i64 a1, .int .i64 b1], .pointer (some ⟨w.heap.size, 4, none⟩), .agg #[.int .i64 a2, .int .i64 b2], .slice (some { block := w.heap.size + 1 + 1, off := 0 }) 3 3, .agg #[.int .i64 1, .string { data := #[49] }, .string { data := #[] }], .slice (some { block := w.heap.size + 1 + 1, off := 0 }) 3 3, .int .i64 3, .int .i64 (0 : Int), .bool true, .pointer (some ⟨w.heap.size + 1 + 1, 0, none⟩), .agg #[.int .i64 a0, .int .i64 b0], cwX m0 (.pointer (some ⟨w.heap.size + 1 + 1 + 1, 0, none⟩)) (u26), cwX m1 (.int .i64 E0) (u27), cwX m2 (.pointer (some ⟨wr.heap.size, 1, none⟩)) (u28), cwX m3 (.int .i64 b0) (u29), cwX m4 (.pointer (some ⟨w.heap.size + 1 + 1 + 1, 0, none⟩)) (u30), cwX m5 (.int .i64 E0) (u31), cwX m6 (.pointer (some ⟨wr.heap.size, 1, none⟩)) (u32), cwX m7 (.int .i64 b0) (u33), cwX m8 (.int .i64 g) (u34), cwX m9 (.int .i64 q) (u35), cwX m10 (.int .i64 E1) (u36), cwX m11 (.pointer (some ⟨w.heap.size + 1 + 1 + 1, 0, none⟩)) (u37), u38, undef, undef, undef, undef, undef, undef, undef, undef, undef, undef, undef, undef, undef, undef, undef, undef, undef, undef, undef, undef, undef, undef, undef, undef, undef, undef, undef, undef, undef, undef, undef, undef, undef, undef, undef, undef, undef, undef, undef, undef, undef, undef, undef, undef, undef, undef, undef, undef, undef, undef, undef, undef, undef], defers := [] } : Act) ∧ ((m10 = true → m1 = true) ∧ (m10 = true → m9 = true) ∧ (m9 = true → m8 = true) ∧ (m8 = true → m5 = true) ∧ (m12 = true → m10 = true)) ∧ Hp w (qL w.heap.size a0 b0 a1 b1 a2 b2 (bif m12 then [.int .i64 E1, .string ⟨#[49]⟩, .string ⟨#[]⟩] else [.int .i64 E0, .string ⟨#[49]⟩, .string ⟨#[]⟩]) ++ [(wr.heap.size, 34, [.int .i64 a0, .int .i64 b0])]) W) (by kernel_rfl) (by kernel_rfl) (by kernel_rfl) (by kernel_rfl) ?_ ?_ ?_ ?_
    ·rintro l a W ⟨m0, m1, m2, m3, m4, m5, m6, m7, m8, m9, m10, m11, m12, rfl, _⟩
     rfl
    ·exact ⟨false, false, false, false, false, false, false, false, false, false, false, false, false, rfl, rfl, ⟨fun h => absurd h (by simp), fun h => absurd h (by simp), fun h => absurd h (by simp), fun h => absurd h (by simp), fun h => absurd h (by simp)⟩, HM5.out.drew⟩
    ·rintro l a W i o ⟨m0, m1, m2, m3, m4, m5, m6, m7, m8, m9, m10, m11, m12, rfl, rfl, hi0, hm⟩ ho hun hall K hK
     have hi : i < 13 := (Array.getElem?_eq_some_iff.1 ho).1
     have HM := Lib.hid hm
     have HI := Lib.hid hi0
     clear hm hi0
     rcases (show i = 0 ∨ i = 1 ∨ i = 2 ∨ i = 3 ∨ i = 4 ∨ i = 5 ∨ i = 6 ∨ i = 7 ∨ i = 8 ∨ i = 9 ∨ i = 10 ∨ i = 11 ∨ i = 12 by omega) with rfl | rfl | rfl | rfl | rfl | rfl | rfl | rfl | rfl | rfl | rfl | rfl | rfl
     ·cases ho
      simp at hun; subst hun
      clear hall hi
      go_simp
      exact hK.out _ _ ⟨true, m1, m2, m3, m4, m5, m6, m7, m8, m9, m10, m11, m12, rfl, rfl, by obtain ⟨h0, h1, h2, h3, h4⟩ := HI.out; exact ⟨(fun e => by first | rfl | exact h0 e | cases e), (fun e => by first | rfl | exact h1 e | cases e), (fun e => by first | rfl | exact h2 e | cases e), (fun e => by first | rfl | exact h3 e | cases e), (fun e => by first | rfl | exact h4 e | cases e)⟩, HM.out⟩
     ·cases ho
      cases (getBX hall 0 rfl : m0 = true)
      simp at hun; subst hun
      clear hall hi
      obtain rfl : m12 = false := by
       cases m12
       ·rfl
       ·exact absurd (HI.out.1 (HI.out.2.2.2.2 rfl)) (by simp)
      obtain ⟨s0, s1, s2⟩ := three_of (HM.out.at_ 3 rfl)
      go_simp
      exact hK.out _ _ ⟨true, true, m2, m3, m4, m5, m6, m7, m8, m9, m10, m11, false, rfl, rfl, by obtain ⟨h0, h1, h2, h3, h4⟩ := HI.out; exact ⟨(fun e => by first | rfl | exact h0 e | cases e), (fun e => by first | rfl | exact h1 e | cases e), (fun e => by first | rfl | exact h2 e | cases e), (fun e => by first | rfl | exact h3 e | cases e), (fun e => by first | rfl | exact h4 e | cases e)⟩, HM.out⟩
     ·cases ho
      simp at hun; subst hun
      clear hall hi
      go_simp
      exact hK.out _ _ ⟨m0, m1, true, m3, m4, m5, m6, m7, m8, m9, m10, m11, m12, rfl, rfl, by obtain ⟨h0, h1, h2, h3, h4⟩ := HI.out; exact ⟨(fun e => by first | rfl | exact h0 e | cases e), (fun e => by first | rfl | exact h1 e | cases e), (fun e => by first | rfl | exact h2 e | cases e), (fun e => by first | rfl | exact h3 e | cases e), (fun e => by first | rfl | exact h4 e | cases e)⟩, HM.out⟩
     ·cases ho
      cases (getBX hall 2 rfl : m2 = true)
      simp at hun; subst hun
      clear hall hi
      obtain ⟨s0, s1⟩ := two_of (HM.out.at_ 4 rfl)
      go_simp
      exact hK.out _ _ ⟨m0, m1, true, true, m4, m5, m6, m7, m8, m9, m10, m11, m12, rfl, rfl, by obtain ⟨h0, h1, h2, h3, h4⟩ := HI.out; exact ⟨(fun e => by first | rfl | exact h0 e | cases e), (fun e => by first | rfl | exact h1 e | cases e), (fun e => by first | rfl | exact h2 e | cases e), (fun e => by first | rfl | exact h3 e | cases e), (fun e => by first | rfl | exact h4 e | cases e)⟩, HM.out⟩
     ·cases ho
      simp at hun; subst hun
      clear hall hi
      go_simp
      exact hK.out _ _ ⟨m0, m1, m2, m3, true, m5, m6, m7, m8, m9, m10, m11, m12, rfl, rfl, by obtain ⟨h0, h1, h2, h3, h4⟩ := HI.out; exact ⟨(fun e => by first | rfl | exact h0 e | cases e), (fun e => by first | rfl | exact h1 e | cases e), (fun e => by first | rfl | exact h2 e | cases e), (fun e => by first | rfl | exact h3 e | cases e), (fun e => by first | rfl | exact h4 e | cases e)⟩, HM.out⟩
     ·cases ho
      cases (getBX hall 4 rfl : m4 = true)
      simp at hun; subst hun
      clear hall hi
      obtain rfl : m12 = false := by
       cases m12
       ·rfl
       ·exact absurd (HI.out.2.2.2.1 (HI.out.2.2.1 (HI.out.2.1 (HI.out.2.2.2.2 rfl)))) (by simp)
      obtain ⟨s0, s1, s2⟩ := three_of (HM.out.at_ 3 rfl)
      go_simp
      exact hK.out _ _ ⟨m0, m1, m2, m3, true, true, m6, m7, m8, m9, m10, m11, false, rfl, rfl, by obtain ⟨h0, h1, h2, h3, h4⟩ := HI.out; exact ⟨(fun e => by first | rfl | exact h0 e | cases e), (fun e => by first | rfl | exact h1 e | cases e), (fun e => by first | rfl | exact h2 e | cases e), (fun e => by first | rfl | exact h3 e | cases e), (fun e => by first | rfl | exact h4 e | cases e)⟩, HM.out⟩
     ·cases ho
      simp at hun; subst hun
      clear hall hi
      go_simp
      exact hK.out _ _ ⟨m0, m1, m2, m3, m4, m5, true, m7, m8, m9, m10, m11, m12, rfl, rfl, by obtain ⟨h0, h1, h2, h3, h4⟩ := HI.out; exact ⟨(fun e => by first | rfl | exact h0 e | cases e), (fun e => by first | rfl | exact h1 e | cases e), (fun e => by first | rfl | exact h2 e | cases e), (fun e => by first | rfl | exact h3 e | cases e), (fun e => by first | rfl | exact h4 e | cases e)⟩, HM.out⟩
     ·cases ho
      cases (getBX hall 6 rfl : m6 = true)
      simp at hun; subst hun
      clear hall hi
      obtain ⟨s0, s1⟩ := two_of (HM.out.at_ 4 rfl)
      go_simp
      exact hK.out _ _ ⟨m0, m1, m2, m3, m4, m5, true, true, m8, m9, m10, m11, m12, rfl, rfl, by obtain ⟨h0, h1, h2, h3, h4⟩ := HI.out; exact ⟨(fun e => by first | rfl | exact h0 e | cases e), (fun e => by first | rfl | exact h1 e | cases e), (fun e => by first | rfl | exact h2 e | cases e), (fun e => by first | rfl | exact h3 e | cases e), (fun e => by first | rfl | exact h4 e | cases e)⟩, HM.out⟩
     ·cases ho
      cases (getBX hall 5 rfl : m5 = true)
      cases (getBX hall 7 rfl : m7 = true)
      simp at hun; subst hun
      clear hall hi
      go_simp
      refine (HGC.out _).mono ?_
      rintro e W' ⟨rfl, hb⟩
      exact hK.out _ _ ⟨m0, m1, m2, m3, m4, true, m6, true, true, m9, m10, m11, m12, rfl, rfl, by obtain ⟨h0, h1, h2, h3, h4⟩ := HI.out; exact ⟨(fun e => by first | rfl | exact h0 e | cases e), (fun e => by first | rfl | exact h1 e | cases e), (fun e => by first | rfl | exact h2 e | cases e), (fun e => by first | rfl | exact h3 e | cases e), (fun e => by first | rfl | exact h4 e | cases e)⟩, HM.out.step hb⟩
     ·cases ho
      cases (getBX hall 3 rfl : m3 = true)
      cases (getBX hall 8 rfl : m8 = true)
      simp at hun; subst hun
      clear hall hi
      go_simp
      exact hK.out _ _ ⟨m0, m1, m2, true, m4, m5, m6, m7, true, true, m10, m11, m12, rfl, rfl, by obtain ⟨h0, h1, h2, h3, h4⟩ := HI.out; exact ⟨(fun e => by first | rfl | exact h0 e | cases e), (fun e => by first | rfl | exact h1 e | cases e), (fun e => by first | rfl | exact h2 e | cases e), (fun e => by first | rfl | exact h3 e | cases e), (fun e => by first | rfl | exact h4 e | cases e)⟩, HM.out⟩
     ·cases ho
      cases (getBX hall 1 rfl : m1 = true)
      cases (getBX hall 9 rfl : m9 = true)
      simp at hun; subst hun
      clear hall hi
      go_simp
      exact hK.out _ _ ⟨m0, true, m2, m3, m4, m5, m6, m7, m8, true, true, m11, m12, rfl, rfl, by obtain ⟨h0, h1, h2, h3, h4⟩ := HI.out; exact ⟨(fun e => by first | rfl | exact h0 e | cases e), (fun e => by first | rfl | exact h1 e | cases e), (fun e => by first | rfl | exact h2 e | cases e), (fun e => by first | rfl | exact h3 e | cases e), (fun e => by first | rfl | exact h4 e | cases e)⟩, HM.out⟩
     ·cases ho
      simp at hun; subst hun
      clear hall hi
      go_simp
      exact hK.out _ _ ⟨m0, m1, m2, m3, m4, m5, m6, m7, m8, m9, m10, true, m12, rfl, rfl, by obtain ⟨h0, h1, h2, h3, h4⟩ := HI.out; exact ⟨(fun e => by first | rfl | exact h0 e | cases e), (fun e => by first | rfl | exact h1 e | cases e), (fun e => by first | rfl | exact h2 e | cases e), (fun e => by first | rfl | exact h3 e | cases e), (fun e => by first | rfl | exact h4 e | cases e)⟩, HM.out⟩
     ·cases ho
      cases (getBX hall 10 rfl : m10 = true)
      cases (getBX hall 11 rfl : m11 = true)
      simp at hun; subst hun
      clear hall hi
      obtain ⟨s0, s1, s2⟩ := three_of (HM.out.at_ 3 rfl)
      have f0 := (HM.out.at_ 3 rfl).frozen 0
      have HN := Lib.hid (HM.out.put 3 rfl 0 (.int .i64 E1))
      go_simp
      exact hK.out _ _ ⟨m0, m1, m2, m3, m4, m5, m6, m7, m8, m9, true, true, true, rfl, rfl, by obtain ⟨h0, h1, h2, h3, h4⟩ := HI.out; exact ⟨(fun e => by first | rfl | exact h0 e | cases e), (fun e => by first | rfl | exact h1 e | cases e), (fun e => by first | rfl | exact h2 e | cases e), (fun e => by first | rfl | exact h3 e | cases e), (fun e => by first | rfl | exact h4 e | cases e)⟩, HN.out⟩
    ·rintro l a W ⟨m0, m1, m2, m3, m4, m5, m6, m7, m8, m9, m10, m11, m12, rfl, rfl, _, hm⟩ hall
     cases (hall 0 (by decide) : m0 = true)
     cases (hall 1 (by decide) : m1 = true)
     cases (hall 2 (by decide) : m2 = true)
     cases (hall 3 (by decide) : m3 = true)
     cases (hall 4 (by decide) : m4 = true)
     cases (hall 5 (by decide) : m5 = true)
     cases (hall 6 (by decide) : m6 = true)
     cases (hall 7 (by decide) : m7 = true)
     cases (hall 8 (by decide) : m8 = true)
     cases (hall 9 (by decide) : m9 = true)
     cases (hall 10 (by decide) : m10 = true)
     cases (hall 11 (by decide) : m11 = true)
     cases (hall 12 (by decide) : m12 = true)
     clear hall
     have HM6 := Lib.hid (show Hp w (qL w.heap.size a0 b0 a1 b1 a2 b2 [.int .i64 E1, .string ⟨#[49]⟩, .string ⟨#[]⟩]) W from hm.sub (List.sublist_append_left _ _))
     clear hm
     dsimp only [cwX, cond_true]
     go_wp2_with fail
     go_roundw
     case rel => exact ⟨1, by omega, rfl, HM6.out⟩
     case measure => simp [intOf]

   ·obtain ⟨c0, c1, c2, c3, c4, c5⟩ := six_of (HM.out.at_ 2 rfl)
    have hm5 := HM.out.new 34 [.int .i64 a1, .int .i64 b1]
    have HM5 := Lib.hid hm5
    obtain ⟨g, q, hgc, hg1, hw1, hw2⟩ := A1.out
    have HGC := Lib.hid hgc
    have HQ := Lib.hid (And.intro hg1 (And.intro hw1 hw2))
    clear hm5 hgc hg1 hw1 hw2
    go_upto_region 6 with fail
    clear c0 c1 c2 c3 c4 c5 HM
    obtain ⟨⟨hg1, hg2⟩, hw1, hw2⟩ := HQ.out
    refine wp_regionJ 13 #[false, false, false, false, false, false, false, false, false, false, false, false, false] (fun l a W => ∃ (m0 m1 m2 m3 m4 m5 m6 m7 m8 m9 m10 m11 m12 : Bool), l = #[m0, m1, m2, m3, m4, m5, m6, m7, m8, m9, m10, m11, m12] ∧ a = ({ tmps := #[szv a0 b0 a1 b1 a2 b2, .pointer (some ⟨w.heap.size, 0, none⟩), .pointer (some ⟨w.heap.size + 1, 0, none⟩), .slice (some { block := w.heap.size + 1 + 1, off := 0 }) 3 3, .pointer (some ⟨w.heap.size + 1 + 1 + 1, 0, none⟩), undef, .pointer (some ⟨wr.heap.size, 0, none⟩), undef, undef, undef, undef, undef, .pointer (some ⟨w.heap.size, 0, none⟩), .agg #[.int .i64 a0, .int .i64 b0], .pointer (some ⟨w.heap.size, 2, none⟩), .agg #[.int .i64 a1, .int .i64 b1], .pointer (some ⟨w.heap.size, 4, none⟩), .agg #[.int .i64 a2, .int .i64 b2], .slice (some { block := w.heap.size + 1 + 1, off := 0 }) 3 3, .agg #[.int .i64 1, .string { data := #[49] }, .string { data := #[] }], .slice (some { block := w.heap.size + 1 + 1, off := 0 }) 3 3, .int .i64 3, .int .i64 (1 : Int), .bool true, .pointer (some ⟨w.heap.size + 1 + 1, 2, none⟩), .agg #[.int .i64 a1, .int .i64 b1], cwX m0 (.pointer (some ⟨w.heap.size + 1 + 1 + 1, 0, none⟩)) (u26), cwX m1 (.int .i64 E1) (u27), cwX m2 (.pointer (some ⟨wr.heap.size, 1, none⟩)) (u28), cwX m3 (.int .i64 b1) (u29), cwX m4 (.pointer (some ⟨w.heap.size + 1 + 1 + 1, 0, none⟩)) (u30), cwX m5 (.int .i64 E1) (u31), cwX m6 (.pointer (some ⟨wr.heap.size, 1, none⟩)) (u32), cwX m7 (.int .i64 b1) (u33), cwX m8 (.int .i64 g) (u34), cwX m9 (.int .i64 q) (u35), cwX m10 (.int .i64 E2) (u36), cwX m11 (.pointer (some ⟨w.heap.size + 1 + 1 + 1, 0, none⟩)) (u37), u38, undef, undef, undef, undef, undef, undef, undef, undef, undef, undef, undef, undef, undef, undef, undef, undef, undef, undef, undef, undef, undef, undef, undef, undef, undef, undef, undef, undef, undef, undef, undef, undef, undef, undef, undef, undef, undef, undef, undef, undef, undef, undef, undef, undef, undef, undef, undef, undef, undef, undef, undef, undef, undef], defers := [] } : Act) ∧ ((m10 = true → m1 = true) ∧ (m10 = true → m9 = true) ∧ (m9 = true → m8 = true) ∧ (m8 = true → m5 = true) ∧ (m12 = true → m10 = true)) ∧ Hp w (qL w.heap.size a0 b0 a1 b1 a2 b2 (bif m12 then [.int .i64 E2, .string ⟨#[49]⟩, .string ⟨#[]⟩] else [.int .i64 E1, .string ⟨#[49]⟩, .string ⟨#[]⟩]) ++ [(wr.heap.size, 34, [.int .i64 a1, .int .i64 b1])]) W) (by kernel_rfl) (by kernel_rfl) (by kernel_rfl) (by kernel_rfl) ?_ ?_ ?_ ?_
    ·rintro l a W ⟨m0, m1, m2, m3, m4, m5, m6, m7, m8, m9, m10, m11, m12, rfl, _⟩
     rfl
    ·exact ⟨false, false, false, false, false, false, false, false, false, false, false, false, false, rfl, rfl, ⟨fun h => absurd h (by simp), fun h => absurd h (by simp), fun h => absurd h (by simp), fun h => absurd h (by simp), fun h => absurd h (by simp)⟩, HM5.out.drew⟩
    ·rintro l a W i o ⟨m0, m1, m2, m3, m4, m5, m6, m7, m8, m9, m10, m11, m12, rfl, rfl, hi0, hm⟩ ho hun hall K hK
     have hi : i < 13 := (Array.getElem?_eq_some_iff.1 ho).1
     have HM := Lib.hid hm
     have HI := Lib.hid hi0
     clear hm hi0
     rcases (show i = 0 ∨ i = 1 ∨ i = 2 ∨ i = 3 ∨ i = 4 ∨ i = 5 ∨ i = 6 ∨ i = 7 ∨ i = 8 ∨ i = 9 ∨ i = 10 ∨ i = 11 ∨ i = 12 by omega) with rfl | rfl | rfl | rfl | rfl | rfl | rfl | rfl | rfl | rfl | rfl | rfl | rfl
     ·cases ho
      simp at hun; subst hun
      clear hall hi
      go_simp
      exact hK.out _ _ ⟨true, m1, m2, m3, m4, m5, m6, m7, m8, m9, m10, m11, m12, rfl, rfl, by obtain ⟨h0, h1, h2, h3, h4⟩ := HI.out; exact ⟨(fun e => by first | rfl | exact h0 e | cases e), (fun e => by first | rfl | exact h1 e | cases e), (fun e => by first | rfl | exact h2 e | cases e), (fun e => by first | rfl | exact h3 e | cases e), (fun e => by first | rfl | exact h4 e | cases e)⟩, HM.out⟩
     ·cases ho
      cases (getBX hall 0 rfl : m0 = true)
      simp at hun; subst hun
      clear hall hi
      obtain rfl : m12 = false := by
       cases m12
       ·rfl
       ·exact absurd (HI.out.1 (HI.out.2.2.2.2 rfl)) (by simp)
      obtain ⟨s0, s1, s2⟩ := three_of (HM.out.at_ 3 rfl)
      go_simp
      exact hK.out _ _ ⟨true, true, m2, m3, m4, m5, m6, m7, m8, m9, m10, m11, false, rfl, rfl, by obtain ⟨h0, h1, h2, h3, h4⟩ := HI.out; exact ⟨(fun e => by first | rfl | exact h0 e | cases e), (fun e => by first | rfl | exact h1 e | cases e), (fun e => by first | rfl | exact h2 e | cases e), (fun e => by first | rfl | exact h3 e | cases e), (fun e => by first | rfl | exact h4 e | cases e)⟩, HM.out⟩
     ·cases ho
      simp at hun; subst hun
      clear hall hi
      go_simp
      exact hK.out _ _ ⟨m0, m1, true, m3, m4, m5, m6, m7, m8, m9, m10, m11, m12, rfl, rfl, by obtain ⟨h0, h1, h2, h3, h4⟩ := HI.out; exact ⟨(fun e => by first | rfl | exact h0 e | cases e), (fun e => by first | rfl | exact h1 e | cases e), (fun e => by first | rfl | exact h2 e | cases e), (fun e => by first | rfl | exact h3 e | cases e), (fun e => by first | rfl | exact h4 e | cases e)⟩, HM.out⟩
     ·cases ho
      cases (getBX hall 2 rfl : m2 = true)
      simp at hun; subst hun
      clear hall hi
      obtain ⟨s0, s1⟩ := two_of (HM.out.at_ 4 rfl)
      go_simp
      exact hK.out _ _ ⟨m0, m1, true, true, m4, m5, m6, m7, m8, m9, m10, m11, m12, rfl, rfl, by obtain ⟨h0, h1, h2, h3, h4⟩ := HI.out; exact ⟨(fun e => by first | rfl | exact h0 e | cases e), (fun e => by first | rfl | exact h1 e | cases e), (fun e => by first | rfl | exact h2 e | cases e), (fun e => by first | rfl | exact h3 e | cases e), (fun e => by first | rfl | exact h4 e | cases e)⟩, HM.out⟩
     ·cases ho
      simp at hun; subst hun
      clear hall hi
      go_simp
      exact hK.out _ _ ⟨m0, m1, m2, m3, true, m5, m6, m7, m8, m9, m10, m11, m12, rfl, rfl, by obtain ⟨h0, h1, h2, h3, h4⟩ := HI.out; exact ⟨(fun e => by first | rfl | exact h0 e | cases e), (fun e => by first | rfl | exact h1 e | cases e), (fun e => by first | rfl | exact h2 e | cases e), (fun e => by first | rfl | exact h3 e | cases e), (fun e => by first | rfl | exact h4 e | cases e)⟩, HM.out⟩
     ·cases ho
      cases (getBX hall 4 rfl : m4 = true)
      simp at hun; subst hun
      clear hall hi
      obtain rfl : m12 = false := by
       cases m12
       ·rfl
       ·exact absurd (HI.out.2.2.2.1 (HI.out.2.2.1 (HI.out.2.1 (HI.out.2.2.2.2 rfl)))) (by simp)
      obtain ⟨s0, s1, s2⟩ := three_of (HM.out.at_ 3 rfl)
      go_simp
      exact hK.out _ _ ⟨m0, m1, m2, m3, true, true, m6, m7, m8, m9, m10, m11, false, rfl, rfl, by obtain ⟨h0, h1, h2, h3, h4⟩ := HI.out; exact ⟨(fun e => by first | rfl | exact h0 e | cases e), (fun e => by first | rfl | exact h1 e | cases e), (fun e => by first | rfl | exact h2 e | cases e), (fun e => by first | rfl | exact h3 e | cases e), (fun e => by first | rfl | exact h4 e | cases e)⟩, HM.out⟩
     ·cases ho
      simp at hun; subst hun
      clear hall hi
      go_simp
      exact hK.out _ _ ⟨m0, m1, m2, m3, m4, m5, true, m7, m8, m9, m10, m11, m12, rfl, rfl, by obtain ⟨h0, h1, h2, h3, h4⟩ := HI.out; exact ⟨(fun e => by first | rfl | exact h0 e | cases e), (fun e => by first | rfl | exact h1 e | cases e), (fun e => by first | rfl | exact h2 e | cases e), (fun e => by first | rfl | exact h3 e | cases e), (fun e => by first | rfl | exact h4 e | cases e)⟩, HM.out⟩
     ·cases ho
      cases (getBX hall 6 rfl : m6 = true)
      simp at hun; subst hun
      clear hall hi
      obtain ⟨s0, s1⟩ := two_of (HM.out.at_ 4 rfl)
      go_simp
      exact hK.out _ _ ⟨m0, m1, m2, m3, m4, m5, true, true, m8, m9, m10, m11, m12, rfl, rfl, by obtain ⟨h0, h1, h2, h3, h4⟩ := HI.out; exact ⟨(fun e => by first | rfl | exact h0 e | cases e), (fun e => by first | rfl | exact h1 e | cases e), (fun e => by first | rfl | exact h2 e | cases e), (fun e => by first | rfl | exact h3 e | cases e), (fun e => by first | rfl | exact h4 e | cases e)⟩, HM.out⟩
     ·cases ho
      cases (getBX hall 5 rfl : m5 = true)
      cases (getBX hall 7 rfl : m7 = true)
      simp at hun; subst hun
      clear hall hi
      go_simp
      refine (HGC.out _).mono ?_
      rintro e W' ⟨rfl, hb⟩
      exact hK.out _ _ ⟨m0, m1, m2, m3, m4, true, m6, true, true, m9, m10, m11, m12, rfl, rfl, by obtain ⟨h0, h1, h2, h3, h4⟩ := HI.out; exact ⟨(fun e => by first | rfl | exact h0 e | cases e), (fun e => by first | rfl | exact h1 e | cases e), (fun e => by first | rfl | exact h2 e | cases e), (fun e => by first | rfl | exact h3 e | cases e), (fun e => by first | rfl | exact h4 e | cases e)⟩, HM.out.step hb⟩
     ·cases ho
      cases (getBX hall 3 rfl : m3 = true)
      cases (getBX hall 8 rfl : m8 = true)
      simp at hun; subst hun
      clear hall hi
      go_simp
      exact hK.out _ _ ⟨m0, m1, m2, true, m4, m5, m6, m7, true, true, m10, m11, m12, rfl, rfl, by obtain ⟨h0, h1, h2, h3, h4⟩ := HI.out; exact ⟨(fun e => by first | rfl | exact h0 e | cases e), (fun e => by first | rfl | exact h1 e | cases e), (fun e => by first | rfl | exact h2 e | cases e), (fun e => by first | rfl | exact h3 e | cases e), (fun e => by first | rfl | exact h4 e | cases e)⟩, HM.out⟩
     ·cases ho
      cases (getBX hall 1 rfl : m1 = true)
      cases (getBX hall 9 rfl : m9 = true)
      simp at hun; subst hun
      clear hall hi
      go_simp
      exact hK.out _ _ ⟨m0, true, m2, m3, m4, m5, m6, m7, m8, true, true, m11, m12, rfl, rfl, by obtain ⟨h0, h1, h2, h3, h4⟩ := HI.out; exact ⟨(fun e => by first | rfl | exact h0 e | cases e), (fun e => by first | rfl | exact h1 e | cases e), (fun e => by first | rfl | exact h2 e | cases e), (fun e => by first | rfl | exact h3 e | cases e), (fun e => by first | rfl | exact h4 e | cases e)⟩, HM.out⟩
     ·cases ho
      simp at hun; subst hun
      clear hall hi
      go_simp
      exact hK.out _ _ ⟨m0, m1, m2, m3, m4, m5, m6, m7, m8, m9, m10, true, m12, rfl, rfl, by obtain ⟨h0, h1, h2, h3, h4⟩ := HI.out; exact ⟨(fun e => by first | rfl | exact h0 e | cases e), (fun e => by first | rfl | exact h1 e | cases e), (fun e => by first | rfl | exact h2 e | cases e), (fun e => by first | rfl | exact h3 e | cases e), (fun e => by first | rfl | exact h4 e | cases e)⟩, HM.out⟩
     ·cases ho
      cases (getBX hall 10 rfl : m10 = true)
      cases (getBX hall 11 rfl : m11 = true)
      simp at hun; subst hun
      clear hall hi
      obtain ⟨s0, s1, s2⟩ := three_of (HM.out.at_ 3 rfl)
      have f0 := (HM.out.at_ 3 rfl).frozen 0
      have HN := Lib.hid (HM.out.put 3 rfl 0 (.int .i64 E2))
      go_simp
      exact hK.out _ _ ⟨m0, m1, m2, m3, m4, m5, m6, m7, m8, m9, true, true, true, rfl, rfl, by obtain ⟨h0, h1, h2, h3, h4⟩ := HI.out; exact ⟨(fun e => by first | rfl | exact h0 e | cases e), (fun e => by first | rfl | exact h1 e | cases e), (fun e => by first | rfl | exact h2 e | cases e), (fun e => by first | rfl | exact h3 e | cases e), (fun e => by first | rfl | exact h4 e | cases e)⟩, HN.out⟩
    ·rintro l a W ⟨m0, m1, m2, m3, m4, m5, m6, m7, m8, m9, m10, m11, m12, rfl, rfl, _, hm⟩ hall
     cases (hall 0 (by decide) : m0 = true)
     cases (hall 1 (by decide) : m1 = true)
     cases (hall 2 (by decide) : m2 = true)
     cases (hall 3 (by decide) : m3 = true)
     cases (hall 4 (by decide) : m4 = true)
     cases (hall 5 (by decide) : m5 = true)
     cases (hall 6 (by decide) : m6 = true)
     cases (hall 7 (by decide) : m7 = true)
     cases (hall 8 (by decide) : m8 = true)
     cases (hall 9 (by decide) : m9 = true)
     cases (hall 10 (by decide) : m10 = true)
     cases (hall 11 (by decide) : m11 = true)
     cases (hall 12 (by decide) : m12 = true)
     clear hall
     have HM6 := Lib.hid (show Hp w (qL w.heap.size a0 b0 a1 b1 a2 b2 [.int .i64 E2, .string ⟨#[49]⟩, .string ⟨#[]⟩]) W from hm.sub (List.sublist_append_left _ _))
     clear hm
     dsimp only [cwX, cond_true]
     go_wp2_with fail
     go_roundw
     case rel => exact ⟨2, by omega, rfl, HM6.out⟩
     case measure => simp [intOf]

   ·obtain ⟨c0, c1, c2, c3, c4, c5⟩ := six_of (HM.out.at_ 2 rfl)
    have hm5 := HM.out.new 34 [.int .i64 a2, .int .i64 b2]
    have HM5 := Lib.hid hm5
    obtain ⟨g, q, hgc, hg1, hw1, hw2⟩ := A2.out
    have HGC := Lib.hid hgc
    have HQ := Lib.hid (And.intro hg1 (And.intro hw1 hw2))
    clear hm5 hgc hg1 hw1 hw2
    go_upto_region 6 with fail
    clear c0 c1 c2 c3 c4 c5 HM
    obtain ⟨⟨hg1, hg2⟩, hw1, hw2⟩ := HQ.out
    refine wp_regionJ 13 #[false, false, false, false, false, false, false, false, false, false, false, false, false] (fun l a W => ∃ (m0 m1 m2 m3 m4 m5 m6 m7 m8 m9 m10 m11 m12 : Bool), l = #[m0, m1, m2, m3, m4, m5, m6, m7, m8, m9, m10, m11, m12] ∧ a = ({ tmps := #[szv a0 b0 a1 b1 a2 b2, .pointer (some ⟨w.heap.size, 0, none⟩), .pointer (some ⟨w.heap.size + 1, 0, none⟩), .slice (some { block := w.heap.size + 1 + 1, off := 0 }) 3 3, .pointer (some ⟨w.heap.size + 1 + 1 + 1, 0, none⟩), undef, .pointer (some ⟨wr.heap.size, 0, none⟩), undef, undef, undef, undef, undef, .pointer (some ⟨w.heap.size, 0, none⟩), .agg #[.int .i64 a0, .int .i64 b0], .pointer (some ⟨w.heap.size, 2, none⟩), .agg #[.int .i64 a1, .int .i64 b1], .pointer (some ⟨w.heap.size, 4, none⟩), .agg #[.int .i64 a2, .int .i64 b2], .slice (some { block := w.heap.size + 1 + 1, off := 0 }) 3 3, .agg #[.int .i64 1, .string { data := #[49] }, .string { data := #[] }], .slice (some { block := w.heap.size + 1 + 1, off := 0 }) 3 3, .int .i64 3, .int .i64 (2 : Int), .bool true, .pointer (some ⟨w.heap.size + 1 + 1, 4, none⟩), .agg #[.int .i64 a2, .int .i64 b2], cwX m0 (.pointer (some ⟨w.heap.size + 1 + 1 + 1, 0, none⟩)) (u26), cwX m1 (.int .i64 E2) (u27), cwX m2 (.pointer (some ⟨wr.heap.size, 1, none⟩)) (u28), cwX m3 (.int .i64 b2) (u29), cwX m4 (.pointer (some ⟨w.heap.size + 1 + 1 + 1, 0, none⟩)) (u30), cwX m5 (.int .i64 E2) (u31), cwX m6 (.pointer (some ⟨wr.heap.size, 1, none⟩)) (u32), cwX m7 (.int .i64 b2) (u33), cwX m8 (.int .i64 g) (u34), cwX m9 (.int .i64 q) (u35), cwX m10 (.int .i64 D) (u36), cwX m11 (.pointer (some ⟨w.heap.size + 1 + 1 + 1, 0, none⟩)) (u37), u38, undef, undef, undef, undef, undef, undef, undef, undef, undef, undef, undef, undef, undef, undef, undef, undef, undef, undef, undef, undef, undef, undef, undef, undef, undef, undef, undef, undef, undef, undef, undef, undef, undef, undef, undef, undef, undef, undef, undef, undef, undef, undef, undef, undef, undef, undef, undef, undef, undef, undef, undef, undef, undef], defers := [] } : Act) ∧ ((m10 = true → m1 = true) ∧ (m10 = true → m9 = true) ∧ (m9 = true → m8 = true) ∧ (m8 = true → m5 = true) ∧ (m12 = true → m10 = true)) ∧ Hp w (qL w.heap.size a0 b0 a1 b1 a2 b2 (bif m12 then [.int .i64 D, .string ⟨#[49]⟩, .string ⟨#[]⟩] else [.int .i64 E2, .string ⟨#[49]⟩, .string ⟨#[]⟩]) ++ [(wr.heap.size, 34, [.int .i64 a2, .int .i64 b2])]) W) (by kernel_rfl) (by kernel_rfl) (by kernel_rfl) (by kernel_rfl) ?_ ?_ ?_ ?_
    ·rintro l a W ⟨m0, m1, m2, m3, m4, m5, m6, m7, m8, m9, m10, m11, m12, rfl, _⟩
     rfl
    ·exact ⟨false, false, false, false, false, false, false, false, false, false, false, false, false, rfl, rfl, ⟨fun h => absurd h (by simp), fun h => absurd h (by simp), fun h => absurd h (by simp), fun h => absurd h (by simp), fun h => absurd h (by simp)⟩, HM5.out.drew⟩
    ·rintro l a W i o ⟨m0, m1, m2, m3, m4, m5, m6, m7, m8, m9, m10, m11, m12, rfl, rfl, hi0, hm⟩ ho hun hall K hK
     have hi : i < 13 := (Array.getElem?_eq_some_iff.1 ho).1
     have HM := Lib.hid hm
     have HI := Lib.hid hi0
     clear hm hi0
     rcases (show i = 0 ∨ i = 1 ∨ i = 2 ∨ i = 3 ∨ i = 4 ∨ i = 5 ∨ i = 6 ∨ i = 7 ∨ i = 8 ∨ i = 9 ∨ i = 10 ∨ i = 11 ∨ i = 12 by omega) with rfl | rfl | rfl | rfl | rfl | rfl | rfl | rfl | rfl | rfl | rfl | rfl | rfl
     ·cases ho
      simp at hun; subst hun
      clear hall hi
      go_simp
      exact hK.out _ _ ⟨true, m1, m2, m3, m4, m5, m6, m7, m8, m9, m10, m11, m12, rfl, rfl, by obtain ⟨h0, h1, h2, h3, h4⟩ := HI.out; exact ⟨(fun e => by first | rfl | exact h0 e | cases e), (fun e => by first | rfl | exact h1 e | cases e), (fun e => by first | rfl | exact h2 e | cases e), (fun e => by first | rfl | exact h3 e | cases e), (fun e => by first | rfl | exact h4 e | cases e)⟩, HM.out⟩
     ·cases ho
      cases (getBX hall 0 rfl : m0 = true)
      simp at hun; subst hun
      clear hall hi
      obtain rfl : m12 = false := by
       cases m12
       ·rfl
       ·exact absurd (HI.out.1 (HI.out.2.2.2.2 rfl)) (by simp)
      obtain ⟨s0, s1, s2⟩ := three_of (HM.out.at_ 3 rfl)
      go_simp
      exact hK.out _ _ ⟨true, true, m2, m3, m4, m5, m6, m7, m8, m9, m10, m11, false, rfl, rfl, by obtain ⟨h0, h1, h2, h3, h4⟩ := HI.out; exact ⟨(fun e => by first | rfl | exact h0 e | cases e), (fun e => by first | rfl | exact h1 e | cases e), (fun e => by first | rfl | exact h2 e | cases e), (fun e => by first | rfl | exact h3 e | cases e), (fun e => by first | rfl | exact h4 e | cases e)⟩, HM.out⟩
     ·cases ho
      simp at hun; subst hun
      clear hall hi
      go_simp
      exact hK.out _ _ ⟨m0, m1, true, m3, m4, m5, m6, m7, m8, m9, m10, m11, m12, rfl, rfl, by obtain ⟨h0, h1, h2, h3, h4⟩ := HI.out; exact ⟨(fun e => by first | rfl | exact h0 e | cases e), (fun e => by first | rfl | exact h1 e | cases e), (fun e => by first | rfl | exact h2 e | cases e), (fun e => by first | rfl | exact h3 e | cases e), (fun e => by first | rfl | exact h4 e | cases e)⟩, HM.out⟩
     ·cases ho
      cases (getBX hall 2 rfl : m2 = true)
      simp at hun; subst hun
      clear hall hi
      obtain ⟨s0, s1⟩ := two_of (HM.out.at_ 4 rfl)
      go_simp
      exact hK.out _ _ ⟨m0, m1, true, true, m4, m5, m6, m7, m8, m9, m10, m11, m12, rfl, rfl, by obtain ⟨h0, h1, h2, h3, h4⟩ := HI.out; exact ⟨(fun e => by first | rfl | exact h0 e | cases e), (fun e => by first | rfl | exact h1 e | cases e), (fun e => by first | rfl | exact h2 e | cases e), (fun e => by first | rfl | exact h3 e | cases e), (fun e => by first | rfl | exact h4 e | cases e)⟩, HM.out⟩
     ·cases ho
      simp at hun; subst hun
      clear hall hi
      go_simp
      exact hK.out _ _ ⟨m0, m1, m2, m3, true, m5, m6, m7, m8, m9, m10, m11, m12, rfl, rfl, by obtain ⟨h0, h1, h2, h3, h4⟩ := HI.out; exact ⟨(fun e => by first | rfl | exact h0 e | cases e), (fun e => by first | rfl | exact h1 e | cases e), (fun e => by first | rfl | exact h2 e | cases e), (fun e => by first | rfl | exact h3 e | cases e), (fun e => by first | rfl | exact h4 e | cases e)⟩, HM.out⟩
     ·cases ho
      cases (getBX hall 4 rfl : m4 = true)
      simp at hun; subst hun
      clear hall hi
      obtain rfl : m12 = false := by
       cases m12
       ·rfl
       ·exact absurd (HI.out.2.2.2.1 (HI.out.2.2.1 (HI.out.2.1 (HI.out.2.2.2.2 rfl)))) (by simp)
      obtain ⟨s0, s1, s2⟩ := three_of (HM.out.at_ 3 rfl)
      go_simp
      exact hK.out _ _ ⟨m0, m1, m2, m3, true, true, m6, m7, m8, m9, m10, m11, false, rfl, rfl, by obtain ⟨h0, h1, h2, h3, h4⟩ := HI.out; exact ⟨(fun e => by first | rfl | exact h0 e | cases e), (fun e => by first | rfl | exact h1 e | cases e), (fun e => by first | rfl | exact h2 e | cases e), (fun e => by first | rfl | exact h3 e | cases e), (fun e => by first | rfl | exact h4 e | cases e)⟩, HM.out⟩
     ·cases ho
      simp at hun; subst hun
      clear hall hi
      go_simp
      exact hK.out _ _ ⟨m0, m1, m2, m3, m4, m5, true, m7, m8, m9, m10, m11, m12, rfl, rfl, by obtain ⟨h0, h1, h2, h3, h4⟩ := HI.out; exact ⟨(fun e => by first | rfl | exact h0 e | cases e), (fun e => by first | rfl | exact h1 e | cases e), (fun e => by first | rfl | exact h2 e | cases e), (fun e => by first | rfl | exact h3 e | cases e), (fun e => by first | rfl | exact h4 e | cases e)⟩, HM.out⟩
     ·cases ho
      cases (getBX hall 6 rfl : m6 = true)
      simp at hun; subst hun
      clear hall hi
      obtain ⟨s0, s1⟩ := two_of (HM.out.at_ 4 rfl)
      go_simp
      exact hK.out _ _ ⟨m0, m1, m2, m3, m4, m5, true, true, m8, m9, m10, m11, m12, rfl, rfl, by obtain ⟨h0, h1, h2, h3, h4⟩ := HI.out; exact ⟨(fun e => by first | rfl | exact h0 e | cases e), (fun e => by first | rfl | exact h1 e | cases e), (fun e => by first | rfl | exact h2 e | cases e), (fun e => by first | rfl | exact h3 e | cases e), (fun e => by first | rfl | exact h4 e | cases e)⟩, HM.out⟩
     ·cases ho
      cases (getBX hall 5 rfl : m5 = true)
      cases (getBX hall 7 rfl : m7 = true)
      simp at hun; subst hun
      clear hall hi
      go_simp
      refine (HGC.out _).mono ?_
      rintro e W' ⟨rfl, hb⟩
      exact hK.out _ _ ⟨m0, m1, m2, m3, m4, true, m6, true, true, m9, m10, m11, m12, rfl, rfl, by obtain ⟨h0, h1, h2, h3, h4⟩ := HI.out; exact ⟨(fun e => by first | rfl | exact h0 e | cases e), (fun e => by first | rfl | exact h1 e | cases e), (fun e => by first | rfl | exact h2 e | cases e), (fun e => by first | rfl | exact h3 e | cases e), (fun e => by first | rfl | exact h4 e | cases e)⟩, HM.out.step hb⟩
     ·cases ho
      cases (getBX hall 3 rfl : m3 = true)
      cases (getBX hall 8 rfl : m8 = true)
      simp at hun; subst hun
      clear hall hi
      go_simp
      exact hK.out _ _ ⟨m0, m1, m2, true, m4, m5, m6, m7, true, true, m10, m11, m12, rfl, rfl, by obtain ⟨h0, h1, h2, h3, h4⟩ := HI.out; exact ⟨(fun e => by first | rfl | exact h0 e | cases e), (fun e => by first | rfl | exact h1 e | cases e), (fun e => by first | rfl | exact h2 e | cases e), (fun e => by first | rfl | exact h3 e | cases e), (fun e => by first | rfl | exact h4 e | cases e)⟩, HM.out⟩
     ·cases ho
      cases (getBX hall 1 rfl : m1 = true)
      cases (getBX hall 9 rfl : m9 = true)
      simp at hun; subst hun
      clear hall hi
      go_simp
      exact hK.out _ _ ⟨m0, true, m2, m3, m4, m5, m6, m7, m8, true, true, m11, m12, rfl, rfl, by obtain ⟨h0, h1, h2, h3, h4⟩ := HI.out; exact ⟨(fun e => by first | rfl | exact h0 e | cases e), (fun e => by first | rfl | exact h1 e | cases e), (fun e => by first | rfl | exact h2 e | cases e), (fun e => by first | rfl | exact h3 e | cases e), (fun e => by first | rfl | exact h4 e | cases e)⟩, HM.out⟩
     ·cases ho
      simp at hun; subst hun
      clear hall hi
      go_simp
      exact hK.out _ _ ⟨m0, m1, m2, m3, m4, m5, m6, m7, m8, m9, m10, true, m12, rfl, rfl, by obtain ⟨h0, h1, h2, h3, h4⟩ := HI.out; exact ⟨(fun e => by first | rfl | exact h0 e | cases e), (fun e => by first | rfl | exact h1 e | cases e), (fun e => by first | rfl | exact h2 e | cases e), (fun e => by first | rfl | exact h3 e | cases e), (fun e => by first | rfl | exact h4 e | cases e)⟩, HM.out⟩
     ·cases ho
      cases (getBX hall 10 rfl : m10 = true)
      cases (getBX hall 11 rfl : m11 = true)
      simp at hun; subst hun
      clear hall hi
      obtain ⟨s0, s1, s2⟩ := three_of (HM.out.at_ 3 rfl)
      have f0 := (HM.out.at_ 3 rfl).frozen 0
      have HN := Lib.hid (HM.out.put 3 rfl 0 (.int .i64 D))
      go_simp
      exact hK.out _ _ ⟨m0, m1, m2, m3, m4, m5, m6, m7, m8, m9, true, true, true, rfl, rfl, by obtain ⟨h0, h1, h2, h3, h4⟩ := HI.out; exact ⟨(fun e => by first | rfl | exact h0 e | cases e), (fun e => by first | rfl | exact h1 e | cases e), (fun e => by first | rfl | exact h2 e | cases e), (fun e => by first | rfl | exact h3 e | cases e), (fun e => by first | rfl | exact h4 e | cases e)⟩, HN.out⟩
    ·rintro l a W ⟨m0, m1, m2, m3, m4, m5, m6, m7, m8, m9, m10, m11, m12, rfl, rfl, _, hm⟩ hall
     cases (hall 0 (by decide) : m0 = true)
     cases (hall 1 (by decide) : m1 = true)
     cases (hall 2 (by decide) : m2 = true)
     cases (hall 3 (by decide) : m3 = true)
     cases (hall 4 (by decide) : m4 = true)
     cases (hall 5 (by decide) : m5 = true)
     cases (hall 6 (by decide) : m6 = true)
     cases (hall 7 (by decide) : m7 = true)
     cases (hall 8 (by decide) : m8 = true)
     cases (hall 9 (by decide) : m9 = true)
     cases (hall 10 (by decide) : m10 = true)
     cases (hall 11 (by decide) : m11 = true)
     cases (hall 12 (by decide) : m12 = true)
     clear hall
     have HM6 := Lib.hid (show Hp w (qL w.heap.size a0 b0 a1 b1 a2 b2 [.int .i64 D, .string ⟨#[49]⟩, .string ⟨#[]⟩]) W from hm.sub (List.sublist_append_left _ _))
     clear hm
     dsimp only [cwX, cond_true]
     go_wp2_with fail
     go_roundw
     case rel => exact ⟨3, by omega, rfl, HM6.out⟩
     case measure => simp [intOf]

  ·obtain rfl : k = 3 := by omega
   clear hk hlt
   obtain ⟨W1, hW1⟩ : ∃ W, W = wr := ⟨_, rfl⟩
   have HP0 : Hid (Hp w (qL w.heap.size a0 b0 a1 b1 a2 b2 [.int .i64 D, .string (dec 1), .string ⟨#[]⟩]) W1) := Lib.hid (by rw [hW1, dec_one]; exact HM.out)
   clear HM
   go_upto_region 8 with fail
   rw [← hW1]
   clear hW1
   refine wp_regionJ 9 #[false, false, false, false, false, false, false, false, false] (fun l a W => ∃ (m0 m1 m2 m3 m4 m5 m6 m7 m8 : Bool), l = #[m0, m1, m2, m3, m4, m5, m6, m7, m8] ∧ a = ({ tmps := #[szv a0 b0 a1 b1 a2 b2, .pointer (some ⟨w.heap.size, 0, none⟩), .pointer (some ⟨w.heap.size + 1, 0, none⟩), .slice (some { block := w.heap.size + 1 + 1, off := 0 }) 3 3, .pointer (some ⟨w.heap.size + 1 + 1 + 1, 0, none⟩), undef, u6, undef, undef, undef, undef, undef, .pointer (some ⟨w.heap.size, 0, none⟩), .agg #[.int .i64 a0, .int .i64 b0], .pointer (some ⟨w.heap.size, 2, none⟩), .agg #[.int .i64 a1, .int .i64 b1], .pointer (some ⟨w.heap.size, 4, none⟩), .agg #[.int .i64 a2, .int .i64 b2], .slice (some { block := w.heap.size + 1 + 1, off := 0 }) 3 3, .agg #[.int .i64 1, .string { data := #[49] }, .string { data := #[] }], .slice (some { block := w.heap.size + 1 + 1, off := 0 }) 3 3, .int .i64 3, .int .i64 (3 : Int), .bool false, u24, u25, u26, u27, u28, u29, u30, u31, u32, u33, u34, u35, u36, u37, u38, cwX m4 (.tuple #[.string (dec T), .int .i64 0]) (undef), cwX m0 (.string (dec 1000000)) (undef), cwX m1 (.pointer (some ⟨w.heap.size + 1 + 1 + 1, 0, none⟩)) (undef), cwX m2 (.int .i64 D) (undef), cwX m3 (.tuple #[.string (dec T), .int .i64 0]) (undef), cwX m5 (.string (dec T)) (undef), cwX m6 (.int .i64 0) (undef), cwX m7 (.pointer (some ⟨w.heap.size + 1 + 1 + 1, 2, none⟩)) (undef), undef, undef, undef, undef, undef, undef, undef, undef, undef, undef, undef, undef, undef, undef, undef, undef, undef, undef, undef, undef, undef, undef, undef, undef, undef, undef, undef, undef, undef, undef, undef, undef, undef, undef, undef, undef, undef, undef, undef, undef, undef, undef, undef, undef, undef], defers := [] } : Act) ∧ ((m3 = true → m2 = true) ∧ (m4 = true → m3 = true) ∧ (m5 = true → m4 = true) ∧ (m8 = true → m5 = true)) ∧ Hp w (qL w.heap.size a0 b0 a1 b1 a2 b2 (bif m8 then [.int .i64 D, .string (dec 1), .string (dec T)] else [.int .i64 D, .string (dec 1), .string ⟨#[]⟩])) W) (by kernel_rfl) (by kernel_rfl) (by kernel_rfl) (by kernel_rfl) ?_ ?_ ?_ ?_
   ·rintro l a W ⟨m0, m1, m2, m3, m4, m5, m6, m7, m8, rfl, _⟩
    rfl
   ·exact ⟨false, false, false, false, false, false, false, false, false, rfl, rfl, ⟨fun h => absurd h (by simp), fun h => absurd h (by simp), fun h => absurd h (by simp), fun h => absurd h (by simp)⟩, HP0.out.drew⟩
   ·rintro l a W i o ⟨m0, m1, m2, m3, m4, m5, m6, m7, m8, rfl, rfl, hi0, hm⟩ ho hun hall K hK
    have hi : i < 9 := (Array.getElem?_eq_some_iff.1 ho).1
    have HM := Lib.hid hm
    have HI := Lib.hid hi0
    clear hm hi0
    rcases (show i = 0 ∨ i = 1 ∨ i = 2 ∨ i = 3 ∨ i = 4 ∨ i = 5 ∨ i = 6 ∨ i = 7 ∨ i = 8 by omega) with rfl | rfl | rfl | rfl | rfl | rfl | rfl | rfl | rfl
    ·cases ho
     simp at hun; subst hun
     clear hall hi
     go_simp
     refine (HOF.out _ (HT.out.below HM.out.below)).mono ?_
     rintro e W' ⟨rfl, hb⟩
     exact hK.out _ _ ⟨true, m1, m2, m3, m4, m5, m6, m7, m8, rfl, rfl, by obtain ⟨h0, h1, h2, h3⟩ := HI.out; exact ⟨(fun e => by first | rfl | exact h0 e | cases e), (fun e => by first | rfl | exact h1 e | cases e), (fun e => by first | rfl | exact h2 e | cases e), (fun e => by first | rfl | exact h3 e | cases e)⟩, HM.out.step hb⟩
    ·cases ho
     simp at hun; subst hun
     clear hall hi
     go_simp
     exact hK.out _ _ ⟨m0, true, m2, m3, m4, m5, m6, m7, m8, rfl, rfl, by obtain ⟨h0, h1, h2, h3⟩ := HI.out; exact ⟨(fun e => by first | rfl | exact h0 e | cases e), (fun e => by first | rfl | exact h1 e | cases e), (fun e => by first | rfl | exact h2 e | cases e), (fun e => by first | rfl | exact h3 e | cases e)⟩, HM.out⟩
    ·cases ho
     cases (getBX hall 1 rfl : m1 = true)
     simp at hun; subst hun
     clear hall hi
     obtain rfl : m8 = false := by
      cases m8
      ·rfl
      ·exact absurd (HI.out.1 (HI.out.2.1 (HI.out.2.2.1 (HI.out.2.2.2 rfl)))) (by simp)
     obtain ⟨s0, s1, s2⟩ := three_of (HM.out.at_ 3 rfl)
     go_simp
     exact hK.out _ _ ⟨m0, true, true, m3, m4, m5, m6, m7, false, rfl, rfl, by obtain ⟨h0, h1, h2, h3⟩ := HI.out; exact ⟨(fun e => by first | rfl | exact h0 e | cases e), (fun e => by first | rfl | exact h1 e | cases e), (fun e => by first | rfl | exact h2 e | cases e), (fun e => by first | rfl | exact h3 e | cases e)⟩, HM.out⟩
    ·cases ho
     cases (getBX hall 0 rfl : m0 = true)
     cases (getBX hall 2 rfl : m2 = true)
     simp at hun; subst hun
     clear hall hi
     go_simp
     refine (HPW.out _ (HT.out.below HM.out.below)).mono ?_
     rintro e W' ⟨rfl, hb⟩
     exact hK.out _ _ ⟨true, m1, true, true, m4, m5, m6, m7, m8, rfl, rfl, by obtain ⟨h0, h1, h2, h3⟩ := HI.out; exact ⟨(fun e => by first | rfl | exact h0 e | cases e), (fun e => by first | rfl | exact h1 e | cases e), (fun e => by first | rfl | exact h2 e | cases e), (fun e => by first | rfl | exact h3 e | cases e)⟩, HM.out.step hb⟩
    ·cases ho
     cases (getBX hall 3 rfl : m3 = true)
     simp at hun; subst hun
     clear hall hi
     go_simp
     exact hK.out _ _ ⟨m0, m1, m2, true, true, m5, m6, m7, m8, rfl, rfl, by obtain ⟨h0, h1, h2, h3⟩ := HI.out; exact ⟨(fun e => by first | rfl | exact h0 e | cases e), (fun e => by first | rfl | exact h1 e | cases e), (fun e => by first | rfl | exact h2 e | cases e), (fun e => by first | rfl | exact h3 e | cases e)⟩, HM.out⟩
    ·cases ho
     cases (getBX hall 4 rfl : m4 = true)
     simp at hun; subst hun
     clear hall hi
     go_simp
     exact hK.out _ _ ⟨m0, m1, m2, m3, true, true, m6, m7, m8, rfl, rfl, by obtain ⟨h0, h1, h2, h3⟩ := HI.out; exact ⟨(fun e => by first | rfl | exact h0 e | cases e), (fun e => by first | rfl | exact h1 e | cases e), (fun e => by first | rfl | exact h2 e | cases e), (fun e => by first | rfl | exact h3 e | cases e)⟩, HM.out⟩
    ·cases ho
     cases (getBX hall 4 rfl : m4 = true)
     simp at hun; subst hun
     clear hall hi
     go_simp
     exact hK.out _ _ ⟨m0, m1, m2, m3, true, m5, true, m7, m8, rfl, rfl, by obtain ⟨h0, h1, h2, h3⟩ := HI.out; exact ⟨(fun e => by first | rfl | exact h0 e | cases e), (fun e => by first | rfl | exact h1 e | cases e), (fun e => by first | rfl | exact h2 e | cases e), (fun e => by first | rfl | exact h3 e | cases e)⟩, HM.out⟩
    ·cases ho
     simp at hun; subst hun
     clear hall hi
     go_simp
     exact hK.out _ _ ⟨m0, m1, m2, m3, m4, m5, m6, true, m8, rfl, rfl, by obtain ⟨h0, h1, h2, h3⟩ := HI.out; exact ⟨(fun e => by first | rfl | exact h0 e | cases e), (fun e => by first | rfl | exact h1 e | cases e), (fun e => by first | rfl | exact h2 e | cases e), (fun e => by first | rfl | exact h3 e | cases e)⟩, HM.out⟩
    ·cases ho
     cases (getBX hall 5 rfl : m5 = true)
     cases (getBX hall 7 rfl : m7 = true)
     simp at hun; subst hun
     clear hall hi
     obtain ⟨s0, s1, s2⟩ := three_of (HM.out.at_ 3 rfl)
     have f0 := (HM.out.at_ 3 rfl).frozen 2
     have HN := Lib.hid (HM.out.put 3 rfl 2 (.string (dec T)))
     go_simp
     exact hK.out _ _ ⟨m0, m1, m2, m3, m4, true, m6, true, true, rfl, rfl, by obtain ⟨h0, h1, h2, h3⟩ := HI.out; exact ⟨(fun e => by first | rfl | exact h0 e | cases e), (fun e => by first | rfl | exact h1 e | cases e), (fun e => by first | rfl | exact h2 e | cases e), (fun e => by first | rfl | exact h3 e | cases e)⟩, HN.out⟩
   ·rintro l a W ⟨m0, m1, m2, m3, m4, m5, m6, m7, m8, rfl, rfl, _, hm⟩ hall
    cases (hall 0 (by decide) : m0 = true)
    cases (hall 1 (by decide) : m1 = true)
    cases (hall 2 (by decide) : m2 = true)
    cases (hall 3 (by decide) : m3 = true)
    cases (hall 4 (by decide) : m4 = true)
    cases (hall 5 (by decide) : m5 = true)
    cases (hall 6 (by decide) : m6 = true)
    cases (hall 7 (by decide) : m7 = true)
    cases (hall 8 (by decide) : m8 = true)
    clear hall
    have HM6 := Lib.hid (show Hp w (qL w.heap.size a0 b0 a1 b1 a2 b2 [.int .i64 D, .string (dec 1), .string (dec T)]) W from hm)
    clear hm HP0
    dsimp only [cwX, cond_true]
    go_wp2_with fail

    have hmn := HM6.out.new 3 [.int .i64 2, .int .i64 3, .int .i64 5]
    obtain ⟨g5, hg5⟩ : ∃ g, g = W.heap.size := ⟨_, rfl⟩
    rw [← hg5] at hmn ⊢
    have HM9 := Lib.hid hmn
    clear hmn HM6
    go_loopw [49] (fun i wr => QbRel w g5 a0 b0 a1 b1 a2 b2 D T a b c a' b' c' i wr) (fun i _ => 3 - (intOf i).toNat)
    case atStart => exact ⟨0, by omega, rfl, HM9.out⟩
    case round =>
     obtain ⟨k, hk, rfl, hm⟩ := hrel
     have HM := Lib.hid hm
     clear hm HM9 hg5
     by_cases hlt : k < 3
     ·rcases (show k = 0 ∨ k = 1 ∨ k = 2 by omega) with rfl | rfl | rfl
      ·by_cases hs : x < 0
       ·obtain ⟨q, hq1, hq2, hq3, hq4⟩ := N0.out
        obtain ⟨c0, c1, c2, c3, c4, c5⟩ := six_of (HM.out.at_ 2 rfl)
        obtain ⟨s0, s1, s2⟩ := three_of (HM.out.at_ 3 rfl)
        obtain ⟨t0, t1, t2⟩ := three_of (HM.out.at_ 4 rfl)
        obtain ⟨h1, h2, h3, h4⟩ := SA0.out hs
        clear hs
        go_upto_region 12 with fail
        go_quiet (fail)
        clear c0 c1 c2 c3 c4 c5 s0 s1 s2 t0 t1 t2 hq1 hq2 hq3 hq4
        have HM5 := Lib.hid (HM.out.drewN nq)
        clear HM
        go_wp2_with fail
        refine (OF0.out _ (HT.out.below HM5.out.below)).mono ?_
        rintro e w5 ⟨rfl, hb5⟩
        have HM6 := Lib.hid (HM5.out.step hb5)
        clear hb5 HM5
        go_wp2_with fail
        refine (PA0.out _ (HT.out.below HM6.out.below)).mono ?_
        rintro e w6 ⟨rfl, hb6⟩
        have HM7 := Lib.hid (HM6.out.step hb6)
        clear hb6 HM6
        obtain ⟨s0, s1, s2⟩ := three_of (HM7.out.at_ 3 rfl)
        go_wp2_with fail
        refine (MA0.out _ (HT.out.below HM7.out.below)).mono ?_
        rintro e w7 ⟨rfl, hb7⟩
        have HM8 := Lib.hid (HM7.out.step hb7)
        clear hb7 HM7 s0 s1 s2
        have f0 := (HM8.out.at_ 3 rfl).frozen 1
        obtain ⟨s0, s1, s2⟩ := three_of (HM8.out.at_ 3 rfl)
        have HM9 := Lib.hid (HM8.out.put 3 rfl 1 (.string (dec (rsT 1 a b c 0 * 2 ^ a))))
        have HZ := Lib.hid h4
        clear HM8 h4
        go_wp2_with fail
        go_roundw
        case rel => exact ⟨0 + 1, by omega, rfl, by rw [rsT_z0 _ _ HZ.out]; exact HM9.out⟩
        case measure => simp [intOf]
       ·obtain ⟨q, hq1, hq2, hq3, hq4⟩ := N0.out
        obtain ⟨c0, c1, c2, c3, c4, c5⟩ := six_of (HM.out.at_ 2 rfl)
        obtain ⟨s0, s1, s2⟩ := three_of (HM.out.at_ 3 rfl)
        obtain ⟨t0, t1, t2⟩ := three_of (HM.out.at_ 4 rfl)
        obtain ⟨h1, h2, h3, h4⟩ := SB0.out (by omega)
        clear hs
        go_upto_region 12 with fail
        go_quiet (fail)
        clear c0 c1 c2 c3 c4 c5 s0 s1 s2 t0 t1 t2 hq1 hq2 hq3 hq4
        have HM5 := Lib.hid (HM.out.drewN nq)
        clear HM
        go_wp2_with fail
        refine (OF0.out _ (HT.out.below HM5.out.below)).mono ?_
        rintro e w5 ⟨rfl, hb5⟩
        have HM6 := Lib.hid (HM5.out.step hb5)
        clear hb5 HM5
        go_wp2_with fail
        refine (PB0.out _ (HT.out.below HM6.out.below)).mono ?_
        rintro e w6 ⟨rfl, hb6⟩
        have HM7 := Lib.hid (HM6.out.step hb6)
        clear hb6 HM6
        obtain ⟨s0, s1, s2⟩ := three_of (HM7.out.at_ 3 rfl)
        go_wp2_with fail
        refine (MB0.out _ (HT.out.below HM7.out.below)).mono ?_
        rintro e w7 ⟨rfl, hb7⟩
        have HM8 := Lib.hid (HM7.out.step hb7)
        clear hb7 HM7 s0 s1 s2
        have f0 := (HM8.out.at_ 3 rfl).frozen 2
        obtain ⟨s0, s1, s2⟩ := three_of (HM8.out.at_ 3 rfl)
        have HM9 := Lib.hid (HM8.out.put 3 rfl 2 (.string (dec (rsT T a' b' c' 0 * 2 ^ a'))))
        have HZ := Lib.hid h4
        clear HM8 h4
        go_wp2_with fail
        go_roundw
        case rel => exact ⟨0 + 1, by omega, rfl, by rw [rsT_z0 _ _ HZ.out]; exact HM9.out⟩
        case measure => simp [intOf]
      ·by_cases hs : y < 0
       ·obtain ⟨q, hq1, hq2, hq3, hq4⟩ := N1.out
        obtain ⟨c0, c1, c2, c3, c4, c5⟩ := six_of (HM.out.at_ 2 rfl)
        obtain ⟨s0, s1, s2⟩ := three_of (HM.out.at_ 3 rfl)
        obtain ⟨t0, t1, t2⟩ := three_of (HM.out.at_ 4 rfl)
        obtain ⟨h1, h2, h3, h4⟩ := SA1.out hs
        clear hs
        go_upto_region 12 with fail
        go_quiet (fail)
        clear c0 c1 c2 c3 c4 c5 s0 s1 s2 t0 t1 t2 hq1 hq2 hq3 hq4
        have HM5 := Lib.hid (HM.out.drewN nq)
        clear HM
        go_wp2_with fail
        refine (OF1.out _ (HT.out.below HM5.out.below)).mono ?_
        rintro e w5 ⟨rfl, hb5⟩
        have HM6 := Lib.hid (HM5.out.step hb5)
        clear hb5 HM5
        go_wp2_with fail
        refine (PA1.out _ (HT.out.below HM6.out.below)).mono ?_
        rintro e w6 ⟨rfl, hb6⟩
        have HM7 := Lib.hid (HM6.out.step hb6)
        clear hb6 HM6
        obtain ⟨s0, s1, s2⟩ := three_of (HM7.out.at_ 3 rfl)
        go_wp2_with fail
        refine (MA1.out _ (HT.out.below HM7.out.below)).mono ?_
        rintro e w7 ⟨rfl, hb7⟩
        have HM8 := Lib.hid (HM7.out.step hb7)
        clear hb7 HM7 s0 s1 s2
        have f0 := (HM8.out.at_ 3 rfl).frozen 1
        obtain ⟨s0, s1, s2⟩ := three_of (HM8.out.at_ 3 rfl)
        have HM9 := Lib.hid (HM8.out.put 3 rfl 1 (.string (dec (rsT 1 a b c 1 * 3 ^ b))))
        have HZ := Lib.hid h4
        clear HM8 h4
        go_wp2_with fail
        go_roundw
        case rel => exact ⟨1 + 1, by omega, rfl, by rw [rsT_z1 _ _ HZ.out]; exact HM9.out⟩
        case measure => simp [intOf]
       ·obtain ⟨q, hq1, hq2, hq3, hq4⟩ := N1.out
        obtain ⟨c0, c1, c2, c3, c4, c5⟩ := six_of (HM.out.at_ 2 rfl)
        obtain ⟨s0, s1, s2⟩ := three_of (HM.out.at_ 3 rfl)
        obtain ⟨t0, t1, t2⟩ := three_of (HM.out.at_ 4 rfl)
        obtain ⟨h1, h2, h3, h4⟩ := SB1.out (by omega)
        clear hs
        go_upto_region 12 with fail
        go_quiet (fail)
        clear c0 c1 c2 c3 c4 c5 s0 s1 s2 t0 t1 t2 hq1 hq2 hq3 hq4
        have HM5 := Lib.hid (HM.out.drewN nq)
        clear HM
        go_wp2_with fail
        refine (OF1.out _ (HT.out.below HM5.out.below)).mono ?_
        rintro e w5 ⟨rfl, hb5⟩
        have HM6 := Lib.hid (HM5.out.step hb5)
        clear hb5 HM5
        go_wp2_with fail
        refine (PB1.out _ (HT.out.below HM6.out.below)).mono ?_
        rintro e w6 ⟨rfl, hb6⟩
        have HM7 := Lib.hid (HM6.out.step hb6)
        clear hb6 HM6
        obtain ⟨s0, s1, s2⟩ := three_of (HM7.out.at_ 3 rfl)
        go_wp2_with fail
        refine (MB1.out _ (HT.out.below HM7.out.below)).mono ?_
        rintro e w7 ⟨rfl, hb7⟩
        have HM8 := Lib.hid (HM7.out.step hb7)
        clear hb7 HM7 s0 s1 s2
        have f0 := (HM8.out.at_ 3 rfl).frozen 2
        obtain ⟨s0, s1, s2⟩ := three_of (HM8.out.at_ 3 rfl)
        have HM9 := Lib.hid (HM8.out.put 3 rfl 2 (.string (dec (rsT T a' b' c' 1 * 3 ^ b'))))
        have HZ := Lib.hid h4
        clear HM8 h4
        go_wp2_with fail
        go_roundw
        case rel => exact ⟨1 + 1, by omega, rfl, by rw [rsT_z1 _ _ HZ.out]; exact HM9.out⟩
        case measure => simp [intOf]
      ·by_cases hs : z < 0
       ·obtain ⟨q, hq1, hq2, hq3, hq4⟩ := N2.out
        obtain ⟨c0, c1, c2, c3, c4, c5⟩ := six_of (HM.out.at_ 2 rfl)
        obtain ⟨s0, s1, s2⟩ := three_of (HM.out.at_ 3 rfl)
        obtain ⟨t0, t1, t2⟩ := three_of (HM.out.at_ 4 rfl)
        obtain ⟨h1, h2, h3, h4⟩ := SA2.out hs
        clear hs
        go_upto_region 12 with fail
        go_quiet (fail)
        clear c0 c1 c2 c3 c4 c5 s0 s1 s2 t0 t1 t2 hq1 hq2 hq3 hq4
        have HM5 := Lib.hid (HM.out.drewN nq)
        clear HM
        go_wp2_with fail
        refine (OF2.out _ (HT.out.below HM5.out.below)).mono ?_
        rintro e w5 ⟨rfl, hb5⟩
        have HM6 := Lib.hid (HM5.out.step hb5)
        clear hb5 HM5
        go_wp2_with fail
        refine (PA2.out _ (HT.out.below HM6.out.below)).mono ?_
        rintro e w6 ⟨rfl, hb6⟩
        have HM7 := Lib.hid (HM6.out.step hb6)
        clear hb6 HM6
        obtain ⟨s0, s1, s2⟩ := three_of (HM7.out.at_ 3 rfl)
        go_wp2_with fail
        refine (MA2.out _ (HT.out.below HM7.out.below)).mono ?_
        rintro e w7 ⟨rfl, hb7⟩
        have HM8 := Lib.hid (HM7.out.step hb7)
        clear hb7 HM7 s0 s1 s2
        have f0 := (HM8.out.at_ 3 rfl).frozen 1
        obtain ⟨s0, s1, s2⟩ := three_of (HM8.out.at_ 3 rfl)
        have HM9 := Lib.hid (HM8.out.put 3 rfl 1 (.string (dec (rsT 1 a b c 2 * 5 ^ c))))
        have HZ := Lib.hid h4
        clear HM8 h4
        go_wp2_with fail
        go_roundw
        case rel => exact ⟨2 + 1, by omega, rfl, by rw [rsT_z2 _ _ HZ.out]; exact HM9.out⟩
        case measure => simp [intOf]
       ·obtain ⟨q, hq1, hq2, hq3, hq4⟩ := N2.out
        obtain ⟨c0, c1, c2, c3, c4, c5⟩ := six_of (HM.out.at_ 2 rfl)
        obtain ⟨s0, s1, s2⟩ := three_of (HM.out.at_ 3 rfl)
        obtain ⟨t0, t1, t2⟩ := three_of (HM.out.at_ 4 rfl)
        obtain ⟨h1, h2, h3, h4⟩ := SB2.out (by omega)
        clear hs
        go_upto_region 12 with fail
        go_quiet (fail)
        clear c0 c1 c2 c3 c4 c5 s0 s1 s2 t0 t1 t2 hq1 hq2 hq3 hq4
        have HM5 := Lib.hid (HM.out.drewN nq)
        clear HM
        go_wp2_with fail
        refine (OF2.out _ (HT.out.below HM5.out.below)).mono ?_
        rintro e w5 ⟨rfl, hb5⟩
        have HM6 := Lib.hid (HM5.out.step hb5)
        clear hb5 HM5
        go_wp2_with fail
        refine (PB2.out _ (HT.out.below HM6.out.below)).mono ?_
        rintro e w6 ⟨rfl, hb6⟩
        have HM7 := Lib.hid (HM6.out.step hb6)
        clear hb6 HM6
        obtain ⟨s0, s1, s2⟩ := three_of (HM7.out.at_ 3 rfl)
        go_wp2_with fail
        refine (MB2.out _ (HT.out.below HM7.out.below)).mono ?_
        rintro e w7 ⟨rfl, hb7⟩
        have HM8 := Lib.hid (HM7.out.step hb7)
        clear hb7 HM7 s0 s1 s2
        have f0 := (HM8.out.at_ 3 rfl).frozen 2
        obtain ⟨s0, s1, s2⟩ := three_of (HM8.out.at_ 3 rfl)
        have HM9 := Lib.hid (HM8.out.put 3 rfl 2 (.string (dec (rsT T a' b' c' 2 * 5 ^ c'))))
        have HZ := Lib.hid h4
        clear HM8 h4
        go_wp2_with fail
        go_roundw
        case rel => exact ⟨2 + 1, by omega, rfl, by rw [rsT_z2 _ _ HZ.out]; exact HM9.out⟩
        case measure => simp [intOf]
     ·obtain rfl : k = 3 := by omega
      obtain ⟨L3, hL3⟩ : ∃ l, l = dec (rsT 1 a b c 3) := ⟨_, rfl⟩
      obtain ⟨R3, hR3⟩ : ∃ l, l = dec (rsT T a' b' c' 3) := ⟨_, rfl⟩
      rw [← hL3, ← hR3] at HM
      have HLR := Lib.hid (And.intro hL3 hR3)
      obtain ⟨s0, s1, s2⟩ := three_of (HM.out.at_ 3 rfl)
      obtain ⟨z0, z1, z2⟩ := three_of (HM.out.at_ 1 rfl)
      have f0 := (HM.out.at_ 1 rfl).frozen 0
      have f1 := (HM.out.at_ 1 rfl).frozen 1
      have f2 := (HM.out.at_ 1 rfl).frozen 2
      have HM9 := Lib.hid (HM.out.put3 1 rfl (.int .i64 D) (.string L3) (.string R3))
      clear HM hL3 hR3
      go_wp2_with fail
      obtain ⟨WZ, hWZ⟩ : ∃ WZ, WZ = ((wr.setCell ⟨w.heap.size + 1, 0, none⟩ (.int .i64 D)).setCell ⟨w.heap.size + 1, 1, none⟩ (.string L3)).setCell ⟨w.heap.size + 1, 2, none⟩ (.string R3) := ⟨_, rfl⟩
      rw [← hWZ] at HM9 ⊢
      obtain ⟨g0, g1, g2⟩ := three_of (HM9.out.at_ 1 rfl)
      exact bodyPost_ret (v := .agg #[.int .i64 D, .string L3, .string R3]) (by simp [g0, g1, g2, results, Tryz.results47, go_sem]) rfl ⟨by rw [HLR.out.1, HLR.out.2], HM9.out.below⟩
end Go.Proofs.YtendjepcjmfmfaaGreatDoor
