/- Part 45 of 47 of the proof of the law: contracts of the functions that it reaches, and plain facts. Conditions: those that each contract names. -/
import Derived.Test.YtendjepcjmfmfaaGreatDoorOrdB42
import Derived.Test.YtendjepcjmfmfaaGreatDoorOrdB44
import Derived.Deep.QuietTactic
import Derived.BigQuiet
namespace Go.Proofs.YtendjepcjmfmfaaGreatDoor
open Go.RowKit
theorem three42 {W : World} {g : Nat} {t : TypeId} {a b c : Value} (h : Blk W g t [a, b, c]) : W.cell? ⟨g, 0, none⟩ = some a ∧ W.cell? ⟨g, 1, none⟩ = some b ∧ W.cell? ⟨g, 2, none⟩ = some c := ⟨h.cell 0, h.cell 1, h.cell 2⟩
def smT : Nat → Int
 | 0 => 3
 | 1 => 4
 | 2 => 5
 | 3 => 7
 | 4 => 8
 | 5 => 9
 | _ => 12
theorem sm_cell {W : World} {g : Nat} {t : TypeId} (h : Blk W g t [.int .i64 3, .int .i64 4, .int .i64 5, .int .i64 7, .int .i64 8, .int .i64 9, .int .i64 12]) (r : Int) (h0 : 0 ≤ r ∧ r < 7) : W.cell? ⟨g, r.toNat, none⟩ = some (.int .i64 (smT r.toNat)) := by
 rcases (show r = 0 ∨ r = 1 ∨ r = 2 ∨ r = 3 ∨ r = 4 ∨ r = 5 ∨ r = 6 by omega) with rfl | rfl | rfl | rfl | rfl | rfl | rfl
 ·exact h.cell 0
 ·exact h.cell 1
 ·exact h.cell 2
 ·exact h.cell 3
 ·exact h.cell 4
 ·exact h.cell 5
 ·exact h.cell 6
theorem sm_ptB (k : Nat) : ptB (smT k) := by
 unfold smT
 split <;> decide
theorem riT_flag (v0 v1 : Nat → Int) (lo : Int) (h : 0 < lo) : ∀ m j : Nat, (riT v0 v1 lo m j).2 = ((riT v0 v1 lo m j).1 == 0)
 | 0, _ => rfl
 | m + 1, j => by
  unfold riT
  split
  ·show false = (lo + (j : Int) == 0)
   rw [eq_comm, beq_eq_false_iff_ne]
   omega
  ·exact riT_flag v0 v1 lo h m (j + 1)
def OlRel (W1 : World) (lo : Int) (b0 b1 be : Nat → Int) (n : Nat) (u v : Value) (W : World) : Prop :=
 ∃ (k : Nat) (z : Int) (A : Option Addr) (c : Nat), k ≤ n ∧ z = lo + k ∧ v = .int .i64 z ∧ u = .slice A k c ∧ (∀ j, j < k → be j = 0) ∧ W.ownsRow W1.heap.size 53 2 (.slice A k c) k (prs42 (bdL b0 b1 k)) ∧ Hp W1 [] W
def OmRel (W1 : World) (lo : Int) (b0 b1 : Nat → Int) (n : Nat) (u v : Value) (W : World) : Prop :=
 ∃ (m : Nat) (y : Int), m < n ∧ y = (m : Int) - 1 ∧ v = .int .i64 y ∧ u = .int .i64 (riT b0 b1 lo (n - 1 - m) m).1 ∧ Hp W1 [] W
def OnRel (W1 : World) (n : Nat) (v : Value) (W : World) : Prop := ∃ i : Nat, i ≤ n ∧ v = .int .i64 (i : Int) ∧ Hp W1 [] W
theorem ord_step {v0 v1 : Nat → Int} {lo a b : Int} (h : ¬ LtB v0 v1 lo b a) (hne : a ≠ b) : ¬ v0 (b - lo).toNat < v0 (a - lo).toNat ∧ (v0 (a - lo).toNat = v0 (b - lo).toNat → ¬ v1 (b - lo).toNat < v1 (a - lo).toNat ∧ (v1 (a - lo).toNat = v1 (b - lo).toNat → ¬ b ≤ a)) := by
 unfold LtB at h
 omega
theorem kyL_nodup (lo : Int) (n : Nat) : (kyL lo n n (Nat.le_refl n)).Pairwise (fun x y => x.1 ≠ y.1) := by
 rw [List.pairwise_iff_getElem]
 intro i j hi hj hij
 simp only [kyL, List.getElem_map, List.getElem_attach, List.getElem_range]
 omega
theorem ord_get {lo : Int} {n : Nat} {v0 v1 : Nat → Int} {L : List (NK lo n)} (hp : L.Perm (kyL lo n n (Nat.le_refl n))) (hw : L.Pairwise (fun x y => ¬ LtB v0 v1 lo y.1 x.1)) : L.length = n ∧ ∀ i (h : i + 1 < L.length), ¬ LtB v0 v1 lo (L[i + 1]).1 (L[i]).1 ∧ (L[i]).1 ≠ (L[i + 1]).1 := by
 have hl : L.length = n := hp.length_eq.trans (kyL_len lo n n (Nat.le_refl n))
 refine ⟨hl, fun i h => ⟨?_, ?_⟩⟩
 ·exact List.pairwise_iff_getElem.1 hw i (i + 1) (by omega) h (by omega)
 ·have hnd : L.Pairwise (fun x y => x.1 ≠ y.1) := (hp.symm.pairwise (kyL_nodup lo n) (fun h => Ne.symm h))
  exact List.pairwise_iff_getElem.1 hnd i (i + 1) (by omega) h (by omega)
set_option maxRecDepth 1000000 in
set_option maxHeartbeats 16000000 in
theorem lord_gen (m d q ra rb rc p s lo hi : Int) (n : Nat) (b0 b1 be : Nat → Int) (X : Nat → Int × Int) (C : Nat → Tm) (w : World) (ht : Tab w) (ha : 0 ≤ ra ∧ ra < 256) (hb : 0 ≤ rb ∧ rb < 256) (hc : 0 ≤ rc ∧ rc < 256)
  (hs : s = smT (ra % 7).toNat) (hlo : lo = 24 + rb % 60) (hhi : hi = lo + rc % 13) (hn : (n : Int) = rc % 13 + 1)
  (hM : ∀ W, Calls Tryz.prog 22 #[.agg (plC m X d).toArray, .int .u16 q] W fun e w' => e = .returned (.agg (tuL C p).toArray) ∧ Below W.heap.size W w')
  (hC : ∀ W, Calls Tryz.prog 16 #[.agg (tuL C p).toArray] W fun e w' => e = .returned (.int .i64 0) ∧ Below W.heap.size W w')
  (hB : ∀ k : Nat, k < n → ∀ W, Tab W → Calls Tryz.prog 29 #[.agg (tuL C p).toArray, .agg #[.int .i64 (lo + k), .int .i64 s]] W fun e w' => e = .returned (.tuple #[.agg #[.int .i64 (b0 k), .int .i64 (b1 k)], .int .i64 (be k)]) ∧ Below W.heap.size W w')
  (hO : (∀ k : Nat, k < n → be k = 0) → ∀ W, Tab W → Calls Tryz.prog 36 #[.agg (tuL C p).toArray, .int .i64 s, .agg #[.int .i64 lo, .int .i64 hi]] W fun e w' => ∃ (g c : Nat) (L : List (NK lo n)), e = .returned (.tuple #[.slice (some ⟨g, 0, none⟩) n c, .int .i64 0]) ∧ n ≤ c ∧ c ≤ maxLen ∧ L.Perm (kyL lo n n (Nat.le_refl n)) ∧ L.Pairwise (fun x y => ¬ LtB b0 b1 lo y.1 x.1) ∧ (g < w'.heap.size ∧ ∀ i (h : i < L.length), w'.cell? ⟨g, i, none⟩ = some (.int .i64 (L[i]).1)) ∧ Below W.heap.size W w')
  (hR : (∀ k : Nat, k < n → be k = 0) → ∀ W, Tab W → Calls Tryz.prog 32 #[.agg (tuL C p).toArray, .int .i64 s, .agg #[.int .i64 lo, .int .i64 hi]] W fun e w' => e = .returned (.tuple #[.int .i64 (riT b0 b1 lo (n - 1) 0).1, .bool (riT b0 b1 lo (n - 1) 0).2, .int .i64 0]) ∧ Below W.heap.size W w') :
  Calls Tryz.prog 9 #[.agg (plC m X d).toArray, .int .u16 q, .agg #[.int .u8 ra, .int .u8 rb, .int .u8 rc]] w fun e w' => e = .returned (.bool true) ∧ Below w.heap.size w w' := by
 have hs0 : 0 < n ∧ n ≤ 13 ∧ (24 ≤ lo ∧ lo ≤ 83) ∧ lo + n = hi + 1 := by omega
 obtain ⟨x, hx⟩ : ∃ x, x = ra % 7 := ⟨_, rfl⟩
 have w1 : ra.tmod 7 = x := by rw [Int.tmod_eq_emod_of_nonneg ha.1, hx]
 have w2 : IntKind.u8.wrap x = x := by unfold IntKind.wrap; simp [IntKind.bits, IntKind.signed]; omega
 have hx7 : 0 ≤ x ∧ x < 7 := by omega
 obtain ⟨y, hy⟩ : ∃ x, x = rb % 60 := ⟨_, rfl⟩
 have w3 : rb.tmod 60 = y := by rw [Int.tmod_eq_emod_of_nonneg hb.1, hy]
 have w4 : IntKind.u8.wrap y = y := by unfold IntKind.wrap; simp [IntKind.bits, IntKind.signed]; omega
 have w5 : IntKind.i64.wrap y = y := IntWalk.i64_in _ (by omega)
 have w6 : IntKind.i64.wrap (24 + y) = lo := by rw [hlo, hy]; exact IntWalk.i64_in _ (by omega)
 obtain ⟨z, hz⟩ : ∃ x, x = rc % 13 := ⟨_, rfl⟩
 have w7 : rc.tmod 13 = z := by rw [Int.tmod_eq_emod_of_nonneg hc.1, hz]
 have w8 : IntKind.u8.wrap z = z := by unfold IntKind.wrap; simp [IntKind.bits, IntKind.signed]; omega
 have w9 : IntKind.i64.wrap z = z := IntWalk.i64_in _ (by omega)
 have w10 : IntKind.i64.wrap (lo + z) = hi := by rw [hhi, hz]; exact IntWalk.i64_in _ (by omega)
 rw [← hx] at hs
 have HX := Lib.hid (And.intro (And.intro w1 w2) (And.intro hx7 hs))
 have HY := Lib.hid (And.intro w3 (And.intro w4 (And.intro w5 w6)))
 have HZ := Lib.hid (And.intro w7 (And.intro w8 (And.intro w9 w10)))
 have HN := Lib.hid hs0
 have HKN := Lib.hid (fun W hT => bknown_any W hT)
 have HT := Lib.hid ht
 have HM := Lib.hid hM
 have HC := Lib.hid hC
 have HB := Lib.hid hB
 have HO := Lib.hid hO
 have HR := Lib.hid hR
 obtain ⟨i2, hi2, hz0, hz1, hz2⟩ := info_parts infoBd42
 have HI2 := Lib.hid hi2
 have HZ0 := Lib.hid hz0
 have HZ1 := Lib.hid hz1
 have HZ2 := Lib.hid hz2
 have hm0 := ((Hp.start w).new 26 (plC m X d)).new 90 [.int .u8 ra, .int .u8 rb, .int .u8 rc]
 simp only [World.size_alloc, List.nil_append, List.cons_append] at hm0
 have HM0 := Lib.hid hm0
 clear ht hM hC hB hO hR hm0 ha hb hc hs hlo hhi hn hx hy hz w1 w2 w3 w4 w5 w6 w7 w8 w9 w10 hx7 hs0 hi2 hz0 hz1 hz2
 go_enter Tryz.func9, Tryz.ntmps9
 go_wp2_with fail
 refine (HKN.out _ (HT.out.below HM0.out.below)).mono ?_
 rintro e w1 ⟨rfl, hb1⟩
 have HM1 := Lib.hid (HM0.out.step hb1)
 clear hb1 HM0
 go_wp2_with (refine wpList_load_row rfl 26 _ rfl (w.heap.size) rfl 26 (plC m X d).toArray (0, 0) _ (HM1.out.at_ 0 rfl) Tryz.underlying26 rfl (by rw [infoPlan42, List.size_toArray, pl_len]) ?_)
 refine (HM.out _).mono ?_
 rintro e w2 ⟨rfl, hb2⟩
 have hm2 := (HM1.out.step hb2).new 41 (tuL (fun _ => (0, 0, 0, 0)) 0)
 simp only [List.nil_append, List.cons_append] at hm2
 have HM2 := Lib.hid hm2
 have hm3 : Hp w [(w.heap.size, 26, plC m X d), (w.heap.size + 1, 90, [.int .u8 ra, .int .u8 rb, .int .u8 rc]), (w2.heap.size, 41, tuL C p)] ((w2.alloc (.cells #[.int .i64 0, .int .i64 0, .int .i64 0, .int .i64 0, .int .i64 0, .int .i64 0, .int .i64 0, .int .i64 0, .int .i64 0, .int .i64 0, .int .i64 0, .int .i64 0, .int .i64 0, .int .i64 0, .int .i64 0, .int .i64 0, .int .i64 0, .int .i64 0, .int .i64 0, .int .i64 0, .int .i64 0, .int .i64 0, .int .i64 0, .int .i64 0, .int .i64 0, .int .i64 0, .int .i64 0, .int .i64 0, .int .i64 0, .int .i64 0, .int .i64 0, .int .i64 0, .int .i64 0, .int .i64 0, .int .i64 0, .int .i64 0, .int .i64 0, .int .i64 0, .int .i64 0, .int .i64 0, .int .i64 0, .int .i64 0, .int .i64 0, .int .i64 0, .int .i64 0, .int .i64 0, .int .i64 0, .int .i64 0, .int .i64 0] 41)).setRow w2.heap.size (tuL C p).toArray) := (hm2.row 2 rfl (tuL C p)).cast rfl
 have HM3 := Lib.hid hm3
 clear hb2 HM1 hm2
 have hm4 := hm3.new 3 [.int .i64 3, .int .i64 4, .int .i64 5, .int .i64 7, .int .i64 8, .int .i64 9, .int .i64 12]
 have hm4' := hm4.cast (L' := [(w.heap.size, 26, plC m X d), (w.heap.size + 1, 90, [.int .u8 ra, .int .u8 rb, .int .u8 rc]), (w2.heap.size, 41, tuL C p), (w2.heap.size + 1, 3, [.int .i64 3, .int .i64 4, .int .i64 5, .int .i64 7, .int .i64 8, .int .i64 9, .int .i64 12])]) (by simp)
 obtain ⟨q0, q1, q2⟩ := three42 (hm4'.at_ 1 rfl)
 have qs := sm_cell (hm4'.at_ 3 rfl) x HX.out.2.1
 rw [← HX.out.2.2] at qs
 have hm5 := hm4'.new 80 [.int .i64 lo, .int .i64 0]
 have hm5' := hm5.cast (L' := [(w.heap.size, 26, plC m X d), (w.heap.size + 1, 90, [.int .u8 ra, .int .u8 rb, .int .u8 rc]), (w2.heap.size, 41, tuL C p), (w2.heap.size + 1, 3, [.int .i64 3, .int .i64 4, .int .i64 5, .int .i64 7, .int .i64 8, .int .i64 9, .int .i64 12]), (w2.heap.size + 1 + 1, 80, [.int .i64 lo, .int .i64 0])]) (by simp)
 obtain ⟨q3, q4, q5⟩ := three42 (hm5'.at_ 1 rfl)
 obtain ⟨k0, k1⟩ := two_of (hm5'.at_ 4 rfl)
 have f1 := (hm5'.at_ 4 rfl).frozen 1
 have hm6 := (hm4'.new 80 [.int .i64 lo, .int .i64 hi]).cast (L' := [(w.heap.size, 26, plC m X d), (w.heap.size + 1, 90, [.int .u8 ra, .int .u8 rb, .int .u8 rc]), (w2.heap.size, 41, tuL C p), (w2.heap.size + 1, 3, [.int .i64 3, .int .i64 4, .int .i64 5, .int .i64 7, .int .i64 8, .int .i64 9, .int .i64 12]), (w2.heap.size + 1 + 1, 80, [.int .i64 lo, .int .i64 hi])]) (by simp)
 have HM6 := Lib.hid hm6
 obtain ⟨⟨w1', w2'⟩, ⟨x0, x7⟩, -⟩ := HX.out
 obtain ⟨w3', w4', w5', w6'⟩ := HY.out
 obtain ⟨w7', w8', w9', w10'⟩ := HZ.out
 clear hm3 hm4 hm4' hm5 hm5' hm6
 go_wp2_with (first | (refine wpList_store_rowTo rfl 41 _ _ rfl rfl (w2.heap.size) (tuL C p).toArray rfl rfl 41 (tuL (fun _ => (0, 0, 0, 0)) 0).toArray (HM2.out.at_ 2 rfl) (by rw [infoTun, List.size_toArray, tuL_len]) (by rw [List.size_toArray, List.size_toArray, tuL_len, tuL_len]) (tu_one C p) ?_) | (refine wpList_load_row rfl 41 _ rfl (w2.heap.size) rfl 41 (tuL C p).toArray (0, 0) _ (HM6.out.at_ 2 rfl) Tryz.underlying41 rfl (by rw [infoTun, List.size_toArray, tuL_len]) ?_))
 refine (HC.out _).mono ?_
 rintro e W1 ⟨rfl, hb3⟩
 have HM7 := Lib.hid (show Hp w [(w2.heap.size, 41, tuL C p), (w2.heap.size + 1 + 1, 80, [.int .i64 lo, .int .i64 hi])] W1 from (HM6.out.step hb3).sub (by simp))
 clear hb3 HM2 HM3 HM6 q0 q1 q2 q3 q4 q5 qs k0 k1 f1 w1' w2' x0 x7 w3' w4' w5' w6' w7' w8' w9' w10'
 have HTU := Lib.hid (fun (W : World) (hb : Below W1.heap.size W1 W) => (HM7.out.at_ 0 rfl).below hb (HM7.out.at_ 0 rfl).lt)
 have HKY := Lib.hid (fun (W : World) (hb : Below W1.heap.size W1 W) => two_of ((HM7.out.at_ 1 rfl).below hb (HM7.out.at_ 1 rfl).lt))
 obtain ⟨k0, k1⟩ := HKY.out W1 (Below.refl _ _)
 go_wp2_with fail
 go_loopw [10, 11] (fun u v wr => OlRel W1 lo b0 b1 be n u v wr) (fun _ v _ => (hi + 1 - intOf v).toNat)
 case atStart => exact ⟨0, lo, none, 0, by omega, by omega, rfl, rfl, fun j h => absurd h (by omega), World.ownsRow_nil _ _ _ _, Hp.start W1⟩
 case round =>
  obtain ⟨k, z1, A, c, hk, hz, rfl, rfl, hbe, hown, hm⟩ := hrel
  have HJ := Lib.hid hm
  have HOJ := Lib.hid hown
  have HBE := Lib.hid hbe
  have HZV := Lib.hid hz
  have hcp := own_cap hown
  clear k0 k1
  obtain ⟨k0, k1⟩ := HKY.out _ hm.below
  clear hm hown hbe
  by_cases hlt : k < n
  ·have hzl : z1 ≤ hi := by have := HN.out; omega
   have hbt := HB.out k hlt
   rw [← hz] at hbt
   obtain ⟨v0, hv0⟩ : ∃ b, b = b0 k := ⟨_, rfl⟩
   obtain ⟨v1, hv1⟩ : ∃ b, b = b1 k := ⟨_, rfl⟩
   obtain ⟨v2, hv2⟩ : ∃ b, b = be k := ⟨_, rfl⟩
   rw [← hv0, ← hv1, ← hv2] at hbt
   have HBT := Lib.hid hbt
   have HV := Lib.hid (And.intro hv0 (And.intro hv1 hv2))
   have HLT := Lib.hid hlt
   have hkn : k ≤ 127 := by have := HN.out; omega
   obtain ⟨z2, hz2⟩ : ∃ z2, z2 = z1 + 1 := ⟨_, rfl⟩
   have hwz : IntKind.i64.wrap (z1 + 1) = z2 := by rw [hz2]; exact IntWalk.i64_in _ (by have := HN.out; omega)
   have HZ3 := Lib.hid hz2
   clear hbt hv0 hv1 hv2 hz hlt hk hz2
   go_wp2_with (first | (refine wpList_load_row rfl 41 _ rfl (w2.heap.size) rfl 41 (tuL C p).toArray (0, 0) _ (HTU.out _ HJ.out.below) Tryz.underlying41 rfl (by rw [infoTun, List.size_toArray, tuL_len]) ?_))
   refine (HBT.out _ ((HT.out.below HM7.out.below).below HJ.out.below)).mono ?_
   rintro e w5 ⟨rfl, hb5⟩
   have hm8 := (HJ.out.step hb5).new 53 [.int .i64 v0, .int .i64 v1]
   simp only [List.nil_append] at hm8
   have HJ2 := Lib.hid hm8
   have HO2 := Lib.hid (own_bl (own_bl HOJ.out hb5) (bw_new (Below.refl _ _) (.cells #[.int .i64 v0, .int .i64 v1] 53)))
   obtain ⟨y2, y3⟩ := two_of (hm8.at_ 0 rfl)
   clear hb5 hm8 HOJ k0 k1
   by_cases he : v2 = 0
   ·subst he
    have hkk := (HKY.out _ HJ2.out.below)
    obtain ⟨k0, k1⟩ := hkk
    go_wp2_with (at_builtin; refine wpList_append_own _ rfl _ _ 91 rfl W1.heap.size 53 i2 (.agg #[.int .i64 0, .int .i64 0]) 2 16 Tryz.underlying91 HI2.out HZ0.out HZ1.out HZ2.out rfl (by decide) _ _ _ rfl (own_bl HO2.out (bw_new (Below.refl _ _) _)) ⟨w5.heap.size + 1, 0, none⟩ 1 1 [.int .i64 v0, .int .i64 v1] rfl rfl ?cells (by simp [Value.oneCell']) (by unfold maxLen; omega) (by omega) (by simp; have := HJ2.out.below.size; simp at this; omega) ?_)
    case cells =>
     have hcn := heap_alloc_new (w5.alloc (.cells #[.int .i64 v0, .int .i64 v1] 53)) (.cells #[.int .i64 v0, .int .i64 v1] 53)
     rw [World.size_alloc] at hcn
     exact World.news_of_block (cs := #[.int .i64 v0, .int .i64 v1]) (t := 53) (fr := (0, 0)) hcn
    intro v' w6 hown hgrow _
    obtain ⟨g3, c3, hv, hc3⟩ := own_form hown (by omega)
    subst hv
    have hm9 : Hp W1 [] w6 := ((HJ2.out.alloc _).sub (List.nil_sublist _)).grw hgrow (fun q hq => ⟨(HO2.out.lt _ hq).1, fun p hp => absurd hp List.not_mem_nil⟩)
    have HJ3 := Lib.hid hm9
    have HO3 := Lib.hid hown
    clear hown hgrow hm9 y2 y3 k0 k1
    go_wp2_with fail
    go_roundw
    case rel =>
     refine ⟨k + 1, z2, _, _, by have := HLT.out; omega, by rw [HZ3.out, HZV.out]; omega, rfl, rfl, fun j hj => ?_, ?_, HJ3.out⟩
     ·rcases (show j < k ∨ j = k by omega) with h | rfl
      ·exact HBE.out j h
      ·exact HV.out.2.2.symm
     ·rw [bdL_succ, prs42_app, ← HV.out.1, ← HV.out.2.1]
      exact HO3.out
    case measure => have := HZ3.out; simp [intOf]; omega
   ·have hz0 : (v2 != 0) = true := by simpa using he
    have HZZ := Lib.hid (HM7.out.step HJ2.out.below)
    clear he
    go_wp2_with fail
    exact bodyPost_ret (v := .bool true) (by simp [results, Tryz.results9, go_sem]) rfl ⟨rfl, HZZ.out.below⟩
  ·obtain rfl : k = n := by omega
   have hzl : ¬ z1 ≤ hi := by have := HN.out; omega
   obtain ⟨g, c2, hv, hc2⟩ := own_form HOJ.out HN.out.1
   injection hv with e1 e2 e3
   subst e1 e3
   have HIV := Lib.hid (ivs_own HOJ.out (bdL_len b0 b1 k).symm)
   have HORD := Lib.hid (HO.out (fun j hj => HBE.out j hj))
   have hris := HR.out (fun j hj => HBE.out j hj)
   obtain ⟨Fn, hFn⟩ : ∃ F, F = (riT b0 b1 lo (k - 1) 0).1 := ⟨_, rfl⟩
   obtain ⟨fl, hfl⟩ : ∃ F, F = (riT b0 b1 lo (k - 1) 0).2 := ⟨_, rfl⟩
   have hff : fl = (Fn == 0) := by rw [hfl, hFn]; exact riT_flag b0 b1 lo (by have := HN.out; omega) _ _
   rw [← hFn, ← hfl] at hris
   have HRIS := Lib.hid hris
   have HFF := Lib.hid (And.intro hFn hff)
   clear HO HR HB hc2 e2 hlt hk hz hris hFn hfl hff
   go_wp2_with (first | (refine wpList_load_row rfl 41 _ rfl (w2.heap.size) rfl 41 (tuL C p).toArray (0, 0) _ (HTU.out _ HJ.out.below) Tryz.underlying41 rfl (by rw [infoTun, List.size_toArray, tuL_len]) ?_))
   refine (HORD.out _ ((HT.out.below HM7.out.below).below HJ.out.below)).mono ?_
   rintro e w5 ⟨g3, c3, L, rfl, hc3, hc3m, hperm, hpair, ⟨hg3, hcell⟩, hb5⟩
   have HJ5 := Lib.hid (HJ.out.step hb5)
   obtain ⟨hL1, hL2⟩ := ord_get hperm hpair
   have hcl : ∀ i (h : i < k), w5.cell? ⟨g3, i, none⟩ = some (.int .i64 (L[i]'(by rw [hL1]; exact h)).1) := fun i h => hcell i (by rw [hL1]; exact h)
   have HIV5 := Lib.hid (HIV.out.below hb5)
   have HLL := Lib.hid hL1
   have HL2 := Lib.hid hL2
   have HC3 := Lib.hid (And.intro hc3 hc3m)
   clear k0 k1
   obtain ⟨k0, k1⟩ := HKY.out _ HJ5.out.below
   clear hb5 hperm hpair hcell HIV hL2 HOJ
   go_wp2_with (first | (refine wpList_load_row rfl 41 _ rfl (w2.heap.size) rfl 41 (tuL C p).toArray (0, 0) _ (HTU.out _ HJ5.out.below) Tryz.underlying41 rfl (by rw [infoTun, List.size_toArray, tuL_len]) ?_))
   refine (HRIS.out _ ((HT.out.below HM7.out.below).below HJ5.out.below)).mono ?_
   rintro e W6 ⟨rfl, hb6⟩
   have HJ6 := Lib.hid (HJ5.out.step hb6)
   have HZ6 := Lib.hid (HM7.out.step HJ6.out.below)
   have HIV6 := Lib.hid (HIV5.out.below hb6)
   have HKY6 := Lib.hid (fun (W : World) (hb : Below W6.heap.size W6 W) => two_of ((HZ6.out.at_ 1 rfl).below hb (HZ6.out.at_ 1 rfl).lt))
   have HOC := Lib.hid (fun (W : World) (hb : Below W6.heap.size W6 W) (i : Nat) (h : i < k) => show W.cell? ⟨g3, i, none⟩ = some (.int .i64 (L[i]'(by rw [hL1]; exact h)).1) from by
    have h1 : W6.cell? ⟨g3, i, none⟩ = w5.cell? ⟨g3, i, none⟩ := hb6.cell (p := ⟨g3, i, none⟩) hg3
    have h2 : W.cell? ⟨g3, i, none⟩ = W6.cell? ⟨g3, i, none⟩ := hb.cell (p := ⟨g3, i, none⟩) (Nat.lt_of_lt_of_le hg3 hb6.size)
    rw [h2, h1]
    exact hcl i h)
   obtain ⟨yy, hyy⟩ : ∃ y, y = (k : Int) - 2 := ⟨_, rfl⟩
   have hwy : IntKind.i64.wrap ((k : Int) - 2) = yy := by rw [hyy]; exact IntWalk.i64_in _ (by have := HN.out; omega)
   have HYY := Lib.hid hyy
   clear hb6 hg3 hcl HIV5 HJ5 k0 k1 hyy
   go_wp2_with fail
   go_loopw [19, 20] (fun u v wx => OmRel W6 lo b0 b1 k u v wx) (fun _ v _ => (intOf v + 1).toNat)
   case atStart => exact ⟨k - 1, yy, by have := HN.out; omega, by have := HYY.out; have := HN.out; omega, rfl, by rw [Nat.sub_self]; rfl, Hp.start W6⟩
   case round =>
    obtain ⟨mm, y3, hmm, hy3, rfl, rfl, hw6⟩ := hrel
    have HK6 := Lib.hid hw6
    obtain ⟨t1, ht1⟩ : ∃ t, t = (riT b0 b1 lo (k - 1 - mm) mm).1 := ⟨_, rfl⟩
    rw [← ht1]
    have HT1 := Lib.hid ht1
    clear hw6
    by_cases hm0 : 0 < mm
    ·obtain ⟨j, hj⟩ : ∃ j, mm = j + 1 := ⟨mm - 1, by omega⟩
     obtain ⟨-, hiv⟩ := HIV6.out.below HK6.out.below
     obtain ⟨-, c1⟩ := hiv j (by rw [bdL_len]; omega)
     obtain ⟨c2', -⟩ := hiv (j + 1) (by rw [bdL_len]; omega)
     rw [bdL_get] at c1 c2'
     dsimp only at c1 c2'
     obtain ⟨x1, hx1⟩ : ∃ x, x = b1 j := ⟨_, rfl⟩
     obtain ⟨x0, hx0⟩ : ∃ x, x = b0 (j + 1) := ⟨_, rfl⟩
     rw [← hx1] at c1
     rw [← hx0] at c2'
     obtain ⟨y4, hy4⟩ : ∃ y, y = y3 + 1 := ⟨_, rfl⟩
     obtain ⟨y5, hy5⟩ : ∃ y, y = y3 - 1 := ⟨_, rfl⟩
     obtain ⟨q1, hq1⟩ : ∃ y, y = lo + y3 := ⟨_, rfl⟩
     have wy4 : IntKind.i64.wrap (y3 + 1) = y4 := by rw [hy4]; exact IntWalk.i64_in _ (by have := HN.out; omega)
     have wy5 : IntKind.i64.wrap (y3 - 1) = y5 := by rw [hy5]; exact IntWalk.i64_in _ (by have := HN.out; omega)
     have wq1 : IntKind.i64.wrap (lo + y3) = q1 := by rw [hq1]; exact IntWalk.i64_in _ (by have := HN.out; omega)
     have b3 : 0 ≤ y3 := by omega
     have b3n : y3 < (k : Int) := by omega
     have b4 : 0 ≤ y4 := by omega
     have b4n : y4 < (k : Int) := by omega
     rw [show j * 2 + 1 = y3.toNat * 2 + 1 by omega] at c1
     rw [show (j + 1) * 2 = y4.toNat * 2 by omega] at c2'
     have hst : riT b0 b1 lo (k - 1 - j) j = if x0 ≤ x1 then (lo + (j : Int), false) else riT b0 b1 lo (k - 1 - mm) mm := by
      rw [show k - 1 - j = (k - 1 - mm) + 1 by omega, hj]
      show (if b0 (j + 1) ≤ b1 j then (lo + (j : Int), false) else riT b0 b1 lo (k - 1 - (j + 1)) (j + 1)) = _
      rw [← hx0, ← hx1]
     have HST := Lib.hid hst
     have HJJ := Lib.hid (show j < k ∧ y5 = (j : Int) - 1 ∧ q1 = lo + (j : Int) ∧ 0 ≤ y3 ∧ y5 = y3 - 1 by omega)
     obtain ⟨k0, k1⟩ := HKY6.out _ HK6.out.below
     have bge : 0 ≤ y3 := b3
     clear hx1 hx0 hy4 hy5 hq1 hst hiv ht1 hmm hy3 hm0 hj
     by_cases hxy : x0 ≤ x1
     ·have HE := Lib.hid (show q1 = (riT b0 b1 lo (k - 1 - j) j).1 by rw [HST.out, if_pos hxy]; exact HJJ.out.2.2.1)
      go_wp2_with fail
      go_quiet (fail)
      have HK7 := Lib.hid (HK6.out.drewN nq)
      obtain ⟨s0, s1⟩ := HKY6.out _ HK7.out.below
      clear k0 k1 c1 c2'
      go_wp2_with fail
      go_roundw
      case rel => exact ⟨j, y5, HJJ.out.1, HJJ.out.2.1, rfl, by rw [← HE.out], HK7.out⟩
      case measure => have := HJJ.out; simp only [intOf]; omega
     ·have HE := Lib.hid (show t1 = (riT b0 b1 lo (k - 1 - j) j).1 by rw [HST.out, if_neg hxy]; exact HT1.out)
      go_wp2_with fail
      go_quiet (fail)
      have HK7 := Lib.hid (HK6.out.drewN nq)
      clear k0 k1 c1 c2'
      go_wp2_with fail
      go_roundw
      case rel => exact ⟨j, y5, HJJ.out.1, HJJ.out.2.1, rfl, by rw [← HE.out], HK7.out⟩
      case measure => have := HJJ.out; simp only [intOf]; omega
    ·obtain rfl : mm = 0 := by omega
     have hyn : ¬ 0 ≤ y3 := by omega
     obtain rfl : t1 = Fn := by rw [ht1, HFF.out.1]; rfl
     have hfl2 := HFF.out.2
     have HK8 := Lib.hid HK6.out
     clear hm0 hmm hy3 ht1 HT1 HFF
     have hFb : (t1 == 0) = fl := hfl2.symm
     clear hfl2
     go_wp2_with fail
     go_loopw [21] (fun v wx => OnRel W6 k v wx) (fun v _ => k - (intOf v).toNat)
     case atStart => exact ⟨0, by omega, rfl, HK8.out⟩
     case round => 
       obtain ⟨i, hi0, rfl, hw7⟩ := hrel
       have HK9 := Lib.hid hw7
       clear hw7 HK8
       by_cases hil : i < k
       ·obtain ⟨xb, hxb⟩ : ∃ x, x = (L[i]'(by rw [HLL.out]; exact hil)).1 := ⟨_, rfl⟩
        have cb := HOC.out _ HK9.out.below i hil
        rw [← hxb] at cb
        have hbb := (L[i]'(by rw [HLL.out]; exact hil)).2
        rw [← hxb] at hbb
        have g1 : ¬ xb < lo := by omega
        have g2 : ¬ hi < xb := by have := HN.out; omega
        obtain ⟨k0, k1⟩ := HKY6.out _ HK9.out.below
        have hik : (i : Int) < (k : Int) := by omega
        have HLT := Lib.hid hil
        have HXB := Lib.hid hxb
        have HBB := Lib.hid hbb
        obtain ⟨i2, hi2'⟩ : ∃ i2 : Int, i2 = (i : Int) + 1 := ⟨_, rfl⟩
        have hwi : IntKind.i64.wrap ((i : Int) + 1) = i2 := by rw [hi2']; exact IntWalk.i64_in _ (by have := HN.out; omega)
        have HI3 := Lib.hid hi2'
        clear hxb hbb hi0 hi2'
        by_cases hz : i = 0
        ·subst hz
         go_wp2_with fail
         go_quiet (fail)
         have HK10 := Lib.hid (HK9.out.drewN nq)
         clear cb k0 k1
         go_wp2_with fail
         go_roundw
         case rel => exact ⟨1, by have := HLT.out; omega, rfl, HK10.out⟩
         case measure => have := HLT.out; have := HI3.out; simp only [intOf]; omega
        ·have hz2 : ((i : Int) == 0) = false := by rw [beq_eq_false_iff_ne]; omega
         obtain ⟨j, hj⟩ : ∃ j, i = j + 1 := ⟨i - 1, by omega⟩
         have hjk : j < k := by have := HLT.out; omega
         obtain ⟨xa, hxa⟩ : ∃ x, x = (L[j]'(by rw [HLL.out]; exact hjk)).1 := ⟨_, rfl⟩
         have hab := (L[j]'(by rw [HLL.out]; exact hjk)).2
         rw [← hxa] at hab
         have hstp := HL2.out j (by rw [HLL.out]; have := HLT.out; omega)
         have hxb2 : xb = (L[j + 1]'(by rw [HLL.out]; have := HLT.out; omega)).1 := by rw [HXB.out]; congr 2
         rw [← hxa, ← hxb2] at hstp
         obtain ⟨jz, hjz⟩ : ∃ z : Int, z = (j : Int) := ⟨_, rfl⟩
         obtain ⟨ia, hia⟩ : ∃ z, z = xa - lo := ⟨_, rfl⟩
         obtain ⟨ib, hib⟩ : ∃ z, z = xb - lo := ⟨_, rfl⟩
         have hbb := HBB.out
         have wj : IntKind.i64.wrap ((i : Int) - 1) = jz := by rw [hjz, hj]; exact (IntWalk.i64_in _ (by have := HN.out; omega)).trans (by omega)
         have wa : IntKind.i64.wrap (xa - lo) = ia := by rw [hia]; exact IntWalk.i64_in _ (by have := HN.out; omega)
         have wb : IntKind.i64.wrap (xb - lo) = ib := by rw [hib]; exact IntWalk.i64_in _ (by have := HN.out; omega)
         obtain ⟨p0, hp0⟩ : ∃ x, x = b0 ia.toNat := ⟨_, rfl⟩
         obtain ⟨p1, hp1⟩ : ∃ x, x = b1 ia.toNat := ⟨_, rfl⟩
         obtain ⟨zz0, hz0'⟩ : ∃ x, x = b0 ib.toNat := ⟨_, rfl⟩
         obtain ⟨zz1, hz1'⟩ : ∃ x, x = b1 ib.toNat := ⟨_, rfl⟩
         have hcmp := ord_step hstp.1 hstp.2
         rw [← hia, ← hib, ← hp0, ← hp1, ← hz0', ← hz1'] at hcmp
         have hFX : ∀ W, Below W6.heap.size W6 W → (W.cell? ⟨g3, jz.toNat, none⟩ = some (.int .i64 xa)) ∧ (W.cell? ⟨g3, i, none⟩ = some (.int .i64 xb)) ∧ (W.cell? ⟨w2.heap.size + 1 + 1, 0, none⟩ = some (.int .i64 lo)) ∧ (W.cell? ⟨g, ia.toNat * 2, none⟩ = some (.int .i64 p0) ∧ W.cell? ⟨g, ia.toNat * 2 + 1, none⟩ = some (.int .i64 p1)) ∧ (W.cell? ⟨g, ib.toNat * 2, none⟩ = some (.int .i64 zz0) ∧ W.cell? ⟨g, ib.toNat * 2 + 1, none⟩ = some (.int .i64 zz1)) := fun W hW => by
          obtain ⟨-, hc⟩ := HIV6.out.below hW
          have ca := hc ia.toNat (by rw [bdL_len]; omega)
          have cb := hc ib.toNat (by rw [bdL_len]; omega)
          rw [bdL_get] at ca cb
          dsimp only at ca cb
          rw [← hp0, ← hp1] at ca
          rw [← hz0', ← hz1'] at cb
          refine ⟨?_, ?_, (HKY6.out W hW).1, ca, cb⟩
          ·have := HOC.out W hW j hjk
           rw [← hxa] at this
           rw [show jz.toNat = j by omega]
           exact this
          ·have := HOC.out W hW i HLT.out
           rw [← HXB.out] at this
           exact this
         have HFX := Lib.hid hFX
         have HCM := Lib.hid hcmp
         have HWR := Lib.hid (And.intro wj (And.intro wa wb))
         have HIN := Lib.hid (show (0 ≤ jz ∧ jz < (k : Int)) ∧ (0 ≤ ia ∧ ia < (k : Int)) ∧ (0 ≤ ib ∧ ib < (k : Int)) by have := HLT.out; omega)
         clear hz hj hjk hxa hab hstp hxb2 hjz hia hib hbb wj wa wb hp0 hp1 hz0' hz1' hcmp hFX
         go_upto_region 32 with fail
         go_quiet (fail)
         have HK10 := Lib.hid (HK9.out.drewN nq)
         clear cb k0 k1
         go_upto_region 35 with fail
         refine wp_regionJ 25 #[false, false, false, false, false, false, false, false, false, false, false, false, false, false, false, false, false, false, false, false, false, false, false, false, false] (fun l a W => ∃ (m0 m1 m2 m3 m4 m5 m6 m7 m8 m9 m10 m11 m12 m13 m14 m15 m16 m17 m18 m19 m20 m21 m22 m23 m24 : Bool) (h1 : Nat) (h2 : Nat), l = #[m0, m1, m2, m3, m4, m5, m6, m7, m8, m9, m10, m11, m12, m13, m14, m15, m16, m17, m18, m19, m20, m21, m22, m23, m24] ∧ a = ({ tmps := #[.agg (plC m X d).toArray, .int IntKind.u16 q, .agg #[.int IntKind.u8 ra, .int IntKind.u8 rb, .int IntKind.u8 rc], .pointer (some ⟨w.heap.size, 0, none⟩), undef, .pointer (some ⟨w.heap.size + 1, 0, none⟩), u6, .pointer (some ⟨w2.heap.size, 0, none⟩), .int .i64 s, .pointer (some ⟨w2.heap.size + 1 + 1, 0, none⟩), .slice (some { block := g, off := 0 }) k c, .int .i64 z1, u12, u13, .slice (some { block := g3, off := 0 }) k c3, .int .i64 0, .int .i64 t1, .bool fl, .int .i64 0, .int .i64 t1, .int .i64 y3, .int .i64 (i : Int), cwX m21 (.pointer (some ⟨h1, 0, none⟩)) (u22), cwX m22 (.pointer (some ⟨h2, 0, none⟩)) (u23), .bool true, .bool false, .agg (plC m X d).toArray, .int IntKind.u16 q, .agg (tuL C p).toArray, .slice (some { block := w2.heap.size + 1, off := 0 }) 7 7, .pointer (some ⟨w.heap.size + 1, 0, none⟩), .int IntKind.u8 ra, .int IntKind.u8 x, .pointer (some { block := w2.heap.size + 1, off := x.toNat }), .int .i64 s, .pointer (some ⟨w.heap.size + 1, 1, none⟩), .int IntKind.u8 rb, .int IntKind.u8 y, .int .i64 y, .int .i64 lo, .agg #[.int .i64 lo, .int .i64 0], .pointer (some ⟨w2.heap.size + 1 + 1, 0, none⟩), .int .i64 lo, .pointer (some ⟨w.heap.size + 1, 2, none⟩), .int IntKind.u8 rc, .int IntKind.u8 z, .int .i64 z, .int .i64 hi, .pointer (some ⟨w2.heap.size + 1 + 1, 1, none⟩), .agg (tuL C p).toArray, .int .i64 0, .bool false, .pointer (some ⟨w2.heap.size + 1 + 1, 0, none⟩), .int .i64 lo, .int .i64 z1, .pointer (some ⟨w2.heap.size + 1 + 1, 1, none⟩), .int .i64 hi, .bool false, u58, u59, u60, u61, u62, u63, u64, u65, u66, u67, u68, u69, u70, u71, u72, u73, .tuple #[.slice (some { block := g3, off := 0 }) k c3, .int .i64 0], .agg (tuL C p).toArray, .int .i64 s, .agg #[.int .i64 lo, .int .i64 hi], .tuple #[.slice (some { block := g3, off := 0 }) k c3, .int .i64 0], .slice (some { block := g3, off := 0 }) k c3, .int .i64 0, .tuple #[.int .i64 t1, .bool fl, .int .i64 0], .agg (tuL C p).toArray, .int .i64 s, .agg #[.int .i64 lo, .int .i64 hi], .tuple #[.int .i64 t1, .bool fl, .int .i64 0], .int .i64 t1, .bool fl, .int .i64 0, .int .i64 0, .bool false, .bool false, .int .i64 0, .bool false, .bool false, .bool false, .slice (some { block := g3, off := 0 }) k c3, .int .i64 (k : Int), .slice (some { block := g, off := 0 }) k c, .int .i64 (k : Int), .bool false, .bool false, .slice (some { block := g, off := 0 }) k c, .int .i64 (k : Int), .int .i64 yy, .int .i64 y3, .bool false, u107, u108, u109, u110, u111, u112, u113, u114, u115, u116, u117, u118, u119, u120, u121, u122, u123, u124, .int .i64 t1, .int .i64 t1, .bool false, .bool false, .bool fl, .int .i64 t1, .bool fl, .bool false, .bool false, .int .i64 (i : Int), .slice (some { block := g3, off := 0 }) k c3, .int .i64 (k : Int), .bool true, u138, u139, .slice (some { block := g3, off := 0 }) k c3, .int .i64 (i : Int), .pointer (some { block := g3, off := i }), .int .i64 xb, .pointer (some ⟨w2.heap.size + 1 + 1, 0, none⟩), .int .i64 lo, .bool false, .bool false, .slice (some { block := g3, off := 0 }) k c3, .int .i64 (i : Int), .pointer (some { block := g3, off := i }), .int .i64 xb, .pointer (some ⟨w2.heap.size + 1 + 1, 1, none⟩), .int .i64 hi, .bool false, .bool false, .int .i64 (i : Int), .bool false, cwX m0 (.slice (some ⟨g, 0, none⟩) k c) (u158), cwX m1 (.slice (some ⟨g3, 0, none⟩) k c3) (u159), cwX m2 (.int .i64 (i : Int)) (u160), cwX m3 (.int .i64 jz) (u161), cwX m4 (.pointer (some ⟨g3, jz.toNat, none⟩)) (u162), cwX m5 (.int .i64 xa) (u163), cwX m6 (.pointer (some ⟨w2.heap.size + 1 + 1, 0, none⟩)) (u164), cwX m7 (.int .i64 lo) (u165), cwX m8 (.int .i64 ia) (u166), cwX m9 (.pointer (some ⟨g, ia.toNat * 2, none⟩)) (u167), cwX m10 (.agg #[.int .i64 p0, .int .i64 p1]) (u168), cwX m11 (.slice (some ⟨g, 0, none⟩) k c) (u169), cwX m12 (.slice (some ⟨g3, 0, none⟩) k c3) (u170), cwX m13 (.int .i64 (i : Int)) (u171), cwX m14 (.pointer (some ⟨g3, i, none⟩)) (u172), cwX m15 (.int .i64 xb) (u173), cwX m16 (.pointer (some ⟨w2.heap.size + 1 + 1, 0, none⟩)) (u174), cwX m17 (.int .i64 lo) (u175), cwX m18 (.int .i64 ib) (u176), cwX m19 (.pointer (some ⟨g, ib.toNat * 2, none⟩)) (u177), cwX m20 (.agg #[.int .i64 zz0, .int .i64 zz1]) (u178), u179, u180, u181, u182, u183, u184, u185, u186, u187, u188, u189, u190, u191, u192, u193, u194, u195, u196, u197, u198, u199, u200, u201, u202, u203, u204, u205, u206, u207, u208, u209, u210, u211, u212, u213, u214, u215, u216], defers := [] } : Act) ∧ ((m23 = true → m21 = true) ∧ (m24 = true → m22 = true)) ∧ Hp W6 (([] ++ cl m21 (h1, 53, bif m23 then [.int .i64 p0, .int .i64 p1] else [.int .i64 0, .int .i64 0])) ++ cl m22 (h2, 53, bif m24 then [.int .i64 zz0, .int .i64 zz1] else [.int .i64 0, .int .i64 0])) W) (by kernel_rfl) (by kernel_rfl) (by kernel_rfl) (by kernel_rfl) ?_ ?_ ?_ ?_
         ·rintro l a W ⟨m0, m1, m2, m3, m4, m5, m6, m7, m8, m9, m10, m11, m12, m13, m14, m15, m16, m17, m18, m19, m20, m21, m22, m23, m24, h1, h2, rfl, _⟩
          rfl
         ·exact ⟨false, false, false, false, false, false, false, false, false, false, false, false, false, false, false, false, false, false, false, false, false, false, false, false, false, 0, 0, rfl, rfl, ⟨fun h => absurd h (by simp), fun h => absurd h (by simp)⟩, HK10.out.drew⟩
         ·rintro l a W i o ⟨m0, m1, m2, m3, m4, m5, m6, m7, m8, m9, m10, m11, m12, m13, m14, m15, m16, m17, m18, m19, m20, m21, m22, m23, m24, h1, h2, rfl, rfl, hi0, hm⟩ ho hun hall K hK
          have hi : i < 25 := (Array.getElem?_eq_some_iff.1 ho).1
          have HM := Lib.hid hm
          have HI := Lib.hid hi0
          clear hm hi0
          rcases (show i = 0 ∨ i = 1 ∨ i = 2 ∨ i = 3 ∨ i = 4 ∨ i = 5 ∨ i = 6 ∨ i = 7 ∨ i = 8 ∨ i = 9 ∨ i = 10 ∨ i = 11 ∨ i = 12 ∨ i = 13 ∨ i = 14 ∨ i = 15 ∨ i = 16 ∨ i = 17 ∨ i = 18 ∨ i = 19 ∨ i = 20 ∨ i = 21 ∨ i = 22 ∨ i = 23 ∨ i = 24 by omega) with rfl | rfl | rfl | rfl | rfl | rfl | rfl | rfl | rfl | rfl | rfl | rfl | rfl | rfl | rfl | rfl | rfl | rfl | rfl | rfl | rfl | rfl | rfl | rfl | rfl
          ·cases ho
           simp at hun; subst hun
           clear hall hi
           go_simp
           exact hK.out _ _ ⟨true, m1, m2, m3, m4, m5, m6, m7, m8, m9, m10, m11, m12, m13, m14, m15, m16, m17, m18, m19, m20, m21, m22, m23, m24, h1, h2, rfl, rfl, by obtain ⟨h0, h1⟩ := HI.out; exact ⟨(fun e => by first | rfl | exact h0 e | cases e), (fun e => by first | rfl | exact h1 e | cases e)⟩, HM.out⟩
          ·cases ho
           simp at hun; subst hun
           clear hall hi
           go_simp
           exact hK.out _ _ ⟨m0, true, m2, m3, m4, m5, m6, m7, m8, m9, m10, m11, m12, m13, m14, m15, m16, m17, m18, m19, m20, m21, m22, m23, m24, h1, h2, rfl, rfl, by obtain ⟨h0, h1⟩ := HI.out; exact ⟨(fun e => by first | rfl | exact h0 e | cases e), (fun e => by first | rfl | exact h1 e | cases e)⟩, HM.out⟩
          ·cases ho
           simp at hun; subst hun
           clear hall hi
           go_simp
           exact hK.out _ _ ⟨m0, m1, true, m3, m4, m5, m6, m7, m8, m9, m10, m11, m12, m13, m14, m15, m16, m17, m18, m19, m20, m21, m22, m23, m24, h1, h2, rfl, rfl, by obtain ⟨h0, h1⟩ := HI.out; exact ⟨(fun e => by first | rfl | exact h0 e | cases e), (fun e => by first | rfl | exact h1 e | cases e)⟩, HM.out⟩
          ·cases ho
           cases (getBX hall 2 rfl : m2 = true)
           simp at hun; subst hun
           clear hall hi
           obtain ⟨wj, wa, wb⟩ := HWR.out
           go_simp
           exact hK.out _ _ ⟨m0, m1, true, true, m4, m5, m6, m7, m8, m9, m10, m11, m12, m13, m14, m15, m16, m17, m18, m19, m20, m21, m22, m23, m24, h1, h2, rfl, rfl, by obtain ⟨h0, h1⟩ := HI.out; exact ⟨(fun e => by first | rfl | exact h0 e | cases e), (fun e => by first | rfl | exact h1 e | cases e)⟩, HM.out⟩
          ·cases ho
           cases (getBX hall 1 rfl : m1 = true)
           cases (getBX hall 3 rfl : m3 = true)
           simp at hun; subst hun
           clear hall hi
           obtain ⟨⟨n0, n1⟩, ⟨n2, n3⟩, n4, n5⟩ := HIN.out
           go_simp
           exact hK.out _ _ ⟨m0, true, m2, true, true, m5, m6, m7, m8, m9, m10, m11, m12, m13, m14, m15, m16, m17, m18, m19, m20, m21, m22, m23, m24, h1, h2, rfl, rfl, by obtain ⟨h0, h1⟩ := HI.out; exact ⟨(fun e => by first | rfl | exact h0 e | cases e), (fun e => by first | rfl | exact h1 e | cases e)⟩, HM.out⟩
          ·cases ho
           cases (getBX hall 4 rfl : m4 = true)
           simp at hun; subst hun
           clear hall hi
           obtain ⟨d0, d1, d2, ⟨d3, d4⟩, d5, d6⟩ := HFX.out W HM.out.below
           go_simp
           exact hK.out _ _ ⟨m0, m1, m2, m3, true, true, m6, m7, m8, m9, m10, m11, m12, m13, m14, m15, m16, m17, m18, m19, m20, m21, m22, m23, m24, h1, h2, rfl, rfl, by obtain ⟨h0, h1⟩ := HI.out; exact ⟨(fun e => by first | rfl | exact h0 e | cases e), (fun e => by first | rfl | exact h1 e | cases e)⟩, HM.out⟩
          ·cases ho
           simp at hun; subst hun
           clear hall hi
           go_simp
           exact hK.out _ _ ⟨m0, m1, m2, m3, m4, m5, true, m7, m8, m9, m10, m11, m12, m13, m14, m15, m16, m17, m18, m19, m20, m21, m22, m23, m24, h1, h2, rfl, rfl, by obtain ⟨h0, h1⟩ := HI.out; exact ⟨(fun e => by first | rfl | exact h0 e | cases e), (fun e => by first | rfl | exact h1 e | cases e)⟩, HM.out⟩
          ·cases ho
           cases (getBX hall 6 rfl : m6 = true)
           simp at hun; subst hun
           clear hall hi
           obtain ⟨d0, d1, d2, ⟨d3, d4⟩, d5, d6⟩ := HFX.out W HM.out.below
           go_simp
           exact hK.out _ _ ⟨m0, m1, m2, m3, m4, m5, true, true, m8, m9, m10, m11, m12, m13, m14, m15, m16, m17, m18, m19, m20, m21, m22, m23, m24, h1, h2, rfl, rfl, by obtain ⟨h0, h1⟩ := HI.out; exact ⟨(fun e => by first | rfl | exact h0 e | cases e), (fun e => by first | rfl | exact h1 e | cases e)⟩, HM.out⟩
          ·cases ho
           cases (getBX hall 5 rfl : m5 = true)
           cases (getBX hall 7 rfl : m7 = true)
           simp at hun; subst hun
           clear hall hi
           obtain ⟨wj, wa, wb⟩ := HWR.out
           go_simp
           exact hK.out _ _ ⟨m0, m1, m2, m3, m4, true, m6, true, true, m9, m10, m11, m12, m13, m14, m15, m16, m17, m18, m19, m20, m21, m22, m23, m24, h1, h2, rfl, rfl, by obtain ⟨h0, h1⟩ := HI.out; exact ⟨(fun e => by first | rfl | exact h0 e | cases e), (fun e => by first | rfl | exact h1 e | cases e)⟩, HM.out⟩
          ·cases ho
           cases (getBX hall 0 rfl : m0 = true)
           cases (getBX hall 8 rfl : m8 = true)
           simp at hun; subst hun
           clear hall hi
           obtain ⟨⟨n0, n1⟩, ⟨n2, n3⟩, n4, n5⟩ := HIN.out
           go_simp
           exact hK.out _ _ ⟨true, m1, m2, m3, m4, m5, m6, m7, true, true, m10, m11, m12, m13, m14, m15, m16, m17, m18, m19, m20, m21, m22, m23, m24, h1, h2, rfl, rfl, by obtain ⟨h0, h1⟩ := HI.out; exact ⟨(fun e => by first | rfl | exact h0 e | cases e), (fun e => by first | rfl | exact h1 e | cases e)⟩, HM.out⟩
          ·cases ho
           cases (getBX hall 9 rfl : m9 = true)
           simp at hun; subst hun
           clear hall hi
           obtain ⟨d0, d1, d2, ⟨d3, d4⟩, d5, d6⟩ := HFX.out W HM.out.below
           go_simp
           exact hK.out _ _ ⟨m0, m1, m2, m3, m4, m5, m6, m7, m8, true, true, m11, m12, m13, m14, m15, m16, m17, m18, m19, m20, m21, m22, m23, m24, h1, h2, rfl, rfl, by obtain ⟨h0, h1⟩ := HI.out; exact ⟨(fun e => by first | rfl | exact h0 e | cases e), (fun e => by first | rfl | exact h1 e | cases e)⟩, HM.out⟩
          ·cases ho
           simp at hun; subst hun
           clear hall hi
           go_simp
           exact hK.out _ _ ⟨m0, m1, m2, m3, m4, m5, m6, m7, m8, m9, m10, true, m12, m13, m14, m15, m16, m17, m18, m19, m20, m21, m22, m23, m24, h1, h2, rfl, rfl, by obtain ⟨h0, h1⟩ := HI.out; exact ⟨(fun e => by first | rfl | exact h0 e | cases e), (fun e => by first | rfl | exact h1 e | cases e)⟩, HM.out⟩
          ·cases ho
           simp at hun; subst hun
           clear hall hi
           go_simp
           exact hK.out _ _ ⟨m0, m1, m2, m3, m4, m5, m6, m7, m8, m9, m10, m11, true, m13, m14, m15, m16, m17, m18, m19, m20, m21, m22, m23, m24, h1, h2, rfl, rfl, by obtain ⟨h0, h1⟩ := HI.out; exact ⟨(fun e => by first | rfl | exact h0 e | cases e), (fun e => by first | rfl | exact h1 e | cases e)⟩, HM.out⟩
          ·cases ho
           simp at hun; subst hun
           clear hall hi
           go_simp
           exact hK.out _ _ ⟨m0, m1, m2, m3, m4, m5, m6, m7, m8, m9, m10, m11, m12, true, m14, m15, m16, m17, m18, m19, m20, m21, m22, m23, m24, h1, h2, rfl, rfl, by obtain ⟨h0, h1⟩ := HI.out; exact ⟨(fun e => by first | rfl | exact h0 e | cases e), (fun e => by first | rfl | exact h1 e | cases e)⟩, HM.out⟩
          ·cases ho
           cases (getBX hall 12 rfl : m12 = true)
           cases (getBX hall 13 rfl : m13 = true)
           simp at hun; subst hun
           clear hall hi
           go_simp
           exact hK.out _ _ ⟨m0, m1, m2, m3, m4, m5, m6, m7, m8, m9, m10, m11, true, true, true, m15, m16, m17, m18, m19, m20, m21, m22, m23, m24, h1, h2, rfl, rfl, by obtain ⟨h0, h1⟩ := HI.out; exact ⟨(fun e => by first | rfl | exact h0 e | cases e), (fun e => by first | rfl | exact h1 e | cases e)⟩, HM.out⟩
          ·cases ho
           cases (getBX hall 14 rfl : m14 = true)
           simp at hun; subst hun
           clear hall hi
           obtain ⟨d0, d1, d2, ⟨d3, d4⟩, d5, d6⟩ := HFX.out W HM.out.below
           go_simp
           exact hK.out _ _ ⟨m0, m1, m2, m3, m4, m5, m6, m7, m8, m9, m10, m11, m12, m13, true, true, m16, m17, m18, m19, m20, m21, m22, m23, m24, h1, h2, rfl, rfl, by obtain ⟨h0, h1⟩ := HI.out; exact ⟨(fun e => by first | rfl | exact h0 e | cases e), (fun e => by first | rfl | exact h1 e | cases e)⟩, HM.out⟩
          ·cases ho
           simp at hun; subst hun
           clear hall hi
           go_simp
           exact hK.out _ _ ⟨m0, m1, m2, m3, m4, m5, m6, m7, m8, m9, m10, m11, m12, m13, m14, m15, true, m17, m18, m19, m20, m21, m22, m23, m24, h1, h2, rfl, rfl, by obtain ⟨h0, h1⟩ := HI.out; exact ⟨(fun e => by first | rfl | exact h0 e | cases e), (fun e => by first | rfl | exact h1 e | cases e)⟩, HM.out⟩
          ·cases ho
           cases (getBX hall 16 rfl : m16 = true)
           simp at hun; subst hun
           clear hall hi
           obtain ⟨d0, d1, d2, ⟨d3, d4⟩, d5, d6⟩ := HFX.out W HM.out.below
           go_simp
           exact hK.out _ _ ⟨m0, m1, m2, m3, m4, m5, m6, m7, m8, m9, m10, m11, m12, m13, m14, m15, true, true, m18, m19, m20, m21, m22, m23, m24, h1, h2, rfl, rfl, by obtain ⟨h0, h1⟩ := HI.out; exact ⟨(fun e => by first | rfl | exact h0 e | cases e), (fun e => by first | rfl | exact h1 e | cases e)⟩, HM.out⟩
          ·cases ho
           cases (getBX hall 15 rfl : m15 = true)
           cases (getBX hall 17 rfl : m17 = true)
           simp at hun; subst hun
           clear hall hi
           obtain ⟨wj, wa, wb⟩ := HWR.out
           go_simp
           exact hK.out _ _ ⟨m0, m1, m2, m3, m4, m5, m6, m7, m8, m9, m10, m11, m12, m13, m14, true, m16, true, true, m19, m20, m21, m22, m23, m24, h1, h2, rfl, rfl, by obtain ⟨h0, h1⟩ := HI.out; exact ⟨(fun e => by first | rfl | exact h0 e | cases e), (fun e => by first | rfl | exact h1 e | cases e)⟩, HM.out⟩
          ·cases ho
           cases (getBX hall 11 rfl : m11 = true)
           cases (getBX hall 18 rfl : m18 = true)
           simp at hun; subst hun
           clear hall hi
           obtain ⟨⟨n0, n1⟩, ⟨n2, n3⟩, n4, n5⟩ := HIN.out
           go_simp
           exact hK.out _ _ ⟨m0, m1, m2, m3, m4, m5, m6, m7, m8, m9, m10, true, m12, m13, m14, m15, m16, m17, true, true, m20, m21, m22, m23, m24, h1, h2, rfl, rfl, by obtain ⟨h0, h1⟩ := HI.out; exact ⟨(fun e => by first | rfl | exact h0 e | cases e), (fun e => by first | rfl | exact h1 e | cases e)⟩, HM.out⟩
          ·cases ho
           cases (getBX hall 19 rfl : m19 = true)
           simp at hun; subst hun
           clear hall hi
           obtain ⟨d0, d1, d2, ⟨d3, d4⟩, d5, d6⟩ := HFX.out W HM.out.below
           go_simp
           exact hK.out _ _ ⟨m0, m1, m2, m3, m4, m5, m6, m7, m8, m9, m10, m11, m12, m13, m14, m15, m16, m17, m18, true, true, m21, m22, m23, m24, h1, h2, rfl, rfl, by obtain ⟨h0, h1⟩ := HI.out; exact ⟨(fun e => by first | rfl | exact h0 e | cases e), (fun e => by first | rfl | exact h1 e | cases e)⟩, HM.out⟩
          ·cases ho
           simp at hun; subst hun
           clear hall hi
           obtain rfl : m23 = false := by
            cases m23
            ·rfl
            ·exact absurd (HI.out.1 rfl) (by simp)
           have HNN := Lib.hid HM.out.boxA
           go_simp
           exact hK.out _ _ ⟨m0, m1, m2, m3, m4, m5, m6, m7, m8, m9, m10, m11, m12, m13, m14, m15, m16, m17, m18, m19, m20, true, m22, false, m24, W.heap.size, h2, rfl, rfl, by obtain ⟨h0, h1⟩ := HI.out; exact ⟨(fun e => by first | rfl | exact h0 e | cases e), (fun e => by first | rfl | exact h1 e | cases e)⟩, HNN.out⟩
          ·cases ho
           simp at hun; subst hun
           clear hall hi
           obtain rfl : m24 = false := by
            cases m24
            ·rfl
            ·exact absurd (HI.out.2 rfl) (by simp)
           have HNN := Lib.hid HM.out.boxB
           go_simp
           exact hK.out _ _ ⟨m0, m1, m2, m3, m4, m5, m6, m7, m8, m9, m10, m11, m12, m13, m14, m15, m16, m17, m18, m19, m20, m21, true, m23, false, h1, W.heap.size, rfl, rfl, by obtain ⟨h0, h1⟩ := HI.out; exact ⟨(fun e => by first | rfl | exact h0 e | cases e), (fun e => by first | rfl | exact h1 e | cases e)⟩, HNN.out⟩
          ·cases ho
           cases (getBX hall 10 rfl : m10 = true)
           cases (getBX hall 21 rfl : m21 = true)
           simp at hun; subst hun
           clear hall hi
           obtain ⟨q0, q1⟩ := two_of (HM.out.at_ 0 rfl)
           have f0 := (HM.out.at_ 0 rfl).frozen 0
           have f1 := (HM.out.at_ 0 rfl).frozen 1
           have HNN := Lib.hid (HM.out.put2 0 rfl (.int .i64 p0) (.int .i64 p1))
           go_simp
           exact hK.out _ _ ⟨m0, m1, m2, m3, m4, m5, m6, m7, m8, m9, true, m11, m12, m13, m14, m15, m16, m17, m18, m19, m20, true, m22, true, m24, h1, h2, rfl, rfl, by obtain ⟨h0, h1⟩ := HI.out; exact ⟨(fun e => by first | rfl | exact h0 e | cases e), (fun e => by first | rfl | exact h1 e | cases e)⟩, HNN.out⟩
          ·cases ho
           cases (getBX hall 20 rfl : m20 = true)
           cases (getBX hall 22 rfl : m22 = true)
           cases (getBX hall 23 rfl : m23 = true)
           obtain rfl : m21 = true := HI.out.1 rfl
           simp at hun; subst hun
           clear hall hi
           obtain ⟨q0, q1⟩ := two_of (HM.out.at_ 1 rfl)
           have f0 := (HM.out.at_ 1 rfl).frozen 0
           have f1 := (HM.out.at_ 1 rfl).frozen 1
           have HNN := Lib.hid (HM.out.put2 1 rfl (.int .i64 zz0) (.int .i64 zz1))
           go_simp
           exact hK.out _ _ ⟨m0, m1, m2, m3, m4, m5, m6, m7, m8, m9, m10, m11, m12, m13, m14, m15, m16, m17, m18, m19, true, true, true, true, true, h1, h2, rfl, rfl, by obtain ⟨h0, h1⟩ := HI.out; exact ⟨(fun e => by first | rfl | exact h0 e | cases e), (fun e => by first | rfl | exact h1 e | cases e)⟩, HNN.out⟩
         ·rintro l a W ⟨m0, m1, m2, m3, m4, m5, m6, m7, m8, m9, m10, m11, m12, m13, m14, m15, m16, m17, m18, m19, m20, m21, m22, m23, m24, h1, h2, rfl, rfl, _, hm⟩ hall
          cases (hall 0 (by decide) : m0 = true)
          cases (hall 1 (by decide) : m1 = true)
          cases (hall 2 (by decide) : m2 = true)
          cases (hall 3 (by decide) : m3 = true)
          cases (hall 4 (by decide) : m4 = true)
          cases (hall 5 (by decide) : m5 = true)
          cases (hall 6 (by decide) : m6 = true)
          cases (hall 7 (by decide) : m7 = true)
          cases (hall 8 (by decide) : m8 = true)
          cases (hall 9 (by decide) : m9 = true)
          cases (hall 10 (by decide) : m10 = true)
          cases (hall 11 (by decide) : m11 = true)
          cases (hall 12 (by decide) : m12 = true)
          cases (hall 13 (by decide) : m13 = true)
          cases (hall 14 (by decide) : m14 = true)
          cases (hall 15 (by decide) : m15 = true)
          cases (hall 16 (by decide) : m16 = true)
          cases (hall 17 (by decide) : m17 = true)
          cases (hall 18 (by decide) : m18 = true)
          cases (hall 19 (by decide) : m19 = true)
          cases (hall 20 (by decide) : m20 = true)
          cases (hall 21 (by decide) : m21 = true)
          cases (hall 22 (by decide) : m22 = true)
          cases (hall 23 (by decide) : m23 = true)
          cases (hall 24 (by decide) : m24 = true)
          clear hall
          have HK11 : Hid (Hp W6 [(h1, 53, [.int .i64 p0, .int .i64 p1]), (h2, 53, [.int .i64 zz0, .int .i64 zz1])] _) := Lib.hid hm
          clear hm HK10
          dsimp only [cwX, cond_true]
          obtain ⟨v0, v1⟩ := two_of (HK11.out.at_ 0 rfl)
          obtain ⟨v2, v3⟩ := two_of (HK11.out.at_ 1 rfl)
          obtain ⟨o0, o1, -⟩ := HFX.out _ HK11.out.below
          obtain ⟨wj, -⟩ := HWR.out
          obtain ⟨⟨n0, n1⟩, -⟩ := HIN.out
          obtain ⟨r1, r2⟩ := HCM.out
          have d1 : decide (zz0 < p0) = false := decide_eq_false r1
          have d1' : decide (p0 > zz0) = false := decide_eq_false r1
          clear r1
          by_cases e0 : p0 = zz0
          ·obtain ⟨r3, r4⟩ := r2 e0
           have d3 : decide (zz1 < p1) = false := decide_eq_false r3
           have d3' : decide (p1 > zz1) = false := decide_eq_false r3
           clear r3
           have t0 : (p0 == zz0) = true := by simpa using e0
           by_cases e1 : p1 = zz1
           ·have r5 := r4 e1
            have t1' : (p1 == zz1) = true := by simpa using e1
            clear r2 r4 e0 e1
            go_wp2_with fail
            go_quiet (fail)
            have HK12 := Lib.hid (HK11.out.drewN nq)
            clear v0 v1 v2 v3 o0 o1
            go_wp2_with fail
            go_roundw
            case rel => exact ⟨i + 1, by have := HLT.out; omega, by rw [HI3.out]; rfl, HK12.out.sub (List.nil_sublist _)⟩
            case measure => have := HLT.out; have := HI3.out; simp only [intOf]; omega
           ·have t1' : (p1 == zz1) = false := by simpa using e1
            clear r2 r4 e0 e1
            go_wp2_with fail
            go_quiet (fail)
            have HK12 := Lib.hid (HK11.out.drewN nq)
            clear v0 v1 v2 v3 o0 o1
            go_wp2_with fail
            go_roundw
            case rel => exact ⟨i + 1, by have := HLT.out; omega, by rw [HI3.out]; rfl, HK12.out.sub (List.nil_sublist _)⟩
            case measure => have := HLT.out; have := HI3.out; simp only [intOf]; omega
          ·have t0 : (p0 == zz0) = false := by simpa using e0
           clear r2 e0
           go_wp2_with fail
           go_quiet (fail)
           have HK12 := Lib.hid (HK11.out.drewN nq)
           clear v0 v1 v2 v3 o0 o1
           go_wp2_with fail
           go_roundw
           case rel => exact ⟨i + 1, by have := HLT.out; omega, by rw [HI3.out]; rfl, HK12.out.sub (List.nil_sublist _)⟩
           case measure => have := HLT.out; have := HI3.out; simp only [intOf]; omega
       ·obtain rfl : i = k := by omega
        have HZF := Lib.hid (HZ6.out.step HK9.out.below)
        clear hil hi0
        go_wp2_with fail
        exact bodyPost_ret (v := .bool true) (by simp [results, Tryz.results9, go_sem]) rfl ⟨rfl, HZF.out.below⟩
end Go.Proofs.YtendjepcjmfmfaaGreatDoor
