/- The first error of wrong feet, as Exact, IsMutation, Compare, Sounding and Harmonic say it; Harmonic, Exact and Compare of right feet. Conditions: ints of 64 bits. -/
import Derived.Test.YtiokjnfhopdleaaDoorClass
import Derived.Test.YtiokjnfhopdleaaDoorMake
import Derived.Test.YtiokjnfhopdleaaDoorRef05
namespace Go.Proofs.YtiokjnfhopdleaaDoor
open Go.RowKit

/-- A box of two ints, open for writing. -/
def Two (w : World) (b : Nat) (x y : Int) : Prop :=
  w.cell? ⟨b, 0, none⟩ = some (.int .i64 x) ∧ w.cell? ⟨b, 1, none⟩ = some (.int .i64 y) ∧ w.frozen? ⟨b, 0, none⟩ = false ∧ w.frozen? ⟨b, 1, none⟩ = false ∧ b < w.heap.size
theorem Two.new (w : World) (x y : Int) (t : TypeId) : Two (w.alloc (.cells #[.int .i64 x, .int .i64 y] t)) w.heap.size x y :=
  ⟨by rw [World.cell?_alloc_new]; rfl, by rw [World.cell?_alloc_new]; rfl, World.frozen?_alloc_new _ _ _ _, World.frozen?_alloc_new _ _ _ _, by simp⟩
theorem Two.below {w w' : World} {b : Nat} {x y : Int} (h : Two w b x y) (hb : Below w.heap.size w w') : Two w' b x y := by
  obtain ⟨h1, h2, h3, h4, h5⟩ := h
  obtain ⟨hc, hf⟩ := bcell hb
  exact ⟨by rw [hc _ _ h5]; exact h1, by rw [hc _ _ h5]; exact h2, by rw [hf _ _ h5]; exact h3, by rw [hf _ _ h5]; exact h4, Nat.lt_of_lt_of_le h5 hb.size⟩
theorem Two.alloc {w : World} {b : Nat} {x y : Int} (h : Two w b x y) (o : Obj) : Two (w.alloc o) b x y := h.below (bw_new (Below.refl _ _) o)

set_option maxRecDepth 100000 in
theorem exact_err (a b c d : Int) (w : World) (ha : I64 a) (hb : I64 b) (hc : I64 c) (hd : I64 d) (he : pErr2 a b c d ≠ 0) :
    Calls Tryd.prog 19 #[.agg #[.int .i64 a, .int .i64 b], .agg #[.int .i64 c, .int .i64 d]] w fun e w' => e = .returned (.tuple #[.bool false, .int .i64 (pErr2 a b c d)]) ∧ Below w.heap.size w w' := by
  have h1 := fun W => pboth_any a b c d W ha hb hc hd
  obtain ⟨x, hx⟩ : ∃ x, x = pErr2 a b c d := ⟨_, rfl⟩
  rw [← hx] at h1 he ⊢
  have hz : (x == 0) = false := by simpa using he
  have hz2 : (x != 0) = true := by simpa using he
  have H1 := Lib.hid h1
  clear h1 hx ha hb hc hd he
  go_enter Tryd.func19, Tryd.ntmps19
  go_wp2_with fail
  refine (H1.out _).mono ?_
  rintro e w1 ⟨rfl, hb⟩
  go_wp2
  go_ret2
  exact ⟨rfl, (bw_new (bw_new (Below.refl _ w) _) _).trans (hb.mono (by simp; omega))⟩

set_option maxRecDepth 100000 in
theorem pcompare_err (a b c d : Int) (w : World) (ha : I64 a) (hb : I64 b) (hc : I64 c) (hd : I64 d) (he : pErr2 a b c d ≠ 0) :
    Calls Tryd.prog 16 #[.agg #[.int .i64 a, .int .i64 b], .agg #[.int .i64 c, .int .i64 d]] w fun e w' => e = .returned (.tuple #[.int .i64 0, .int .i64 (pErr2 a b c d)]) ∧ Below w.heap.size w w' := by
  have h1 := fun W => pboth_any a b c d W ha hb hc hd
  obtain ⟨x, hx⟩ : ∃ x, x = pErr2 a b c d := ⟨_, rfl⟩
  rw [← hx] at h1 he ⊢
  have hz : (x == 0) = false := by simpa using he
  have hz2 : (x != 0) = true := by simpa using he
  have H1 := Lib.hid h1
  clear h1 hx ha hb hc hd he
  go_enter Tryd.func16, Tryd.ntmps16
  go_wp2_with fail
  refine (H1.out _).mono ?_
  rintro e w1 ⟨rfl, hb⟩
  go_wp2
  go_ret2
  exact ⟨rfl, (bw_new (bw_new (Below.refl _ w) _) _).trans (hb.mono (by simp; omega))⟩

set_option maxRecDepth 100000 in
theorem isMut_err (a b : Int) (w : World) (ha : I64 a) (hb : I64 b) (he : pErr a b ≠ 0) :
    Calls Tryd.prog 10 #[.agg #[.int .i64 a, .int .i64 b]] w fun e w' => e = .returned (.tuple #[.bool false, .int .i64 (pErr a b)]) ∧ Below w.heap.size w w' := by
  have hc := fun W => class_err a b W ha hb he
  obtain ⟨x, hx⟩ : ∃ x, x = pErr a b := ⟨_, rfl⟩
  rw [← hx] at hc he ⊢
  have hz : (x == 0) = false := by simpa using he
  have hz2 : (x != 0) = true := by simpa using he
  have HC := Lib.hid hc
  clear hc hx he ha hb
  go_enter Tryd.func10, Tryd.ntmps10
  go_wp2_with fail
  refine (HC.out _).mono ?_
  rintro e w1 ⟨rfl, hb⟩
  go_wp2
  go_ret2
  exact ⟨rfl, (bw_new (Below.refl _ w) _).trans (hb.mono (by simp))⟩

set_option maxRecDepth 100000 in
theorem sounding_err (a b k : Int) (w : World) (ha : I64 a) (hb : I64 b) (he : pErr a b ≠ 0) :
    Calls Tryd.prog 20 #[.agg #[.int .i64 a, .int .i64 b], .int .i64 k] w fun e w' => e = .returned (.tuple #[.int .i64 0, .bool false, .int .i64 (pErr a b)]) ∧ Below w.heap.size w w' := by
  have hc := fun W => pcheck_any a b W ha hb
  obtain ⟨x, hx⟩ : ∃ x, x = pErr a b := ⟨_, rfl⟩
  rw [← hx] at hc he ⊢
  have hz : (x == 0) = false := by simpa using he
  have hz2 : (x != 0) = true := by simpa using he
  have HC := Lib.hid hc
  clear hc hx he ha hb
  go_enter Tryd.func20, Tryd.ntmps20
  go_wp2_with fail
  refine (HC.out _).mono ?_
  rintro e w1 ⟨rfl, hb⟩
  go_wp2
  refine bodyPost_ret (v := .tuple #[.int .i64 0, .bool false, .int .i64 x]) (by simp [results, Tryd.results20, go_sem]) rfl ⟨rfl, (bw_new (Below.refl _ w) _).trans (hb.mono (by simp))⟩

set_option maxRecDepth 100000 in
theorem harm_err (a b : Int) (w : World) (ha : I64 a) (hb : I64 b) (he : pErr a b ≠ 0) :
    Calls Tryd.prog 18 #[.agg #[.int .i64 a, .int .i64 b]] w fun e w' => e = .returned (fRet (0, 0, pErr a b)) ∧ Below w.heap.size w w' := by
  have hc := fun W => pcheck_any a b W ha hb
  obtain ⟨x, hx⟩ : ∃ x, x = pErr a b := ⟨_, rfl⟩
  rw [← hx] at hc he ⊢
  have hz : (x == 0) = false := by simpa using he
  have hz2 : (x != 0) = true := by simpa using he
  have HC := Lib.hid hc
  clear hc hx he ha hb
  unfold fRet
  go_enter Tryd.func18, Tryd.ntmps18
  go_wp2_with fail
  refine (HC.out _).mono ?_
  rintro e w1 ⟨rfl, hb⟩
  obtain ⟨c0, c1, f0, f1, hlt⟩ := (Two.new (w.alloc (.cells #[.int .i64 a, .int .i64 b] 23)) 0 0 23).below hb
  simp only [World.size_alloc] at c0 c1 f0 f1
  have hb := (bw_new (bw_new (Below.refl _ w) (.cells #[.int .i64 a, .int .i64 b] 23)) (.cells #[.int .i64 0, .int .i64 0] 23)).trans (hb.mono (by simp; omega))
  go_wp2
  refine bodyPost_ret (v := .tuple #[.agg #[.int .i64 0, .int .i64 0], .int .i64 x]) (by simp [results, Tryd.results18, go_sem, c0, c1]) rfl ⟨rfl, ?_⟩
  (repeat (first | exact hb | refine bw_new ?_ _ | refine bw_set ?_ (by first | omega | simp) _ | refine bw_drewN ?_ _))

/-- The harmonic of right feet is the quotient in lowest terms. -/
theorem harm_num (n d : Nat) (h : PR n d) : fMake (8 * (d : Int)) n = (lowN (8 * (d : Int)) n, lowD (8 * (d : Int)) n, 0) := by
  obtain ⟨⟨hd0, _, _, _, _⟩, hn0, hn1, hd1⟩ := h
  have e1 : (8 * (d : Int)).natAbs = 8 * d := by omega
  have e2 : (n : Int).natAbs = n := by omega
  obtain ⟨g, hg⟩ : ∃ g, g = Nat.gcd (8 * d) n := ⟨_, rfl⟩
  have q1 : 8 * d / g ≤ 8 * d := Nat.div_le_self _ _
  have q2 : n / g ≤ n := Nat.div_le_self _ _
  unfold fMake lowN lowD
  rw [if_neg (by omega), e1, e2, ← hg, if_neg (by omega), if_pos (by rw [decide_eq_false (by omega), decide_eq_false (by omega)])]
  congr 1

set_option maxRecDepth 100000 in
theorem harm_ok (n d : Nat) (w : World) (h : PR n d) :
    Calls Tryd.prog 18 #[.agg #[.int .i64 n, .int .i64 d]] w fun e w' => e = .returned (.tuple #[.agg #[.int .i64 (lowN (8 * (d : Int)) n), .int .i64 (lowD (8 * (d : Int)) n)], .int .i64 0]) ∧ Below w.heap.size w w' := by
  have hc := fun W => pcheck_any n d W h.i64.1 h.i64.2
  rw [pErr_ok h] at hc
  have hn := harm_num n d h
  have hn1 : n ≤ 16384 := by have := h.2.2.1; have := h.2.2.2; omega
  have hd1 : d ≤ 128 := by have := h.2.2.2; omega
  have hm := fun W => make_any (8 * (d : Int)) n W ⟨by omega, by omega⟩ h.i64.1
  rw [hn] at hm
  unfold fRet at hm
  dsimp only at hm
  obtain ⟨x, hx⟩ : ∃ x, x = lowN (8 * (d : Int)) n := ⟨_, rfl⟩
  obtain ⟨y, hy⟩ : ∃ y, y = lowD (8 * (d : Int)) n := ⟨_, rfl⟩
  rw [← hx, ← hy] at hm ⊢
  have HC := Lib.hid hc
  have HM := Lib.hid hm
  clear hc hm hn hx hy h
  go_enter Tryd.func18, Tryd.ntmps18
  go_wp2_with fail
  refine (HC.out _).mono ?_
  rintro e w1 ⟨rfl, hb⟩
  have hB1 := ((Two.new w n d 23).alloc (.cells #[.int .i64 0, .int .i64 0] 23)).below hb
  have hB2 := (Two.new (w.alloc (.cells #[.int .i64 n, .int .i64 d] 23)) 0 0 23).below hb
  simp only [World.size_alloc] at hB2
  obtain ⟨a0, a1, _, _, _⟩ := hB1
  have hb := (bw_new (bw_new (Below.refl _ w) (.cells #[.int .i64 n, .int .i64 d] 23)) (.cells #[.int .i64 0, .int .i64 0] 23)).trans (hb.mono (by simp; omega))
  go_wp2_with fail
  refine (HM.out _).mono ?_
  rintro e w2 ⟨rfl, hb2⟩
  have hb := hb.trans (hb2.mono hb.size)
  obtain ⟨c0, c1, f0, f1, hlt⟩ := hB2.below hb2
  clear hb2
  go_wp2
  refine bodyPost_ret (v := .tuple #[.agg #[.int .i64 x, .int .i64 y], .int .i64 0]) (by simp [results, Tryd.results18, go_sem, c0, c1]) rfl ⟨rfl, ?_⟩
  (repeat (first | exact hb | refine bw_new ?_ _ | refine bw_set ?_ (by first | omega | simp) _ | refine bw_drewN ?_ _))

end Go.Proofs.YtiokjnfhopdleaaDoor
