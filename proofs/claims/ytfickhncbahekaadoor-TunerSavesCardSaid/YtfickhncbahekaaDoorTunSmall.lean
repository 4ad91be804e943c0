/- Package tuner: isNote, way and plus. Conditions: the numbers are notes (way); the ways are small (plus). -/
import Derived.Test.YtfickhncbahekaaDoorTunNum
import Derived.Test.YtfickhncbahekaaDoorProg
namespace Go.Proofs.YtfickhncbahekaaDoor
open Go.RowKit

/-- A pair of ints by value. -/
def wv (x : Int × Int) : Value := .agg #[.int .i64 x.1, .int .i64 x.2]
def isNB (n : Int) : Bool := decide (isN n)
theorem isNB_iff (n : Int) : isNB n = true ↔ isN n := by unfold isNB; simp
theorem isNote_any (n : Int) (w : World) :
    Calls Tryd.prog 51 #[.int .i64 n] w fun e w' => e = .returned (.bool (isNB n)) ∧ w = w' := by
  by_cases h0 : 0 ≤ n
  · by_cases h1 : n ≤ 127
    · have HE := Lib.hid (show isNB n = true from (isNB_iff n).2 ⟨h0, h1⟩)
      go_enter Tryd.func51, Tryd.ntmps51
      go_wp2
      go_ret
      exact ⟨by rw [HE.out]; rfl, rfl⟩
    · have HE := Lib.hid (show isNB n = false by rw [← Bool.not_eq_true, isNB_iff]; exact fun k => h1 k.2)
      go_enter Tryd.func51, Tryd.ntmps51
      go_wp2
      go_ret
      exact ⟨by rw [HE.out]; rfl, rfl⟩
  · have HE := Lib.hid (show isNB n = false by rw [← Bool.not_eq_true, isNB_iff]; exact fun k => h0 k.1)
    go_enter Tryd.func51, Tryd.ntmps51
    go_wp2
    go_ret
    exact ⟨by rw [HE.out]; rfl, rfl⟩

set_option maxRecDepth 100000 in
set_option maxHeartbeats 1000000 in
theorem way_any (a b : Int) (w : World) (ha : isN a) (hb : isN b) :
    Calls Tryd.prog 52 #[wv (a, b)] w fun e w' => e = .returned (.tuple #[wv ((wayOf (b - a)).getD (0, 0)), .bool (wayOf (b - a)).isSome]) ∧ Below w.heap.size w w' := by
  unfold isN at ha hb
  have h0 := ha.1
  have h1 := ha.2
  have h2 := hb.1
  have h3 := hb.2
  clear ha hb
  rcases wayOf_cases (b - a) with ⟨e, k⟩ | ⟨e, k⟩ | ⟨e, k⟩ | ⟨e, k⟩ | ⟨e, k⟩ | ⟨e, k⟩ | ⟨e1, e2, e3, e4, e5, e6, k⟩
  case inl | inr.inl | inr.inr.inl | inr.inr.inr.inl | inr.inr.inr.inr.inl | inr.inr.inr.inr.inr.inl =>
    obtain rfl : b = a + _ := by have := Int.sub_eq_iff_eq_add'.1 e; exact this
    rw [k]
    unfold wv
    have hsub := e
    clear e k
    go_enter Tryd.func52, Tryd.ntmps52
    go_wp2
    refine bodyPost_ret (v := _) (by simp [results, Tryd.results52, go_sem]) rfl ⟨rfl, ?_⟩
    exact bw_new (bw_new (Below.refl _ _) _) _
  case inr.inr.inr.inr.inr.inr =>
    obtain ⟨d, hd⟩ : ∃ d, d = b - a := ⟨_, rfl⟩
    have hsub : wrap64 (b - a) = d := by rw [hd]; exact IntWalk.wrap64_in _ (by omega)
    rw [← hd] at e1 e2 e3 e4 e5 e6 k ⊢
    rw [k]
    clear hd k
    unfold wv
    have q1 : (d == 7) = false := by simpa using e1
    have q2 : (d == -7) = false := by simpa using e2
    have q3 : (d == 5) = false := by simpa using e3
    have q4 : (d == -5) = false := by simpa using e4
    have q5 : (d == 12) = false := by simpa using e5
    have q6 : (d == -12) = false := by simpa using e6
    clear e1 e2 e3 e4 e5 e6 h0 h1 h2 h3
    go_enter Tryd.func52, Tryd.ntmps52
    go_wp2
    refine bodyPost_ret (v := _) (by simp [results, Tryd.results52, go_sem]) rfl ⟨rfl, ?_⟩
    exact bw_new (bw_new (Below.refl _ _) _) _

/-- A small int. -/
def Sm (x : Int) : Prop := -1000000 ≤ x ∧ x ≤ 1000000
set_option maxRecDepth 100000 in
set_option maxHeartbeats 1000000 in
theorem plus_any (a b : Int × Int) (t : Int) (w : World) (h1 : Sm a.1) (h2 : Sm a.2) (h3 : Sm b.1) (h4 : Sm b.2) (ht : t = 1 ∨ t = -1) :
    Calls Tryd.prog 53 #[wv a, wv b, .int .i64 t] w fun e w' => e = .returned (wv (a.1 + t * b.1, a.2 + t * b.2)) ∧ Below w.heap.size w w' := by
  obtain ⟨a0, a1⟩ := a
  obtain ⟨b0, b1⟩ := b
  unfold Sm at h1 h2 h3 h4
  dsimp only at h1 h2 h3 h4 ⊢
  unfold wv
  dsimp only
  obtain ⟨x, hx⟩ : ∃ x, x = t * b0 := ⟨_, rfl⟩
  obtain ⟨y, hy⟩ : ∃ y, y = t * b1 := ⟨_, rfl⟩
  have bx : -1000000 ≤ x ∧ x ≤ 1000000 := by rw [hx]; rcases ht with rfl | rfl <;> omega
  have by' : -1000000 ≤ y ∧ y ≤ 1000000 := by rw [hy]; rcases ht with rfl | rfl <;> omega
  have wx : wrap64 (t * b0) = x := by rw [← hx]; exact IntWalk.wrap64_in _ (by omega)
  have wy : wrap64 (t * b1) = y := by rw [← hy]; exact IntWalk.wrap64_in _ (by omega)
  rw [← hx, ← hy]
  have g1 := h1.1
  have g2 := h1.2
  have g3 := h2.1
  have g4 := h2.2
  have g5 := bx.1
  have g6 := bx.2
  have g7 := by'.1
  have g8 := by'.2
  clear hx hy h1 h2 h3 h4 bx by' ht
  go_enter Tryd.func53, Tryd.ntmps53
  go_wp2
  refine bodyPost_ret (v := .agg #[.int .i64 (a0 + x), .int .i64 (a1 + y)]) (by simp [results, Tryd.results53, go_sem]) rfl ⟨rfl, ?_⟩
  exact bw_new (bw_new (bw_new (Below.refl _ _) _) _) _

end Go.Proofs.YtfickhncbahekaaDoor
