/- The law's note and way. Conditions: the numbers are notes (way). -/
import Derived.Test.YtfickhncbahekaaDoorTunSmall
namespace Go.Proofs.YtfickhncbahekaaDoor
open Go.RowKit

theorem lnote_any (n : Int) (w : World) :
    Calls Tryd.prog 39 #[.int .i64 n] w fun e w' => e = .returned (.bool (isNB n)) ∧ w = w' := by
  by_cases h0 : 0 ≤ n
  · by_cases h1 : n ≤ 127
    · have HE := Lib.hid (show isNB n = true from (isNB_iff n).2 ⟨h0, h1⟩)
      go_enter Tryd.func39, Tryd.ntmps39
      go_wp2
      go_ret
      exact ⟨by rw [HE.out]; rfl, rfl⟩
    · have HE := Lib.hid (show isNB n = false by rw [← Bool.not_eq_true, isNB_iff]; exact fun k => h1 k.2)
      go_enter Tryd.func39, Tryd.ntmps39
      go_wp2
      go_ret
      exact ⟨by rw [HE.out]; rfl, rfl⟩
  · have HE := Lib.hid (show isNB n = false by rw [← Bool.not_eq_true, isNB_iff]; exact fun k => h0 k.1)
    go_enter Tryd.func39, Tryd.ntmps39
    go_wp2
    go_ret
    exact ⟨by rw [HE.out]; rfl, rfl⟩

set_option maxRecDepth 100000 in
set_option maxHeartbeats 1000000 in
theorem lway_any (a b : Int) (w : World) (ha : isN a) (hb : isN b) :
    Calls Tryd.prog 29 #[wv (a, b)] w fun e w' => e = .returned (.tuple #[wv ((wayOf (b - a)).getD (0, 0)), .bool (wayOf (b - a)).isSome]) ∧ Below w.heap.size w w' := by
  unfold isN at ha hb
  have h0 := ha.1
  have h1 := ha.2
  have h2 := hb.1
  have h3 := hb.2
  clear ha hb
  rcases wayOf_cases (b - a) with ⟨e, k⟩ | ⟨e, k⟩ | ⟨e, k⟩ | ⟨e, k⟩ | ⟨e, k⟩ | ⟨e, k⟩ | ⟨e1, e2, e3, e4, e5, e6, k⟩
  case inl | inr.inl | inr.inr.inl | inr.inr.inr.inl | inr.inr.inr.inr.inl | inr.inr.inr.inr.inr.inl =>
    obtain rfl : b = a + _ := by have := Int.sub_eq_iff_eq_add'.1 e; exact this
    rw [k]
    unfold wv
    have hsub := e
    clear e k
    go_enter Tryd.func29, Tryd.ntmps29
    go_wp2
    refine bodyPost_ret (v := _) (by simp [results, Tryd.results29, go_sem]) rfl ⟨rfl, ?_⟩
    exact bw_new (bw_new (Below.refl _ _) _) _
  case inr.inr.inr.inr.inr.inr =>
    obtain ⟨d, hd⟩ : ∃ d, d = b - a := ⟨_, rfl⟩
    have hsub : wrap64 (b - a) = d := by rw [hd]; exact IntWalk.wrap64_in _ (by omega)
    rw [← hd] at e1 e2 e3 e4 e5 e6 k ⊢
    rw [k]
    clear hd k
    unfold wv
    have q1 : (d == 7) = false := by simpa using e1
    have q2 : (d == -7) = false := by simpa using e2
    have q3 : (d == 5) = false := by simpa using e3
    have q4 : (d == -5) = false := by simpa using e4
    have q5 : (d == 12) = false := by simpa using e5
    have q6 : (d == -12) = false := by simpa using e6
    clear e1 e2 e3 e4 e5 e6 h0 h1 h2 h3
    go_enter Tryd.func29, Tryd.ntmps29
    go_wp2
    refine bodyPost_ret (v := _) (by simp [results, Tryd.results29, go_sem]) rfl ⟨rfl, ?_⟩
    exact bw_new (bw_new (Below.refl _ _) _) _

end Go.Proofs.YtfickhncbahekaaDoor
