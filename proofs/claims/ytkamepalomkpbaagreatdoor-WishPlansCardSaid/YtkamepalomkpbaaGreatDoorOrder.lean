/- bombarderef01.toInt and order: the order of two magnitudes by their groups. Conditions: the groups are below the base, the last one is not 0 (lists of grps). -/
import Derived.Test.YtkamepalomkpbaaGreatDoorBoth
import Derived.Deep.RegionHeld3
namespace Go.Proofs.YtkamepalomkpbaaGreatDoor
open Go.RowKit

set_option maxRecDepth 100000 in
theorem toInt_any (b : Bool) (w : World) : Calls Tryz.prog 94 #[.bool b] w fun e w' => e = .returned (.int .i64 (if b then 1 else 0)) ∧ w = w' := by
  cases b
  · go_enter Tryz.func94, Tryz.ntmps94
    go_wp2
    go_ret
    exact ⟨rfl, rfl⟩
  · go_enter Tryz.func94, Tryz.ntmps94
    go_wp2
    go_ret
    exact ⟨rfl, rfl⟩

theorem gv_drop_lt {L : List Nat} (i : Nat) (hi : i < L.length) : gv L = gv (L.take i) + 10000 ^ i * gv (L.drop i) := by
  have e : L = L.take i ++ L.drop i := (List.take_append_drop i L).symm
  have := gv_append (L.take i) (L.drop i)
  rw [List.take_append_drop, List.length_take, Nat.min_eq_left (by omega)] at this
  exact this

/-- A longer list of groups is the greater one. -/
theorem order_len {p q : Nat} (h : (grps q).length < (grps p).length) : q < p := by
  rcases Nat.lt_or_ge q p with h1 | h1
  · exact h1
  · have := grps_len_mono h1; omega

/-- With the same groups from k on, and x above y at k - 1. -/
theorem order_at {G H : List Nat} (hH : Small4 H) (hl : G.length = H.length) (j : Nat) (hj : j < G.length) (he : G.drop (j + 1) = H.drop (j + 1)) (hlt : H[j]'(by omega) < G[j]) : gv H < gv G := by
  have e1 := gv_drop_lt (L := G) j hj
  have e2 := gv_drop_lt (L := H) j (by omega)
  rw [List.drop_eq_getElem_cons hj] at e1
  rw [List.drop_eq_getElem_cons (show j < H.length by omega)] at e2
  have b1 := gv_lt (H.take j) (hH.take j)
  rw [List.length_take, Nat.min_eq_left (by omega)] at b1
  rw [e1, e2, he]
  clear e1 e2
  obtain ⟨P, hP⟩ : ∃ P, P = 10000 ^ j := ⟨_, rfl⟩
  obtain ⟨t, ht⟩ : ∃ t, t = gv (H.drop (j + 1)) := ⟨_, rfl⟩
  rw [← hP] at b1 ⊢
  have eg : ∀ z, gv (z :: H.drop (j + 1)) = z + 10000 * t := fun z => by rw [ht]; rfl
  rw [eg, eg]
  have m : P * (H[j]'(by omega) + 10000 * t) + P ≤ P * (G[j] + 10000 * t) := by
    rw [← Nat.mul_succ]; exact Nat.mul_le_mul_left _ (by omega)
  omega

end Go.Proofs.YtkamepalomkpbaaGreatDoor
