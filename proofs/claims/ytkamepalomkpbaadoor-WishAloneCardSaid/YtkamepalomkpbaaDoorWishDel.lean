/- slices.Delete and slices.Clone of a row of the call's own. Conditions: those that each lemma names. -/
import Derived.Test.YtkamepalomkpbaaDoorWishRight
namespace Go.Proofs.YtkamepalomkpbaaDoor
open Go.RowKit

/-- slices.Delete of one number, out of a row of the call's own. -/
theorem below_cells (b : Nat) {B : Nat} (hb : B ≤ b) : ∀ (vs : List Value) (o : Nat) {a w : World}, Below B a w → Below B a (w.setCells b o vs)
  | [], _, _, _, h => h
  | v :: vs, o, _, _, h => below_cells b hb vs (o + 1) (bw_set h hb v)
theorem delete_ct (B : Nat) (A : Option Addr) (cap gn i : Nat) (g : List Int) (W : World) (hown : W.ownsRow B 3 1 (.slice A gn cap) gn (g.map i64v)) (hi : i < gn) :
    Calls Tryd.prog 8 #[.slice A gn cap, .int .i64 (i : Int), .int .i64 ((i : Int) + 1)] W fun e w' => e = .returned (.slice A (gn - 1) cap) ∧ Rd i64v w' w'.heap.size A (g.take i ++ g.drop (i + 1)) ∧ Below B W w' := by
  obtain ⟨b, c2, hv, hc2⟩ := own_form hown (by omega)
  injection hv with e1 e2 e3
  subst e1; subst e3
  have hg : g.length = gn := by have := hown.1; rw [List.length_map] at this; omega
  have hlt := hown.lt b rfl
  have hm : cap ≤ maxLen := by
    rcases hown.2 with ⟨hv, _⟩ | ⟨g', c', cur, hv, _, _, _, hm, _⟩
    · cases hv
    · injection hv with _ _ h3; subst h3; exact hm
  unfold maxLen at hm
  have hcell : ∀ j, j < g.length → W.cell? ⟨b, 0 + j, none⟩ = some (.int .i64 (g.getD j 0)) := fun j hj => by
    rw [Nat.zero_add, hown.cellAt j (by omega), List.getElem?_map, List.getElem?_eq_getElem hj]
    simp [hj]
  have htk : g.take gn = g := List.take_of_length_le (by omega)
  have h := Tryd.slices_Delete_int_cells b 0 gn cap i (i + 1) g W (by omega) hc2 (by omega) (by omega) (by omega) hcell (fun j _ => hown.frozenAt _)
  rw [show ((i + 1 : Nat) : Int) = (i : Int) + 1 by omega] at h
  refine h.mono fun e w' ⟨he, q, hw⟩ => ⟨by rw [he]; congr 2; omega, ?_, ?_⟩
  · have hl : (((g.take gn).take i ++ (g.take gn).drop (i + 1) ++ List.replicate (i + 1 - i) 0).map (Value.int .i64)).length = gn := by
      rw [htk, List.length_map, List.length_append, List.length_append, List.length_take, List.length_drop, List.length_replicate]
      omega
    have hb' : b < w'.heap.size := by
      rw [hw]
      exact Nat.lt_of_lt_of_le hlt.2 (below_cells b (Nat.zero_le _) _ 0 (below_drewN 0 W q)).size
    refine fun _ => ⟨b, 0, rfl, hb', fun j hj => ?_⟩
    rw [hw, World.cell?_setCells_in b _ 0 (W.drewN q) (fun j hj => by
      have : (W.drewN q).cell? ⟨b, 0 + j, none⟩ = W.cell? ⟨b, 0 + j, none⟩ := (below_drewN (b + 1) W q).cell (p := ⟨b, 0 + j, none⟩) (by show b < b + 1; omega)
      rw [this, hcell j (by omega)]; rfl) j (by rw [hl]; rw [List.length_append, List.length_take, List.length_drop] at hj; omega)]
    rw [List.getElem_map]
    congr 2
    rw [List.getElem_append_left (by rw [htk]; exact hj)]
    simp only [htk]
  · rw [hw]; exact below_cells b hlt.1 _ 0 (below_drewN B W q)
theorem clone_ct (B : Nat) (A : Option Addr) (cap gn : Nat) (g : List Int) (W : World) (hown : W.ownsRow B 3 1 (.slice A gn cap) gn (g.map i64v)) (h0 : 0 < gn) (h1 : gn ≤ 1000) :
    Calls Tryd.prog 9 #[.slice A gn cap] W fun e w' => ∃ A2 c2, e = .returned (.slice A2 gn c2) ∧ w'.ownsRow W.heap.size 3 1 (.slice A2 gn c2) gn (g.map i64v) ∧ Below W.heap.size W w' := by
  obtain ⟨b, c2, hv, hc2⟩ := own_form hown h0
  injection hv with e1 e2 e3
  subst e1; subst e3
  have hg : g.length = gn := by have := hown.1; rw [List.length_map] at this; omega
  have hcell : ∀ j, j < g.length → W.cell? ⟨b, 0 + j, none⟩ = some (.int .i64 (g.getD j 0)) := fun j hj => by
    rw [Nat.zero_add, hown.cellAt j (by omega), List.getElem?_map, List.getElem?_eq_getElem hj]
    simp [hj]
  refine (Tryd.slices_Clone_int b 0 gn cap g W (by omega) (by omega) hcell).mono fun e w' ⟨v', he, ho, _, hb⟩ => ?_
  rw [List.take_of_length_le (by omega)] at ho
  obtain ⟨b2, c3, hv, hc3⟩ := own_form ho h0
  subst hv
  exact ⟨_, c3, he, ho, hb⟩
end Go.Proofs.YtkamepalomkpbaaDoor
