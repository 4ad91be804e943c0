/- The row of usual feet: Usual returns a new row of the twenty-two usual feet. Conditions: none. -/
import Derived.Test.YtiokjnfhopdleaaGreatDoorPitch3
namespace Go.Proofs.YtiokjnfhopdleaaGreatDoor
open Go.RowKit

/-- The usual feet. -/
def usual : List (Nat × Nat) := [(64, 1), (32, 1), (64, 3), (16, 1), (64, 5), (32, 3), (8, 1), (32, 5), (16, 3), (4, 1), (16, 5), (8, 3), (16, 7), (2, 1), (8, 5), (4, 3), (8, 7), (1, 1), (4, 5), (2, 3), (1, 2), (1, 4)]
/-- Fractions, cell for cell. -/
def frL : List (Nat × Nat) → List Value
  | [] => []
  | p :: L => .int .i64 p.1 :: .int .i64 p.2 :: frL L
theorem frL_append (L M : List (Nat × Nat)) : frL (L ++ M) = frL L ++ frL M := by
  induction L with
  | nil => rfl
  | cons p L ih => simp [frL, ih]
theorem frL_length (L : List (Nat × Nat)) : (frL L).length = 2 * L.length := by
  induction L with
  | nil => rfl
  | cons p L ih => simp [frL, ih]; omega
theorem frL_get (L : List (Nat × Nat)) (k : Nat) (h : k < L.length) : (frL L)[k * 2]? = some (.int .i64 L[k].1) ∧ (frL L)[k * 2 + 1]? = some (.int .i64 L[k].2) := by
  induction L generalizing k with
  | nil => simp at h
  | cons p L ih =>
    cases k with
    | zero => exact ⟨rfl, rfl⟩
    | succ k =>
      have := ih k (by simpa using h)
      rw [show (k + 1) * 2 = k * 2 + 1 + 1 by omega]
      simpa [frL] using this

theorem infoFr : (Tryz.prog.info? 23).map (fun i => (i.zero, i.size, i.bytes)) = some (some (.agg #[.int .i64 0, .int .i64 0]), 2, 16) := by kernel_rfl

/-- A new row of fractions, with spare cells. -/
def FRow (w : World) (g : Nat) (cs : List Value) : Prop := ∃ rest, Blk w g 23 (cs ++ rest)
theorem FRow.below {w w' : World} {g : Nat} {cs : List Value} (h : FRow w g cs) (hb : Below w.heap.size w w') : FRow w' g cs := by
  obtain ⟨r, h⟩ := h
  exact ⟨r, h.below hb h.lt⟩
theorem FRow.lt {w : World} {g : Nat} {cs : List Value} (h : FRow w g cs) : g < w.heap.size := by
  obtain ⟨r, h⟩ := h
  exact h.lt
theorem FRow.cell {w : World} {g : Nat} {L : List (Nat × Nat)} (h : FRow w g (frL L)) (k : Nat) (hk : k < L.length) :
    w.cell? ⟨g, k * 2, none⟩ = some (.int .i64 L[k].1) ∧ w.cell? ⟨g, k * 2 + 1, none⟩ = some (.int .i64 L[k].2) ∧ w.frozen? ⟨g, k * 2, none⟩ = false ∧ w.frozen? ⟨g, k * 2 + 1, none⟩ = false := by
  obtain ⟨r, h⟩ := h
  have hl := frL_length L
  obtain ⟨h1, h2⟩ := frL_get L k hk
  refine ⟨?_, ?_, h.frozen _, h.frozen _⟩
  · rw [h.cell, List.getElem?_append_left (by omega), h1]
  · rw [h.cell, List.getElem?_append_left (by omega), h2]
theorem FRow.of_own {w : World} {base : Nat} {g n c m : Nat} {xs : List Value} (h : w.ownsRow base 23 2 (.slice (some ⟨g, 0, none⟩) n c) m xs) : FRow w g xs ∧ base ≤ g := by
  rcases h.2 with ⟨hv, h0⟩ | ⟨g', cap, cur, hv, hb, hg, hnc, _, hs, ht⟩
  · cases hv
  · injection hv with h1 _ _
    injection h1 with h1
    injection h1 with h1 _ _
    subst h1
    refine ⟨⟨cur.toList.drop (m * 2), ?_⟩, hb⟩
    unfold Blk
    rw [← ht, List.take_append_drop]
    exact hg

set_option maxRecDepth 100000 in
set_option maxHeartbeats 2000000 in
theorem usual_any (w : World) :
    Calls Tryz.prog 20 #[] w fun e w' => ∃ g cap, e = .returned (.slice (some ⟨g, 0, none⟩) 22 cap) ∧ 22 ≤ cap ∧ w.heap.size ≤ g ∧ FRow w' g (frL usual) ∧ Below w.heap.size w w' := by
  obtain ⟨i0, hi, hz0, hz1, hz2⟩ := info_parts infoFr
  have HHI := Lib.hid hi
  have HZ0 := Lib.hid hz0
  have HZ1 := Lib.hid hz1
  have HZ2 := Lib.hid hz2
  clear hi hz0 hz1 hz2
  go_enter Tryz.func20, Tryz.ntmps20
  go_wp2
  generalize hW : w.alloc _ = W
  have hblk : Blk W w.heap.size 53 (frL usual) := by rw [← hW]; exact heap_alloc_new _ _
  have hb0 : Below w.heap.size w W := by rw [← hW]; exact bw_new (Below.refl _ _) _
  have hs0 : w.heap.size < W.heap.size := by rw [← hW]; simp
  clear hW
  go_loopw [1, 28] (fun v i wr => ∃ k : Nat, k ≤ 22 ∧ i = .int .i64 k ∧ wr.ownsRow (w.heap.size + 1) 23 2 v k (frL (usual.take k)) ∧ Blk wr w.heap.size 53 (frL usual) ∧ Below w.heap.size w wr ∧ w.heap.size < wr.heap.size)
    (fun _ i _ => 22 - (intOf i).toNat)
  case atStart => exact ⟨0, by omega, rfl, World.ownsRow_nil _ _ _ _, hblk, hb0, hs0⟩
  case round =>
    obtain ⟨k, hk, rfl, hown, hbl, hb, hs⟩ := hrel
    by_cases hlt : k < 22
    · have hlt' : k < usual.length := hlt
      obtain ⟨h1, h2⟩ := frL_get usual k hlt'
      have c0 : wr.cell? ⟨w.heap.size, k * 2, none⟩ = some (.int .i64 usual[k].1) := by rw [hbl.cell, h1]
      have c1 : wr.cell? ⟨w.heap.size, k * 2 + 1, none⟩ = some (.int .i64 usual[k].2) := by rw [hbl.cell, h2]
      have htk : usual.take (k + 1) = usual.take k ++ [usual[k]] := List.take_succ_eq_append_getElem hlt'
      obtain ⟨p, hp⟩ : ∃ p, p = usual[k] := ⟨_, rfl⟩
      rw [← hp] at c0 c1 htk
      obtain ⟨a, b⟩ := p
      dsimp only at c0 c1
      have hfr : frL (usual.take (k + 1)) = frL (usual.take k) ++ [.int .i64 a, .int .i64 b] := by rw [htk, frL_append]; rfl
      have HFR := Lib.hid hfr
      have HO := Lib.hid hown
      have HBL := Lib.hid hbl
      have HB := Lib.hid hb
      clear hfr hown hbl hb hp htk h1 h2 hlt'
      go_wp2_with (at_builtin; refine wpList_append_own _ rfl _ _ 41 rfl (w.heap.size + 1) 23 i0 (.agg #[.int .i64 0, .int .i64 0]) 2 16 Tryz.underlying41 HHI.out HZ0.out HZ1.out HZ2.out rfl (by decide) _ _ _ rfl ((HO.out.alloc _).alloc _) ⟨wr.heap.size + 1, 0, none⟩ 1 1 [.int .i64 a, .int .i64 b] rfl rfl (by have h := cell_two_new (wr.alloc (Obj.cells #[Value.int IntKind.i64 a, Value.int IntKind.i64 b] 53)) (.int .i64 a) (.int .i64 b) 23; rwa [World.size_alloc] at h) (by simp [Value.oneCell']) (by unfold maxLen; omega) (by omega) (by simp; omega) ?_)
      intro v' w3 hown' hgrow _
      have hb2 : Below (w.heap.size + 1) wr w3 := (((Below.refl (w.heap.size + 1) wr).alloc (by omega) _).alloc (by simp; omega) _).grown hgrow (by simp; omega) (fun g hg => (HO.out.lt g hg).1)
      have hb3 : Below w.heap.size w w3 := HB.out.trans (hb2.mono (by omega))
      have hbl3 := HBL.out.below hb2 (by omega)
      rw [← HFR.out] at hown'
      have hs3 : w.heap.size < w3.heap.size := by have := hb2.size; omega
      have HO3 := Lib.hid hown'
      have HB3 := Lib.hid hb3
      have HL3 := Lib.hid hbl3
      clear hown' hgrow hb3 hbl3 hb2 c0 c1
      go_wp2
      go_roundw
      case rel => exact ⟨k + 1, by omega, by go_num, HO3.out, HL3.out, HB3.out, hs3⟩
      case measure => simp [intOf]; omega
    · obtain ⟨hkn⟩ : Nonempty (k = 22) := ⟨by omega⟩
      subst hkn
      rw [show usual.take 22 = usual from rfl] at hown
      obtain ⟨g, cap, hv, hcap⟩ := own_form hown (by decide)
      subst hv
      obtain ⟨hrow, hg⟩ := FRow.of_own hown
      have HR := Lib.hid hrow
      have HB := Lib.hid hb
      clear hown hrow hb hbl
      go_wp2
      go_ret
      exact ⟨g, cap, rfl, hcap, by omega, HR.out, HB.out⟩
end Go.Proofs.YtiokjnfhopdleaaGreatDoor
