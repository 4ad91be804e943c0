/- Part 20 of 33 of the proof of the law: contracts of the functions that it reaches, and plain facts. Conditions: those that each contract names. -/
import Derived.Test.YtaegjpancbmppaaGreatDoorTabB19
import Derived.Test.YtaegjpancbmppaaGreatDoorTabB03
set_option linter.unusedVariables false
set_option linter.unusedSimpArgs false
namespace Go.Proofs.YtaegjpancbmppaaGreatDoor
open Go.RowKit
set_option maxHeartbeats 1000000 in
set_option maxRecDepth 100000 in
theorem writeByte_any (B b : Nat) (bs : List Value) (c : Int) (w : World) (h : Lib.IsBuilder 132 5 B b bs w) (hlen : bs.length + 1 ≤ 140737488355328) (hBw : B ≤ w.heap.size) :
  Calls Tryz.prog 99 #[.pointer (some ⟨b, 0, none⟩), .int .u8 c] w fun e w' => e = .returned .nilIface ∧
   Lib.IsBuilder 132 5 B b (bs ++ [.int .u8 c]) w' ∧ Below B w w' ∧ KeepsOthers w w' ∧ KeepT b w w' := by
 obtain ⟨i0, hi, hz0, hz1, hz2⟩ := info_parts Tryz.infoByte
 go_enter Tryz.func99, Tryz.ntmps99
 go_wp2_with (go_at_call 116; refine (copyCheck_any B b bs _ h).mono ?_)
 rintro e w0 ⟨rfl, h1, hb1, hk1, hk3⟩
 have hbl : Below w0.heap.size w0 (w0.alloc (.cells #[.int .u8 c] 5)) := bw_new (Below.refl _ _) _
 have HK1 := Lib.hid (hk1.trans (others_of_below hbl))
 have HK3 := Lib.hid (hk3.trans (KeepT.of_below hbl))
 clear hk1 hk3
 obtain ⟨hB, v, hbk, hown, hne⟩ := h1
 have c0 : w0.cell? ⟨b, 0, none⟩ = some (.pointer (some ⟨b, 0, none⟩)) := by rw [Lib.cell_of_heap hbk]; rfl
 have c1 : w0.cell? ⟨b, 1, none⟩ = some v := by rw [Lib.cell_of_heap hbk]; rfl
 have hlt0 : b < w0.heap.size := by
  rcases Nat.lt_or_ge b w0.heap.size with h' | h'
  ·exact h'
  ·simp [Array.getElem?_eq_none h'] at hbk
 have HBK := Lib.hid ((hbl.block b hlt0).trans hbk)
 have HOWN := Lib.hid hown
 clear hbk hown
 go_wp2_with (at_builtin; refine wpList_append_own _ rfl _ _ 62 rfl B 5 i0 (.int .u8 0) 1 1 Tryz.underlying62 hi hz0 hz1 hz2 rfl (by decide) _ _ _ rfl (HOWN.out.alloc _) ⟨w0.heap.size, 0, none⟩ 1 1 [.int .u8 c] rfl rfl (cell_one_new _ _ _) (by simp [Value.oneCell']) (by unfold maxLen; omega) (by omega) (by have := hb1.size; simp; omega) ?_)
 obtain ⟨w1, hw1⟩ : ∃ w1, w1 = w0.alloc (.cells #[.int .u8 c] 5) := ⟨_, rfl⟩
 rw [← hw1]
 have hown : w1.ownsRow B 5 1 v bs.length bs := by rw [hw1]; exact HOWN.out.alloc _
 have hbk : w1.heap[b]? = some (.cells #[.pointer (some ⟨b, 0, none⟩), v] 132 (0, 0)) := by rw [hw1]; exact HBK.out
 have hb1' : Below B w w1 := by rw [hw1]; exact hb1.trans (hbl.mono (by have := hb1.size; omega))
 rw [← hw1] at HK1 HK3
 clear hw1 hbl c0 c1 hlt0 hb1
 intro v' w2 hown' hgrow _
 have HK2 := Lib.hid (KeepsOthers.of_grownBy hgrow (fun j o hj ho => by
  rcases hown.2 with ⟨hv, _⟩ | ⟨g, cap, cur, hv, _, hg, _⟩
  ·rw [hv] at hj; cases hj
  ·rw [hv] at hj; cases hj; rw [hg] at ho; cases ho; rfl))
 have hk4 : KeepT b w1 w2 := fun k cs t fr hk _ ht => by
  have hlt : k < w1.heap.size := by
   rcases Nat.lt_or_ge k w1.heap.size with h' | h'
   ·exact h'
   ·rw [Array.getElem?_eq_none h'] at hk; cases hk
  rw [hgrow.block k hlt (fun e => by
   rcases hown.2 with ⟨hv, _⟩ | ⟨g, cap, cur, hv, _, hg, _⟩
   ·rw [hv] at e; cases e
   ·rw [hv] at e; cases e; rw [hg] at hk; cases hk; exact ht rfl)]
  exact hk
 have HK4 := Lib.hid hk4
 clear hk4
 have hlt : b < w1.heap.size := by
  rcases Nat.lt_or_ge b w1.heap.size with h' | h'
  ·exact h'
  ·simp [Array.getElem?_eq_none h'] at hbk
 have hb2 : w2.heap[b]? = some (.cells #[.pointer (some ⟨b, 0, none⟩), v] 132 (0, 0)) := by
  rw [hgrow.block b hlt (fun e => hne e.symm)]
  exact hbk
 have d0 : w2.cell? ⟨b, 0, none⟩ = some (.pointer (some ⟨b, 0, none⟩)) := by rw [Lib.cell_of_heap hb2]; rfl
 have d1 : w2.cell? ⟨b, 1, none⟩ = some v := by rw [Lib.cell_of_heap hb2]; rfl
 have f1 : w2.frozen? ⟨b, 1, none⟩ = false := Lib.frozen_of_heap hb2 1
 obtain ⟨ao, n', cap, rfl⟩ : ∃ ao n' cap, v' = .slice ao n' cap := by
  rcases hown'.2 with ⟨hv, _⟩ | ⟨g, cap, cur, hv, _⟩
  ·exact ⟨_, _, _, hv⟩
  ·exact ⟨_, _, _, hv⟩
 go_wp2
 go_ret
 refine ⟨rfl, .inr ?_, ?_, (HK1.out.trans HK2.out).trans (KeepsOthers.setCell _ _ _), (HK3.out.trans HK4.out).trans (KeepT.setCell _ _ _ _)⟩
 ·exact Lib.BuilderAt.put hB hb2 (bs' := bs ++ [.int .u8 c]) (by simpa using hown') (by decide)
 ·exact (hb1'.grown hgrow (by have := hb1'.size; omega) (fun k hk => (hown.lt k hk).1)).setCell (p := ⟨b, 1, none⟩) hB _
end Go.Proofs.YtaegjpancbmppaaGreatDoor
