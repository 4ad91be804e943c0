/- Part 19 of 33 of the proof of the law: contracts of the functions that it reaches, and plain facts. Conditions: those that each contract names. -/
import Derived.Test.YtaegjpancbmppaaGreatDoorTabB01
import Derived.Test.YtaegjpancbmppaaGreatDoorTabB09
import Derived.Test.YtaegjpancbmppaaGreatDoorRows
import Derived.Lib.Builder
import Derived.Lib.AppendStr
import Derived.Lib.UnsafeStr
import Derived.Laws.Externs
import Derived.RangeFuncCalls
set_option linter.unusedVariables false
set_option linter.unusedSimpArgs false
namespace Go.Proofs.YtaegjpancbmppaaGreatDoor
open Go.RowKit
theorem Tryz.sizeBuilder : (Tryz.prog.info? 132).map (·.size) = some 2 := by kernel_rfl
theorem Tryz.liesBuilder : liesAt Tryz.prog Tryz.prog.depth 132 (2 / Tryz.prog.cellsOf 132) 0 132 1 = true := by kernel_rfl
theorem Tryz.infoByte : (Tryz.prog.info? 5).map (fun i => (i.zero, i.size, i.bytes)) = some (some (.int .u8 0), 1, 1) := by kernel_rfl
set_option maxHeartbeats 1000000 in
set_option maxRecDepth 100000 in
theorem copyCheck_used (b : Nat) (w : World) (h0 : w.cell? ⟨b, 0, none⟩ = some (.pointer (some ⟨b, 0, none⟩))) :
  Calls Tryz.prog 116 #[.pointer (some ⟨b, 0, none⟩)] w fun e w' => e = .returned (.tuple #[]) ∧ w = w' := by
 obtain ⟨j, hj, _⟩ := Option.map_eq_some_iff.1 Tryz.sizeBuilder
 go_enter Tryz.func116, Tryz.ntmps116
 go_wp2
 rw [Lib.run_neq_ptr_same w _ Tryz.underlying130 hj]
 go_wp2
 go_end0
 exact ⟨rfl, rfl⟩
set_option maxHeartbeats 1000000 in
set_option maxRecDepth 100000 in
theorem copyCheck_fresh (b : Nat) (w : World) (h0 : w.cell? ⟨b, 0, none⟩ = some (.pointer none)) (hsh : w.shape? b = some (132, 2)) (hfz : w.frozen? ⟨b, 0, none⟩ = false) :
  Calls Tryz.prog 116 #[.pointer (some ⟨b, 0, none⟩)] w fun e w' => e = .returned (.tuple #[]) ∧ w.setCell ⟨b, 0, none⟩ (.pointer (some ⟨b, 0, none⟩)) = w' := by
 obtain ⟨j, hj, hjs⟩ := Option.map_eq_some_iff.1 Tryz.sizeBuilder
 go_enter Tryz.func116, Tryz.ntmps116
 go_wp2
 rw [Lib.run_to_unsafe w ⟨b, 0, none⟩ Tryz.underlying130 Tryz.underlying176 hj (by rw [hjs]; decide) hsh (Nat.zero_lt_succ 1)]
 simp only [Result.andThen]
 rw [Oper.upon_value]
 go_wp2
 rw [run_callFunc_extern Tryz.func132 (by kernel_rfl) (by kernel_rfl) (by kernel_rfl) (e := Extern.AbiNoEscape.same) (by kernel_rfl)]
 rw [Lib.run_noEscape]
 simp only [Result.andThen]
 rw [Oper.upon_value]
 go_wp2
 rw [Lib.run_from_unsafe w ⟨b, 0, none⟩ Tryz.underlying176 Tryz.underlying130 hj hsh Tryz.liesBuilder]
 simp only [Result.andThen]
 rw [Oper.upon_value]
 go_wp2
 go_end0
 exact ⟨rfl, rfl⟩
theorem others_of_below {w w' : World} (h : Below w.heap.size w w') : KeepsOthers w w' :=
 ⟨h.size, fun k o hk _ => by
  have hlt : k < w.heap.size := by
   rcases Nat.lt_or_ge k w.heap.size with h' | h'
   ·exact h'
   ·rw [Array.getElem?_eq_none h'] at hk; cases hk
  exact (h.block k hlt).trans hk⟩
def KeepT (b : Nat) (w w' : World) : Prop := ∀ k cs t fr, w.heap[k]? = some (.cells cs t fr) → k ≠ b → t ≠ 5 → w'.heap[k]? = some (.cells cs t fr)
theorem KeepT.refl (b : Nat) (w : World) : KeepT b w w := fun _ _ _ _ h _ _ => h
theorem KeepT.trans {b : Nat} {u v w : World} (h : KeepT b u v) (k : KeepT b v w) : KeepT b u w := fun i cs t fr hc hb ht => k i cs t fr (h i cs t fr hc hb ht) hb ht
theorem KeepT.setCell (b o : Nat) (w : World) (v : Value) : KeepT b w (w.setCell ⟨b, o, none⟩ v) := fun k cs t fr h hb _ => by
 rw [Below.heap_setCell _ _ _ _ hb]; exact h
theorem KeepT.of_below {b : Nat} {w w' : World} (h : Below w.heap.size w w') : KeepT b w w' := fun k cs t fr hk _ _ => by
 have hlt : k < w.heap.size := by
  rcases Nat.lt_or_ge k w.heap.size with h' | h'
  ·exact h'
  ·rw [Array.getElem?_eq_none h'] at hk; cases hk
 exact (h.block k hlt).trans hk
theorem copyCheck_any (B b : Nat) (bs : List Value) (w : World) (h : Lib.IsBuilder 132 5 B b bs w) :
  Calls Tryz.prog 116 #[.pointer (some ⟨b, 0, none⟩)] w fun e w' => e = .returned (.tuple #[]) ∧ Lib.BuilderAt 132 5 B b (.pointer (some ⟨b, 0, none⟩)) bs w' ∧ Below B w w' ∧ KeepsOthers w w' ∧ KeepT b w w' := by
 rcases h with h | h
 ·refine (copyCheck_fresh b w h.cell0 h.shape h.frozen0).mono ?_
  rintro e w' ⟨rfl, rfl⟩
  exact ⟨rfl, h.used _, (Below.refl B w).setCell (p := ⟨b, 0, none⟩) h.1 _, KeepsOthers.setCell _ _ _, KeepT.setCell _ _ _ _⟩
 ·refine (copyCheck_used b w h.cell0).mono ?_
  rintro e w' ⟨rfl, rfl⟩
  exact ⟨rfl, h, Below.refl B _, KeepsOthers.refl _, KeepT.refl _ _⟩
set_option maxHeartbeats 1000000 in
set_option maxRecDepth 100000 in
theorem writeString_any (B b : Nat) (bs : List Value) (s : ByteArray) (w : World) (h : Lib.IsBuilder 132 5 B b bs w) (hlen : bs.length + s.size ≤ 140737488355328) (hBw : B ≤ w.heap.size) :
  Calls Tryz.prog 97 #[.pointer (some ⟨b, 0, none⟩), .string s] w fun e w' => e = .returned (.tuple #[.int .i64 s.size, .nilIface]) ∧
   Lib.IsBuilder 132 5 B b (bs ++ Lib.strCells s) w' ∧ Below B w w' ∧ KeepsOthers w w' ∧ KeepT b w w' := by
 obtain ⟨i0, hi, hz0, hz1, hz2⟩ := info_parts Tryz.infoByte
 go_enter Tryz.func97, Tryz.ntmps97
 go_wp2_with (go_at_call 116; refine (copyCheck_any B b bs _ h).mono ?_)
 rintro e w1 ⟨rfl, h1, hb1, hk1, hk3⟩
 have HK1 := Lib.hid hk1
 have HK3 := Lib.hid hk3
 clear hk1 hk3
 obtain ⟨hB, v, hbk, hown, hne⟩ := h1
 have c0 : w1.cell? ⟨b, 0, none⟩ = some (.pointer (some ⟨b, 0, none⟩)) := by rw [Lib.cell_of_heap hbk]; rfl
 have c1 : w1.cell? ⟨b, 1, none⟩ = some v := by rw [Lib.cell_of_heap hbk]; rfl
 go_wp2_with (at_builtin; refine Lib.wpList_append_own_string _ rfl _ _ 62 9 rfl B 5 i0 Tryz.underlying62 Tryz.underlying9 hi hz0 hz1 hz2 _ _ _ rfl hown s rfl ?c3 ?c4 ?c5 ?_)
 case c3 => unfold maxLen; omega
 case c4 => omega
 case c5 => have := hb1.size; omega
 intro v' w2 hown' hgrow _
 have HK2 := Lib.hid (KeepsOthers.of_grownBy hgrow (fun j o hj ho => by
  rcases hown.2 with ⟨hv, _⟩ | ⟨g, cap, cur, hv, _, hg, _⟩
  ·rw [hv] at hj; cases hj
  ·rw [hv] at hj; cases hj; rw [hg] at ho; cases ho; rfl))
 have hk4 : KeepT b w1 w2 := fun k cs t fr hk _ ht => by
  have hlt : k < w1.heap.size := by
   rcases Nat.lt_or_ge k w1.heap.size with h' | h'
   ·exact h'
   ·rw [Array.getElem?_eq_none h'] at hk; cases hk
  rw [hgrow.block k hlt (fun e => by
   rcases hown.2 with ⟨hv, _⟩ | ⟨g, cap, cur, hv, _, hg, _⟩
   ·rw [hv] at e; cases e
   ·rw [hv] at e; cases e; rw [hg] at hk; cases hk; exact ht rfl)]
  exact hk
 have HK4 := Lib.hid hk4
 clear hk4
 have hlt : b < w1.heap.size := by
  rcases Nat.lt_or_ge b w1.heap.size with h' | h'
  ·exact h'
  ·simp [Array.getElem?_eq_none h'] at hbk
 have hb2 : w2.heap[b]? = some (.cells #[.pointer (some ⟨b, 0, none⟩), v] 132 (0, 0)) := by
  rw [hgrow.block b hlt (fun e => hne e.symm)]
  exact hbk
 have d0 : w2.cell? ⟨b, 0, none⟩ = some (.pointer (some ⟨b, 0, none⟩)) := by rw [Lib.cell_of_heap hb2]; rfl
 have d1 : w2.cell? ⟨b, 1, none⟩ = some v := by rw [Lib.cell_of_heap hb2]; rfl
 have f1 : w2.frozen? ⟨b, 1, none⟩ = false := Lib.frozen_of_heap hb2 1
 obtain ⟨ao, n', cap, rfl⟩ : ∃ ao n' cap, v' = .slice ao n' cap := by
  rcases hown'.2 with ⟨hv, _⟩ | ⟨g, cap, cur, hv, _⟩
  ·exact ⟨_, _, _, hv⟩
  ·exact ⟨_, _, _, hv⟩
 go_wp2
 go_ret2
 refine ⟨rfl, .inr ?_, ?_, (HK1.out.trans HK2.out).trans (KeepsOthers.setCell _ _ _), (HK3.out.trans HK4.out).trans (KeepT.setCell _ _ _ _)⟩
 ·exact Lib.BuilderAt.put hB hb2 (bs' := bs ++ Lib.strCells s) (by simpa [Lib.strCells_length] using hown') (by decide)
 ·exact (hb1.grown hgrow (by have := hb1.size; omega) (fun k hk => (hown.lt k hk).1)).setCell (p := ⟨b, 1, none⟩) hB _
end Go.Proofs.YtaegjpancbmppaaGreatDoor
