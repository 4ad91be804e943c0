/- Part 16 of 47 of the proof of the law: contracts of the functions that it reaches, and plain facts. Conditions: those that each contract names. -/
import Derived.Test.YtendjepcjmfmfaaGreatDoorOrdB01
import Derived.Laws.CopyOwn
namespace Go.Proofs.YtendjepcjmfmfaaGreatDoor
open Go.RowKit
theorem add_at (b off j : Nat) : (⟨b, off, none⟩ : Addr).add j = ⟨b, off + j, none⟩ := by unfold Addr.add; split <;> simp [*]
structure OnlyAt (g : Nat) (w w' : World) : Prop where
 other : ∀ k, k ≠ g → w'.heap[k]? = w.heap[k]?
 size : w'.heap.size = w.heap.size
 below : Below g w w'
theorem OnlyAt.refl (g : Nat) (w : World) : OnlyAt g w w := ⟨fun _ _ => rfl, rfl, Below.refl _ _⟩
theorem OnlyAt.row (w : World) (g : Nat) (cs : Array Value) : OnlyAt g w (w.setRow g cs) :=
 ⟨fun _ hk => setRow_other w g _ cs hk, setRow_size w g cs, below_setRow (Below.refl _ _) (Nat.le_refl _) cs⟩
theorem OnlyAt.blk {g k : Nat} {w w' : World} {t : TypeId} {cs : List Value} (h : OnlyAt g w w') (hk : k ≠ g) (hb : Blk w k t cs) : Blk w' k t cs := (h.other k hk).trans hb
theorem OnlyAt.cell {g k o : Nat} {w w' : World} (h : OnlyAt g w w') (hk : k ≠ g) : w'.cell? ⟨k, o, none⟩ = w.cell? ⟨k, o, none⟩ := by
 unfold World.cell?
 rw [h.other k hk]
theorem OnlyAt.low {g B : Nat} {w w' : World} (h : OnlyAt g w w') (hB : B ≤ g) : Below B w w' := h.below.mono hB
theorem splice_map {α β : Type} (f : α → β) (L c : List α) (i : Nat) : splice (L.map f) i (c.map f) = (splice L i c).map f := by
 unfold splice; simp
theorem splice_twice {α : Type} (L c d : List α) (i : Nat) (h : d.length ≤ c.length) (hi : i + c.length ≤ L.length) : splice (splice L i c) i d = splice L i (d ++ c.drop d.length) := by
 unfold splice
 rw [List.take_append_of_le_length (by rw [List.length_take]; omega), List.take_of_length_le (by rw [List.length_take]; omega)]
 congr 1
 rw [List.append_assoc]
 congr 1
 rw [List.drop_append, List.drop_of_length_le (by rw [List.length_take]; omega), List.nil_append, List.length_take, Nat.min_eq_left (by omega), show i + d.length - i = d.length by omega, List.drop_append_of_le_length h]
 congr 2
 rw [List.length_append, List.length_drop]
 omega
theorem step_copy_put {P : Program} {ops : Array Oper} {o : Oper} {a : Act} {w : World} {K : Act → World → Prop} {Q : Exit → Act → World → Prop} {E : Prop} (hgd : o.guard = none) (d s : Operand) (dT sT : TypeId)
  (ho : o.op = .call { callee := .builtin .copy, args := #[d, s], argTypes := #[dT, sT] }) (elem : TypeId) (hu : P.underlying dT = some (.slice elem)) (hsz : (P.info? elem).map (·.size) = some 1)
  (dp sp : Option Addr) (dLen dCap sLen sCap : Nat) (hd : a.eval d = .slice dp dLen dCap) (hs : a.eval s = .slice sp sLen sCap)
  (g off : Nat) (cur : List Value) (t : TypeId) (hg : w.heap[g]? = some (.cells cur.toArray t (0, 0))) (cs : List Value) (hn : cs.length = Nat.min sLen dLen)
  (hpos : 0 < cs.length → dp = some ⟨g, off, none⟩ ∧ ∃ ad, sp = some ad ∧ ∀ j v, cs[j]? = some v → w.cell? (ad.add j) = some v)
  (hfit : off + cs.length ≤ cur.length) (h1 : ∀ v ∈ cs, v.oneCell' = true)
  (h : ∀ w', Hid (w'.heap[g]? = some (.cells (splice cur off cs).toArray t (0, 0))) → OnlyAt g w w' → K (a.put o.dst (goInt cs.length)) w') :
  if Region.wanted o (yielded ops a.tmps) = true then Oper.wp P o a w K Q else E := by
 have hw : Region.wanted o (yielded ops a.tmps) = true := by simp [Region.wanted, hgd]
 rw [if_pos hw]
 by_cases h0 : cs.length = 0
 ·obtain rfl : cs = [] := List.eq_nil_of_length_eq_zero h0
  have hrun := run_copy_none (P := P) w dT sT o.type elem dp sp dLen dCap sLen sCap hu hsz (by simpa using hn.symm)
  unfold Oper.wp
  simp [execOp, ho, resolve, invoke, builtin, hd, hs, hrun, Result.andThen]
  exact h w (show _ = _ by simpa [splice] using hg) (OnlyAt.refl _ _)
 ·obtain ⟨rfl, ad, rfl, hsrc⟩ := hpos (by omega)
  have hrun := run_copy_row (P := P) w dT sT o.type elem g off dLen dCap ad sLen sCap cur.toArray t cs hu hsz hg hn hsrc (by simpa using hfit) h1
  unfold Oper.wp
  simp [execOp, ho, resolve, invoke, builtin, hd, hs, hrun, Result.andThen]
  exact h _ (show _ = _ by simpa [splice] using setRow_heap w g _ _ t _ hg) (OnlyAt.row _ _ _)
theorem run_copy_put {P : Program} (w : World) (dT sT rT : TypeId) (elem : TypeId) (hu : P.underlying dT = some (.slice elem)) (hsz : (P.info? elem).map (·.size) = some 1)
  (dp sp : Option Addr) (dLen dCap sLen sCap : Nat) (g off : Nat) (cur : List Value) (t : TypeId) (hg : w.heap[g]? = some (.cells cur.toArray t (0, 0))) (cs : List Value) (hn : cs.length = Nat.min sLen dLen)
  (hpos : 0 < cs.length → dp = some ⟨g, off, none⟩ ∧ ∃ ad, sp = some ad ∧ ∀ j v, cs[j]? = some v → w.cell? (ad.add j) = some v)
  (hfit : off + cs.length ≤ cur.length) (h1 : ∀ v ∈ cs, v.oneCell' = true) :
  ∃ w', (Builtin.copy_ #[dT, sT] rT #[.slice dp dLen dCap, .slice sp sLen sCap]).run P w = .ok (goInt cs.length) w' ∧ w'.heap[g]? = some (.cells (splice cur off cs).toArray t (0, 0)) ∧ OnlyAt g w w' := by
 by_cases h0 : cs.length = 0
 ·obtain rfl : cs = [] := List.eq_nil_of_length_eq_zero h0
  exact ⟨w, run_copy_none (P := P) w dT sT rT elem dp sp dLen dCap sLen sCap hu hsz (by simpa using hn.symm), by simpa [splice] using hg, OnlyAt.refl _ _⟩
 ·obtain ⟨rfl, ad, rfl, hsrc⟩ := hpos (by omega)
  exact ⟨_, run_copy_row (P := P) w dT sT rT elem g off dLen dCap ad sLen sCap cur.toArray t cs hu hsz hg hn hsrc (by simpa using hfit) h1, by simpa [splice] using setRow_heap w g _ _ t _ hg, OnlyAt.row _ _ _⟩
end Go.Proofs.YtendjepcjmfmfaaGreatDoor
