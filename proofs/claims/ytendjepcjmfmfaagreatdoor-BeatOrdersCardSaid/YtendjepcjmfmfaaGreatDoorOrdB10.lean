/- Part 10 of 47 of the proof of the law: contracts of the functions that it reaches, and plain facts. Conditions: those that each contract names. -/
import Derived.RangeFuncNested
import Derived.RangeFuncBound
import Derived.RangeFuncCalls
import Derived.RangeFuncLeaves
import Derived.RangeFuncBox
import Derived.Shelf.Abstract
import Derived.Shelf.RegionOpen
import Derived.OwnWalkIn
import Derived.TacticsInMore
import Derived.LoopNIn
import Derived.LoopIn
import Derived.Test.YtendjepcjmfmfaaGreatDoorOrdB09
namespace Go.Proofs.YtendjepcjmfmfaaGreatDoor
open Go.RowKit Go.Shelf
attribute [local go_sem] Oper.semAt_some
abbrev IxLimb := { x : Nat × Nat // x.1 ≤ 1000000 ∧ x.2 < 1000000000 }
def back (f : Nat → IxLimb) (k : Nat) : List IxLimb := (List.range k).map f
theorem back_succ (f : Nat → IxLimb) (k : Nat) : back f (k + 1) = back f k ++ [f k] := by simp [back, List.range_succ]
theorem back_len (f : Nat → IxLimb) (k : Nat) : (back f k).length = k := by simp [back]
def pairAt (L : List Nat) (hs : Small L) (hl : L.length ≤ 1000000) (j : Nat) : IxLimb :=
 if h : j < L.length then ⟨(L.length - 1 - j, L[L.length - 1 - j]'(by omega)), by refine ⟨?_, ?_⟩ <;> first | (show L.length - 1 - j ≤ 1000000; omega) | exact hs.get _ _⟩ else ⟨(0, 0), by omega, by omega⟩
theorem pairAt_eq (L : List Nat) (hs : Small L) (hl : L.length ≤ 1000000) (j : Nat) (h : j < L.length) : (pairAt L hs hl j).1 = (L.length - 1 - j, L[L.length - 1 - j]'(by omega)) := by
 unfold pairAt; rw [dif_pos h]
def KeepBox (n₀ Bs : Nat) (W W' : World) : Prop := Below n₀ W W' ∧ W'.heap[Bs]? = W.heap[Bs]?
theorem KeepBox.refl (n₀ Bs : Nat) (W : World) : KeepBox n₀ Bs W W := ⟨Below.refl _ _, rfl⟩
theorem KeepBox.trans {n₀ Bs : Nat} {A B C : World} (h : KeepBox n₀ Bs A B) (k : KeepBox n₀ Bs B C) : KeepBox n₀ Bs A C := ⟨h.1.trans k.1, k.2.trans h.2⟩
theorem KeepBox.put {n₀ Bs : Nat} {w : World} (hn : n₀ ≤ w.heap.size) (hB : Bs < w.heap.size) (W : World) (l : Nat) (o o' : Obj) (hl : w.heap.size ≤ l) (h : W.heap[l]? = some o) (h1 : o.isCells = false) (h2 : o.isWalk = false) : KeepBox n₀ Bs W (W.putObj l o') :=
 ⟨belowK_b hn W l o o' hl h h1 h2, World.putObj_heap_other (by omega)⟩
theorem KeepBox.cell {n₀ Bs : Nat} {W W' : World} (h : KeepBox n₀ Bs W W') (o : Nat) : W'.cell? ⟨Bs, o, none⟩ = W.cell? ⟨Bs, o, none⟩ := World.cell?_of_block (w := W) h.2
set_option maxRecDepth 100000 in
set_option maxHeartbeats 2000000 in
theorem backward_in (F : Fence) (n : Nat) (hf : F.fn 138) (hro : F.round = none) (hn : 1 ≤ n) (l Bs n₀ : Nat) (A : Option Addr) (cap : Nat) (L : List Nat) (hs : Small L) (hlen : L.length ≤ 1000000)
  (J Jx : List IxLimb → World → Prop)
  (hY : ∀ pre x W, J pre W → pre.length < L.length → YieldAt F (n - 1) Tryz.prog l #[.int .i64 (x.1.1 : Int), .int .u64 (x.1.2 : Int)] W fun e W' =>
   (e = .returned (.bool true) ∧ J (pre ++ [x]) W' ∧ KeepBox n₀ Bs W W') ∨ (e = .returned (.bool false) ∧ Jx (pre ++ [x]) W'))
  (W : World) (hBs : W.cell? ⟨Bs, 0, none⟩ = some (.slice A L.length cap)) (hr : Rd u64v W n₀ A L) (h0 : J [] W) :
  CallsIn F n Tryz.prog 138 #[.func (.yield l) #[] #[], .pointer (some ⟨Bs, 0, none⟩)] W fun e W' => (∃ v, e = .returned v) ∧
   ((∃ ys, ys = back (pairAt L hs hlen) L.length ∧ J ys W') ∨ (∃ pre, True ∧ Jx pre W')) := by
 refine callsIn_of_wp Tryz.func138 rfl hf ?_ hro
 simp only [Tryz.ntmps138, List.size_toArray, List.length_cons, List.length_nil, Nat.reduceAdd, Nat.reduceSub, Array.replicate_succ, Array.replicate_zero, List.push_toArray, List.append_toArray, List.nil_append, List.cons_append]
 obtain ⟨ln, hln⟩ : ∃ ln, ln = L.length := ⟨_, rfl⟩
 rw [← hln] at hBs
 have hln1 : ln ≤ 1000000 := by omega
 have HLN := Lib.hid hln
 have HR := Lib.hid hr
 clear hln hr
 gi_wp2
 gi_loopw [3] (fun i wr => ∃ k : Nat, k ≤ ln ∧ i = .int .i64 ((ln : Int) - 1 - k) ∧ J (back (pairAt L hs hlen) k) wr ∧ KeepBox n₀ Bs W wr)
  (fun i _ => (intOf i + 1).toNat)
 case atStart => exact ⟨0, Nat.zero_le _, by simp, h0, KeepBox.refl _ _ _⟩
 case round =>
  obtain ⟨k, hk, rfl, hJs, hnx⟩ := hrel
  have hbs : wr.cell? ⟨Bs, 0, none⟩ = some (.slice A ln cap) := (hnx.cell 0).trans hBs
  by_cases hlt : k < ln
  ·obtain ⟨b, off, rfl, hb, hc⟩ := (HR.out.below hnx.1).at_ (by have := HLN.out; omega)
   obtain ⟨i, hi⟩ : ∃ i : Nat, i = ln - 1 - k := ⟨_, rfl⟩
   have hii : (ln : Int) - 1 - k = (i : Int) := by omega
   have hiL : i < L.length := by have := HLN.out; omega
   obtain ⟨x, hx⟩ : ∃ x, x = pairAt L hs hlen k := ⟨_, rfl⟩
   have hx1 : x.1 = (i, L[i]) := by
    rw [hx, pairAt_eq L hs hlen k (by have := HLN.out; omega)]
    have e : L.length - 1 - k = i := by have := HLN.out; omega
    simp only [e]
   obtain ⟨fn, tmps, assign, body, hy, hR⟩ := hY _ x wr hJs (by rw [back_len]; have := HLN.out; omega)
   obtain ⟨d, hd⟩ : ∃ d, d = L[i] := ⟨_, rfl⟩
   rw [← hd] at hx1
   have hcell : wr.cell? ⟨b, off + i, none⟩ = some (.int .u64 (d : Int)) := by rw [hc i hiL, hd]
   rw [hx1] at hy
   dsimp only at hy
   rw [hii]
   have hi0 : i < ln := by omega
   have HX := Lib.hid hx
   have HII := Lib.hid hii
   have HNX := Lib.hid hnx
   have HJ := Lib.hid hJs
   clear hx hx1 hii hnx hc hd hi hJs hBs
   gi_wp2
   refine hR.mono ?_
   rintro e W3 (⟨rfl, hJ3, hk3⟩ | ⟨rfl, hJx3⟩)
   ·have hJ4 : J (back (pairAt L hs hlen) (k + 1)) W3 := by rw [back_succ, ← HX.out]; exact hJ3
    have HJ4 := Lib.hid hJ4
    have HK3 := Lib.hid hk3
    clear hJ4 hJ3 hk3
    gi_wp2
    go_roundw
    case rel => exact ⟨k + 1, by omega, by have := HII.out; simp only [Value.int.injEq, true_and]; omega, HJ4.out, HNX.out.trans HK3.out⟩
    case measure => simp [intOf]
   ·gi_wp2
    refine bodyPost_ret (results_none rfl _ _ _) rfl ?_
    exact ⟨⟨_, rfl⟩, .inr ⟨_, trivial, hJx3⟩⟩
  ·obtain rfl : k = ln := by omega
   gi_wp2
   go_end0
   exact ⟨⟨_, rfl⟩, .inl ⟨_, rfl, by have := HLN.out; rwa [this] at hJs⟩⟩
theorem backwardOf_in (F : Fence) (n : Nat) (hf : F.fn 109) (hro : F.round = none) (a : Option Addr) (len cap : Nat) (w : World) :
  CallsIn F n Tryz.prog 109 #[.slice a len cap] w fun e w' => e = .returned (.func (.func 138) #[] #[.pointer (some ⟨w.heap.size, 0, none⟩)]) ∧ w' = w.alloc (.cells #[.slice a len cap] 156) := by
 refine callsIn_of_wp Tryz.func109 rfl hf ?_ hro
 simp only [Tryz.ntmps109, List.size_toArray, List.length_cons, List.length_nil, Nat.reduceAdd, Nat.reduceSub, Array.replicate_succ, Array.replicate_zero, List.push_toArray, List.append_toArray, List.nil_append, List.cons_append]
 gi_wp2
 go_ret
 exact ⟨rfl, rfl⟩
theorem backward_stops (F : Fence) (n : Nat) (hf : F.fn 138) (hro : F.round = none) (hn : 1 ≤ n) (Bs n₀ : Nat) (A : Option Addr) (cap : Nat) (L : List Nat) (hs : Small L) (hlen : L.length ≤ 1000000) (w : World)
  (hBs : Bs < w.heap.size) (hn₀ : n₀ ≤ w.heap.size) (hc : w.cell? ⟨Bs, 0, none⟩ = some (.slice A L.length cap)) (hr : Rd u64v w n₀ A L) :
  SeqStopsK F n Tryz.prog 138 #[.pointer (some ⟨Bs, 0, none⟩)] (fun x : IxLimb => #[Value.int .i64 (x.1.1 : Int), .int .u64 (x.1.2 : Int)]) (KeepBox n₀ Bs)
   (fun ys => ys = back (pairAt L hs hlen) L.length) (fun _ => True) L.length w := fun l J Jx W hW _ _ hY h0 => by
 exact backward_in F n hf hro hn l Bs n₀ A cap L hs hlen J Jx hY W ((hW.cell (p := ⟨Bs, 0, none⟩) hBs).trans hc) (hr.below (hW.mono hn₀)) h0
end Go.Proofs.YtendjepcjmfmfaaGreatDoor
