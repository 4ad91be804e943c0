/- Package wish: Alone. Conditions: the problem's parts are ints, its texts not too long. -/
import Derived.Test.YtkamepalomkpbaaDoorWishTotal
import Derived.Test.YtkamepalomkpbaaDoorWishParts
namespace Go.Proofs.YtkamepalomkpbaaDoor
open Go.RowKit

theorem infoInts : (Tryd.prog.info? 27).map (fun i => (i.zero, i.size, i.bytes)) = some (some (.slice none 0 0), 1, 24) := by kernel_rfl
/-- Each number a group. -/
def sing (n : Nat) : List (List Int) := (List.range n).map fun i : Nat => [(i : Int)]
theorem sing_len (n : Nat) : (sing n).length = n := by simp [sing]
theorem sing_get {n i : Nat} (h : i < (sing n).length) : (sing n)[i] = [(i : Int)] := by simp [sing]
/-- A slice of one int in a block. -/
def oneS (b : Nat) : Value := .slice (some ⟨b, 0, none⟩) 1 1
theorem own_blk_ne {w : World} {base g : Nat} {e t : TypeId} {size n : Nat} {v : Value} {xs cs : List Value} (h : w.ownsRow base e size v n xs) (hg : Blk w g t cs) (hne : e ≠ t) : some g ≠ v.ownBlock := by
  rcases h.2 with ⟨rfl, _⟩ | ⟨g', cap, cur, rfl, _, hh, _⟩
  · intro e; cases e
  · intro he
    have : g = g' := by simpa [Value.ownBlock] using he
    subst this
    unfold Blk at hg
    rw [hg] at hh
    injection hh with h
    injection h with _ h
    exact hne h.symm
/-- What the loop of Alone carries. -/
def AlRel (w : World) (bX : Nat) (A : Option Addr) (n cap : Nat) (B : Option Addr) (m c2 : Nat) (k : Nat) (OA : Option Addr) (oc : Nat) (Bs : List Nat) (wx : World) : Prop :=
  wx.ownsRow (bX + 1) 27 1 (.slice OA k oc) k (Bs.map oneS) ∧ (∀ i (h : i < Bs.length), Blk wx Bs[i] 3 [.int .i64 i] ∧ bX < Bs[i]) ∧ Blk wx bX 29 [.slice A n cap, .slice B m c2] ∧ Below w.heap.size w wx ∧ w.heap.size ≤ bX ∧ bX + 1 ≤ wx.heap.size
theorem AlRel.len {w wx : World} {bX : Nat} {A : Option Addr} {n cap : Nat} {B : Option Addr} {m c2 k : Nat} {OA : Option Addr} {oc : Nat} {Bs : List Nat} (h : AlRel w bX A n cap B m c2 k OA oc Bs wx) : Bs.length = k := by
  have := h.1.1
  rw [List.length_map] at this
  omega
theorem AlRel.step {w wx w3 : World} {bX : Nat} {A : Option Addr} {n cap : Nat} {B : Option Addr} {m c2 k : Nat} {OA : Option Addr} {oc : Nat} {Bs : List Nat} {OA2 : Option Addr} {oc2 : Nat}
    (h : AlRel w bX A n cap B m c2 k OA oc Bs wx) (hgrow : ((wx.alloc (.cells #[.int .i64 (k : Int)] 3)).alloc (.cells #[oneS wx.heap.size] 27)).grownBy w3 (Value.slice OA k oc).ownBlock)
    (hown : w3.ownsRow (bX + 1) 27 1 (.slice OA2 (k + 1) oc2) (k + 1) (Bs.map oneS ++ [oneS wx.heap.size])) : AlRel w bX A n cap B m c2 (k + 1) OA2 oc2 (Bs ++ [wx.heap.size]) w3 := by
  have hlen := h.len
  obtain ⟨h1, h2, h3, h4, h5, h6⟩ := h
  have hsz := hgrow.size
  simp only [World.size_alloc] at hsz
  have hne : ∀ b, b < bX + 1 → some b ≠ (Value.slice OA k oc).ownBlock := fun b hb e => by have := (h1.lt _ e.symm).1; omega
  have hbg : Below w.heap.size wx w3 := (((Below.refl w.heap.size wx).alloc (by omega) _).alloc (by simp; omega) _).trans ((Below.refl w.heap.size _).grown hgrow (by simp; omega) (fun r e => by have := (h1.lt _ e).1; omega))
  refine ⟨by rw [List.map_append]; exact hown, fun i hi => ?_, (((h3.alloc _).alloc _).grown hgrow (hne _ (by omega))), h4.trans hbg, h5, by omega⟩
  rw [List.length_append, List.length_singleton] at hi
  by_cases hik : i < Bs.length
  · rw [List.getElem_append_left hik]
    obtain ⟨k1, k2⟩ := h2 i hik
    have hn1 := own_blk_ne h1 k1 (by decide)
    exact ⟨((k1.alloc _).alloc _).grown hgrow hn1, k2⟩
  · have hi' : i = Bs.length := by omega
    subst hi'
    rw [List.getElem_append_right (Nat.le_refl _)]
    simp only [Nat.sub_self, List.getElem_cons_zero]
    rw [hlen]
    exact ⟨((Blk.new (w := wx) (cs := [.int .i64 (k : Int)])).alloc _).grown hgrow (fun e => by have := (h1.lt _ e.symm).2; omega), by omega⟩
theorem AlRel.grd {w wx : World} {bX : Nat} {A : Option Addr} {n cap : Nat} {B : Option Addr} {m c2 k : Nat} {OA : Option Addr} {oc : Nat} {Bs : List Nat} (h : AlRel w bX A n cap B m c2 k OA oc Bs wx) : GRd wx wx.heap.size OA (sing k) := fun hl => by
  have hlen := h.len
  rw [sing_len] at hl
  obtain ⟨g, c3, hv, hc3⟩ := own_form h.1 hl
  injection hv with e1 e2 e3
  subst e1
  refine ⟨g, 0, rfl, (h.1.lt g rfl).2, fun i hi => ?_⟩
  have hik : i < k := by rw [sing_len] at hi; exact hi
  have hib : i < Bs.length := by omega
  rw [sing_get hi]
  refine ⟨some ⟨Bs[i], 0, none⟩, 1, ?_, ?_, Nat.le_refl _, by decide⟩
  · have h1 := h.1
    subst e3
    rw [Nat.zero_add, h1.cellAt i (by omega), List.getElem?_map, List.getElem?_eq_getElem hib]
    rfl
  · have hb := (h.2.1 i hib).1
    have := Blk.rd (enc := i64v) (L := [(i : Int)]) hb
    exact this

set_option maxRecDepth 100000 in
set_option maxHeartbeats 4000000 in
/-- Alone: each wish a group, or the first error. -/
theorem alone_any (A : Option Addr) (n cap : Nat) (B : Option Addr) (m c2 : Nat) (ws : List Wsh) (rules : List Int) (Bd : Nat) (w : World) (hp : Pb w Bd A n cap B m c2 ws rules) (hB : Bd ≤ w.heap.size) (h0 : pbE ws rules = 0) :
    Calls Tryd.prog 12 #[.agg #[.slice A n cap, .slice B m c2]] w fun e w' => ∃ OA oc, e = .returned (.tuple #[.slice OA n oc, .int .i64 0]) ∧ GRd w' w'.heap.size OA (sing n) ∧ n ≤ oc ∧ oc ≤ maxLen ∧ Below w.heap.size w w' := by
  have hb0 := bw_new (Below.refl _ w) (.cells #[.slice A n cap, .slice B m c2] 29)
  have hbx : Blk (w.alloc (.cells #[.slice A n cap, .slice B m c2] 29)) w.heap.size 29 [.slice A n cap, .slice B m c2] := Blk.new
  have H1 := Lib.hid (wcheck_any A n cap B m c2 ws rules Bd _ (hp.keep hB hb0) (by simp; omega))
  rw [h0] at H1
  have hn12 : n ≤ 12 := by rw [← hp.wl]; exact pbE_len h0
  have HB := Lib.hid hbx
  have HB0 := Lib.hid hb0
  obtain ⟨i1, hi1, hy0, hy1, hy2⟩ := info_parts infoInts
  have HI1 := Lib.hid hi1
  have HY0 := Lib.hid hy0
  have HY1 := Lib.hid hy1
  have HY2 := Lib.hid hy2
  clear hi1 hy0 hy1 hy2 hp hb0 hbx h0
  go_enter Tryd.func12, Tryd.ntmps12
  go_wp2_with fail
  refine H1.out.mono ?_
  rintro e w1 ⟨rfl, hk⟩
  have hrel : AlRel w w.heap.size A n cap B m c2 0 none 0 [] w1 := ⟨World.ownsRow_nil _ _ _ _, fun i h => absurd h (by simp), HB.out.keep hk, HB0.out.trans (hk.mono (by simp)), Nat.le_refl _, by have := hk.size; simp at this; omega⟩
  have HREL := Lib.hid hrel
  obtain ⟨p0, p1⟩ := hrel.2.2.1.two
  clear hk hrel
  go_wp2_with fail
  go_loopw [5, 15] (fun u v wx => ∃ (k : Nat) (OA : Option Addr) (oc : Nat) (Bs : List Nat), k ≤ n ∧ v = .int .i64 k ∧ u = .slice OA k oc ∧ AlRel w w.heap.size A n cap B m c2 k OA oc Bs wx) (fun _ v _ => n - (intOf v).toNat)
  case atStart => exact ⟨0, _, _, [], by omega, rfl, rfl, HREL.out⟩
  case round =>
    obtain ⟨k, OA, oc, Bs, hk, rfl, rfl, hrel⟩ := hrel
    have HX := Lib.hid hrel
    clear hrel
    by_cases hlt : k < n
    · go_wp2_with (at_builtin; refine wpList_append_own _ rfl _ _ 39 rfl (w.heap.size + 1) 27 i1 (.slice none 0 0) 1 24 Tryd.underlying39 HI1.out HY0.out HY1.out HY2.out rfl (by decide) _ _ _ rfl ((HX.out.1.alloc _).alloc _) ⟨wr.heap.size + 1, 0, none⟩ 1 1 [oneS wr.heap.size] rfl rfl (by have := World.news_of_block (cs := #[oneS wr.heap.size]) (t := 27) (fr := (0, 0)) (heap_alloc_new (wr.alloc (.cells #[.int .i64 k] 3)) _); rwa [World.size_alloc] at this) (by simp [Value.oneCell', oneS]) (by unfold maxLen; omega) (by omega) (by simp; have := HX.out.2.2.2.2.2; omega) ?_)
      intro v' w3 hown hgrow _
      obtain ⟨g, oc2, hv, hoc2⟩ := own_form hown (by omega)
      subst hv
      have HX2 := Lib.hid (HX.out.step hgrow hown)
      clear hown hgrow
      go_wp2
      go_roundw
      case rel => exact ⟨k + 1, _, _, _, by omega, by go_num, rfl, HX2.out⟩
      case measure => simp [intOf]; omega
    · have hkn : k = n := by omega
      subst hkn
      go_wp2
      go_ret2
      exact ⟨OA, oc, rfl, HX.out.grd, own_cap HX.out.1, own_mx HX.out.1, HX.out.2.2.2.1⟩
end Go.Proofs.YtkamepalomkpbaaDoor
