/- Part 18 of 22 of the proof of the law: contracts of the functions that it reaches, and plain facts. Conditions: those that each contract names. -/
import Derived.Test.YtkamepalomkpbaaDoorWChkB08
namespace Go.Proofs.YtkamepalomkpbaaDoor
open Go.RowKit
def WhAt (p : Prop) (e : Ending) : Prop := ∃ z : Int, e = .returned (.int .i64 z) ∧ ((0 ≤ z ∧ p) ∨ (z = -1 ∧ ¬ p))
def longB (x : Wsh) : Bool := decide (40 < x.nm.size) || decide (40 < x.tn.size)
set_option maxHeartbeats 1000000 in
theorem fnFew_any (nm : ByteArray) (dv : Int) (tn : ByteArray) (fn fd lo hi : Int) (w : World) (h1 : nm.size ≤ maxLen) (h2 : tn.size ≤ maxLen) :
    Calls Tryd.prog 27 #[.agg #[.string nm, .int .i64 dv, .string tn, .int .i64 fn, .int .i64 fd, .int .i64 lo, .int .i64 hi]] w fun e w' => e = .returned (.bool (longB ⟨nm, dv, tn, fn, fd, lo, hi⟩)) ∧ Below w.heap.size w w' := by
  unfold maxLen at h1 h2
  have HB := Lib.hid (bw_new (Below.refl _ w) (.cells #[.string nm, .int .i64 dv, .string tn, .int .i64 fn, .int .i64 fd, .int .i64 lo, .int .i64 hi] 48))
  by_cases ha : 40 < nm.size
  · have HD := Lib.hid (show longB ⟨nm, dv, tn, fn, fd, lo, hi⟩ = true by unfold longB; rw [decide_eq_true ha]; rfl)
    go_enter Tryd.func27, Tryd.ntmps27
    go_wp2
    go_ret
    exact ⟨ret_bool HD.out.symm, HB.out⟩
  · by_cases hb : 40 < tn.size
    · have HD := Lib.hid (show longB ⟨nm, dv, tn, fn, fd, lo, hi⟩ = true by unfold longB; rw [decide_eq_true hb, Bool.or_true])
      go_enter Tryd.func27, Tryd.ntmps27
      go_wp2
      go_ret
      exact ⟨ret_bool (by rw [HD.out]; simp; omega), HB.out⟩
    · have HD := Lib.hid (show longB ⟨nm, dv, tn, fn, fd, lo, hi⟩ = false by unfold longB; rw [decide_eq_false ha, decide_eq_false hb]; rfl)
      go_enter Tryd.func27, Tryd.ntmps27
      go_wp2
      go_ret
      exact ⟨ret_bool (by rw [HD.out]; simp; omega), HB.out⟩
theorem bytes_eq37 (x y : ByteArray) : (x.toList == y.toList) = decide (x = y) := by
  by_cases h : x = y
  · rw [decide_eq_true h, h]
    exact beq_self_eq_true _
  · rw [decide_eq_false h]
    rw [beq_eq_false_iff_ne]
    intro he
    rw [ByteArray.toList_eq, ByteArray.toList_eq] at he
    apply h
    cases x
    cases y
    congr
    exact Array.toList_inj.1 he
theorem fnDup_any (nm : ByteArray) (dv : Int) (tn : ByteArray) (fn fd lo hi : Int) (g : Nat) (q : ByteArray) (w : World) (hq : w.cell? ⟨g, 0, none⟩ = some (.string q)) (hg : g < w.heap.size) :
    Calls Tryd.prog 29 #[.agg #[.string nm, .int .i64 dv, .string tn, .int .i64 fn, .int .i64 fd, .int .i64 lo, .int .i64 hi], .pointer (some ⟨g, 0, none⟩)] w fun e w' => e = .returned (.bool (decide (nm = q))) ∧ Below w.heap.size w w' := by
  have HB := Lib.hid (bw_new (Below.refl _ w) (.cells #[.string nm, .int .i64 dv, .string tn, .int .i64 fn, .int .i64 fd, .int .i64 lo, .int .i64 hi] 48))
  go_enter Tryd.func29, Tryd.ntmps29
  go_wp2
  go_ret
  exact ⟨ret_bool (bytes_eq37 nm q), HB.out⟩
set_option maxRecDepth 100000 in
set_option maxHeartbeats 4000000 in
theorem ixFew_any (A : Option Addr) (n cap Bd : Nat) (ws : List Wsh) (w : World) (hl : ws.length = n) (hr : WRd w Bd A ws) (hB : Bd ≤ w.heap.size) (hc : n ≤ cap) (hm : cap ≤ maxLen) (hh : ∀ x ∈ ws, x.nm.size ≤ maxLen ∧ x.tn.size ≤ maxLen) :
    Calls Tryd.prog 38 #[.slice A n cap, .func (.func 27) #[] #[]] w fun e w' => WhAt (∃ x ∈ ws, longB x = true) e ∧ Below w.heap.size w w' := by
  subst hl
  have hm' := hm
  unfold maxLen at hm'
  have HR := Lib.hid hr
  have HH := Lib.hid hh
  clear hr hh hm
  go_enter Tryd.func38, Tryd.ntmps38
  go_wp2_with fail
  go_loopw [8] (fun i W => ∃ k : Nat, k ≤ ws.length ∧ i = .int .i64 k ∧ (∀ x ∈ ws.take k, ¬ longB x = true) ∧ Below w.heap.size w W) (fun i _ => ws.length - (intOf i).toNat)
  case atStart => exact ⟨0, by omega, rfl, (fun x hx => (by simp at hx)), Below.refl _ _⟩
  case round =>
    obtain ⟨k, hk, rfl, hno, hbw⟩ := hrel
    have HNO := Lib.hid hno
    have HBW := Lib.hid hbw
    have hs := hbw.size
    clear hno
    by_cases hlt : k < ws.length
    · obtain ⟨b, off, rfl, hb, hcell⟩ := (HR.out.below (hbw.mono hB)).at_ (by omega)
      have hat := hcell k hlt
      obtain ⟨x, hx⟩ : ∃ x, x = ws[k] := ⟨_, rfl⟩
      have hxm : x ∈ ws := hx ▸ List.getElem_mem hlt
      have hok := HH.out x hxm
      rw [← hx] at hat
      have HX := Lib.hid hx
      clear hx hcell hbw
      obtain ⟨nm, dv, tn, fn, fd, lo, hi⟩ := x
      obtain ⟨a0, a1, a2, a3, a4, a5, a6⟩ := hat
      dsimp only at a0 a1 a2 a3 a4 a5 a6 hok
      have hbw' : b < wr.heap.size := by omega
      have hc0 := fnFew_any nm dv tn fn fd lo hi wr hok.1 hok.2
      have HXM := Lib.hid hxm
      clear hok hxm
      cases hv : longB (⟨nm, dv, tn, fn, fd, lo, hi⟩ : Wsh) with
      | true =>
        rw [hv] at hc0
        have HC := Lib.hid hc0
        have HV := Lib.hid hv
        clear hc0 hv
        go_wp2_with fail
        refine HC.out.mono ?_
        rintro e w' ⟨rfl, hb1⟩
        have HB1 := Lib.hid (HBW.out.trans (hb1.mono hs))
        clear hb1
        go_wp2
        go_ret
        exact ⟨⟨k, rfl, .inl ⟨by omega, _, HXM.out, HV.out⟩⟩, HB1.out⟩
      | false =>
        rw [hv] at hc0
        have HC := Lib.hid hc0
        have HV := Lib.hid hv
        clear hc0 hv
        go_wp2_with fail
        refine HC.out.mono ?_
        rintro e w' ⟨rfl, hb1⟩
        have HB1 := Lib.hid (HBW.out.trans (hb1.mono hs))
        clear hb1
        go_wp2
        go_roundw
        case rel =>
          refine ⟨k + 1, by omega, by go_num, (fun y hy => ?_), HB1.out⟩
          rw [take_snoc ws k hlt, List.mem_append, List.mem_singleton] at hy
          rcases hy with hy | hy
          · exact HNO.out y hy
          · rw [hy, ← HX.out]
            have := HV.out
            rw [this]
            simp
        case measure => simp [intOf]; omega
    · have HN := Lib.hid (show ¬ ∃ x ∈ ws, longB x = true by
        have h1 := HNO.out
        rw [List.take_of_length_le (by omega)] at h1
        rintro ⟨x, hx, hu⟩
        exact h1 x hx hu)
      go_wp2
      go_ret
      exact ⟨⟨-1, rfl, .inr ⟨rfl, HN.out⟩⟩, HBW.out⟩
theorem cfFew_any (A : Option Addr) (n cap Bd : Nat) (ws : List Wsh) (w : World) (hl : ws.length = n) (hr : WRd w Bd A ws) (hB : Bd ≤ w.heap.size) (hc : n ≤ cap) (hm : cap ≤ maxLen) (hh : ∀ x ∈ ws, x.nm.size ≤ maxLen ∧ x.tn.size ≤ maxLen) :
    Calls Tryd.prog 26 #[.slice A n cap, .func (.func 27) #[] #[]] w fun e w' => e = .returned (.bool (ws.any fun x => longB x)) ∧ Below w.heap.size w w' := by
  have H := Lib.hid (ixFew_any A n cap Bd ws w hl hr hB hc hm hh)
  clear hl hr hh
  go_enter Tryd.func26, Tryd.ntmps26
  go_wp2_with fail
  refine H.out.mono ?_
  rintro e w' ⟨⟨z, rfl, ⟨h0, h1⟩ | ⟨rfl, h1⟩⟩, hb⟩
  · have H1 := Lib.hid (show ws.any (fun x => longB x) = true by obtain ⟨x, hx, hu⟩ := h1; exact List.any_eq_true.2 ⟨x, hx, hu⟩)
    have HB := Lib.hid hb
    clear h1 hb
    go_wp2
    go_ret
    exact ⟨ret_bool H1.out.symm, HB.out⟩
  · have H1 := Lib.hid (show ws.any (fun x => longB x) = false by rw [List.any_eq_false]; intro x hx hu; exact h1 ⟨x, hx, hu⟩)
    have HB := Lib.hid hb
    clear h1 hb
    go_wp2
    go_ret
    exact ⟨ret_bool H1.out.symm, HB.out⟩
set_option maxRecDepth 100000 in
set_option maxHeartbeats 4000000 in
theorem ixDup_any (A : Option Addr) (n cap Bd : Nat) (ws : List Wsh) (g : Nat) (q : ByteArray) (w : World) (hl : ws.length = n) (hr : WRd w Bd A ws) (hB : Bd ≤ w.heap.size) (hc : n ≤ cap) (hm : cap ≤ maxLen) (hh : ∀ x ∈ ws, x.nm.size ≤ 1000000000 ∧ x.tn.size ≤ 1000000000) (hq : w.cell? ⟨g, 0, none⟩ = some (.string q)) (hg : g < w.heap.size) :
    Calls Tryd.prog 38 #[.slice A n cap, .func (.func 29) #[] #[.pointer (some ⟨g, 0, none⟩)]] w fun e w' => WhAt (∃ x ∈ ws, decide (x.nm = q) = true) e ∧ Below w.heap.size w w' := by
  subst hl
  have hm' := hm
  unfold maxLen at hm'
  have HR := Lib.hid hr
  have HH := Lib.hid hh
  clear hr hh hm
  go_enter Tryd.func38, Tryd.ntmps38
  go_wp2_with fail
  go_loopw [8] (fun i W => ∃ k : Nat, k ≤ ws.length ∧ i = .int .i64 k ∧ (∀ x ∈ ws.take k, ¬ decide (x.nm = q) = true) ∧ Below w.heap.size w W) (fun i _ => ws.length - (intOf i).toNat)
  case atStart => exact ⟨0, by omega, rfl, (fun x hx => (by simp at hx)), Below.refl _ _⟩
  case round =>
    obtain ⟨k, hk, rfl, hno, hbw⟩ := hrel
    have HNO := Lib.hid hno
    have HBW := Lib.hid hbw
    have hs := hbw.size
    clear hno
    by_cases hlt : k < ws.length
    · obtain ⟨b, off, rfl, hb, hcell⟩ := (HR.out.below (hbw.mono hB)).at_ (by omega)
      have hat := hcell k hlt
      obtain ⟨x, hx⟩ : ∃ x, x = ws[k] := ⟨_, rfl⟩
      have hxm : x ∈ ws := hx ▸ List.getElem_mem hlt
      have hok := HH.out x hxm
      rw [← hx] at hat
      have HX := Lib.hid hx
      clear hx hcell hbw
      obtain ⟨nm, dv, tn, fn, fd, lo, hi⟩ := x
      obtain ⟨a0, a1, a2, a3, a4, a5, a6⟩ := hat
      dsimp only at a0 a1 a2 a3 a4 a5 a6 hok
      have hbw' : b < wr.heap.size := by omega
      have hc0 := fnDup_any nm dv tn fn fd lo hi g q wr ((HBW.out.cell (p := ⟨g, 0, none⟩) hg).trans hq) (by omega)
      have HXM := Lib.hid hxm
      clear hok hxm
      cases hv : decide (nm = q) with
      | true =>
        rw [hv] at hc0
        have HC := Lib.hid hc0
        have HV := Lib.hid hv
        clear hc0 hv
        go_wp2_with fail
        refine HC.out.mono ?_
        rintro e w' ⟨rfl, hb1⟩
        have HB1 := Lib.hid (HBW.out.trans (hb1.mono hs))
        clear hb1
        go_wp2
        go_ret
        exact ⟨⟨k, rfl, .inl ⟨by omega, _, HXM.out, HV.out⟩⟩, HB1.out⟩
      | false =>
        rw [hv] at hc0
        have HC := Lib.hid hc0
        have HV := Lib.hid hv
        clear hc0 hv
        go_wp2_with fail
        refine HC.out.mono ?_
        rintro e w' ⟨rfl, hb1⟩
        have HB1 := Lib.hid (HBW.out.trans (hb1.mono hs))
        clear hb1
        go_wp2
        go_roundw
        case rel =>
          refine ⟨k + 1, by omega, by go_num, (fun y hy => ?_), HB1.out⟩
          rw [take_snoc ws k hlt, List.mem_append, List.mem_singleton] at hy
          rcases hy with hy | hy
          · exact HNO.out y hy
          · rw [hy, ← HX.out]
            have := HV.out
            rw [this]
            simp
        case measure => simp [intOf]; omega
    · have HN := Lib.hid (show ¬ ∃ x ∈ ws, decide (x.nm = q) = true by
        have h1 := HNO.out
        rw [List.take_of_length_le (by omega)] at h1
        rintro ⟨x, hx, hu⟩
        exact h1 x hx hu)
      go_wp2
      go_ret
      exact ⟨⟨-1, rfl, .inr ⟨rfl, HN.out⟩⟩, HBW.out⟩
theorem cfDup_any (A : Option Addr) (n cap Bd : Nat) (ws : List Wsh) (g : Nat) (q : ByteArray) (w : World) (hl : ws.length = n) (hr : WRd w Bd A ws) (hB : Bd ≤ w.heap.size) (hc : n ≤ cap) (hm : cap ≤ maxLen) (hh : ∀ x ∈ ws, x.nm.size ≤ 1000000000 ∧ x.tn.size ≤ 1000000000) (hq : w.cell? ⟨g, 0, none⟩ = some (.string q)) (hg : g < w.heap.size) :
    Calls Tryd.prog 26 #[.slice A n cap, .func (.func 29) #[] #[.pointer (some ⟨g, 0, none⟩)]] w fun e w' => e = .returned (.bool (ws.any fun x => decide (x.nm = q))) ∧ Below w.heap.size w w' := by
  have H := Lib.hid (ixDup_any A n cap Bd ws g q w hl hr hB hc hm hh hq hg)
  clear hl hr hh
  go_enter Tryd.func26, Tryd.ntmps26
  go_wp2_with fail
  refine H.out.mono ?_
  rintro e w' ⟨⟨z, rfl, ⟨h0, h1⟩ | ⟨rfl, h1⟩⟩, hb⟩
  · have H1 := Lib.hid (show ws.any (fun x => decide (x.nm = q)) = true by obtain ⟨x, hx, hu⟩ := h1; exact List.any_eq_true.2 ⟨x, hx, hu⟩)
    have HB := Lib.hid hb
    clear h1 hb
    go_wp2
    go_ret
    exact ⟨ret_bool H1.out.symm, HB.out⟩
  · have H1 := Lib.hid (show ws.any (fun x => decide (x.nm = q)) = false by rw [List.any_eq_false]; intro x hx hu; exact h1 ⟨x, hx, hu⟩)
    have HB := Lib.hid hb
    clear h1 hb
    go_wp2
    go_ret
    exact ⟨ret_bool H1.out.symm, HB.out⟩
end Go.Proofs.YtkamepalomkpbaaDoor
namespace Go.Proofs.YtkamepalomkpbaaDoor
open Go.RowKit
theorem WRd.take {w : World} {Bd : Nat} {A : Option Addr} {ws : List Wsh} (h : WRd w Bd A ws) (k : Nat) : WRd w Bd A (ws.take k) := fun hl => by
  rw [List.length_take] at hl
  obtain ⟨b, off, e, hb, hc⟩ := h (by omega)
  refine ⟨b, off, e, hb, fun i hi => ?_⟩
  rw [List.length_take] at hi
  rw [List.getElem_take]
  exact hc i (by omega)
theorem seen_take (ws : List Wsh) (k : Nat) (n : ByteArray) : ((ws.take k).any fun x => decide (x.nm = n)) = seenB (nms (ws.take k)) n := by
  unfold seenB nms
  rw [List.any_map]
  rfl
def fewB (ws : List Wsh) (m : Nat) : Bool := (decide (ws.length ≤ 5) || (decide (11 ≤ ws.length) && decide (ws.length ≤ 14))) && (decide (m ≤ 50) && !(ws.any longB))
set_option maxRecDepth 100000 in
set_option maxHeartbeats 4000000 in
theorem few_any (A : Option Addr) (n cap : Nat) (B : Option Addr) (m c2 : Nat) (ws : List Wsh) (Bd : Nat) (w : World) (hwl : ws.length = n) (hwr : WRd w Bd A ws) (hnc : n ≤ cap) (hn : cap ≤ maxLen) (hmc : m ≤ c2) (hm : c2 ≤ maxLen) (hok : ∀ x ∈ ws, x.nm.size ≤ maxLen ∧ x.tn.size ≤ maxLen) (hB : Bd ≤ w.heap.size) :
    Calls Tryd.prog 15 #[.agg #[.slice A n cap, .slice B m c2]] w fun e w' => e = .returned (.bool (fewB ws m)) ∧ Below w.heap.size w w' := by
  have hb0 := bw_new (Below.refl _ w) (.cells #[.slice A n cap, .slice B m c2] 29)
  have HB0 := Lib.hid hb0
  have HCF := Lib.hid (cfFew_any A n cap Bd ws (w.alloc (.cells #[.slice A n cap, .slice B m c2] 29)) hwl (hwr.below (hb0.mono hB)) (by simp; omega) hnc hn hok)
  unfold maxLen at hn hm
  have HE := Lib.hid (show fewB ws m = ((decide (n ≤ 5) || (decide (11 ≤ n) && decide (n ≤ 14))) && (decide (m ≤ 50) && !(ws.any longB))) by unfold fewB; rw [hwl])
  clear hwl hwr hok hb0
  generalize fewB ws m = r at *
  generalize ws.any longB = b at *
  by_cases h5 : n ≤ 5
  · by_cases hm50 : m ≤ 50
    · have HR := Lib.hid (show r = !b by rw [HE.out]; simp [h5, hm50])
      go_enter Tryd.func15, Tryd.ntmps15
      go_wp2_with fail
      refine HCF.out.mono ?_
      rintro e w1 ⟨rfl, hb1⟩
      have HB1 := Lib.hid (HB0.out.trans (hb1.mono (by simp)))
      clear hb1
      go_wp2
      go_ret
      exact ⟨ret_bool (by first | exact HR.out.symm | (rw [HR.out]; simp [show (n : Int) ≤ 14 by omega])), HB1.out⟩
    · have HR := Lib.hid (show r = false by rw [HE.out]; simp [hm50])
      go_enter Tryd.func15, Tryd.ntmps15
      go_wp2
      go_ret
      exact ⟨ret_bool (by first | exact HR.out.symm | (rw [HR.out]; simp; omega) | (rw [HR.out]; simp)), HB0.out⟩
  · by_cases h11 : 11 ≤ n
    · by_cases h14 : n ≤ 14
      · by_cases hm50 : m ≤ 50
        · have HR := Lib.hid (show r = !b by rw [HE.out]; simp [h11, h14, hm50])
          go_enter Tryd.func15, Tryd.ntmps15
          go_wp2_with fail
          refine HCF.out.mono ?_
          rintro e w1 ⟨rfl, hb1⟩
          have HB1 := Lib.hid (HB0.out.trans (hb1.mono (by simp)))
          clear hb1
          go_wp2
          go_ret
          exact ⟨ret_bool (by first | exact HR.out.symm | (rw [HR.out]; simp [show (n : Int) ≤ 14 by omega])), HB1.out⟩
        · have HR := Lib.hid (show r = false by rw [HE.out]; simp [hm50])
          go_enter Tryd.func15, Tryd.ntmps15
          go_wp2
          go_ret
          exact ⟨ret_bool (by first | exact HR.out.symm | (rw [HR.out]; simp; omega) | (rw [HR.out]; simp)), HB0.out⟩
      · have HR := Lib.hid (show r = false by rw [HE.out]; simp [h5, h14])
        go_enter Tryd.func15, Tryd.ntmps15
        go_wp2
        go_ret
        exact ⟨ret_bool (by first | exact HR.out.symm | (rw [HR.out]; simp; omega) | (rw [HR.out]; simp)), HB0.out⟩
    · have HR := Lib.hid (show r = false by rw [HE.out]; simp [h5, h11])
      go_enter Tryd.func15, Tryd.ntmps15
      go_wp2
      go_ret
      exact ⟨ret_bool (by first | exact HR.out.symm | (rw [HR.out]; simp; omega) | (rw [HR.out]; simp)), HB0.out⟩
def LckRel (w : World) (Bd : Nat) (A : Option Addr) (n cap : Nat) (B : Option Addr) (m c2 : Nat) (ws : List Wsh) (rules : List Int) (k : Nat) (wr : World) : Prop :=
  k ≤ n ∧ wsE [] ws = wsE (nms (ws.take k)) (ws.drop k) ∧ Blk wr w.heap.size 29 [.slice A n cap, .slice B m c2] ∧
    Pb wr Bd A n cap B m c2 ws rules ∧ Below w.heap.size w wr ∧ w.heap.size + 1 ≤ wr.heap.size
set_option maxRecDepth 100000 in
set_option maxHeartbeats 4000000 in
theorem lcheck37_any (A : Option Addr) (n cap : Nat) (B : Option Addr) (m c2 : Nat) (ws : List Wsh) (rules : List Int) (Bd : Nat) (w : World) (hp : Pb w Bd A n cap B m c2 ws rules) (hB : Bd ≤ w.heap.size) :
    Calls Tryd.prog 16 #[.agg #[.slice A n cap, .slice B m c2]] w fun e w' => e = .returned (.int .i64 (pbE ws rules)) ∧ Below w.heap.size w w' := by
  have hl := hp.wl
  have hcm := hp.wm
  have hnc := hp.wc
  unfold maxLen at hcm
  by_cases h0 : 12 < n
  · have HE := Lib.hid (show pbE ws rules = 4 by unfold pbE; rw [if_pos (by omega)])
    clear hp hl
    go_enter Tryd.func16, Tryd.ntmps16
    go_wp2
    go_ret
    exact ⟨ret_int HE.out.symm, bw_new (Below.refl _ w) _⟩
  · have HE := Lib.hid (show pbE ws rules = if wsE [] ws ≠ 0 then wsE [] ws else if 48 < rules.length then 4 else sqE 128 3 none rules by unfold pbE; rw [if_neg (by omega)])
    have hn12 : n ≤ 12 := by omega
    have HL := Lib.hid hl
    have HP := Lib.hid hp
    clear hl hp h0
    go_enter Tryd.func16, Tryd.ntmps16
    go_wp2_with fail
    go_loopw [16] (fun v wr => ∃ k : Nat, v = .int .i64 k ∧ LckRel w Bd A n cap B m c2 ws rules k wr) (fun v _ => n - (intOf v).toNat)
    case atStart =>
      have hb0 := bw_new (Below.refl _ w) (.cells #[.slice A n cap, .slice B m c2] 29)
      exact ⟨0, rfl, by omega, rfl, Blk.new, HP.out.keep hB hb0, hb0, by simp⟩
    case round =>
      obtain ⟨k, rfl, hk, ho, hbx, hpr, hb, hs⟩ := hrel
      have HO := Lib.hid ho
      have HBX := Lib.hid hbx
      have HPR := Lib.hid hpr
      have HB := Lib.hid hb
      clear ho hbx hpr hb
      by_cases hlt : k < n
      · have hlt' : k < ws.length := by rw [HL.out]; exact hlt
        obtain ⟨b, off, rfl, hbd, hcell⟩ := HPR.out.wr.at_ (by omega)
        obtain ⟨hI1, hI2, hI3, hI4⟩ := HPR.out.ok ws[k] (List.getElem_mem hlt')
        have hat := hcell k hlt'
        obtain ⟨x, hx⟩ : ∃ x, x = ws[k] := ⟨_, rfl⟩
        rw [← hx] at hat hI1 hI2 hI3 hI4
        have HX := Lib.hid hx
        clear hx hcell
        obtain ⟨nm, dv, tn, fn, fd, lo, hi⟩ := x
        obtain ⟨a0, a1, a2, a3, a4, a5, a6⟩ := hat
        dsimp only at a0 a1 a2 a3 a4 a5 a6 hI1 hI2 hI3 hI4
        have hName := Lib.hid (fun W => name_any nm W hI3)
        have hTone := Lib.hid (fun W => name_any tn W hI4)
        have hPit := Lib.hid (fun W => pcheck_any fn fd W hI1 hI2)
        have hCom := Lib.hid (fun W => compass_any lo hi W)
        have hbw : b < wr.heap.size := by omega
        have hxn : ws[k].nm = nm := by rw [← HX.out]
        have hxe : wE ws[k] = if dv < 0 ∨ 8 ≤ dv then 3 else if nameB tn = false then 8 else if pErr fn fd ≠ 0 then pErr fn fd else cmE lo hi := by rw [← HX.out]; rfl
        have HXN := Lib.hid hxn
        have HXE := Lib.hid hxe
        have hb1 := bw_new (Below.refl _ wr) (.cells #[.string nm, .int .i64 dv, .string tn, .int .i64 fn, .int .i64 fd, .int .i64 lo, .int .i64 hi] 48)
        have hX1 : Blk (wr.alloc (.cells #[.string nm, .int .i64 dv, .string tn, .int .i64 fn, .int .i64 fd, .int .i64 lo, .int .i64 hi] 48)) wr.heap.size 48 [.string nm, .int .i64 dv, .string tn, .int .i64 fn, .int .i64 fd, .int .i64 lo, .int .i64 hi] := Blk.new
        have hcf := cfDup_any (some ⟨b, off, none⟩) k cap Bd (ws.take k) wr.heap.size nm (wr.alloc (.cells #[.string nm, .int .i64 dv, .string tn, .int .i64 fn, .int .i64 fd, .int .i64 lo, .int .i64 hi] 48)) (by rw [List.length_take]; omega) ((HPR.out.wr.take k).below (hb1.mono (by omega))) (by simp; omega) (by omega) HPR.out.wm (fun x hx => (HPR.out.ok x (List.mem_of_mem_take hx)).2.2) (hX1.cell 0) (by simp)
        rw [seen_take] at hcf
        have HBX1 := Lib.hid (HBX.out.keep hb1)
        have HPR1 := Lib.hid (HPR.out.keep (by omega) hb1)
        have HB1 := Lib.hid (HB.out.trans (hb1.mono (by omega)))
        have HX1 := Lib.hid hX1
        have hs1 : wr.heap.size + 1 = (wr.alloc (.cells #[.string nm, .int .i64 dv, .string tn, .int .i64 fn, .int .i64 fd, .int .i64 lo, .int .i64 hi] 48)).heap.size := by simp
        obtain ⟨p0, p1⟩ := HBX1.out.two
        clear hI1 hI2 hI3 hI4 hxn hxe hb1 hX1
        cases hq : nameB nm with
        | false =>
          have hN := hName.out
          rw [hq] at hN
          have hN := Lib.hid hN
          have HR := Lib.hid (show pbE ws rules = 8 by
            rw [HE.out, HO.out, ws_name hlt' (by rw [HXN.out]; exact hq)]; rfl)
          clear hq hName hcf hs1
          go_wp2_with fail
          refine (hN.out _).mono ?_
          rintro e w' ⟨rfl, rfl⟩
          go_wp2
          go_ret
          exact ⟨ret_int HR.out.symm, HB1.out⟩
        | true =>
          have hN := hName.out
          rw [hq] at hN
          have hN := Lib.hid hN
          have HQ := Lib.hid (show nameB ws[k].nm = true by rw [HXN.out]; exact hq)
          clear hq hName
          cases hsb : seenB (nms (ws.take k)) nm with
          | true =>
            rw [hsb] at hcf
            have HCF := Lib.hid hcf
            have HR := Lib.hid (show pbE ws rules = 9 by
              rw [HE.out, HO.out, ws_dup hlt' HQ.out (by rw [HXN.out]; exact hsb)]; rfl)
            clear hcf hsb hs1
            go_wp2_with fail
            refine (hN.out _).mono ?_
            rintro e w' ⟨rfl, rfl⟩
            go_wp2_with fail
            refine HCF.out.mono ?_
            rintro e w2 ⟨rfl, hb2⟩
            have HB2 := Lib.hid (HB1.out.trans (hb2.mono HB1.out.size))
            clear hb2
            go_wp2
            go_ret
            exact ⟨ret_int HR.out.symm, HB2.out⟩
          | false =>
            rw [hsb] at hcf
            have HCF := Lib.hid hcf
            have HSB := Lib.hid (show seenB (nms (ws.take k)) ws[k].nm = false by rw [HXN.out]; exact hsb)
            clear hcf hsb
            go_wp2_with fail
            refine (hN.out _).mono ?_
            rintro e w' ⟨rfl, rfl⟩
            go_wp2_with fail
            refine HCF.out.mono ?_
            rintro e w2 ⟨rfl, hb2⟩
            have HX2 := Lib.hid (HX1.out.keep hb2)
            have HBX2 := Lib.hid (HBX1.out.keep hb2)
            have HPR2 := Lib.hid (HPR1.out.keep (by omega) hb2)
            have HB2 := Lib.hid (HB1.out.trans (hb2.mono HB1.out.size))
            have hs2 : w.heap.size + 1 ≤ w2.heap.size := by have := hb2.size; omega
            obtain ⟨x0, x1, x2, x3, x4, x5, x6⟩ := HX2.out.wish
            have HER := Lib.hid (fun z (hz : wE ws[k] = z) (h : z ≠ 0) => show pbE ws rules = z by
              have h1 := ws_err hlt' HQ.out HSB.out (by rw [hz]; exact h)
              rw [HE.out, HO.out, h1, hz, if_pos h])
            clear hb2 a0 a1 a2 a3 a4 a5 a6 hs1
            by_cases d1 : dv < 0
            · have HR := Lib.hid (HER.out 3 (by rw [HXE.out, if_pos (.inl d1)]) (by decide))
              go_wp2
              go_ret
              exact ⟨ret_int HR.out.symm, HB2.out⟩
            by_cases d2 : 8 ≤ dv
            · have HR := Lib.hid (HER.out 3 (by rw [HXE.out, if_pos (.inr d2)]) (by decide))
              go_wp2
              go_ret
              exact ⟨ret_int HR.out.symm, HB2.out⟩
            have d3 : ¬ (dv < 0 ∨ 8 ≤ dv) := by omega
            have HXF := HXE.out
            rw [if_neg d3] at HXF
            have HXF := Lib.hid HXF
            clear d3 HXE
            cases hq2 : nameB tn with
            | false =>
              have hN2 := hTone.out
              rw [hq2] at hN2
              have HN2 := Lib.hid hN2
              have HR := Lib.hid (HER.out 8 (by rw [HXF.out, if_pos hq2]) (by decide))
              clear hq2 hN2 hTone
              go_wp2_with fail
              refine (HN2.out _).mono ?_
              rintro e w' ⟨rfl, rfl⟩
              go_wp2
              go_ret
              exact ⟨ret_int HR.out.symm, HB2.out⟩
            | true =>
              have hN2 := hTone.out
              rw [hq2] at hN2
              have HN2 := Lib.hid hN2
              have HXG := HXF.out
              rw [if_neg (by rw [hq2]; decide)] at HXG
              clear hq2 hN2 hTone HXF
              obtain ⟨pe, hpe⟩ : ∃ z, z = pErr fn fd := ⟨_, rfl⟩
              obtain ⟨ce, hce⟩ : ∃ z, z = cmE lo hi := ⟨_, rfl⟩
              rw [← hpe, ← hce] at HXG
              rw [← hpe] at hPit
              rw [← hce] at hCom
              have HXG := Lib.hid HXG
              clear hpe hce
              go_wp2_with fail
              refine (HN2.out _).mono ?_
              rintro e w' ⟨rfl, rfl⟩
              go_wp2_with fail
              refine (hPit.out _).mono ?_
              rintro e w3 ⟨rfl, hb3⟩
              have HX3 := Lib.hid (HX2.out.keep hb3)
              have HBX3 := Lib.hid (HBX2.out.keep hb3)
              have HPR3 := Lib.hid (HPR2.out.keep (by omega) hb3)
              have HB3 := Lib.hid (HB2.out.trans (hb3.mono HB2.out.size))
              have hs3 : w.heap.size + 1 ≤ w3.heap.size := by have := hb3.size; omega
              clear x0 x1 x2 x3 x4 x5 x6 hb3
              by_cases he1 : pe = 0
              · have hz1 : (pe != 0) = false := by simpa using he1
                have hxh : wE ws[k] = ce := by rw [HXG.out, if_neg (by simpa using he1)]
                have HXH := Lib.hid hxh
                clear he1 hxh
                obtain ⟨x0, x1, x2, x3, x4, x5, x6⟩ := HX3.out.wish
                go_wp2_with fail
                refine (hCom.out _).mono ?_
                rintro e w4 ⟨rfl, hb4⟩
                have HBX4 := Lib.hid (HBX3.out.keep hb4)
                have HPR4 := Lib.hid (HPR3.out.keep (by omega) hb4)
                have HB4 := Lib.hid (HB3.out.trans (hb4.mono HB3.out.size))
                have hs4 : w.heap.size + 1 ≤ w4.heap.size := by have := hb4.size; omega
                clear x0 x1 x2 x3 x4 x5 x6 hb4
                by_cases he2 : ce = 0
                · have hz2 : (ce != 0) = false := by simpa using he2
                  have HS := Lib.hid (ws_step hlt' HQ.out HSB.out (by rw [HXH.out]; exact he2))
                  clear he2
                  go_wp2
                  go_roundw
                  case rel => exact ⟨k + 1, by go_num, by omega, by rw [HO.out, HS.out], HBX4.out, HPR4.out, HB4.out, hs4⟩
                  case measure => simp [intOf]; omega
                · have hz2 : (ce != 0) = true := by simpa using he2
                  have HR := Lib.hid (HER.out ce HXH.out he2)
                  clear he2
                  go_wp2
                  go_ret
                  exact ⟨ret_int HR.out.symm, HB4.out⟩
              · have hz1 : (pe != 0) = true := by simpa using he1
                have HR := Lib.hid (HER.out pe (by rw [HXG.out, if_pos he1]) he1)
                clear he1
                go_wp2
                go_ret
                exact ⟨ret_int HR.out.symm, HB3.out⟩
      · have hkn : k = n := by omega
        subst hkn
        have hE2 : pbE ws rules = if 48 < rules.length then 4 else sqE 128 3 none rules := by
          rw [HE.out, HO.out, List.drop_eq_nil_of_le (by rw [HL.out]; exact Nat.le_refl _)]
          rfl
        have HE2 := Lib.hid hE2
        obtain ⟨p0, p1⟩ := HBX.out.two
        have hml := HPR.out.rl
        have hmc := HPR.out.rc
        have hmm := HPR.out.rm
        unfold maxLen at hmm
        clear hE2
        by_cases hm48 : 48 < m
        · have HR := Lib.hid (show pbE ws rules = 4 by rw [HE2.out, if_pos (by omega)])
          clear hml
          go_wp2
          go_ret
          exact ⟨ret_int HR.out.symm, HB.out⟩
        · have HE3 := Lib.hid (show pbE ws rules = sqE 128 3 none rules by rw [HE2.out, if_neg (by omega)])
          have HML := Lib.hid hml
          clear hml
          go_wp2
          go_loop [63] (fun v => ∃ j : Nat, j ≤ m ∧ v = .int .i64 j ∧ pbE ws rules = sqE 128 3 (rules.take j).getLast? (rules.drop j)) (fun v => m - (intOf v).toNat)
          case atStart => exact ⟨0, by omega, rfl, by rw [HE3.out]; rfl⟩
          case round =>
            obtain ⟨j, hj, rfl, ho⟩ := hrel
            have HO := Lib.hid ho
            clear ho
            by_cases hlt : j < m
            · have hltr : j < rules.length := by rw [HML.out]; exact hlt
              obtain ⟨b, off, rfl, hb, hc⟩ := rd_at HPR.out.rr (by omega)
              have hcj := hc j hltr
              obtain ⟨x, hx⟩ : ∃ x, x = rules[j] := ⟨_, rfl⟩
              rw [← hx] at hcj
              have HX := Lib.hid hx
              have HC := Lib.hid hc
              clear hx hc
              by_cases h1 : x < 0
              · have HR := Lib.hid (show pbE ws rules = 3 by rw [HO.out, sq_bad hltr (by rw [← HX.out]; exact .inl h1)])
                go_wp2
                go_ret
                exact ⟨ret_int HR.out.symm, HB.out⟩
              · by_cases h2 : 128 ≤ x
                · have HR := Lib.hid (show pbE ws rules = 3 by rw [HO.out, sq_bad hltr (by rw [← HX.out]; exact .inr h2)])
                  go_wp2
                  go_ret
                  exact ⟨ret_int HR.out.symm, HB.out⟩
                · have h1' : 0 ≤ x := by omega
                  have h2' : x ≤ 127 := by omega
                  have HN := Lib.hid (show ¬ (rules[j] < 0 ∨ 128 ≤ rules[j]) by rw [← HX.out]; omega)
                  cases j with
                  | zero =>
                    rw [Nat.add_zero] at hcj
                    have HS := Lib.hid (sq_step (e := 3) hltr HN.out (last_zero rules _))
                    go_wp2
                    go_round
                    case rel => exact ⟨1, by omega, rfl, by rw [HO.out, HS.out]⟩
                    case measure => simp [intOf]; omega
                  | succ i =>
                    have hci : wr.cell? ⟨b, off + i, none⟩ = some (.int .i64 rules[i]) := HC.out i (by omega)
                    obtain ⟨y, hy⟩ : ∃ y, y = rules[i]'(by omega) := ⟨_, rfl⟩
                    rw [← hy] at hci
                    have hL := last_succ rules i (by omega) x
                    rw [HX.out] at hL
                    have HLs := Lib.hid hL
                    have HY := Lib.hid hy
                    clear hy hL
                    by_cases h3 : x ≤ y
                    · have HR := Lib.hid (show pbE ws rules = 6 by rw [HO.out, sq_ord hltr HN.out (by rw [HLs.out, ← HX.out, ← HY.out]; exact decide_eq_true h3)])
                      go_wp2
                      go_ret
                      exact ⟨ret_int HR.out.symm, HB.out⟩
                    · have h3' : y < x := by omega
                      have HS := Lib.hid (sq_step (e := 3) hltr HN.out (by rw [HLs.out, ← HX.out, ← HY.out]; exact decide_eq_false h3))
                      go_wp2
                      go_round
                      case rel => exact ⟨i + 1 + 1, by omega, by go_num, by rw [HO.out, HS.out]⟩
                      case measure => simp [intOf]; omega
            · have HR := Lib.hid (show pbE ws rules = 0 by rw [HO.out, List.drop_eq_nil_of_le (by rw [HML.out]; omega)]; rfl)
              go_wp2
              go_ret
              exact ⟨ret_int HR.out.symm, HB.out⟩
end Go.Proofs.YtkamepalomkpbaaDoor
namespace Go.Proofs.YtkamepalomkpbaaDoor
open Go.RowKit
set_option maxRecDepth 100000 in
set_option maxHeartbeats 4000000 in
theorem wheights_err (A : Option Addr) (n cap : Nat) (B : Option Addr) (m c2 : Nat) (ws : List Wsh) (rules : List Int) (Bd : Nat) (z : Int) (c : Int) (w : World) (hp : Pb w Bd A n cap B m c2 ws rules) (hB : Bd ≤ w.heap.size) (hc : pbE ws rules = c) (h0 : c ≠ 0) :
    Calls Tryd.prog 18 #[.agg #[.slice A n cap, .slice B m c2], .int .i64 z] w fun e w' => e = .returned (.tuple #[.int .i64 0, .int .i64 0, .int .i64 c]) ∧ Below w.heap.size w w' := by
  have hb0 := bw_new (Below.refl _ w) (.cells #[.slice A n cap, .slice B m c2] 29)
  have H1 := Lib.hid (wcheck_any A n cap B m c2 ws rules Bd _ (hp.keep hB hb0) (by simp; omega))
  rw [hc] at H1
  have hz : (c != 0) = true := by simpa using h0
  have HB0 := Lib.hid hb0
  clear hp hc h0 hb0
  go_enter Tryd.func18, Tryd.ntmps18
  go_wp2_with fail
  refine H1.out.mono ?_
  rintro e w1 ⟨rfl, hk⟩
  have HB := Lib.hid (HB0.out.trans (hk.mono (by simp)))
  clear hk
  go_wp2
  exact bodyPost_ret (v := .tuple #[.int .i64 0, .int .i64 0, .int .i64 c]) (by simp [results, Tryd.results18, go_sem]) rfl ⟨rfl, HB.out⟩
set_option maxRecDepth 100000 in
set_option maxHeartbeats 4000000 in
theorem wconf_err (A : Option Addr) (n cap : Nat) (B : Option Addr) (m c2 : Nat) (ws : List Wsh) (rules : List Int) (Bd : Nat) (c : Int) (w : World) (hp : Pb w Bd A n cap B m c2 ws rules) (hB : Bd ≤ w.heap.size) (hc : pbE ws rules = c) (h0 : c ≠ 0) :
    Calls Tryd.prog 19 #[.agg #[.slice A n cap, .slice B m c2]] w fun e w' => e = .returned (.tuple #[.slice none 0 0, .int .i64 c]) ∧ Below w.heap.size w w' := by
  have hb0 := bw_new (Below.refl _ w) (.cells #[.slice A n cap, .slice B m c2] 29)
  have H1 := Lib.hid (wcheck_any A n cap B m c2 ws rules Bd _ (hp.keep hB hb0) (by simp; omega))
  rw [hc] at H1
  have hz : (c != 0) = true := by simpa using h0
  have HB0 := Lib.hid hb0
  clear hp hc h0 hb0
  go_enter Tryd.func19, Tryd.ntmps19
  go_wp2_with fail
  refine H1.out.mono ?_
  rintro e w1 ⟨rfl, hk⟩
  have HB := Lib.hid (HB0.out.trans (hk.mono (by simp)))
  clear hk
  go_wp2
  exact bodyPost_ret (v := .tuple #[.slice none 0 0, .int .i64 c]) (by simp [results, Tryd.results19, go_sem]) rfl ⟨rfl, HB.out⟩
set_option maxRecDepth 100000 in
set_option maxHeartbeats 4000000 in
theorem alone_err (A : Option Addr) (n cap : Nat) (B : Option Addr) (m c2 : Nat) (ws : List Wsh) (rules : List Int) (Bd : Nat) (c : Int) (w : World) (hp : Pb w Bd A n cap B m c2 ws rules) (hB : Bd ≤ w.heap.size) (hc : pbE ws rules = c) (h0 : c ≠ 0) :
    Calls Tryd.prog 12 #[.agg #[.slice A n cap, .slice B m c2]] w fun e w' => e = .returned (.tuple #[.slice none 0 0, .int .i64 c]) ∧ Below w.heap.size w w' := by
  have hb0 := bw_new (Below.refl _ w) (.cells #[.slice A n cap, .slice B m c2] 29)
  have H1 := Lib.hid (wcheck_any A n cap B m c2 ws rules Bd _ (hp.keep hB hb0) (by simp; omega))
  rw [hc] at H1
  have hz : (c != 0) = true := by simpa using h0
  have HB0 := Lib.hid hb0
  clear hp hc h0 hb0
  go_enter Tryd.func12, Tryd.ntmps12
  go_wp2_with fail
  refine H1.out.mono ?_
  rintro e w1 ⟨rfl, hk⟩
  have HB := Lib.hid (HB0.out.trans (hk.mono (by simp)))
  clear hk
  go_wp2
  exact bodyPost_ret (v := .tuple #[.slice none 0 0, .int .i64 c]) (by simp [results, Tryd.results12, go_sem]) rfl ⟨rfl, HB.out⟩
end Go.Proofs.YtkamepalomkpbaaDoor
