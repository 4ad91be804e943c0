/- Chapter 37's law: the functions that Partition and WishPlans hand to slices.ContainsFunc, and what it returns for them. Conditions: the problem and the groups are right where they are read; the library's table of powers of ten reads as its text lays it. Chapter 37's law: Partition, the first error of a plan of a right problem. Conditions: the problem is right; the library's table of powers of ten reads as its text lays it. -/
import Derived.Test.YtkamepalomkpbaaGreatDoorWishLPerm
import Derived.Test.YtkamepalomkpbaaGreatDoorWishPlan
import Derived.OneCell
namespace Go.Proofs.YtkamepalomkpbaaGreatDoor
section
open Go.RowKit

/-- What ContainsFunc's loop returns: an index, or -1. -/
def RetAt (p : Prop) (e : Ending) : Prop := ∃ z : Int, e = .returned (.int .i64 z) ∧ ((0 ≤ z ∧ p) ∨ (z = -1 ∧ ¬ p))

/-- Partition's first function: whether a number is among those seen. -/
theorem fnSeen_any (x : Int) (gS : Nat) (A : Option Addr) (n c Bd : Nat) (used : List Int) (w : World) (hb : w.cell? ⟨gS, 0, none⟩ = some (.slice A n c)) (hl : used.length = n) (hr : Rd i64v w Bd A used) (hc : n ≤ c) (hm : c ≤ maxLen) :
    Calls Tryz.prog 39 #[.int .i64 x, .pointer (some ⟨gS, 0, none⟩)] w fun e w' => e = .returned (.bool (decide (x ∈ used))) ∧ w = w' := by
  have H := Lib.hid (contains_any used x A n c Bd w hl hr hc hm)
  clear hr
  go_enter Tryz.func39, Tryz.ntmps39
  go_wp2_with fail
  refine H.out.mono ?_
  rintro e w' ⟨rfl, rfl⟩
  go_wp2
  go_ret
  exact ⟨rfl, rfl⟩

set_option maxHeartbeats 1000000 in
theorem ixSeen_any (gS : Nat) (A : Option Addr) (n c Bd : Nat) (used : List Int) (G : Option Addr) (gn gc : Nat) (g : List Int) (w : World) (hb : w.cell? ⟨gS, 0, none⟩ = some (.slice A n c)) (hl : used.length = n) (hr : Rd i64v w Bd A used) (hc : n ≤ c) (hm : c ≤ maxLen)
    (hgl : g.length = gn) (hgr : Rd i64v w Bd G g) (hgc : gn ≤ gc) (hgm : gc ≤ maxLen) :
    Calls Tryz.prog 47 #[.slice G gn gc, .func (.func 39) #[] #[.pointer (some ⟨gS, 0, none⟩)]] w fun e w' => RetAt (∃ x ∈ g, x ∈ used) e ∧ w = w' := by
  subst hgl
  have hm' := hgm
  unfold maxLen at hm'
  have H := Lib.hid (fun x => fnSeen_any x gS A n c Bd used w hb hl hr hc hm)
  clear hr hb
  go_enter Tryz.func47, Tryz.ntmps47
  go_wp2_with fail
  go_loop [8] (fun i => ∃ k : Nat, k ≤ g.length ∧ i = .int .i64 k ∧ Lib.Kept (∀ x ∈ g.take k, x ∉ used)) (fun i => g.length - (intOf i).toNat)
  case atStart => exact ⟨0, by omega, rfl, (show ∀ x ∈ g.take 0, x ∉ used from fun x hx => (by simp at hx))⟩
  case round =>
    obtain ⟨k, hk, rfl, hno⟩ := hrel
    have HNO := Lib.hid hno
    clear hno
    by_cases hlt : k < g.length
    · obtain ⟨b, off, rfl, hb, hcell⟩ := rd_at hgr (by omega)
      have hck := hcell k hlt
      obtain ⟨x, hx⟩ : ∃ x, x = g[k] := ⟨_, rfl⟩
      rw [← hx] at hck
      have HX := Lib.hid hx
      have hc0 := H.out x
      clear hx hcell hgr
      by_cases hv : x ∈ used
      · rw [decide_eq_true hv] at hc0
        have HC := Lib.hid hc0
        have HV := Lib.hid hv
        clear hv hc0
        go_wp2_with fail
        refine HC.out.mono ?_
        rintro e w' ⟨rfl, rfl⟩
        go_wp2
        go_ret
        exact ⟨⟨k, rfl, .inl ⟨by omega, x, by rw [HX.out]; exact List.getElem_mem hlt, HV.out⟩⟩, rfl⟩
      · rw [decide_eq_false hv] at hc0
        have HC := Lib.hid hc0
        have HV := Lib.hid hv
        clear hv hc0
        go_wp2_with fail
        refine HC.out.mono ?_
        rintro e w' ⟨rfl, rfl⟩
        go_wp2
        go_round
        case rel =>
          refine ⟨k + 1, by omega, by go_num, (show ∀ y ∈ g.take (k + 1), y ∉ used from fun y hy => ?_)⟩
          rw [take_snoc g k hlt, List.mem_append, List.mem_singleton] at hy
          rcases hy with hy | hy
          · exact HNO.out y hy
          · rw [hy, ← HX.out]; exact HV.out
        case measure => simp [intOf]; omega
    · have HN := Lib.hid (show ¬ ∃ x ∈ g, x ∈ used by
        have h1 : ∀ x ∈ g.take k, x ∉ used := HNO.out
        rw [List.take_of_length_le (by omega)] at h1
        rintro ⟨x, hx, hu⟩
        exact h1 x hx hu)
      go_wp2
      go_ret
      exact ⟨⟨-1, rfl, .inr ⟨rfl, HN.out⟩⟩, rfl⟩
theorem cfSeen_any (gS : Nat) (A : Option Addr) (n c Bd : Nat) (used : List Int) (G : Option Addr) (gn gc : Nat) (g : List Int) (w : World) (hb : w.cell? ⟨gS, 0, none⟩ = some (.slice A n c)) (hl : used.length = n) (hr : Rd i64v w Bd A used) (hc : n ≤ c) (hm : c ≤ maxLen)
    (hgl : g.length = gn) (hgr : Rd i64v w Bd G g) (hgc : gn ≤ gc) (hgm : gc ≤ maxLen) :
    Calls Tryz.prog 38 #[.slice G gn gc, .func (.func 39) #[] #[.pointer (some ⟨gS, 0, none⟩)]] w fun e w' => e = .returned (.bool (g.any fun x => decide (x ∈ used))) ∧ w = w' := by
  have H := Lib.hid (ixSeen_any gS A n c Bd used G gn gc g w hb hl hr hc hm hgl hgr hgc hgm)
  clear hb hl hr hgl hgr
  go_enter Tryz.func38, Tryz.ntmps38
  go_wp2_with fail
  refine H.out.mono ?_
  rintro e w' ⟨⟨z, rfl, ⟨h0, h1⟩ | ⟨rfl, h1⟩⟩, rfl⟩
  · have H1 := Lib.hid (show g.any (fun x => decide (x ∈ used)) = true by obtain ⟨x, hx, hu⟩ := h1; exact List.any_eq_true.2 ⟨x, hx, decide_eq_true hu⟩)
    clear h1
    go_wp2
    go_ret
    exact ⟨ret_bool H1.out.symm, rfl⟩
  · have H1 := Lib.hid (show g.any (fun x => decide (x ∈ used)) = false by rw [List.any_eq_false]; intro x hx; have : x ∉ used := fun hu => h1 ⟨x, hx, hu⟩; simpa using this)
    clear h1
    go_wp2
    go_ret
    exact ⟨ret_bool H1.out.symm, rfl⟩

/-- WishPlans' function: whether a group is long. -/
theorem fnLong_any (G : Option Addr) (gn gc : Nat) (w : World) (hgm : gn ≤ 9223372036854775807) :
    Calls Tryz.prog 22 #[.slice G gn gc] w fun e w' => e = .returned (.bool (decide (6 < gn))) ∧ w = w' := by
  by_cases h : 6 < gn
  · have HD := Lib.hid (decide_eq_true h)
    go_enter Tryz.func22, Tryz.ntmps22
    go_wp2
    go_ret
    exact ⟨ret_bool (by rw [HD.out]; simp; omega), rfl⟩
  · have HD := Lib.hid (decide_eq_false h)
    go_enter Tryz.func22, Tryz.ntmps22
    go_wp2
    go_ret
    exact ⟨ret_bool (by rw [HD.out]; simp; omega), rfl⟩
set_option maxHeartbeats 1000000 in
theorem ixLong_any (LA : Option Addr) (ln lc Bd : Nat) (gs : List (List Int)) (w : World) (hgl : gs.length = ln) (hgr : GRd w Bd LA gs) (hgc : ln ≤ lc) (hgm : lc ≤ maxLen) :
    Calls Tryz.prog 37 #[.slice LA ln lc, .func (.func 22) #[] #[]] w fun e w' => RetAt (∃ g ∈ gs, 6 < g.length) e ∧ w = w' := by
  subst hgl
  have hm' := hgm
  unfold maxLen at hm'
  go_enter Tryz.func37, Tryz.ntmps37
  go_wp2_with fail
  go_loop [8] (fun i => ∃ k : Nat, k ≤ gs.length ∧ i = .int .i64 k ∧ Lib.Kept (∀ x ∈ gs.take k, ¬ 6 < x.length)) (fun i => gs.length - (intOf i).toNat)
  case atStart => exact ⟨0, by omega, rfl, (show ∀ x ∈ gs.take 0, ¬ 6 < x.length from fun x hx => (by simp at hx))⟩
  case round =>
    obtain ⟨k, hk, rfl, hno⟩ := hrel
    have HNO := Lib.hid hno
    clear hno
    by_cases hlt : k < gs.length
    · obtain ⟨b, off, rfl, hb, hcell⟩ := hgr.at_ (by omega)
      obtain ⟨GA, gc, hck, hrd, hgc1, hgm1⟩ := hcell k hlt
      unfold maxLen at hgm1
      obtain ⟨x, hx⟩ : ∃ x, x = gs[k] := ⟨_, rfl⟩
      rw [← hx] at hck hgc1
      obtain ⟨xn, hxn⟩ : ∃ xn, xn = x.length := ⟨_, rfl⟩
      rw [← hxn] at hck hgc1
      have HX := Lib.hid hx
      have HXN := Lib.hid hxn
      have hc0 := fnLong_any GA xn gc w (by omega)
      clear hx hxn hcell hgr hrd
      by_cases hv : 6 < xn
      · rw [decide_eq_true hv] at hc0
        have HC := Lib.hid hc0
        clear hc0
        go_wp2_with fail
        refine HC.out.mono ?_
        rintro e w' ⟨rfl, rfl⟩
        go_wp2
        go_ret
        exact ⟨⟨k, rfl, .inl ⟨by omega, x, by rw [HX.out]; exact List.getElem_mem hlt, by rw [← HXN.out]; exact hv⟩⟩, rfl⟩
      · rw [decide_eq_false hv] at hc0
        have HC := Lib.hid hc0
        clear hc0
        go_wp2_with fail
        refine HC.out.mono ?_
        rintro e w' ⟨rfl, rfl⟩
        go_wp2
        go_round
        case rel =>
          refine ⟨k + 1, by omega, by go_num, (show ∀ y ∈ gs.take (k + 1), ¬ 6 < y.length from fun y hy => ?_)⟩
          rw [take_snoc gs k hlt, List.mem_append, List.mem_singleton] at hy
          rcases hy with hy | hy
          · exact HNO.out y hy
          · rw [hy, ← HX.out, ← HXN.out]; exact hv
        case measure => simp [intOf]; omega
    · have HN := Lib.hid (show ¬ ∃ g ∈ gs, 6 < g.length by
        have h1 : ∀ x ∈ gs.take k, ¬ 6 < x.length := HNO.out
        rw [List.take_of_length_le (by omega)] at h1
        rintro ⟨x, hx, hu⟩
        exact h1 x hx hu)
      go_wp2
      go_ret
      exact ⟨⟨-1, rfl, .inr ⟨rfl, HN.out⟩⟩, rfl⟩
theorem cfLong_any (LA : Option Addr) (ln lc Bd : Nat) (gs : List (List Int)) (w : World) (hgl : gs.length = ln) (hgr : GRd w Bd LA gs) (hgc : ln ≤ lc) (hgm : lc ≤ maxLen) :
    Calls Tryz.prog 21 #[.slice LA ln lc, .func (.func 22) #[] #[]] w fun e w' => e = .returned (.bool (gs.any fun g => decide (6 < g.length))) ∧ w = w' := by
  have H := Lib.hid (ixLong_any LA ln lc Bd gs w hgl hgr hgc hgm)
  clear hgl hgr
  go_enter Tryz.func21, Tryz.ntmps21
  go_wp2_with fail
  refine H.out.mono ?_
  rintro e w' ⟨⟨z, rfl, ⟨h0, h1⟩ | ⟨rfl, h1⟩⟩, rfl⟩
  · have H1 := Lib.hid (show gs.any (fun g => decide (6 < g.length)) = true by obtain ⟨x, hx, hu⟩ := h1; exact List.any_eq_true.2 ⟨x, hx, decide_eq_true hu⟩)
    clear h1
    go_wp2
    go_ret
    exact ⟨ret_bool H1.out.symm, rfl⟩
  · have H1 := Lib.hid (show gs.any (fun g => decide (6 < g.length)) = false by rw [List.any_eq_false]; intro x hx; have : ¬ 6 < x.length := fun hu => h1 ⟨x, hx, hu⟩; simpa using this)
    clear h1
    go_wp2
    go_ret
    exact ⟨ret_bool H1.out.symm, rfl⟩
end

section
open Go.RowKit

/-- What Partition's second function and its search carry: the box of the problem, the problem, the groups, the table. -/
def BdMem (w : World) (bP Bd : Nat) (A : Option Addr) (n cap : Nat) (B : Option Addr) (m c2 : Nat) (ws : List Wsh) (rules : List Int) (LA : Option Addr) (gs : List (List Int)) (W : World) : Prop :=
  Blk W bP 29 [.slice A n cap, .slice B m c2] ∧ Pb W Bd A n cap B m c2 ws rules ∧ GRd W Bd LA gs ∧ Tab W ∧ Below w.heap.size w W
theorem BdMem.below {w W W' : World} {bP Bd : Nat} {A : Option Addr} {n cap : Nat} {B : Option Addr} {m c2 : Nat} {ws : List Wsh} {rules : List Int} {LA : Option Addr} {gs : List (List Int)}
    (h : BdMem w bP Bd A n cap B m c2 ws rules LA gs W) (hB : Bd ≤ w.heap.size) (hb : Below W.heap.size W W') : BdMem w bP Bd A n cap B m c2 ws rules LA gs W' := by
  obtain ⟨h1, h2, h3, h4, h5⟩ := h
  exact ⟨h1.keep hb, h2.keep (Nat.le_trans hB h5.size) hb, h3.below (hb.mono (Nat.le_trans hB h5.size)), h4.below hb, h5.trans (hb.mono h5.size)⟩

set_option maxHeartbeats 1000000 in
/-- Partition's second function: whether a right group is not permitted. -/
theorem fnBad_any (bP : Nat) (A : Option Addr) (n cap : Nat) (B : Option Addr) (m c2 : Nat) (ws : List Wsh) (rules : List Int) (G : Option Addr) (gn gc : Nat) (g : List Int) (Bd : Nat) (w : World) (hx : Blk w bP 29 [.slice A n cap, .slice B m c2]) (hp : Pb w Bd A n cap B m c2 ws rules) (hB : Bd ≤ w.heap.size)
    (hr : ∀ x ∈ ws, WR x) (hz : gpE n g = 0) (hgl : g.length = gn) (hgr : Rd i64v w Bd G g) (hgc : gn ≤ gc) (hgm : gc ≤ maxLen) (ht : Tab w) :
    Calls Tryz.prog 41 #[.slice G gn gc, .pointer (some ⟨bP, 0, none⟩)] w fun e w' => e = .returned (.bool (badG ws rules g)) ∧ Below w.heap.size w w' := by
  obtain ⟨hg0, hg⟩ := gpE_zero hz
  have h0 : 0 < gn := by have := List.length_pos_iff.2 hg0; omega
  obtain ⟨p0, p1⟩ := hx.two
  have hbw := hx.lt
  cases hq : fstP ws rules g with
  | some p =>
    obtain ⟨a, b⟩ := p
    have H := Lib.hid (lperm_some A n cap B m c2 ws rules G gn gc g Bd w hp hB hr hg hgl hgr hgc hgm ht a b hq)
    have HR := Lib.hid (show badG ws rules g = true by unfold badG; rw [hq]; rfl)
    clear hx hp hr hz hgl hgr ht hg hg0 hq
    go_enter Tryz.func41, Tryz.ntmps41
    go_wp2_with fail
    refine H.out.mono ?_
    rintro e w' ⟨rfl, hk⟩
    have HK := Lib.hid hk
    clear hk
    go_wp2
    go_ret
    exact ⟨ret_bool HR.out.symm, HK.out⟩
  | none =>
    have H := lperm_none A n cap B m c2 ws rules G gn gc g Bd w hp hB hr hg hgl hgr hgc hgm ht hq h0
    have hR : badG ws rules g = decide (128 < costZ ws g) := by unfold badG; rw [hq]; rfl
    obtain ⟨c, hc⟩ : ∃ c, c = costZ ws g := ⟨_, rfl⟩
    rw [← hc] at H hR
    have HR := Lib.hid hR
    clear hx hp hr hz hgl hgr ht hg hg0 hq hR hc
    by_cases hc1 : c ≤ 128
    · rw [decide_eq_true hc1] at H
      have H := Lib.hid H
      have HC := Lib.hid (show decide (128 < c) = false from decide_eq_false (by omega))
      clear hc1
      go_enter Tryz.func41, Tryz.ntmps41
      go_wp2_with fail
      refine H.out.mono ?_
      rintro e w' ⟨rfl, hk⟩
      have HK := Lib.hid hk
      clear hk
      go_wp2
      go_ret
      exact ⟨ret_bool (by rw [HR.out, HC.out]), HK.out⟩
    · rw [decide_eq_false hc1] at H
      have H := Lib.hid H
      have HC := Lib.hid (show decide (128 < c) = true from decide_eq_true (by omega))
      clear hc1
      go_enter Tryz.func41, Tryz.ntmps41
      go_wp2_with fail
      refine H.out.mono ?_
      rintro e w' ⟨rfl, hk⟩
      have HK := Lib.hid hk
      clear hk
      go_wp2
      go_ret
      exact ⟨ret_bool (by rw [HR.out, HC.out]), HK.out⟩

set_option maxHeartbeats 2000000 in
theorem ixBad_any (bP : Nat) (A : Option Addr) (n cap : Nat) (B : Option Addr) (m c2 : Nat) (ws : List Wsh) (rules : List Int) (LA : Option Addr) (ln lc : Nat) (gs : List (List Int)) (Bd : Nat) (w : World) (hx : BdMem w bP Bd A n cap B m c2 ws rules LA gs w) (hB : Bd ≤ w.heap.size)
    (hr : ∀ x ∈ ws, WR x) (hz : ∀ g ∈ gs, gpE n g = 0) (hgl : gs.length = ln) (hgc : ln ≤ lc) (hgm : lc ≤ maxLen) :
    Calls Tryz.prog 37 #[.slice LA ln lc, .func (.func 41) #[] #[.pointer (some ⟨bP, 0, none⟩)]] w fun e w' => RetAt (∃ g ∈ gs, badG ws rules g = true) e ∧ Below w.heap.size w w' := by
  subst hgl
  have hm' := hgm
  unfold maxLen at hm'
  have HX := Lib.hid hx
  have HZ := Lib.hid hz
  have HR := Lib.hid hr
  clear hx hz hr
  go_enter Tryz.func37, Tryz.ntmps37
  go_wp2_with fail
  go_loopw [8] (fun i wr => ∃ k : Nat, k ≤ gs.length ∧ i = .int .i64 k ∧ Lib.Kept (∀ x ∈ gs.take k, badG ws rules x = false) ∧ BdMem w bP Bd A n cap B m c2 ws rules LA gs wr) (fun i _ => gs.length - (intOf i).toNat)
  case atStart => exact ⟨0, by omega, rfl, (show ∀ x ∈ gs.take 0, badG ws rules x = false from fun x hx => (by simp at hx)), HX.out⟩
  case round =>
    obtain ⟨k, hk, rfl, hno, hmem⟩ := hrel
    have HNO := Lib.hid hno
    have HM := Lib.hid hmem
    have hs := Nat.le_trans hB hmem.2.2.2.2.size
    clear hno hmem
    by_cases hlt : k < gs.length
    · obtain ⟨b, off, rfl, hb, hcell⟩ := HM.out.2.2.1.at_ (by omega)
      obtain ⟨GA, gc, hck, hrd, hgc1, hgm1⟩ := hcell k hlt
      have hfn := fnBad_any bP A n cap B m c2 ws rules GA gs[k].length gc gs[k] Bd wr HM.out.1 HM.out.2.1 hs HR.out (HZ.out _ (List.getElem_mem hlt)) rfl hrd hgc1 hgm1 HM.out.2.2.2.1
      obtain ⟨x, hx⟩ : ∃ x, x = gs[k] := ⟨_, rfl⟩
      rw [← hx] at hck hfn
      obtain ⟨xn, hxn⟩ : ∃ xn, xn = x.length := ⟨_, rfl⟩
      rw [← hxn] at hck hfn
      have HX := Lib.hid hx
      have hbw : b < wr.heap.size := by omega
      clear hx hxn hcell hrd hgc1 hgm1
      cases hv : badG ws rules x with
      | true =>
        rw [hv] at hfn
        have HC := Lib.hid hfn
        have HV := Lib.hid hv
        clear hfn hv
        go_wp2_with fail
        refine HC.out.mono ?_
        rintro e w' ⟨rfl, hk2⟩
        have HM2 := Lib.hid (HM.out.below hB hk2)
        clear hk2
        go_wp2
        go_ret
        exact ⟨⟨k, rfl, .inl ⟨by omega, x, by rw [HX.out]; exact List.getElem_mem hlt, HV.out⟩⟩, HM2.out.2.2.2.2⟩
      | false =>
        rw [hv] at hfn
        have HC := Lib.hid hfn
        have HV := Lib.hid hv
        clear hfn hv
        go_wp2_with fail
        refine HC.out.mono ?_
        rintro e w' ⟨rfl, hk2⟩
        have HM2 := Lib.hid (HM.out.below hB hk2)
        clear hk2 hck
        go_wp2
        go_roundw
        case rel =>
          refine ⟨k + 1, by omega, by go_num, (show ∀ y ∈ gs.take (k + 1), badG ws rules y = false from fun y hy => ?_), HM2.out⟩
          rw [take_snoc gs k hlt, List.mem_append, List.mem_singleton] at hy
          rcases hy with hy | hy
          · exact HNO.out y hy
          · rw [hy, ← HX.out]; exact HV.out
        case measure => simp [intOf]; omega
    · have HN := Lib.hid (show ¬ ∃ g ∈ gs, badG ws rules g = true by
        have h1 : ∀ x ∈ gs.take k, badG ws rules x = false := HNO.out
        rw [List.take_of_length_le (by omega)] at h1
        rintro ⟨x, hx, hu⟩
        rw [h1 x hx] at hu
        cases hu)
      go_wp2
      go_ret
      exact ⟨⟨-1, rfl, .inr ⟨rfl, HN.out⟩⟩, HM.out.2.2.2.2⟩
theorem cfBad_any (bP : Nat) (A : Option Addr) (n cap : Nat) (B : Option Addr) (m c2 : Nat) (ws : List Wsh) (rules : List Int) (LA : Option Addr) (ln lc : Nat) (gs : List (List Int)) (Bd : Nat) (w : World) (hx : BdMem w bP Bd A n cap B m c2 ws rules LA gs w) (hB : Bd ≤ w.heap.size)
    (hr : ∀ x ∈ ws, WR x) (hz : ∀ g ∈ gs, gpE n g = 0) (hgl : gs.length = ln) (hgc : ln ≤ lc) (hgm : lc ≤ maxLen) :
    Calls Tryz.prog 21 #[.slice LA ln lc, .func (.func 41) #[] #[.pointer (some ⟨bP, 0, none⟩)]] w fun e w' => e = .returned (.bool (gs.any (badG ws rules))) ∧ Below w.heap.size w w' := by
  have H := Lib.hid (ixBad_any bP A n cap B m c2 ws rules LA ln lc gs Bd w hx hB hr hz hgl hgc hgm)
  clear hx hr hz hgl
  go_enter Tryz.func21, Tryz.ntmps21
  go_wp2_with fail
  refine H.out.mono ?_
  rintro e w' ⟨⟨z, rfl, ⟨h0, h1⟩ | ⟨rfl, h1⟩⟩, hk⟩
  · have H1 := Lib.hid (show gs.any (badG ws rules) = true by obtain ⟨x, hx, hu⟩ := h1; exact List.any_eq_true.2 ⟨x, hx, hu⟩)
    have HK := Lib.hid hk
    clear h1 hk
    go_wp2
    go_ret
    exact ⟨ret_bool H1.out.symm, HK.out⟩
  · have H1 := Lib.hid (show gs.any (badG ws rules) = false by rw [List.any_eq_false]; intro x hx hu; exact h1 ⟨x, hx, hu⟩)
    have HK := Lib.hid hk
    clear h1 hk
    go_wp2
    go_ret
    exact ⟨ret_bool H1.out.symm, HK.out⟩

theorem own_open {w : World} {base : Nat} {e : TypeId} {size n : Nat} {v : Value} {xs : List Value} (h : w.ownsRow base e size v n xs) : ∃ A c, v = .slice A n c ∧ n ≤ c ∧ c ≤ maxLen := by
  rcases h.2 with ⟨hv, h0⟩ | ⟨g, cap, cur, hv, _, _, hnc, hm, _⟩
  · subst h0; exact ⟨none, 0, hv, Nat.le_refl _, Nat.zero_le _⟩
  · exact ⟨_, _, hv, hnc, hm⟩

/-- What Partition carries: its box, the numbers seen, the problem, the groups, the table. -/
def PtMem (w : World) (Bd : Nat) (A : Option Addr) (n cap : Nat) (B : Option Addr) (m c2 : Nat) (ws : List Wsh) (rules : List Int) (LA : Option Addr) (gs : List (List Int)) (v : Value) (used : List Int) (W : World) : Prop :=
  BdMem w w.heap.size Bd A n cap B m c2 ws rules LA gs W ∧ Blk W (w.heap.size + 1) 25 [v] ∧ W.ownsRow (w.heap.size + 2) 3 1 v used.length (used.map i64v) ∧ w.heap.size + 2 ≤ W.heap.size
section
variable {w W W' : World} {Bd : Nat} {A : Option Addr} {n cap : Nat} {B : Option Addr} {m c2 : Nat} {ws : List Wsh} {rules : List Int} {LA : Option Addr} {gs : List (List Int)} {v : Value} {used : List Int}
theorem PtMem.below (h : PtMem w Bd A n cap B m c2 ws rules LA gs v used W) (hB : Bd ≤ w.heap.size) (hb : Below W.heap.size W W') : PtMem w Bd A n cap B m c2 ws rules LA gs v used W' := by
  obtain ⟨h1, h2, h3, h4⟩ := h
  refine ⟨h1.below hB hb, h2.keep hb, h3.kept (row := none) ⟨hb.os, hb.tape, hb.output, hb.size, fun k hk _ => hb.block k hk⟩ (by cases hv : v.ownBlock <;> simp), Nat.le_trans h4 hb.size⟩
theorem PtMem.appended {v' : Value} {g : List Int} (h : PtMem w Bd A n cap B m c2 ws rules LA gs v used W) (ht : Tab w) (hB : Bd ≤ w.heap.size) (hg : W.grownBy W' v.ownBlock) (ho : W'.ownsRow (w.heap.size + 2) 3 1 v' (used.length + g.length) (used.map i64v ++ g.map i64v)) :
    PtMem w Bd A n cap B m c2 ws rules LA gs v' (used ++ g) (W'.setCell ⟨w.heap.size + 1, 0, none⟩ v') := by
  obtain ⟨⟨h1, h2, h3, h4, h5⟩, h6, h7, h8⟩ := h
  have hbl : ∀ k, v.ownBlock = some k → w.heap.size + 2 ≤ k := fun k hk => (h7.lt k hk).1
  have hbg : Below w.heap.size W W' := (Below.refl _ _).grown hg (by omega) (fun k hk => by have := hbl k hk; omega)
  have hb : Below w.heap.size W (W'.setCell ⟨w.heap.size + 1, 0, none⟩ v') := bw_set hbg (by omega) _
  have hx : Blk W' w.heap.size 29 [.slice A n cap, .slice B m c2] := h1.grown hg (fun k => by have := hbl _ k.symm; omega)
  have hs : Blk W' (w.heap.size + 1) 25 [v] := h6.grown hg (fun k => by have := hbl _ k.symm; omega)
  refine ⟨⟨hx.far (p := ⟨w.heap.size + 1, 0, none⟩) (by show w.heap.size ≠ w.heap.size + 1; omega) _, h2.below (hb.mono hB), h3.below (hb.mono hB), ht.below (h5.trans hb), h5.trans hb⟩, hs.put 0 v', ?_, ?_⟩
  · rw [List.length_append, List.map_append]
    exact ownsRow_setCell_below ho (a := ⟨w.heap.size + 1, 0, none⟩) (by show w.heap.size + 1 < w.heap.size + 2; omega) v'
  · exact Nat.le_trans h8 hb.size
end

set_option maxRecDepth 100000 in
set_option maxHeartbeats 16000000 in
/-- Partition: the first error of a plan of a right problem. -/
theorem lpart_any (A : Option Addr) (n cap : Nat) (B : Option Addr) (m c2 : Nat) (ws : List Wsh) (rules : List Int) (LA : Option Addr) (ln lc : Nat) (gs : List (List Int)) (Bd : Nat) (w : World) (hp : Pb w Bd A n cap B m c2 ws rules) (hB : Bd ≤ w.heap.size)
    (h0 : pbE ws rules = 0) (hgl : gs.length = ln) (hgr : GRd w Bd LA gs) (hgc : ln ≤ lc) (hgm : lc ≤ maxLen) (ht : Tab w) :
    Calls Tryz.prog 23 #[.agg #[.slice A n cap, .slice B m c2], .slice LA ln lc] w fun e w' => e = .returned (.int .i64 (plE ws rules gs)) ∧ Below w.heap.size w w' := by
  have hb0 := bw_new (Below.refl _ w) (.cells #[.slice A n cap, .slice B m c2] 29)
  have hM0 : PtMem w Bd A n cap B m c2 ws rules LA gs (.slice none 0 0) [] ((w.alloc (.cells #[.slice A n cap, .slice B m c2] 29)).alloc (.cells #[.slice none 0 0] 25)) := by
    have hb1 := bw_new hb0 (.cells #[.slice none 0 0] 25)
    refine ⟨⟨(Blk.new (cs := [.slice A n cap, .slice B m c2])).alloc _, hp.keep hB hb1, hgr.below (hb1.mono hB), ht.below hb1, hb1⟩, ?_, ⟨rfl, .inl ⟨rfl, rfl⟩⟩, by simp⟩
    have := Blk.new (w := w.alloc (.cells #[.slice A n cap, .slice B m c2] 29)) (t := 25) (cs := [.slice none 0 0])
    rw [World.size_alloc] at this
    exact this
  have HM0 := Lib.hid hM0
  have HWL := Lib.hid hp.wl
  have HGL := Lib.hid hgl
  have HT := Lib.hid ht
  have HRW := Lib.hid (pbE_right h0)
  have hn12 : n ≤ 12 := by rw [← hp.wl]; exact pbE_len h0
  have HE2 := Lib.hid (show plE ws rules gs = if (plA n [] none gs).1 ≠ 0 then (plA n [] none gs).1 else if (plA n [] none gs).2.length < n then 5 else if gs.any (badG ws rules) then 14 else 0 by
    unfold plE; rw [h0, if_neg (fun h => h rfl), hp.wl])
  obtain ⟨i0, hi, hz0, hz1, hz2⟩ := info_parts infoIntG
  have HHI := Lib.hid hi
  have HZ0 := Lib.hid hz0
  have HZ1 := Lib.hid hz1
  have HZ2 := Lib.hid hz2
  unfold maxLen at hgm
  clear hi hz0 hz1 hz2 hM0 hb0 hp hgl hgr ht h0
  go_enter Tryz.func23, Tryz.ntmps23
  go_wp2_with fail
  go_loopw [11] (fun v wx => ∃ (k : Nat) (used : List Int) (sv : Value), k ≤ ln ∧ v = .int .i64 k ∧ Lib.Kept (plA n [] none gs = plA n used (prevH gs k) (gs.drop k)) ∧ Lib.Kept (used.Nodup ∧ ∀ x ∈ used, 0 ≤ x ∧ x < (n : Int)) ∧ Lib.Kept (∀ i, i < k → ∃ q r, gs[i]? = some (q :: r)) ∧ PtMem w Bd A n cap B m c2 ws rules LA gs sv used wx) (fun v _ => ln - (intOf v).toNat)
  case atStart => exact ⟨0, [], _, by omega, rfl, rfl, ⟨List.nodup_nil, fun x hx => (by cases hx)⟩, (show ∀ i, i < 0 → _ from fun i h => absurd h (by omega)), HM0.out⟩
  case round =>
    clear HM0
    obtain ⟨k, used, sv, hk, rfl, hpl, hnd, hne, hrel⟩ := hrel
    have HPL : Hid (plA n [] none gs = plA n used (prevH gs k) (gs.drop k)) := hpl
    have HND : Hid (used.Nodup ∧ ∀ x ∈ used, 0 ≤ x ∧ x < (n : Int)) := hnd
    have HNE : Hid (∀ i, i < k → ∃ q r, gs[i]? = some (q :: r)) := hne
    have hul : used.length ≤ n := nodup_len n used HND.out.1 HND.out.2
    have HM := Lib.hid hrel
    have hs : w.heap.size + 2 ≤ wr.heap.size := hrel.2.2.2
    obtain ⟨SA, sc, rfl, hsc, hscm⟩ := own_open hrel.2.2.1
    clear hrel hpl hnd hne
    by_cases hlt : k < ln
    · have hltg : k < gs.length := by rw [HGL.out]; exact hlt
      obtain ⟨b, off, rfl, hbd, hcell⟩ := HM.out.1.2.2.1.at_ (by omega)
      obtain ⟨GA, gc, hck, hrd, hgc1, hgm1⟩ := hcell k hltg
      obtain ⟨g, hg⟩ : ∃ g, g = gs[k] := ⟨_, rfl⟩
      rw [← hg] at hck hrd hgc1
      have HGK := Lib.hid hg
      have HST := Lib.hid (show plA n [] none gs = if gpE n g ≠ 0 then (gpE n g, used) else if g.any (fun x => decide (x ∈ used)) then (9, used) else if lastLe (prevH gs k) (g.headD 0) then (6, used) else plA n (used ++ g) g.head? (gs.drop (k + 1)) by
        rw [HPL.out, drop_cons gs k hltg, plA_cons, ← hg])
      have HRD := Lib.hid hrd
      have HCELL := Lib.hid hcell
      have hbw : b < wr.heap.size := by omega
      obtain ⟨p0, p1⟩ := HM.out.1.1.two
      clear hg hcell hrd
      have HRT := Lib.hid (lgroup_any A n cap B m c2 g GA g.length gc Bd wr rfl HRD.out hgc1 hgm1 (by omega))
      obtain ⟨z, hz⟩ : ∃ z, z = gpE n g := ⟨_, rfl⟩
      rw [← hz] at HRT HST
      by_cases hz0 : z = 0
      · have hz3 : (z == 0) = true := by simpa using hz0
        have hz4 : (z != 0) = false := by simpa using hz0
        have hgz : gpE n g = 0 := by rw [← hz]; exact hz0
        subst hz0
        obtain ⟨hg0, hgr⟩ := gpE_zero hgz
        have HGR := Lib.hid hgr
        have HGP := Lib.hid (gpE_pw hgz)
        have HG0 := Lib.hid hg0
        have hgl1 : 0 < g.length := List.length_pos_iff.2 hg0
        have hgl2 : g.length ≤ n := nodup_len n g ((gpE_pw hgz).imp (fun h e => by omega)) hgr
        have HST2 := Lib.hid (show plA n [] none gs = if g.any (fun x => decide (x ∈ used)) then (9, used) else if lastLe (prevH gs k) (g.headD 0) then (6, used) else plA n (used ++ g) g.head? (gs.drop (k + 1)) by rw [HST.out, if_neg (fun h => h rfl)])
        clear hz hgz hg0 hgr HST
        go_wp2_with fail
        refine HRT.out.mono ?_
        rintro e w2 ⟨rfl, hk2⟩
        have HM2 := Lib.hid (HM.out.below hB hk2)
        have HRD2 := Lib.hid (HRD.out.below (hk2.mono (by omega)))
        have hs2 : wr.heap.size ≤ w2.heap.size := hk2.size
        clear hk2 p0 p1 hck
        have hcf := cfSeen_any (w.heap.size + 1) SA used.length sc w2.heap.size used GA g.length gc g w2 (HM2.out.2.1.cell 0) rfl (Rd.of_own HM2.out.2.2.1 rfl) hsc hscm rfl (HRD2.out.more (by omega)) hgc1 hgm1
        obtain ⟨fnd, hfnd⟩ : ∃ f, f = g.any (fun x => decide (x ∈ used)) := ⟨_, rfl⟩
        rw [← hfnd] at hcf HST2
        have HCF := Lib.hid hcf
        have HFND := Lib.hid hfnd
        clear hcf hfnd
        cases fnd with
        | true =>
          have HRES := Lib.hid (show plE ws rules gs = 9 by rw [HE2.out, HST2.out]; rfl)
          go_wp2_with fail
          refine HCF.out.mono ?_
          rintro e w3 ⟨rfl, rfl⟩
          go_wp2
          go_ret
          exact ⟨ret_int HRES.out.symm, HM2.out.1.2.2.2.2⟩
        | false =>
          have HST3 := Lib.hid (show plA n [] none gs = if lastLe (prevH gs k) (g.headD 0) then (6, used) else plA n (used ++ g) g.head? (gs.drop (k + 1)) by rw [HST2.out]; rfl)
          have HFA := Lib.hid (show ∀ x ∈ g, x ∉ used by
            have h := List.any_eq_false.1 HFND.out.symm
            intro x hx hu
            exact h x hx (decide_eq_true hu))
          obtain ⟨gb, go, rfl, hgb, hgcell⟩ := rd_at HRD2.out hgl1
          have HGC := Lib.hid hgcell
          have hgbw : gb < w2.heap.size := by omega
          clear hgcell HST2
          have hc0 := HGC.out 0 hgl1
          rw [Nat.add_zero] at hc0
          obtain ⟨y, hy⟩ : ∃ y, y = g[0] := ⟨_, rfl⟩
          rw [← hy] at hc0
          have HY := Lib.hid (show g.headD 0 = y by rw [hy]; exact (headD_get g hgl1).1)
          have HY2 := Lib.hid (show g.head? = some y by rw [hy]; exact (headD_get g hgl1).2)
          clear hy
          go_upto_region 10 with (refine HCF.out.mono ?_; rintro e w3 ⟨rfl, rfl⟩)
          go_cut [39] (fun s39 wx => s39 = .bool (lastLe (prevH gs k) y) ∧ ∃ q, wx = w2.drewN q)
          case first =>
            by_cases hk0 : k = 0
            · subst hk0
              have hd : decide ((0 : Int) < ((0 : Nat) : Int)) = false := by simp
              have HR0 := Lib.hid (show lastLe (prevH gs 0) y = false from rfl)
              go_quiet (fail)
              go_wp2_with fail
              go_meet
              case rel => exact ⟨by rw [HR0.out], _, rfl⟩
            · obtain ⟨m', rfl⟩ : ∃ m', k = m' + 1 := ⟨k - 1, by omega⟩
              have hltm : m' < gs.length := by omega
              obtain ⟨q, r, hqr⟩ := HNE.out m' (by omega)
              rw [List.getElem?_eq_getElem hltm] at hqr
              injection hqr with hqr
              obtain ⟨b', off', e, _, hcell'⟩ := HM2.out.1.2.2.1.at_ (by omega)
              injection e with e
              injection e with e1 e2 e3
              subst e1
              subst e2
              obtain ⟨GA', gc', hcm, hrd', hgc', _⟩ := hcell' m' hltm
              rw [hqr] at hcm hrd' hgc'
              obtain ⟨gb', go', rfl, _, hgc2⟩ := rd_at hrd' (by simp)
              have hcq := hgc2 0 (by simp)
              rw [Nat.add_zero, List.getElem_cons_zero] at hcq
              obtain ⟨gl', hgl'⟩ : ∃ l, l = (q :: r).length := ⟨_, rfl⟩
              rw [← hgl'] at hcm
              have hgl0 : 0 < gl' := by rw [hgl']; simp
              have hgl0' : (0 : Int) < (gl' : Int) := by omega
              have hg0' : (0 : Int) < (g.length : Int) := by omega
              have hm0 : (0 : Int) ≤ (m' : Int) := by omega
              have hm1 : (m' : Int) < (ln : Int) := by omega
              have hd : decide ((0 : Int) < ((m' + 1 : Nat) : Int)) = true := by simp
              have HR0 := Lib.hid (show lastLe (prevH gs (m' + 1)) y = decide (y ≤ q) by rw [prevH_succ hltm, hqr]; rfl)
              have hw : IntKind.i64.wrap (((m' + 1 : Nat) : Int) - 1) = (m' : Int) := by rw [IntWalk.i64_in _ (by omega)]; omega
              have hw2 : IntKind.i64.wrap ((m' : Int) + 1 - 1) = (m' : Int) := by rw [IntWalk.i64_in _ (by omega)]; omega
              clear hqr e3 hcell' hrd' hgc2 hgl' hgc'
              go_quiet (fail)
              go_wp2_with fail
              go_meet
              case rel => exact ⟨by rw [HR0.out], _, rfl⟩
          case rest =>
            obtain ⟨hs39, q, rfl⟩ := hcut
            have HST4 := HST3.out
            rw [HY.out, HY2.out] at HST4
            cases hle : lastLe (prevH gs k) y with
            | true =>
              rw [hle] at hs39 HST4
              subst hs39
              have HRES := Lib.hid (show plE ws rules gs = 6 by
                rw [if_pos rfl] at HST4
                rw [HE2.out, HST4]; rfl)
              clear HST4 hle
              go_wp2
              go_ret
              exact ⟨ret_int HRES.out.symm, bw_drewN HM2.out.1.2.2.2.2 _⟩
            | false =>
              rw [hle] at hs39 HST4
              subst hs39
              have HST5 := Lib.hid (show plA n [] none gs = plA n (used ++ g) (some y) (gs.drop (k + 1)) by rw [HST4]; rfl)
              clear HST4 hle hc0
              have HMS := Lib.hid (HM2.out.below hB (below_drewN _ _ q))
              have HRS := Lib.hid (HRD2.out.below ((below_drewN Bd w2 q)))
              obtain ⟨W3, hW3⟩ : ∃ W3, W3 = w2.drewN q := ⟨_, rfl⟩
              rw [← hW3] at HMS HRS ⊢
              have hs3 : w2.heap.size ≤ W3.heap.size := by rw [hW3]; exact (below_drewN 0 w2 q).size
              clear hW3
              have r0 := HMS.out.2.1.cell 0
              have HN := Lib.hid (show ∀ (j : Nat) (u : Value), (g.map i64v)[j]? = some u → W3.cell? ((⟨gb, go, none⟩ : Addr).add j) = some u from fun j u hu => by
                obtain ⟨gb2, go2, e, _, hc⟩ := rd_at HRS.out hgl1
                injection e with e
                injection e with e1 e2 e3
                subst e1
                subst e2
                have hj : j < g.length := by have := (List.getElem?_eq_some_iff.1 hu).1; simpa using this
                have ea : (⟨gb, go, none⟩ : Addr).add j = ⟨gb, go + j, none⟩ := by unfold Addr.add; split <;> simp [*]
                rw [ea, hc j hj]
                rw [List.getElem?_map, List.getElem?_eq_getElem hj] at hu
                exact hu)
              go_wp2_with (at_builtin; refine wpList_append_own _ rfl _ _ 25 rfl (w.heap.size + 2) 3 i0 (.int .i64 0) 1 8 Tryz.underlying25 HHI.out HZ0.out HZ1.out HZ2.out rfl (by decide) _ _ _ rfl HMS.out.2.2.1 ⟨gb, go, none⟩ g.length gc (g.map i64v) rfl (by simp) HN.out (fun u hu => by obtain ⟨x, _, rfl⟩ := List.mem_map.1 hu; rfl) (by unfold maxLen; omega) (by omega) (by omega) ?_)
              intro v' w4 hown hgrow _
              obtain ⟨SA', sc', rfl, hsc', hsm'⟩ := own_open hown
              have HM5 := Lib.hid (HMS.out.appended HT.out hB hgrow hown)
              have hbk := HMS.out.2.1.grown hgrow (fun k => by have := (HMS.out.2.2.1.lt _ k.symm).1; omega)
              have r1 := hbk.cell 0
              have f1 := hbk.frozen 0
              clear hown hgrow hbk r0
              go_wp2
              go_roundw
              case rel =>
                refine ⟨k + 1, used ++ g, _, by omega, by go_num, ?_, ?_, ?_, HM5.out⟩
                · show _ = _
                  rw [HST5.out, prevH_succ hltg, ← HGK.out, HY2.out]
                · exact ⟨nodup_add HND.out.1 HGP.out HFA.out, fun x hx => (List.mem_append.1 hx).elim (HND.out.2 x) (HGR.out x)⟩
                · show ∀ i, i < k + 1 → _
                  intro i hi
                  rcases Nat.lt_or_ge i k with h | h
                  · exact HNE.out i h
                  · obtain rfl : i = k := by omega
                    rw [List.getElem?_eq_getElem hltg, ← HGK.out]
                    cases g with
                    | nil => exact absurd rfl HG0.out
                    | cons a r => exact ⟨a, r, rfl⟩
              case measure => simp [intOf]; omega
      · have hz3 : (z == 0) = false := by simpa using hz0
        have hz4 : (z != 0) = true := by simpa using hz0
        have HRES := Lib.hid (show plE ws rules gs = z by
          have h := HST.out
          rw [if_pos hz0] at h
          rw [HE2.out, h, if_pos hz0])
        clear hz hz0
        go_wp2_with fail
        refine HRT.out.mono ?_
        rintro e w2 ⟨rfl, hk2⟩
        have HM2 := Lib.hid (HM.out.below hB hk2)
        clear hk2 p0 p1 hck
        go_wp2
        go_ret
        exact ⟨ret_int HRES.out.symm, HM2.out.1.2.2.2.2⟩
    · have hkl : k = ln := by omega
      have hfin : plA n [] none gs = (0, used) := by rw [HPL.out, List.drop_eq_nil_of_le (by rw [HGL.out]; omega)]; rfl
      obtain ⟨p0, p1⟩ := HM.out.1.1.two
      have r0 := HM.out.2.1.cell 0
      have HOK := Lib.hid (show ∀ g ∈ gs, gpE n g = 0 from plA_ok (by rw [hfin]))
      have HFIN := Lib.hid hfin
      clear hfin
      by_cases hsz : used.length < n
      · have HRES := Lib.hid (show plE ws rules gs = 5 by rw [HE2.out, HFIN.out, if_neg (fun h => h rfl), if_pos hsz])
        go_wp2
        go_ret
        exact ⟨ret_int HRES.out.symm, HM.out.1.2.2.2.2⟩
      · have hcf := cfBad_any w.heap.size A n cap B m c2 ws rules LA ln lc gs Bd wr ⟨HM.out.1.1, HM.out.1.2.1, HM.out.1.2.2.1, HM.out.1.2.2.2.1, Below.refl _ _⟩ (by omega) HRW.out HOK.out HGL.out hgc (by unfold maxLen; exact hgm)
        have hres : plE ws rules gs = if gs.any (badG ws rules) then 14 else 0 := by rw [HE2.out, HFIN.out, if_neg (fun h => h rfl), if_neg hsz]
        obtain ⟨f, hf⟩ : ∃ f, f = gs.any (badG ws rules) := ⟨_, rfl⟩
        rw [← hf] at hcf hres
        have HCF := Lib.hid hcf
        have HRES := Lib.hid hres
        clear hcf hres hf
        cases f with
        | true =>
          go_wp2_with fail
          refine HCF.out.mono ?_
          rintro e w2 ⟨rfl, hk2⟩
          have HB2 := Lib.hid (HM.out.1.2.2.2.2.trans (hk2.mono HM.out.1.2.2.2.2.size))
          clear hk2
          go_wp2
          go_ret
          exact ⟨ret_int HRES.out.symm, HB2.out⟩
        | false =>
          go_wp2_with fail
          refine HCF.out.mono ?_
          rintro e w2 ⟨rfl, hk2⟩
          have HB2 := Lib.hid (HM.out.1.2.2.2.2.trans (hk2.mono HM.out.1.2.2.2.2.size))
          clear hk2
          go_wp2
          go_ret
          exact ⟨ret_int HRES.out.symm, HB2.out⟩
end
end Go.Proofs.YtkamepalomkpbaaGreatDoor
