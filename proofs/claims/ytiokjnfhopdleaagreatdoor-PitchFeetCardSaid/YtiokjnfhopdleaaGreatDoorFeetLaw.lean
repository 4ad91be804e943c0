/- bombardelaw13.usual, and the function that PitchFeet hands on. Conditions: the library's table of powers of ten reads as its text lays it.
The statement PitchFeet: the walk. For any int the call returns true. Conditions: the library's table of powers of ten reads as its text lays it. -/
import Derived.Test.YtiokjnfhopdleaaGreatDoorFeet
import Derived.Test.YtiokjnfhopdleaaGreatDoorSounds
import Derived.BigQuiet
import Derived.Deep.QuietTactic
import Derived.Deep.RegionWith
namespace Go.Proofs.YtiokjnfhopdleaaGreatDoor
open Go.RowKit

set_option maxRecDepth 100000 in
set_option maxHeartbeats 4000000 in
theorem lusual_any (w : World) :
    Calls Tryz.prog 17 #[] w fun e w' => ∃ g, e = .returned (.slice (some ⟨g, 0, none⟩) 22 22) ∧ w.heap.size ≤ g ∧ FRow w' g (frL usual) ∧ Below w.heap.size w w' := by
  have F := Lib.hid (fun (n d : Nat) (W : World) (hd : 0 < d) (hn1 : n ≤ 1000000) (hd1 : d ≤ 1000000) (ha : lowN n d = n) (hb : lowD n d = d) => f_ct n d n d W hd hn1 hd1 ha hb)
  have hb := Below.refl w.heap.size w
  go_enter Tryz.func17, Tryz.ntmps17
  go_wp2_with fail
  refine (F.out 64 1 _ (by decide) (by decide) (by decide) (by decide) (by decide)).mono ?_
  rintro e w1 ⟨rfl, hk⟩
  replace hb := hb.trans (hk.mono hb.size)
  clear hk
  go_wp2_with fail
  refine (F.out 32 1 _ (by decide) (by decide) (by decide) (by decide) (by decide)).mono ?_
  rintro e w2 ⟨rfl, hk⟩
  replace hb := hb.trans (hk.mono hb.size)
  clear hk
  go_wp2_with fail
  refine (F.out 64 3 _ (by decide) (by decide) (by decide) (by decide) (by decide)).mono ?_
  rintro e w3 ⟨rfl, hk⟩
  replace hb := hb.trans (hk.mono hb.size)
  clear hk
  go_wp2_with fail
  refine (F.out 16 1 _ (by decide) (by decide) (by decide) (by decide) (by decide)).mono ?_
  rintro e w4 ⟨rfl, hk⟩
  replace hb := hb.trans (hk.mono hb.size)
  clear hk
  go_wp2_with fail
  refine (F.out 64 5 _ (by decide) (by decide) (by decide) (by decide) (by decide)).mono ?_
  rintro e w5 ⟨rfl, hk⟩
  replace hb := hb.trans (hk.mono hb.size)
  clear hk
  go_wp2_with fail
  refine (F.out 32 3 _ (by decide) (by decide) (by decide) (by decide) (by decide)).mono ?_
  rintro e w6 ⟨rfl, hk⟩
  replace hb := hb.trans (hk.mono hb.size)
  clear hk
  go_wp2_with fail
  refine (F.out 8 1 _ (by decide) (by decide) (by decide) (by decide) (by decide)).mono ?_
  rintro e w7 ⟨rfl, hk⟩
  replace hb := hb.trans (hk.mono hb.size)
  clear hk
  go_wp2_with fail
  refine (F.out 32 5 _ (by decide) (by decide) (by decide) (by decide) (by decide)).mono ?_
  rintro e w8 ⟨rfl, hk⟩
  replace hb := hb.trans (hk.mono hb.size)
  clear hk
  go_wp2_with fail
  refine (F.out 16 3 _ (by decide) (by decide) (by decide) (by decide) (by decide)).mono ?_
  rintro e w9 ⟨rfl, hk⟩
  replace hb := hb.trans (hk.mono hb.size)
  clear hk
  go_wp2_with fail
  refine (F.out 4 1 _ (by decide) (by decide) (by decide) (by decide) (by decide)).mono ?_
  rintro e w10 ⟨rfl, hk⟩
  replace hb := hb.trans (hk.mono hb.size)
  clear hk
  go_wp2_with fail
  refine (F.out 16 5 _ (by decide) (by decide) (by decide) (by decide) (by decide)).mono ?_
  rintro e w11 ⟨rfl, hk⟩
  replace hb := hb.trans (hk.mono hb.size)
  clear hk
  go_wp2_with fail
  refine (F.out 8 3 _ (by decide) (by decide) (by decide) (by decide) (by decide)).mono ?_
  rintro e w12 ⟨rfl, hk⟩
  replace hb := hb.trans (hk.mono hb.size)
  clear hk
  go_wp2_with fail
  refine (F.out 16 7 _ (by decide) (by decide) (by decide) (by decide) (by decide)).mono ?_
  rintro e w13 ⟨rfl, hk⟩
  replace hb := hb.trans (hk.mono hb.size)
  clear hk
  go_wp2_with fail
  refine (F.out 2 1 _ (by decide) (by decide) (by decide) (by decide) (by decide)).mono ?_
  rintro e w14 ⟨rfl, hk⟩
  replace hb := hb.trans (hk.mono hb.size)
  clear hk
  go_wp2_with fail
  refine (F.out 8 5 _ (by decide) (by decide) (by decide) (by decide) (by decide)).mono ?_
  rintro e w15 ⟨rfl, hk⟩
  replace hb := hb.trans (hk.mono hb.size)
  clear hk
  go_wp2_with fail
  refine (F.out 4 3 _ (by decide) (by decide) (by decide) (by decide) (by decide)).mono ?_
  rintro e w16 ⟨rfl, hk⟩
  replace hb := hb.trans (hk.mono hb.size)
  clear hk
  go_wp2_with fail
  refine (F.out 8 7 _ (by decide) (by decide) (by decide) (by decide) (by decide)).mono ?_
  rintro e w17 ⟨rfl, hk⟩
  replace hb := hb.trans (hk.mono hb.size)
  clear hk
  go_wp2_with fail
  refine (F.out 1 1 _ (by decide) (by decide) (by decide) (by decide) (by decide)).mono ?_
  rintro e w18 ⟨rfl, hk⟩
  replace hb := hb.trans (hk.mono hb.size)
  clear hk
  go_wp2_with fail
  refine (F.out 4 5 _ (by decide) (by decide) (by decide) (by decide) (by decide)).mono ?_
  rintro e w19 ⟨rfl, hk⟩
  replace hb := hb.trans (hk.mono hb.size)
  clear hk
  go_wp2_with fail
  refine (F.out 2 3 _ (by decide) (by decide) (by decide) (by decide) (by decide)).mono ?_
  rintro e w20 ⟨rfl, hk⟩
  replace hb := hb.trans (hk.mono hb.size)
  clear hk
  go_wp2_with fail
  refine (F.out 1 2 _ (by decide) (by decide) (by decide) (by decide) (by decide)).mono ?_
  rintro e w21 ⟨rfl, hk⟩
  replace hb := hb.trans (hk.mono hb.size)
  clear hk
  go_wp2_with fail
  refine (F.out 1 4 _ (by decide) (by decide) (by decide) (by decide) (by decide)).mono ?_
  rintro e w22 ⟨rfl, hk⟩
  replace hb := hb.trans (hk.mono hb.size)
  clear hk
  go_wp2
  go_ret
  refine ⟨w22.heap.size, rfl, hb.size, ⟨[], ?_⟩, bw_new hb _⟩
  rw [List.append_nil]
  exact heap_alloc_new w22 _

/-- A box of two ints and a captured int at hand, and below the call's heap nothing has changed. -/
def FnHeld (w : World) (b : Nat) (m n d : Int) (w' : World) : Prop :=
  w'.cell? ⟨w.heap.size, 0, none⟩ = some (.int .i64 n) ∧ w'.cell? ⟨w.heap.size, 1, none⟩ = some (.int .i64 d) ∧ w'.cell? ⟨b, 0, none⟩ = some (.int .i64 m) ∧ Pack1 w w.heap.size n d w'
theorem FnHeld.below {w w1 w2 : World} {b : Nat} {m n d : Int} (hlt : b < w.heap.size) (h : FnHeld w b m n d w1) (hb : Below w1.heap.size w1 w2) : FnHeld w b m n d w2 := by
  obtain ⟨_, _, h3, h1, h4⟩ := h
  have k1 := h1.below hb
  exact ⟨k1.1, k1.2.1, (hb.cell (p := ⟨b, 0, none⟩) (Nat.lt_of_lt_of_le hlt h4.size)).trans h3, k1, h4.trans (hb.mono h4.size)⟩
theorem FnHeld.drew {w w1 : World} {b : Nat} {m n d : Int} (hlt : b < w.heap.size) (h : FnHeld w b m n d w1) : FnHeld w b m n d w1.drew := h.below hlt (bw_drew (Below.refl _ _))
theorem FnHeld.tab {w w1 : World} {b : Nat} {m n d : Int} (ht : Tab w) (h : FnHeld w b m n d w1) : Tab w1 := ht.below h.2.2.2.2

set_option maxRecDepth 100000 in
set_option maxHeartbeats 2000000 in
theorem feetFn_any (n d : Nat) (s m : Int) (b : Nat) (w : World) (ht : Tab w) (h : PR n d) (hs : IsShift (8 * d) (1 * n) s) (hb : w.cell? ⟨b, 0, none⟩ = some (.int .i64 m)) (hlt : b < w.heap.size) :
    Calls Tryz.prog 18 #[.agg #[.int .i64 n, .int .i64 d], .pointer (some ⟨b, 0, none⟩)] w fun e w' => e = .returned (.bool (s == m)) ∧ Below w.heap.size w w' := by
  have hls : ∀ W, Tab W → Calls Tryz.prog 9 #[.agg #[.int .i64 n, .int .i64 d], .agg #[.int .i64 8, .int .i64 1]] W fun e W' => e = .returned (.int .i64 s) ∧ Below W.heap.size W W' := fun W hW =>
    (lshift_any n d 8 1 W hW h pr81').mono fun e W' ⟨s', hs', _, _, he, hb⟩ => ⟨by rw [he, hs'.unique hs], hb⟩
  have HLS := Lib.hid hls
  clear hls hs h
  go_enter Tryz.func18, Tryz.ntmps18
  go_wp2_with fail
  obtain ⟨W, hW⟩ : ∃ W, W = w.alloc (.cells #[.int .i64 n, .int .i64 d] 23) := ⟨_, rfl⟩
  have hT : FnHeld w b m n d W := by
    have k := Two.new w n d 23
    have hbel := bw_new (Below.refl _ w) (.cells #[.int .i64 n, .int .i64 d] 23)
    rw [hW]
    exact ⟨k.1, k.2.1, (hbel.cell (p := ⟨b, 0, none⟩) hlt).trans hb, k, hbel⟩
  rw [← hW]
  have ht0 := ht
  clear hW ht
  go_region_held3 (fun w' => w'.cell? ⟨w.heap.size, 0, none⟩ = some (.int .i64 n) ∧ w'.cell? ⟨w.heap.size, 1, none⟩ = some (.int .i64 d) ∧ w'.cell? ⟨b, 0, none⟩ = some (.int .i64 m) ∧ Pack1 w w.heap.size n d w') (first | assumption | exact FnHeld.drew hlt hT | exact FnHeld.below hlt (by assumption) hbel)
    (first
     | (go_at_call 10; refine (lf81 _).mono ?_; rintro e w' ⟨rfl, hbel⟩)
     | (go_at_call 9; refine (HLS.out _ (FnHeld.tab ht0 (by assumption))).mono ?_; rintro e w' ⟨rfl, hbel⟩))
  have hf : FnHeld w b m n d w' := by assumption
  go_wp2
  go_ret
  exact ⟨rfl, hf.2.2.2.2⟩

/-- What IndexFunc returns for the usual feet. -/
def RetIndex (m : Int) (w : World) (e : Ending) (w' : World) : Prop :=
  Below w.heap.size w w' ∧ ((∃ k : Nat, k < 22 ∧ (∀ j < k, usS j ≠ m) ∧ usS k = m ∧ e = .returned (.int .i64 k)) ∨ ((∀ j < 22, usS j ≠ m) ∧ e = .returned (.int .i64 (-1))))

set_option maxRecDepth 100000 in
set_option maxHeartbeats 2000000 in
theorem index_any (m : Int) (g b : Nat) (w : World) (ht : Tab w) (hrow : FRow w g (frL usual)) (hb : w.cell? ⟨b, 0, none⟩ = some (.int .i64 m)) (hlt : b < w.heap.size) :
    Calls Tryz.prog 16 #[.slice (some ⟨g, 0, none⟩) 22 22, .func (.func 18) #[] #[.pointer (some ⟨b, 0, none⟩)]] w (RetIndex m w) := by
  go_enter Tryz.func16, Tryz.ntmps16
  go_wp2
  go_loopw [8] (fun i wr => ∃ k : Nat, k ≤ 22 ∧ i = .int .i64 k ∧ Lib.Kept (∀ j < k, usS j ≠ m) ∧ FRow wr g (frL usual) ∧ wr.cell? ⟨b, 0, none⟩ = some (.int .i64 m) ∧ b < wr.heap.size ∧ Below w.heap.size w wr)
    (fun i _ => 22 - (intOf i).toNat)
  case atStart => exact ⟨0, by omega, rfl, (show ∀ j < 0, usS j ≠ m from fun j h => absurd h (by omega)), hrow, hb, hlt, Below.refl _ _⟩
  case round =>
    clear hrow hb hlt
    obtain ⟨k, hk, rfl, hno, hrow, hcb, hlt, hbw⟩ := hrel
    have HNO := Lib.hid hno
    clear hno
    by_cases hlt2 : k < 22
    · obtain ⟨c0, c1, f0, f1⟩ := hrow.us k hlt2
      obtain ⟨hpr, his⟩ := us_parts k hlt2
      have HF := Lib.hid (feetFn_any (usN k) (usD k) (usS k) m b wr (ht.below hbw) hpr his hcb hlt)
      obtain ⟨x, hx⟩ : ∃ x, x = usN k := ⟨_, rfl⟩
      obtain ⟨y, hy⟩ : ∃ y, y = usD k := ⟨_, rfl⟩
      obtain ⟨s, hs⟩ : ∃ s, s = usS k := ⟨_, rfl⟩
      rw [← hx] at c0 HF
      rw [← hy] at c1 HF
      rw [← hs] at HF
      have HS := Lib.hid hs
      have HR := Lib.hid hrow
      have HC := Lib.hid hcb
      have HB := Lib.hid hbw
      clear hpr his hx hy hs hrow hcb hbw f0 f1
      by_cases hn : s = m
      · have hnb : (s == m) = true := by rw [beq_iff_eq]; exact hn
        have HN := Lib.hid hn
        clear hn
        go_wp2_with fail
        refine (HF.out).mono ?_
        rintro e w1 ⟨rfl, hk1⟩
        have HB2 := Lib.hid (HB.out.trans (hk1.mono HB.out.size))
        clear hk1
        go_wp2
        go_ret
        exact ⟨HB2.out, .inl ⟨k, hlt2, HNO.out, by rw [← HS.out]; exact HN.out, rfl⟩⟩
      · have hnb : (s == m) = false := by rw [beq_eq_false_iff_ne]; exact hn
        have HN := Lib.hid hn
        clear hn
        go_wp2_with fail
        refine (HF.out).mono ?_
        rintro e w1 ⟨rfl, hk1⟩
        have HB2 := Lib.hid (HB.out.trans (hk1.mono HB.out.size))
        have HR2 := Lib.hid (HR.out.below hk1)
        have HC2 := Lib.hid ((hk1.cell (p := ⟨b, 0, none⟩) hlt).trans HC.out)
        have hlt3 : b < w1.heap.size := Nat.lt_of_lt_of_le hlt hk1.size
        clear hk1
        go_wp2
        go_roundw
        case rel =>
          refine ⟨k + 1, by omega, by go_num, (show ∀ j < k + 1, usS j ≠ m from fun j hj => ?_), HR2.out, HC2.out, hlt3, HB2.out⟩
          rcases Nat.lt_or_ge j k with h | h
          · exact HNO.out j h
          · rw [show j = k by omega, ← HS.out]; exact HN.out
        case measure => simp [intOf]; omega
    · obtain ⟨hkn⟩ : Nonempty (k = 22) := ⟨by omega⟩
      subst hkn
      have HB := Lib.hid hbw
      clear hrow hcb hbw
      go_wp2
      go_ret
      exact ⟨HB.out, .inr ⟨HNO.out, rfl⟩⟩

set_option maxRecDepth 100000 in
set_option maxHeartbeats 2000000 in
theorem equal_any (g h c1 : Nat) (w : World) (h1 : FRow w g (frL usual)) (h2 : FRow w h (frL usual)) :
    Calls Tryz.prog 19 #[.slice (some ⟨g, 0, none⟩) 22 c1, .slice (some ⟨h, 0, none⟩) 22 22] w fun e w' => e = .returned (.bool true) ∧ Below w.heap.size w w' := by
  go_enter Tryz.func19, Tryz.ntmps19
  go_wp2
  go_loopw [13] (fun i wr => ∃ k j : Nat, k ≤ 22 ∧ i = .int .i64 k ∧ wr = w.drewN j) (fun i _ => 22 - (intOf i).toNat)
  case atStart => exact ⟨0, 0, by omega, rfl, rfl⟩
  case round =>
    obtain ⟨k, j, hk, rfl, rfl⟩ := hrel
    by_cases hlt : k < 22
    · obtain ⟨c0, c1, f0, f1⟩ := (h1.below (below_drewN _ _ j)).us k hlt
      obtain ⟨d0, d1, _, _⟩ := (h2.below (below_drewN _ _ j)).us k hlt
      obtain ⟨W, hW⟩ : ∃ W, W = w.drewN j := ⟨_, rfl⟩
      rw [← hW] at c0 c1 d0 d1 ⊢
      obtain ⟨x, hx⟩ : ∃ x, x = usN k := ⟨_, rfl⟩
      obtain ⟨y, hy⟩ : ∃ y, y = usD k := ⟨_, rfl⟩
      rw [← hx] at c0 d0
      rw [← hy] at c1 d1
      have HW := Lib.hid hW
      have hki : (k : Int) < 22 := by omega
      clear hx hy f0 f1 hW
      go_wp2
      go_quiet (fail)
      go_wp2
      go_roundw
      case rel => exact ⟨k + 1, j + nq, by omega, by go_num, by rw [HW.out, World.drewN_drewN]⟩
      case measure => simp [intOf]; omega
    · go_wp2
      go_ret
      exact ⟨rfl, below_drewN _ _ _⟩

end Go.Proofs.YtiokjnfhopdleaaGreatDoor

namespace Go.Proofs.YtiokjnfhopdleaaGreatDoor
open Go.RowKit

/-- An int in a box. -/
def One (w : World) (b : Nat) (x : Int) : Prop := w.cell? ⟨b, 0, none⟩ = some (.int .i64 x) ∧ b < w.heap.size
theorem One.new (w : World) (x : Int) (t : TypeId) : One (w.alloc (.cells #[.int .i64 x] t)) w.heap.size x := ⟨by rw [World.cell?_alloc_new]; rfl, by simp⟩
theorem One.below {w w' : World} {b : Nat} {x : Int} (h : One w b x) (hb : Below w.heap.size w w') : One w' b x := ⟨(hb.cell (p := ⟨b, 0, none⟩) h.2).trans h.1, Nat.lt_of_lt_of_le h.2 hb.size⟩

theorem feet_found {n : Int} {k : Nat} (hk : k < 22) (h : usS k = n) (w : World) (e : Ending) (w' : World) (hr : RetIndex n w e w') : e = .returned (.int .i64 k) ∧ Below w.heap.size w w' := by
  obtain ⟨hb, ⟨j, hj, hno, hjn, he⟩ | ⟨hno, he⟩⟩ := hr
  · have : j = k := by
      rcases Nat.lt_trichotomy j k with h1 | h1 | h1
      · exact absurd (hjn.trans h.symm) (Int.ne_of_lt (usS_lt h1 hk))
      · exact h1
      · exact absurd h (hno k h1)
    rw [this] at he
    exact ⟨he, hb⟩
  · exact absurd h (hno k hk)
theorem feet_none {n : Int} (h : ∀ j < 22, usS j ≠ n) (w : World) (e : Ending) (w' : World) (hr : RetIndex n w e w') : e = .returned (.int .i64 (-1)) ∧ Below w.heap.size w w' := by
  obtain ⟨hb, ⟨j, hj, hno, hjn, he⟩ | ⟨hno, he⟩⟩ := hr
  · exact absurd hjn (h j hj)
  · exact ⟨he, hb⟩

set_option maxRecDepth 100000 in
set_option maxHeartbeats 4000000 in
theorem pfeet_any (n : Int) (w : World) (ht : Tab w) :
    Calls Tryz.prog 5 #[.int .i64 n] w fun e w' => e = .returned (.bool true) ∧ Below w.heap.size w w' := by
  go_enter Tryz.func5, Tryz.ntmps5
  go_wp2_with fail
  refine (known_any _ (ht.alloc _)).mono ?_
  rintro e w1 ⟨rfl, hk⟩
  have N := (One.new w n 3).below hk
  have hb := (bw_new (Below.refl _ w) (.cells #[.int .i64 n] 3)).trans (hk.mono (by simp))
  clear hk
  have ⟨aN, _⟩ := N
  go_wp2_with fail
  refine (feet_any n _ (ht.below hb)).mono ?_
  rintro e w2 ⟨hk, hret⟩
  replace N := N.below hk
  replace hb := hb.trans (hk.mono hb.size)
  clear hk aN
  have ⟨aN, _⟩ := N
  rcases hret with ⟨k, hk22, hno, hkn, rfl⟩ | ⟨hno, rfl⟩
  · have HKN := Lib.hid hkn
    clear hkn hno
    obtain ⟨a, ha⟩ : ∃ a, a = usN k := ⟨_, rfl⟩
    obtain ⟨b, hb'⟩ : ∃ b, b = usD k := ⟨_, rfl⟩
    rw [← ha, ← hb']
    have HAB := Lib.hid (And.intro ha hb')
    clear ha hb'
    go_wp2_with fail
    refine (lusual_any _).mono ?_
    rintro e w3 ⟨g, rfl, hg, hrow, hk⟩
    have X := (Two.new w2 (a : Int) (b : Int) 23).below hk
    replace N := (N.below (bw_new (Below.refl _ _) (.cells #[.int .i64 a, .int .i64 b] 23))).below hk
    replace hb := bw_new hb (.cells #[.int .i64 a, .int .i64 b] 23)
    replace hb := hb.trans (hk.mono hb.size)
    clear hk aN hg
    have ⟨aN, nN⟩ := N
    have ⟨aX0, aX1, aX2, aX3, _⟩ := X
    have HI := Lib.hid ((index_any n g w.heap.size w3 (ht.below hb) hrow aN nN).mono fun e w' h => feet_found hk22 HKN.out w3 e w' h)
    go_wp2_with fail
    refine (HI.out).mono ?_
    rintro e w4 ⟨rfl, hk⟩
    replace X := X.below hk
    replace hb := hb.trans (hk.mono hb.size)
    clear hk aN nN aX0 aX1 aX2 aX3 N hrow HI
    have ⟨aX0, aX1, aX2, aX3, _⟩ := X
    go_wp2_with fail
    refine (usual_any _).mono ?_
    rintro e w5 ⟨g2, cap, rfl, hcap, hg2, hrow2, hk⟩
    replace X := X.below hk
    replace hb := hb.trans (hk.mono hb.size)
    clear hk aX0 aX1 aX2 aX3 hg2
    have ⟨aX0, aX1, aX2, aX3, _⟩ := X
    go_wp2_with fail
    refine (lusual_any _).mono ?_
    rintro e w6 ⟨g3, rfl, hg3, hrow3, hk⟩
    replace X := X.below hk
    replace hb := hb.trans (hk.mono hb.size)
    replace hrow2 := hrow2.below hk
    clear hk aX0 aX1 aX2 aX3 hg3
    have ⟨aX0, aX1, aX2, aX3, _⟩ := X
    have HE := Lib.hid (equal_any g2 g3 cap w6 hrow2 hrow3)
    clear hrow2 hrow3
    go_wp2_with fail
    refine (HE.out).mono ?_
    rintro e w7 ⟨rfl, hk⟩
    replace X := X.below hk
    replace hb := hb.trans (hk.mono hb.size)
    clear hk aX0 aX1 aX2 aX3 HE
    have ⟨aX0, aX1, aX2, aX3, _⟩ := X
    have hki : (k : Int) < 22 := by omega
    have hT : Held1 w w2.heap.size a b w7 := ⟨aX0, aX1, X, hb⟩
    have hrw : ∀ g W, FRow W g (frL usual) → W.cell? ⟨g, k * 2, none⟩ = some (.int .i64 (a : Int)) ∧ W.cell? ⟨g, k * 2 + 1, none⟩ = some (.int .i64 (b : Int)) := fun g W h => by
      obtain ⟨c0, c1, _, _⟩ := h.us k hk22
      rw [HAB.out.1, HAB.out.2]
      exact ⟨c0, c1⟩
    have HRW := Lib.hid hrw
    clear hrw X hb aX0 aX1 aX2 aX3 HKN HAB
    go_wp2_with fail
    obtain ⟨aX0, aX1, hP⟩ := hT
    go_region_with ((go_at_call 17; refine (lusual_any _).mono ?_; rintro e w' ⟨g4, rfl, hg4, hrow4, hbel⟩; obtain ⟨d0, d1⟩ := HRW.out _ _ hrow4; obtain ⟨y0, y1, hP2⟩ := Held1.below (by first | exact ⟨aX0, aX1, hP⟩ | exact Held1.drew ⟨aX0, aX1, hP⟩ | exact Held1.drew (Held1.drew ⟨aX0, aX1, hP⟩)) hbel; clear hrow4 hg4 hbel))
    all_goals
      simp only [List.getElem_toArray, List.getElem_cons_succ, List.getElem_cons_zero, Act.put, List.setIfInBounds_toArray, List.set_cons_zero, List.set_cons_succ]
      go_wp2
      go_ret
      exact ⟨rfl, hP2.2⟩
  · have HNO := Lib.hid hno
    clear hno
    go_wp2_with fail
    refine (lusual_any _).mono ?_
    rintro e w3 ⟨g, rfl, hg, hrow, hk⟩
    have X := (Two.new w2 0 0 23).below hk
    replace N := (N.below (bw_new (Below.refl _ _) (.cells #[.int .i64 0, .int .i64 0] 23))).below hk
    replace hb := bw_new hb (.cells #[.int .i64 0, .int .i64 0] 23)
    replace hb := hb.trans (hk.mono hb.size)
    clear hk aN hg
    have ⟨aN, nN⟩ := N
    have ⟨aX0, aX1, aX2, aX3, _⟩ := X
    have HI := Lib.hid ((index_any n g w.heap.size w3 (ht.below hb) hrow aN nN).mono fun e w' h => feet_none HNO.out w3 e w' h)
    go_wp2_with fail
    refine (HI.out).mono ?_
    rintro e w4 ⟨rfl, hk⟩
    replace X := X.below hk
    replace hb := hb.trans (hk.mono hb.size)
    clear hk aN nN aX0 aX1 aX2 aX3 N hrow HI
    have ⟨aX0, aX1, aX2, aX3, _⟩ := X
    go_wp2_with fail
    refine (usual_any _).mono ?_
    rintro e w5 ⟨g2, cap, rfl, hcap, hg2, hrow2, hk⟩
    replace X := X.below hk
    replace hb := hb.trans (hk.mono hb.size)
    clear hk aX0 aX1 aX2 aX3 hg2
    have ⟨aX0, aX1, aX2, aX3, _⟩ := X
    go_wp2_with fail
    refine (lusual_any _).mono ?_
    rintro e w6 ⟨g3, rfl, hg3, hrow3, hk⟩
    replace X := X.below hk
    replace hb := hb.trans (hk.mono hb.size)
    replace hrow2 := hrow2.below hk
    clear hk aX0 aX1 aX2 aX3 hg3
    have ⟨aX0, aX1, aX2, aX3, _⟩ := X
    have HE := Lib.hid (equal_any g2 g3 cap w6 hrow2 hrow3)
    clear hrow2 hrow3
    go_wp2_with fail
    refine (HE.out).mono ?_
    rintro e w7 ⟨rfl, hk⟩
    replace X := X.below hk
    replace hb := hb.trans (hk.mono hb.size)
    clear hk aX0 aX1 aX2 aX3 HE
    have ⟨aX0, aX1, aX2, aX3, _⟩ := X
    have HB := Lib.hid hb
    clear hb X
    go_wp2
    go_ret
    exact ⟨rfl, HB.out⟩

end Go.Proofs.YtiokjnfhopdleaaGreatDoor
