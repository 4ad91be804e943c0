/- The statement PitchSounds: the walk. For any fraction and any key the call returns true. Conditions: the library's table of powers of ten reads as its text lays it. -/
import Derived.Test.YtiokjnfhopdleaaGreatDoorSound
import Derived.Test.YtiokjnfhopdleaaGreatDoorLShift
import Derived.Test.YtiokjnfhopdleaaGreatDoorLaw
import Derived.Deep.RegionHeld3
namespace Go.Proofs.YtiokjnfhopdleaaGreatDoor
open Go.RowKit

set_option maxRecDepth 100000 in
set_option maxHeartbeats 1000000 in
theorem sounds_err (n d k : Int) (w : World) (ht : Tab w) (he : pErr n d ≠ 0) :
    Calls Tryz.prog 3 #[.agg #[.int .i64 n, .int .i64 d], .int .i64 k] w fun e w' => e = .returned (.bool true) ∧ Below w.heap.size w w' := by
  have hc := fun W => lcheck_any n d W
  obtain ⟨x, hx⟩ : ∃ x, x = pErr n d := ⟨_, rfl⟩
  rw [← hx] at hc he
  have hz : (x == 0) = false := by simpa using he
  have hz2 : (x != 0) = true := by simpa using he
  have HC := Lib.hid hc
  clear hc hx he
  go_enter Tryz.func3, Tryz.ntmps3
  go_wp2_with fail
  refine (known_any _ (ht.alloc _)).mono ?_
  rintro e w1 ⟨rfl, hb1⟩
  obtain ⟨hc1, hf1⟩ := bcell hb1
  have hb := (bw_new (Below.refl _ w) (.cells #[.int .i64 n, .int .i64 d] 23)).trans (hb1.mono (by simp))
  clear hb1
  go_wp2_with fail
  refine (HC.out _).mono ?_
  rintro e w2 ⟨rfl, hb2⟩
  have hb := hb.trans (hb2.mono hb.size)
  clear hb2
  go_wp2_with fail
  refine (known_any _ (ht.below hb)).mono ?_
  rintro e w3 ⟨rfl, hb3⟩
  have hb := hb.trans (hb3.mono hb.size)
  clear hb3
  go_wp2
  go_ret
  exact ⟨rfl, hb⟩

theorem lf81 (W : World) : Calls Tryz.prog 10 #[.int .i64 8, .int .i64 1] W fun e w' => e = .returned (.agg #[.int .i64 8, .int .i64 1]) ∧ Below W.heap.size W w' :=
  f_ct 8 1 8 1 W (by decide) (by decide) (by decide) (by decide) (by decide)

set_option maxRecDepth 100000 in
set_option maxHeartbeats 2000000 in
theorem sounds_range (n d : Nat) (k : Int) (w : World) (ht : Tab w) (h : PR n d) (hk : k < 0 ∨ 127 < k) :
    Calls Tryz.prog 3 #[.agg #[.int .i64 n, .int .i64 d], .int .i64 k] w fun e w' => e = .returned (.bool true) ∧ Below w.heap.size w w' := by
  have hc := fun W => lcheck_any n d W
  rw [pErr_ok h] at hc
  have hs := fun W => sounding_range n d k W h hk
  have HC := Lib.hid hc
  have HS := Lib.hid hs
  clear hc hs h
  rcases hk with hk | hk
  all_goals
    go_enter Tryz.func3, Tryz.ntmps3
    go_wp2_with fail
    refine (known_any _ (ht.alloc _)).mono ?_
    rintro e w1 ⟨rfl, hk1⟩
    have X := (Two.new w n d 23).below hk1
    have hb := (bw_new (Below.refl _ w) (.cells #[.int .i64 n, .int .i64 d] 23)).trans (hk1.mono (by simp))
    clear hk1
    have ⟨a0, a1, a2, a3, _⟩ := X
    go_wp2_with fail
    refine (HC.out _).mono ?_
    rintro e w2 ⟨rfl, hk1⟩
    replace X := X.below hk1
    replace hb := hb.trans (hk1.mono hb.size)
    clear hk1 a0 a1 a2 a3
    have ⟨a0, a1, a2, a3, _⟩ := X
    go_wp2_with fail
    refine (HS.out _).mono ?_
    rintro e w3 ⟨rfl, hk1⟩
    replace hb := hb.trans (hk1.mono hb.size)
    clear hk1 a0 a1 a2 a3
    go_wp2
    go_ret
    exact ⟨rfl, hb⟩

/-- A box of two ints, and below the call's heap nothing has changed. -/
def Pack1 (w : World) (b : Nat) (n d : Int) (w' : World) : Prop := Two w' b n d ∧ Below w.heap.size w w'
/-- .. with its cells at hand. -/
def Held1 (w : World) (b : Nat) (n d : Int) (w' : World) : Prop := w'.cell? ⟨b, 0, none⟩ = some (.int .i64 n) ∧ w'.cell? ⟨b, 1, none⟩ = some (.int .i64 d) ∧ Pack1 w b n d w'
theorem Held1.below {w w1 w2 : World} {b : Nat} {n d : Int} (h : Held1 w b n d w1) (hb : Below w1.heap.size w1 w2) : Held1 w b n d w2 := by
  obtain ⟨_, _, h1, h4⟩ := h
  have k1 := h1.below hb
  exact ⟨k1.1, k1.2.1, k1, h4.trans (hb.mono h4.size)⟩
theorem Held1.drew {w w1 : World} {b : Nat} {n d : Int} (h : Held1 w b n d w1) : Held1 w b n d w1.drew := h.below (bw_drew (Below.refl _ _))
theorem Held1.tab {w w1 : World} {b : Nat} {n d : Int} (ht : Tab w) (h : Held1 w b n d w1) : Tab w1 := ht.below h.2.2.2

set_option maxRecDepth 100000 in
set_option maxHeartbeats 2000000 in
theorem sounds_in (n d : Nat) (k : Int) (w : World) (ht : Tab w) (h : PR n d) (hk0 : 0 ≤ k) (hk1 : k ≤ 127) :
    Calls Tryz.prog 3 #[.agg #[.int .i64 n, .int .i64 d], .int .i64 k] w fun e w' => e = .returned (.bool true) ∧ Below w.heap.size w w' := by
  have hc := fun W => lcheck_any n d W
  rw [pErr_ok h] at hc
  have hs := fun W hW => sounding_in n d k W hW h hk0 hk1
  have hl := fun W hW => lshift_any n d 8 1 W hW h pr81'
  have HC := Lib.hid hc
  have HS := Lib.hid hs
  have HL := Lib.hid hl
  clear hc hs hl h
  go_enter Tryz.func3, Tryz.ntmps3
  go_wp2_with fail
  refine (known_any _ (ht.alloc _)).mono ?_
  rintro e w1 ⟨rfl, hk2⟩
  have X := (Two.new w n d 23).below hk2
  have hb := (bw_new (Below.refl _ w) (.cells #[.int .i64 n, .int .i64 d] 23)).trans (hk2.mono (by simp))
  clear hk2
  have ⟨a0, a1, a2, a3, _⟩ := X
  go_wp2_with fail
  refine (HC.out _).mono ?_
  rintro e w2 ⟨rfl, hk2⟩
  replace X := X.below hk2
  replace hb := hb.trans (hk2.mono hb.size)
  clear hk2 a0 a1 a2 a3
  have ⟨a0, a1, a2, a3, _⟩ := X
  go_wp2_with fail
  refine (HS.out _ (ht.below hb)).mono ?_
  rintro e w3 ⟨hk2, s, hs, hs1, hs2, hor⟩
  replace X := X.below hk2
  replace hb := hb.trans (hk2.mono hb.size)
  have HIS := Lib.hid hs
  clear hk2 a0 a1 a2 a3 hs
  have ⟨a0, a1, a2, a3, _⟩ := X
  have hls : ∀ W, Tab W → Calls Tryz.prog 9 #[.agg #[.int .i64 n, .int .i64 d], .agg #[.int .i64 8, .int .i64 1]] W fun e W' => e = .returned (.int .i64 s) ∧ Below W.heap.size W W' := fun W hW =>
    (HL.out W hW).mono fun e W' ⟨s', hs', _, _, he, hb⟩ => ⟨by rw [he, hs'.unique HIS.out], hb⟩
  have HLS := Lib.hid hls
  have hT : Held1 w w.heap.size n d w3 := ⟨a0, a1, X, hb⟩
  have ht0 := ht
  clear hls X hb a0 a1 a2 a3 ht
  rcases hor with ⟨hr, rfl⟩ | ⟨⟨hr1, hr2⟩, rfl⟩
  · rcases hr with hr | hr
    all_goals
      go_wp2_with fail
      go_region_held3 (fun w' => w'.cell? ⟨w.heap.size, 0, none⟩ = some (.int .i64 n) ∧ w'.cell? ⟨w.heap.size, 1, none⟩ = some (.int .i64 d) ∧ Pack1 w w.heap.size n d w') (first | assumption | exact Held1.drew hT | exact Held1.below (by assumption) hbel)
        (first
         | (go_at_call 10; refine (lf81 _).mono ?_; rintro e w' ⟨rfl, hbel⟩)
         | (go_at_call 9; refine (HLS.out _ (Held1.tab ht0 (by assumption))).mono ?_; rintro e w' ⟨rfl, hbel⟩))
      have hf : Held1 w w.heap.size n d w' := by assumption
      go_wp2
      go_ret
      exact ⟨rfl, hf.2.2.2⟩
  · go_wp2_with fail
    go_region_held3 (fun w' => w'.cell? ⟨w.heap.size, 0, none⟩ = some (.int .i64 n) ∧ w'.cell? ⟨w.heap.size, 1, none⟩ = some (.int .i64 d) ∧ Pack1 w w.heap.size n d w') (first | assumption | exact Held1.drew hT | exact Held1.below (by assumption) hbel)
      (first
       | (go_at_call 10; refine (lf81 _).mono ?_; rintro e w' ⟨rfl, hbel⟩)
       | (go_at_call 9; refine (HLS.out _ (Held1.tab ht0 (by assumption))).mono ?_; rintro e w' ⟨rfl, hbel⟩))
    have hf : Held1 w w.heap.size n d w' := by assumption
    go_wp2
    go_ret
    exact ⟨rfl, hf.2.2.2⟩

theorem sounds_any (n d k : Int) (w : World) (ht : Tab w) :
    Calls Tryz.prog 3 #[.agg #[.int .i64 n, .int .i64 d], .int .i64 k] w fun e w' => e = .returned (.bool true) ∧ Below w.heap.size w w' := by
  by_cases he : pErr n d = 0
  · have h := PR_of he
    obtain ⟨x, rfl⟩ := Int.eq_ofNat_of_zero_le (show 0 ≤ n by have := h.2.1; omega)
    obtain ⟨y, rfl⟩ := Int.eq_ofNat_of_zero_le (show 0 ≤ d by have := h.1.1; omega)
    by_cases hk : k < 0 ∨ 127 < k
    · exact sounds_range x y k w ht h hk
    · exact sounds_in x y k w ht h (by omega) (by omega)
  · exact sounds_err n d k w ht he

end Go.Proofs.YtiokjnfhopdleaaGreatDoor
