/- The statement PitchRow: the walk. For any index the call returns true. Conditions: the library's table of powers of ten reads as its text lays it. -/
import Derived.Test.YtiokjnfhopdleaaDoorFeet
import Derived.Test.YtiokjnfhopdleaaDoorChecks
namespace Go.Proofs.YtiokjnfhopdleaaDoor
open Go.RowKit

/-- A row of the usual feet, and below the call's heap nothing has changed; and two cells of the row at hand. -/
def RowPack (w : World) (g : Nat) (w' : World) : Prop := FRow w' g (frL usual) ∧ Below w.heap.size w w'
def RowHeld (w : World) (g k : Nat) (w' : World) : Prop :=
  w'.cell? ⟨g, k * 2, none⟩ = some (.int .i64 (usN k)) ∧ w'.cell? ⟨g, k * 2 + 1, none⟩ = some (.int .i64 (usD k)) ∧ RowPack w g w'
theorem RowHeld.of {w w' : World} {g k : Nat} (hk : k < 22) (h : RowPack w g w') : RowHeld w g k w' := ⟨(h.1.us k hk).1, (h.1.us k hk).2.1, h⟩
theorem RowPack.below {w w1 w2 : World} {g : Nat} (h : RowPack w g w1) (hb : Below w1.heap.size w1 w2) : RowPack w g w2 := ⟨h.1.below hb, h.2.trans (hb.mono h.2.size)⟩
theorem RowHeld.below {w w1 w2 : World} {g k : Nat} (hk : k < 22) (h : RowHeld w g k w1) (hb : Below w1.heap.size w1 w2) : RowHeld w g k w2 := .of hk (h.2.2.below hb)
theorem RowHeld.drew {w w1 : World} {g k : Nat} (hk : k < 22) (h : RowHeld w g k w1) : RowHeld w g k w1.drew := h.below hk (bw_drew (Below.refl _ _))
theorem RowHeld.tab {w w1 : World} {g k : Nat} (ht : Tab w) (h : RowHeld w g k w1) : Tab w1 := ht.below h.2.2.2

set_option maxRecDepth 100000 in
set_option maxHeartbeats 2000000 in
theorem row_any (m : Nat) (hm : m ≤ 255) (w : World) (ht : Tab w) :
    Calls Tryd.prog 4 #[.int .u8 m] w fun e w' => e = .returned (.bool true) ∧ Below w.heap.size w w' := by
  obtain ⟨q, hq⟩ : ∃ q, q = m % 21 := ⟨_, rfl⟩
  have hq21 : q < 21 := by omega
  obtain ⟨k, hk⟩ : ∃ k, k = q + 1 := ⟨_, rfl⟩
  have hk22 : k < 22 := by omega
  have hr1 : (1 : Int) + (m : Int) % 21 = (k : Int) := by omega
  have hr2 : (m : Int) % 21 = (q : Int) := by omega
  have hr3 : IntKind.i64.wrap ((k : Int) - 1) = (q : Int) := by rw [IntWalk.i64_in _ (by omega)]; omega
  have hlt : usS q < usS k := usS_lt (by omega) hk22
  have HR := Lib.hid (And.intro hr1 (And.intro hr2 hr3))
  have HLT := Lib.hid hlt
  obtain ⟨pq, iq⟩ := us_parts q (by omega)
  obtain ⟨pk, ik⟩ := us_parts k hk22
  have HSQ := Lib.hid (fun W h => pshift_ok (usN q) (usD q) 8 1 W h pq pr8)
  have HSK := Lib.hid (fun W h => pshift_ok (usN k) (usD k) 8 1 W h pk pr8)
  have HIQ := Lib.hid iq
  have HIK := Lib.hid ik
  have H81 := Lib.hid f81_any
  clear hq hk hr1 hr2 hr3 hlt pq iq pk ik
  go_enter Tryd.func4, Tryd.ntmps4
  go_wp2_with fail
  refine (known_any _ ht).mono ?_
  rintro e w1 ⟨rfl, hb1⟩
  go_wp2_with fail
  refine (usual_any _).mono ?_
  rintro e w2 ⟨g, cap, rfl, hcap, hg, hrow, hk⟩
  have hP : RowPack w g w2 := ⟨hrow, hb1.trans (hk.mono hb1.size)⟩
  have hgw : w.heap.size ≤ g := Nat.le_trans hb1.size hg
  clear hb1 hg hrow hk
  go_wp2_with fail
  rw [HR.out.1, HR.out.2.1]
  have hT : RowHeld w g q w2 := .of (by omega) hP
  have hr3 := HR.out.2.2
  have hqi : (q : Int) < 22 := by omega
  have hqj : q < 22 := by omega
  have ht0 := ht
  clear hP ht
  go_region_held3 (fun w' => w'.cell? ⟨g, q * 2, none⟩ = some (.int .i64 (usN q)) ∧ w'.cell? ⟨g, q * 2 + 1, none⟩ = some (.int .i64 (usD q)) ∧ RowPack w g w') (first | assumption | exact RowHeld.drew (by omega) hT | exact RowHeld.below (by omega) (by assumption) hbel)
    (first
     | (go_at_call 11; refine (H81.out _).mono ?_; rintro e w' ⟨rfl, hbel⟩)
     | (go_at_call 14; refine (HSQ.out _ (RowHeld.tab ht0 (by assumption))).mono ?_; rintro e w' ⟨u, hu, hu1, hu2, rfl, hbel⟩))
  have hf : RowHeld w g q w' := by assumption
  have hT : RowHeld w g k w' := .of hk22 hf.2.2
  have hus : u = usS q := hu.unique HIQ.out
  subst hus
  clear hf hu hu1 hu2 hr3 hqi hqj
  rename_i hH1
  clear hH1 hbel
  rename_i wa hbel
  clear hbel
  have hki : (k : Int) < 22 := by omega
  go_wp2_with fail
  go_region_held3 (fun w' => w'.cell? ⟨g, k * 2, none⟩ = some (.int .i64 (usN k)) ∧ w'.cell? ⟨g, k * 2 + 1, none⟩ = some (.int .i64 (usD k)) ∧ RowPack w g w') (first | assumption | exact RowHeld.drew hk22 hT | exact RowHeld.below hk22 (by assumption) hbel)
    (first
     | (go_at_call 11; refine (H81.out _).mono ?_; rintro e w' ⟨rfl, hbel⟩)
     | (go_at_call 14; refine (HSK.out _ (RowHeld.tab ht0 (by assumption))).mono ?_; rintro e w' ⟨v, hv, hv1, hv2, rfl, hbel⟩))
  have hf : RowHeld w g k w' := by assumption
  have hus : v = usS k := hv.unique HIK.out
  subst hus
  obtain ⟨hrow, hb⟩ := hf.2.2
  clear hf hv hv1 hv2
  rename_i hH2
  clear hH2 hbel
  rename_i wb hbel
  clear hbel
  go_wp2_with fail
  refine (feet_any _ _ (ht0.below hb)).mono ?_
  rintro e w4 ⟨hk, hret⟩
  replace hret : e = .returned (.tuple #[.agg #[.int .i64 (usN k), .int .i64 (usD k)], .int .i64 0]) := by
    rcases hret with ⟨j, hj, hlt, hjk, he⟩ | ⟨hno, he⟩
    · have : j = k := by
        rcases Nat.lt_trichotomy j k with h | h | h
        · exact absurd hjk (Int.ne_of_lt (usS_lt h hk22))
        · exact h
        · exact absurd hjk (Int.ne_of_gt (usS_lt h hj))
      rw [he, this]
    · exact absurd rfl (hno k hk22)
  subst hret
  replace hrow := hrow.below hk
  replace hb := hb.trans (hk.mono hb.size)
  clear hk
  obtain ⟨c0, c1, f0, f1⟩ := hrow.us k hk22
  have hgs := hrow.lt
  obtain ⟨a, ha⟩ : ∃ a, a = usN k := ⟨_, rfl⟩
  obtain ⟨b, hb'⟩ : ∃ b, b = usD k := ⟨_, rfl⟩
  rw [← ha] at c0
  rw [← hb'] at c1
  rw [← ha, ← hb']
  have HAB := Lib.hid (And.intro ha hb')
  clear ha hb'
  go_wp2_with fail
  obtain ⟨W5, hW5⟩ : ∃ W5, W5 = w4.alloc (.cells #[.int .i64 a, .int .i64 b] 23) := ⟨_, rfl⟩
  have X5 : Two W5 w4.heap.size a b := by rw [hW5]; exact Two.new _ _ _ _
  have hrow5 : FRow W5 g (frL usual) := by rw [hW5]; exact hrow.below (bw_new (Below.refl _ _) _)
  have hb5 : Below w.heap.size w W5 := by rw [hW5]; exact bw_new hb _
  rw [← hW5]
  have HROW := Lib.hid hrow5
  have HB5 := Lib.hid hb5
  clear hW5 hrow hb c0 c1 f0 f1 hb5
  obtain ⟨c0, c1, f0, f1⟩ := hrow5.us k hk22
  rw [← HAB.out.1] at c0
  rw [← HAB.out.2] at c1
  have ⟨x0, x1, x2, x3, _⟩ := X5
  clear hrow5
  go_quiet (fail)
  obtain ⟨W6, hW6⟩ : ∃ W6, W6 = W5.drewN nq := ⟨_, rfl⟩
  have hd : Below W5.heap.size W5 W6 := by rw [hW6]; exact below_drewN _ _ _
  rw [← hW6]
  replace X5 := X5.below hd
  have hrow6 := HROW.out.below hd
  have hb6 := HB5.out.trans (hd.mono HB5.out.size)
  have HLT2 := Lib.hid HLT.out
  clear hd hW6 HROW HB5 c0 c1 f0 f1 x0 x1 x2 x3
  go_wp2_with fail
  refine (f_ct 3 1 3 1 W6 (by decide) (by decide) (by decide) (by decide) (by decide)).mono ?_
  rintro e w7 ⟨rfl, hk⟩
  replace X5 := X5.below hk
  have hrow7 := hrow6.below hk
  have hb7 := hb6.trans (hk.mono hb6.size)
  clear hk hrow6 hb6
  obtain ⟨c0, c1, f0, f1⟩ := hrow7.us k hk22
  have hgl := hrow7.lt
  clear hrow7
  go_wp2_with fail
  obtain ⟨W8, hW8⟩ : ∃ W8, W8 = (w7.setCell ⟨g, k * 2, none⟩ (.int .i64 3)).setCell ⟨g, k * 2 + 1, none⟩ (.int .i64 1) := ⟨_, rfl⟩
  have hb8 : Below w.heap.size w W8 := by rw [hW8]; exact bw_set (bw_set hb7 hgw _) hgw _
  have hne : g ≠ w4.heap.size := by omega
  have X8 : Two W8 w4.heap.size a b := by
    obtain ⟨x0, x1, x2, x3, x4⟩ := X5
    rw [hW8]
    refine ⟨?_, ?_, ?_, ?_, by simpa using x4⟩
    · rw [World.cell?_setCell_far _ _ _ _ hne, World.cell?_setCell_far _ _ _ _ hne]; exact x0
    · rw [World.cell?_setCell_far _ _ _ _ hne, World.cell?_setCell_far _ _ _ _ hne]; exact x1
    · rw [World.frozen?_setCell, World.frozen?_setCell]; exact x2
    · rw [World.frozen?_setCell, World.frozen?_setCell]; exact x3
  rw [← hW8]
  clear hW8 X5 hb7 c0 c1 f0 f1 hgl hne
  refine (usual_any _).mono ?_
  rintro e w9 ⟨g2, cap2, rfl, hcap2, hg2, hrow2, hk⟩
  replace X8 := X8.below hk
  have hb9 := hb8.trans (hk.mono hb8.size)
  obtain ⟨c0, c1, f0, f1⟩ := hrow2.us k hk22
  rw [← HAB.out.1] at c0
  rw [← HAB.out.2] at c1
  have ⟨x0, x1, x2, x3, _⟩ := X8
  have HB9 := Lib.hid hb9
  clear hk hb8 hb9 hrow2 hg2
  have hlt := HLT2.out
  go_wp2_with fail
  go_quiet (fail)
  go_wp2
  go_ret
  exact ⟨rfl, bw_drewN HB9.out _⟩

theorem row_int (i : Int) (h : 0 ≤ i ∧ i ≤ 255) (w : World) (ht : Tab w) :
    Calls Tryd.prog 4 #[.int .u8 i] w fun e w' => e = .returned (.bool true) ∧ Below w.heap.size w w' := by
  obtain ⟨m, rfl⟩ := Int.eq_ofNat_of_zero_le h.1
  exact row_any m (by omega) w ht
end Go.Proofs.YtiokjnfhopdleaaDoor
