/- bombarderef01.both: the sum of two magnitudes. Conditions: groups below the base, at most a million groups. bombarderef01.both: the difference of two magnitudes, of which the first is not less. Conditions: groups below the base, at most a million groups. -/
import Derived.Test.YtplonkeipdbchaaGreatDoorGroup
import Derived.Test.YtplonkeipdbchaaGreatDoorNum4
namespace Go.Proofs.YtplonkeipdbchaaGreatDoor
section
open Go.RowKit

set_option maxRecDepth 100000 in
set_option maxHeartbeats 4000000 in
theorem both_add (G H : List Nat) (A1 A2 : Option Addr) (c1 c2 : Nat) (w : World) (hr1 : Rd n64v w w.heap.size A1 G) (hr2 : Rd n64v w w.heap.size A2 H) (hG : Small4 G) (hH : Small4 H)
    (hg : G.length ≤ 1000000) (hh : H.length ≤ 1000000) :
    Calls Tryz.prog 65 #[.slice A1 G.length c1, .slice A2 H.length c2, .int .i64 1] w (RetGrp (gv G + gv H) w) := by
  obtain ⟨i0, hi, hz0, hz1, hz2⟩ := info_parts infoIntG
  have HHI := Lib.hid hi
  have HZ0 := Lib.hid hz0
  have HZ1 := Lib.hid hz1
  have HZ2 := Lib.hid hz2
  have HG := Lib.hid hG
  have HH := Lib.hid hH
  clear hi hz0 hz1 hz2 hG hH
  go_enter Tryz.func65, Tryz.ntmps65
  go_wp2
  go_loopw [7, 8, 9] (fun m cv iv wr => ∃ (i k : Nat) (O : List Nat) (A : Option Addr) (cp : Nat), m = .slice A i cp ∧ cv = .int .i64 (k : Int) ∧ iv = .int .i64 (i : Int) ∧ k ≤ 1 ∧ i ≤ 1000001 ∧ Lib.Kept (BothInv G H O i k 1) ∧
      Lib.Kept (max G.length H.length < i → k = 0) ∧ wr.ownsRow w.heap.size 3 1 (.slice A i cp) i (O.map n64v) ∧ Below w.heap.size w wr)
    (fun _ _ iv _ => max G.length H.length + 1 - (intOf iv).toNat)
  case atStart => exact ⟨0, 0, [], none, 0, rfl, rfl, rfl, by omega, by omega, BothInv.start G H 1 (.inl rfl), (show _ → (0 : Nat) = 0 from fun _ => rfl), World.ownsRow_nil _ _ _ _, Below.refl _ _⟩
  case round =>
    obtain ⟨i, k, O, A, cp, rfl, rfl, rfl, hk, hi, hinv, hlast, hown, hb⟩ := hrel
    have HI := Lib.hid hinv
    have HL := Lib.hid hlast
    have HO := Lib.hid hown
    have HB := Lib.hid hb
    have R1 := hr1.below hb
    have R2 := hr2.below hb
    clear hinv hlast hown hb
    by_cases h1 : i < G.length
    · by_cases h2 : i < H.length
      · obtain ⟨b1, o1, rfl, _, q1⟩ := R1.at_ (by omega)
        obtain ⟨b2, o2, rfl, _, q2⟩ := R2.at_ (by omega)
        obtain ⟨x, hx⟩ : ∃ x, x = G[i] := ⟨_, rfl⟩
        obtain ⟨y, hy⟩ : ∃ y, y = H[i] := ⟨_, rfl⟩
        have d1 : wr.cell? ⟨b1, o1 + i, none⟩ = some (.int .i64 (x : Int)) := by rw [q1 i h1, hx]
        have d2 : wr.cell? ⟨b2, o2 + i, none⟩ = some (.int .i64 (y : Int)) := by rw [q2 i h2, hy]
        have hx4 : x < 10000 := by rw [hx]; exact HG.out.get i h1
        have hy4 : y < 10000 := by rw [hy]; exact HH.out.get i h2
        have HX := Lib.hid hx
        have HY := Lib.hid hy
        have hst := HI.out.step (t := (k : Int) + x + 1 * y) (c' := (((k + x + y) / 10000 : Nat) : Int)) (d := (k + x + y) % 10000) (x := x) (y := y) HG.out HH.out (by rw [hx, List.getElem?_eq_getElem h1]; rfl) (by rw [hy, List.getElem?_eq_getElem h2]; rfl) rfl (by omega) (by omega)
        have HST := Lib.hid hst
        clear hx hy q1 q2 hst
        go_wp2_with (at_builtin; refine wpList_append_own _ rfl _ _ 80 rfl w.heap.size 3 i0 (.int .i64 0) 1 8 Tryz.underlying80 HHI.out HZ0.out HZ1.out HZ2.out rfl (by decide) _ _ _ rfl (HO.out.alloc _) ⟨wr.heap.size, 0, none⟩ 1 1 [.int .i64 (((k : Int) + x + y) % 10000)] rfl rfl (cell_one_new _ _ _) (by simp [Value.oneCell']) (by unfold maxLen; omega) (by omega) (by have := HB.out.size; simp; omega) ?_)
        intro v' w3 hown' hgrow _
        obtain ⟨g', cap', rfl, hcap⟩ := own_form hown' (by omega)
        have hb3 : Below w.heap.size w w3 := (HB.out.alloc HB.out.size _).grown hgrow (by have := HB.out.size; simp; omega) (fun g hg => (HO.out.lt g hg).1)
        have ho3 : w3.ownsRow w.heap.size 3 1 (.slice (some ⟨g', 0, none⟩) (i + 1) cap') (i + 1) ((O ++ [(k + x + y) % 10000]).map n64v) := by
          rw [List.map_append, show [(k + x + y) % 10000].map n64v = [.int .i64 (((k : Int) + x + y) % 10000)] by simp]; exact hown'
        have HO3 := Lib.hid ho3
        have HB3 := Lib.hid hb3
        clear hown' hgrow hb3 ho3
        go_wp2
        go_roundw
        case rel => exact ⟨i + 1, (k + x + y) / 10000, O ++ [(k + x + y) % 10000], _, _, rfl, by first | go_num | (congr 1; omega), by go_num, by omega, by omega, HST.out, (show _ → (k + x + y) / 10000 = 0 from fun h => by omega), HO3.out, HB3.out⟩
        case measure => simp [intOf]; omega
      · obtain ⟨b1, o1, rfl, _, q1⟩ := R1.at_ (by omega)
        obtain ⟨x, hx⟩ : ∃ x, x = G[i] := ⟨_, rfl⟩
        have d1 : wr.cell? ⟨b1, o1 + i, none⟩ = some (.int .i64 (x : Int)) := by rw [q1 i h1, hx]
        have hx4 : x < 10000 := by rw [hx]; exact HG.out.get i h1
        have HX := Lib.hid hx
        have hst := HI.out.step (t := (k : Int) + x + 1 * (0 : Nat)) (c' := (((k + x) / 10000 : Nat) : Int)) (d := (k + x) % 10000) (x := x) (y := 0) HG.out HH.out (by rw [hx, List.getElem?_eq_getElem h1]; rfl) (by rw [List.getElem?_eq_none (by omega)]; rfl) rfl (by omega) (by omega)
        have HST := Lib.hid hst
        clear hx q1 hst
        go_wp2_with (at_builtin; refine wpList_append_own _ rfl _ _ 80 rfl w.heap.size 3 i0 (.int .i64 0) 1 8 Tryz.underlying80 HHI.out HZ0.out HZ1.out HZ2.out rfl (by decide) _ _ _ rfl (HO.out.alloc _) ⟨wr.heap.size, 0, none⟩ 1 1 [.int .i64 (((k : Int) + x) % 10000)] rfl rfl (cell_one_new _ _ _) (by simp [Value.oneCell']) (by unfold maxLen; omega) (by omega) (by have := HB.out.size; simp; omega) ?_)
        intro v' w3 hown' hgrow _
        obtain ⟨g', cap', rfl, hcap⟩ := own_form hown' (by omega)
        have hb3 : Below w.heap.size w w3 := (HB.out.alloc HB.out.size _).grown hgrow (by have := HB.out.size; simp; omega) (fun g hg => (HO.out.lt g hg).1)
        have ho3 : w3.ownsRow w.heap.size 3 1 (.slice (some ⟨g', 0, none⟩) (i + 1) cap') (i + 1) ((O ++ [(k + x) % 10000]).map n64v) := by
          rw [List.map_append, show [(k + x) % 10000].map n64v = [.int .i64 (((k : Int) + x) % 10000)] by simp]; exact hown'
        have HO3 := Lib.hid ho3
        have HB3 := Lib.hid hb3
        clear hown' hgrow hb3 ho3
        go_wp2
        go_roundw
        case rel => exact ⟨i + 1, (k + x) / 10000, O ++ [(k + x) % 10000], _, _, rfl, by first | go_num | (congr 1; omega), by go_num, by omega, by omega, HST.out, (show _ → (k + x) / 10000 = 0 from fun h => by omega), HO3.out, HB3.out⟩
        case measure => simp [intOf]; omega
    · by_cases h2 : i < H.length
      · obtain ⟨b2, o2, rfl, _, q2⟩ := R2.at_ (by omega)
        obtain ⟨y, hy⟩ : ∃ y, y = H[i] := ⟨_, rfl⟩
        have d2 : wr.cell? ⟨b2, o2 + i, none⟩ = some (.int .i64 (y : Int)) := by rw [q2 i h2, hy]
        have hy4 : y < 10000 := by rw [hy]; exact HH.out.get i h2
        have HY := Lib.hid hy
        have hst := HI.out.step (t := (k : Int) + (0 : Nat) + 1 * y) (c' := (((k + y) / 10000 : Nat) : Int)) (d := (k + y) % 10000) (x := 0) (y := y) HG.out HH.out (by rw [List.getElem?_eq_none (by omega)]; rfl) (by rw [hy, List.getElem?_eq_getElem h2]; rfl) rfl (by omega) (by omega)
        have HST := Lib.hid hst
        clear hy q2 hst
        go_wp2_with (at_builtin; refine wpList_append_own _ rfl _ _ 80 rfl w.heap.size 3 i0 (.int .i64 0) 1 8 Tryz.underlying80 HHI.out HZ0.out HZ1.out HZ2.out rfl (by decide) _ _ _ rfl (HO.out.alloc _) ⟨wr.heap.size, 0, none⟩ 1 1 [.int .i64 (((k : Int) + y) % 10000)] rfl rfl (cell_one_new _ _ _) (by simp [Value.oneCell']) (by unfold maxLen; omega) (by omega) (by have := HB.out.size; simp; omega) ?_)
        intro v' w3 hown' hgrow _
        obtain ⟨g', cap', rfl, hcap⟩ := own_form hown' (by omega)
        have hb3 : Below w.heap.size w w3 := (HB.out.alloc HB.out.size _).grown hgrow (by have := HB.out.size; simp; omega) (fun g hg => (HO.out.lt g hg).1)
        have ho3 : w3.ownsRow w.heap.size 3 1 (.slice (some ⟨g', 0, none⟩) (i + 1) cap') (i + 1) ((O ++ [(k + y) % 10000]).map n64v) := by
          rw [List.map_append, show [(k + y) % 10000].map n64v = [.int .i64 (((k : Int) + y) % 10000)] by simp]; exact hown'
        have HO3 := Lib.hid ho3
        have HB3 := Lib.hid hb3
        clear hown' hgrow hb3 ho3
        go_wp2
        go_roundw
        case rel => exact ⟨i + 1, (k + y) / 10000, O ++ [(k + y) % 10000], _, _, rfl, by first | go_num | (congr 1; omega), by go_num, by omega, by omega, HST.out, (show _ → (k + y) / 10000 = 0 from fun h => by omega), HO3.out, HB3.out⟩
        case measure => simp [intOf]; omega
      · have hM : max G.length H.length ≤ i := by omega
        by_cases hk0 : k = 0
        · subst hk0
          have hfin := HI.out.done (by omega) (by omega)
          have hsum : gv O = gv G + gv H := by omega
          have hol := HI.out.1
          have hsm := HI.out.2.1
          have hcap := own_cap HO.out
          have hrd : Rd n64v wr wr.heap.size A O := Rd.of_own HO.out hol.symm
          have hsh := short_len O i hol A cp wr.heap.size wr hrd hsm hcap (by omega)
          rw [hsum] at hsh
          have hle : (grps (gv G + gv H)).length ≤ i := by rw [← hsum, ← hol]; exact grps_len_le_len _ hsm
          have heq : grps (gv G + gv H) = O.take (grps (gv G + gv H)).length := by
            have h := grps_eq_take _ hsm
            rw [hsum] at h
            exact h
          have hrd2 : Rd n64v wr wr.heap.size A (grps (gv G + gv H)) := by rw [heq]; exact hrd.take _
          have HSH := Lib.hid hsh
          have HRD := Lib.hid hrd2
          clear hsh hrd2 hrd heq hsm hol hsum hfin
          go_wp2_with fail
          refine (HSH.out).mono ?_
          rintro e w4 ⟨rfl, rfl⟩
          go_wp2
          go_ret
          exact ⟨_, _, rfl, HRD.out, by omega, HB.out⟩
        · obtain rfl : k = 1 := by omega
          have hiM : i ≤ max G.length H.length := by
            have := HL.out
            by_cases hlt : max G.length H.length < i
            · exact absurd (this hlt) (by omega)
            · omega
          have hst := HI.out.step (t := 1) (c' := 0) (d := 1) (x := 0) (y := 0) HG.out HH.out (by rw [List.getElem?_eq_none (by omega)]; rfl) (by rw [List.getElem?_eq_none (by omega)]; rfl) rfl (by omega) (by omega)
          have HST := Lib.hid hst
          clear hst
          go_wp2_with (at_builtin; refine wpList_append_own _ rfl _ _ 80 rfl w.heap.size 3 i0 (.int .i64 0) 1 8 Tryz.underlying80 HHI.out HZ0.out HZ1.out HZ2.out rfl (by decide) _ _ _ rfl (HO.out.alloc _) ⟨wr.heap.size, 0, none⟩ 1 1 [.int .i64 1] rfl rfl (cell_one_new _ _ _) (by simp [Value.oneCell']) (by unfold maxLen; omega) (by omega) (by have := HB.out.size; simp; omega) ?_)
          intro v' w3 hown' hgrow _
          obtain ⟨g', cap', rfl, hcap⟩ := own_form hown' (by omega)
          have hb3 : Below w.heap.size w w3 := (HB.out.alloc HB.out.size _).grown hgrow (by have := HB.out.size; simp; omega) (fun g hg => (HO.out.lt g hg).1)
          have ho3 : w3.ownsRow w.heap.size 3 1 (.slice (some ⟨g', 0, none⟩) (i + 1) cap') (i + 1) ((O ++ [1]).map n64v) := by
            rw [List.map_append]; exact hown'
          have HO3 := Lib.hid ho3
          have HB3 := Lib.hid hb3
          clear hown' hgrow hb3 ho3
          go_wp2
          go_roundw
          case rel => exact ⟨i + 1, 0, O ++ [1], _, _, rfl, by first | go_num | rfl, by go_num, by omega, by omega, HST.out, (show _ → (0 : Nat) = 0 from fun _ => rfl), HO3.out, HB3.out⟩
          case measure => simp [intOf]; omega
end

section
open Go.RowKit

theorem tmod_parts (t : Int) (h : -10000 ≤ t) (h' : t ≤ 9999) : ∃ r : Int, t.tmod 10000 = r ∧ -9999 ≤ r ∧ r ≤ 9999 ∧ r % 10000 = t % 10000 ∧ (t - r % 10000).tdiv 10000 = t / 10000 := by
  have hq : (t - t % 10000).tdiv 10000 = t / 10000 := by
    rw [show t - t % 10000 = 10000 * (t / 10000) by omega, Int.mul_tdiv_cancel_left _ (by omega)]
  by_cases h0 : 0 ≤ t
  · have e : t.tmod 10000 = t % 10000 := Int.tmod_eq_emod_of_nonneg h0
    refine ⟨_, e, by omega, by omega, by omega, ?_⟩
    rw [show t % 10000 % 10000 = t % 10000 by omega]; exact hq
  · have e : t.tmod 10000 = -((-t) % 10000) := by
      rw [show t.tmod 10000 = (-(-t)).tmod 10000 by rw [Int.neg_neg], Int.neg_tmod, Int.tmod_eq_emod_of_nonneg (by omega)]
    refine ⟨_, e, by omega, by omega, by omega, ?_⟩
    rw [show -((-t) % 10000) % 10000 = t % 10000 by omega]; exact hq

set_option maxRecDepth 100000 in
set_option maxHeartbeats 4000000 in
theorem both_subX (G H : List Nat) (A1 A2 : Option Addr) (c1 c2 : Nat) (w : World) (hr1 : Rd n64v w w.heap.size A1 G) (hr2 : Rd n64v w w.heap.size A2 H) (hG : Small4 G) (hH : Small4 H)
    (hg : G.length ≤ 1000000) (hh : H.length ≤ 1000000) (hle : gv H ≤ gv G) :
    Calls Tryz.prog 65 #[.slice A1 G.length c1, .slice A2 H.length c2, .int .i64 (-1)] w (fun e w' => ∃ A cap, e = .returned (.slice A (grps (gv G - gv H)).length cap) ∧ Rd n64v w' w'.heap.size A (grps (gv G - gv H)) ∧ (grps (gv G - gv H)).length ≤ cap ∧ Below w.heap.size w w' ∧ ∀ ad, A = some ad → w.heap.size ≤ ad.block) := by
  obtain ⟨i0, hi, hz0, hz1, hz2⟩ := info_parts infoIntG
  have HHI := Lib.hid hi
  have HZ0 := Lib.hid hz0
  have HZ1 := Lib.hid hz1
  have HZ2 := Lib.hid hz2
  have HG := Lib.hid hG
  have HH := Lib.hid hH
  have HLE := Lib.hid hle
  clear hi hz0 hz1 hz2 hG hH hle
  go_enter Tryz.func65, Tryz.ntmps65
  go_wp2
  go_loopw [7, 8, 9] (fun m cv iv wr => ∃ (i k : Nat) (O : List Nat) (A : Option Addr) (cp : Nat), m = .slice A i cp ∧ cv = .int .i64 (-(k : Int)) ∧ iv = .int .i64 (i : Int) ∧ k ≤ 1 ∧ i ≤ 1000001 ∧ Lib.Kept (BothInv G H O i (-(k : Int)) (-1)) ∧
      wr.ownsRow w.heap.size 3 1 (.slice A i cp) i (O.map n64v) ∧ Below w.heap.size w wr)
    (fun _ _ iv _ => max G.length H.length + 1 - (intOf iv).toNat)
  case atStart => exact ⟨0, 0, [], none, 0, rfl, rfl, rfl, by omega, by omega, (show BothInv G H [] 0 (-((0 : Nat) : Int)) (-1) from BothInv.start G H (-1) (.inr rfl)), World.ownsRow_nil _ _ _ _, Below.refl _ _⟩
  case round =>
    obtain ⟨i, k, O, A, cp, rfl, rfl, rfl, hk, hi, hinv, hown, hb⟩ := hrel
    have HI := Lib.hid hinv
    have HO := Lib.hid hown
    have HB := Lib.hid hb
    have R1 := hr1.below hb
    have R2 := hr2.below hb
    clear hinv hown hb
    by_cases h1 : i < G.length
    · by_cases h2 : i < H.length
      · obtain ⟨b1, o1, rfl, _, q1⟩ := R1.at_ (by omega)
        obtain ⟨b2, o2, rfl, _, q2⟩ := R2.at_ (by omega)
        obtain ⟨x, hx⟩ : ∃ x, x = G[i] := ⟨_, rfl⟩
        have d1 : wr.cell? ⟨b1, o1 + i, none⟩ = some (.int .i64 (x : Int)) := by rw [q1 i h1, hx]
        have hx4 : x < 10000 := by rw [hx]; exact HG.out.get i h1
        obtain ⟨y, hy⟩ : ∃ y, y = H[i] := ⟨_, rfl⟩
        have d2 : wr.cell? ⟨b2, o2 + i, none⟩ = some (.int .i64 (y : Int)) := by rw [q2 i h2, hy]
        have hy4 : y < 10000 := by rw [hy]; exact HH.out.get i h2
        obtain ⟨d, hd⟩ : ∃ d : Nat, (d : Int) = (-(k : Int) + (x : Int) + -(y : Int)) % 10000 := ⟨((-(k : Int) + (x : Int) + -(y : Int)) % 10000).toNat, by omega⟩
        obtain ⟨k', hk', hk1⟩ : ∃ k' : Nat, -(k' : Int) = (-(k : Int) + (x : Int) + -(y : Int)) / 10000 ∧ k' ≤ 1 := ⟨(-((-(k : Int) + (x : Int) + -(y : Int)) / 10000)).toNat, by omega, by omega⟩
        obtain ⟨r, hr, hr1, hr2, hr3, hr4⟩ := tmod_parts (-(k : Int) + (x : Int) + -(y : Int)) (by omega) (by omega)
        have hdr : (d : Int) = r % 10000 := by omega
        have hq : (-(k : Int) + (x : Int) + -(y : Int) - r % 10000).tdiv 10000 = -(k' : Int) := hr4.trans hk'.symm
        have hst := HI.out.step (t := -(k : Int) + (x : Int) + -(y : Int)) (c' := -(k' : Int)) (d := d) (x := x) (y := y) HG.out HH.out (by rw [hx, List.getElem?_eq_getElem h1]; rfl) (by rw [hy, List.getElem?_eq_getElem h2]; rfl) (by omega) hd hk'
        have HST := Lib.hid hst
        have HD := Lib.hid hd
        have HDR := Lib.hid hdr
        have HK' := Lib.hid hk'
        clear hst hd hk' hdr hr3 hr4 hx q1 hy q2
        go_wp2_with (at_builtin; refine wpList_append_own _ rfl _ _ 80 rfl w.heap.size 3 i0 (.int .i64 0) 1 8 Tryz.underlying80 HHI.out HZ0.out HZ1.out HZ2.out rfl (by decide) _ _ _ rfl (HO.out.alloc _) ⟨wr.heap.size, 0, none⟩ 1 1 [.int .i64 (r % 10000)] rfl rfl (cell_one_new _ _ _) (by simp [Value.oneCell']) (by unfold maxLen; omega) (by omega) (by have := HB.out.size; simp; omega) ?_)
        intro v' w3 hown' hgrow _
        obtain ⟨g', cap', rfl, hcap⟩ := own_form hown' (by omega)
        have hb3 : Below w.heap.size w w3 := (HB.out.alloc HB.out.size _).grown hgrow (by have := HB.out.size; simp; omega) (fun g hg => (HO.out.lt g hg).1)
        have ho3 : w3.ownsRow w.heap.size 3 1 (.slice (some ⟨g', 0, none⟩) (i + 1) cap') (i + 1) ((O ++ [d]).map n64v) := by
          rw [List.map_append, show [d].map n64v = [.int .i64 (r % 10000)] by rw [← HDR.out]; rfl]; exact hown'
        have HO3 := Lib.hid ho3
        have HB3 := Lib.hid hb3
        clear hown' hgrow hb3 ho3
        go_wp2
        go_roundw
        case rel => exact ⟨i + 1, k', O ++ [d], _, _, rfl, by first | rfl | go_num | (congr 1; omega), by go_num, by omega, by omega, HST.out, HO3.out, HB3.out⟩
        case measure => simp [intOf]; omega
      · obtain ⟨b1, o1, rfl, _, q1⟩ := R1.at_ (by omega)
        obtain ⟨x, hx⟩ : ∃ x, x = G[i] := ⟨_, rfl⟩
        have d1 : wr.cell? ⟨b1, o1 + i, none⟩ = some (.int .i64 (x : Int)) := by rw [q1 i h1, hx]
        have hx4 : x < 10000 := by rw [hx]; exact HG.out.get i h1
        obtain ⟨d, hd⟩ : ∃ d : Nat, (d : Int) = (-(k : Int) + (x : Int)) % 10000 := ⟨((-(k : Int) + (x : Int)) % 10000).toNat, by omega⟩
        obtain ⟨k', hk', hk1⟩ : ∃ k' : Nat, -(k' : Int) = (-(k : Int) + (x : Int)) / 10000 ∧ k' ≤ 1 := ⟨(-((-(k : Int) + (x : Int)) / 10000)).toNat, by omega, by omega⟩
        obtain ⟨r, hr, hr1, hr2, hr3, hr4⟩ := tmod_parts (-(k : Int) + (x : Int)) (by omega) (by omega)
        have hdr : (d : Int) = r % 10000 := by omega
        have hq : (-(k : Int) + (x : Int) - r % 10000).tdiv 10000 = -(k' : Int) := hr4.trans hk'.symm
        have hst := HI.out.step (t := -(k : Int) + (x : Int)) (c' := -(k' : Int)) (d := d) (x := x) (y := 0) HG.out HH.out (by rw [hx, List.getElem?_eq_getElem h1]; rfl) (by rw [List.getElem?_eq_none (by omega)]; rfl) (by omega) hd hk'
        have HST := Lib.hid hst
        have HD := Lib.hid hd
        have HDR := Lib.hid hdr
        have HK' := Lib.hid hk'
        clear hst hd hk' hdr hr3 hr4 hx q1
        go_wp2_with (at_builtin; refine wpList_append_own _ rfl _ _ 80 rfl w.heap.size 3 i0 (.int .i64 0) 1 8 Tryz.underlying80 HHI.out HZ0.out HZ1.out HZ2.out rfl (by decide) _ _ _ rfl (HO.out.alloc _) ⟨wr.heap.size, 0, none⟩ 1 1 [.int .i64 (r % 10000)] rfl rfl (cell_one_new _ _ _) (by simp [Value.oneCell']) (by unfold maxLen; omega) (by omega) (by have := HB.out.size; simp; omega) ?_)
        intro v' w3 hown' hgrow _
        obtain ⟨g', cap', rfl, hcap⟩ := own_form hown' (by omega)
        have hb3 : Below w.heap.size w w3 := (HB.out.alloc HB.out.size _).grown hgrow (by have := HB.out.size; simp; omega) (fun g hg => (HO.out.lt g hg).1)
        have ho3 : w3.ownsRow w.heap.size 3 1 (.slice (some ⟨g', 0, none⟩) (i + 1) cap') (i + 1) ((O ++ [d]).map n64v) := by
          rw [List.map_append, show [d].map n64v = [.int .i64 (r % 10000)] by rw [← HDR.out]; rfl]; exact hown'
        have HO3 := Lib.hid ho3
        have HB3 := Lib.hid hb3
        clear hown' hgrow hb3 ho3
        go_wp2
        go_roundw
        case rel => exact ⟨i + 1, k', O ++ [d], _, _, rfl, by first | rfl | go_num | (congr 1; omega), by go_num, by omega, by omega, HST.out, HO3.out, HB3.out⟩
        case measure => simp [intOf]; omega
    · by_cases h2 : i < H.length
      · obtain ⟨b2, o2, rfl, _, q2⟩ := R2.at_ (by omega)
        obtain ⟨y, hy⟩ : ∃ y, y = H[i] := ⟨_, rfl⟩
        have d2 : wr.cell? ⟨b2, o2 + i, none⟩ = some (.int .i64 (y : Int)) := by rw [q2 i h2, hy]
        have hy4 : y < 10000 := by rw [hy]; exact HH.out.get i h2
        obtain ⟨d, hd⟩ : ∃ d : Nat, (d : Int) = (-(k : Int) + -(y : Int)) % 10000 := ⟨((-(k : Int) + -(y : Int)) % 10000).toNat, by omega⟩
        obtain ⟨k', hk', hk1⟩ : ∃ k' : Nat, -(k' : Int) = (-(k : Int) + -(y : Int)) / 10000 ∧ k' ≤ 1 := ⟨(-((-(k : Int) + -(y : Int)) / 10000)).toNat, by omega, by omega⟩
        obtain ⟨r, hr, hr1, hr2, hr3, hr4⟩ := tmod_parts (-(k : Int) + -(y : Int)) (by omega) (by omega)
        have hdr : (d : Int) = r % 10000 := by omega
        have hq : (-(k : Int) + -(y : Int) - r % 10000).tdiv 10000 = -(k' : Int) := hr4.trans hk'.symm
        have hst := HI.out.step (t := -(k : Int) + -(y : Int)) (c' := -(k' : Int)) (d := d) (x := 0) (y := y) HG.out HH.out (by rw [List.getElem?_eq_none (by omega)]; rfl) (by rw [hy, List.getElem?_eq_getElem h2]; rfl) (by omega) hd hk'
        have HST := Lib.hid hst
        have HD := Lib.hid hd
        have HDR := Lib.hid hdr
        have HK' := Lib.hid hk'
        clear hst hd hk' hdr hr3 hr4 hy q2
        go_wp2_with (at_builtin; refine wpList_append_own _ rfl _ _ 80 rfl w.heap.size 3 i0 (.int .i64 0) 1 8 Tryz.underlying80 HHI.out HZ0.out HZ1.out HZ2.out rfl (by decide) _ _ _ rfl (HO.out.alloc _) ⟨wr.heap.size, 0, none⟩ 1 1 [.int .i64 (r % 10000)] rfl rfl (cell_one_new _ _ _) (by simp [Value.oneCell']) (by unfold maxLen; omega) (by omega) (by have := HB.out.size; simp; omega) ?_)
        intro v' w3 hown' hgrow _
        obtain ⟨g', cap', rfl, hcap⟩ := own_form hown' (by omega)
        have hb3 : Below w.heap.size w w3 := (HB.out.alloc HB.out.size _).grown hgrow (by have := HB.out.size; simp; omega) (fun g hg => (HO.out.lt g hg).1)
        have ho3 : w3.ownsRow w.heap.size 3 1 (.slice (some ⟨g', 0, none⟩) (i + 1) cap') (i + 1) ((O ++ [d]).map n64v) := by
          rw [List.map_append, show [d].map n64v = [.int .i64 (r % 10000)] by rw [← HDR.out]; rfl]; exact hown'
        have HO3 := Lib.hid ho3
        have HB3 := Lib.hid hb3
        clear hown' hgrow hb3 ho3
        go_wp2
        go_roundw
        case rel => exact ⟨i + 1, k', O ++ [d], _, _, rfl, by first | rfl | go_num | (congr 1; omega), by go_num, by omega, by omega, HST.out, HO3.out, HB3.out⟩
        case measure => simp [intOf]; omega
      · have hk0 : k = 0 := by have := HI.out.noDebt (by omega) (by omega) HLE.out; omega
        subst hk0
        have hfin := BothInv.done (i := i) (O := O) (sg := -1) HI.out (by omega) (by omega)
        have hsum : gv O = gv G - gv H := by have := HLE.out; omega
        have hol := HI.out.1
        have hsm := HI.out.2.1
        have hcap := own_cap HO.out
        have hrd : Rd n64v wr wr.heap.size A O := Rd.of_own HO.out hol.symm
        have hsh := short_len O i hol A cp wr.heap.size wr hrd hsm hcap (by omega)
        rw [hsum] at hsh
        have hle : (grps (gv G - gv H)).length ≤ i := by rw [← hsum, ← hol]; exact grps_len_le_len _ hsm
        have heq : grps (gv G - gv H) = O.take (grps (gv G - gv H)).length := by
          have h := grps_eq_take _ hsm
          rw [hsum] at h
          exact h
        have hrd2 : Rd n64v wr wr.heap.size A (grps (gv G - gv H)) := by rw [heq]; exact hrd.take _
        have HSH := Lib.hid hsh
        have HRD := Lib.hid hrd2
        clear hsh hrd2 hrd heq hsm hol hsum hfin
        go_wp2_with fail
        refine (HSH.out).mono ?_
        rintro e w4 ⟨rfl, rfl⟩
        go_wp2
        go_ret
        exact ⟨_, _, rfl, HRD.out, by omega, HB.out, fun ad e => (HO.out.lt ad.block (by subst e; rfl)).1⟩
theorem both_sub (G H : List Nat) (A1 A2 : Option Addr) (c1 c2 : Nat) (w : World) (hr1 : Rd n64v w w.heap.size A1 G) (hr2 : Rd n64v w w.heap.size A2 H) (hG : Small4 G) (hH : Small4 H)
    (hg : G.length ≤ 1000000) (hh : H.length ≤ 1000000) (hle : gv H ≤ gv G) :
    Calls Tryz.prog 65 #[.slice A1 G.length c1, .slice A2 H.length c2, .int .i64 (-1)] w (RetGrp (gv G - gv H) w) :=
  (both_subX G H A1 A2 c1 c2 w hr1 hr2 hG hH hg hh hle).mono fun e w' ⟨A, cap, h1, h2, h3, h4, _⟩ => ⟨A, cap, h1, h2, h3, h4⟩
end
end Go.Proofs.YtplonkeipdbchaaGreatDoor
