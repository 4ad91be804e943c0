/- bombarderef01.whole: the text of groups with a sign. Conditions: at most a million groups, the library's table of powers of ten. -/
import Derived.Test.YtiokjnfhopdleaaGreatDoorRefCut
namespace Go.Proofs.YtiokjnfhopdleaaGreatDoor
open Go.RowKit

/-- The text of a group behind others: four digits. -/
theorem group_text (x : Nat) (hx : x < 10000) : (⟨((Lib.decDigits (10000 + x)).drop 1).toArray⟩ : ByteArray).data.toList = padk 4 x := by
  have h := dec_join 1 (by omega) 4 x (by omega)
  rw [show 1 * 10 ^ 4 + x = 10000 + x by omega, Lib.decDigits_one (show 1 < 10 by decide)] at h
  show (Lib.decDigits (10000 + x)).drop 1 = padk 4 x
  rw [h]; rfl

theorem text_step {G : List Nat} (hG : Small4 G) (i : Nat) (hi : i < G.length) (hne : gv (G.drop (i + 1)) ≠ 0) :
    Lib.decDigits (gv (G.drop i)) = Lib.decDigits (gv (G.drop (i + 1))) ++ padk 4 G[i] := by
  rw [List.drop_eq_getElem_cons hi]
  have := dec_join (gv (G.drop (i + 1))) hne 4 G[i] (by have := hG.get i hi; omega)
  rw [← this]
  congr 1
  simp only [gv]
  omega
theorem grps_drop_ne {n i : Nat} (hi : i < (grps n).length) : gv ((grps n).drop i) ≠ 0 := by
  intro h0
  have hn : n ≠ 0 := by rintro rfl; rw [grps_zero] at hi; simp at hi
  have e := gv_append ((grps n).take i) ((grps n).drop i)
  rw [List.take_append_drop, gv_grps, h0, Nat.mul_zero, Nat.add_zero] at e
  have h1 := gv_lt _ ((grps_small n).take i)
  rw [← e] at h1
  have h2 := grps_len_le n _ h1
  rw [List.length_take] at h2
  omega

set_option maxRecDepth 100000 in
set_option maxHeartbeats 2000000 in
theorem whole_pos (minus : Bool) (n : Nat) (hn : n ≠ 0) (A : Option Addr) (c : Nat) (w : World) (ht : Tab w) (hr : Rd i64v w w.heap.size A (grps n)) (hl : (grps n).length ≤ 200000) :
    Calls Tryz.prog 44 #[.bool minus, .slice A (grps n).length c] w fun e w' => e = .returned (.string (dec (if minus then -(n : Int) else n))) ∧ Below w.heap.size w w' := by
  obtain ⟨G, hG⟩ : ∃ G, G = grps n := ⟨_, rfl⟩
  have hlen := grps_len_pos hn
  have hdrop : ∀ i, i < G.length → gv (G.drop i) ≠ 0 := fun i hi => by rw [hG] at hi ⊢; exact grps_drop_ne hi
  have hsm : Small4 G := by rw [hG]; exact grps_small n
  have hgn : gv G = n := by rw [hG, gv_grps]
  rw [← hG] at hr hl hlen ⊢
  obtain ⟨m, hm⟩ : ∃ m, G.length = m + 1 := ⟨G.length - 1, by omega⟩
  obtain ⟨b, off, rfl, hb0, hcell⟩ := hr.at_ (by omega)
  have HC := Lib.hid hcell
  have HD := Lib.hid hdrop
  have HS := Lib.hid hsm
  have HN := Lib.hid hgn
  have hx4 : G[m]'(by omega) < 10000 := hsm.get m (by omega)
  obtain ⟨x, hx⟩ : ∃ x, x = G[m]'(by omega) := ⟨_, rfl⟩
  have d0 : w.cell? ⟨b, off + m, none⟩ = some (.int .i64 (x : Int)) := by rw [hcell m (by omega), hx]
  rw [← hx] at hx4
  have HX := Lib.hid hx
  have HT := Lib.hid (fun W h => itoa_any (x : Int) (by omega) (by omega) W h)
  clear hcell hdrop hsm hgn hG hx hr hlen
  go_enter Tryz.func44, Tryz.ntmps44
  go_wp2_with fail
  refine (HT.out _ ht).mono ?_
  rintro e w1 ⟨rfl, hk⟩
  go_wp2_with fail
  have hstart : (dec (x : Int)).data.toList = Lib.decDigits (gv (G.drop m)) := by
    rw [dec_list, Lib.itoa_nonneg, HX.out, List.drop_eq_getElem_cons (show m < G.length by omega), List.drop_of_length_le (show G.length ≤ m + 1 by omega), gv_one]
  have hxs : (dec (x : Int)).size ≤ 4 * (m + 1 - m) := by
    have h : (dec (x : Int)).data.toList.length = Lib.nDigits x := by rw [dec_list, Lib.itoa_nonneg]; exact Lib.decDigits_length x
    rw [Array.length_toList] at h
    have h2 := nDigits_le x 4 (by omega) (by omega)
    show (dec (x : Int)).data.size ≤ _
    omega
  have HST := Lib.hid hstart
  have hb1 := hk
  clear hstart hk d0 hx4
  go_loopw [5, 6] (fun sv iv wr => ∃ (j : Nat) (t : ByteArray), j ≤ m ∧ t.size ≤ 4 * (m + 1 - j) ∧ sv = .string t ∧ iv = .int .i64 ((j : Int) - 1) ∧ Lib.Kept (t.data.toList = Lib.decDigits (gv (G.drop j))) ∧ Below w.heap.size w wr)
    (fun _ iv _ => (intOf iv + 1).toNat)
  case atStart => exact ⟨m, _, Nat.le_refl _, hxs, rfl, by first | rfl | (congr 1; omega), HST.out, hb1⟩
  case round =>
    clear hb1
    obtain ⟨j, t, hj, hts, rfl, rfl, hkt, hb⟩ := hrel
    have HKT := Lib.hid hkt
    have HB := Lib.hid hb
    have htr := ht.below hb
    clear hkt hb
    by_cases h0 : j = 0
    · subst h0
      have hfin : t = absS (n : Int) := by
        apply ByteArray.ext
        apply Array.toList_inj.1
        have h := HKT.out
        rw [absS_list, Int.natAbs_natCast, ← HN.out]
        exact h
      subst hfin
      cases minus
      · go_wp2
        go_ret
        exact ⟨by rw [dec_nat]; rfl, HB.out⟩
      · have hneg : dec (-(n : Int)) = ⟨#[45]⟩ ++ absS (n : Int) := by
          apply ByteArray.ext
          apply Array.toList_inj.1
          rw [dec_list, Lib.itoa_neg n (by omega), ByteArray.data_append, Array.toList_append, absS_list, Int.natAbs_natCast]
          rfl
        have HNEG := Lib.hid hneg
        clear hneg
        go_wp2
        go_ret
        exact ⟨by rw [HNEG.out]; rfl, HB.out⟩
    · obtain ⟨i, rfl⟩ : ∃ i, j = i + 1 := ⟨j - 1, by omega⟩
      have hi : ((i + 1 : Nat) : Int) - 1 = (i : Int) := by omega
      rw [hi]
      clear hi h0
      have hig : i < G.length := by omega
      have hx4 : G[i] < 10000 := HS.out.get i hig
      obtain ⟨y, hy⟩ : ∃ y, y = G[i] := ⟨_, rfl⟩
      have d1 : wr.cell? ⟨b, off + i, none⟩ = some (.int .i64 (y : Int)) := by
        rw [HB.out.cell (p := ⟨b, off + i, none⟩) hb0, HC.out i hig, hy]
      rw [← hy] at hx4
      have HY := Lib.hid hy
      have j1 : (i : Int) < (m : Int) + 1 := by omega
      have ht2 := fun W h => itoa_any ((10000 : Int) + (y : Int)) (by omega) (by omega) W h
      obtain ⟨u, hu⟩ : ∃ u, u = dec ((10000 : Int) + (y : Int)) := ⟨_, rfl⟩
      rw [← hu] at ht2
      have hul : u.data.toList = Lib.decDigits (10000 + y) := by
        rw [hu, dec_list, show (10000 : Int) + (y : Int) = ((10000 + y : Nat) : Int) by omega, Lib.itoa_nonneg]
      have hut : u.data.toList.drop 1 = padk 4 y := by
        have h := group_text y hx4
        rw [hul]; exact h
      have hus : 1 ≤ u.size := by
        have h : u.data.toList ≠ [] := by rw [hul]; exact dec_ne_nil _
        have h2 : u.data.toList.length ≠ 0 := fun e => h (List.length_eq_zero_iff.1 e)
        rw [Array.length_toList] at h2
        show 1 ≤ u.data.size
        omega
      have hux : (u.extract 1 u.size).data.toList = padk 4 y := by
        rw [Lib.extract_data, List.take_of_length_le (by rw [List.length_drop, Array.length_toList]; exact Nat.le_refl _), hut]
      have hus2 : (u.extract 1 u.size).size = 4 := by
        have h : (u.extract 1 u.size).data.toList.length = (padk 4 y).length := by rw [hux]
        rw [Array.length_toList] at h
        exact h
      have hus3 : u.size - 1 = 4 := by rw [ByteArray.size_extract] at hus2; omega
      have hus5 : u.size = 5 := by omega
      rw [hus5] at hux hus2
      have HU2 := Lib.hid hus2
      have HUX := Lib.hid hux
      have hui : (1 : Int) ≤ (u.size : Int) := by omega
      have HT2 := Lib.hid ht2
      clear hy hu hul hut hus hux ht2 hus2 hus3
      go_wp2_with fail
      refine (HT2.out _ htr).mono ?_
      rintro e w2 ⟨rfl, hk⟩
      have HB2 := Lib.hid (HB.out.trans (hk.mono HB.out.size))
      clear hk
      go_wp2
      go_roundw
      case rel =>
        refine ⟨i, _, by omega, by first | (rw [ByteArray.size_append, HU2.out]; omega) | omega, rfl, rfl, (show (t ++ u.extract 1 5).data.toList = Lib.decDigits (gv (G.drop i)) from ?_), HB2.out⟩
        rw [text_step HS.out i hig (HD.out (i + 1) (by omega)), ← HKT.out, ← HY.out, ← HUX.out, ByteArray.data_append, Array.toList_append]
      case measure => simp [intOf]
end Go.Proofs.YtiokjnfhopdleaaGreatDoor
