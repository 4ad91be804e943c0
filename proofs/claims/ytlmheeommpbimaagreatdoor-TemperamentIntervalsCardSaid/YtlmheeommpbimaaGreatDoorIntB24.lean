/- Part 24 of 46 of the proof of the law: contracts of the functions that it reaches, and plain facts. Conditions: those that each contract names. -/
import Derived.Test.YtlmheeommpbimaaGreatDoorIntB23
import Derived.Deep.RegionHeld3
import Derived.Test.YtlmheeommpbimaaGreatDoorIntB07
import Derived.BigQuiet
namespace Go.Proofs.YtlmheeommpbimaaGreatDoor
section
open Go.RowKit
set_option maxRecDepth 100000 in
theorem toInt_any (b : Bool) (w : World) : Calls Tryz.prog 130 #[.bool b] w fun e w' => e = .returned (.int .i64 (if b then 1 else 0)) ∧ w = w' := by
 cases b
 ·go_enter Tryz.func130, Tryz.ntmps130
  go_wp2
  go_ret
  exact ⟨rfl, rfl⟩
 ·go_enter Tryz.func130, Tryz.ntmps130
  go_wp2
  go_ret
  exact ⟨rfl, rfl⟩
theorem gv_drop_lt {L : List Nat} (i : Nat) (hi : i < L.length) : gv L = gv (L.take i) + 10000 ^ i * gv (L.drop i) := by
 have e : L = L.take i ++ L.drop i := (List.take_append_drop i L).symm
 have := gv_append (L.take i) (L.drop i)
 rw [List.take_append_drop, List.length_take, Nat.min_eq_left (by omega)] at this
 exact this
theorem order_len {p q : Nat} (h : (grps q).length < (grps p).length) : q < p := by
 rcases Nat.lt_or_ge q p with h1 | h1
 ·exact h1
 ·have := grps_len_mono h1; omega
theorem order_at {G H : List Nat} (hH : Small4 H) (hl : G.length = H.length) (j : Nat) (hj : j < G.length) (he : G.drop (j + 1) = H.drop (j + 1)) (hlt : H[j]'(by omega) < G[j]) : gv H < gv G := by
 have e1 := gv_drop_lt (L := G) j hj
 have e2 := gv_drop_lt (L := H) j (by omega)
 rw [List.drop_eq_getElem_cons hj] at e1
 rw [List.drop_eq_getElem_cons (show j < H.length by omega)] at e2
 have b1 := gv_lt (H.take j) (hH.take j)
 rw [List.length_take, Nat.min_eq_left (by omega)] at b1
 rw [e1, e2, he]
 clear e1 e2
 obtain ⟨P, hP⟩ : ∃ P, P = 10000 ^ j := ⟨_, rfl⟩
 obtain ⟨t, ht⟩ : ∃ t, t = gv (H.drop (j + 1)) := ⟨_, rfl⟩
 rw [← hP] at b1 ⊢
 have eg : ∀ z, gv (z :: H.drop (j + 1)) = z + 10000 * t := fun z => by rw [ht]; rfl
 rw [eg, eg]
 have m : P * (H[j]'(by omega) + 10000 * t) + P ≤ P * (G[j] + 10000 * t) := by
  rw [← Nat.mul_succ]; exact Nat.mul_le_mul_left _ (by omega)
 omega
end
section
section
open Go.RowKit
theorem toInt_yes (w : World) : Calls Tryz.prog 130 #[.bool true] w fun e w' => e = .returned (.int .i64 1) ∧ w' = w := (toInt_any true w).mono fun _ _ ⟨a, b⟩ => ⟨a, b.symm⟩
theorem toInt_no (w : World) : Calls Tryz.prog 130 #[.bool false] w fun e w' => e = .returned (.int .i64 0) ∧ w' = w := (toInt_any false w).mono fun _ _ ⟨a, b⟩ => ⟨a, b.symm⟩
set_option maxRecDepth 100000 in
set_option maxHeartbeats 4000000 in
theorem order_any (p q : Nat) (A1 A2 : Option Addr) (c1 c2 : Nat) (w : World) (hr1 : Rd n64v w w.heap.size A1 (grps p)) (hr2 : Rd n64v w w.heap.size A2 (grps q))
  (hg : (grps p).length ≤ 1000000) (hh : (grps q).length ≤ 1000000) :
  Calls Tryz.prog 149 #[.slice A1 (grps p).length c1, .slice A2 (grps q).length c2] w fun e w' => e = .returned (.int .i64 (sgnI ((p : Int) - q))) ∧ Below w.heap.size w w' := by
 obtain ⟨G, hG⟩ : ∃ G, G = grps p := ⟨_, rfl⟩
 obtain ⟨H, hH⟩ : ∃ H, H = grps q := ⟨_, rfl⟩
 have hp : p = gv G := by rw [hG, gv_grps]
 have hq : q = gv H := by rw [hH, gv_grps]
 have sG : Small4 G := by rw [hG]; exact grps_small p
 have sH : Small4 H := by rw [hH]; exact grps_small q
 have hlong : H.length < G.length → q < p := fun h => order_len (by rw [← hG, ← hH]; exact h)
 have hlong' : G.length < H.length → p < q := fun h => order_len (by rw [← hG, ← hH]; exact h)
 rw [← hG] at hr1 hg ⊢
 rw [← hH] at hr2 hh ⊢
 have HP := Lib.hid (And.intro hp hq)
 have HS := Lib.hid (And.intro sG sH)
 have HL := Lib.hid (And.intro hlong hlong')
 clear hG hH hp hq sG sH hlong hlong'
 by_cases hlen : G.length = H.length
 ·go_enter Tryz.func149, Tryz.ntmps149
  go_wp2
  go_loopw [5] (fun iv wr => ∃ (j k : Nat), j ≤ G.length ∧ iv = .int .i64 ((j : Int) - 1) ∧ Lib.Kept (G.drop j = H.drop j) ∧ wr = w.drewN k)
   (fun iv _ => (intOf iv + 1).toNat)
  case atStart => exact ⟨G.length, 0, Nat.le_refl _, by first | rfl | (congr 1; omega), (show G.drop G.length = H.drop G.length by rw [List.drop_length, hlen, List.drop_length]), rfl⟩
  case round =>
   obtain ⟨j, k, hj, rfl, hd, rfl⟩ := hrel
   have HD := Lib.hid hd
   clear hd
   by_cases h0 : j = 0
   ·subst h0
    go_wp2
    go_ret
    refine ⟨?_, below_drewN _ _ _⟩
    have : G = H := HD.out
    rw [HP.out.1, HP.out.2, this, Int.sub_self]
    rfl
   ·obtain ⟨i, rfl⟩ : ∃ i, j = i + 1 := ⟨j - 1, by omega⟩
    have hi : ((i + 1 : Nat) : Int) - 1 = (i : Int) := by omega
    rw [hi]
    clear hi h0
    have hb := below_drewN w.heap.size w k
    have R1 := hr1.below hb
    have R2 := hr2.below hb
    obtain ⟨W, hW⟩ : ∃ W, W = w.drewN k := ⟨_, rfl⟩
    obtain ⟨b1, o1, rfl, _, q1⟩ := R1.at_ (by omega)
    obtain ⟨b2, o2, rfl, _, q2⟩ := R2.at_ (by omega)
    have g1 : i < G.length := by omega
    have g2 : i < H.length := by omega
    obtain ⟨x, hx⟩ : ∃ x, x = G[i] := ⟨_, rfl⟩
    obtain ⟨y, hy⟩ : ∃ y, y = H[i] := ⟨_, rfl⟩
    have d1 : (w.drewN k).cell? ⟨b1, o1 + i, none⟩ = some (.int .i64 (x : Int)) := by rw [q1 i g1, hx]
    have d2 : (w.drewN k).cell? ⟨b2, o2 + i, none⟩ = some (.int .i64 (y : Int)) := by rw [q2 i g2, hy]
    rw [← hW] at d1 d2 hb ⊢
    have j1 : (i : Int) < (G.length : Int) := by omega
    have j2 : (i : Int) < (H.length : Int) := by omega
    have j3 : (0 : Int) ≤ (i : Int) := by omega
    have HX := Lib.hid hx
    have HY := Lib.hid hy
    have HB := Lib.hid hb
    have HW := Lib.hid hW
    clear hx hy q1 q2 R1 R2 hr1 hr2 hb hW
    by_cases hxy : x = y
    ·have t1 : ((x : Int) != (y : Int)) = false := by rw [hxy]; simp
     have HE := Lib.hid hxy
     clear hxy
     go_wp2_with (fail)
     go_quiet (fail)
     go_wp2
     go_roundw
     case rel =>
      refine ⟨i, k + nq, by omega, by go_num, (show G.drop i = H.drop i from ?_), by rw [HW.out]; first | rfl | exact (World.drewN_add _ _ _).symm | (simp [World.drewN]; done) | exact (World.drewN_drewN _ _ _)⟩
      rw [List.drop_eq_getElem_cons g1, List.drop_eq_getElem_cons g2, ← HX.out, ← HY.out, HE.out, HD.out]
     case measure => simp [intOf]
    ·have t1 : ((x : Int) != (y : Int)) = true := by rw [bne_iff_ne]; omega
     by_cases hlt : y < x
     ·have t2 : (y : Int) < (x : Int) := by omega
      have hgt : q < p := by
       rw [HP.out.1, HP.out.2]
       exact order_at HS.out.2 hlen i g1 HD.out (by rw [← HX.out, ← HY.out]; exact hlt)
      have HGT := Lib.hid hgt
      clear hgt
      go_wp2_with (fail)
      go_quiet (fail)
      go_wp2_with (fail)
      obtain ⟨W2, hW2⟩ : ∃ W2, W2 = W.drewN nq := ⟨_, rfl⟩
      have d1 : W2.cell? ⟨b1, o1 + i, none⟩ = some (.int .i64 (x : Int)) := by rw [hW2]; exact d1
      have d2 : W2.cell? ⟨b2, o2 + i, none⟩ = some (.int .i64 (y : Int)) := by rw [hW2]; exact d2
      have HB2 := Lib.hid (show Below w.heap.size w W2 by rw [hW2]; exact bw_drewN HB.out _)
      rw [← hW2]
      clear hW2
      go_quiet (first | (go_at_call 130; exact Calls.quiet_of_same (toInt_yes _)))
      go_wp2
      go_ret
      exact ⟨by rw [sgnI_pos (by have := HGT.out; omega)]; rfl, bw_drewN HB2.out _⟩
     ·have t2 : ¬ (y : Int) < (x : Int) := by omega
      have hgt : p < q := by
       rw [HP.out.1, HP.out.2]
       exact order_at HS.out.1 hlen.symm i g2 HD.out.symm (by rw [← HX.out, ← HY.out]; omega)
      have HGT := Lib.hid hgt
      clear hgt
      go_wp2_with (fail)
      go_quiet (fail)
      go_wp2_with (fail)
      obtain ⟨W2, hW2⟩ : ∃ W2, W2 = W.drewN nq := ⟨_, rfl⟩
      have d1 : W2.cell? ⟨b1, o1 + i, none⟩ = some (.int .i64 (x : Int)) := by rw [hW2]; exact d1
      have d2 : W2.cell? ⟨b2, o2 + i, none⟩ = some (.int .i64 (y : Int)) := by rw [hW2]; exact d2
      have HB2 := Lib.hid (show Below w.heap.size w W2 by rw [hW2]; exact bw_drewN HB.out _)
      rw [← hW2]
      clear hW2
      go_quiet (first | (go_at_call 130; exact Calls.quiet_of_same (toInt_no _)))
      go_wp2
      go_ret
      exact ⟨by rw [sgnI_neg (by have := HGT.out; omega)]; rfl, bw_drewN HB2.out _⟩
 ·by_cases hl2 : H.length < G.length
  ·have hgt := HL.out.1 hl2
   have t1 : (H.length : Int) < (G.length : Int) := by omega
   have HGT := Lib.hid hgt
   clear hgt
   go_enter Tryz.func149, Tryz.ntmps149
   go_wp2_with (fail)
   refine (toInt_any _ _).mono ?_
   rintro e w1 ⟨rfl, rfl⟩
   go_wp2
   go_ret
   exact ⟨by rw [sgnI_pos (by have := HGT.out; omega)]; rfl, Below.refl _ _⟩
  ·have hgt := HL.out.2 (by omega)
   have t1 : ¬ (H.length : Int) < (G.length : Int) := by omega
   have HGT := Lib.hid hgt
   clear hgt
   go_enter Tryz.func149, Tryz.ntmps149
   go_wp2_with (fail)
   refine (toInt_any _ _).mono ?_
   rintro e w1 ⟨rfl, rfl⟩
   go_wp2
   go_ret
   exact ⟨by rw [sgnI_neg (by have := HGT.out; omega)]; rfl, Below.refl _ _⟩
end
section
open Go.RowKit
theorem absS_extract (z : Int) (h : z < 0) : (dec z).extract 1 (dec z).size = absS z := by
 apply ByteArray.ext
 apply Array.toList_inj.1
 obtain ⟨u, rfl⟩ : ∃ u : Nat, z = -(u : Int) := ⟨z.natAbs, by omega⟩
 have hl : (dec (-(u : Int))).data.toList = 45 :: Lib.decDigits u := by rw [dec_list, Lib.itoa_neg u (by omega)]
 have hs : (dec (-(u : Int))).size = (Lib.decDigits u).length + 1 := by
  have : (dec (-(u : Int))).data.toList.length = (Lib.decDigits u).length + 1 := by rw [hl]; rfl
  rw [Array.length_toList] at this
  exact this
 rw [Lib.extract_data, hl, hs, absS_list, List.drop_one, List.tail_cons, show (-(u : Int)).natAbs = u by omega, List.take_of_length_le (by omega)]
theorem dec_size_pos (z : Int) (h : z < 0) : 1 ≤ (dec z).size := by
 obtain ⟨u, rfl⟩ : ∃ u : Nat, z = -(u : Int) := ⟨z.natAbs, by omega⟩
 have hl : (dec (-(u : Int))).data.toList.length = (Lib.decDigits u).length + 1 := by rw [dec_list, Lib.itoa_neg u (by omega)]; rfl
 rw [Array.length_toList] at hl
 show 1 ≤ (dec (-(u : Int))).data.size
 omega
theorem dec_nonneg (z : Int) (h : ¬ z < 0) : dec z = absS z := by
 obtain ⟨n, rfl⟩ := Int.eq_ofNat_of_zero_le (show 0 ≤ z by omega)
 exact dec_nat n
set_option maxRecDepth 100000 in
theorem refcut_any (z : Int) (w : World) :
  Calls Tryz.prog 105 #[.string (dec z)] w fun e w' => e = .returned (.tuple #[.bool (decide (z < 0)), .string (absS z)]) ∧ Below w.heap.size w w' := by
 have hp := fun W => Tryz.strings_HasPrefix (dec z) ⟨#[45]⟩ W
 have hq := dec_hasPrefix z
 rw [show (⟨#[45]⟩ : ByteArray).data.toList = [45] from rfl, hq] at hp
 by_cases h : z < 0
 ·have he := absS_extract z h
  have hs := dec_size_pos z h
  rw [decide_eq_true h] at hp ⊢
  obtain ⟨s, hs0⟩ : ∃ s, s = dec z := ⟨_, rfl⟩
  obtain ⟨t, ht0⟩ : ∃ t, t = absS z := ⟨_, rfl⟩
  rw [← hs0] at hp he hs ⊢
  rw [← ht0] at he ⊢
  have HP := Lib.hid hp
  have hs1 : (1 : Int) ≤ (s.size : Int) := by omega
  clear hp hq hs0 ht0 h hs
  go_enter Tryz.func105, Tryz.ntmps105
  go_wp2_with fail
  refine (HP.out _).mono ?_
  rintro e w1 ⟨rfl, rfl⟩
  go_wp2_with fail
  go_quiet (fail)
  go_wp2
  go_ret2
  exact ⟨by rw [← he]; rfl, below_drewN _ _ _⟩
 ·have he := dec_nonneg z h
  rw [decide_eq_false h] at hp ⊢
  rw [he] at hp ⊢
  have HP := Lib.hid hp
  obtain ⟨t, ht0⟩ : ∃ t, t = absS z := ⟨_, rfl⟩
  rw [← ht0] at HP ⊢
  clear hp hq he ht0 h
  go_enter Tryz.func105, Tryz.ntmps105
  go_wp2_with fail
  refine (HP.out _).mono ?_
  rintro e w1 ⟨rfl, rfl⟩
  go_wp2
  go_ret2
  exact ⟨rfl, Below.refl _ _⟩
end
section
open Go.RowKit
theorem group_text (x : Nat) (hx : x < 10000) : (⟨((Lib.decDigits (10000 + x)).drop 1).toArray⟩ : ByteArray).data.toList = padk 4 x := by
 have h := dec_join 1 (by omega) 4 x (by omega)
 rw [show 1 * 10 ^ 4 + x = 10000 + x by omega, Lib.decDigits_one (show 1 < 10 by decide)] at h
 show (Lib.decDigits (10000 + x)).drop 1 = padk 4 x
 rw [h]; rfl
theorem text_step {G : List Nat} (hG : Small4 G) (i : Nat) (hi : i < G.length) (hne : gv (G.drop (i + 1)) ≠ 0) :
  Lib.decDigits (gv (G.drop i)) = Lib.decDigits (gv (G.drop (i + 1))) ++ padk 4 G[i] := by
 rw [List.drop_eq_getElem_cons hi]
 have := dec_join (gv (G.drop (i + 1))) hne 4 G[i] (by have := hG.get i hi; omega)
 rw [← this]
 congr 1
 simp only [gv]
 omega
theorem grps_drop_ne {n i : Nat} (hi : i < (grps n).length) : gv ((grps n).drop i) ≠ 0 := by
 intro h0
 have hn : n ≠ 0 := by rintro rfl; rw [grps_zero] at hi; simp at hi
 have e := gv_append ((grps n).take i) ((grps n).drop i)
 rw [List.take_append_drop, gv_grps, h0, Nat.mul_zero, Nat.add_zero] at e
 have h1 := gv_lt _ ((grps_small n).take i)
 rw [← e] at h1
 have h2 := grps_len_le n _ h1
 rw [List.length_take] at h2
 omega
set_option maxRecDepth 100000 in
set_option maxHeartbeats 2000000 in
theorem whole_pos (minus : Bool) (n : Nat) (hn : n ≠ 0) (A : Option Addr) (c : Nat) (w : World) (ht : Tab w) (hr : Rd n64v w w.heap.size A (grps n)) (hl : (grps n).length ≤ 200000) :
  Calls Tryz.prog 108 #[.bool minus, .slice A (grps n).length c] w fun e w' => e = .returned (.string (dec (if minus then -(n : Int) else n))) ∧ Below w.heap.size w w' := by
 obtain ⟨G, hG⟩ : ∃ G, G = grps n := ⟨_, rfl⟩
 have hlen := grps_len_pos hn
 have hdrop : ∀ i, i < G.length → gv (G.drop i) ≠ 0 := fun i hi => by rw [hG] at hi ⊢; exact grps_drop_ne hi
 have hsm : Small4 G := by rw [hG]; exact grps_small n
 have hgn : gv G = n := by rw [hG, gv_grps]
 rw [← hG] at hr hl hlen ⊢
 obtain ⟨m, hm⟩ : ∃ m, G.length = m + 1 := ⟨G.length - 1, by omega⟩
 obtain ⟨b, off, rfl, hb0, hcell⟩ := hr.at_ (by omega)
 have HC := Lib.hid hcell
 have HD := Lib.hid hdrop
 have HS := Lib.hid hsm
 have HN := Lib.hid hgn
 have hx4 : G[m]'(by omega) < 10000 := hsm.get m (by omega)
 obtain ⟨x, hx⟩ : ∃ x, x = G[m]'(by omega) := ⟨_, rfl⟩
 have d0 : w.cell? ⟨b, off + m, none⟩ = some (.int .i64 (x : Int)) := by rw [hcell m (by omega), hx]
 rw [← hx] at hx4
 have HX := Lib.hid hx
 have HT := Lib.hid (fun W h => itoa_any (x : Int) (by omega) (by omega) W h)
 clear hcell hdrop hsm hgn hG hx hr hlen
 go_enter Tryz.func108, Tryz.ntmps108
 go_wp2_with fail
 refine (HT.out _ ht).mono ?_
 rintro e w1 ⟨rfl, hk⟩
 go_wp2_with fail
 have hstart : (dec (x : Int)).data.toList = Lib.decDigits (gv (G.drop m)) := by
  rw [dec_list, Lib.itoa_nonneg, HX.out, List.drop_eq_getElem_cons (show m < G.length by omega), List.drop_of_length_le (show G.length ≤ m + 1 by omega), gv_one]
 have hxs : (dec (x : Int)).size ≤ 4 * (m + 1 - m) := by
  have h : (dec (x : Int)).data.toList.length = Lib.nDigits x := by rw [dec_list, Lib.itoa_nonneg]; exact Lib.decDigits_length x
  rw [Array.length_toList] at h
  have h2 := nDigits_le x 4 (by omega) (by omega)
  show (dec (x : Int)).data.size ≤ _
  omega
 have HST := Lib.hid hstart
 have hb1 := hk
 clear hstart hk d0 hx4
 go_loopw [5, 6] (fun sv iv wr => ∃ (j : Nat) (t : ByteArray), j ≤ m ∧ t.size ≤ 4 * (m + 1 - j) ∧ sv = .string t ∧ iv = .int .i64 ((j : Int) - 1) ∧ Lib.Kept (t.data.toList = Lib.decDigits (gv (G.drop j))) ∧ Below w.heap.size w wr)
  (fun _ iv _ => (intOf iv + 1).toNat)
 case atStart => exact ⟨m, _, Nat.le_refl _, hxs, rfl, by first | rfl | (congr 1; omega), HST.out, hb1⟩
 case round =>
  clear hb1
  obtain ⟨j, t, hj, hts, rfl, rfl, hkt, hb⟩ := hrel
  have HKT := Lib.hid hkt
  have HB := Lib.hid hb
  have htr := ht.below hb
  clear hkt hb
  by_cases h0 : j = 0
  ·subst h0
   have hfin : t = absS (n : Int) := by
    apply ByteArray.ext
    apply Array.toList_inj.1
    have h := HKT.out
    rw [absS_list, Int.natAbs_natCast, ← HN.out]
    exact h
   subst hfin
   cases minus
   ·go_wp2
    go_ret
    exact ⟨by rw [dec_nat]; rfl, HB.out⟩
   ·have hneg : dec (-(n : Int)) = ⟨#[45]⟩ ++ absS (n : Int) := by
     apply ByteArray.ext
     apply Array.toList_inj.1
     rw [dec_list, Lib.itoa_neg n (by omega), ByteArray.data_append, Array.toList_append, absS_list, Int.natAbs_natCast]
     rfl
    have HNEG := Lib.hid hneg
    clear hneg
    go_wp2
    go_ret
    exact ⟨by rw [HNEG.out]; rfl, HB.out⟩
  ·obtain ⟨i, rfl⟩ : ∃ i, j = i + 1 := ⟨j - 1, by omega⟩
   have hi : ((i + 1 : Nat) : Int) - 1 = (i : Int) := by omega
   rw [hi]
   clear hi h0
   have hig : i < G.length := by omega
   have hx4 : G[i] < 10000 := HS.out.get i hig
   obtain ⟨y, hy⟩ : ∃ y, y = G[i] := ⟨_, rfl⟩
   have d1 : wr.cell? ⟨b, off + i, none⟩ = some (.int .i64 (y : Int)) := by
    rw [HB.out.cell (p := ⟨b, off + i, none⟩) hb0, HC.out i hig, hy]
   rw [← hy] at hx4
   have HY := Lib.hid hy
   have j1 : (i : Int) < (m : Int) + 1 := by omega
   have ht2 := fun W h => itoa_any ((10000 : Int) + (y : Int)) (by omega) (by omega) W h
   obtain ⟨u, hu⟩ : ∃ u, u = dec ((10000 : Int) + (y : Int)) := ⟨_, rfl⟩
   rw [← hu] at ht2
   have hul : u.data.toList = Lib.decDigits (10000 + y) := by
    rw [hu, dec_list, show (10000 : Int) + (y : Int) = ((10000 + y : Nat) : Int) by omega, Lib.itoa_nonneg]
   have hut : u.data.toList.drop 1 = padk 4 y := by
    have h := group_text y hx4
    rw [hul]; exact h
   have hus : 1 ≤ u.size := by
    have h : u.data.toList ≠ [] := by rw [hul]; exact dec_ne_nil _
    have h2 : u.data.toList.length ≠ 0 := fun e => h (List.length_eq_zero_iff.1 e)
    rw [Array.length_toList] at h2
    show 1 ≤ u.data.size
    omega
   have hux : (u.extract 1 u.size).data.toList = padk 4 y := by
    rw [Lib.extract_data, List.take_of_length_le (by rw [List.length_drop, Array.length_toList]; exact Nat.le_refl _), hut]
   have hus2 : (u.extract 1 u.size).size = 4 := by
    have h : (u.extract 1 u.size).data.toList.length = (padk 4 y).length := by rw [hux]
    rw [Array.length_toList] at h
    exact h
   have hus3 : u.size - 1 = 4 := by rw [ByteArray.size_extract] at hus2; omega
   have hus5 : u.size = 5 := by omega
   rw [hus5] at hux hus2
   have HU2 := Lib.hid hus2
   have HUX := Lib.hid hux
   have hui : (1 : Int) ≤ (u.size : Int) := by omega
   have HT2 := Lib.hid ht2
   clear hy hu hul hut hus hux ht2 hus2 hus3
   go_wp2_with fail
   refine (HT2.out _ htr).mono ?_
   rintro e w2 ⟨rfl, hk⟩
   have HB2 := Lib.hid (HB.out.trans (hk.mono HB.out.size))
   clear hk
   go_wp2
   go_roundw
   case rel =>
    refine ⟨i, _, by omega, by first | (rw [ByteArray.size_append, HU2.out]; omega) | omega, rfl, rfl, (show (t ++ u.extract 1 5).data.toList = Lib.decDigits (gv (G.drop i)) from ?_), HB2.out⟩
    rw [text_step HS.out i hig (HD.out (i + 1) (by omega)), ← HKT.out, ← HY.out, ← HUX.out, ByteArray.data_append, Array.toList_append]
   case measure => simp [intOf]
end
end
end Go.Proofs.YtlmheeommpbimaaGreatDoor
