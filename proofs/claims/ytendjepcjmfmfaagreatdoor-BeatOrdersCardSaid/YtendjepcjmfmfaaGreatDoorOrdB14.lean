/- Part 14 of 47 of the proof of the law: contracts of the functions that it reaches, and plain facts. Conditions: those that each contract names. -/
import Derived.Test.YtendjepcjmfmfaaGreatDoorOrdB09
import Derived.Test.YtendjepcjmfmfaaGreatDoorOrdB03
import Derived.Test.YtendjepcjmfmfaaGreatDoorOrdB07
import Derived.BigQuiet
import Derived.Deep.QuietTactic
import Derived.Deep.RegionLaw
import Derived.Lib.TrimByte
namespace Go.Proofs.YtendjepcjmfmfaaGreatDoor
open Go.RowKit
theorem limb_len {p q : Nat} (h : (limbs q).length < (limbs p).length) : q < p := by
 rcases Nat.lt_or_ge q p with h1 | h1
 ·exact h1
 ·have := limbs_len_mono h1; omega
theorem lv_parts (L : List Nat) (i : Nat) (hi : i ≤ L.length) : lv L = lv (L.take i) + 1000000000 ^ i * lv (L.drop i) := by
 have := lv_append (L.take i) (L.drop i)
 rwa [List.take_append_drop, List.length_take, Nat.min_eq_left hi] at this
theorem limb_at {G H : List Nat} (hH : Small H) (hl : G.length = H.length) (j : Nat) (hj : j < G.length) (he : G.drop (j + 1) = H.drop (j + 1)) (hlt : H[j]'(by omega) < G[j]) : lv H < lv G := by
 rw [lv_parts G j (by omega), lv_parts H j (by omega), lv_drop j hj, lv_drop j (by omega), he]
 have h1 := lv_lt _ (hH.take j)
 rw [List.length_take, Nat.min_eq_left (by omega)] at h1
 have h2 : 1000000000 ^ j * (H[j]'(by omega) + 1) ≤ 1000000000 ^ j * G[j] := Nat.mul_le_mul_left _ hlt
 rw [Nat.mul_add, Nat.mul_one] at h2
 rw [Nat.mul_add, Nat.mul_add]
 omega
set_option maxRecDepth 100000 in
set_option maxHeartbeats 4000000 in
theorem mcmp_any (p q : Nat) (A1 A2 : Option Addr) (c1 c2 : Nat) (w : World) (hr1 : Rd u64v w w.heap.size A1 (limbs p)) (hr2 : Rd u64v w w.heap.size A2 (limbs q))
  (_hg : (limbs p).length ≤ 1000000) (_hh : (limbs q).length ≤ 1000000) :
  Calls Tryz.prog 157 #[.slice A1 (limbs p).length c1, .slice A2 (limbs q).length c2] w fun e w' => e = .returned (.int .i64 (sgnI ((p : Int) - q))) ∧ Below w.heap.size w w' := by
 obtain ⟨G, hG⟩ : ∃ G, G = limbs p := ⟨_, rfl⟩
 obtain ⟨H, hH⟩ : ∃ H, H = limbs q := ⟨_, rfl⟩
 have hp : p = lv G := by rw [hG, lv_limbs]
 have hq : q = lv H := by rw [hH, lv_limbs]
 have sG : Small G := by rw [hG]; exact limbs_small p
 have sH : Small H := by rw [hH]; exact limbs_small q
 have hlong : H.length < G.length → q < p := fun h => limb_len (by rw [← hG, ← hH]; exact h)
 have hlong' : G.length < H.length → p < q := fun h => limb_len (by rw [← hG, ← hH]; exact h)
 rw [← hG] at hr1 _hg ⊢
 rw [← hH] at hr2 _hh ⊢
 have HP := Lib.hid (And.intro hp hq)
 have HS := Lib.hid (And.intro sG sH)
 have HL := Lib.hid (And.intro hlong hlong')
 clear hG hH hp hq sG sH hlong hlong'
 by_cases hlen : G.length = H.length
 ·have hlb : ((G.length : Int) != (H.length : Int)) = false := by rw [hlen]; simp
  have HLEN := Lib.hid hlen
  have hl1 : G.length ≤ H.length := by omega
  have hl2 : H.length ≤ G.length := by omega
  clear hlen
  go_enter Tryz.func157, Tryz.ntmps157
  go_wp2
  go_loopw [5] (fun iv wr => ∃ (j k : Nat), j ≤ G.length ∧ iv = .int .i64 ((j : Int) - 1) ∧ Lib.Kept (G.drop j = H.drop j) ∧ wr = w.drewN k)
   (fun iv _ => (intOf iv + 1).toNat)
  case atStart => exact ⟨G.length, 0, Nat.le_refl _, by first | rfl | (congr 1; omega), (show G.drop G.length = H.drop G.length by rw [List.drop_length, HLEN.out, List.drop_length]), rfl⟩
  case round =>
   obtain ⟨j, k, hj, rfl, hd, rfl⟩ := hrel
   have HD := Lib.hid hd
   clear hd
   by_cases h0 : j = 0
   ·subst h0
    go_wp2
    go_ret
    refine ⟨?_, below_drewN _ _ _⟩
    have : G = H := HD.out
    rw [HP.out.1, HP.out.2, this, Int.sub_self]
    rfl
   ·obtain ⟨i, rfl⟩ : ∃ i, j = i + 1 := ⟨j - 1, by omega⟩
    have hi : ((i + 1 : Nat) : Int) - 1 = (i : Int) := by omega
    rw [hi]
    clear hi h0
    have hb := below_drewN w.heap.size w k
    have R1 := hr1.below hb
    have R2 := hr2.below hb
    obtain ⟨W, hW⟩ : ∃ W, W = w.drewN k := ⟨_, rfl⟩
    obtain ⟨b1, o1, rfl, _, q1⟩ := R1.at_ (by omega)
    obtain ⟨b2, o2, rfl, _, q2⟩ := R2.at_ (by omega)
    have g1 : i < G.length := by omega
    have g2 : i < H.length := by omega
    obtain ⟨x, hx⟩ : ∃ x, x = G[i] := ⟨_, rfl⟩
    obtain ⟨y, hy⟩ : ∃ y, y = H[i] := ⟨_, rfl⟩
    have d1 : (w.drewN k).cell? ⟨b1, o1 + i, none⟩ = some (.int .u64 (x : Int)) := by rw [q1 i g1, hx]
    have d2 : (w.drewN k).cell? ⟨b2, o2 + i, none⟩ = some (.int .u64 (y : Int)) := by rw [q2 i g2, hy]
    rw [← hW] at d1 d2 hb ⊢
    have j1 : (i : Int) < (G.length : Int) := by omega
    have j2 : (i : Int) < (H.length : Int) := by omega
    have j3 : (0 : Int) ≤ (i : Int) := by omega
    have HX := Lib.hid hx
    have HY := Lib.hid hy
    have HB := Lib.hid hb
    have HW := Lib.hid hW
    clear hx hy q1 q2 R1 R2 hr1 hr2 hb hW
    by_cases hlt : x < y
    ·have t2 : (x : Int) < (y : Int) := by omega
     have hgt : p < q := by
      rw [HP.out.1, HP.out.2]
      exact limb_at HS.out.1 HLEN.out.symm i g2 HD.out.symm (by rw [← HX.out, ← HY.out]; omega)
     have HGT := Lib.hid hgt
     clear hgt
     go_wp2_with (fail)
     go_quiet (fail)
     go_wp2
     go_ret
     exact ⟨by rw [sgnI_neg (by have := HGT.out; omega)]; rfl, bw_drewN HB.out _⟩
    ·have t2 : ¬ (x : Int) < (y : Int) := by omega
     by_cases hlt2 : y < x
     ·have t3 : (y : Int) < (x : Int) := by omega
      have hgt : q < p := by
       rw [HP.out.1, HP.out.2]
       exact limb_at HS.out.2 HLEN.out i g1 HD.out (by rw [← HX.out, ← HY.out]; exact hlt2)
      have HGT := Lib.hid hgt
      clear hgt
      go_wp2_with (fail)
      go_quiet (fail)
      go_wp2_with (fail)
      obtain ⟨W2, hW2⟩ : ∃ W2, W2 = W.drewN nq := ⟨_, rfl⟩
      have d1 : W2.cell? ⟨b1, o1 + i, none⟩ = some (.int .u64 (x : Int)) := by rw [hW2]; exact d1
      have d2 : W2.cell? ⟨b2, o2 + i, none⟩ = some (.int .u64 (y : Int)) := by rw [hW2]; exact d2
      have HB2 := Lib.hid (show Below w.heap.size w W2 by rw [hW2]; exact bw_drewN HB.out _)
      rw [← hW2]
      clear hW2
      go_quiet (fail)
      go_wp2
      go_ret
      exact ⟨by rw [sgnI_pos (by have := HGT.out; omega)]; rfl, bw_drewN HB2.out _⟩
     ·have t3 : ¬ (y : Int) < (x : Int) := by omega
      have hxy : x = y := by omega
      have HE := Lib.hid hxy
      clear hxy
      go_wp2_with (fail)
      go_quiet (fail)
      go_wp2_with (fail)
      obtain ⟨W2, hW2⟩ : ∃ W2, W2 = W.drewN nq := ⟨_, rfl⟩
      have d1 : W2.cell? ⟨b1, o1 + i, none⟩ = some (.int .u64 (x : Int)) := by rw [hW2]; exact d1
      have d2 : W2.cell? ⟨b2, o2 + i, none⟩ = some (.int .u64 (y : Int)) := by rw [hW2]; exact d2
      obtain ⟨k2, hk2⟩ : ∃ k2, k2 = k + nq := ⟨_, rfl⟩
      have HW2 := Lib.hid (show W2 = w.drewN k2 by rw [hW2, HW.out, World.drewN_drewN, hk2])
      rw [← hW2]
      clear hW2 hk2
      go_quiet (fail)
      go_wp2
      go_roundw
      case rel =>
       have hdr : G.drop i = H.drop i := by rw [List.drop_eq_getElem_cons g1, List.drop_eq_getElem_cons g2, ← HX.out, ← HY.out, HE.out, HD.out]
       exact ⟨i, k2 + nq, by omega, by go_num, hdr, by rw [HW2.out, World.drewN_drewN]⟩
      case measure => simp [intOf]
 ·by_cases hl2 : H.length < G.length
  ·have hgt := HL.out.1 hl2
   have t1 : ¬ (G.length : Int) < (H.length : Int) := by omega
   have HGT := Lib.hid hgt
   clear hgt
   go_enter Tryz.func157, Tryz.ntmps157
   go_wp2
   go_ret
   exact ⟨by rw [sgnI_pos (by have := HGT.out; omega)]; rfl, Below.refl _ _⟩
  ·have hgt := HL.out.2 (by omega)
   have t1 : (G.length : Int) < (H.length : Int) := by omega
   have HGT := Lib.hid hgt
   clear hgt
   go_enter Tryz.func157, Tryz.ntmps157
   go_wp2
   go_ret
   exact ⟨by rw [sgnI_neg (by have := HGT.out; omega)]; rfl, Below.refl _ _⟩
set_option maxRecDepth 100000 in
set_option maxHeartbeats 4000000 in
theorem mplus_ge (M N : List Nat) (A1 A2 : Option Addr) (c1 c2 : Nat) (w : World) (hr1 : Rd u64v w w.heap.size A1 M) (hr2 : Rd u64v w w.heap.size A2 N) (hM : Small M) (hN : Small N)
  (hm : M.length ≤ 1000000) (hle : N.length ≤ M.length) :
  Calls Tryz.prog 156 #[.slice A1 M.length c1, .slice A2 N.length c2] w (RetMag (lv M + lv N) w) := by
 obtain ⟨i0, hi, hz0, hz1, hz2⟩ := info_parts Tryz.infoU64
 have HHI := Lib.hid hi
 have HZ0 := Lib.hid hz0
 have HZ1 := Lib.hid hz1
 have HZ2 := Lib.hid hz2
 have HM := Lib.hid hM
 have HN := Lib.hid hN
 clear hi hz0 hz1 hz2 hM hN
 go_enter Tryz.func156, Tryz.ntmps156
 go_wp2_with (at_make; refine wpList_make_own _ rfl _ _ 156 rfl w.heap.size 145 i0 (.int .u64 0) 1 Tryz.underlying156 HHI.out HZ0.out HZ1.out .i64 .i64 _ (M.length + 1) rfl rfl (by omega) (by rw [HZ2.out]; omega) (by unfold maxLen; omega) (Nat.le_refl _) ?_)
 intro w1 hown hgrow
 have hb1 : Below w.heap.size w w1 := (Below.refl _ _).grown hgrow (Nat.le_refl _) (by simp)
 have HO1 := Lib.hid hown
 have HB1 := Lib.hid hb1
 clear hown hgrow hb1
 go_wp2
 go_loopw [5, 6, 22] (fun m cv iv wr => ∃ (i c : Nat) (O : List Nat) (A : Option Addr) (cp : Nat), m = .slice A i cp ∧ cv = .int .u64 (c : Int) ∧ iv = .int .i64 (i : Int) ∧ c ≤ 1 ∧ i ≤ M.length ∧ Lib.Kept (PlusInv M N O i c) ∧
   wr.ownsRow w.heap.size 145 1 (.slice A i cp) i (O.map u64v) ∧ Below w.heap.size w wr)
  (fun _ _ iv _ => M.length - (intOf iv).toNat)
 case atStart => exact ⟨0, 0, [], _, _, rfl, rfl, rfl, by omega, by omega, PlusInv.start M N, HO1.out, HB1.out⟩
 case round =>
  clear HO1 HB1
  obtain ⟨i, c, O, A, cp, rfl, rfl, rfl, hc, hi, hinv, hown, hb⟩ := hrel
  have HI := Lib.hid hinv
  have HO := Lib.hid hown
  have HB := Lib.hid hb
  clear hinv hown hb
  by_cases h1 : i < M.length
  ·obtain ⟨b1, o1, rfl, _, q1⟩ := (hr1.below HB.out).at_ (by omega)
   obtain ⟨x, hx⟩ : ∃ x, x = M[i] := ⟨_, rfl⟩
   have d1 : wr.cell? ⟨b1, o1 + i, none⟩ = some (.int .u64 (x : Int)) := by rw [q1 i h1, hx]
   have hx9 : x < 1000000000 := by rw [hx]; exact HM.out.get i h1
   have hxe : x = M[i]?.getD 0 := by rw [hx, List.getElem?_eq_getElem h1]; rfl
   have HXE := Lib.hid hxe
   clear hx q1 hxe
   by_cases h2 : i < N.length
   ·obtain ⟨b2, o2, rfl, _, q2⟩ := (hr2.below HB.out).at_ (by omega)
    obtain ⟨y, hy⟩ : ∃ y, y = N[i] := ⟨_, rfl⟩
    have d2 : wr.cell? ⟨b2, o2 + i, none⟩ = some (.int .u64 (y : Int)) := by rw [q2 i h2, hy]
    have hy9 : y < 1000000000 := by rw [hy]; exact HN.out.get i h2
    have hye : y = N[i]?.getD 0 := by rw [hy, List.getElem?_eq_getElem h2]; rfl
    have hst := HI.out.step HM.out HN.out HXE.out hye rfl
    have HST := Lib.hid hst
    clear hy q2 hye hst
    go_wp2_with (at_builtin; refine wpList_append_own _ rfl _ _ 156 rfl w.heap.size 145 i0 (.int .u64 0) 1 8 Tryz.underlying156 HHI.out HZ0.out HZ1.out HZ2.out rfl (by decide) _ _ _ rfl (HO.out.alloc _) ⟨wr.heap.size, 0, none⟩ 1 1 [.int .u64 (((x : Int) + c + y) % 1000000000)] rfl rfl (cell_one_new _ _ _) (by simp [Value.oneCell']) (by unfold maxLen; omega) (by omega) (by have := HB.out.size; simp; omega) ?_)
    intro v' w3 hown' hgrow _
    obtain ⟨g', cap', rfl, hcap⟩ := own_form hown' (by omega)
    have hb3 : Below w.heap.size w w3 := (HB.out.alloc HB.out.size _).grown hgrow (by have := HB.out.size; simp; omega) (fun g hg => (HO.out.lt g hg).1)
    have e1 : [(x + c + y) % 1000000000].map u64v = [.int .u64 (((x : Int) + c + y) % 1000000000)] := by first | rfl | simp | (simp; omega)
    rw [← e1, ← List.map_append] at hown'
    have HO3 := Lib.hid hown'
    have HB3 := Lib.hid hb3
    clear hown' hgrow hb3 e1
    go_wp2
    go_roundw
    case rel => exact ⟨i + 1, (x + c + y) / 1000000000, O ++ [(x + c + y) % 1000000000], _, _, rfl, by first | go_num | (congr 1; omega), by go_num, by omega, by omega, HST.out, HO3.out, HB3.out⟩
    case measure => simp [intOf]; omega
   ·have hye : 0 = N[i]?.getD 0 := by rw [List.getElem?_eq_none (by omega)]; rfl
    have hst := HI.out.step HM.out HN.out HXE.out hye rfl
    rw [Nat.add_zero] at hst
    have HST := Lib.hid hst
    clear hye hst
    go_wp2_with (at_builtin; refine wpList_append_own _ rfl _ _ 156 rfl w.heap.size 145 i0 (.int .u64 0) 1 8 Tryz.underlying156 HHI.out HZ0.out HZ1.out HZ2.out rfl (by decide) _ _ _ rfl (HO.out.alloc _) ⟨wr.heap.size, 0, none⟩ 1 1 [.int .u64 (((x : Int) + c) % 1000000000)] rfl rfl (cell_one_new _ _ _) (by simp [Value.oneCell']) (by unfold maxLen; omega) (by omega) (by have := HB.out.size; simp; omega) ?_)
    intro v' w3 hown' hgrow _
    obtain ⟨g', cap', rfl, hcap⟩ := own_form hown' (by omega)
    have hb3 : Below w.heap.size w w3 := (HB.out.alloc HB.out.size _).grown hgrow (by have := HB.out.size; simp; omega) (fun g hg => (HO.out.lt g hg).1)
    have e1 : [(x + c) % 1000000000].map u64v = [.int .u64 (((x : Int) + c) % 1000000000)] := by first | rfl | simp | (simp; omega)
    rw [← e1, ← List.map_append] at hown'
    have HO3 := Lib.hid hown'
    have HB3 := Lib.hid hb3
    clear hown' hgrow hb3 e1
    go_wp2
    go_roundw
    case rel => exact ⟨i + 1, (x + c) / 1000000000, O ++ [(x + c) % 1000000000], _, _, rfl, by first | go_num | (congr 1; omega), by go_num, by omega, by omega, HST.out, HO3.out, HB3.out⟩
    case measure => simp [intOf]; omega
  ·obtain rfl : i = M.length := by omega
   have hdone := HI.out.done (Nat.le_refl _) (by omega)
   have hsm : Small (O ++ [c]) := HI.out.2.1.append (Small.one (by omega))
   have hol : (O ++ [c]).length = M.length + 1 := by rw [List.length_append, HI.out.1]; rfl
   have HD := Lib.hid hdone
   have HS := Lib.hid hsm
   have HL := Lib.hid hol
   clear hdone hsm hol
   go_wp2_with (at_builtin; refine wpList_append_own _ rfl _ _ 156 rfl w.heap.size 145 i0 (.int .u64 0) 1 8 Tryz.underlying156 HHI.out HZ0.out HZ1.out HZ2.out rfl (by decide) _ _ _ rfl (HO.out.alloc _) ⟨wr.heap.size, 0, none⟩ 1 1 [.int .u64 (c : Int)] rfl rfl (cell_one_new _ _ _) (by simp [Value.oneCell']) (by unfold maxLen; omega) (by omega) (by have := HB.out.size; simp; omega) ?_)
   intro v' w3 hown' hgrow _
   obtain ⟨g', cap', rfl, hcap⟩ := own_form hown' (by omega)
   have hb3 : Below w.heap.size w w3 := (HB.out.alloc HB.out.size _).grown hgrow (by have := HB.out.size; simp; omega) (fun g hg => (HO.out.lt g hg).1)
   have e1 : [c].map u64v = [.int .u64 (c : Int)] := by first | rfl | simp | (simp; omega)
   rw [← e1, ← List.map_append] at hown'
   have HO3 := Lib.hid hown'
   have HB3 := Lib.hid hb3
   clear hown' hgrow hb3 e1
   have hrd : Rd u64v w3 w3.heap.size (some ⟨g', 0, none⟩) (O ++ [c]) := Rd.of_own HO3.out HL.out.symm
   have htr := trim_len (O ++ [c]) (M.length + 1) HL.out (some ⟨g', 0, none⟩) cap' w3.heap.size w3 hrd HS.out (by omega) (by omega)
   rw [HD.out] at htr
   have hle2 : (limbs (lv M + lv N)).length ≤ M.length + 1 := by rw [← HD.out, ← HL.out]; exact limbs_len_le_len _ HS.out
   have heq : limbs (lv M + lv N) = (O ++ [c]).take (limbs (lv M + lv N)).length := by
    have h := limbs_eq_take _ HS.out
    rw [HD.out] at h
    exact h
   have hrd2 : Rd u64v w3 w3.heap.size (some ⟨g', 0, none⟩) (limbs (lv M + lv N)) := by rw [heq]; exact hrd.take _
   have HTR := Lib.hid htr
   have HRD := Lib.hid hrd2
   clear htr hrd2 hrd heq
   go_wp2_with fail
   refine (HTR.out).mono ?_
   rintro e w4 ⟨rfl, rfl⟩
   go_wp2
   go_ret
   exact ⟨_, _, rfl, HRD.out, by omega, HB3.out⟩
set_option maxRecDepth 100000 in
set_option maxHeartbeats 4000000 in
theorem mplus_lt (M N : List Nat) (A1 A2 : Option Addr) (c1 c2 : Nat) (w : World) (hr1 : Rd u64v w w.heap.size A1 M) (hr2 : Rd u64v w w.heap.size A2 N) (hM : Small M) (hN : Small N)
  (hm : M.length ≤ 1000000) (hle : N.length < M.length) :
  Calls Tryz.prog 156 #[.slice A2 N.length c2, .slice A1 M.length c1] w (RetMag (lv M + lv N) w) := by
 obtain ⟨i0, hi, hz0, hz1, hz2⟩ := info_parts Tryz.infoU64
 have HHI := Lib.hid hi
 have HZ0 := Lib.hid hz0
 have HZ1 := Lib.hid hz1
 have HZ2 := Lib.hid hz2
 have HM := Lib.hid hM
 have HN := Lib.hid hN
 clear hi hz0 hz1 hz2 hM hN
 go_enter Tryz.func156, Tryz.ntmps156
 go_wp2_with (at_make; refine wpList_make_own _ rfl _ _ 156 rfl w.heap.size 145 i0 (.int .u64 0) 1 Tryz.underlying156 HHI.out HZ0.out HZ1.out .i64 .i64 _ (M.length + 1) rfl rfl (by omega) (by rw [HZ2.out]; omega) (by unfold maxLen; omega) (Nat.le_refl _) ?_)
 intro w1 hown hgrow
 have hb1 : Below w.heap.size w w1 := (Below.refl _ _).grown hgrow (Nat.le_refl _) (by simp)
 have HO1 := Lib.hid hown
 have HB1 := Lib.hid hb1
 clear hown hgrow hb1
 go_wp2
 go_loopw [5, 6, 22] (fun m cv iv wr => ∃ (i c : Nat) (O : List Nat) (A : Option Addr) (cp : Nat), m = .slice A i cp ∧ cv = .int .u64 (c : Int) ∧ iv = .int .i64 (i : Int) ∧ c ≤ 1 ∧ i ≤ M.length ∧ Lib.Kept (PlusInv M N O i c) ∧
   wr.ownsRow w.heap.size 145 1 (.slice A i cp) i (O.map u64v) ∧ Below w.heap.size w wr)
  (fun _ _ iv _ => M.length - (intOf iv).toNat)
 case atStart => exact ⟨0, 0, [], _, _, rfl, rfl, rfl, by omega, by omega, PlusInv.start M N, HO1.out, HB1.out⟩
 case round =>
  clear HO1 HB1
  obtain ⟨i, c, O, A, cp, rfl, rfl, rfl, hc, hi, hinv, hown, hb⟩ := hrel
  have HI := Lib.hid hinv
  have HO := Lib.hid hown
  have HB := Lib.hid hb
  clear hinv hown hb
  by_cases h1 : i < M.length
  ·obtain ⟨b1, o1, rfl, _, q1⟩ := (hr1.below HB.out).at_ (by omega)
   obtain ⟨x, hx⟩ : ∃ x, x = M[i] := ⟨_, rfl⟩
   have d1 : wr.cell? ⟨b1, o1 + i, none⟩ = some (.int .u64 (x : Int)) := by rw [q1 i h1, hx]
   have hx9 : x < 1000000000 := by rw [hx]; exact HM.out.get i h1
   have hxe : x = M[i]?.getD 0 := by rw [hx, List.getElem?_eq_getElem h1]; rfl
   have HXE := Lib.hid hxe
   clear hx q1 hxe
   by_cases h2 : i < N.length
   ·obtain ⟨b2, o2, rfl, _, q2⟩ := (hr2.below HB.out).at_ (by omega)
    obtain ⟨y, hy⟩ : ∃ y, y = N[i] := ⟨_, rfl⟩
    have d2 : wr.cell? ⟨b2, o2 + i, none⟩ = some (.int .u64 (y : Int)) := by rw [q2 i h2, hy]
    have hy9 : y < 1000000000 := by rw [hy]; exact HN.out.get i h2
    have hye : y = N[i]?.getD 0 := by rw [hy, List.getElem?_eq_getElem h2]; rfl
    have hst := HI.out.step HM.out HN.out HXE.out hye rfl
    have HST := Lib.hid hst
    clear hy q2 hye hst
    go_wp2_with (at_builtin; refine wpList_append_own _ rfl _ _ 156 rfl w.heap.size 145 i0 (.int .u64 0) 1 8 Tryz.underlying156 HHI.out HZ0.out HZ1.out HZ2.out rfl (by decide) _ _ _ rfl (HO.out.alloc _) ⟨wr.heap.size, 0, none⟩ 1 1 [.int .u64 (((x : Int) + c + y) % 1000000000)] rfl rfl (cell_one_new _ _ _) (by simp [Value.oneCell']) (by unfold maxLen; omega) (by omega) (by have := HB.out.size; simp; omega) ?_)
    intro v' w3 hown' hgrow _
    obtain ⟨g', cap', rfl, hcap⟩ := own_form hown' (by omega)
    have hb3 : Below w.heap.size w w3 := (HB.out.alloc HB.out.size _).grown hgrow (by have := HB.out.size; simp; omega) (fun g hg => (HO.out.lt g hg).1)
    have e1 : [(x + c + y) % 1000000000].map u64v = [.int .u64 (((x : Int) + c + y) % 1000000000)] := by first | rfl | simp | (simp; omega)
    rw [← e1, ← List.map_append] at hown'
    have HO3 := Lib.hid hown'
    have HB3 := Lib.hid hb3
    clear hown' hgrow hb3 e1
    go_wp2
    go_roundw
    case rel => exact ⟨i + 1, (x + c + y) / 1000000000, O ++ [(x + c + y) % 1000000000], _, _, rfl, by first | go_num | (congr 1; omega), by go_num, by omega, by omega, HST.out, HO3.out, HB3.out⟩
    case measure => simp [intOf]; omega
   ·have hye : 0 = N[i]?.getD 0 := by rw [List.getElem?_eq_none (by omega)]; rfl
    have hst := HI.out.step HM.out HN.out HXE.out hye rfl
    rw [Nat.add_zero] at hst
    have HST := Lib.hid hst
    clear hye hst
    go_wp2_with (at_builtin; refine wpList_append_own _ rfl _ _ 156 rfl w.heap.size 145 i0 (.int .u64 0) 1 8 Tryz.underlying156 HHI.out HZ0.out HZ1.out HZ2.out rfl (by decide) _ _ _ rfl (HO.out.alloc _) ⟨wr.heap.size, 0, none⟩ 1 1 [.int .u64 (((x : Int) + c) % 1000000000)] rfl rfl (cell_one_new _ _ _) (by simp [Value.oneCell']) (by unfold maxLen; omega) (by omega) (by have := HB.out.size; simp; omega) ?_)
    intro v' w3 hown' hgrow _
    obtain ⟨g', cap', rfl, hcap⟩ := own_form hown' (by omega)
    have hb3 : Below w.heap.size w w3 := (HB.out.alloc HB.out.size _).grown hgrow (by have := HB.out.size; simp; omega) (fun g hg => (HO.out.lt g hg).1)
    have e1 : [(x + c) % 1000000000].map u64v = [.int .u64 (((x : Int) + c) % 1000000000)] := by first | rfl | simp | (simp; omega)
    rw [← e1, ← List.map_append] at hown'
    have HO3 := Lib.hid hown'
    have HB3 := Lib.hid hb3
    clear hown' hgrow hb3 e1
    go_wp2
    go_roundw
    case rel => exact ⟨i + 1, (x + c) / 1000000000, O ++ [(x + c) % 1000000000], _, _, rfl, by first | go_num | (congr 1; omega), by go_num, by omega, by omega, HST.out, HO3.out, HB3.out⟩
    case measure => simp [intOf]; omega
  ·obtain rfl : i = M.length := by omega
   have hdone := HI.out.done (Nat.le_refl _) (by omega)
   have hsm : Small (O ++ [c]) := HI.out.2.1.append (Small.one (by omega))
   have hol : (O ++ [c]).length = M.length + 1 := by rw [List.length_append, HI.out.1]; rfl
   have HD := Lib.hid hdone
   have HS := Lib.hid hsm
   have HL := Lib.hid hol
   clear hdone hsm hol
   go_wp2_with (at_builtin; refine wpList_append_own _ rfl _ _ 156 rfl w.heap.size 145 i0 (.int .u64 0) 1 8 Tryz.underlying156 HHI.out HZ0.out HZ1.out HZ2.out rfl (by decide) _ _ _ rfl (HO.out.alloc _) ⟨wr.heap.size, 0, none⟩ 1 1 [.int .u64 (c : Int)] rfl rfl (cell_one_new _ _ _) (by simp [Value.oneCell']) (by unfold maxLen; omega) (by omega) (by have := HB.out.size; simp; omega) ?_)
   intro v' w3 hown' hgrow _
   obtain ⟨g', cap', rfl, hcap⟩ := own_form hown' (by omega)
   have hb3 : Below w.heap.size w w3 := (HB.out.alloc HB.out.size _).grown hgrow (by have := HB.out.size; simp; omega) (fun g hg => (HO.out.lt g hg).1)
   have e1 : [c].map u64v = [.int .u64 (c : Int)] := by first | rfl | simp | (simp; omega)
   rw [← e1, ← List.map_append] at hown'
   have HO3 := Lib.hid hown'
   have HB3 := Lib.hid hb3
   clear hown' hgrow hb3 e1
   have hrd : Rd u64v w3 w3.heap.size (some ⟨g', 0, none⟩) (O ++ [c]) := Rd.of_own HO3.out HL.out.symm
   have htr := trim_len (O ++ [c]) (M.length + 1) HL.out (some ⟨g', 0, none⟩) cap' w3.heap.size w3 hrd HS.out (by omega) (by omega)
   rw [HD.out] at htr
   have hle2 : (limbs (lv M + lv N)).length ≤ M.length + 1 := by rw [← HD.out, ← HL.out]; exact limbs_len_le_len _ HS.out
   have heq : limbs (lv M + lv N) = (O ++ [c]).take (limbs (lv M + lv N)).length := by
    have h := limbs_eq_take _ HS.out
    rw [HD.out] at h
    exact h
   have hrd2 : Rd u64v w3 w3.heap.size (some ⟨g', 0, none⟩) (limbs (lv M + lv N)) := by rw [heq]; exact hrd.take _
   have HTR := Lib.hid htr
   have HRD := Lib.hid hrd2
   clear htr hrd2 hrd heq
   go_wp2_with fail
   refine (HTR.out).mono ?_
   rintro e w4 ⟨rfl, rfl⟩
   go_wp2
   go_ret
   exact ⟨_, _, rfl, HRD.out, by omega, HB3.out⟩
theorem mplus_any (M N : List Nat) (A1 A2 : Option Addr) (c1 c2 : Nat) (w : World) (hr1 : Rd u64v w w.heap.size A1 M) (hr2 : Rd u64v w w.heap.size A2 N) (hM : Small M) (hN : Small N)
  (hm : M.length ≤ 1000000) (hn : N.length ≤ 1000000) :
  Calls Tryz.prog 156 #[.slice A1 M.length c1, .slice A2 N.length c2] w (RetMag (lv M + lv N) w) := by
 rcases Nat.lt_or_ge M.length N.length with h | h
 ·have := mplus_lt N M A2 A1 c2 c1 w hr2 hr1 hN hM hn h
  rwa [Nat.add_comm] at this
 ·exact mplus_ge M N A1 A2 c1 c2 w hr1 hr2 hM hN hm h
def RetNew (p : Nat) (w : World) (e : Ending) (w' : World) : Prop :=
 ∃ A cap, e = .returned (.slice A (limbs p).length cap) ∧ Rd u64v w' w'.heap.size A (limbs p) ∧ (limbs p).length ≤ cap ∧ Below w.heap.size w w' ∧ ∀ ad, A = some ad → w.heap.size ≤ ad.block
set_option maxRecDepth 100000 in
set_option maxHeartbeats 4000000 in
theorem mless_new (M N : List Nat) (A1 A2 : Option Addr) (c1 c2 : Nat) (w : World) (hr1 : Rd u64v w w.heap.size A1 M) (hr2 : Rd u64v w w.heap.size A2 N) (hM : Small M) (hN : Small N)
  (hm : M.length ≤ 1000000) (hle : lv N ≤ lv M) (hnl : N.length ≤ M.length) :
  Calls Tryz.prog 158 #[.slice A1 M.length c1, .slice A2 N.length c2] w (RetNew (lv M - lv N) w) := by
 obtain ⟨i0, hi, hz0, hz1, hz2⟩ := info_parts Tryz.infoU64
 have HHI := Lib.hid hi
 have HZ0 := Lib.hid hz0
 have HZ1 := Lib.hid hz1
 have HZ2 := Lib.hid hz2
 have HM := Lib.hid hM
 have HN := Lib.hid hN
 have HLE := Lib.hid hle
 clear hi hz0 hz1 hz2 hM hN hle
 go_enter Tryz.func158, Tryz.ntmps158
 go_wp2_with (at_make; refine wpList_make_own _ rfl _ _ 156 rfl w.heap.size 145 i0 (.int .u64 0) 1 Tryz.underlying156 HHI.out HZ0.out HZ1.out .i64 .i64 _ M.length rfl rfl (by omega) (by rw [HZ2.out]; omega) (by unfold maxLen; omega) (Nat.le_refl _) ?_)
 intro w1 hown hgrow
 have hb1 : Below w.heap.size w w1 := (Below.refl _ _).grown hgrow (Nat.le_refl _) (by simp)
 have HO1 := Lib.hid hown
 have HB1 := Lib.hid hb1
 clear hown hgrow hb1
 go_wp2
 go_loopw [5, 6, 15] (fun m cv iv wr => ∃ (i c : Nat) (O : List Nat) (A : Option Addr) (cp : Nat), m = .slice A i cp ∧ cv = .int .u64 (c : Int) ∧ iv = .int .i64 (i : Int) ∧ c ≤ 1 ∧ i ≤ M.length ∧ i ≤ cp ∧ Lib.Kept (LessInv M N O i c) ∧
   wr.ownsRow w.heap.size 145 1 (.slice A i cp) i (O.map u64v) ∧ Below w.heap.size w wr)
  (fun _ _ iv _ => M.length - (intOf iv).toNat)
 case atStart => exact ⟨0, 0, [], _, _, rfl, rfl, rfl, by omega, by omega, by omega, LessInv.start M N, HO1.out, HB1.out⟩
 case round =>
  clear HO1 HB1
  obtain ⟨i, c, O, A, cp, rfl, rfl, rfl, hc, hi, hicp, hinv, hown, hb⟩ := hrel
  have HI := Lib.hid hinv
  have HO := Lib.hid hown
  have HB := Lib.hid hb
  clear hinv hown hb
  by_cases h1 : i < M.length
  ·obtain ⟨b1, o1, rfl, _, q1⟩ := (hr1.below HB.out).at_ (by omega)
   obtain ⟨x, hx⟩ : ∃ x, x = M[i] := ⟨_, rfl⟩
   have d1 : wr.cell? ⟨b1, o1 + i, none⟩ = some (.int .u64 (x : Int)) := by rw [q1 i h1, hx]
   have hx9 : x < 1000000000 := by rw [hx]; exact HM.out.get i h1
   have hxe : x = M[i]?.getD 0 := by rw [hx, List.getElem?_eq_getElem h1]; rfl
   have HXE := Lib.hid hxe
   clear hx q1 hxe
   by_cases h2 : i < N.length
   ·obtain ⟨b2, o2, rfl, _, q2⟩ := (hr2.below HB.out).at_ (by omega)
    obtain ⟨y, hy⟩ : ∃ y, y = N[i] := ⟨_, rfl⟩
    have d2 : wr.cell? ⟨b2, o2 + i, none⟩ = some (.int .u64 (y : Int)) := by rw [q2 i h2, hy]
    have hy9 : y < 1000000000 := by rw [hy]; exact HN.out.get i h2
    have hye : y = N[i]?.getD 0 := by rw [hy, List.getElem?_eq_getElem h2]; rfl
    have HYE := Lib.hid hye
    clear hy q2 hye
    by_cases h3 : x < (c + y)
    ·have hst := HI.out.step1 HN.out HXE.out HYE.out h3
     have HST := Lib.hid hst
     clear hst
     have e0 : ((x + 1000000000 - (c + y) : Nat) : Int) = ((x : Int) + 1000000000 - ((c : Int) + y)) := by omega
     go_wp2_with (at_builtin; refine wpList_append_own _ rfl _ _ 156 rfl w.heap.size 145 i0 (.int .u64 0) 1 8 Tryz.underlying156 HHI.out HZ0.out HZ1.out HZ2.out rfl (by decide) _ _ _ rfl (HO.out.alloc _) ⟨wr.heap.size, 0, none⟩ 1 1 [.int .u64 ((x : Int) + 1000000000 - ((c : Int) + y))] rfl rfl (cell_one_new _ _ _) (by simp [Value.oneCell']) (by unfold maxLen; omega) (by omega) (by have := HB.out.size; simp; omega) ?_)
     intro v' w3 hown' hgrow _
     obtain ⟨g', cap', rfl, hcap⟩ := own_form hown' (by omega)
     have hb3 : Below w.heap.size w w3 := (HB.out.alloc HB.out.size _).grown hgrow (by have := HB.out.size; simp; omega) (fun g hg => (HO.out.lt g hg).1)
     have e1 : [x + 1000000000 - (c + y)].map u64v = [.int .u64 ((x : Int) + 1000000000 - ((c : Int) + y))] := by show [Value.int .u64 _] = _; rw [e0]
     rw [← e1, ← List.map_append] at hown'
     have HO3 := Lib.hid hown'
     have HB3 := Lib.hid hb3
     clear hown' hgrow hb3 e1 e0
     go_wp2
     go_roundw
     case rel => exact ⟨i + 1, 1, O ++ [x + 1000000000 - (c + y)], _, _, rfl, by first | rfl | go_num, by go_num, by omega, by omega, by omega, HST.out, HO3.out, HB3.out⟩
     case measure => simp [intOf]; omega
    ·have hst := HI.out.step0 HM.out HXE.out HYE.out (by omega)
     have HST := Lib.hid hst
     clear hst
     have e0 : ((x - (c + y) : Nat) : Int) = ((x : Int) - ((c : Int) + y)) := by omega
     go_wp2_with (at_builtin; refine wpList_append_own _ rfl _ _ 156 rfl w.heap.size 145 i0 (.int .u64 0) 1 8 Tryz.underlying156 HHI.out HZ0.out HZ1.out HZ2.out rfl (by decide) _ _ _ rfl (HO.out.alloc _) ⟨wr.heap.size, 0, none⟩ 1 1 [.int .u64 ((x : Int) - ((c : Int) + y))] rfl rfl (cell_one_new _ _ _) (by simp [Value.oneCell']) (by unfold maxLen; omega) (by omega) (by have := HB.out.size; simp; omega) ?_)
     intro v' w3 hown' hgrow _
     obtain ⟨g', cap', rfl, hcap⟩ := own_form hown' (by omega)
     have hb3 : Below w.heap.size w w3 := (HB.out.alloc HB.out.size _).grown hgrow (by have := HB.out.size; simp; omega) (fun g hg => (HO.out.lt g hg).1)
     have e1 : [x - (c + y)].map u64v = [.int .u64 ((x : Int) - ((c : Int) + y))] := by show [Value.int .u64 _] = _; rw [e0]
     rw [← e1, ← List.map_append] at hown'
     have HO3 := Lib.hid hown'
     have HB3 := Lib.hid hb3
     clear hown' hgrow hb3 e1 e0
     go_wp2
     go_roundw
     case rel => exact ⟨i + 1, 0, O ++ [x - (c + y)], _, _, rfl, by first | rfl | go_num, by go_num, by omega, by omega, by omega, HST.out, HO3.out, HB3.out⟩
     case measure => simp [intOf]; omega
   ·have hye : 0 = N[i]?.getD 0 := by rw [List.getElem?_eq_none (by omega)]; rfl
    have HYE := Lib.hid hye
    clear hye
    by_cases h3 : x < c
    ·have hst := HI.out.step1 HN.out HXE.out HYE.out (by omega)
     rw [Nat.add_zero] at hst
     have HST := Lib.hid hst
     clear hst
     have e0 : ((x + 1000000000 - c : Nat) : Int) = ((x : Int) + 1000000000 - (c : Int)) := by omega
     go_wp2_with (at_builtin; refine wpList_append_own _ rfl _ _ 156 rfl w.heap.size 145 i0 (.int .u64 0) 1 8 Tryz.underlying156 HHI.out HZ0.out HZ1.out HZ2.out rfl (by decide) _ _ _ rfl (HO.out.alloc _) ⟨wr.heap.size, 0, none⟩ 1 1 [.int .u64 ((x : Int) + 1000000000 - (c : Int))] rfl rfl (cell_one_new _ _ _) (by simp [Value.oneCell']) (by unfold maxLen; omega) (by omega) (by have := HB.out.size; simp; omega) ?_)
     intro v' w3 hown' hgrow _
     obtain ⟨g', cap', rfl, hcap⟩ := own_form hown' (by omega)
     have hb3 : Below w.heap.size w w3 := (HB.out.alloc HB.out.size _).grown hgrow (by have := HB.out.size; simp; omega) (fun g hg => (HO.out.lt g hg).1)
     have e1 : [x + 1000000000 - c].map u64v = [.int .u64 ((x : Int) + 1000000000 - (c : Int))] := by show [Value.int .u64 _] = _; rw [e0]
     rw [← e1, ← List.map_append] at hown'
     have HO3 := Lib.hid hown'
     have HB3 := Lib.hid hb3
     clear hown' hgrow hb3 e1 e0
     go_wp2
     go_roundw
     case rel => exact ⟨i + 1, 1, O ++ [x + 1000000000 - c], _, _, rfl, by first | rfl | go_num, by go_num, by omega, by omega, by omega, HST.out, HO3.out, HB3.out⟩
     case measure => simp [intOf]; omega
    ·have hst := HI.out.step0 HM.out HXE.out HYE.out (by omega)
     rw [Nat.add_zero] at hst
     have HST := Lib.hid hst
     clear hst
     have e0 : ((x - c : Nat) : Int) = ((x : Int) - (c : Int)) := by omega
     go_wp2_with (at_builtin; refine wpList_append_own _ rfl _ _ 156 rfl w.heap.size 145 i0 (.int .u64 0) 1 8 Tryz.underlying156 HHI.out HZ0.out HZ1.out HZ2.out rfl (by decide) _ _ _ rfl (HO.out.alloc _) ⟨wr.heap.size, 0, none⟩ 1 1 [.int .u64 ((x : Int) - (c : Int))] rfl rfl (cell_one_new _ _ _) (by simp [Value.oneCell']) (by unfold maxLen; omega) (by omega) (by have := HB.out.size; simp; omega) ?_)
     intro v' w3 hown' hgrow _
     obtain ⟨g', cap', rfl, hcap⟩ := own_form hown' (by omega)
     have hb3 : Below w.heap.size w w3 := (HB.out.alloc HB.out.size _).grown hgrow (by have := HB.out.size; simp; omega) (fun g hg => (HO.out.lt g hg).1)
     have e1 : [x - c].map u64v = [.int .u64 ((x : Int) - (c : Int))] := by show [Value.int .u64 _] = _; rw [e0]
     rw [← e1, ← List.map_append] at hown'
     have HO3 := Lib.hid hown'
     have HB3 := Lib.hid hb3
     clear hown' hgrow hb3 e1 e0
     go_wp2
     go_roundw
     case rel => exact ⟨i + 1, 0, O ++ [x - c], _, _, rfl, by first | rfl | go_num, by go_num, by omega, by omega, by omega, HST.out, HO3.out, HB3.out⟩
     case measure => simp [intOf]; omega
  ·obtain rfl : i = M.length := by omega
   have hdone := HI.out.done (Nat.le_refl _) hnl HLE.out
   have hsm := HI.out.2.1
   have hol := HI.out.1
   have hrd : Rd u64v wr wr.heap.size A O := Rd.of_own HO.out hol.symm
   have htr := trim_len O M.length hol A cp wr.heap.size wr hrd hsm hicp (by omega)
   rw [hdone] at htr
   have hle2 : (limbs (lv M - lv N)).length ≤ M.length := by rw [← hdone]; have := limbs_len_le_len _ hsm; omega
   have heq : limbs (lv M - lv N) = O.take (limbs (lv M - lv N)).length := by
    have h := limbs_eq_take _ hsm
    rw [hdone] at h
    exact h
   have hrd2 : Rd u64v wr wr.heap.size A (limbs (lv M - lv N)) := by rw [heq]; exact hrd.take _
   have HTR := Lib.hid htr
   have HRD := Lib.hid hrd2
   clear htr hrd2 hrd heq hdone hsm hol
   go_wp2_with fail
   refine (HTR.out).mono ?_
   rintro e w4 ⟨rfl, rfl⟩
   go_wp2
   go_ret
   exact ⟨_, _, rfl, HRD.out, by omega, HB.out, fun ad h => by subst h; exact (HO.out.lt ad.block rfl).1⟩
theorem mless_any (M N : List Nat) (A1 A2 : Option Addr) (c1 c2 : Nat) (w : World) (hr1 : Rd u64v w w.heap.size A1 M) (hr2 : Rd u64v w w.heap.size A2 N) (hM : Small M) (hN : Small N)
  (hm : M.length ≤ 1000000) (hle : lv N ≤ lv M) (hnl : N.length ≤ M.length) :
  Calls Tryz.prog 158 #[.slice A1 M.length c1, .slice A2 N.length c2] w (RetMag (lv M - lv N) w) :=
 (mless_new M N A1 A2 c1 c2 w hr1 hr2 hM hN hm hle hnl).mono fun _ _ ⟨A, cap, h1, h2, h3, h4, _⟩ => ⟨A, cap, h1, h2, h3, h4⟩
end Go.Proofs.YtendjepcjmfmfaaGreatDoor
