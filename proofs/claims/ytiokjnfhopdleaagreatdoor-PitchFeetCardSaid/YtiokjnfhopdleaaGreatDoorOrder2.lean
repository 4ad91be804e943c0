/- bombarderef01.order: the order of two magnitudes. Conditions: at most a million groups each. -/
import Derived.Test.YtiokjnfhopdleaaGreatDoorOrder
import Derived.Test.YtiokjnfhopdleaaGreatDoorFrac2
import Derived.BigQuiet
namespace Go.Proofs.YtiokjnfhopdleaaGreatDoor
open Go.RowKit

theorem toInt_yes (w : World) : Calls Tryz.prog 59 #[.bool true] w fun e w' => e = .returned (.int .i64 1) ∧ w' = w := (toInt_any true w).mono fun _ _ ⟨a, b⟩ => ⟨a, b.symm⟩
theorem toInt_no (w : World) : Calls Tryz.prog 59 #[.bool false] w fun e w' => e = .returned (.int .i64 0) ∧ w' = w := (toInt_any false w).mono fun _ _ ⟨a, b⟩ => ⟨a, b.symm⟩

set_option maxRecDepth 100000 in
set_option maxHeartbeats 4000000 in
theorem order_any (p q : Nat) (A1 A2 : Option Addr) (c1 c2 : Nat) (w : World) (hr1 : Rd i64v w w.heap.size A1 (grps p)) (hr2 : Rd i64v w w.heap.size A2 (grps q))
    (hg : (grps p).length ≤ 1000000) (hh : (grps q).length ≤ 1000000) :
    Calls Tryz.prog 76 #[.slice A1 (grps p).length c1, .slice A2 (grps q).length c2] w fun e w' => e = .returned (.int .i64 (sgnI ((p : Int) - q))) ∧ Below w.heap.size w w' := by
  obtain ⟨G, hG⟩ : ∃ G, G = grps p := ⟨_, rfl⟩
  obtain ⟨H, hH⟩ : ∃ H, H = grps q := ⟨_, rfl⟩
  have hp : p = gv G := by rw [hG, gv_grps]
  have hq : q = gv H := by rw [hH, gv_grps]
  have sG : Small4 G := by rw [hG]; exact grps_small p
  have sH : Small4 H := by rw [hH]; exact grps_small q
  have hlong : H.length < G.length → q < p := fun h => order_len (by rw [← hG, ← hH]; exact h)
  have hlong' : G.length < H.length → p < q := fun h => order_len (by rw [← hG, ← hH]; exact h)
  rw [← hG] at hr1 hg ⊢
  rw [← hH] at hr2 hh ⊢
  have HP := Lib.hid (And.intro hp hq)
  have HS := Lib.hid (And.intro sG sH)
  have HL := Lib.hid (And.intro hlong hlong')
  clear hG hH hp hq sG sH hlong hlong'
  by_cases hlen : G.length = H.length
  · go_enter Tryz.func76, Tryz.ntmps76
    go_wp2
    go_loopw [5] (fun iv wr => ∃ (j k : Nat), j ≤ G.length ∧ iv = .int .i64 ((j : Int) - 1) ∧ Lib.Kept (G.drop j = H.drop j) ∧ wr = w.drewN k)
      (fun iv _ => (intOf iv + 1).toNat)
    case atStart => exact ⟨G.length, 0, Nat.le_refl _, by first | rfl | (congr 1; omega), (show G.drop G.length = H.drop G.length by rw [List.drop_length, hlen, List.drop_length]), rfl⟩
    case round =>
      obtain ⟨j, k, hj, rfl, hd, rfl⟩ := hrel
      have HD := Lib.hid hd
      clear hd
      by_cases h0 : j = 0
      · subst h0
        go_wp2
        go_ret
        refine ⟨?_, below_drewN _ _ _⟩
        have : G = H := HD.out
        rw [HP.out.1, HP.out.2, this, Int.sub_self]
        rfl
      · obtain ⟨i, rfl⟩ : ∃ i, j = i + 1 := ⟨j - 1, by omega⟩
        have hi : ((i + 1 : Nat) : Int) - 1 = (i : Int) := by omega
        rw [hi]
        clear hi h0
        have hb := below_drewN w.heap.size w k
        have R1 := hr1.below hb
        have R2 := hr2.below hb
        obtain ⟨W, hW⟩ : ∃ W, W = w.drewN k := ⟨_, rfl⟩
        obtain ⟨b1, o1, rfl, _, q1⟩ := R1.at_ (by omega)
        obtain ⟨b2, o2, rfl, _, q2⟩ := R2.at_ (by omega)
        have g1 : i < G.length := by omega
        have g2 : i < H.length := by omega
        obtain ⟨x, hx⟩ : ∃ x, x = G[i] := ⟨_, rfl⟩
        obtain ⟨y, hy⟩ : ∃ y, y = H[i] := ⟨_, rfl⟩
        have d1 : (w.drewN k).cell? ⟨b1, o1 + i, none⟩ = some (.int .i64 (x : Int)) := by rw [q1 i g1, hx]
        have d2 : (w.drewN k).cell? ⟨b2, o2 + i, none⟩ = some (.int .i64 (y : Int)) := by rw [q2 i g2, hy]
        rw [← hW] at d1 d2 hb ⊢
        have j1 : (i : Int) < (G.length : Int) := by omega
        have j2 : (i : Int) < (H.length : Int) := by omega
        have j3 : (0 : Int) ≤ (i : Int) := by omega
        have HX := Lib.hid hx
        have HY := Lib.hid hy
        have HB := Lib.hid hb
        have HW := Lib.hid hW
        clear hx hy q1 q2 R1 R2 hr1 hr2 hb hW
        by_cases hxy : x = y
        · have t1 : ((x : Int) != (y : Int)) = false := by rw [hxy]; simp
          have HE := Lib.hid hxy
          clear hxy
          go_wp2_with (fail)
          go_quiet (fail)
          go_wp2
          go_roundw
          case rel =>
            refine ⟨i, k + nq, by omega, by go_num, (show G.drop i = H.drop i from ?_), by rw [HW.out]; first | rfl | exact (World.drewN_add _ _ _).symm | (simp [World.drewN]; done) | exact (World.drewN_drewN _ _ _)⟩
            rw [List.drop_eq_getElem_cons g1, List.drop_eq_getElem_cons g2, ← HX.out, ← HY.out, HE.out, HD.out]
          case measure => simp [intOf]
        · have t1 : ((x : Int) != (y : Int)) = true := by rw [bne_iff_ne]; omega
          by_cases hlt : y < x
          · have t2 : (y : Int) < (x : Int) := by omega
            have hgt : q < p := by
              rw [HP.out.1, HP.out.2]
              exact order_at HS.out.2 hlen i g1 HD.out (by rw [← HX.out, ← HY.out]; exact hlt)
            have HGT := Lib.hid hgt
            clear hgt
            go_wp2_with (fail)
            go_quiet (fail)
            go_wp2_with (fail)
            obtain ⟨W2, hW2⟩ : ∃ W2, W2 = W.drewN nq := ⟨_, rfl⟩
            have d1 : W2.cell? ⟨b1, o1 + i, none⟩ = some (.int .i64 (x : Int)) := by rw [hW2]; exact d1
            have d2 : W2.cell? ⟨b2, o2 + i, none⟩ = some (.int .i64 (y : Int)) := by rw [hW2]; exact d2
            have HB2 := Lib.hid (show Below w.heap.size w W2 by rw [hW2]; exact bw_drewN HB.out _)
            rw [← hW2]
            clear hW2
            go_quiet (first | (go_at_call 59; exact Calls.quiet_of_same (toInt_yes _)))
            go_wp2
            go_ret
            exact ⟨by rw [sgnI_pos (by have := HGT.out; omega)]; rfl, bw_drewN HB2.out _⟩
          · have t2 : ¬ (y : Int) < (x : Int) := by omega
            have hgt : p < q := by
              rw [HP.out.1, HP.out.2]
              exact order_at HS.out.1 hlen.symm i g2 HD.out.symm (by rw [← HX.out, ← HY.out]; omega)
            have HGT := Lib.hid hgt
            clear hgt
            go_wp2_with (fail)
            go_quiet (fail)
            go_wp2_with (fail)
            obtain ⟨W2, hW2⟩ : ∃ W2, W2 = W.drewN nq := ⟨_, rfl⟩
            have d1 : W2.cell? ⟨b1, o1 + i, none⟩ = some (.int .i64 (x : Int)) := by rw [hW2]; exact d1
            have d2 : W2.cell? ⟨b2, o2 + i, none⟩ = some (.int .i64 (y : Int)) := by rw [hW2]; exact d2
            have HB2 := Lib.hid (show Below w.heap.size w W2 by rw [hW2]; exact bw_drewN HB.out _)
            rw [← hW2]
            clear hW2
            go_quiet (first | (go_at_call 59; exact Calls.quiet_of_same (toInt_no _)))
            go_wp2
            go_ret
            exact ⟨by rw [sgnI_neg (by have := HGT.out; omega)]; rfl, bw_drewN HB2.out _⟩
  · by_cases hl2 : H.length < G.length
    · have hgt := HL.out.1 hl2
      have t1 : (H.length : Int) < (G.length : Int) := by omega
      have HGT := Lib.hid hgt
      clear hgt
      go_enter Tryz.func76, Tryz.ntmps76
      go_wp2_with (fail)
      refine (toInt_any _ _).mono ?_
      rintro e w1 ⟨rfl, rfl⟩
      go_wp2
      go_ret
      exact ⟨by rw [sgnI_pos (by have := HGT.out; omega)]; rfl, Below.refl _ _⟩
    · have hgt := HL.out.2 (by omega)
      have t1 : ¬ (H.length : Int) < (G.length : Int) := by omega
      have HGT := Lib.hid hgt
      clear hgt
      go_enter Tryz.func76, Tryz.ntmps76
      go_wp2_with (fail)
      refine (toInt_any _ _).mono ?_
      rintro e w1 ⟨rfl, rfl⟩
      go_wp2
      go_ret
      exact ⟨by rw [sgnI_neg (by have := HGT.out; omega)]; rfl, Below.refl _ _⟩
end Go.Proofs.YtiokjnfhopdleaaGreatDoor
