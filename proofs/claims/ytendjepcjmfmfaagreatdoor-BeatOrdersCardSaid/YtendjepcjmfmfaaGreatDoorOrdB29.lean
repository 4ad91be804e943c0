/- Part 29 of 47 of the proof of the law: contracts of the functions that it reaches, and plain facts. Conditions: those that each contract names. -/
import Derived.Test.YtendjepcjmfmfaaGreatDoorOrdB26
namespace Go.Proofs.YtendjepcjmfmfaaGreatDoor
open Go.RowKit
def Tm64 (x : Tm) : Prop := (I64 x.1 ∧ I64 x.2.1) ∧ I64 x.2.2.1 ∧ I64 x.2.2.2
def CkR (w : World) (C : Nat → Tm) (u v x : Value) (W : World) : Prop :=
 ∃ (i : Nat) (c : Int) (L : Bool), u = .int .i64 c ∧ v = .bool L ∧ x = .int .i64 (i : Int) ∧ i ≤ 12 ∧ (∀ j, j < i → tmE (C j) = 0) ∧ DenS (frsL C i) c L ∧ Hp w [(w.heap.size, 38, cirL C)] W
abbrev CkB (w : World) (C : Nat → Tm) (z : Nat) (p q r s : Int) (W : World) : Prop :=
 Hp w [(w.heap.size, 38, cirL C), (z, 36, [.int .i64 p, .int .i64 q, .int .i64 r, .int .i64 s]), (z + 1, 34, [.int .i64 p, .int .i64 q, .int .i64 r, .int .i64 s])] W
abbrev CkD (w : World) (C : Nat → Tm) (z y : Nat) (p q r s : Int) (W : World) : Prop :=
 Hp w [(w.heap.size, 38, cirL C), (z, 36, [.int .i64 p, .int .i64 q, .int .i64 r, .int .i64 s]), (z + 1, 34, [.int .i64 p, .int .i64 q, .int .i64 r, .int .i64 s]), (y, 34, [.int .i64 p, .int .i64 q, .int .i64 r, .int .i64 s])] W
def CkJ (w : World) (C : Nat → Tm) (z : Nat) (p q r s : Int) (v : Value) (W : World) : Prop :=
 ∃ j : Nat, v = .int .i64 (j : Int) ∧ j ≤ 2 ∧ (0 < j → Right p q) ∧ (1 < j → Right r s) ∧ CkB w C z p q r s W
def CkK (w : World) (C : Nat → Tm) (z y i : Nat) (p q r s : Int) (u v x : Value) (W : World) : Prop :=
 ∃ (j : Nat) (c2 : Int) (L2 : Bool), u = .int .i64 c2 ∧ v = .bool L2 ∧ x = .int .i64 (j : Int) ∧ j ≤ 2 ∧ (0 < j → rgP p q) ∧ (1 < j → rgP r s) ∧ DenS (frsL C i ++ [(p, q), (r, s)].take j) c2 L2 ∧ CkD w C z y p q r s W
set_option maxRecDepth 1000000 in
set_option maxHeartbeats 8000000 in
theorem tcheck_any (C : Nat → Tm) (w : World) (hC : ∀ i, i < 12 → Tm64 (C i)) :
  Calls Tryz.prog 15 #[.agg (cirL C).toArray] w fun e w' => e = .returned (.int .i64 (ckE C)) ∧ Below w.heap.size w w' := by
 have HFC := Lib.hid (fun (n d : Int) W (h1 : I64 n) (h2 : I64 d) => fcheck_any n d W h1.1 h1.2 h2.1 h2.2)
 have HG := Lib.hid (fun a b W h1 h2 h3 h4 => tgcd_any a b W h1 h2 h3 h4)
 have HI := Lib.hid (fun (i : Nat) (hi : i < 12) W => index_cir C hi W)
 have HC := Lib.hid hC
 have hm0 := (Hp.start w).new 38 (cirL C)
 simp only [List.nil_append] at hm0
 have HM := Lib.hid hm0
 clear hC hm0
 go_enter Tryz.func15, Tryz.ntmps15
 go_wp2_with (refine wpList_load_row rfl 38 _ rfl w.heap.size rfl 38 (cirL C).toArray (0, 0) _ (HM.out.at_ 0 rfl) Tryz.underlying38 rfl (by rw [infoCircle, List.size_toArray, cirL_len]) ?_)
 go_loopw [3, 4, 12] (fun u v x W => CkR w C u v x W) (fun _ _ x _ => 12 - (intOf x).toNat)
 case atStart => exact ⟨0, 1, false, rfl, rfl, rfl, by omega, fun j h => absurd h (by omega), DenS.nil, HM.out⟩
 case round =>
  obtain ⟨i, c, L, rfl, rfl, rfl, hi', hal, hds, hm⟩ := hrel
  have HAL := Lib.hid hal
  have HDS := Lib.hid hds
  have HMR := Lib.hid hm
  by_cases hil : i < 12
  ·have hidx := HI.out i hil
   obtain ⟨⟨k1, k2⟩, k3, k4⟩ := HC.out i hil
   have HK := Lib.hid (And.intro k1 (And.intro k2 (And.intro k3 k4)))
   obtain ⟨x, hx⟩ : ∃ x, x = C i := ⟨_, rfl⟩
   have HX := Lib.hid hx
   rw [← hx] at hidx k1 k2 k3 k4 HK
   obtain ⟨p, q, r, s⟩ := x
   dsimp only at k1 k2 k3 k4 HK
   rw [show (tmC (p, q, r, s)).toArray = #[.int .i64 p, .int .i64 q, .int .i64 r, .int .i64 s] from rfl] at hidx
   have hm2 := (hm.new 36 [.int .i64 p, .int .i64 q, .int .i64 r, .int .i64 s]).new 34 [.int .i64 p, .int .i64 q, .int .i64 r, .int .i64 s]
   simp only [World.size_alloc, List.nil_append, List.cons_append] at hm2
   have HM2 := Lib.hid hm2
   clear hal hds hm hx k1 k2 k3 k4 hm2
   obtain ⟨W5, rfl⟩ : ∃ W5, W5 = wr := ⟨_, rfl⟩
   go_wp2_with fail
   clear hidx
   rw [show decide ((i : Int) < 12) = true from decide_eq_true (by omega)]
   go_loopw [21] (fun v W => CkJ w C W5.heap.size p q r s v W) (fun v _ => 2 - (intOf v).toNat)
   case atStart => exact ⟨0, rfl, by omega, fun h => absurd h (by omega), fun h => absurd h (by omega), HM2.out⟩
   case round =>
    obtain ⟨j, rfl, hj', hj0, hj1, hmj⟩ := hrel
    have HJ0 := Lib.hid hj0
    have HJ1 := Lib.hid hj1
    have HMJ := Lib.hid hmj
    by_cases hjl : j < 2
    ·rcases (show j = 0 ∨ j = 1 by omega) with rfl | rfl
     ·have c0 : wr.cell? ⟨W5.heap.size + 1, 0, none⟩ = some (.int .i64 p) := (hmj.at_ 2 rfl).cell 0
      have c1 : wr.cell? ⟨W5.heap.size + 1, 1, none⟩ = some (.int .i64 q) := (hmj.at_ 2 rfl).cell 1
      have HFF := Lib.hid (fun W => HFC.out p q W HK.out.1 (HK.out.2.1))
      by_cases hr : Right p q
      ·rw [show fErr p q = 0 from if_pos hr] at HFF
       have HR := Lib.hid hr
       clear hr hmj hj0 hj1
       go_wp2_with fail
       refine (HFF.out _).mono ?_
       rintro e w3 ⟨rfl, hb3⟩
       have HM3 := Lib.hid ((HMJ.out.alloc (.cells #[.int .i64 p, .int .i64 q] 34)).step hb3)
       have HRL := Lib.hid (show CkJ w C W5.heap.size p q r s (.int .i64 ((0 + 1 : Nat) : Int)) w3 from ⟨0 + 1, rfl, by omega, fun _ => HR.out, fun h => absurd h (by omega), HM3.out⟩)
       clear hb3
       go_wp2
       go_roundw
       case rel => first | exact HRL.out | ((repeat apply Exists.intro); exact ⟨HRL.out, rfl⟩)
       case measure => simp [intOf]
      ·rw [show fErr p q = 2 from if_neg hr] at HFF
       have HE := Lib.hid (show ckE C = 2 by
        have e : tmE (C i) = 2 := by rw [← HX.out]; exact tmE_num (fun h => hr h.1)
        rw [ckE_at HAL.out hil (by rw [e]; decide), e])
       clear hr hmj hj0 hj1
       go_wp2_with fail
       refine (HFF.out _).mono ?_
       rintro e w3 ⟨rfl, hb3⟩
       have HB3 := Lib.hid ((HMJ.out.alloc (.cells #[.int .i64 p, .int .i64 q] 34)).step hb3).below
       clear hb3
       go_wp2
       go_ret
       exact ⟨by rw [HE.out]; rfl, HB3.out⟩
     ·have c0 : wr.cell? ⟨W5.heap.size + 1, 2, none⟩ = some (.int .i64 r) := (hmj.at_ 2 rfl).cell 2
      have c1 : wr.cell? ⟨W5.heap.size + 1, 3, none⟩ = some (.int .i64 s) := (hmj.at_ 2 rfl).cell 3
      have HFF := Lib.hid (fun W => HFC.out r s W HK.out.2.2.1 (HK.out.2.2.2))
      by_cases hr : Right r s
      ·rw [show fErr r s = 0 from if_pos hr] at HFF
       have HR := Lib.hid hr
       clear hr hmj hj0 hj1
       go_wp2_with fail
       refine (HFF.out _).mono ?_
       rintro e w3 ⟨rfl, hb3⟩
       have HM3 := Lib.hid ((HMJ.out.alloc (.cells #[.int .i64 r, .int .i64 s] 34)).step hb3)
       have HRL := Lib.hid (show CkJ w C W5.heap.size p q r s (.int .i64 ((1 + 1 : Nat) : Int)) w3 from ⟨1 + 1, rfl, by omega, fun _ => HJ0.out (by omega), fun _ => HR.out, HM3.out⟩)
       clear hb3
       go_wp2
       go_roundw
       case rel => first | exact HRL.out | ((repeat apply Exists.intro); exact ⟨HRL.out, rfl⟩)
       case measure => simp [intOf]
      ·rw [show fErr r s = 2 from if_neg hr] at HFF
       have HE := Lib.hid (show ckE C = 2 by
        have e : tmE (C i) = 2 := by rw [← HX.out]; exact tmE_num (fun h => hr h.2)
        rw [ckE_at HAL.out hil (by rw [e]; decide), e])
       clear hr hmj hj0 hj1
       go_wp2_with fail
       refine (HFF.out _).mono ?_
       rintro e w3 ⟨rfl, hb3⟩
       have HB3 := Lib.hid ((HMJ.out.alloc (.cells #[.int .i64 r, .int .i64 s] 34)).step hb3).below
       clear hb3
       go_wp2
       go_ret
       exact ⟨by rw [HE.out]; rfl, HB3.out⟩
    ·obtain rfl : j = 2 := by omega
     have HRP := Lib.hid (hj0 (by omega))
     have HRR := Lib.hid (hj1 (by omega))
     obtain ⟨W6, rfl⟩ : ∃ W6, W6 = wr := ⟨_, rfl⟩
     have t0 : W6.cell? ⟨W5.heap.size, 0, none⟩ = some (.int .i64 p) := (hmj.at_ 1 rfl).cell 0
     have t1 : W6.cell? ⟨W5.heap.size, 1, none⟩ = some (.int .i64 q) := (hmj.at_ 1 rfl).cell 1
     have t2 : W6.cell? ⟨W5.heap.size, 2, none⟩ = some (.int .i64 r) := (hmj.at_ 1 rfl).cell 2
     have t3 : W6.cell? ⟨W5.heap.size, 3, none⟩ = some (.int .i64 s) := (hmj.at_ 1 rfl).cell 3
     have hm6 := hmj.new 34 [.int .i64 p, .int .i64 q, .int .i64 r, .int .i64 s]
     simp only [List.nil_append, List.cons_append] at hm6
     have HM6 := Lib.hid hm6
     clear hmj hj0 hj1 hm6
     go_wp2_with fail
     clear t0 t1 t2 t3
     go_loopw [3, 4, 35] (fun u v x W => CkK w C W5.heap.size W6.heap.size i p q r s u v x W) (fun _ _ x _ => 2 - (intOf x).toNat)
     case atStart => exact ⟨0, c, L, rfl, rfl, rfl, by omega, fun h => absurd h (by omega), fun h => absurd h (by omega), by simpa using HDS.out, HM6.out⟩
     case round =>
      obtain ⟨j, c2, L2, rfl, rfl, rfl, hj', hj0, hj1, hdj, hmj⟩ := hrel
      have HJ0 := Lib.hid hj0
      by_cases hjl : j < 2
      ·rcases (show j = 0 ∨ j = 1 by omega) with rfl | rfl
       ·have c0 : wr.cell? ⟨W6.heap.size, 0, none⟩ = some (.int .i64 p) := (hmj.at_ 3 rfl).cell 0
        have c1 : wr.cell? ⟨W6.heap.size, 1, none⟩ = some (.int .i64 q) := (hmj.at_ 3 rfl).cell 1
        obtain ⟨q0, q1, q2, q3, _⟩ := HRP.out
        have HMN := Lib.hid (hmj.alloc (.cells #[.int .i64 p, .int .i64 q] 34))
        have hbn := (hmj.alloc (.cells #[.int .i64 p, .int .i64 q] 34)).below
        have HBN := Lib.hid hbn
        by_cases g1 : 12 * q < p
        ·have HE := Lib.hid (show ckE C = 3 by
          have e : tmE (C i) = 3 := by rw [← HX.out]; exact tmE_rg ⟨HRP.out, HRR.out⟩ (fun h => by have := h.1; unfold rgP at this; dsimp only at this; omega)
          rw [ckE_at HAL.out hil (by rw [e]; decide), e])
         clear hmj hj0 hj1 hdj hbn
         go_wp2
         go_ret
         exact ⟨by rw [HE.out]; rfl, HBN.out⟩
        ·by_cases g2 : p < -12 * q
         ·have HE := Lib.hid (show ckE C = 3 by
           have e : tmE (C i) = 3 := by rw [← HX.out]; exact tmE_rg ⟨HRP.out, HRR.out⟩ (fun h => by have := h.1; unfold rgP at this; dsimp only at this; omega)
           rw [ckE_at HAL.out hil (by rw [e]; decide), e])
          clear hmj hj0 hj1 hdj hbn
          go_wp2
          go_ret
          exact ⟨by rw [HE.out]; rfl, HBN.out⟩
         ·have HG1 := Lib.hid (show rgP p q from ⟨by omega, by omega⟩)
          have hdj' : DenS (frsL C i) c2 L2 := by simpa using hdj
          cases L2
          ·by_cases h24 : 240 < q
           ·have HD := Lib.hid (show DenS ((frsL C i) ++ [(p, q)]) c2 true from hdj'.far h24)
            have HRL := Lib.hid (show CkK w C W5.heap.size W6.heap.size i p q r s (.int .i64 c2) (.bool true) (.int .i64 ((0 + 1 : Nat) : Int)) (wr.alloc (.cells #[.int .i64 p, .int .i64 q] 34)) from ⟨0 + 1, c2, true, rfl, rfl, rfl, by omega, fun _ => HG1.out, fun h => absurd h (by omega), by simpa using HD.out, HMN.out⟩)
            clear hmj hj0 hj1 hdj hdj' hbn
            go_wp2
            go_roundw
            case rel => first | exact HRL.out | ((repeat apply Exists.intro); exact ⟨HRL.out, rfl⟩) | ((repeat apply Exists.intro); exact ⟨HRL.out, rfl, rfl⟩) | ((repeat apply Exists.intro); exact ⟨HRL.out, rfl, rfl, rfl⟩)
            case measure => simp [intOf]
           ·obtain ⟨hl0, hc24, hdn⟩ := hdj'.next (n := p) (d := q) ⟨by omega, by omega⟩
            have hcb := hdj'.1
            have hgc := fun W => HG.out c2 q W (by omega) (by omega) (by omega) (by omega)
            obtain ⟨⟨hg0, hg1⟩, ⟨hq0, hq1⟩, _, _⟩ := lcmA_bd ⟨hcb.1, hc24⟩ (d := q) ⟨by omega, by omega⟩
            have hlm : lcmA c2 q = c2 / (Nat.gcd c2.natAbs (q).natAbs : Int) * q := rfl
            obtain ⟨g, hg⟩ : ∃ g : Int, g = (Nat.gcd c2.natAbs (q).natAbs : Int) := ⟨_, rfl⟩
            obtain ⟨l, hl⟩ : ∃ l, l = lcmA c2 q := ⟨_, rfl⟩
            rw [← hg] at hgc hq0 hq1 hlm
            rw [← hl] at hlm hl0 hdn
            obtain ⟨u, hu⟩ : ∃ u, u = c2 / g := ⟨_, rfl⟩
            rw [← hu] at hlm hq0 hq1
            have hgp : 0 < g := by omega
            have hgz : (g == 0) = false := by rw [beq_eq_false_iff_ne]; omega
            have HGC := Lib.hid hgc
            have HU := Lib.hid hu
            have HLM := Lib.hid hlm
            have HDN := Lib.hid hdn
            clear hgc hg hu hlm hl hg0 hg1 hdn hdj hdj' hbn hmj hj0 hj1
            have hw1 : IntKind.i64.wrap (c2.tdiv g) = u := by rw [Int.tdiv_eq_ediv_of_nonneg (by omega), ← HU.out]; exact IntWalk.i64_in _ (by omega)
            have hw2 : IntKind.i64.wrap (u * q) = l := by rw [← HLM.out]; exact IntWalk.i64_in _ (by omega)
            have hw3 : c2 / g = u := HU.out.symm
            have HW := Lib.hid (And.intro hw1 (And.intro hw2 hw3))
            clear hw1 hw2 hw3
            go_upto_region 19 with fail
            obtain ⟨hw1, hw2, hw3⟩ := HW.out
            go_quiet ((go_at_call 42; exact Calls.quiet_of (HGC.out _)))
            clear hw1 hw2 hw3 hgz
            have HMN2 := Lib.hid (HMN.out.drewN nq)
            clear HMN
            have HMN := HMN2
            by_cases hl2 : 240 < l
            ·have HD := Lib.hid (show DenS ((frsL C i) ++ [(p, q)]) l true from by have := HDN.out; rwa [decide_eq_true hl2] at this)
             have HRL := Lib.hid (show CkK w C W5.heap.size W6.heap.size i p q r s (.int .i64 l) (.bool true) (.int .i64 ((0 + 1 : Nat) : Int)) ((wr.alloc (.cells #[.int .i64 p, .int .i64 q] 34)).drewN nq) from ⟨0 + 1, l, true, rfl, rfl, rfl, by omega, fun _ => HG1.out, fun h => absurd h (by omega), by simpa using HD.out, HMN.out⟩)
             go_wp2
             go_roundw
             case rel => first | exact HRL.out | ((repeat apply Exists.intro); exact ⟨HRL.out, rfl⟩) | ((repeat apply Exists.intro); exact ⟨HRL.out, rfl, rfl⟩) | ((repeat apply Exists.intro); exact ⟨HRL.out, rfl, rfl, rfl⟩)
             case measure => simp [intOf]
            ·have HD := Lib.hid (show DenS ((frsL C i) ++ [(p, q)]) l false from by have := HDN.out; rwa [decide_eq_false hl2] at this)
             have HRL := Lib.hid (show CkK w C W5.heap.size W6.heap.size i p q r s (.int .i64 l) (.bool false) (.int .i64 ((0 + 1 : Nat) : Int)) ((wr.alloc (.cells #[.int .i64 p, .int .i64 q] 34)).drewN nq) from ⟨0 + 1, l, false, rfl, rfl, rfl, by omega, fun _ => HG1.out, fun h => absurd h (by omega), by simpa using HD.out, HMN.out⟩)
             go_wp2
             go_roundw
             case rel => first | exact HRL.out | ((repeat apply Exists.intro); exact ⟨HRL.out, rfl⟩) | ((repeat apply Exists.intro); exact ⟨HRL.out, rfl, rfl⟩) | ((repeat apply Exists.intro); exact ⟨HRL.out, rfl, rfl, rfl⟩)
             case measure => simp [intOf]
          ·have HD := Lib.hid (show DenS ((frsL C i) ++ [(p, q)]) c2 true from hdj'.stay _)
           have HRL := Lib.hid (show CkK w C W5.heap.size W6.heap.size i p q r s (.int .i64 c2) (.bool true) (.int .i64 ((0 + 1 : Nat) : Int)) (wr.alloc (.cells #[.int .i64 p, .int .i64 q] 34)) from ⟨0 + 1, c2, true, rfl, rfl, rfl, by omega, fun _ => HG1.out, fun h => absurd h (by omega), by simpa using HD.out, HMN.out⟩)
           clear hmj hj0 hj1 hdj hdj' hbn
           go_wp2
           go_roundw
           case rel => first | exact HRL.out | ((repeat apply Exists.intro); exact ⟨HRL.out, rfl⟩) | ((repeat apply Exists.intro); exact ⟨HRL.out, rfl, rfl⟩) | ((repeat apply Exists.intro); exact ⟨HRL.out, rfl, rfl, rfl⟩)
           case measure => simp [intOf]
       ·have c0 : wr.cell? ⟨W6.heap.size, 2, none⟩ = some (.int .i64 r) := (hmj.at_ 3 rfl).cell 2
        have c1 : wr.cell? ⟨W6.heap.size, 3, none⟩ = some (.int .i64 s) := (hmj.at_ 3 rfl).cell 3
        obtain ⟨q0, q1, q2, q3, _⟩ := HRR.out
        have HMN := Lib.hid (hmj.alloc (.cells #[.int .i64 r, .int .i64 s] 34))
        have hbn := (hmj.alloc (.cells #[.int .i64 r, .int .i64 s] 34)).below
        have HBN := Lib.hid hbn
        by_cases g1 : 12 * s < r
        ·have HE := Lib.hid (show ckE C = 3 by
          have e : tmE (C i) = 3 := by rw [← HX.out]; exact tmE_rg ⟨HRP.out, HRR.out⟩ (fun h => by have := h.2; unfold rgP at this; dsimp only at this; omega)
          rw [ckE_at HAL.out hil (by rw [e]; decide), e])
         clear hmj hj0 hj1 hdj hbn
         go_wp2
         go_ret
         exact ⟨by rw [HE.out]; rfl, HBN.out⟩
        ·by_cases g2 : r < -12 * s
         ·have HE := Lib.hid (show ckE C = 3 by
           have e : tmE (C i) = 3 := by rw [← HX.out]; exact tmE_rg ⟨HRP.out, HRR.out⟩ (fun h => by have := h.2; unfold rgP at this; dsimp only at this; omega)
           rw [ckE_at HAL.out hil (by rw [e]; decide), e])
          clear hmj hj0 hj1 hdj hbn
          go_wp2
          go_ret
          exact ⟨by rw [HE.out]; rfl, HBN.out⟩
         ·have HG1 := Lib.hid (show rgP r s from ⟨by omega, by omega⟩)
          have hdj' : DenS (frsL C i ++ [(p, q)]) c2 L2 := by simpa using hdj
          cases L2
          ·by_cases h24 : 240 < s
           ·have HD := Lib.hid (show DenS ((frsL C i ++ [(p, q)]) ++ [(r, s)]) c2 true from hdj'.far h24)
            have HRL := Lib.hid (show CkK w C W5.heap.size W6.heap.size i p q r s (.int .i64 c2) (.bool true) (.int .i64 ((1 + 1 : Nat) : Int)) (wr.alloc (.cells #[.int .i64 r, .int .i64 s] 34)) from ⟨1 + 1, c2, true, rfl, rfl, rfl, by omega, fun _ => HJ0.out (by omega), fun _ => HG1.out, by simpa using HD.out, HMN.out⟩)
            clear hmj hj0 hj1 hdj hdj' hbn
            go_wp2
            go_roundw
            case rel => first | exact HRL.out | ((repeat apply Exists.intro); exact ⟨HRL.out, rfl⟩) | ((repeat apply Exists.intro); exact ⟨HRL.out, rfl, rfl⟩) | ((repeat apply Exists.intro); exact ⟨HRL.out, rfl, rfl, rfl⟩)
            case measure => simp [intOf]
           ·obtain ⟨hl0, hc24, hdn⟩ := hdj'.next (n := r) (d := s) ⟨by omega, by omega⟩
            have hcb := hdj'.1
            have hgc := fun W => HG.out c2 s W (by omega) (by omega) (by omega) (by omega)
            obtain ⟨⟨hg0, hg1⟩, ⟨hq0, hq1⟩, _, _⟩ := lcmA_bd ⟨hcb.1, hc24⟩ (d := s) ⟨by omega, by omega⟩
            have hlm : lcmA c2 s = c2 / (Nat.gcd c2.natAbs (s).natAbs : Int) * s := rfl
            obtain ⟨g, hg⟩ : ∃ g : Int, g = (Nat.gcd c2.natAbs (s).natAbs : Int) := ⟨_, rfl⟩
            obtain ⟨l, hl⟩ : ∃ l, l = lcmA c2 s := ⟨_, rfl⟩
            rw [← hg] at hgc hq0 hq1 hlm
            rw [← hl] at hlm hl0 hdn
            obtain ⟨u, hu⟩ : ∃ u, u = c2 / g := ⟨_, rfl⟩
            rw [← hu] at hlm hq0 hq1
            have hgp : 0 < g := by omega
            have hgz : (g == 0) = false := by rw [beq_eq_false_iff_ne]; omega
            have HGC := Lib.hid hgc
            have HU := Lib.hid hu
            have HLM := Lib.hid hlm
            have HDN := Lib.hid hdn
            clear hgc hg hu hlm hl hg0 hg1 hdn hdj hdj' hbn hmj hj0 hj1
            have hw1 : IntKind.i64.wrap (c2.tdiv g) = u := by rw [Int.tdiv_eq_ediv_of_nonneg (by omega), ← HU.out]; exact IntWalk.i64_in _ (by omega)
            have hw2 : IntKind.i64.wrap (u * s) = l := by rw [← HLM.out]; exact IntWalk.i64_in _ (by omega)
            have hw3 : c2 / g = u := HU.out.symm
            have HW := Lib.hid (And.intro hw1 (And.intro hw2 hw3))
            clear hw1 hw2 hw3
            go_upto_region 19 with fail
            obtain ⟨hw1, hw2, hw3⟩ := HW.out
            go_quiet ((go_at_call 42; exact Calls.quiet_of (HGC.out _)))
            clear hw1 hw2 hw3 hgz
            have HMN2 := Lib.hid (HMN.out.drewN nq)
            clear HMN
            have HMN := HMN2
            by_cases hl2 : 240 < l
            ·have HD := Lib.hid (show DenS ((frsL C i ++ [(p, q)]) ++ [(r, s)]) l true from by have := HDN.out; rwa [decide_eq_true hl2] at this)
             have HRL := Lib.hid (show CkK w C W5.heap.size W6.heap.size i p q r s (.int .i64 l) (.bool true) (.int .i64 ((1 + 1 : Nat) : Int)) ((wr.alloc (.cells #[.int .i64 r, .int .i64 s] 34)).drewN nq) from ⟨1 + 1, l, true, rfl, rfl, rfl, by omega, fun _ => HJ0.out (by omega), fun _ => HG1.out, by simpa using HD.out, HMN.out⟩)
             go_wp2
             go_roundw
             case rel => first | exact HRL.out | ((repeat apply Exists.intro); exact ⟨HRL.out, rfl⟩) | ((repeat apply Exists.intro); exact ⟨HRL.out, rfl, rfl⟩) | ((repeat apply Exists.intro); exact ⟨HRL.out, rfl, rfl, rfl⟩)
             case measure => simp [intOf]
            ·have HD := Lib.hid (show DenS ((frsL C i ++ [(p, q)]) ++ [(r, s)]) l false from by have := HDN.out; rwa [decide_eq_false hl2] at this)
             have HRL := Lib.hid (show CkK w C W5.heap.size W6.heap.size i p q r s (.int .i64 l) (.bool false) (.int .i64 ((1 + 1 : Nat) : Int)) ((wr.alloc (.cells #[.int .i64 r, .int .i64 s] 34)).drewN nq) from ⟨1 + 1, l, false, rfl, rfl, rfl, by omega, fun _ => HJ0.out (by omega), fun _ => HG1.out, by simpa using HD.out, HMN.out⟩)
             go_wp2
             go_roundw
             case rel => first | exact HRL.out | ((repeat apply Exists.intro); exact ⟨HRL.out, rfl⟩) | ((repeat apply Exists.intro); exact ⟨HRL.out, rfl, rfl⟩) | ((repeat apply Exists.intro); exact ⟨HRL.out, rfl, rfl, rfl⟩)
             case measure => simp [intOf]
          ·have HD := Lib.hid (show DenS ((frsL C i ++ [(p, q)]) ++ [(r, s)]) c2 true from hdj'.stay _)
           have HRL := Lib.hid (show CkK w C W5.heap.size W6.heap.size i p q r s (.int .i64 c2) (.bool true) (.int .i64 ((1 + 1 : Nat) : Int)) (wr.alloc (.cells #[.int .i64 r, .int .i64 s] 34)) from ⟨1 + 1, c2, true, rfl, rfl, rfl, by omega, fun _ => HJ0.out (by omega), fun _ => HG1.out, by simpa using HD.out, HMN.out⟩)
           clear hmj hj0 hj1 hdj hdj' hbn
           go_wp2
           go_roundw
           case rel => first | exact HRL.out | ((repeat apply Exists.intro); exact ⟨HRL.out, rfl⟩) | ((repeat apply Exists.intro); exact ⟨HRL.out, rfl, rfl⟩) | ((repeat apply Exists.intro); exact ⟨HRL.out, rfl, rfl, rfl⟩)
           case measure => simp [intOf]
      ·obtain rfl : j = 2 := by omega
       have HOK := Lib.hid (show ∀ j, j < i + 1 → tmE (C j) = 0 from fun j h => by
        by_cases e : j = i
        ·subst e; rw [← HX.out]; exact tmE_ok ⟨HRP.out, HRR.out⟩ ⟨hj0 (by omega), hj1 (by omega)⟩
        ·exact HAL.out j (by omega))
       have HD := Lib.hid (show DenS (frsL C (i + 1)) c2 L2 by rw [frsL_succ, ← HX.out]; simpa using hdj)
       have HMC := Lib.hid (hmj.sub (L' := [(w.heap.size, 38, cirL C)]) (by simp))
       clear hj0 hj1 hdj hmj
       go_wp2
       go_roundw
       case rel => exact ⟨i + 1, c2, L2, rfl, rfl, by go_num, by omega, HOK.out, HD.out, HMC.out⟩
       case measure => simp [intOf]; omega
  ·obtain rfl : i = 12 := by omega
   have HE := Lib.hid (ckE_end HAL.out)
   have HB := Lib.hid hm.below
   have hdd := hds.2
   clear hal hds hm
   cases L
   ·have HZ := Lib.hid (show ckE C = 0 by
     rw [HE.out]
     rcases hdd with ⟨_, e, _⟩ | ⟨e, _⟩
     ·rw [e]; rfl
     ·cases e)
    clear hdd
    go_wp2
    go_ret
    exact ⟨by rw [HZ.out]; rfl, HB.out⟩
   ·have HZ := Lib.hid (show ckE C = 4 by
     rw [HE.out]
     rcases hdd with ⟨e, _, _⟩ | ⟨_, e⟩
     ·cases e
     ·rw [e]; rfl)
    clear hdd
    go_wp2
    go_ret
    exact ⟨by rw [HZ.out]; rfl, HB.out⟩
end Go.Proofs.YtendjepcjmfmfaaGreatDoor
