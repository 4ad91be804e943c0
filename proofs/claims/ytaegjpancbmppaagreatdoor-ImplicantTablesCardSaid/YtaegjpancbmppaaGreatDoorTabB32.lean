/- Part 32 of 33 of the proof of the law: contracts of the functions that it reaches, and plain facts. Conditions: those that each contract names. -/
import Derived.Test.YtaegjpancbmppaaGreatDoorTabB26
import Derived.Test.YtaegjpancbmppaaGreatDoorTabB30
import Derived.Test.YtaegjpancbmppaaGreatDoorTabB31
set_option linter.unusedVariables false
set_option linter.unusedSimpArgs false
namespace Go.Proofs.YtaegjpancbmppaaGreatDoor
open Go.RowKit
theorem mkF_right (l : List Nat) : FmOK (mkF l) ∧ ∀ x ∈ (mkF l).vars, 0 ≤ x ∧ x < 6 := by
 obtain ⟨h1, h2, h3⟩ := mkF_ok l
 refine ⟨⟨by omega, by omega, fun x hx => (h1 x hx).1⟩, fun x hx => ?_⟩
 obtain ⟨m, hm⟩ := vars_mem.1 hx
 exact (h1 _ hm).2 rfl
def fitK (v : Int) (t : Fm) (k : Nat) : Prop := ∀ y : Nat, y < k → v ≤ (y : Int) → t.occ (y : Int) = false
theorem ofE_fit {l : List Nat} {v : Int} (h0 : 0 ≤ v) (h8 : v ≤ 8) (h : fitK v (mkF l) 6) : ofE v (mkF l) = 0 := by
 obtain ⟨hok, hv⟩ := mkF_right l
 unfold ofE
 rw [if_neg (by omega), if_pos]
 refine List.all_eq_true.2 fun x hx => decide_eq_true ?_
 obtain ⟨h1, h2⟩ := hv x hx
 obtain ⟨y, rfl⟩ : ∃ y : Nat, x = (y : Int) := ⟨x.toNat, by omega⟩
 rcases Int.lt_or_le (y : Int) v with h3 | h3
 ·exact h3
 ·have := h y (by omega) h3
  have h4 := (Fm.occ_iff (mkF l) hok.2.2).2 (vars_mem.1 hx)
  rw [this] at h4
  cases h4
theorem ofE_occ {l : List Nat} {v : Int} {y : Nat} (h0 : 0 ≤ v) (h8 : v ≤ 8) (hy : v ≤ (y : Int)) (h : (mkF l).occ (y : Int) = true) : ofE v (mkF l) = 5 := by
 obtain ⟨hok, hv⟩ := mkF_right l
 unfold ofE
 rw [if_neg (by omega), if_neg]
 intro hall
 have hx := vars_mem.2 ((Fm.occ_iff (mkF l) hok.2.2).1 h)
 have := of_decide_eq_true (List.all_eq_true.1 hall _ hx)
 omega
set_option maxRecDepth 1000000 in
set_option maxHeartbeats 8000000 in
theorem ltab_any (l : List Nat) (A : Option Addr) (n c : Nat) (v : Int) (V : World) (hR : Rd u8v V V.heap.size A l) (hn : n = l.length) (hb : ∀ x ∈ l, x < 256) :
  Calls Tryz.prog 10 #[.slice A n c, .int .i64 v] V (LwPost V) := by
 have HK := Lib.hid (fun X => iknown_any X)
 have HMK := Lib.hid (fun X (h : Below V.heap.size V X) => lmakef_any l A n c X (rd_stepB hR h) hn hb)
 obtain ⟨hok, hvr⟩ := mkF_right l
 have hE0 := fun h0 h8 => ofE_fit (l := l) (v := v) h0 h8
 have hE5 := fun y h0 h8 => ofE_occ (l := l) (v := v) (y := y) h0 h8
 have h66 := mkF_ok l
 unfold MfPost at HMK
 obtain ⟨t, ht⟩ : ∃ t, t = mkF l := ⟨_, rfl⟩
 rw [← ht] at HMK hok hvr hE0 hE5 h66
 obtain ⟨m, hm⟩ : ∃ m, m = t.l.length := ⟨_, rfl⟩
 obtain ⟨k, hk⟩ : ∃ m, m = t.k := ⟨_, rfl⟩
 obtain ⟨a, ha⟩ : ∃ m, m = t.a := ⟨_, rfl⟩
 rw [← hm, ← hk, ← ha] at HMK
 have HOF := Lib.hid (show ∀ (A' : Option Addr) (cp : Nat) (X : World), FsR X (lowB X.heap.size) A' t.l → Calls Tryz.prog 35 #[.agg #[.int .i64 k, .int .i64 a, .slice A' m cp], .int .i64 v] X (OfPost v t X) from fun A' cp X h => by
  rw [hk, ha, hm]; exact iTable_any t A' cp v X hok h)
 have HTR := Lib.hid (show ∀ (A' : Option Addr) (cp : Nat) (X : World), FsR X (lowB X.heap.size) A' t.l → Calls Tryz.prog 37 #[.agg #[.int .i64 k, .int .i64 a, .slice A' m cp]] X (fun e w' => ∃ (A2 : Option Addr) (c2 : Nat), e = .returned (.agg #[.int .i64 k, .int .i64 a, .slice A2 m c2]) ∧ FsR w' (lowB w'.heap.size) A2 t.l ∧ Below X.heap.size X w') from fun A' cp X h => by
  have := ltree_any 10000 t (by omega) (by omega) A' cp X h
  rw [hk, ha, hm]
  exact this.mono fun e w' ⟨A2, c2, h1, h2, h3, h4⟩ => ⟨A2, c2, h1, h3.mono fun b hb => hb.2, h4⟩)
 have HOC := Lib.hid (show ∀ (x : Int) (A' : Option Addr) (cp : Nat) (X : World), FsR X (lowB X.heap.size) A' t.l → Calls Tryz.prog 36 #[.agg #[.int .i64 k, .int .i64 a, .slice A' m cp], .int .i64 x] X (fun e w' => e = .returned (.bool (t.occ x)) ∧ Below X.heap.size X w') from fun x A' cp X h => by
  rw [hk, ha, hm]; exact rocc_any x 10000 t (by omega) (by omega) A' cp X h)
 have HVA := Lib.hid (show ∀ (r : Nat), r < 256 → ∀ (A' : Option Addr) (cp : Nat) (X : World), FsR X (lowB X.heap.size) A' t.l → Calls Tryz.prog 38 #[.agg #[.int .i64 k, .int .i64 a, .slice A' m cp], .int .u64 (r : Int)] X (fun e w' => e = .returned (.bool (t.val (bitV r))) ∧ Below X.heap.size X w') from fun r hr A' cp X h => by
  rw [hk, ha, hm]; exact rval_any r (by omega) 10000 t (by omega) (by omega) h66.1 A' cp X h)
 have HE := Lib.hid (And.intro hE0 (And.intro hE5 hvr))
 have HN30 := Lib.hid hn
 clear hR hn hb hok hvr hE0 hE5 h66 ht hm hk ha
 go_enter Tryz.func10, Tryz.ntmps10
 go_wp2_with fail
 refine (HK.out _).mono ?_
 rintro e W0 ⟨rfl, hb⟩
 have HB0 := Lib.hid hb
 clear hb
 by_cases h6 : 30 < n
 ·have h6z : (30 : Int) < (n : Int) := by omega
  go_wp2_with fail
  refine (HK.out _).mono ?_
  rintro e W1 ⟨rfl, hb⟩
  have HB1 := Lib.hid (HB0.out.trans (hb.mono HB0.out.size))
  clear hb
  go_wp2_with fail
  exact bodyPost_ret (v := .bool true) (by simp [results, Tryz.results10, go_sem]) rfl ⟨rfl, HB1.out⟩
 have hdd : decide ((30 : Int) < (n : Int)) = false := decide_eq_false (by omega)
 have hde : decide (30 < n) = false := decide_eq_false (by omega)
 clear h6
 go_wp2_with fail
 refine (HMK.out _ HB0.out).mono ?_
 rintro e W1 ⟨Af, cf, rfl, hF, hb⟩
 have HF1 := Lib.hid hF
 have HB1 := Lib.hid (HB0.out.trans (hb.mono HB0.out.size))
 clear hb hF HMK
 obtain ⟨E, hE⟩ : ∃ E, E = ofE v t := ⟨_, rfl⟩
 have HOE := Lib.hid hE
 have HOF2 := Lib.hid (show ∀ X, Below W1.heap.size W1 X → Calls Tryz.prog 35 #[.agg #[.int .i64 k, .int .i64 a, .slice Af m cf], .int .i64 v] X (fun e w' => ∃ (z : Int) (Ao : Option Addr) (no co : Nat), e = .returned (.tuple #[.agg #[.int .i64 z, .slice Ao no co, .slice none 0 0], .int .i64 E]) ∧ ((E ≠ 0 ∧ z = 0 ∧ no = 0) ∨ (E = 0 ∧ z = v ∧ no = (tabF v.toNat t).length ∧ Rd iz w' w'.heap.size Ao (zR (tabF v.toNat t)))) ∧ Below X.heap.size X w') from fun X h => by
  refine (HOF.out Af cf X (HF1.out.step h)).mono ?_
  rintro e w' (⟨h1, rfl, hb⟩ | ⟨h1, A', c', rfl, hr, hb⟩)
  ·exact ⟨0, none, 0, 0, by rw [hE], .inl ⟨by rw [hE]; exact h1, rfl, rfl⟩, hb⟩
  ·exact ⟨v, A', _, c', by rw [hE, h1], .inr ⟨by rw [hE]; exact h1, rfl, rfl, hr⟩, hb⟩)
 have HFX := Lib.hid (show ∀ X, Below W1.heap.size W1 X → FsR X (lowB X.heap.size) Af t.l from fun X h => HF1.out.step h)
 have hm1 := (Hp.start W1).new 53 (fcL k a Af m cf)
 simp only [List.nil_append] at hm1
 have HM1 := Lib.hid hm1
 clear hE hm1
 go_wp2_with fail
 refine (HOF2.out _ HM1.out.below).mono ?_
 rintro e W2 ⟨z, Ao, no, co, rfl, hrel, hb⟩
 have HREL := Lib.hid hrel
 have HM2 := Lib.hid (HM1.out.step hb)
 clear hrel hb
 go_wp2_with fail
 refine (iTable7 v _).mono ?_
 rintro e W3 ⟨rfl, hb⟩
 have hm3 := (HM2.out.new 26 [.int .i64 z, .slice Ao no co, .slice none 0 0]).step hb
 simp only [List.nil_append, List.cons_append] at hm3
 have HM3 := Lib.hid hm3
 have HRW := Lib.hid (show ∀ X, Below W3.heap.size W3 X → (E = 0 → Rd iz X X.heap.size Ao (zR (tabF v.toNat t))) from fun X h hE => by
  rcases HREL.out with ⟨h1, -⟩ | ⟨-, -, -, hr⟩
  ·exact absurd hE h1
  ·exact rd_stepB (rd_stepB (rd_stepB hr (bw_new (Below.refl _ _) _)) hb) h)
 have HZ := Lib.hid (show (E ≠ 0 ∧ z = 0 ∧ no = 0) ∨ (E = 0 ∧ z = v ∧ no = (tabF v.toNat t).length) from HREL.out.imp id fun h => ⟨h.1, h.2.1, h.2.2.1⟩)
 clear hb hm3 HREL HOF HOF2
 by_cases hv : v < 0 ∨ 8 < v
 ·rcases hv with hv | hv
  ·have hE3 : E = 3 := by rw [HOE.out]; unfold ofE; rw [if_pos (by omega)]
   have HE3 := Lib.hid hE3
   clear hE3
   go_wp2_with fail
   go_loopw [10, 11] (fun w x wr => x = .int .i64 0 ∧ w = .int .i64 E ∧ Below W3.heap.size W3 wr) (fun _ x _ => 6 - (intOf x).toNat)
   case atStart => exact ⟨rfl, by rw [HE3.out], bw_new (Below.refl _ _) _⟩
   case round =>
    obtain ⟨rfl, rfl, hb⟩ := hrel
    have hE : E ≠ 0 := by rw [HE3.out]; decide
    rcases HZ.out with ⟨-, hz, hno⟩ | ⟨h0, -⟩
    case inr => exact absurd h0 hE
    subst hz
    subst hno
    have hp := HM3.out.step hb
    have t0 : wr.cell? ⟨W2.heap.size, 0, none⟩ = some (.int .i64 0) := (hp.at_ 1 rfl).cell 0
    have t1 : wr.cell? ⟨W2.heap.size, 1, none⟩ = some (.slice Ao 0 co) := (hp.at_ 1 rfl).cell 1
    have t2 : wr.cell? ⟨W2.heap.size, 2, none⟩ = some (.slice none 0 0) := (hp.at_ 1 rfl).cell 2
    have hwl : W2.heap.size < wr.heap.size := (hp.at_ 1 rfl).lt
    have hEb : (E == 0) = false := by rw [beq_eq_false_iff_ne]; exact hE
    have hEn : (E != 0) = true := by rw [bne_iff_ne]; exact hE
    have HPP := Lib.hid hp.below
    clear hE hp hb
    go_wp2_with fail
    exact bodyPost_ret (v := .bool true) (by simp [results, Tryz.results10, go_sem]) rfl ⟨rfl, HB1.out.trans (HPP.out.mono HB1.out.size)⟩
  ·have hv0 : decide (v < 0) = false := decide_eq_false (by omega)
   have hE3 : E = 3 := by rw [HOE.out]; unfold ofE; rw [if_pos (by omega)]
   have HE3 := Lib.hid hE3
   clear hE3
   go_wp2_with fail
   go_loopw [10, 11] (fun w x wr => x = .int .i64 0 ∧ w = .int .i64 E ∧ Below W3.heap.size W3 wr) (fun _ x _ => 6 - (intOf x).toNat)
   case atStart => exact ⟨rfl, by rw [HE3.out], bw_new (Below.refl _ _) _⟩
   case round =>
    obtain ⟨rfl, rfl, hb⟩ := hrel
    have hE : E ≠ 0 := by rw [HE3.out]; decide
    rcases HZ.out with ⟨-, hz, hno⟩ | ⟨h0, -⟩
    case inr => exact absurd h0 hE
    subst hz
    subst hno
    have hp := HM3.out.step hb
    have t0 : wr.cell? ⟨W2.heap.size, 0, none⟩ = some (.int .i64 0) := (hp.at_ 1 rfl).cell 0
    have t1 : wr.cell? ⟨W2.heap.size, 1, none⟩ = some (.slice Ao 0 co) := (hp.at_ 1 rfl).cell 1
    have t2 : wr.cell? ⟨W2.heap.size, 2, none⟩ = some (.slice none 0 0) := (hp.at_ 1 rfl).cell 2
    have hwl : W2.heap.size < wr.heap.size := (hp.at_ 1 rfl).lt
    have hEb : (E == 0) = false := by rw [beq_eq_false_iff_ne]; exact hE
    have hEn : (E != 0) = true := by rw [bne_iff_ne]; exact hE
    have HPP := Lib.hid hp.below
    clear hE hp hb
    go_wp2_with fail
    exact bodyPost_ret (v := .bool true) (by simp [results, Tryz.results10, go_sem]) rfl ⟨rfl, HB1.out.trans (HPP.out.mono HB1.out.size)⟩
 ·have hv0 : decide (v < 0) = false := decide_eq_false (by omega)
  have hv8 : decide (8 < v) = false := decide_eq_false (by omega)
  have HV08 := Lib.hid (show 0 ≤ v ∧ v ≤ 8 by omega)
  clear hv
  go_wp2_with fail
  go_loopw [10, 11] (fun w x wr => ∃ (i : Nat) (wz : Int), i ≤ 6 ∧ x = .int .i64 (i : Int) ∧ w = .int .i64 wz ∧ ((wz = 0 ∧ fitK v t i) ∨ (wz = E ∧ E ≠ 0)) ∧ Below W3.heap.size W3 wr) (fun _ x _ => 6 - (intOf x).toNat)
  case atStart => exact ⟨0, 0, by omega, rfl, rfl, .inl ⟨rfl, fun y hy => absurd hy (Nat.not_lt_zero _)⟩, bw_new (Below.refl _ _) _⟩
  case round =>
   obtain ⟨wo, rfl⟩ : ∃ W, W = wr := ⟨_, rfl⟩
   obtain ⟨i, wz, hi, rfl, rfl, hw, hb⟩ := hrel
   by_cases hgo : i < 6 ∧ wz = 0
   ·obtain ⟨hlt, rfl⟩ := hgo
    have hfit : fitK v t i := by
     rcases hw with h | h
     ·exact h.2
     ·exact absurd h.1.symm h.2
    have hp := HM3.out.step hb
    have HPO := Lib.hid hp
    have HBO := Lib.hid hb
    have HFIT := Lib.hid hfit
    have q0 : wo.cell? ⟨W1.heap.size, 0, none⟩ = some (.int .i64 k) := (hp.at_ 0 rfl).cell 0
    have q1 : wo.cell? ⟨W1.heap.size, 1, none⟩ = some (.int .i64 a) := (hp.at_ 0 rfl).cell 1
    have q2 : wo.cell? ⟨W1.heap.size, 2, none⟩ = some (.slice Af m cf) := (hp.at_ 0 rfl).cell 2
    have hwf : W1.heap.size < wo.heap.size := (hp.at_ 0 rfl).lt
    have hiz : (i : Int) < 6 := by omega
    have HIL := Lib.hid hlt
    obtain ⟨i2, hi2⟩ : ∃ z : Int, z = (i : Int) + 1 := ⟨_, rfl⟩
    have hwi : IntKind.i64.wrap ((i : Int) + 1) = i2 := by rw [hi2]; exact IntWalk.i64_in _ (by omega)
    have HI2 := Lib.hid hi2
    have HTRI := Lib.hid (HTR.out Af cf wo (HFX.out wo hp.below))
    clear hi2 hlt hi hw hb hp hfit
    by_cases hvi : v ≤ (i : Int)
    ·have hvd : decide (v ≤ (i : Int)) = true := decide_eq_true hvi
     have HVI := Lib.hid hvi
     clear hvi
     go_wp2_with fail
     refine HTRI.out.mono ?_
     rintro e W5 ⟨A2, c2, rfl, hF2, hb5⟩
     have HB5 := Lib.hid (HBO.out.trans (hb5.mono HBO.out.size))
     have HO5 := Lib.hid (HOC.out (i : Int) A2 c2 W5 hF2)
     clear hb5 hF2 q0 q1 q2 hwf
     go_wp2_with fail
     refine HO5.out.mono ?_
     rintro e W6 ⟨rfl, hb6⟩
     have HB6 := Lib.hid (HB5.out.trans (hb6.mono HB5.out.size))
     clear hb6
     cases ho : t.occ (i : Int) with
     | true =>
      have hE5' : E = 5 := by rw [HOE.out]; exact HE.out.2.1 i (by have := HV08.out; omega) (by have := HV08.out; omega) HVI.out ho
      have HE5 := Lib.hid hE5'
      clear ho hE5'
      go_wp2_with fail
      go_roundw
      case rel => exact ⟨i + 1, 5, HIL.out, by rw [HI2.out]; rfl, rfl, .inr ⟨HE5.out.symm, by rw [HE5.out]; decide⟩, HB6.out⟩
      case measure => have := HIL.out; have := HI2.out; simp only [intOf]; omega
     | false =>
      have HOI := Lib.hid ho
      clear ho
      go_wp2_with fail
      go_roundw
      case rel => exact ⟨i + 1, 0, HIL.out, by rw [HI2.out]; rfl, rfl, .inl ⟨rfl, fun y hy hvy => by
       rcases Nat.lt_succ_iff_lt_or_eq.1 hy with h | h
       ·exact HFIT.out y h hvy
       ·rw [h]; exact HOI.out⟩, HB6.out⟩
      case measure => have := HIL.out; have := HI2.out; simp only [intOf]; omega
    ·have hvd : decide (v ≤ (i : Int)) = false := decide_eq_false hvi
     have HVI := Lib.hid hvi
     clear hvi
     go_wp2_with fail
     go_roundw
     case rel => exact ⟨i + 1, 0, HIL.out, by rw [HI2.out]; rfl, rfl, .inl ⟨rfl, fun y hy hvy => by
      rcases Nat.lt_succ_iff_lt_or_eq.1 hy with h | h
      ·exact HFIT.out y h hvy
      ·exact absurd (by rw [← h]; exact hvy) HVI.out⟩, HBO.out⟩
     case measure => have := HIL.out; have := HI2.out; simp only [intOf]; omega
   ·have hwE : wz = E := by
     rcases hw with ⟨h1, h2⟩ | h
     ·have h6 : i = 6 := by
       by_cases h : i < 6
       ·exact absurd ⟨h, h1⟩ hgo
       ·omega
      rw [h6] at h2
      rw [h1, HOE.out, HE.out.1 (by have := HV08.out; omega) (by have := HV08.out; omega) h2]
     ·exact h.1
    subst hwE
    obtain ⟨wr, rfl⟩ : ∃ W, W = wo := ⟨_, rfl⟩
    by_cases hE : wz = 0
    ·have hi6 : i = 6 := by
      by_cases h : i < 6
      ·exact absurd ⟨h, hE⟩ hgo
      ·omega
     subst hi6
     subst hE
     clear hgo hw hi
     obtain ⟨h0, hz, hno⟩ := HZ.out.resolve_left fun h => h.1 rfl
     subst hz
     have hr8 : 0 ≤ z ∧ z ≤ 8 ∧ ∀ x ∈ t.vars, x < z := by
      have h1 := HOE.out
      unfold ofE at h1
      by_cases h2 : z < 0 ∨ 8 < z
      ·rw [if_pos h2] at h1; cases h1
      ·rw [if_neg h2] at h1
       by_cases h3 : t.vars.all (fun x => decide (x < z)) = true
       ·exact ⟨by omega, by omega, fun x hx => of_decide_eq_true (List.all_eq_true.1 h3 x hx)⟩
       ·rw [if_neg h3] at h1; cases h1
     obtain ⟨q, rfl⟩ : ∃ q : Nat, z = (q : Int) := ⟨z.toNat, by omega⟩
     have hq8 : q ≤ 8 := by omega
     have hvq := hr8.2.2
     rw [Int.toNat_natCast] at hno
     have HRR := Lib.hid (show ∀ X, Below W3.heap.size W3 X → Rd iz X X.heap.size Ao (zR (tabF q t)) from fun X h => by
      have := HRW.out X h rfl
      rwa [Int.toNat_natCast] at this)
     obtain ⟨N, hN⟩ : ∃ N, N = 2 ^ q := ⟨_, rfl⟩
     have hN8 : N ≤ 256 := by rw [hN]; exact pow_le8 hq8
     have hsh : wrap64 (2 ^ q) = (N : Int) := by
      have e : ((2 : Int) ^ q) = (N : Int) := by rw [hN, Int.natCast_pow]; rfl
      rw [e]; unfold wrap64; omega
     have hwn : IntKind.u64.wrap (q : Int) = (q : Int) := IntWalk.u64_in _ ⟨by omega, by omega⟩
     have hn64 : (q : Int) < 64 := by omega
     have HSH := Lib.hid hsh
     have HNN := Lib.hid hN
     have HNO := Lib.hid hno
     have HVQ := Lib.hid hvq
     have hno2 : no ≤ 256 := by rw [hno]; exact Nat.le_trans (tabK_len q t _) (by rw [← hN]; exact hN8)
     clear h0 hr8 hvq hno hN hsh
     go_wp2_with fail
     go_loopw [12, 13] (fun kk x wx => ∃ r : Nat, r ≤ N ∧ x = .int .i64 (r : Int) ∧ kk = .int .i64 ((tabK q t r).length : Int) ∧ Below W3.heap.size W3 wx) (fun _ x _ => N - (intOf x).toNat)
     case atStart => exact ⟨0, Nat.zero_le _, rfl, rfl, hb⟩
     case round =>
      obtain ⟨wi, rfl⟩ : ∃ W, W = wr := ⟨_, rfl⟩
      obtain ⟨r, hr, rfl, rfl, hb⟩ := hrel
      have HBI := Lib.hid hb
      have hp := HM3.out.step hb
      have t0 : wi.cell? ⟨W2.heap.size, 0, none⟩ = some (.int .i64 (q : Int)) := (hp.at_ 1 rfl).cell 0
      have t1 : wi.cell? ⟨W2.heap.size, 1, none⟩ = some (.slice Ao no co) := (hp.at_ 1 rfl).cell 1
      have t2 : wi.cell? ⟨W2.heap.size, 2, none⟩ = some (.slice none 0 0) := (hp.at_ 1 rfl).cell 2
      have q0 : wi.cell? ⟨W1.heap.size, 0, none⟩ = some (.int .i64 k) := (hp.at_ 0 rfl).cell 0
      have q1 : wi.cell? ⟨W1.heap.size, 1, none⟩ = some (.int .i64 a) := (hp.at_ 0 rfl).cell 1
      have q2 : wi.cell? ⟨W1.heap.size, 2, none⟩ = some (.slice Af m cf) := (hp.at_ 0 rfl).cell 2
      have hwl : W2.heap.size < wi.heap.size := (hp.at_ 1 rfl).lt
      have hwf : W1.heap.size < wi.heap.size := (hp.at_ 0 rfl).lt
      have HPI := Lib.hid hp
      clear hb hp
      by_cases hlt : r < N
      ·have hrz : (r : Int) < (N : Int) := by omega
       have HRL := Lib.hid hlt
       obtain ⟨r2, hr2⟩ : ∃ z : Int, z = (r : Int) + 1 := ⟨_, rfl⟩
       have hwr : IntKind.i64.wrap ((r : Int) + 1) = r2 := by rw [hr2]; exact IntWalk.i64_in _ (by omega)
       have HR2 := Lib.hid hr2
       have hwu : IntKind.u64.wrap (r : Int) = (r : Int) := IntWalk.u64_in _ ⟨by omega, by omega⟩
       have hr256 : r < 256 := by omega
       have hvb := val_bit (n := q) (r := r) (t := t) hq8 (fun x hx => ⟨(HE.out.2.2 x hx).1, HVQ.out x hx⟩)
       have htk := tabK_succ q t r
       have htl := tabK_len q t r
       have hat : t.val (vf (rowV q r)) = true → (tabK q t r).length < no ∧ ∃ g off, Ao = some ⟨g, off, none⟩ ∧ g < wi.heap.size ∧ wi.cell? ⟨g, off + (tabK q t r).length, none⟩ = some (.int .i64 (r : Int)) := fun h => by
        obtain ⟨h1, h2⟩ := tabF_at (n := q) (r := r) (by rw [← HNN.out]; exact hlt) h
        obtain ⟨g, off, hA, hg, hc⟩ := (HRR.out wi HBI.out) (by rw [List.length_map]; omega)
        have := hc (tabK q t r).length (by rw [List.length_map]; exact h1)
        rw [List.getElem_map] at this
        have e : (tabF q t)[(tabK q t r).length] = r := by rw [List.getD_eq_getElem?_getD, List.getElem?_eq_getElem h1] at h2; exact h2
        rw [e] at this
        exact ⟨by rw [HNO.out]; exact h1, g, off, hA, hg, this⟩
       have HTRI := Lib.hid (HTR.out Af cf wi (HFX.out wi HPI.out.below))
       have HVI := Lib.hid (HVA.out r hr256)
       rw [hvb] at HVI
       obtain ⟨kk, hkk⟩ : ∃ z, z = (tabK q t r).length := ⟨_, rfl⟩
       rw [← hkk] at hat htl ⊢
       obtain ⟨b, hbv⟩ : ∃ b, b = t.val (vf (rowV q r)) := ⟨_, rfl⟩
       rw [← hbv] at HVI htk hat
       have HKK := Lib.hid hkk
       have HTK := Lib.hid htk
       have HAT := Lib.hid hat
       have hkz : (kk : Int) ≤ 256 := by omega
       have hsh := HSH.out
       clear hr2 hlt hr hvb htk hat hkk hbv htl
       go_wp2_with fail
       refine HTRI.out.mono ?_
       rintro e W5 ⟨A2, c2, rfl, hF2, hb5⟩
       have HP5 := Lib.hid (HPI.out.step hb5)
       have HB5W := Lib.hid hb5
       have HB5 := Lib.hid (HBI.out.trans (hb5.mono HBI.out.size))
       have HV5 := Lib.hid (HVI.out A2 c2 W5 hF2)
       clear hb5 hF2 q0 q1 q2 t0 t1 t2 hwl hwf
       go_wp2_with fail
       refine HV5.out.mono ?_
       rintro e W6 ⟨rfl, hb6⟩
       have hp := HP5.out.step hb6
       have HB6 := Lib.hid (HB5.out.trans (hb6.mono HB5.out.size))
       have HB56 := Lib.hid (show Below wi.heap.size wi W6 from HB5W.out.trans (hb6.mono HB5W.out.size))
       have HW6 := Lib.hid (show ∀ g o u, g < wi.heap.size → wi.cell? ⟨g, o, none⟩ = some u → W6.cell? ⟨g, o, none⟩ = some u ∧ g < W6.heap.size from fun g o u hg hc => by
        have h5 := HB56.out
        exact ⟨(h5.cell (p := ⟨g, o, none⟩) hg).trans hc, Nat.lt_of_lt_of_le hg h5.size⟩)
       have t1 : W6.cell? ⟨W2.heap.size, 1, none⟩ = some (.slice Ao no co) := (hp.at_ 1 rfl).cell 1
       have hwl : W2.heap.size < W6.heap.size := (hp.at_ 1 rfl).lt
       clear hb6 hp
       cases b with
       | false =>
        clear t1
        go_wp2_with fail
        go_roundw
        case rel => exact ⟨r + 1, HRL.out, by rw [HR2.out]; rfl, by rw [HTK.out, if_neg (by simp), HKK.out], HB6.out⟩
        case measure => clear hsh; have := HRL.out; have := HR2.out; simp only [intOf]; omega
       | true =>
        obtain ⟨hkn, g, off, rfl, hg, hc⟩ := HAT.out rfl
        obtain ⟨hc6, hg6⟩ := HW6.out g _ _ hg hc
        have hkd : decide ((no : Int) ≤ (kk : Int)) = false := by clear hsh; exact decide_eq_false (by omega)
        have hkd2 : decide (no ≤ kk) = false := by clear hsh; exact decide_eq_false (by omega)
        obtain ⟨k3, hk3⟩ : ∃ z : Int, z = (kk : Int) + 1 := ⟨_, rfl⟩
        have hwk : IntKind.i64.wrap ((kk : Int) + 1) = k3 := by clear hsh; rw [hk3]; exact IntWalk.i64_in _ (by omega)
        have HK3 := Lib.hid hk3
        clear hg hc hk3
        go_wp2_with fail
        go_roundw
        case rel => exact ⟨r + 1, HRL.out, by rw [HR2.out]; rfl, by rw [HTK.out, if_pos (by trivial), List.length_append, ← HKK.out, HK3.out]; rfl, HB6.out⟩
        case measure => clear hsh; have := HRL.out; have := HR2.out; simp only [intOf]; omega
      ·obtain rfl : N = r := by omega
       have hrz : ¬ (N : Int) < (N : Int) := by omega
       have hTF : (tabK q t N).length = no := by rw [HNO.out, HNN.out]; rfl
       rw [hTF]
       have hsh := HSH.out
       clear hlt hr hTF
       go_wp2_with fail
       exact bodyPost_ret (v := .bool true) (by simp [results, Tryz.results10, go_sem]) rfl ⟨rfl, HB1.out.trans (HPI.out.below.mono HB1.out.size)⟩
    ·rcases (show i = 6 ∨ (i : Int) < 6 by omega) with rfl | hi6
     ·clear hgo hw hi
      rcases HZ.out with ⟨-, hz, hno⟩ | ⟨h0, -⟩
      case inr => exact absurd h0 hE
      subst hz
      subst hno
      have hp := HM3.out.step hb
      have t0 : wr.cell? ⟨W2.heap.size, 0, none⟩ = some (.int .i64 0) := (hp.at_ 1 rfl).cell 0
      have t1 : wr.cell? ⟨W2.heap.size, 1, none⟩ = some (.slice Ao 0 co) := (hp.at_ 1 rfl).cell 1
      have t2 : wr.cell? ⟨W2.heap.size, 2, none⟩ = some (.slice none 0 0) := (hp.at_ 1 rfl).cell 2
      have hwl : W2.heap.size < wr.heap.size := (hp.at_ 1 rfl).lt
      have hEb : (wz == 0) = false := by rw [beq_eq_false_iff_ne]; exact hE
      have hEn : (wz != 0) = true := by rw [bne_iff_ne]; exact hE
      have HPP := Lib.hid hp.below
      clear hE hp hb
      go_wp2_with fail
      exact bodyPost_ret (v := .bool true) (by simp [results, Tryz.results10, go_sem]) rfl ⟨rfl, HB1.out.trans (HPP.out.mono HB1.out.size)⟩
     ·clear hgo hw hi
      rcases HZ.out with ⟨-, hz, hno⟩ | ⟨h0, -⟩
      case inr => exact absurd h0 hE
      subst hz
      subst hno
      have hp := HM3.out.step hb
      have t0 : wr.cell? ⟨W2.heap.size, 0, none⟩ = some (.int .i64 0) := (hp.at_ 1 rfl).cell 0
      have t1 : wr.cell? ⟨W2.heap.size, 1, none⟩ = some (.slice Ao 0 co) := (hp.at_ 1 rfl).cell 1
      have t2 : wr.cell? ⟨W2.heap.size, 2, none⟩ = some (.slice none 0 0) := (hp.at_ 1 rfl).cell 2
      have hwl : W2.heap.size < wr.heap.size := (hp.at_ 1 rfl).lt
      have hEb : (wz == 0) = false := by rw [beq_eq_false_iff_ne]; exact hE
      have hEn : (wz != 0) = true := by rw [bne_iff_ne]; exact hE
      have HPP := Lib.hid hp.below
      clear hE hp hb
      go_wp2_with fail
      exact bodyPost_ret (v := .bool true) (by simp [results, Tryz.results10, go_sem]) rfl ⟨rfl, HB1.out.trans (HPP.out.mono HB1.out.size)⟩
end Go.Proofs.YtaegjpancbmppaaGreatDoor
