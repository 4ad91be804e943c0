/- Part 39 of 47 of the proof of the law: contracts of the functions that it reaches, and plain facts. Conditions: those that each contract names. -/
import Derived.Test.YtendjepcjmfmfaaGreatDoorOrdB37
import Derived.Test.YtendjepcjmfmfaaGreatDoorOrdB32
namespace Go.Proofs.YtendjepcjmfmfaaGreatDoor
open Go.RowKit
def IvsAt (W : World) (g : Nat) (L : List (Int × Int)) : Prop := g < W.heap.size ∧ ∀ i (h : i < L.length), W.cell? ⟨g, i * 2, none⟩ = some (.int .i64 (L[i]).1) ∧ W.cell? ⟨g, i * 2 + 1, none⟩ = some (.int .i64 (L[i]).2)
theorem IvsAt.below {W W' : World} {g : Nat} {L : List (Int × Int)} (h : IvsAt W g L) (hb : Below W.heap.size W W') : IvsAt W' g L := by
 have e : ∀ o, W'.cell? ⟨g, o, none⟩ = W.cell? ⟨g, o, none⟩ := fun o => by
  simp only [World.cell?, hb.block g h.1]
 exact ⟨Nat.lt_of_lt_of_le h.1 hb.size, fun i hi => by rw [e, e]; exact h.2 i hi⟩
def ivxE (x : Int × Int) : Int := if ¬ ptB x.2 then 18 else if 0 ≤ x.1 ∧ x.1 ≤ 127 ∧ x.1 + x.2 ≤ 127 then 0 else 3
def ivsE : List (Int × Int) → Int
 | [] => 0
 | x :: r => if ivxE x ≠ 0 then ivxE x else ivsE r
def BcRel (w : World) (C : Nat → Tm) (p : Int) (L : List (Int × Int)) (i : Value) (W : World) : Prop :=
 ∃ k : Nat, k ≤ L.length ∧ i = .int .i64 (k : Int) ∧ ivsE L = ivsE (L.drop k) ∧ Hp w [(w.heap.size, 41, tuL C p)] W
set_option maxRecDepth 1000000 in
set_option maxHeartbeats 4000000 in
theorem bcheck_any (C : Nat → Tm) (p : Int) (g c : Nat) (L : List (Int × Int)) (w : World) (hC : ∀ i, i < 12 → Tm64 (C i)) (hL : IvsAt w g L) (hl : L.length ≤ 200) (hi : ∀ x ∈ L, I64 x.1 ∧ I64 x.2) :
  Calls Tryz.prog 57 #[.agg (tuL C p).toArray, .slice (some ⟨g, 0, none⟩) L.length c] w fun e w' => e = .returned (.int .i64 (if tuE C p ≠ 0 then tuE C p else ivsE L)) ∧ Below w.heap.size w w' := by
 have HCK := Lib.hid (fun W => bCheck_any C p W hC)
 obtain ⟨n, hn⟩ : ∃ n, n = L.length := ⟨_, rfl⟩
 have hm0 := (Hp.start w).new 41 (tuL C p)
 simp only [World.size_alloc, List.nil_append, List.cons_append] at hm0
 have HM0 := Lib.hid hm0
 have HL := Lib.hid hL
 have HI := Lib.hid hi
 by_cases h0 : tuE C p = 0
 ·rw [if_neg (by simp [h0])]
  rw [h0] at HCK
  have HN := Lib.hid hn
  rw [← hn] at hl ⊢
  obtain ⟨E, hE⟩ : ∃ E, E = ivsE L := ⟨_, rfl⟩
  rw [← hE]
  have HE := Lib.hid hE
  clear hm0 hC hL hi h0 hn hE
  go_enter Tryz.func57, Tryz.ntmps57
  go_wp2_with (refine wpList_load_row rfl 41 _ rfl w.heap.size rfl 41 (tuL C p).toArray (0, 0) _ (HM0.out.at_ 0 rfl) Tryz.underlying41 rfl (by rw [infoTun, List.size_toArray, tuL_len]) ?_)
  refine (HCK.out _).mono ?_
  rintro e w1 ⟨rfl, hb1⟩
  have HM1 := Lib.hid (HM0.out.step hb1)
  clear hb1 HM0
  go_wp2_with fail
  go_loopw [18] (fun i wr => BcRel w C p L i wr) (fun i _ => n - (intOf i).toNat)
  case atStart => exact ⟨0, by omega, rfl, by rw [List.drop_zero], HM1.out⟩
  case round =>
   obtain ⟨k, hk, rfl, hr, hm⟩ := hrel
   have HM := Lib.hid hm
   have HR := Lib.hid hr
   rw [← HN.out] at hk
   clear hm hr HM1
   by_cases hlt : k < n
   ·obtain ⟨x, hx⟩ : ∃ x, x = L[k]'(by rw [← HN.out]; exact hlt) := ⟨_, rfl⟩
    obtain ⟨c0, c1⟩ := (HL.out.below HM.out.below).2 k (by rw [← HN.out]; exact hlt)
    rw [← hx] at c0 c1
    have HX := Lib.hid hx
    clear hx
    obtain ⟨a, b⟩ := x
    dsimp only at c0 c1
    have hlk : (k : Int) < (n : Int) := by omega
    have hst : ivsE (L.drop k) = if ivxE (a, b) ≠ 0 then ivxE (a, b) else ivsE (L.drop (k + 1)) := by
     rw [List.drop_eq_getElem_cons (by rw [← HN.out]; exact hlt), ← HX.out]
     rfl
    have HST := Lib.hid hst
    have hib := HI.out (a, b) (by rw [HX.out]; exact List.getElem_mem _)
    have HIB := Lib.hid hib
    clear hst hib
    have HM2 := Lib.hid (HM.out.new 67 [.int .i64 a, .int .i64 b])
    go_wp2_with fail
    by_cases hb : ptB b
    ·refine (bPart_ok b _ hb).mono ?_
     rintro e wx ⟨rfl, rfl⟩
     obtain ⟨y0, y1⟩ := two_of (HM2.out.at_ 1 rfl)
     have hb12 : 3 ≤ b ∧ b ≤ 12 := by unfold ptB at hb; omega
     have HB := Lib.hid hb
     have HB12 := Lib.hid hb12
     clear hb hb12 c0 c1
     go_wp2_with fail
     refine (bnote_any a _).mono ?_
     rintro e wx ⟨rfl, rfl⟩
     by_cases ha : 0 ≤ a ∧ a ≤ 127
     ·obtain ⟨m, hm⟩ : ∃ m, m = ntB a := ⟨_, rfl⟩
      have hmt : m = true := hm.trans (decide_eq_true ha)
      rw [← hm]
      subst hmt
      have hw : IntKind.i64.wrap (a + b) = a + b := IntWalk.i64_in _ (by have := HB12.out; omega)
      have HA := Lib.hid ha
      clear hm ha
      go_wp2_with fail
      refine (bnote_any (a + b) _).mono ?_
      rintro e wx ⟨rfl, rfl⟩
      by_cases hab : a + b ≤ 127
      ·obtain ⟨m, hm⟩ : ∃ m, m = ntB (a + b) := ⟨_, rfl⟩
       have hmt : m = true := hm.trans (decide_eq_true ⟨by have := HA.out; have := HB12.out; omega, hab⟩)
       rw [← hm]
       subst hmt
       have HO := Lib.hid (show ivxE (a, b) = 0 by unfold ivxE; rw [if_neg (fun h => h HB.out), if_pos ⟨HA.out.1, HA.out.2, hab⟩])
       have HN2 := Lib.hid (show Hp w [(w.heap.size, 41, tuL C p)] (wr.alloc (.cells #[.int .i64 a, .int .i64 b] 67)) from HM2.out.sub (by simp))
       clear hm hab y0 y1 hw HM2
       go_wp2_with fail
       go_roundw
       case rel => exact ⟨k + 1, by rw [← HN.out]; omega, rfl, by rw [HR.out, HST.out, if_neg (fun h => h HO.out)], HN2.out⟩
       case measure => simp only [intOf]; omega
      ·obtain ⟨m, hm⟩ : ∃ m, m = ntB (a + b) := ⟨_, rfl⟩
       have hmt : m = false := hm.trans (decide_eq_false fun h => hab h.2)
       rw [← hm]
       subst hmt
       have HO := Lib.hid (show ivxE (a, b) = 3 by unfold ivxE; rw [if_neg (fun h => h HB.out), if_neg (fun h => hab h.2.2)])
       have HZ := Lib.hid (HE.out.trans (HR.out.trans (HST.out.trans (by rw [HO.out, if_pos (by decide)]))))
       clear hm hab y0 y1 hw
       go_wp2_with fail
       exact bodyPost_ret (v := .int .i64 3) (by simp [results, Tryz.results57, go_sem]) rfl ⟨by rw [HZ.out], HM2.out.below⟩
     ·obtain ⟨m, hm⟩ : ∃ m, m = ntB a := ⟨_, rfl⟩
      have hmt : m = false := hm.trans (decide_eq_false ha)
      rw [← hm]
      subst hmt
      have HO := Lib.hid (show ivxE (a, b) = 3 by unfold ivxE; rw [if_neg (fun h => h HB.out), if_neg (fun h => ha ⟨h.1, h.2.1⟩)])
      have HZ := Lib.hid (HE.out.trans (HR.out.trans (HST.out.trans (by rw [HO.out, if_pos (by decide)]))))
      clear hm ha y0 y1
      go_wp2_with fail
      exact bodyPost_ret (v := .int .i64 3) (by simp [results, Tryz.results57, go_sem]) rfl ⟨by rw [HZ.out], HM2.out.below⟩
    ·refine (bPart_no b _ hb).mono ?_
     rintro e wx ⟨rfl, rfl⟩
     have HO := Lib.hid (show ivxE (a, b) = 18 by unfold ivxE; rw [if_pos hb])
     have HZ := Lib.hid (HE.out.trans (HR.out.trans (HST.out.trans (by rw [HO.out, if_pos (by decide)]))))
     clear hb c0 c1
     go_wp2_with fail
     exact bodyPost_ret (v := .int .i64 18) (by simp [results, Tryz.results57, go_sem]) rfl ⟨by rw [HZ.out], HM2.out.below⟩
   ·obtain rfl : k = n := by omega
    have HZ := Lib.hid (HE.out.trans (HR.out.trans (by rw [HN.out, List.drop_length])))
    clear hlt hk
    go_wp2_with fail
    exact bodyPost_ret (v := .int .i64 0) (by simp [results, Tryz.results57, go_sem]) rfl ⟨by rw [HZ.out]; rfl, HM.out.below⟩
 ·rw [if_pos h0]
  obtain ⟨q, hq⟩ : ∃ q, q = tuE C p := ⟨_, rfl⟩
  rw [← hq] at HCK h0 ⊢
  have hz : (q != 0) = true := by simpa using h0
  clear hm0 hC hL hi h0 hq hn hl HL HI
  go_enter Tryz.func57, Tryz.ntmps57
  go_wp2_with (refine wpList_load_row rfl 41 _ rfl w.heap.size rfl 41 (tuL C p).toArray (0, 0) _ (HM0.out.at_ 0 rfl) Tryz.underlying41 rfl (by rw [infoTun, List.size_toArray, tuL_len]) ?_)
  refine (HCK.out _).mono ?_
  rintro e w1 ⟨rfl, hb1⟩
  have HZ := Lib.hid (HM0.out.step hb1)
  clear hb1 HM0
  go_wp2_with fail
  exact bodyPost_ret (v := .int .i64 q) (by simp [results, Tryz.results57, go_sem]) rfl ⟨rfl, HZ.out.below⟩
def SzRel (w : World) (C : Nat → Tm) (p : Int) (n : Nat) (i : Value) (W : World) : Prop :=
 ∃ k : Nat, k ≤ n ∧ i = .int .i64 (k : Int) ∧ Hp w [(w.heap.size, 41, tuL C p)] W
def SyRel (w : World) (C : Nat → Tm) (p : Int) (g6 g7 : Nat) (a b t : Int) (i : Value) (W : World) : Prop :=
 ∃ k : Nat, k ≤ 3 ∧ i = .int .i64 (k : Int) ∧ Hp w [(w.heap.size, 41, tuL C p), (g6, 67, [.int .i64 a, .int .i64 b]), (g7, 136, [.int .i64 a, .int .i64 t, .int .i64 69, .int .i64 a, .int .i64 69, .int .i64 t])] W
set_option maxRecDepth 1000000 in
set_option maxHeartbeats 8000000 in
theorem bsizes_gen (C : Nat → Tm) (p : Int) (g c : Nat) (L : List (Int × Int)) (w : World) (ht : Tab w) (hL : IvsAt w g L) (hl : L.length ≤ 200) (hi : ∀ x ∈ L, ivxE x = 0)
  (hB : ∀ x y : Int, 0 ≤ x ∧ x ≤ 127 → 0 ≤ y ∧ y ≤ 127 → ∃ s0 s1 s2 s3 s4 s5 : Int, ∀ W, Tab W → Calls Tryz.prog 56 #[.agg (cirL C).toArray, .int .i64 x, .int .i64 y] W fun e w' => e = .returned (.tuple #[szv s0 s1 s2 s3 s4 s5, .int .i64 0]) ∧ Below W.heap.size W w') :
  Calls Tryz.prog 59 #[.agg (tuL C p).toArray, .slice (some ⟨g, 0, none⟩) L.length c] w fun e w' => e = .returned (.int .i64 0) ∧ Below w.heap.size w w' := by
 obtain ⟨n, hn⟩ : ∃ n, n = L.length := ⟨_, rfl⟩
 have hm0 := (Hp.start w).new 41 (tuL C p)
 simp only [World.size_alloc, List.nil_append, List.cons_append] at hm0
 have HM0 := Lib.hid hm0
 have HL := Lib.hid hL
 have HI := Lib.hid hi
 have HN := Lib.hid hn
 have HB := Lib.hid hB
 have HT := Lib.hid ht
 rw [← hn] at hl ⊢
 clear hm0 hL hi hn hB ht
 go_enter Tryz.func59, Tryz.ntmps59
 go_wp2_with fail
 go_loopw [13] (fun i wr => SzRel w C p n i wr) (fun i _ => n - (intOf i).toNat)
 case atStart => exact ⟨0, by omega, rfl, HM0.out⟩
 case round =>
  obtain ⟨k, hk, rfl, hm⟩ := hrel
  have HM := Lib.hid hm
  clear hm HM0
  by_cases hlt : k < n
  ·obtain ⟨x, hx⟩ : ∃ x, x = L[k]'(by rw [← HN.out]; exact hlt) := ⟨_, rfl⟩
   obtain ⟨c0, c1⟩ := (HL.out.below HM.out.below).2 k (by rw [← HN.out]; exact hlt)
   have hie := HI.out x (by rw [hx]; exact List.getElem_mem _)
   rw [← hx] at c0 c1
   clear hx
   obtain ⟨a, b⟩ := x
   dsimp only at c0 c1
   have hab : (0 ≤ a ∧ a ≤ 127) ∧ (3 ≤ b ∧ b ≤ 12) ∧ a + b ≤ 127 := by
    unfold ivxE at hie
    split at hie
    ·exact absurd hie (by decide)
    ·rename_i h1
     have hb : ptB b := Classical.not_not.1 h1
     split at hie
     ·rename_i h2
      dsimp only at h2
      unfold ptB at hb
      omega
     ·exact absurd hie (by decide)
   obtain ⟨t, htt⟩ : ∃ t, t = a + b := ⟨_, rfl⟩
   have hw : IntKind.i64.wrap (a + b) = t := by rw [htt]; exact IntWalk.i64_in _ (by omega)
   have HAT := Lib.hid (show (0 ≤ a ∧ a ≤ 127) ∧ (0 ≤ t ∧ t ≤ 127) by omega)
   have hlk : (k : Int) < (n : Int) := by omega
   obtain ⟨g6, hg6⟩ : ∃ g, g = wr.heap.size := ⟨_, rfl⟩
   have hm6 := HM.out.new 67 [.int .i64 a, .int .i64 b]
   simp only [List.nil_append, List.cons_append] at hm6
   have hm7 := hm6.new 136 [.int .i64 a, .int .i64 t, .int .i64 69, .int .i64 a, .int .i64 69, .int .i64 t]
   simp only [World.size_alloc, List.nil_append, List.cons_append] at hm7
   have HM7 := Lib.hid hm7
   obtain ⟨y0, y1⟩ := two_of (hm6.at_ 1 rfl)
   clear hie hab htt hm6 hm7 hg6
   go_wp2_with fail
   go_loopw [36] (fun i wx => SyRel w C p wr.heap.size (wr.heap.size + 1) a b t i wx) (fun i _ => 3 - (intOf i).toNat)
   case atStart => exact ⟨0, by omega, rfl, HM7.out⟩
   case round =>
    obtain ⟨j, hj, rfl, hm⟩ := hrel
    have HM8 := Lib.hid hm
    clear hm HM7 c0 c1 y0 y1 hw
    by_cases hjt : j < 3
    ·rcases (show j = 0 ∨ j = 1 ∨ j = 2 by omega) with rfl | rfl | rfl
     ·obtain ⟨c0, c1, c2, c3, c4, c5⟩ := six_of (HM8.out.at_ 2 rfl)
      obtain ⟨s0, s1, s2, s3, s4, s5, hbt⟩ := HB.out a t HAT.out.1 HAT.out.2
      have HBT := Lib.hid hbt
      have HM9 := Lib.hid (HM8.out.new 136 [.int .i64 a, .int .i64 t])
      clear hbt
      go_wp2_with (refine wpList_load_pre rfl 38 _ rfl w.heap.size rfl (cirL C).toArray _ (tu_cir (HM9.out.at_ 0 rfl)) Tryz.underlying38 rfl (by rw [infoCircle, List.size_toArray, cirL_len]) ?_)
      refine (HBT.out _ (HT.out.below HM9.out.below)).mono ?_
      rintro e w2 ⟨rfl, hb2⟩
      have HM10 := Lib.hid ((HM9.out.step hb2).alloc (.cells #[.int .i64 s0, .int .i64 s1, .int .i64 s2, .int .i64 s3, .int .i64 s4, .int .i64 s5] 49))
      have HM11 := Lib.hid (HM10.out.sub (List.sublist_append_left _ _))
      clear hb2 HM10 HM9 c0 c1 c2 c3 c4 c5 HM8
      go_wp2_with fail
      go_roundw
      case rel => exact ⟨0 + 1, by omega, rfl, HM11.out⟩
      case measure => simp [intOf]
     ·obtain ⟨c0, c1, c2, c3, c4, c5⟩ := six_of (HM8.out.at_ 2 rfl)
      obtain ⟨s0, s1, s2, s3, s4, s5, hbt⟩ := HB.out 69 a (by decide) HAT.out.1
      have HBT := Lib.hid hbt
      have HM9 := Lib.hid (HM8.out.new 136 [.int .i64 69, .int .i64 a])
      clear hbt
      go_wp2_with (refine wpList_load_pre rfl 38 _ rfl w.heap.size rfl (cirL C).toArray _ (tu_cir (HM9.out.at_ 0 rfl)) Tryz.underlying38 rfl (by rw [infoCircle, List.size_toArray, cirL_len]) ?_)
      refine (HBT.out _ (HT.out.below HM9.out.below)).mono ?_
      rintro e w2 ⟨rfl, hb2⟩
      have HM10 := Lib.hid ((HM9.out.step hb2).alloc (.cells #[.int .i64 s0, .int .i64 s1, .int .i64 s2, .int .i64 s3, .int .i64 s4, .int .i64 s5] 49))
      have HM11 := Lib.hid (HM10.out.sub (List.sublist_append_left _ _))
      clear hb2 HM10 HM9 c0 c1 c2 c3 c4 c5 HM8
      go_wp2_with fail
      go_roundw
      case rel => exact ⟨1 + 1, by omega, rfl, HM11.out⟩
      case measure => simp [intOf]
     ·obtain ⟨c0, c1, c2, c3, c4, c5⟩ := six_of (HM8.out.at_ 2 rfl)
      obtain ⟨s0, s1, s2, s3, s4, s5, hbt⟩ := HB.out 69 t (by decide) HAT.out.2
      have HBT := Lib.hid hbt
      have HM9 := Lib.hid (HM8.out.new 136 [.int .i64 69, .int .i64 t])
      clear hbt
      go_wp2_with (refine wpList_load_pre rfl 38 _ rfl w.heap.size rfl (cirL C).toArray _ (tu_cir (HM9.out.at_ 0 rfl)) Tryz.underlying38 rfl (by rw [infoCircle, List.size_toArray, cirL_len]) ?_)
      refine (HBT.out _ (HT.out.below HM9.out.below)).mono ?_
      rintro e w2 ⟨rfl, hb2⟩
      have HM10 := Lib.hid ((HM9.out.step hb2).alloc (.cells #[.int .i64 s0, .int .i64 s1, .int .i64 s2, .int .i64 s3, .int .i64 s4, .int .i64 s5] 49))
      have HM11 := Lib.hid (HM10.out.sub (List.sublist_append_left _ _))
      clear hb2 HM10 HM9 c0 c1 c2 c3 c4 c5 HM8
      go_wp2_with fail
      go_roundw
      case rel => exact ⟨2 + 1, by omega, rfl, HM11.out⟩
      case measure => simp [intOf]
    ·obtain rfl : j = 3 := by omega
     have HM11 := Lib.hid (show Hp w [(w.heap.size, 41, tuL C p)] _ from HM8.out.sub (by simp))
     clear hjt hj HM8
     go_wp2_with fail
     go_roundw
     case rel => exact ⟨k + 1, by omega, rfl, HM11.out⟩
     case measure => simp only [intOf]; omega
  ·obtain rfl : k = n := by omega
   clear hlt hk
   go_wp2_with fail
   exact bodyPost_ret (v := .int .i64 0) (by simp [results, Tryz.results59, go_sem]) rfl ⟨rfl, HM.out.below⟩
theorem bsizes_pl {d : Int} {P S : Nat → Int} (h : PlnC d P S) (p : Int) (g c : Nat) (L : List (Int × Int)) (w : World) (ht : Tab w) (hL : IvsAt w g L) (hl : L.length ≤ 200) (hi : ∀ x ∈ L, ivxE x = 0) :
  Calls Tryz.prog 59 #[.agg (tuL (cirP d P S) p).toArray, .slice (some ⟨g, 0, none⟩) L.length c] w fun e w' => e = .returned (.int .i64 0) ∧ Below w.heap.size w w' := by
 refine bsizes_gen (cirP d P S) p g c L w ht hL hl hi (fun x y hx hy => ?_)
 obtain ⟨m, rfl⟩ : ∃ m : Nat, x = (m : Int) := ⟨x.toNat, by omega⟩
 obtain ⟨n, rfl⟩ : ∃ m : Nat, y = (m : Int) := ⟨y.toNat, by omega⟩
 exact ⟨_, _, _, _, _, _, fun W hT => tBetween_pl h (m := m) (n := n) (by omega) (by omega) W hT⟩
theorem ivs_one {W : World} {g : Nat} {t : TypeId} {a b : Int} (h : Blk W g t [.int .i64 a, .int .i64 b]) : IvsAt W g [(a, b)] :=
 ⟨h.lt, fun i hi => by
  obtain rfl : i = 0 := by simp at hi; exact hi
  exact ⟨h.cell 0, h.cell 1⟩⟩
theorem ivsE_one (x : Int × Int) : ivsE [x] = ivxE x := by
 show (if ivxE x ≠ 0 then ivxE x else 0) = ivxE x
 split
 ·rfl
 ·rename_i h; exact (Classical.not_not.1 h).symm
set_option maxRecDepth 1000000 in
set_option maxHeartbeats 4000000 in
theorem bDirection_any (C : Nat → Tm) (p a b c dv : Int) (w : World) (ht : Tab w) (hC : ∀ i, i < 12 → Tm64 (C i)) (ha : I64 a) (hb : I64 b) (hc : c = if tuE C p ≠ 0 then tuE C p else ivxE (a, b))
  (hD : c = 0 → ∀ W, Tab W → Calls Tryz.prog 58 #[.agg (tuL C p).toArray, .agg #[.int .i64 a, .int .i64 b]] W fun e w' => e = .returned (.tuple #[.int .i64 dv, .int .i64 0]) ∧ Below W.heap.size W w') :
  Calls Tryz.prog 26 #[.agg (tuL C p).toArray, .agg #[.int .i64 a, .int .i64 b]] w fun e w' => e = .returned (.tuple #[.int .i64 (if c = 0 then dv else 0), .int .i64 c]) ∧ Below w.heap.size w w' := by
 have hck : ∀ (W : World) (g : Nat), IvsAt W g [(a, b)] → Calls Tryz.prog 57 #[.agg (tuL C p).toArray, .slice (some ⟨g, 0, none⟩) 1 1] W fun e w' => e = .returned (.int .i64 c) ∧ Below W.heap.size W w' := fun W g h => by
  have := bcheck_any C p g 1 [(a, b)] W hC h (by simp) (fun x hx => by
   rw [List.mem_singleton] at hx; subst hx; exact ⟨ha, hb⟩)
  rw [ivsE_one, ← hc] at this
  exact this
 have HCK := Lib.hid hck
 have HD := Lib.hid hD
 have HT := Lib.hid ht
 have hm0 := ((Hp.start w).new 41 (tuL C p)).new 67 [.int .i64 a, .int .i64 b]
 simp only [World.size_alloc, List.nil_append, List.cons_append] at hm0
 obtain ⟨y0, y1⟩ := two_of (hm0.at_ 1 rfl)
 have hm1 := hm0.new 67 [.int .i64 a, .int .i64 b]
 simp only [World.size_alloc, List.nil_append, List.cons_append] at hm1
 have HM0 := Lib.hid hm0
 have HM1 := Lib.hid hm1
 clear hm0 hm1 hck hC ha hb hc hD ht
 go_enter Tryz.func26, Tryz.ntmps26
 go_wp2_with (refine wpList_load_row rfl 41 _ rfl w.heap.size rfl 41 (tuL C p).toArray (0, 0) _ (HM0.out.at_ 0 rfl) Tryz.underlying41 rfl (by rw [infoTun, List.size_toArray, tuL_len]) ?_)
 refine (HCK.out _ _ (ivs_one (HM1.out.at_ 2 rfl))).mono ?_
 rintro e w1 ⟨rfl, hb1⟩
 have HM2 := Lib.hid (HM1.out.step hb1)
 clear hb1 HM0 HM1 y0 y1
 by_cases h0 : c = 0
 ·have HDC := Lib.hid (HD.out h0)
  subst h0
  obtain ⟨y0, y1⟩ := two_of (HM2.out.at_ 1 rfl)
  go_wp2_with (refine wpList_load_row rfl 41 _ rfl w.heap.size rfl 41 (tuL C p).toArray (0, 0) _ (HM2.out.at_ 0 rfl) Tryz.underlying41 rfl (by rw [infoTun, List.size_toArray, tuL_len]) ?_)
  refine (HDC.out _ (HT.out.below HM2.out.below)).mono ?_
  rintro e w2 ⟨rfl, hb2⟩
  have HZ := Lib.hid (HM2.out.step hb2)
  clear hb2 HM2 y0 y1
  go_wp2_with fail
  exact bodyPost_ret (v := .tuple #[.int .i64 dv, .int .i64 0]) (by simp [results, Tryz.results26, go_sem]) rfl ⟨rfl, HZ.out.below⟩
 ·have hz : (c != 0) = true := by simpa using h0
  have H0 := Lib.hid h0
  clear h0
  go_wp2_with fail
  exact bodyPost_ret (v := .tuple #[.int .i64 0, .int .i64 c]) (by simp [results, Tryz.results26, go_sem]) rfl ⟨rfl, HM2.out.below⟩
set_option maxRecDepth 1000000 in
set_option maxHeartbeats 4000000 in
theorem bBeats_any (C : Nat → Tm) (p a b c v0 v1 v2 : Int) (w : World) (ht : Tab w) (hC : ∀ i, i < 12 → Tm64 (C i)) (ha : I64 a) (hb : I64 b) (hc : c = if tuE C p ≠ 0 then tuE C p else ivxE (a, b))
  (hS : c = 0 → ∀ (W : World) (g : Nat), Tab W → IvsAt W g [(a, b)] → Calls Tryz.prog 59 #[.agg (tuL C p).toArray, .slice (some ⟨g, 0, none⟩) 1 1] W fun e w' => e = .returned (.int .i64 0) ∧ Below W.heap.size W w')
  (hB : c = 0 → ∀ W, Tab W → Calls Tryz.prog 60 #[.agg (tuL C p).toArray, .agg #[.int .i64 a, .int .i64 b]] W fun e w' => e = .returned (.tuple #[.agg #[.int .i64 v0, .int .i64 v1], .int .i64 v2]) ∧ Below W.heap.size W w') :
  Calls Tryz.prog 27 #[.agg (tuL C p).toArray, .agg #[.int .i64 a, .int .i64 b]] w fun e w' => e = .returned (if c = 0 then .tuple #[.agg #[.int .i64 v0, .int .i64 v1], .int .i64 v2] else .tuple #[.agg #[.int .i64 0, .int .i64 0], .int .i64 c]) ∧ Below w.heap.size w w' := by
 have hck : ∀ (W : World) (g : Nat), IvsAt W g [(a, b)] → Calls Tryz.prog 57 #[.agg (tuL C p).toArray, .slice (some ⟨g, 0, none⟩) 1 1] W fun e w' => e = .returned (.int .i64 c) ∧ Below W.heap.size W w' := fun W g h => by
  have := bcheck_any C p g 1 [(a, b)] W hC h (by simp) (fun x hx => by
   rw [List.mem_singleton] at hx; subst hx; exact ⟨ha, hb⟩)
  rw [ivsE_one, ← hc] at this
  exact this
 have HCK := Lib.hid hck
 have HS := Lib.hid hS
 have HBB := Lib.hid hB
 have HT := Lib.hid ht
 have hm0 := (((Hp.start w).new 41 (tuL C p)).new 67 [.int .i64 a, .int .i64 b]).new 53 [.int .i64 0, .int .i64 0]
 simp only [World.size_alloc, List.nil_append, List.cons_append] at hm0
 obtain ⟨y0, y1⟩ := two_of (hm0.at_ 1 rfl)
 have hm1 := hm0.new 67 [.int .i64 a, .int .i64 b]
 simp only [World.size_alloc, List.nil_append, List.cons_append] at hm1
 have HM0 := Lib.hid hm0
 have HM1 := Lib.hid hm1
 clear hm0 hm1 hck hC ha hb hc hS hB ht
 go_enter Tryz.func27, Tryz.ntmps27
 go_wp2_with (refine wpList_load_row rfl 41 _ rfl w.heap.size rfl 41 (tuL C p).toArray (0, 0) _ (HM0.out.at_ 0 rfl) Tryz.underlying41 rfl (by rw [infoTun, List.size_toArray, tuL_len]) ?_)
 refine (HCK.out _ _ (ivs_one (HM1.out.at_ 3 rfl))).mono ?_
 rintro e w1 ⟨rfl, hb1⟩
 have HM2 := Lib.hid (HM1.out.step hb1)
 clear hb1 HM0 HM1 y0 y1
 by_cases h0 : c = 0
 ·have HSC := Lib.hid (HS.out h0)
  have HBC := Lib.hid (HBB.out h0)
  subst h0
  obtain ⟨y0, y1⟩ := two_of (HM2.out.at_ 1 rfl)
  have HM3 := Lib.hid (HM2.out.new 67 [.int .i64 a, .int .i64 b])
  go_wp2_with (refine wpList_load_row rfl 41 _ rfl w.heap.size rfl 41 (tuL C p).toArray (0, 0) _ (HM2.out.at_ 0 rfl) Tryz.underlying41 rfl (by rw [infoTun, List.size_toArray, tuL_len]) ?_)
  refine (HSC.out _ _ (HT.out.below HM3.out.below) (ivs_one (HM3.out.at_ 4 rfl))).mono ?_
  rintro e w2 ⟨rfl, hb2⟩
  have HM4 := Lib.hid (HM3.out.step hb2)
  clear hb2 HM2 HM3 y0 y1
  obtain ⟨y0, y1⟩ := two_of (HM4.out.at_ 1 rfl)
  go_wp2_with (refine wpList_load_row rfl 41 _ rfl w.heap.size rfl 41 (tuL C p).toArray (0, 0) _ (HM4.out.at_ 0 rfl) Tryz.underlying41 rfl (by rw [infoTun, List.size_toArray, tuL_len]) ?_)
  refine (HBC.out _ (HT.out.below HM4.out.below)).mono ?_
  rintro e w3 ⟨rfl, hb3⟩
  have HM5 := Lib.hid (HM4.out.step hb3)
  clear hb3 HM4 y0 y1
  obtain ⟨y0, y1⟩ := two_of (HM5.out.at_ 2 rfl)
  have f0 := (HM5.out.at_ 2 rfl).frozen 0
  have f1 := (HM5.out.at_ 2 rfl).frozen 1
  have HZ := Lib.hid (HM5.out.put2 2 rfl (.int .i64 v0) (.int .i64 v1))
  clear HM5
  go_wp2_with fail
  exact bodyPost_ret (v := .tuple #[.agg #[.int .i64 v0, .int .i64 v1], .int .i64 v2]) (by simp [results, Tryz.results27, go_sem, y0, y1, f0, f1]) rfl ⟨rfl, HZ.out.below⟩
 ·have hz : (c != 0) = true := by simpa using h0
  clear h0
  obtain ⟨y0, y1⟩ := two_of (HM2.out.at_ 2 rfl)
  have f0 := (HM2.out.at_ 2 rfl).frozen 0
  have f1 := (HM2.out.at_ 2 rfl).frozen 1
  have HZ := Lib.hid (HM2.out.put2 2 rfl (.int .i64 0) (.int .i64 0))
  clear HM2
  go_wp2_with fail
  ·exact absurd ‹c = 0› (by simpa using hz)
  ·exact bodyPost_ret (v := .tuple #[.agg #[.int .i64 0, .int .i64 0], .int .i64 c]) (by simp [results, Tryz.results27, go_sem, y0, y1, f0, f1]) rfl ⟨rfl, HZ.out.below⟩
theorem infoIv42 : (Tryz.prog.info? 67).map (fun i => (i.zero, i.size, i.bytes)) = some (some (.agg #[.int .i64 0, .int .i64 0]), 2, 16) := by kernel_rfl
theorem infoBd42 : (Tryz.prog.info? 53).map (fun i => (i.zero, i.size, i.bytes)) = some (some (.agg #[.int .i64 0, .int .i64 0]), 2, 16) := by kernel_rfl
def prs42 (L : List (Int × Int)) : List Value := L.flatMap fun p => [.int .i64 p.1, .int .i64 p.2]
theorem prs42_app (L M : List (Int × Int)) : prs42 (L ++ M) = prs42 L ++ prs42 M := List.flatMap_append
theorem prs42_get (L : List (Int × Int)) : ∀ i (h : i < L.length), (prs42 L)[i * 2]? = some (.int .i64 L[i].1) ∧ (prs42 L)[i * 2 + 1]? = some (.int .i64 L[i].2) := by
 induction L with
 | nil => intro i h; cases h
 | cons p r ih =>
  intro i h
  have e : prs42 (p :: r) = .int .i64 p.1 :: .int .i64 p.2 :: prs42 r := rfl
  cases i with
  | zero => rw [e]; exact ⟨rfl, rfl⟩
  | succ i =>
   have := ih i (by simpa using h)
   rw [e, show (i + 1) * 2 = i * 2 + 1 + 1 by omega]
   simpa using this
theorem ivs_own {W : World} {base n c g : Nat} {t : TypeId} {L : List (Int × Int)} (h : W.ownsRow base t 2 (.slice (some ⟨g, 0, none⟩) n c) n (prs42 L)) (hn : n = L.length) : IvsAt W g L := by
 refine ⟨(h.lt g rfl).2, fun i hi => ?_⟩
 have h2 := prs42_get L i hi
 exact ⟨(h.cellAt (i * 2) (by omega)).trans h2.1, (h.cellAt (i * 2 + 1) (by omega)).trans h2.2⟩
def ivL (lo s : Int) (k : Nat) : List (Int × Int) := (List.range k).map fun i : Nat => (lo + i, s)
def bdL (v0 v1 : Nat → Int) (k : Nat) : List (Int × Int) := (List.range k).map fun i : Nat => (v0 i, v1 i)
theorem ivL_succ (lo s : Int) (k : Nat) : ivL lo s (k + 1) = ivL lo s k ++ [(lo + k, s)] := by unfold ivL; rw [List.range_succ, List.map_append]; rfl
theorem bdL_succ (v0 v1 : Nat → Int) (k : Nat) : bdL v0 v1 (k + 1) = bdL v0 v1 k ++ [(v0 k, v1 k)] := by unfold bdL; rw [List.range_succ, List.map_append]; rfl
theorem ivL_len (lo s : Int) (k : Nat) : (ivL lo s k).length = k := by simp [ivL]
theorem bdL_len (v0 v1 : Nat → Int) (k : Nat) : (bdL v0 v1 k).length = k := by simp [bdL]
theorem ivL_get (lo s : Int) (k i : Nat) (h : i < (ivL lo s k).length) : (ivL lo s k)[i] = (lo + i, s) := by simp [ivL]
theorem bdL_get (v0 v1 : Nat → Int) (k i : Nat) (h : i < (bdL v0 v1 k).length) : (bdL v0 v1 k)[i] = (v0 i, v1 i) := by simp [bdL]
set_option maxRecDepth 100000 in
theorem bcomp_ok (lo hi : Int) (w : World) (h : 0 ≤ lo ∧ lo ≤ hi ∧ hi ≤ 127) : Calls Tryz.prog 37 #[.agg #[.int .i64 lo, .int .i64 hi]] w fun e w' => e = .returned (.int .i64 0) ∧ Below w.heap.size w w' := by
 obtain ⟨h1, h2, h3⟩ := h
 have g1 : ¬ lo < 0 := by omega
 have g2 : ¬ 127 < hi := by omega
 have g3 : ¬ hi < lo := by omega
 clear h1 h2 h3
 go_enter Tryz.func37, Tryz.ntmps37
 go_wp2
 go_ret
 exact ⟨rfl, bw_new (Below.refl _ w) _⟩
def AbRel (w : World) (C : Nat → Tm) (p lo hi s : Int) (n : Nat) (u v : Value) (W : World) : Prop :=
 ∃ (k : Nat) (z : Int) (A : Option Addr) (c : Nat), k ≤ n ∧ z = lo + k ∧ v = .int .i64 z ∧ u = .slice A k c ∧ W.ownsRow (w.heap.size + 1 + 1) 67 2 (.slice A k c) k (prs42 (ivL lo s k)) ∧
  Hp w [(w.heap.size, 41, tuL C p), (w.heap.size + 1, 80, [.int .i64 lo, .int .i64 hi])] W ∧ w.heap.size + 1 + 1 ≤ W.heap.size
def AcRel (W0 : World) (v0 v1 : Nat → Int) (n : Nat) (u v : Value) (W : World) : Prop :=
 ∃ (k : Nat) (A : Option Addr) (c : Nat), k ≤ n ∧ v = .int .i64 (k : Int) ∧ u = .slice A k c ∧ W.ownsRow W0.heap.size 53 2 (.slice A k c) k (prs42 (bdL v0 v1 k)) ∧ Hp W0 [] W
set_option maxRecDepth 1000000 in
set_option maxHeartbeats 8000000 in
theorem babove_ok (C : Nat → Tm) (p s lo hi : Int) (n : Nat) (v0 v1 : Nat → Int) (w : World) (ht : Tab w) (hC : ∀ i, i < 12 → Tm64 (C i)) (hk : tuE C p = 0) (hs : ptB s) (h0 : 0 ≤ lo) (hn : 0 < n) (hhi : lo + n = hi + 1) (hh : hi + s ≤ 127)
  (hS : ∀ (W : World) (g c : Nat) (L : List (Int × Int)), Tab W → IvsAt W g L → L.length ≤ 200 → (∀ x ∈ L, ivxE x = 0) → Calls Tryz.prog 59 #[.agg (tuL C p).toArray, .slice (some ⟨g, 0, none⟩) L.length c] W fun e w' => e = .returned (.int .i64 0) ∧ Below W.heap.size W w')
  (hB : ∀ k : Nat, k < n → ∀ W, Tab W → Calls Tryz.prog 60 #[.agg (tuL C p).toArray, .agg #[.int .i64 (lo + k), .int .i64 s]] W fun e w' => e = .returned (.tuple #[.agg #[.int .i64 (v0 k), .int .i64 (v1 k)], .int .i64 0]) ∧ Below W.heap.size W w') :
  Calls Tryz.prog 67 #[.agg (tuL C p).toArray, .int .i64 s, .agg #[.int .i64 lo, .int .i64 hi]] w fun e w' => ∃ (A : Option Addr) (c : Nat), e = .returned (.tuple #[.slice A n c, .int .i64 0]) ∧ w'.ownsRow w.heap.size 53 2 (.slice A n c) n (prs42 (bdL v0 v1 n)) ∧ Below w.heap.size w w' := by
 have hs12 : 3 ≤ s ∧ s ≤ 12 := by unfold ptB at hs; omega
 have hck := fun W => bCheck_any C p W hC
 rw [hk] at hck
 have hpt := fun W => bPart_ok s W hs
 obtain ⟨u0, hu0⟩ : ∃ u, u = (ptP s).1 := ⟨_, rfl⟩
 obtain ⟨u1, hu1⟩ : ∃ u, u = (ptP s).2 := ⟨_, rfl⟩
 rw [← hu0, ← hu1] at hpt
 have hcc := fun W => bcomp_ok lo hi W ⟨h0, by omega, by omega⟩
 obtain ⟨hs2, hhs⟩ : ∃ x, x = hi + s := ⟨_, rfl⟩
 have hws : IntKind.i64.wrap (hi + s) = hs2 := by rw [hhs]; exact IntWalk.i64_in _ (by omega)
 have hnt := fun W => bnote_any hs2 W
 rw [show ntB hs2 = true from decide_eq_true (by omega)] at hnt
 have HCK := Lib.hid hck
 have HPT := Lib.hid hpt
 have HCC := Lib.hid hcc
 have HNT := Lib.hid hnt
 have HS := Lib.hid hS
 have HB := Lib.hid hB
 have HT := Lib.hid ht
 have HR := Lib.hid (And.intro h0 (And.intro hn (And.intro hhi (And.intro hh hs12))))
 have HPS := Lib.hid hs
 obtain ⟨i1, hi1, hy0, hy1, hy2⟩ := info_parts infoIv42
 have HI1 := Lib.hid hi1
 have HY0 := Lib.hid hy0
 have HY1 := Lib.hid hy1
 have HY2 := Lib.hid hy2
 obtain ⟨i2, hi2, hz0, hz1, hz2⟩ := info_parts infoBd42
 have HI2 := Lib.hid hi2
 have HZ0 := Lib.hid hz0
 have HZ1 := Lib.hid hz1
 have HZ2 := Lib.hid hz2
 have hm0 := ((Hp.start w).new 41 (tuL C p)).new 80 [.int .i64 lo, .int .i64 hi]
 simp only [World.size_alloc, List.nil_append, List.cons_append] at hm0
 have HM0 := Lib.hid hm0
 obtain ⟨y0, y1⟩ := two_of (hm0.at_ 1 rfl)
 clear hm0 hck hpt hcc hnt hS hB ht h0 hn hhi hh hs12 hs hC hk hu0 hu1 hhs hi1 hy0 hy1 hy2 hi2 hz0 hz1 hz2
 go_enter Tryz.func67, Tryz.ntmps67
 go_wp2_with (refine wpList_load_row rfl 41 _ rfl w.heap.size rfl 41 (tuL C p).toArray (0, 0) _ (HM0.out.at_ 0 rfl) Tryz.underlying41 rfl (by rw [infoTun, List.size_toArray, tuL_len]) ?_)
 refine (HCK.out _).mono ?_
 rintro e w1 ⟨rfl, hb1⟩
 have HM1 := Lib.hid (HM0.out.step hb1)
 clear hb1 HM0 y0 y1
 go_wp2_with fail
 refine (HPT.out _).mono ?_
 rintro e wx ⟨rfl, rfl⟩
 obtain ⟨y0, y1⟩ := two_of (HM1.out.at_ 1 rfl)
 go_wp2_with fail
 refine (HCC.out _).mono ?_
 rintro e w2 ⟨rfl, hb2⟩
 have HM2 := Lib.hid (HM1.out.step hb2)
 clear hb2 HM1 y0 y1
 obtain ⟨y0, y1⟩ := two_of (HM2.out.at_ 1 rfl)
 go_wp2_with fail
 refine (HNT.out _).mono ?_
 rintro e wy ⟨rfl, rfl⟩
 have HSZ := Lib.hid (show w.heap.size + 1 + 1 ≤ w2.heap.size by have := (HM2.out.at_ 1 rfl).lt; omega)
 go_wp2_with fail
 go_loopw [13, 14] (fun u v wr => AbRel w C p lo hi s n u v wr) (fun _ v _ => (hi + 1 - intOf v).toNat)
 case atStart => exact ⟨0, lo, none, 0, by omega, by omega, rfl, rfl, World.ownsRow_nil _ _ _ _, HM2.out, HSZ.out⟩
 case round =>
  obtain ⟨k, z, A, c, hk, hz, rfl, rfl, hown, hm, hsz⟩ := hrel
  have HM := Lib.hid hm
  have HO := Lib.hid hown
  have HZZ := Lib.hid hz
  have hcp := own_cap hown
  clear hm hown HM2 y0 y1 HSZ
  obtain ⟨y0, y1⟩ := two_of (HM.out.at_ 1 rfl)
  by_cases hlt : k < n
  ·have hzl : z ≤ hi := by have := HR.out; omega
   have HLT := Lib.hid (And.intro hlt hsz)
   obtain ⟨z2, hz2⟩ : ∃ z2, z2 = z + 1 := ⟨_, rfl⟩
   have hwz : IntKind.i64.wrap (z + 1) = z2 := by rw [hz2]; exact IntWalk.i64_in _ (by have := HR.out; omega)
   have HZ3 := Lib.hid hz2
   have hkn : k ≤ 127 := by have := HR.out; omega
   clear hz hk hlt hz2
   go_wp2_with (at_builtin; refine wpList_append_own _ rfl _ _ 170 rfl (w.heap.size + 1 + 1) 67 i1 (.agg #[.int .i64 0, .int .i64 0]) 2 16 Tryz.underlying170 HI1.out HY0.out HY1.out HY2.out rfl (by decide) _ _ _ rfl (own_bl HO.out (bw_new (Below.refl _ _) _)) ⟨wr.heap.size, 0, none⟩ 1 1 [.int .i64 z, .int .i64 s] rfl rfl (World.news_of_block (cs := #[.int .i64 z, .int .i64 s]) (t := 67) (fr := (0, 0)) (heap_alloc_new wr _)) (by simp [Value.oneCell']) (by unfold maxLen; omega) (by omega) (by simp; omega) ?_)
   intro v' w4 hown hgrow _
   obtain ⟨g, c2, hv, hc2⟩ := own_form hown (by omega)
   subst hv
   have hm4 : Hp w [(w.heap.size, 41, tuL C p), (w.heap.size + 1, 80, [.int .i64 lo, .int .i64 hi])] w4 := (HM.out.alloc _).grw hgrow (fun q hq => by
    have := (HO.out.lt _ hq).1
    refine ⟨by omega, fun p hp => ?_⟩
    simp only [List.mem_cons, List.not_mem_nil, or_false] at hp
    rcases hp with rfl | rfl
    ·show w.heap.size ≠ q; omega
    ·show w.heap.size + 1 ≠ q; omega)
   have HM4 := Lib.hid hm4
   have hs4 := hgrow.size
   rw [World.size_alloc] at hs4
   have HO4 := Lib.hid hown
   have HS4 := Lib.hid hs4
   clear hown hgrow hm4 hs4 y0 y1
   go_wp2_with fail
   go_roundw
   case rel =>
    refine ⟨k + 1, z2, _, _, by have := HLT.out.1; omega, by rw [HZ3.out, HZZ.out]; omega, rfl, rfl, ?_, HM4.out, by have := HS4.out; omega⟩
    rw [ivL_succ, prs42_app, ← HZZ.out]
    exact HO4.out
   case measure => have := HZ3.out; simp [intOf]; omega
  ·obtain rfl : k = n := by omega
   have hzl : ¬ z ≤ hi := by have := HR.out; omega
   have hLen := ivL_len lo s k
   obtain ⟨g, c2, hv, hc2⟩ := own_form HO.out HR.out.2.1
   injection hv with e1 e2 e3
   subst e1 e3
   have hiv := ivs_own HO.out hLen.symm
   have HIV := Lib.hid hiv
   have hss := HS.out wr g c (ivL lo s k) (HT.out.below HM.out.below) hiv (by rw [hLen]; have := HR.out; omega) (fun x hx => by
    unfold ivL at hx
    obtain ⟨i, hi', rfl⟩ := List.mem_map.1 hx
    rw [List.mem_range] at hi'
    have := HR.out
    unfold ivxE
    rw [if_neg (fun h => h HPS.out), if_pos ⟨by dsimp only; omega, by dsimp only; omega, by dsimp only; omega⟩])
   rw [hLen] at hss
   have HSS := Lib.hid hss
   clear hss hiv hlt hk hz hLen hc2 e2
   go_wp2_with (first | (refine wpList_load_row rfl 41 _ rfl w.heap.size rfl 41 (tuL C p).toArray (0, 0) _ (HM.out.at_ 0 rfl) Tryz.underlying41 rfl (by rw [infoTun, List.size_toArray, tuL_len]) ?_))
   refine HSS.out.mono ?_
   rintro e W0 ⟨rfl, hb4⟩
   have HM4 := Lib.hid (HM.out.step hb4)
   have HIV4 := Lib.hid (HIV.out.below hb4)
   have HTU := Lib.hid (fun (W : World) (hb : Below W0.heap.size W0 W) => (HM4.out.at_ 0 rfl).below hb (HM4.out.at_ 0 rfl).lt)
   clear hb4 HM HIV HO y0 y1 hcp hsz HSS
   go_wp2_with fail
   go_loopw [16, 68] (fun u v wx => AcRel W0 v0 v1 k u v wx) (fun _ v _ => k - (intOf v).toNat)
   case atStart => exact ⟨0, none, 0, by omega, rfl, rfl, World.ownsRow_nil _ _ _ _, Hp.start W0⟩
   case round =>
    obtain ⟨j, A2, c2, hj, rfl, rfl, hown, hm⟩ := hrel
    have HM := Lib.hid hm
    have HO := Lib.hid hown
    have hcp := own_cap hown
    clear hm hown
    by_cases hjt : j < k
    ·obtain ⟨c0, c1⟩ := (HIV4.out.below HM.out.below).2 j (by rw [ivL_len]; exact hjt)
     rw [ivL_get] at c0 c1
     dsimp only at c0 c1
     obtain ⟨z3, hz3⟩ : ∃ z3 : Int, z3 = lo + (j : Int) := ⟨_, rfl⟩
     have hbt := HB.out j hjt
     rw [← hz3] at c0 hbt
     obtain ⟨b0, hb0⟩ : ∃ b, b = v0 j := ⟨_, rfl⟩
     obtain ⟨b1, hb1⟩ : ∃ b, b = v1 j := ⟨_, rfl⟩
     rw [← hb0, ← hb1] at hbt
     have HBT := Lib.hid hbt
     have HBV := Lib.hid (And.intro hb0 hb1)
     have hjk : (j : Int) < (k : Int) := by omega
     have HJ := Lib.hid hjt
     have hjn : j ≤ 127 := by have := HR.out; omega
     have hm5 := HM.out.new 67 [.int .i64 z3, .int .i64 s]
     simp only [List.nil_append] at hm5
     have HM5 := Lib.hid hm5
     have HO5 := Lib.hid (own_bl HO.out (bw_new (Below.refl _ _) (.cells #[.int .i64 z3, .int .i64 s] 67)))
     obtain ⟨y0, y1⟩ := two_of (hm5.at_ 0 rfl)
     clear hbt hb0 hb1 hz3 hm5 hjt hj
     go_wp2_with (first | (refine wpList_load_row rfl 41 _ rfl w.heap.size rfl 41 (tuL C p).toArray (0, 0) _ (HTU.out _ HM5.out.below) Tryz.underlying41 rfl (by rw [infoTun, List.size_toArray, tuL_len]) ?_))
     refine (HBT.out _ ((HT.out.below HM4.out.below).below HM5.out.below)).mono ?_
     rintro e w5 ⟨rfl, hb5⟩
     have hm6 := (HM5.out.step hb5).new 53 [.int .i64 b0, .int .i64 b1]
     simp only [List.nil_append, List.cons_append] at hm6
     have HM6 := Lib.hid hm6
     have HO6 := Lib.hid (own_bl (own_bl HO5.out hb5) (bw_new (Below.refl _ _) (.cells #[.int .i64 b0, .int .i64 b1] 53)))
     obtain ⟨y2, y3⟩ := two_of (hm6.at_ 1 rfl)
     clear hb5 hm6 HM5 HO5 y0 y1 c0 c1
     go_wp2_with (at_builtin; refine wpList_append_own _ rfl _ _ 91 rfl W0.heap.size 53 i2 (.agg #[.int .i64 0, .int .i64 0]) 2 16 Tryz.underlying91 HI2.out HZ0.out HZ1.out HZ2.out rfl (by decide) _ _ _ rfl (own_bl HO6.out (bw_new (Below.refl _ _) _)) ⟨w5.heap.size + 1, 0, none⟩ 1 1 [.int .i64 b0, .int .i64 b1] rfl rfl ?cells (by simp [Value.oneCell']) (by unfold maxLen; omega) (by omega) (by simp; have := HM6.out.below.size; simp at this; omega) ?_)
     case cells =>
      have hcn := heap_alloc_new (w5.alloc (.cells #[.int .i64 b0, .int .i64 b1] 53)) (.cells #[.int .i64 b0, .int .i64 b1] 53)
      rw [World.size_alloc] at hcn
      exact World.news_of_block (cs := #[.int .i64 b0, .int .i64 b1]) (t := 53) (fr := (0, 0)) hcn
     intro v' w6 hown hgrow _
     obtain ⟨g3, c3, hv, hc3⟩ := own_form hown (by omega)
     subst hv
     have hm7 : Hp W0 [] w6 := ((HM6.out.alloc _).sub (List.nil_sublist _)).grw hgrow (fun q hq => ⟨(HO6.out.lt _ hq).1, fun p hp => absurd hp List.not_mem_nil⟩)
     have HM7 := Lib.hid hm7
     have HO7 := Lib.hid hown
     clear hown hgrow hm7 y2 y3
     go_wp2_with fail
     go_roundw
     case rel =>
      refine ⟨j + 1, _, _, by have := HJ.out; omega, rfl, rfl, ?_, HM7.out⟩
      rw [bdL_succ, prs42_app, ← HBV.out.1, ← HBV.out.2]
      exact HO7.out
     case measure => have := HJ.out; simp only [intOf]; omega
    ·obtain rfl : j = k := by omega
     have HZ := Lib.hid (HM4.out.step HM.out.below)
     clear hjt hj
     go_wp2_with fail
     exact bodyPost_ret (v := .tuple #[.slice A2 j c2, .int .i64 0]) (by simp [results, Tryz.results67, go_sem]) rfl ⟨A2, c2, rfl, own_lw HO.out HM4.out.below.size, HZ.out.below⟩
end Go.Proofs.YtendjepcjmfmfaaGreatDoor
