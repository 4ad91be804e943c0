/- Part 43 of 47 of the proof of the law: contracts of the functions that it reaches, and plain facts. Conditions: those that each contract names. -/
import Derived.Test.YtendjepcjmfmfaaGreatDoorOrdB37
import Derived.RegionTactic
import Derived.Deep.DeepCutAuto
import Derived.Test.YtendjepcjmfmfaaGreatDoorOrdB39
namespace Go.Proofs.YtendjepcjmfmfaaGreatDoor
open Go.RowKit
def MkP (w : World) (A : List (Nat × TypeId × List Value)) (base : Nat) (C : Nat → Tm) (m0 u v : Bool) (gn g : Nat) (W : World) : Prop :=
 BxP w A base 38 (cirL (fun _ => (0, 0, 0, 0))) (cirL C) u v g W ∧ (m0 = true → Blk W gn 9 ((List.range 6).map fun k => .string (nmS k)))
section
variable {w W W' : World} {A : List (Nat × TypeId × List Value)} {base : Nat} {C : Nat → Tm} {m0 u v : Bool} {gn g : Nat}
theorem MkP.start (h : Hp w A W) : MkP w A W.heap.size C false false false 0 0 W.drew := ⟨(BxP.start h).step (bw_drew (Below.refl _ _)), fun e => by cases e⟩
theorem MkP.step (h : MkP w A base C m0 u v gn g W) (hb : Below W.heap.size W W') : MkP w A base C m0 u v gn g W' := ⟨h.1.step hb, fun e => (h.2 e).below hb (h.2 e).lt⟩
theorem MkP.names' (h : MkP w A base C m0 u v gn g W) (hb : Below W.heap.size W W') {q : Nat} (hn : Blk W' q 9 ((List.range 6).map fun k => .string (nmS k))) : MkP w A base C true u v q g W' := ⟨h.1.step hb, fun _ => hn⟩
theorem MkP.new (h : MkP w A base C m0 u v gn g W) : MkP w A base C m0 true false gn W.heap.size (W.alloc (.cells (cirL (fun _ => (0, 0, 0, 0))).toArray 38)) := ⟨h.1.new, fun e => (h.2 e).alloc _⟩
theorem MkP.store (h : MkP w A base C m0 true false gn g W) (hw : w.heap.size ≤ base) : MkP w A base C m0 true true gn g (W.setRow g (cirL C).toArray) := by
 obtain ⟨h1, h2⟩ := h.1.ge hw
 have hb := h.1.b rfl rfl
 refine ⟨⟨⟨below_setRow h.1.hp.below h1 _, fun p hp => ⟨(setRow_other W g p.1 _ (h2 p hp)).trans (h.1.hp.blk p hp).1, (h.1.hp.blk p hp).2⟩, h.1.hp.apart⟩, by rw [setRow_size]; exact h.1.sz, h.1.lo, h.1.gb, fun _ e => (by cases e), fun _ _ => setRow_heap W g _ _ _ _ hb⟩, fun e => ?_⟩
 have hn := h.2 e
 have hne : gn ≠ g := by
  rintro rfl
  unfold Blk at hn hb
  rw [hn] at hb
  injection hb with hb
  injection hb with _ h3
  exact absurd h3 (by decide)
 exact (setRow_other W g gn _ hne).trans hn
end
def plD (n d : Int) : Int := if n % 8 < 6 then nmD (n % 8).toNat else 1 + d % 6
def plP (n : Int) (X : Nat → Int × Int) (i : Nat) : Int := if n % 8 < 6 then nmP (n % 8).toNat i else (X i).1.tmod 4
def plQ (n : Int) (X : Nat → Int × Int) (i : Nat) : Int := if n % 8 < 6 then nmQ (n % 8).toNat i else (X i).2.tmod 4
theorem tmod4 (a : Int) : -3 ≤ a.tmod 4 ∧ a.tmod 4 ≤ 3 := by
 have h1 := Int.tmod_lt_of_pos a (show (0 : Int) < 4 by decide)
 have h2 := Int.lt_tmod_of_pos a (show (0 : Int) < 4 by decide)
 omega
theorem pl_pln (n d : Int) (X : Nat → Int × Int) : PlnC (plD n d) (plP n X) (plQ n X) := by
 by_cases h : n % 8 < 6
 ·have e1 : plD n d = nmD (n % 8).toNat := if_pos h
  have e2 : plP n X = nmP (n % 8).toNat := funext fun i => if_pos h
  have e3 : plQ n X = nmQ (n % 8).toNat := funext fun i => if_pos h
  rw [e1, e2, e3]
  exact nm_pln _
 ·have e1 : plD n d = 1 + d % 6 := if_neg h
  have e2 : plP n X = fun i => (X i).1.tmod 4 := funext fun i => if_neg h
  have e3 : plQ n X = fun i => (X i).2.tmod 4 := funext fun i => if_neg h
  rw [e1, e2, e3]
  exact ⟨by omega, fun i _ => by have := tmod4 (X i).1; omega, fun i _ => by have := tmod4 (X i).2; omega⟩
set_option maxRecDepth 1000000 in
set_option maxHeartbeats 4000000 in
theorem lMake_named (n d : Int) (X : Nat → Int × Int) (k : Nat) (w : World) (hn : 0 ≤ n ∧ n < 256) (hk : n % 8 = (k : Int)) (hk6 : k < 6) :
  Calls Tryz.prog 14 #[.agg (plC n X d).toArray] w fun e w' => e = .returned (.agg (cirL (cirP (nmD k) (nmP k) (nmQ k))).toArray) ∧ Below w.heap.size w w' := by
 have HNM := Lib.hid (fun W => lnamed_at k hk6 W)
 have hm0 := ((Hp.start w).new 26 (plC n X d)).new 38 (cirL (fun _ => (0, 0, 0, 0)))
 simp only [World.size_alloc, List.nil_append, List.cons_append] at hm0
 have HM0 := Lib.hid hm0
 have x0 : ((w.alloc (.cells (plC n X d).toArray 26)).alloc (.cells #[.int .i64 0, .int .i64 0, .int .i64 0, .int .i64 0, .int .i64 0, .int .i64 0, .int .i64 0, .int .i64 0, .int .i64 0, .int .i64 0, .int .i64 0, .int .i64 0, .int .i64 0, .int .i64 0, .int .i64 0, .int .i64 0, .int .i64 0, .int .i64 0, .int .i64 0, .int .i64 0, .int .i64 0, .int .i64 0, .int .i64 0, .int .i64 0, .int .i64 0, .int .i64 0, .int .i64 0, .int .i64 0, .int .i64 0, .int .i64 0, .int .i64 0, .int .i64 0, .int .i64 0, .int .i64 0, .int .i64 0, .int .i64 0, .int .i64 0, .int .i64 0, .int .i64 0, .int .i64 0, .int .i64 0, .int .i64 0, .int .i64 0, .int .i64 0, .int .i64 0, .int .i64 0, .int .i64 0, .int .i64 0] 38)).cell? ⟨w.heap.size, 0, none⟩ = some (.int .u8 n) := cell_new (hm0.at_ 0 rfl) 0 (pl_zero n X d)
 obtain ⟨c, hc⟩ : ∃ c : Int, c = (k : Int) := ⟨_, rfl⟩
 have hm8 : n.tmod 8 = c := by rw [Int.tmod_eq_emod_of_nonneg hn.1, hk, hc]
 have hw8 : IntKind.u8.wrap c = c := by unfold IntKind.wrap; simp [IntKind.bits, IntKind.signed]; omega
 have hc6 : 0 ≤ c ∧ c < 6 := by omega
 obtain ⟨hc0, hcl⟩ := hc6
 have HCK := Lib.hid hc
 clear hm0 hk hc
 go_enter Tryz.func14, Tryz.ntmps14
 go_upto_region 2 with fail
 have HWB : Hid (w.heap.size ≤ ((w.alloc (.cells (plC n X d).toArray 26)).alloc (.cells (cirL (fun _ => (0, 0, 0, 0))).toArray 38)).heap.size) := Lib.hid HM0.out.below.size
 clear x0
 refine wp_regionJ 13 #[false, false, false, false, false, false, false, false, false, false, false, false, false] (fun l a W => ∃ (m0 m1 m2 m3 m4 m5 m6 m7 m8 m9 m10 m11 m12 : Bool) (gn : Nat) (gq : Nat), l = #[m0, m1, m2, m3, m4, m5, m6, m7, m8, m9, m10, m11, m12] ∧ a = ({ tmps := #[Value.agg (plC n X d).toArray, Value.pointer (some { block := w.heap.size, off := 0 }), Value.pointer (some { block := w.heap.size + 1, off := 0 }), cwX m10 (.pointer (some ⟨gq, 0, none⟩)) (undef), cwX m12 (.bool true) (undef), undef, undef, undef, undef, Value.pointer (some { block := w.heap.size, off := 0 }), Value.int IntKind.u8 n, Value.int IntKind.u8 c, Value.bool true, cwX m7 (.tuple #[.agg (cirL (cirP (nmD k) (nmP k) (nmQ k))).toArray, .bool true]) (undef), cwX m0 (.slice (some ⟨gn, 0, none⟩) 6 6) (undef), cwX m1 (.pointer (some ⟨w.heap.size, 0, none⟩)) (undef), cwX m2 (.int .u8 n) (undef), cwX m3 (.int .u8 c) (undef), cwX m4 (.pointer (some ⟨gn, k, none⟩)) (undef), cwX m5 (.string (nmS k)) (undef), cwX m6 (.tuple #[.agg (cirL (cirP (nmD k) (nmP k) (nmQ k))).toArray, .bool true]) (undef), cwX m8 (.agg (cirL (cirP (nmD k) (nmP k) (nmQ k))).toArray) (undef), cwX m9 (.bool true) (undef), undef, undef, undef, undef, undef, undef, undef, undef, undef, undef, undef, undef, undef, undef, undef, undef, undef, undef, undef, undef, undef, undef, undef, undef, undef, undef, undef, undef, undef], defers := [] } : Act) ∧ ((m11 = true → m10 = true) ∧ (m4 = true → m0 = true)) ∧ MkP w [(w.heap.size, 26, plC n X d), (w.heap.size + 1, 38, cirL (fun _ => (0, 0, 0, 0)))] ((w.alloc (.cells (plC n X d).toArray 26)).alloc (.cells (cirL (fun _ => (0, 0, 0, 0))).toArray 38)).heap.size (cirP (nmD k) (nmP k) (nmQ k)) m0 m10 m11 gn gq W) (by kernel_rfl) (by kernel_rfl) (by kernel_rfl) (by kernel_rfl) ?_ ?_ ?_ ?_
 ·rintro l a W ⟨m0, m1, m2, m3, m4, m5, m6, m7, m8, m9, m10, m11, m12, gn, gq, rfl, _⟩
  rfl
 ·exact ⟨false, false, false, false, false, false, false, false, false, false, false, false, false, 0, 0, rfl, rfl, ⟨fun h => absurd h (by simp), fun h => absurd h (by simp)⟩, (MkP.start HM0.out)⟩
 ·rintro l a W i o ⟨m0, m1, m2, m3, m4, m5, m6, m7, m8, m9, m10, m11, m12, gn, gq, rfl, rfl, hi0, hm⟩ ho hun hall K hK
  have hi : i < 13 := (Array.getElem?_eq_some_iff.1 ho).1
  have HM := Lib.hid hm
  have HI := Lib.hid hi0
  clear hm hi0
  rcases (show i = 0 ∨ i = 1 ∨ i = 2 ∨ i = 3 ∨ i = 4 ∨ i = 5 ∨ i = 6 ∨ i = 7 ∨ i = 8 ∨ i = 9 ∨ i = 10 ∨ i = 11 ∨ i = 12 by omega) with rfl | rfl | rfl | rfl | rfl | rfl | rfl | rfl | rfl | rfl | rfl | rfl | rfl
  ·cases ho
   simp at hun; subst hun
   clear hall hi
   obtain rfl : m4 = false := by
    cases m4
    ·rfl
    ·exact absurd (HI.out.2 rfl) (by simp)
   have hln := lNames_any W
   go_simp
   refine hln.mono ?_
   rintro e W' ⟨rfl, hbn, hb⟩
   clear hln
   exact hK.out _ _ ⟨true, m1, m2, m3, false, m5, m6, m7, m8, m9, m10, m11, m12, W.heap.size, gq, rfl, rfl, by obtain ⟨h0, h1⟩ := HI.out; exact ⟨fun e => by first | rfl | exact h0 e, fun e => by first | rfl | exact h1 e⟩, HM.out.names' hb hbn⟩
  ·cases ho
   simp at hun; subst hun
   clear hall hi
   go_simp
   exact hK.out _ _ ⟨m0, true, m2, m3, m4, m5, m6, m7, m8, m9, m10, m11, m12, gn, gq, rfl, rfl, by obtain ⟨h0, h1⟩ := HI.out; exact ⟨fun e => by first | rfl | exact h0 e, fun e => by first | rfl | exact h1 e⟩, HM.out⟩
  ·cases ho
   cases (getBX hall 1 rfl : m1 = true)
   simp at hun; subst hun
   clear hall hi
   have x0 := cell_new (HM.out.1.hp.at_ 0 rfl) 0 (pl_zero n X d)
   go_simp
   exact hK.out _ _ ⟨m0, true, true, m3, m4, m5, m6, m7, m8, m9, m10, m11, m12, gn, gq, rfl, rfl, by obtain ⟨h0, h1⟩ := HI.out; exact ⟨fun e => by first | rfl | exact h0 e, fun e => by first | rfl | exact h1 e⟩, HM.out⟩
  ·cases ho
   cases (getBX hall 2 rfl : m2 = true)
   simp at hun; subst hun
   clear hall hi
   go_simp
   exact hK.out _ _ ⟨m0, m1, true, true, m4, m5, m6, m7, m8, m9, m10, m11, m12, gn, gq, rfl, rfl, by obtain ⟨h0, h1⟩ := HI.out; exact ⟨fun e => by first | rfl | exact h0 e, fun e => by first | rfl | exact h1 e⟩, HM.out⟩
  ·cases ho
   cases (getBX hall 0 rfl : m0 = true)
   cases (getBX hall 3 rfl : m3 = true)
   simp at hun; subst hun
   clear hall hi
   have hcn := HCK.out
   have htn : c.toNat = k := by omega
   clear hcn
   go_simp
   exact hK.out _ _ ⟨true, m1, m2, true, true, m5, m6, m7, m8, m9, m10, m11, m12, gn, gq, rfl, rfl, by obtain ⟨h0, h1⟩ := HI.out; exact ⟨fun e => by first | rfl | exact h0 e, fun e => by first | rfl | exact h1 e⟩, HM.out⟩
  ·cases ho
   cases (getBX hall 4 rfl : m4 = true)
   simp at hun; subst hun
   clear hall hi
   have hm0t := HI.out.2 rfl
   have q0 : W.cell? ⟨gn, k, none⟩ = some (.string (nmS k)) := by
    rw [(HM.out.2 hm0t).cell]
    simp [hk6]
   clear hm0t
   go_simp
   exact hK.out _ _ ⟨m0, m1, m2, m3, true, true, m6, m7, m8, m9, m10, m11, m12, gn, gq, rfl, rfl, by obtain ⟨h0, h1⟩ := HI.out; exact ⟨fun e => by first | rfl | exact h0 e, fun e => by first | rfl | exact h1 e⟩, HM.out⟩
  ·cases ho
   cases (getBX hall 5 rfl : m5 = true)
   simp at hun; subst hun
   clear hall hi
   go_simp
   refine (HNM.out _).mono ?_
   rintro e W' ⟨rfl, hb⟩
   exact hK.out _ _ ⟨m0, m1, m2, m3, m4, true, true, m7, m8, m9, m10, m11, m12, gn, gq, rfl, rfl, by obtain ⟨h0, h1⟩ := HI.out; exact ⟨fun e => by first | rfl | exact h0 e, fun e => by first | rfl | exact h1 e⟩, HM.out.step hb⟩
  ·cases ho
   cases (getBX hall 6 rfl : m6 = true)
   simp at hun; subst hun
   clear hall hi
   go_simp
   exact hK.out _ _ ⟨m0, m1, m2, m3, m4, m5, true, true, m8, m9, m10, m11, m12, gn, gq, rfl, rfl, by obtain ⟨h0, h1⟩ := HI.out; exact ⟨fun e => by first | rfl | exact h0 e, fun e => by first | rfl | exact h1 e⟩, HM.out⟩
  ·cases ho
   cases (getBX hall 7 rfl : m7 = true)
   simp at hun; subst hun
   clear hall hi
   go_simp
   exact hK.out _ _ ⟨m0, m1, m2, m3, m4, m5, m6, true, true, m9, m10, m11, m12, gn, gq, rfl, rfl, by obtain ⟨h0, h1⟩ := HI.out; exact ⟨fun e => by first | rfl | exact h0 e, fun e => by first | rfl | exact h1 e⟩, HM.out⟩
  ·cases ho
   cases (getBX hall 7 rfl : m7 = true)
   simp at hun; subst hun
   clear hall hi
   go_simp
   exact hK.out _ _ ⟨m0, m1, m2, m3, m4, m5, m6, true, m8, true, m10, m11, m12, gn, gq, rfl, rfl, by obtain ⟨h0, h1⟩ := HI.out; exact ⟨fun e => by first | rfl | exact h0 e, fun e => by first | rfl | exact h1 e⟩, HM.out⟩
  ·cases ho
   simp at hun; subst hun
   clear hall hi
   obtain rfl : m11 = false := by
    cases m11
    ·rfl
    ·exact absurd (HI.out.1 rfl) (by simp)
   have HN := Lib.hid HM.out.new
   go_simp
   exact hK.out _ _ ⟨m0, m1, m2, m3, m4, m5, m6, m7, m8, m9, true, false, m12, gn, W.heap.size, rfl, rfl, by obtain ⟨h0, h1⟩ := HI.out; exact ⟨fun e => by first | rfl | exact h0 e, fun e => by first | rfl | exact h1 e⟩, HN.out⟩
  ·cases ho
   cases (getBX hall 8 rfl : m8 = true)
   cases (getBX hall 10 rfl : m10 = true)
   simp at hun; subst hun
   clear hall hi
   have HN := Lib.hid (HM.out.store HWB.out)
   have hbq := HM.out.1.b rfl rfl
   refine step_store_row rfl 38 _ _ rfl rfl gq (cirL (cirP (nmD k) (nmP k) (nmQ k))).toArray rfl rfl 38 (cirL (fun _ => (0, 0, 0, 0))).toArray hbq (by rw [infoCircle, List.size_toArray, cirL_len]) (by rw [List.size_toArray, List.size_toArray, cirL_len, cirL_len]) (cir_one _) ?_
   exact hK.out _ _ ⟨m0, m1, m2, m3, m4, m5, m6, m7, true, m9, true, true, m12, gn, gq, rfl, rfl, by obtain ⟨h0, h1⟩ := HI.out; exact ⟨fun e => by first | rfl | exact h0 e, fun e => by first | rfl | exact h1 e⟩, HN.out⟩
  ·cases ho
   cases (getBX hall 9 rfl : m9 = true)
   simp at hun; subst hun
   clear hall hi
   go_simp
   exact hK.out _ _ ⟨m0, m1, m2, m3, m4, m5, m6, m7, m8, true, m10, m11, true, gn, gq, rfl, rfl, by obtain ⟨h0, h1⟩ := HI.out; exact ⟨fun e => by first | rfl | exact h0 e, fun e => by first | rfl | exact h1 e⟩, HM.out⟩
 ·rintro l a W ⟨m0, m1, m2, m3, m4, m5, m6, m7, m8, m9, m10, m11, m12, gn, gq, rfl, rfl, _, hm⟩ hall
  cases (hall 0 (by decide) : m0 = true)
  cases (hall 1 (by decide) : m1 = true)
  cases (hall 2 (by decide) : m2 = true)
  cases (hall 3 (by decide) : m3 = true)
  cases (hall 4 (by decide) : m4 = true)
  cases (hall 5 (by decide) : m5 = true)
  cases (hall 6 (by decide) : m6 = true)
  cases (hall 7 (by decide) : m7 = true)
  cases (hall 8 (by decide) : m8 = true)
  cases (hall 9 (by decide) : m9 = true)
  cases (hall 10 (by decide) : m10 = true)
  cases (hall 11 (by decide) : m11 = true)
  cases (hall 12 (by decide) : m12 = true)
  clear hall
  have HQ := Lib.hid (hm.1.done HWB.out)
  simp only [List.nil_append, List.cons_append] at HQ
  have HJ := Lib.hid (HQ.out.row 1 rfl (cirL (cirP (nmD k) (nmP k) (nmQ k))))
  clear hm
  dsimp only [cwX, cond_true]
  go_wp2_with (first | (refine wpList_load_row rfl 38 _ rfl (gq) rfl 38 (cirL (cirP (nmD k) (nmP k) (nmQ k))).toArray (0, 0) _ (HQ.out.at_ 2 rfl) Tryz.underlying38 rfl (by rw [infoCircle, List.size_toArray, cirL_len]) ?_) | (refine wpList_store_rowTo rfl 38 _ _ rfl rfl (w.heap.size + 1) (cirL (cirP (nmD k) (nmP k) (nmQ k))).toArray rfl rfl 38 (cirL (fun _ => (0, 0, 0, 0))).toArray (HQ.out.at_ 1 rfl) (by rw [infoCircle, List.size_toArray, cirL_len]) (by rw [List.size_toArray, List.size_toArray, cirL_len, cirL_len]) (cir_one _) ?_))
  refine bodyPost_ret (v := .agg (cirL (cirP (nmD k) (nmP k) (nmQ k))).toArray) ?_ rfl ⟨rfl, HJ.out.below⟩
  exact results_cell_row rfl _ _ (w.heap.size + 1) 38 _ (0, 0) _ rfl (HJ.out.at_ 1 rfl) Tryz.underlying38 rfl (by rw [infoCircle, List.size_toArray, cirL_len])
  theorem infoPA : (Tryz.prog.info? 24).map (·.size) = some 24 := by kernel_rfl
set_option maxRecDepth 1000000 in
set_option maxHeartbeats 4000000 in
theorem lMake_parts (n d : Int) (X : Nat → Int × Int) (w : World) (hn : 0 ≤ n ∧ n < 256) (hk : ¬ n % 8 < 6) (hd : 0 ≤ d ∧ d < 256) (hX : ∀ i, i < 12 → (-128 ≤ (X i).1 ∧ (X i).1 ≤ 127) ∧ (-128 ≤ (X i).2 ∧ (X i).2 ≤ 127)) :
  Calls Tryz.prog 14 #[.agg (plC n X d).toArray] w fun e w' => e = .returned (.agg (cirL (fun i => (lowN ((X i).1.tmod 4) (1 + d % 6), lowD ((X i).1.tmod 4) (1 + d % 6), lowN ((X i).2.tmod 4) (1 + d % 6), lowD ((X i).2.tmod 4) (1 + d % 6)))).toArray) ∧ Below w.heap.size w w' := by
 have HLP := Lib.hid (fun (a : Int) (ha : -3 ≤ a ∧ a ≤ 3) W => lpart_at a (1 + d % 6) _ _ W ⟨rfl, rfl⟩ (by omega) (by omega))
 obtain ⟨C, hC⟩ : ∃ C, C = (fun i => (lowN ((X i).1.tmod 4) (1 + d % 6), lowD ((X i).1.tmod 4) (1 + d % 6), lowN ((X i).2.tmod 4) (1 + d % 6), lowD ((X i).2.tmod 4) (1 + d % 6))) := ⟨_, rfl⟩
 rw [← hC]
 have HC := Lib.hid hC
 have HI := Lib.hid (fun (i : Nat) (hi : i < 12) W => index_pt X hi W)
 have hm0 := (((Hp.start w).new 26 (plC n X d)).new 38 (cirL (fun _ => (0, 0, 0, 0)))).new 38 (cirL (fun _ => (0, 0, 0, 0)))
 simp only [World.size_alloc, List.nil_append, List.cons_append] at hm0
 have HM0 := Lib.hid hm0
 have x0 : ((w.alloc (.cells (plC n X d).toArray 26)).alloc (.cells #[.int .i64 0, .int .i64 0, .int .i64 0, .int .i64 0, .int .i64 0, .int .i64 0, .int .i64 0, .int .i64 0, .int .i64 0, .int .i64 0, .int .i64 0, .int .i64 0, .int .i64 0, .int .i64 0, .int .i64 0, .int .i64 0, .int .i64 0, .int .i64 0, .int .i64 0, .int .i64 0, .int .i64 0, .int .i64 0, .int .i64 0, .int .i64 0, .int .i64 0, .int .i64 0, .int .i64 0, .int .i64 0, .int .i64 0, .int .i64 0, .int .i64 0, .int .i64 0, .int .i64 0, .int .i64 0, .int .i64 0, .int .i64 0, .int .i64 0, .int .i64 0, .int .i64 0, .int .i64 0, .int .i64 0, .int .i64 0, .int .i64 0, .int .i64 0, .int .i64 0, .int .i64 0, .int .i64 0, .int .i64 0] 38)).cell? ⟨w.heap.size, 0, none⟩ = some (.int .u8 n) := cell_new (((Hp.start w).new 26 (plC n X d)).new 38 (cirL (fun _ => (0, 0, 0, 0))) |>.at_ 0 rfl) 0 (pl_zero n X d)
 have x1 : (((w.alloc (.cells (plC n X d).toArray 26)).alloc (.cells #[.int .i64 0, .int .i64 0, .int .i64 0, .int .i64 0, .int .i64 0, .int .i64 0, .int .i64 0, .int .i64 0, .int .i64 0, .int .i64 0, .int .i64 0, .int .i64 0, .int .i64 0, .int .i64 0, .int .i64 0, .int .i64 0, .int .i64 0, .int .i64 0, .int .i64 0, .int .i64 0, .int .i64 0, .int .i64 0, .int .i64 0, .int .i64 0, .int .i64 0, .int .i64 0, .int .i64 0, .int .i64 0, .int .i64 0, .int .i64 0, .int .i64 0, .int .i64 0, .int .i64 0, .int .i64 0, .int .i64 0, .int .i64 0, .int .i64 0, .int .i64 0, .int .i64 0, .int .i64 0, .int .i64 0, .int .i64 0, .int .i64 0, .int .i64 0, .int .i64 0, .int .i64 0, .int .i64 0, .int .i64 0] 38)).alloc (.cells #[.int .i64 0, .int .i64 0, .int .i64 0, .int .i64 0, .int .i64 0, .int .i64 0, .int .i64 0, .int .i64 0, .int .i64 0, .int .i64 0, .int .i64 0, .int .i64 0, .int .i64 0, .int .i64 0, .int .i64 0, .int .i64 0, .int .i64 0, .int .i64 0, .int .i64 0, .int .i64 0, .int .i64 0, .int .i64 0, .int .i64 0, .int .i64 0, .int .i64 0, .int .i64 0, .int .i64 0, .int .i64 0, .int .i64 0, .int .i64 0, .int .i64 0, .int .i64 0, .int .i64 0, .int .i64 0, .int .i64 0, .int .i64 0, .int .i64 0, .int .i64 0, .int .i64 0, .int .i64 0, .int .i64 0, .int .i64 0, .int .i64 0, .int .i64 0, .int .i64 0, .int .i64 0, .int .i64 0, .int .i64 0] 38)).cell? ⟨w.heap.size, 25, none⟩ = some (.int .u8 d) := cell_new (hm0.at_ 0 rfl) 25 (pl_end n X d)
 obtain ⟨c, hc⟩ : ∃ c : Int, c = n % 8 := ⟨_, rfl⟩
 have hm8 : n.tmod 8 = c := by rw [Int.tmod_eq_emod_of_nonneg hn.1, hc]
 have hw8 : IntKind.u8.wrap c = c := by unfold IntKind.wrap; simp [IntKind.bits, IntKind.signed]; omega
 have hcl : ¬ c < 6 := by omega
 obtain ⟨q, hq⟩ : ∃ q : Int, q = d % 6 := ⟨_, rfl⟩
 have hm6 : d.tmod 6 = q := by rw [Int.tmod_eq_emod_of_nonneg hd.1, hq]
 have hw6 : IntKind.u8.wrap q = q := by unfold IntKind.wrap; simp [IntKind.bits, IntKind.signed]; omega
 have hq6 : 0 ≤ q ∧ q < 6 := by omega
 have hwi : IntKind.i64.wrap q = q := IntWalk.i64_in _ (by omega)
 obtain ⟨e, he⟩ : ∃ e : Int, e = 1 + q := ⟨_, rfl⟩
 have hwe : IntKind.i64.wrap (1 + q) = 1 + q := IntWalk.i64_in _ (by omega)
 have HE := Lib.hid (show e = 1 + d % 6 by rw [he, hq])
 rw [show 1 + d % 6 = e by rw [he, hq]] at HLP
 have HX := Lib.hid hX
 clear hm0 hk hc hq hC hX
 go_enter Tryz.func14, Tryz.ntmps14
 go_wp2_with (refine wpList_load_mid rfl 24 _ rfl w.heap.size 1 rfl (ptL X) _ (pl_mid n X d (HM0.out.at_ 0 rfl)) Tryz.underlying24 rfl (by rw [infoPA, pt_len]) ?_)
 go_loopw [31] (fun v W => ∃ j : Nat, v = .int .i64 (j : Int) ∧ j ≤ 12 ∧ Hp w [(w.heap.size, 26, plC n X d), (w.heap.size + 1, 38, cirL (fun _ => (0, 0, 0, 0))), (w.heap.size + 1 + 1, 38, cirL (fun i => if i < j then C i else (0, 0, 0, 0)))] W) (fun v _ => 12 - (intOf v).toNat)
 case atStart => exact ⟨0, rfl, by omega, HM0.out⟩
 case round =>
  obtain ⟨j, rfl, hj, hm⟩ := hrel
  by_cases hjl : j < 12
  ·have hidx := HI.out j hjl
   have hxj := HX.out j hjl
   obtain ⟨xa, ha⟩ : ∃ a, a = (X j).1 := ⟨_, rfl⟩
   obtain ⟨xb, hb⟩ : ∃ b, b = (X j).2 := ⟨_, rfl⟩
   have hcj : C j = (lowN (xa.tmod 4) e, lowD (xa.tmod 4) e, lowN (xb.tmod 4) e, lowD (xb.tmod 4) e) := by rw [HC.out, HE.out, ha, hb]
   rw [← ha, ← hb] at hidx hxj
   clear ha hb
   obtain ⟨a4, ha4⟩ : ∃ y, y = xa.tmod 4 := ⟨_, rfl⟩
   obtain ⟨b4, hb4⟩ : ∃ y, y = xb.tmod 4 := ⟨_, rfl⟩
   have hpa := fun W => HLP.out a4 (by rw [ha4]; exact tmod4 xa) W
   have hpb := fun W => HLP.out b4 (by rw [hb4]; exact tmod4 xb) W
   rw [← ha4, ← hb4] at hcj
   have hta : xa.tmod 4 = a4 := ha4.symm
   have htb : xb.tmod 4 = b4 := hb4.symm
   have hb44 : -3 ≤ a4 ∧ a4 ≤ 3 ∧ -3 ≤ b4 ∧ b4 ≤ 3 := by
    have := tmod4 xa
    have := tmod4 xb
    omega
   have hwa : IntKind.i64.wrap xa = xa := IntWalk.i64_in _ (by omega)
   have hwb : IntKind.i64.wrap xb = xb := IntWalk.i64_in _ (by omega)
   have hwa4 : IntKind.i64.wrap a4 = a4 := IntWalk.i64_in _ (by omega)
   have hwb4 : IntKind.i64.wrap b4 = b4 := IntWalk.i64_in _ (by omega)
   obtain ⟨l0, hl0⟩ : ∃ y, y = lowN a4 e := ⟨_, rfl⟩
   obtain ⟨l1, hl1⟩ : ∃ y, y = lowD a4 e := ⟨_, rfl⟩
   obtain ⟨l2, hl2⟩ : ∃ y, y = lowN b4 e := ⟨_, rfl⟩
   obtain ⟨l3, hl3⟩ : ∃ y, y = lowD b4 e := ⟨_, rfl⟩
   rw [← hl0, ← hl1] at hpa hcj
   rw [← hl2, ← hl3] at hpb hcj
   have HQ1 := Lib.hid hpa
   have HQ2 := Lib.hid hpb
   have HCJ := Lib.hid hcj
   rw [show 1 + q = e from he.symm]
   have hm1 := hm.new 23 [.int .i8 xa, .int .i8 xb]
   simp only [List.nil_append, List.cons_append] at hm1
   have HM1 := Lib.hid hm1
   clear ha4 hb4 hl0 hl1 hl2 hl3 hpa hpb hcj hm hm1
   go_upto_region 9 with fail
   have hdj : decide ((j : Int) < 12) = true := by simp only [decide_eq_true_eq]; omega
   rw [hdj]
   clear hdj he hwe
   refine wp_regionJ 16 #[false, false, false, false, false, false, false, false, false, false, false, false, false, false, false, false] (fun l a W => ∃ (m0 m1 m2 m3 m4 m5 m6 m7 m8 m9 m10 m11 m12 m13 m14 m15 : Bool), l = #[m0, m1, m2, m3, m4, m5, m6, m7, m8, m9, m10, m11, m12, m13, m14, m15] ∧ a = ({ tmps := #[Value.agg (plC n X d).toArray, Value.pointer (some { block := w.heap.size, off := 0 }), Value.pointer (some { block := w.heap.size + 1, off := 0 }), undef, undef, Value.pointer (some { block := w.heap.size + 1 + 1, off := 0 }), Value.int IntKind.i64 e, Value.int IntKind.i64 (j : Int), Value.pointer (some { block := wr.heap.size, off := 0 }), Value.pointer (some { block := w.heap.size, off := 0 }), Value.int IntKind.u8 n, Value.int IntKind.u8 c, Value.bool false, undef, undef, undef, undef, undef, undef, undef, undef, undef, undef, undef, Value.pointer (some { block := w.heap.size, off := 25 }), Value.int IntKind.u8 d, Value.int IntKind.u8 q, Value.int IntKind.i64 q, Value.int IntKind.i64 e, Value.pointer (some { block := w.heap.size, off := 1 }), Value.agg (ptL X).toArray, Value.int IntKind.i64 (j : Int), Value.bool true, Value.int IntKind.i64 (j : Int), Value.agg #[Value.int IntKind.i8 xa, Value.int IntKind.i8 xb], cwX m0 (.int .i64 (j : Int)) (u35), cwX m1 (.pointer (some ⟨wr.heap.size, 0, none⟩)) (u36), cwX m2 (.int .i8 xa) (u37), cwX m3 (.int .i64 xa) (u38), cwX m4 (.int .i64 a4) (u39), cwX m5 (.int .i64 e) (u40), cwX m6 (.agg #[.int .i64 l0, .int .i64 l1]) (u41), cwX m7 (.pointer (some ⟨wr.heap.size, 1, none⟩)) (u42), cwX m8 (.int .i8 xb) (u43), cwX m9 (.int .i64 xb) (u44), cwX m10 (.int .i64 b4) (u45), cwX m11 (.int .i64 e) (u46), cwX m12 (.agg #[.int .i64 l2, .int .i64 l3]) (u47), cwX m13 (.agg #[.int .i64 l0, .int .i64 l1, .int .i64 l2, .int .i64 l3]) (u48), cwX m14 (.pointer (some ⟨w.heap.size + 1 + 1, j * 4, none⟩)) (u49), u50, undef], defers := [] } : Act) ∧ (True) ∧ Hp w [(w.heap.size, 26, plC n X d), (w.heap.size + 1, 38, cirL (fun _ => (0, 0, 0, 0))), (w.heap.size + 1 + 1, 38, bif m15 then cirL (fun k => if k = j then (l0, l1, l2, l3) else if k < j then C k else (0, 0, 0, 0)) else cirL (fun i => if i < j then C i else (0, 0, 0, 0))), (wr.heap.size, 23, [.int .i8 xa, .int .i8 xb])] W) (by kernel_rfl) (by kernel_rfl) (by kernel_rfl) (by kernel_rfl) ?_ ?_ ?_ ?_
   ·rintro l a W ⟨m0, m1, m2, m3, m4, m5, m6, m7, m8, m9, m10, m11, m12, m13, m14, m15, rfl, _⟩
    rfl
   ·exact ⟨false, false, false, false, false, false, false, false, false, false, false, false, false, false, false, false, rfl, rfl, trivial, HM1.out.drew⟩
   ·rintro l a W i o ⟨m0, m1, m2, m3, m4, m5, m6, m7, m8, m9, m10, m11, m12, m13, m14, m15, rfl, rfl, hi0, hm⟩ ho hun hall K hK
    have hi : i < 16 := (Array.getElem?_eq_some_iff.1 ho).1
    have HM := Lib.hid hm
    have HI := Lib.hid hi0
    clear hm hi0
    rcases (show i = 0 ∨ i = 1 ∨ i = 2 ∨ i = 3 ∨ i = 4 ∨ i = 5 ∨ i = 6 ∨ i = 7 ∨ i = 8 ∨ i = 9 ∨ i = 10 ∨ i = 11 ∨ i = 12 ∨ i = 13 ∨ i = 14 ∨ i = 15 by omega) with rfl | rfl | rfl | rfl | rfl | rfl | rfl | rfl | rfl | rfl | rfl | rfl | rfl | rfl | rfl | rfl
    ·cases ho
     simp at hun; subst hun
     clear hall hi
     go_simp
     exact hK.out _ _ ⟨true, m1, m2, m3, m4, m5, m6, m7, m8, m9, m10, m11, m12, m13, m14, m15, rfl, rfl, trivial, HM.out⟩
    ·cases ho
     simp at hun; subst hun
     clear hall hi
     go_simp
     exact hK.out _ _ ⟨m0, true, m2, m3, m4, m5, m6, m7, m8, m9, m10, m11, m12, m13, m14, m15, rfl, rfl, trivial, HM.out⟩
    ·cases ho
     cases (getBX hall 1 rfl : m1 = true)
     simp at hun; subst hun
     clear hall hi
     have x0 : W.cell? ⟨wr.heap.size, 0, none⟩ = some (.int .i8 xa) := (HM.out.at_ 3 rfl).cell 0
     go_simp
     exact hK.out _ _ ⟨m0, true, true, m3, m4, m5, m6, m7, m8, m9, m10, m11, m12, m13, m14, m15, rfl, rfl, trivial, HM.out⟩
    ·cases ho
     cases (getBX hall 2 rfl : m2 = true)
     simp at hun; subst hun
     clear hall hi
     go_simp
     exact hK.out _ _ ⟨m0, m1, true, true, m4, m5, m6, m7, m8, m9, m10, m11, m12, m13, m14, m15, rfl, rfl, trivial, HM.out⟩
    ·cases ho
     cases (getBX hall 3 rfl : m3 = true)
     simp at hun; subst hun
     clear hall hi
     go_simp
     exact hK.out _ _ ⟨m0, m1, m2, true, true, m5, m6, m7, m8, m9, m10, m11, m12, m13, m14, m15, rfl, rfl, trivial, HM.out⟩
    ·cases ho
     simp at hun; subst hun
     clear hall hi
     go_simp
     exact hK.out _ _ ⟨m0, m1, m2, m3, m4, true, m6, m7, m8, m9, m10, m11, m12, m13, m14, m15, rfl, rfl, trivial, HM.out⟩
    ·cases ho
     cases (getBX hall 4 rfl : m4 = true)
     cases (getBX hall 5 rfl : m5 = true)
     simp at hun; subst hun
     clear hall hi
     go_simp
     refine (HQ1.out _).mono ?_
     rintro e' W' ⟨rfl, hb⟩
     exact hK.out _ _ ⟨m0, m1, m2, m3, true, true, true, m7, m8, m9, m10, m11, m12, m13, m14, m15, rfl, rfl, trivial, HM.out.step hb⟩
    ·cases ho
     simp at hun; subst hun
     clear hall hi
     go_simp
     exact hK.out _ _ ⟨m0, m1, m2, m3, m4, m5, m6, true, m8, m9, m10, m11, m12, m13, m14, m15, rfl, rfl, trivial, HM.out⟩
    ·cases ho
     cases (getBX hall 7 rfl : m7 = true)
     simp at hun; subst hun
     clear hall hi
     have x0 : W.cell? ⟨wr.heap.size, 1, none⟩ = some (.int .i8 xb) := (HM.out.at_ 3 rfl).cell 1
     go_simp
     exact hK.out _ _ ⟨m0, m1, m2, m3, m4, m5, m6, true, true, m9, m10, m11, m12, m13, m14, m15, rfl, rfl, trivial, HM.out⟩
    ·cases ho
     cases (getBX hall 8 rfl : m8 = true)
     simp at hun; subst hun
     clear hall hi
     go_simp
     exact hK.out _ _ ⟨m0, m1, m2, m3, m4, m5, m6, m7, true, true, m10, m11, m12, m13, m14, m15, rfl, rfl, trivial, HM.out⟩
    ·cases ho
     cases (getBX hall 9 rfl : m9 = true)
     simp at hun; subst hun
     clear hall hi
     go_simp
     exact hK.out _ _ ⟨m0, m1, m2, m3, m4, m5, m6, m7, m8, true, true, m11, m12, m13, m14, m15, rfl, rfl, trivial, HM.out⟩
    ·cases ho
     simp at hun; subst hun
     clear hall hi
     go_simp
     exact hK.out _ _ ⟨m0, m1, m2, m3, m4, m5, m6, m7, m8, m9, m10, true, m12, m13, m14, m15, rfl, rfl, trivial, HM.out⟩
    ·cases ho
     cases (getBX hall 10 rfl : m10 = true)
     cases (getBX hall 11 rfl : m11 = true)
     simp at hun; subst hun
     clear hall hi
     go_simp
     refine (HQ2.out _).mono ?_
     rintro e' W' ⟨rfl, hb⟩
     exact hK.out _ _ ⟨m0, m1, m2, m3, m4, m5, m6, m7, m8, m9, true, true, true, m13, m14, m15, rfl, rfl, trivial, HM.out.step hb⟩
    ·cases ho
     cases (getBX hall 6 rfl : m6 = true)
     cases (getBX hall 12 rfl : m12 = true)
     simp at hun; subst hun
     clear hall hi
     go_simp
     exact hK.out _ _ ⟨m0, m1, m2, m3, m4, m5, true, m7, m8, m9, m10, m11, true, true, m14, m15, rfl, rfl, trivial, HM.out⟩
    ·cases ho
     cases (getBX hall 0 rfl : m0 = true)
     simp at hun; subst hun
     clear hall hi
     have hji : (j : Int) < 12 := by omega
     go_simp
     exact hK.out _ _ ⟨true, m1, m2, m3, m4, m5, m6, m7, m8, m9, m10, m11, m12, m13, true, m15, rfl, rfl, trivial, HM.out⟩
    ·cases ho
     cases (getBX hall 13 rfl : m13 = true)
     cases (getBX hall 14 rfl : m14 = true)
     simp at hun; subst hun
     clear hall hi
     obtain ⟨z0, z1, z2, z3⟩ := cir_cells (C := fun i => if i < j then C i else (0, 0, 0, 0)) (HM.out.at_ 2 rfl) hjl
     have f0 := (HM.out.at_ 2 rfl).frozen (j * 4)
     have f1 := (HM.out.at_ 2 rfl).frozen (j * 4 + 1)
     have f2 := (HM.out.at_ 2 rfl).frozen (j * 4 + 2)
     have f3 := (HM.out.at_ 2 rfl).frozen (j * 4 + 3)
     have HN := Lib.hid (HM.out.putT (C := fun i => if i < j then C i else (0, 0, 0, 0)) 2 rfl hjl (l0, l1, l2, l3))
     go_simp
     exact hK.out _ _ ⟨m0, m1, m2, m3, m4, m5, m6, m7, m8, m9, m10, m11, m12, true, true, true, rfl, rfl, trivial, HN.out⟩
   ·rintro l a W ⟨m0, m1, m2, m3, m4, m5, m6, m7, m8, m9, m10, m11, m12, m13, m14, m15, rfl, rfl, _, hm⟩ hall
    cases (hall 0 (by decide) : m0 = true)
    cases (hall 1 (by decide) : m1 = true)
    cases (hall 2 (by decide) : m2 = true)
    cases (hall 3 (by decide) : m3 = true)
    cases (hall 4 (by decide) : m4 = true)
    cases (hall 5 (by decide) : m5 = true)
    cases (hall 6 (by decide) : m6 = true)
    cases (hall 7 (by decide) : m7 = true)
    cases (hall 8 (by decide) : m8 = true)
    cases (hall 9 (by decide) : m9 = true)
    cases (hall 10 (by decide) : m10 = true)
    cases (hall 11 (by decide) : m11 = true)
    cases (hall 12 (by decide) : m12 = true)
    cases (hall 13 (by decide) : m13 = true)
    cases (hall 14 (by decide) : m14 = true)
    cases (hall 15 (by decide) : m15 = true)
    clear hall
    have HRL := Lib.hid ((hm.sub (L' := [(w.heap.size, 26, plC n X d), (w.heap.size + 1, 38, cirL (fun _ => (0, 0, 0, 0))), (w.heap.size + 1 + 1, 38, cirL (fun k => if k = j then (l0, l1, l2, l3) else if k < j then C k else (0, 0, 0, 0)))]) (by simp)).cast (L' := [(w.heap.size, 26, plC n X d), (w.heap.size + 1, 38, cirL (fun _ => (0, 0, 0, 0))), (w.heap.size + 1 + 1, 38, cirL (fun i => if i < j + 1 then C i else (0, 0, 0, 0)))]) (by
     have e9 := cirL_ext (C := fun k => if k = j then (l0, l1, l2, l3) else if k < j then C k else (0, 0, 0, 0)) (C' := fun i => if i < j + 1 then C i else (0, 0, 0, 0)) (fun i _ => by
      by_cases h : i = j
      ·subst h
       simp [HCJ.out]
      ·by_cases h2 : i < j
       ·simp [h, h2, show i < j + 1 by omega]
       ·simp [h, h2, show ¬ i < j + 1 by omega])
     rw [e9]))
    clear hm
    dsimp only [cwX, cond_true]
    go_wp2
    go_roundw
    case rel => exact ⟨j + 1, rfl, by omega, HRL.out⟩
    case measure => simp [intOf]; omega
  ·obtain rfl : j = 12 := by omega
   have hm1 := hm.cast (L' := [(w.heap.size, 26, plC n X d), (w.heap.size + 1, 38, cirL (fun _ => (0, 0, 0, 0))), (w.heap.size + 1 + 1, 38, cirL C)]) (by
    rw [cirL_ext (C := fun i => if i < 12 then C i else (0, 0, 0, 0)) (C' := C) (fun i hi => by simp [hi])])
   have HA := Lib.hid hm1
   have HJ := Lib.hid (hm1.row 1 rfl (cirL C))
   clear hm hm1
   go_wp2_with (first | (refine wpList_load_row rfl 38 _ rfl (w.heap.size + 1 + 1) rfl 38 (cirL C).toArray (0, 0) _ (HA.out.at_ 2 rfl) Tryz.underlying38 rfl (by rw [infoCircle, List.size_toArray, cirL_len]) ?_) | (refine wpList_store_rowTo rfl 38 _ _ rfl rfl (w.heap.size + 1) (cirL C).toArray rfl rfl 38 (cirL (fun _ => (0, 0, 0, 0))).toArray (HA.out.at_ 1 rfl) (by rw [infoCircle, List.size_toArray, cirL_len]) (by rw [List.size_toArray, List.size_toArray, cirL_len, cirL_len]) (cir_one _) ?_))
   refine bodyPost_ret (v := .agg (cirL C).toArray) ?_ rfl ⟨rfl, HJ.out.below⟩
   exact results_cell_row rfl _ _ (w.heap.size + 1) 38 _ (0, 0) _ rfl (HJ.out.at_ 1 rfl) Tryz.underlying38 rfl (by rw [infoCircle, List.size_toArray, cirL_len])
theorem lMake_any (n d : Int) (X : Nat → Int × Int) (w : World) (hn : 0 ≤ n ∧ n < 256) (hd : 0 ≤ d ∧ d < 256) (hX : ∀ i, i < 12 → (-128 ≤ (X i).1 ∧ (X i).1 ≤ 127) ∧ (-128 ≤ (X i).2 ∧ (X i).2 ≤ 127)) :
  Calls Tryz.prog 14 #[.agg (plC n X d).toArray] w fun e w' => e = .returned (.agg (cirL (cirP (plD n d) (plP n X) (plQ n X))).toArray) ∧ Below w.heap.size w w' := by
 by_cases h : n % 8 < 6
 ·have e1 : plD n d = nmD (n % 8).toNat := if_pos h
  have e2 : plP n X = nmP (n % 8).toNat := funext fun i => if_pos h
  have e3 : plQ n X = nmQ (n % 8).toNat := funext fun i => if_pos h
  rw [e1, e2, e3]
  exact lMake_named n d X (n % 8).toNat w hn (by omega) (by omega)
 ·have e1 : plD n d = 1 + d % 6 := if_neg h
  have e2 : plP n X = fun i => (X i).1.tmod 4 := funext fun i => if_neg h
  have e3 : plQ n X = fun i => (X i).2.tmod 4 := funext fun i => if_neg h
  rw [e1, e2, e3]
  exact lMake_parts n d X w hn h hd hX
theorem infoPlan42 : (Tryz.prog.info? 26).map (·.size) = some 26 := by kernel_rfl
theorem tu_one (C : Nat → Tm) (p : Int) : (tuL C p).toArray.all (·.oneCell') = true := by
 refine all_oneCell_toArray fun v hv => ?_
 have hv : v ∈ cirL C ++ [.int .i64 p] := hv
 rw [List.mem_append] at hv
 rcases hv with hv | hv
 ·have h := cir_one C
  rw [Array.all_eq_true'] at h
  exact h v (List.mem_toArray.2 hv)
 ·rw [List.mem_singleton] at hv
  subst hv; rfl
theorem built_tun (C : Nat → Tm) (p : Int) : Tryz.prog.built 41 [(0, .agg (cirL C).toArray), (1, .int .i64 p)] = some (tuL C p).toArray := by kernel_rfl
theorem wpList_bldTun {ops : Array Oper} {rest : List Oper} {o : Oper} {a : Act} {w : World} {Q : Exit → Act → World → Prop} (hg : o.guard = none) (x y : Operand) (ho : o.op = .build 41 #[(0, x), (1, y)]) (C : Nat → Tm) (p : Int)
  (hx : a.eval x = .agg (cirL C).toArray) (hy : a.eval y = .int .i64 p) (h : wpList Tryz.prog ops Q rest (a.put o.dst (.agg (tuL C p).toArray)) w) : wpList Tryz.prog ops Q (o :: rest) a w := by
 have e : ((#[(0, x), (1, y)] : Array (Nat × Operand)).map fun (i, x) => (i, a.eval x)).toList = [(0, .agg (cirL C).toArray), (1, .int .i64 p)] := by
  simp [hx, hy]
 refine wpList_build hg _ _ ho ?_ ?_
 ·rw [e, built_tun]; rfl
 ·rw [e, built_tun]; exact h
set_option maxRecDepth 1000000 in
set_option maxHeartbeats 4000000 in
theorem lTun_gen (n d q : Int) (X : Nat → Int × Int) (C : Nat → Tm) (w : World) (hq : 0 ≤ q ∧ q < 65536)
  (hM : ∀ W, Calls Tryz.prog 14 #[.agg (plC n X d).toArray] W fun e w' => e = .returned (.agg (cirL C).toArray) ∧ Below W.heap.size W w') :
  Calls Tryz.prog 22 #[.agg (plC n X d).toArray, .int .u16 q] w fun e w' => e = .returned (.agg (tuL C (1 + q % 1000)).toArray) ∧ Below w.heap.size w w' := by
 obtain ⟨m, hm⟩ : ∃ m, m = q % 1000 := ⟨_, rfl⟩
 have h1 : q.tmod 1000 = m := by rw [Int.tmod_eq_emod_of_nonneg hq.1, hm]
 have h2 : IntKind.u16.wrap m = m := by unfold IntKind.wrap; simp [IntKind.bits, IntKind.signed]; omega
 have h3 : IntKind.i64.wrap m = m := IntWalk.i64_in _ (by omega)
 obtain ⟨p, hp⟩ : ∃ p, p = 1 + m := ⟨_, rfl⟩
 have h4 : IntKind.i64.wrap (1 + m) = p := by rw [hp]; exact IntWalk.i64_in _ (by omega)
 rw [← hm, ← hp]
 have HM := Lib.hid hM
 have hm0 := ((Hp.start w).new 26 (plC n X d)).new 41 (tuL (fun _ => (0, 0, 0, 0)) 0)
 simp only [World.size_alloc, List.nil_append, List.cons_append] at hm0
 have HM0 := Lib.hid hm0
 clear hm0 hM hm hp hq
 go_enter Tryz.func22, Tryz.ntmps22
 go_wp2_with (refine wpList_load_row rfl 26 _ rfl (w.heap.size) rfl 26 (plC n X d).toArray (0, 0) _ (HM0.out.at_ 0 rfl) Tryz.underlying26 rfl (by rw [infoPlan42, List.size_toArray, pl_len]) ?_)
 refine (HM.out _).mono ?_
 rintro e w1 ⟨rfl, hb1⟩
 have HM1 := Lib.hid (HM0.out.step hb1)
 have HJ := Lib.hid (HM1.out.row 1 rfl (tuL C p))
 clear hb1 HM0
 go_wp2_with (first | (refine wpList_bldTun rfl _ _ rfl C p rfl rfl ?_) | (refine wpList_store_rowTo rfl 41 _ _ rfl rfl (w.heap.size + 1) (tuL C p).toArray rfl rfl 41 (tuL (fun _ => (0, 0, 0, 0)) 0).toArray (HM1.out.at_ 1 rfl) (by rw [infoTun, List.size_toArray, tuL_len]) (by rw [List.size_toArray, List.size_toArray, tuL_len, tuL_len]) (tu_one C p) ?_))
 refine bodyPost_ret (v := .agg (tuL C p).toArray) ?_ rfl ⟨rfl, HJ.out.below⟩
 exact results_cell_row rfl _ _ (w.heap.size + 1) 41 _ (0, 0) _ rfl (HJ.out.at_ 1 rfl) Tryz.underlying41 rfl (by rw [infoTun, List.size_toArray, tuL_len])
theorem lTun_any (n d q : Int) (X : Nat → Int × Int) (w : World) (hn : 0 ≤ n ∧ n < 256) (hd : 0 ≤ d ∧ d < 256) (hX : ∀ i, i < 12 → (-128 ≤ (X i).1 ∧ (X i).1 ≤ 127) ∧ (-128 ≤ (X i).2 ∧ (X i).2 ≤ 127)) (hq : 0 ≤ q ∧ q < 65536) :
  Calls Tryz.prog 22 #[.agg (plC n X d).toArray, .int .u16 q] w fun e w' => e = .returned (.agg (tuL (cirP (plD n d) (plP n X) (plQ n X)) (1 + q % 1000)).toArray) ∧ Below w.heap.size w w' :=
 lTun_gen n d q X _ w hq (fun W => lMake_any n d X W hn hd hX)
theorem rtT_at {x y z D : Int} (lo hi : Int) (hx : -6000 ≤ x ∧ x ≤ 6000) (hy : -6000 ≤ y ∧ y ≤ 6000) (hz : -6000 ≤ z ∧ z ≤ 6000) (hD : 1 ≤ D ∧ D ≤ 240)
  (h : ¬ (lgZ (x + 7 * D) y z < 0 ∨ 0 < lgZ (x - 7 * D) y z)) (h0 : 0 ≤ lo) (h1 : lo ^ D.toNat * qsL x y z ≤ qsR x y z D) (h2 : qsR x y z D < (lo + 1) ^ D.toNat * qsL x y z)
  (h3 : hi = if lo ^ D.toNat * qsL x y z = qsR x y z D then lo else lo + 1) : rtT x y z D = (lo, hi, 0) := by
 obtain ⟨⟨a1, a2⟩, a3, a4⟩ := rtLo_ok hx hy hz hD (fun k => h ((far_iff x y z D).1 k))
 have e := rt_uniq (Int.le_of_lt (pos_left x y z)) (by omega) h0 a3 a4 h1 h2
 unfold rtT
 rw [if_neg h, e, h3]
 unfold rtHi
 rw [e]
theorem rt_seven : rtT 7 0 0 12 = (1498307, 1498308, 0) := rtT_at _ _ (by omega) (by omega) (by omega) (by omega) (by decide) (by decide) (by decide) (by decide) (by decide)
theorem rt_none : rtT 0 0 0 12 = (1000000, 1000000, 0) := rtT_at _ _ (by omega) (by omega) (by omega) (by omega) (by decide) (by decide) (by decide) (by decide) (by decide)
theorem eq_76 : frT (nmD 0) (nmP 0) (nmQ 0) 440 76 = (659255080, 659255520, 0) := by
 unfold frT
 rw [show vB (nmD 0) (nmP 0) (nmQ 0) 69 76 = (7, 0, 0) by decide]
 show (440 * (rtT 7 0 0 12).1, 440 * (rtT 7 0 0 12).2.1, (rtT 7 0 0 12).2.2) = _
 rw [rt_seven]
 decide
theorem eq_69 : frT (nmD 0) (nmP 0) (nmQ 0) 440 69 = (440000000, 440000000, 0) := by
 unfold frT
 rw [show vB (nmD 0) (nmP 0) (nmQ 0) 69 69 = (0, 0, 0) by decide]
 show (440 * (rtT 0 0 0 12).1, 440 * (rtT 0 0 0 12).2.1, (rtT 0 0 0 12).2.2) = _
 rw [rt_none]
 decide
theorem eq_dir : drT (nmD 0) (nmP 0) (nmQ 0) 69 76 7 = -1 := by decide
theorem eq_bts : bbT (nmD 0) (nmP 0) (nmQ 0) 440 69 76 7 = (1488960, 1489840, 0) := by
 unfold bbT
 rw [eq_76, eq_69, eq_dir]
 decide
abbrev eqC : Nat → Tm := cirP (nmD 0) (nmP 0) (nmQ 0)
theorem eq_tuE (p : Int) (hp : 1 ≤ p ∧ p ≤ 1000) (k : Nat) : tuE (cirP (nmD k) (nmP k) (nmQ k)) p = 0 := by
 unfold tuE
 rw [ckE_pl (nm_pln k), if_neg (by simp), if_neg (by omega)]
theorem kn_freq (w : World) (ht : Tab w) : Calls Tryz.prog 23 #[.agg (tuL eqC 440).toArray, .int .i64 76] w fun e w' => e = .returned (.tuple #[.agg #[.int .i64 659255080, .int .i64 659255520], .int .i64 0]) ∧ Below w.heap.size w w' := by
 refine bFrequency_ok eqC 440 76 659255080 659255520 0 w ht (plan_tm (nm_pln 0)) (eq_tuE 440 (by decide) 0) (by decide) (fun W hT => ?_)
 have := bfreq_pl (nm_pln 0) 440 (by decide) (n := 76) (by decide) W hT
 rw [eq_76] at this
 exact this
theorem kn_dir (w : World) (ht : Tab w) : Calls Tryz.prog 26 #[.agg (tuL eqC 440).toArray, .agg #[.int .i64 69, .int .i64 7]] w fun e w' => e = .returned (.tuple #[.int .i64 (-1), .int .i64 0]) ∧ Below w.heap.size w w' := by
 have := bDirection_any eqC 440 69 7 0 (-1) w ht (plan_tm (nm_pln 0)) (by unfold I64; omega) (by unfold I64; omega) (by rw [eq_tuE 440 (by decide) 0]; decide) (fun _ W hT => by
  have := bdir_pl (nm_pln 0) 440 7 (by decide) (l := 69) (n := 76) (by decide) (by decide) W hT
  rw [eq_dir] at this
  exact this)
 exact this
theorem kn_bts (w : World) (ht : Tab w) : Calls Tryz.prog 27 #[.agg (tuL eqC 440).toArray, .agg #[.int .i64 69, .int .i64 7]] w fun e w' => e = .returned (.tuple #[.agg #[.int .i64 1488960, .int .i64 1489840], .int .i64 0]) ∧ Below w.heap.size w w' := by
 have := bBeats_any eqC 440 69 7 0 1488960 1489840 0 w ht (plan_tm (nm_pln 0)) (by unfold I64; omega) (by unfold I64; omega) (by rw [eq_tuE 440 (by decide) 0]; decide)
  (fun _ W g hT hg => bsizes_pl (nm_pln 0) 440 g 1 [(69, 7)] W hT hg (by decide) (fun x hx => by rw [List.mem_singleton] at hx; subst hx; decide))
  (fun _ W hT => by
   have := bbeats_pl (nm_pln 0) 440 7 (by decide) (by decide) (l := 69) (n := 76) (by decide) (by decide) W hT
   rw [eq_bts] at this
   exact this)
 exact this
set_option maxRecDepth 1000000 in
set_option maxHeartbeats 4000000 in
theorem bknown_any (w : World) (ht : Tab w) : Calls Tryz.prog 11 #[] w fun e w' => e = .returned (.bool true) ∧ Below w.heap.size w w' := by
 obtain ⟨C, hC⟩ : ∃ C, C = eqC := ⟨_, rfl⟩
 have hnm := fun W => tNamed_at 0 (by decide) W
 have hfr := fun W hT => kn_freq W hT
 have hdr := fun W hT => kn_dir W hT
 have hbt := fun W hT => kn_bts W hT
 rw [← hC] at hfr hdr hbt
 simp only [← hC] at hnm
 have HNM := Lib.hid hnm
 have HFR := Lib.hid hfr
 have HDR := Lib.hid hdr
 have HBT := Lib.hid hbt
 have HT := Lib.hid ht
 clear ht hnm hfr hdr hbt hC
 go_enter Tryz.func11, Tryz.ntmps11
 go_wp2_with fail
 refine (HNM.out _).mono ?_
 rintro e w1 ⟨rfl, hb1⟩
 have hm1 := ((Hp.start w).step hb1).new 38 (cirL (fun _ => (0, 0, 0, 0)))
 simp only [List.nil_append, List.cons_append] at hm1
 have HM1 := Lib.hid hm1
 have hm2 := (hm1.row 0 rfl (cirL C)).cast (L' := [(w1.heap.size, 38, cirL C)]) rfl
 have HM2 := Lib.hid hm2
 have hm3 := HM2.out.new 41 (tuL (fun _ => (0, 0, 0, 0)) 0)
 have HM3 := Lib.hid (hm3.cast (L' := [(w1.heap.size, 38, cirL C), (w1.heap.size + 1, 41, tuL (fun _ => (0, 0, 0, 0)) 0)]) (by simp))
 have HM4 := Lib.hid ((HM3.out.row 1 rfl (tuL C 440)).cast (L' := [(w1.heap.size, 38, cirL C), (w1.heap.size + 1, 41, tuL C 440)]) rfl)
 clear hb1 hm1 hm2 hm3
 go_wp2_with (first | (refine wpList_bldTun rfl _ _ rfl C 440 rfl rfl ?_) | (refine wpList_store_rowTo rfl 38 _ _ rfl rfl (w1.heap.size) (cirL C).toArray rfl rfl 38 (cirL (fun _ => (0, 0, 0, 0))).toArray (HM1.out.at_ 0 rfl) (by rw [infoCircle, List.size_toArray, cirL_len]) (by rw [List.size_toArray, List.size_toArray, cirL_len, cirL_len]) (cir_one _) ?_) | (refine wpList_load_row rfl 38 _ rfl (w1.heap.size) rfl 38 (cirL C).toArray (0, 0) _ (HM2.out.at_ 0 rfl) Tryz.underlying38 rfl (by rw [infoCircle, List.size_toArray, cirL_len]) ?_) | (refine wpList_store_rowTo rfl 41 _ _ rfl rfl (w1.heap.size + 1) (tuL C 440).toArray rfl rfl 41 (tuL (fun _ => (0, 0, 0, 0)) 0).toArray (HM3.out.at_ 1 rfl) (by rw [infoTun, List.size_toArray, tuL_len]) (by rw [List.size_toArray, List.size_toArray, tuL_len, tuL_len]) (tu_one C 440) ?_) | (refine wpList_load_row rfl 41 _ rfl (w1.heap.size + 1) rfl 41 (tuL C 440).toArray (0, 0) _ (HM4.out.at_ 1 rfl) Tryz.underlying41 rfl (by rw [infoTun, List.size_toArray, tuL_len]) ?_))
 refine (HFR.out _ (HT.out.below HM4.out.below)).mono ?_
 rintro e w2 ⟨rfl, hb2⟩
 have hm5 := (HM4.out.step hb2).new 53 [.int .i64 659255080, .int .i64 659255520]
 simp only [List.nil_append, List.cons_append] at hm5
 have HM5 := Lib.hid hm5
 clear hb2 HM1 HM2 HM3 HM4 hm5
 go_wp2_with (first | (refine wpList_load_row rfl 41 _ rfl (w1.heap.size + 1) rfl 41 (tuL C 440).toArray (0, 0) _ (HM5.out.at_ 1 rfl) Tryz.underlying41 rfl (by rw [infoTun, List.size_toArray, tuL_len]) ?_))
 refine (HBT.out _ (HT.out.below HM5.out.below)).mono ?_
 rintro e w3 ⟨rfl, hb3⟩
 have hm6 := (HM5.out.step hb3).new 53 [.int .i64 1488960, .int .i64 1489840]
 simp only [List.nil_append, List.cons_append] at hm6
 have HM6 := Lib.hid hm6
 clear hb3 HM5 hm6
 go_wp2_with (first | (refine wpList_load_row rfl 41 _ rfl (w1.heap.size + 1) rfl 41 (tuL C 440).toArray (0, 0) _ (HM6.out.at_ 1 rfl) Tryz.underlying41 rfl (by rw [infoTun, List.size_toArray, tuL_len]) ?_))
 refine (HDR.out _ (HT.out.below HM6.out.below)).mono ?_
 rintro e w4 ⟨rfl, hb4⟩
 have hm7 := HM6.out.step hb4
 have HM7 := Lib.hid hm7
 obtain ⟨y0, y1⟩ := two_of (hm7.at_ 2 rfl)
 obtain ⟨y2, y3⟩ := two_of (hm7.at_ 3 rfl)
 clear hb4 HM6 hm7
 go_wp2_with fail
 exact bodyPost_ret (v := .bool true) (by simp [results, Tryz.results11, go_sem]) rfl ⟨rfl, HM7.out.below⟩
def cmT (c e1 e2 u0 u1 v0 v1 : Int) : Int × Int := if c ≠ 0 then (0, c) else if e1 ≠ 0 then (0, e1) else if e2 ≠ 0 then (0, e2) else if v1 < u0 then (1, 0) else if u1 < v0 then (-1, 0) else (0, 0)
end Go.Proofs.YtendjepcjmfmfaaGreatDoor
