/- Package pitch: Class and IsMutation. Conditions: the parts are ints. -/
import Derived.Test.YtiokjnfhopdleaaGreatDoorPitch2
import Derived.Test.YtiokjnfhopdleaaGreatDoorMap
namespace Go.Proofs.YtiokjnfhopdleaaGreatDoor
open Go.RowKit

def sUnison : ByteArray := ⟨#[117, 110, 105, 115, 111, 110]⟩
def sQuint : ByteArray := ⟨#[113, 117, 105, 110, 116]⟩
def sTierce : ByteArray := ⟨#[116, 105, 101, 114, 99, 101]⟩
def sSept : ByteArray := ⟨#[115, 101, 112, 116, 105, 101, 109, 101]⟩
def sOther : ByteArray := ⟨#[111, 116, 104, 101, 114]⟩
/-- The name of a class by the odd part of the denominator. -/
def clsName (k : Nat) : ByteArray := if k = 1 then sUnison else if k = 3 then sQuint else if k = 5 then sTierce else if k = 7 then sSept else sOther
/-- The class of feet. -/
def cls (n d : Nat) : ByteArray := if 1 < oddOf n then sOther else clsName (oddOf d)

abbrev mapKeys : KeyKind Int Tryz.prog 3 := intKeys Tryz.underlying3
def clsMap : List (Int × Value) := [(1, .string sUnison), (3, .string sQuint), (5, .string sTierce), (7, .string sSept)]
theorem clsMap_get (k : Nat) : mget clsMap (k : Int) = if k = 1 then some (.string sUnison) else if k = 3 then some (.string sQuint) else if k = 5 then some (.string sTierce) else if k = 7 then some (.string sSept) else none := by
  by_cases h1 : k = 1
  · subst h1; rfl
  · by_cases h3 : k = 3
    · subst h3; rfl
    · by_cases h5 : k = 5
      · subst h5; rfl
      · by_cases h7 : k = 7
        · subst h7; rfl
        · rw [if_neg h1, if_neg h3, if_neg h5, if_neg h7]
          unfold mget clsMap fnd
          rw [if_neg (by show ¬ (k : Int) = 1; omega)]
          unfold fnd
          rw [if_neg (by show ¬ (k : Int) = 3; omega)]
          unfold fnd
          rw [if_neg (by show ¬ (k : Int) = 5; omega)]
          unfold fnd
          rw [if_neg (by show ¬ (k : Int) = 7; omega)]
          rfl

theorem clsMap_two (k : Nat) : ∃ (v : ByteArray) (ok : Bool), (mget clsMap (k : Int)).getD (.string ⟨#[]⟩) = .string v ∧ (mget clsMap (k : Int)).isSome = ok ∧ clsName k = if ok then v else sOther := by
  rw [clsMap_get]
  unfold clsName
  by_cases h1 : k = 1
  · rw [if_pos h1, if_pos h1]; exact ⟨_, _, rfl, rfl, rfl⟩
  · rw [if_neg h1, if_neg h1]
    by_cases h3 : k = 3
    · rw [if_pos h3, if_pos h3]; exact ⟨_, _, rfl, rfl, rfl⟩
    · rw [if_neg h3, if_neg h3]
      by_cases h5 : k = 5
      · rw [if_pos h5, if_pos h5]; exact ⟨_, _, rfl, rfl, rfl⟩
      · rw [if_neg h5, if_neg h5]
        by_cases h7 : k = 7
        · rw [if_pos h7, if_pos h7]; exact ⟨_, _, rfl, rfl, rfl⟩
        · rw [if_neg h7, if_neg h7]; exact ⟨_, _, rfl, rfl, rfl⟩

set_option maxRecDepth 100000 in
set_option maxHeartbeats 1000000 in
theorem class_map (n d : Nat) (w : World) (h : PR n d) (h1 : ¬ 1 < oddOf n) :
    Calls Tryz.prog 21 #[.agg #[.int .i64 n, .int .i64 d]] w fun e w' => e = .returned (.tuple #[.string (clsName (oddOf d)), .int .i64 0]) ∧ Below w.heap.size w w' := by
  have hc := fun W => pcheck_any n d W h.i64.1 h.i64.2
  rw [pErr_ok h] at hc
  have HC := Lib.hid hc
  have hn0 : 0 < n := by have := h.2.1; omega
  have hn1 : n ≤ 4611686018427387904 := by have := h.1.2.2.2.1; omega
  have hd0 : 0 < d := by have := h.1.1; omega
  have hd1 : d ≤ 4611686018427387904 := by have := h.1.2.1; omega
  have ho1 := fun W => odd_any n W hn0 hn1
  have ho2 := fun W => odd_any d W hd0 hd1
  obtain ⟨j, hj⟩ : ∃ j, j = oddOf n := ⟨_, rfl⟩
  obtain ⟨k, hk⟩ : ∃ k, k = oddOf d := ⟨_, rfl⟩
  rw [← hj] at ho1 h1
  rw [← hk] at ho2 ⊢
  have HO1 := Lib.hid ho1
  have HO2 := Lib.hid ho2
  have hmm := @run_makeMap Tryz.prog
  clear hc h ho1 ho2 hj hk
  go_enter Tryz.func21, Tryz.ntmps21
  go_wp2_with fail
  refine (HC.out _).mono ?_
  rintro e w1 ⟨rfl, hb⟩
  obtain ⟨hc1, hf1⟩ := bcell hb
  go_wp2_with fail
  refine (HO1.out _).mono ?_
  rintro e w2 ⟨rfl, rfl⟩
  go_wp2_with fail
  have hz1 : w.heap.size + 1 ≤ w1.heap.size := by have := hb.size; simpa using this
  have hbw : Below w.heap.size w (w1.alloc (.map #[] 0)) := ((bw_new (Below.refl _ w) _).trans (hb.mono (by simp))).alloc (by omega) _
  have cn : w1.cell? ⟨w.heap.size, 1, none⟩ = some (.int .i64 d) := by rw [hc1 _ _ (by simp)]; rw [World.cell?_alloc_new]; rfl
  obtain ⟨w3, hr3, hm3, hg3⟩ := run_store mapKeys Tryz.underlying56 (MapB.new mapKeys w1) 1 (.string sUnison)
  obtain ⟨w4, hr4, hm4, hg4⟩ := run_store mapKeys Tryz.underlying56 hm3 3 (.string sQuint)
  obtain ⟨w5, hr5, hm5, hg5⟩ := run_store mapKeys Tryz.underlying56 hm4 5 (.string sTierce)
  obtain ⟨w6, hr6, hm6, hg6⟩ := run_store mapKeys Tryz.underlying56 hm5 7 (.string sSept)
  have hb3 := hbw.grown hg3 (by simp; omega) (by intro r e; cases e; omega)
  have hs3 := hg3.size
  have hb4 := hb3.grown hg4 (by simp at hs3; omega) (by intro r e; cases e; omega)
  have hs4 := hg4.size
  have hb5 := hb4.grown hg5 (by simp at hs3; omega) (by intro r e; cases e; omega)
  have hs5 := hg5.size
  have hb6 := hb5.grown hg6 (by simp at hs3; omega) (by intro r e; cases e; omega)
  have c6 : w6.cell? ⟨w.heap.size, 1, none⟩ = some (.int .i64 d) := by
    rw [World.cell?_of_block (w := w5) (hg6.block _ (by simp at hs3; show w.heap.size < _; omega) (by simp; omega)), World.cell?_of_block (w := w4) (hg5.block _ (by simp at hs3; show w.heap.size < _; omega) (by simp; omega)), World.cell?_of_block (w := w3) (hg4.block _ (by simp at hs3; show w.heap.size < _; omega) (by simp; omega)), World.cell?_of_block (hg3.block _ (by simp; omega) (by simp; omega)), World.cell?_alloc_lt _ _ _ (by show w.heap.size < _; omega)]
    exact cn
  have hl : ∀ W, MapB mapKeys W w1.heap.size clsMap → (Instr.lookup 56 (.map (some w1.heap.size)) (.int .i64 k) true).run Tryz.prog W = .ok (.tuple #[(mget clsMap (k : Int)).getD (.string ⟨#[]⟩), .bool (mget clsMap (k : Int)).isSome]) W := fun W hW => by
    have := run_look mapKeys Tryz.underlying56 (z := .string ⟨#[]⟩) (fun w => by first | exact Tryz.zeroValue9 w | kernel_rfl) hW (k : Int) true
    exact this
  have hl6 := hl w6 hm6
  have HL := Lib.hid hl6
  have HB6 := Lib.hid hb6
  have hr3' : (Instr.mapUpdate 56 (.map (some w1.heap.size)) (.int .i64 1) (.string ⟨#[117, 110, 105, 115, 111, 110]⟩)).run Tryz.prog (w1.alloc (.map #[] 0)) = .ok () w3 := hr3
  have hr4' : (Instr.mapUpdate 56 (.map (some w1.heap.size)) (.int .i64 3) (.string ⟨#[113, 117, 105, 110, 116]⟩)).run Tryz.prog w3 = .ok () w4 := hr4
  have hr5' : (Instr.mapUpdate 56 (.map (some w1.heap.size)) (.int .i64 5) (.string ⟨#[116, 105, 101, 114, 99, 101]⟩)).run Tryz.prog w4 = .ok () w5 := hr5
  have hr6' : (Instr.mapUpdate 56 (.map (some w1.heap.size)) (.int .i64 7) (.string ⟨#[115, 101, 112, 116, 105, 101, 109, 101]⟩)).run Tryz.prog w5 = .ok () w6 := hr6
  have HR3 := Lib.hid hr3'
  have HR4 := Lib.hid hr4'
  have HR5 := Lib.hid hr5'
  have HR6 := Lib.hid hr6'
  clear hr3 hr4 hr5 hr6 hr3' hr4' hr5' hr6' hm3 hm4 hm5 hm6 hg3 hg4 hg5 hg6 hb3 hb4 hb5 hb6 hs3 hs4 hs5 hl hl6 hbw hb hc1 hf1 cn hmm hz1
  rw [HR3.out]
  simp only [Result.andThen]
  rw [Oper.upon_skip]
  go_wp2_with fail
  rw [HR4.out]
  simp only [Result.andThen]
  rw [Oper.upon_skip]
  go_wp2_with fail
  rw [HR5.out]
  simp only [Result.andThen]
  rw [Oper.upon_skip]
  go_wp2_with fail
  rw [HR6.out]
  simp only [Result.andThen]
  rw [Oper.upon_skip]
  go_wp2_with fail
  refine (HO2.out _).mono ?_
  rintro e w2 ⟨rfl, rfl⟩
  go_wp2_with fail
  rw [HL.out]
  simp only [Result.andThen]
  rw [Oper.upon_value]
  obtain ⟨v, ok, e1, e2, e3⟩ := clsMap_two k
  rw [e1, e2]
  have HE := Lib.hid e3
  clear e1 e2 e3 HL HO2 HO1
  cases ok with
  | true =>
    go_wp2
    go_ret2
    rw [HE.out]
    exact ⟨rfl, HB6.out⟩
  | false =>
    go_wp2
    go_ret2
    rw [HE.out]
    exact ⟨rfl, HB6.out⟩

set_option maxRecDepth 100000 in
set_option maxHeartbeats 1000000 in
theorem class_ok (n d : Nat) (w : World) (h : PR n d) :
    Calls Tryz.prog 21 #[.agg #[.int .i64 n, .int .i64 d]] w fun e w' => e = .returned (.tuple #[.string (cls n d), .int .i64 0]) ∧ Below w.heap.size w w' := by
  by_cases h1 : 1 < oddOf n
  · have hcl : cls n d = sOther := if_pos h1
    have hc := fun W => pcheck_any n d W h.i64.1 h.i64.2
    rw [pErr_ok h] at hc
    have hn0 : 0 < n := by have := h.2.1; omega
    have hn1 : n ≤ 4611686018427387904 := by have := h.1.2.2.2.1; omega
    have ho1 := fun W => odd_any n W hn0 hn1
    obtain ⟨j, hj⟩ : ∃ j, j = oddOf n := ⟨_, rfl⟩
    rw [← hj] at ho1 h1
    have HC := Lib.hid hc
    have HO1 := Lib.hid ho1
    have HCL := Lib.hid hcl
    clear hc ho1 hcl h hj
    go_enter Tryz.func21, Tryz.ntmps21
    go_wp2_with fail
    refine (HC.out _).mono ?_
    rintro e w1 ⟨rfl, hb⟩
    obtain ⟨hc1, hf1⟩ := bcell hb
    go_wp2_with fail
    refine (HO1.out _).mono ?_
    rintro e w2 ⟨rfl, rfl⟩
    go_wp2
    go_ret2
    rw [HCL.out]
    exact ⟨rfl, (bw_new (Below.refl _ w) _).trans (hb.mono (by simp))⟩
  · rw [show cls n d = clsName (oddOf d) from if_neg h1]
    exact class_map n d w h h1

set_option maxRecDepth 100000 in
theorem class_err (a b : Int) (w : World) (ha : I64 a) (hb : I64 b) (he : pErr a b ≠ 0) :
    Calls Tryz.prog 21 #[.agg #[.int .i64 a, .int .i64 b]] w fun e w' => e = .returned (.tuple #[.string ⟨#[]⟩, .int .i64 (pErr a b)]) ∧ Below w.heap.size w w' := by
  have hc := fun W => pcheck_any a b W ha hb
  obtain ⟨x, hx⟩ : ∃ x, x = pErr a b := ⟨_, rfl⟩
  rw [← hx] at hc he ⊢
  have hz : (x == 0) = false := by simpa using he
  have hz2 : (x != 0) = true := by simpa using he
  have HC := Lib.hid hc
  clear hc hx he ha hb
  go_enter Tryz.func21, Tryz.ntmps21
  go_wp2_with fail
  refine (HC.out _).mono ?_
  rintro e w1 ⟨rfl, hb⟩
  go_wp2
  go_ret2
  exact ⟨rfl, (bw_new (Below.refl _ w) _).trans (hb.mono (by simp))⟩

theorem bytes_ne (s : ByteArray) (l : List UInt8) : (s.toList == l) = decide (s = ⟨l.toArray⟩) := by
  rw [ByteArray.toList_eq, Bool.eq_iff_iff]
  simp only [beq_iff_eq, decide_eq_true_eq]
  constructor
  · intro h
    apply ByteArray.ext
    apply Array.toList_inj.1
    simpa using h
  · rintro rfl; simp

end Go.Proofs.YtiokjnfhopdleaaGreatDoor
