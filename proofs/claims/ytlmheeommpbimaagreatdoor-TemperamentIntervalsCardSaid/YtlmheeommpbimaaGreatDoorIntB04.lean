/- Part 4 of 46 of the proof of the law: contracts of the functions that it reaches, and plain facts. Conditions: those that each contract names. -/
import Derived.Test.YtlmheeommpbimaaGreatDoorIntB01
import Derived.Test.YtlmheeommpbimaaGreatDoorIntB02
import Derived.Test.YtlmheeommpbimaaGreatDoorRows
import Derived.Lib.ItoaMem
import Derived.Lib.Walk
import Derived.BigCall
import Derived.BigGuard
import Derived.WalkSmall
import Derived.Test.YtlmheeommpbimaaGreatDoorIntB03
import Derived.Lib.Strings
import Derived.Lib.Bytealg
import Derived.Laws.Strings
namespace Go.Proofs.YtlmheeommpbimaaGreatDoor
open Go.RowKit Go.Sort
def dec (n : Int) : ByteArray := ⟨(Lib.itoa n).toArray⟩
def Tab (w : World) : Prop := Lib.TabIs Tryz.prog w "internal/strconv.uint64pow10" .u64 Lib.pow10Tab
theorem Tab.below {w w' : World} (h : Tab w) (hb : Below w.heap.size w w') : Tab w' := by
 unfold Tab Lib.TabIs World.var? at *
 cases hg : Tryz.prog.globalNamed "internal/strconv.uint64pow10" with
 | none => simp [hg] at h
 | some g =>
  simp only [hg, Option.bind_some] at h ⊢
  have hlt : g < w.heap.size := by
   rcases Nat.lt_or_ge g w.heap.size with h' | h'
   ·exact h'
   ·rw [Array.getElem?_eq_none h'] at h; simp at h
  rw [hb.block g hlt]
  exact h
theorem below_grow (w : World) (k : Nat) (os : Array Obj) : Below w.heap.size w (grow (w.drewN k) os) :=
 ⟨by simp [grow, World.drewN], by simp [grow, World.drewN], by simp [grow, World.drewN], by simp [grow, World.drewN], fun i hi => by simp [grow, World.drewN, Array.getElem?_append, hi]⟩
theorem itoa_any (n : Int) (h0 : -9223372036854775808 ≤ n) (h1 : n ≤ 9223372036854775807) (w : World) (ht : Tab w) :
  Calls Tryz.prog 122 #[.int .i64 n] w fun e w' => e = .returned (.string (dec n)) ∧ Below w.heap.size w w' :=
 (Tryz.strconv_Itoa n h0 h1 w ht).mono fun e w' ⟨he, k, os, hw⟩ => ⟨he, by rw [hw]; exact below_grow w k os⟩
theorem holds_zero0 (w : World) (T : TypeId) (nd : Nat) (hs : nd ≤ 24) : Holds (fun (b : UInt8) => Value.int .u8 (b.toNat : Int)) (w.alloc (.cells Lib.zeros24 T)) w.heap.size 0 (Array.replicate nd (0 : UInt8)) := fun j hj => by
 have hj' : j < nd := by simpa using hj
 refine ⟨?_, World.frozen?_alloc_new _ _ _ _⟩
 rw [World.cell?_alloc_new, Lib.zeros24_at _ (by omega), getElem!_pos _ j hj]
 simp
theorem below_put (w : World) (o : Obj) (dk : Array UInt8) (k : Nat) : Below w.heap.size w ((putRow (fun (b : UInt8) => Value.int .u8 (b.toNat : Int)) (w.alloc o) w.heap.size 0 dk).drewN k) := by
 rw [alloc_eq_grow]
 obtain ⟨os', _, e⟩ := putRow_grow_new (fun (b : UInt8) => Value.int .u8 (b.toNat : Int)) w #[o] w.heap.size 0 dk (Nat.le_refl _)
 rw [e]
 exact below_grow w k os'
set_option maxHeartbeats 3200000 in
set_option maxRecDepth 100000 in
theorem formatUint_in (u : Nat) (hu64 : u < 18446744073709551616) (w : World) (htab : Tab w) :
  Calls Tryz.prog 152 #[.int .u64 u, .int .i64 10] w fun e w' => e = .returned (.string ⟨(Lib.decDigits u).toArray⟩) ∧ Below w.heap.size w w' := by
 by_cases hs : u < 100
 ·go_enter Tryz.func152, Tryz.ntmps152
  go_wp2_with (go_at_call 163; refine (Tryz.internal_strconv_small u hs _).mono ?_; rintro e w' ⟨rfl, rfl⟩)
  go_ret
  exact ⟨rfl, Below.refl _ _⟩
 ·have hu1 : 1 ≤ u := by omega
  have hnd20 : Lib.nDigits u ≤ 20 := by have := Lib.numDigits_eq u hu1 hu64; split at this <;> omega
  have hal : Tryz.prog.arrayLen 213 = 24 := by simp [Program.arrayLen, Tryz.underlying213]
  have hsl1 : ∀ W, (Instr.sliceAt 213 (.pointer (some ⟨w.heap.size, 0, none⟩)) none (some (.int .i64 (Lib.nDigits u : Int))) none).run Tryz.prog W = .ok (.slice (some ⟨w.heap.size, 0, none⟩) (Lib.nDigits u) 24) W := fun W => by
   rw [run_sliceAt_array_h W 213 ⟨w.heap.size, 0, none⟩ (by simp [Program.arrayLen, Program.elem, Tryz.underlying213]) .i64 (Lib.nDigits u : Int) (by omega) (by rw [hal]; omega)]
   go_simp
  have hH0 := holds_zero0 w 213 (Lib.nDigits u) (by omega)
  have hfmt := Tryz.internal_strconv_formatBase10 w.heap.size 0 24 u (Array.replicate (Lib.nDigits u) 0) (w.alloc (.cells Lib.zeros24 213)) hH0 (by rw [Array.size_replicate]; exact Lib.lt_pow_nDigits u) hu64 (by rw [Array.size_replicate]; omega)
  rw [Array.size_replicate] at hfmt
  have HH0 := Lib.hid hH0
  clear hH0 hal
  go_enter Tryz.func152, Tryz.ntmps152
  go_wp2_with (go_at_call 164; refine (Tryz.internal_strconv_numDigits u hu1 hu64 _ (Lib.tabIs_alloc htab _)).mono ?_; rintro e w' ⟨rfl, rfl⟩)
  refine hfmt.mono ?_
  rintro e w' ⟨rfl, k, v', dk, rfl, hF⟩
  have hcv : (convert 189 9 (.slice (some ⟨w.heap.size, 0, none⟩) (Lib.nDigits u) 24)).run Tryz.prog ((putRow (fun (b : UInt8) => Value.int .u8 (b.toNat : Int)) (w.alloc (.cells Lib.zeros24 213)) w.heap.size 0 dk).drewN k) = .ok (.string ⟨(Lib.decDigits u).toArray⟩) ((putRow (fun (b : UInt8) => Value.int .u8 (b.toNat : Int)) (w.alloc (.cells Lib.zeros24 213)) w.heap.size 0 dk).drewN k) := by
   have h := run_convert_bytes_back (P := Tryz.prog) ((putRow (fun (b : UInt8) => Value.int .u8 (b.toNat : Int)) (w.alloc (.cells Lib.zeros24 213)) w.heap.size 0 dk).drewN k) 189 9 5 ⟨w.heap.size, 0, none⟩ 24 (Lib.decDigits u) Tryz.underlying189 Tryz.underlying5 Tryz.underlying9 (fun j hj => by
    rw [Lib.row_is_numeral hF j hj, Lib.add_plain, World.cell?_drewN]
    exact cell?_putRow (fun (b : UInt8) => Value.int .u8 (b.toNat : Int)) _ w.heap.size 0 _ dk HH0.out (by rw [hF.size, Array.size_replicate]) j (by rw [hF.size]; rw [Lib.decDigits_length] at hj; exact hj))
   rw [Lib.decDigits_length] at h
   exact h
  go_wp2
  go_ret
  exact ⟨rfl, below_put w _ dk k⟩
set_option maxRecDepth 100000 in
theorem formatUint_any (u : Nat) (hu64 : u < 18446744073709551616) (w : World) (htab : Tab w) :
  Calls Tryz.prog 141 #[.int .u64 u, .int .i64 10] w fun e w' => e = .returned (.string ⟨(Lib.decDigits u).toArray⟩) ∧ Below w.heap.size w w' := by
 go_enter Tryz.func141, Tryz.ntmps141
 go_wp2_with (go_at_call 152; refine (formatUint_in u hu64 _ htab).mono ?_; rintro e w' ⟨rfl, hb⟩)
 go_ret
 exact ⟨rfl, hb⟩
end Go.Proofs.YtlmheeommpbimaaGreatDoor
namespace Go.Proofs.YtlmheeommpbimaaGreatDoor
def absS (z : Int) : ByteArray := ⟨(Lib.decDigits z.natAbs).toArray⟩
theorem absS_list (z : Int) : (absS z).data.toList = Lib.decDigits z.natAbs := by simp [absS]
theorem dec_list (z : Int) : (dec z).data.toList = Lib.itoa z := by simp [dec]
theorem absS_size (z : Int) : (absS z).size = Lib.nDigits z.natAbs := by
 show (absS z).data.size = _
 rw [← Array.length_toList, absS_list, Lib.decDigits_length]
theorem dec_nat (n : Nat) : dec (n : Int) = absS (n : Int) := by
 unfold dec absS; rw [Lib.itoa_nonneg]; rfl
theorem head_dec (u : Nat) : ∃ c l, Lib.decDigits u = c :: l ∧ 48 ≤ c.toNat ∧ c.toNat ≤ 57 := by
 have h := dec_ne_nil u
 have hd := digs_dec u
 cases hl : Lib.decDigits u with
 | nil => exact absurd hl h
 | cons c l => rw [hl] at hd; exact ⟨c, l, rfl, hd c (List.mem_cons_self ..)⟩
theorem dec_hasPrefix (z : Int) : Lib.hasPrefix (dec z).data.toList [45] = decide (z < 0) := by
 rw [dec_list]
 unfold Lib.hasPrefix Lib.itoa
 by_cases h : z < 0
 ·rw [if_pos h]; simp [h]
 ·rw [if_neg h]
  obtain ⟨c, l, e, h1, h2⟩ := head_dec z.toNat
  rw [e]
  have hc : ¬ (45 : UInt8) = c := fun e => by subst e; exact absurd h1 (by decide)
  rw [decide_eq_false h]
  show ((45 : UInt8) == c && List.isPrefixOf [] l) = false
  simp [hc]
theorem dec_trimPrefix (z : Int) : (⟨(Lib.trimPrefix (dec z).data.toList [45]).toArray⟩ : ByteArray) = absS z := by
 unfold Lib.trimPrefix
 rw [dec_hasPrefix, dec_list]
 unfold absS Lib.itoa
 by_cases h : z < 0
 ·simp [h]
 ·simp only [h, decide_false, if_false, Bool.false_eq_true]
  congr 2
  rw [show z.natAbs = z.toNat by omega]
theorem dec_inj {a b : Int} (h : dec a = dec b) : a = b := by
 have e1 := dec_hasPrefix a
 have e2 := dec_hasPrefix b
 rw [h, e2] at e1
 have e3 := dec_trimPrefix a
 rw [h, dec_trimPrefix b] at e3
 have e4 : Lib.decDigits b.natAbs = Lib.decDigits a.natAbs := by rw [← absS_list, ← absS_list, e3]
 have e5 := congrArg dval e4
 rw [dval_dec, dval_dec] at e5
 have e6 : (b < 0) ↔ (a < 0) := by simpa using e1
 omega
theorem dec_zero : dec 0 = ⟨#[48]⟩ := by
 unfold dec
 rw [show Lib.itoa 0 = [48] by rw [show (0 : Int) = ((0 : Nat) : Int) from rfl, Lib.itoa_nonneg, Lib.decDigits_one (by decide)]; rfl]
theorem limbs_len_digits (n : Nat) : (limbs n).length ≤ Lib.nDigits n := by
 refine limbs_len_le _ _ (Nat.lt_of_lt_of_le (Lib.lt_pow_nDigits n) ?_)
 exact Nat.pow_le_pow_left (by decide) _
def sgn (z : Int) : Int := if z < 0 then -1 else if z = 0 then 0 else 1
theorem sgn_neg {z : Int} (h : z < 0) : sgn z = -1 := if_pos h
theorem sgn_pos {z : Int} (h : 0 < z) : sgn z = 1 := by unfold sgn; rw [if_neg (by omega), if_neg (by omega)]
theorem sgn_cases (z : Int) : (z < 0 ∧ sgn z = -1) ∨ (z = 0 ∧ sgn z = 0) ∨ (0 < z ∧ sgn z = 1) := by
 rcases Int.lt_trichotomy z 0 with h | h | h
 ·exact .inl ⟨h, sgn_neg h⟩
 ·exact .inr (.inl ⟨h, by rw [h]; rfl⟩)
 ·exact .inr (.inr ⟨h, sgn_pos h⟩)
theorem dec_is0 (z : Int) : ((dec z).toList == [48]) = decide (z = 0) := by
 rw [ByteArray.toList_eq, dec_list, Bool.eq_iff_iff]
 simp only [beq_iff_eq, decide_eq_true_eq]
 constructor
 ·intro h
  refine dec_inj ?_
  unfold dec
  rw [h, show Lib.itoa 0 = [48] by rw [show (0 : Int) = ((0 : Nat) : Int) from rfl, Lib.itoa_nonneg, Lib.decDigits_one (by decide)]; rfl]
 ·rintro rfl
  rw [show (0 : Int) = ((0 : Nat) : Int) from rfl, Lib.itoa_nonneg, Lib.decDigits_one (by decide)]; rfl
end Go.Proofs.YtlmheeommpbimaaGreatDoor
