/- Part 4 of 47 of the proof of the law: contracts of the functions that it reaches, and plain facts. Conditions: those that each contract names. -/
import Derived.Test.YtendjepcjmfmfaaGreatDoorOrdB01
import Derived.Test.YtendjepcjmfmfaaGreatDoorOrdB02
import Derived.Test.YtendjepcjmfmfaaGreatDoorRows
import Derived.Lib.ItoaMem
import Derived.Lib.Walk
import Derived.BigCall
import Derived.BigGuard
import Derived.WalkSmall
import Derived.Test.YtendjepcjmfmfaaGreatDoorOrdB03
import Derived.Lib.Strings
import Derived.Lib.Bytealg
import Derived.Laws.Strings
namespace Go.Proofs.YtendjepcjmfmfaaGreatDoor
open Go.RowKit Go.Sort
def dec (n : Int) : ByteArray := ⟨(Lib.itoa n).toArray⟩
def Tab (w : World) : Prop := Lib.TabIs Tryz.prog w "internal/strconv.uint64pow10" .u64 Lib.pow10Tab
theorem Tab.below {w w' : World} (h : Tab w) (hb : Below w.heap.size w w') : Tab w' := by
 unfold Tab Lib.TabIs World.var? at *
 cases hg : Tryz.prog.globalNamed "internal/strconv.uint64pow10" with
 | none => simp [hg] at h
 | some g =>
  simp only [hg, Option.bind_some] at h ⊢
  have hlt : g < w.heap.size := by
   rcases Nat.lt_or_ge g w.heap.size with h' | h'
   ·exact h'
   ·rw [Array.getElem?_eq_none h'] at h; simp at h
  rw [hb.block g hlt]
  exact h
theorem below_grow (w : World) (k : Nat) (os : Array Obj) : Below w.heap.size w (grow (w.drewN k) os) :=
 ⟨by simp [grow, World.drewN], by simp [grow, World.drewN], by simp [grow, World.drewN], by simp [grow, World.drewN], fun i hi => by simp [grow, World.drewN, Array.getElem?_append, hi]⟩
theorem itoa_any (n : Int) (h0 : -9223372036854775808 ≤ n) (h1 : n ≤ 9223372036854775807) (w : World) (ht : Tab w) :
  Calls Tryz.prog 92 #[.int .i64 n] w fun e w' => e = .returned (.string (dec n)) ∧ Below w.heap.size w w' :=
 (Tryz.strconv_Itoa n h0 h1 w ht).mono fun e w' ⟨he, k, os, hw⟩ => ⟨he, by rw [hw]; exact below_grow w k os⟩
theorem holds_zero0 (w : World) (T : TypeId) (nd : Nat) (hs : nd ≤ 24) : Holds (fun (b : UInt8) => Value.int .u8 (b.toNat : Int)) (w.alloc (.cells Lib.zeros24 T)) w.heap.size 0 (Array.replicate nd (0 : UInt8)) := fun j hj => by
 have hj' : j < nd := by simpa using hj
 refine ⟨?_, World.frozen?_alloc_new _ _ _ _⟩
 rw [World.cell?_alloc_new, Lib.zeros24_at _ (by omega), getElem!_pos _ j hj]
 simp
theorem below_put (w : World) (o : Obj) (dk : Array UInt8) (k : Nat) : Below w.heap.size w ((putRow (fun (b : UInt8) => Value.int .u8 (b.toNat : Int)) (w.alloc o) w.heap.size 0 dk).drewN k) := by
 rw [alloc_eq_grow]
 obtain ⟨os', _, e⟩ := putRow_grow_new (fun (b : UInt8) => Value.int .u8 (b.toNat : Int)) w #[o] w.heap.size 0 dk (Nat.le_refl _)
 rw [e]
 exact below_grow w k os'
set_option maxHeartbeats 3200000 in
set_option maxRecDepth 100000 in
theorem formatUint_in (u : Nat) (hu64 : u < 18446744073709551616) (w : World) (htab : Tab w) :
  Calls Tryz.prog 139 #[.int .u64 u, .int .i64 10] w fun e w' => e = .returned (.string ⟨(Lib.decDigits u).toArray⟩) ∧ Below w.heap.size w w' := by
 by_cases hs : u < 100
 ·go_enter Tryz.func139, Tryz.ntmps139
  go_wp2_with (go_at_call 159; refine (Tryz.internal_strconv_small u hs _).mono ?_; rintro e w' ⟨rfl, rfl⟩)
  go_ret
  exact ⟨rfl, Below.refl _ _⟩
 ·have hu1 : 1 ≤ u := by omega
  have hnd20 : Lib.nDigits u ≤ 20 := by have := Lib.numDigits_eq u hu1 hu64; split at this <;> omega
  have hal : Tryz.prog.arrayLen 233 = 24 := by simp [Program.arrayLen, Tryz.underlying233]
  have hsl1 : ∀ W, (Instr.sliceAt 233 (.pointer (some ⟨w.heap.size, 0, none⟩)) none (some (.int .i64 (Lib.nDigits u : Int))) none).run Tryz.prog W = .ok (.slice (some ⟨w.heap.size, 0, none⟩) (Lib.nDigits u) 24) W := fun W => by
   rw [run_sliceAt_array_h W 233 ⟨w.heap.size, 0, none⟩ (by simp [Program.arrayLen, Program.elem, Tryz.underlying233]) .i64 (Lib.nDigits u : Int) (by omega) (by rw [hal]; omega)]
   go_simp
  have hH0 := holds_zero0 w 233 (Lib.nDigits u) (by omega)
  have hfmt := Tryz.internal_strconv_formatBase10 w.heap.size 0 24 u (Array.replicate (Lib.nDigits u) 0) (w.alloc (.cells Lib.zeros24 233)) hH0 (by rw [Array.size_replicate]; exact Lib.lt_pow_nDigits u) hu64 (by rw [Array.size_replicate]; omega)
  rw [Array.size_replicate] at hfmt
  have HH0 := Lib.hid hH0
  clear hH0 hal
  go_enter Tryz.func139, Tryz.ntmps139
  go_wp2_with (go_at_call 160; refine (Tryz.internal_strconv_numDigits u hu1 hu64 _ (Lib.tabIs_alloc htab _)).mono ?_; rintro e w' ⟨rfl, rfl⟩)
  refine hfmt.mono ?_
  rintro e w' ⟨rfl, k, v', dk, rfl, hF⟩
  have hcv : (convert 185 9 (.slice (some ⟨w.heap.size, 0, none⟩) (Lib.nDigits u) 24)).run Tryz.prog ((putRow (fun (b : UInt8) => Value.int .u8 (b.toNat : Int)) (w.alloc (.cells Lib.zeros24 233)) w.heap.size 0 dk).drewN k) = .ok (.string ⟨(Lib.decDigits u).toArray⟩) ((putRow (fun (b : UInt8) => Value.int .u8 (b.toNat : Int)) (w.alloc (.cells Lib.zeros24 233)) w.heap.size 0 dk).drewN k) := by
   have h := run_convert_bytes_back (P := Tryz.prog) ((putRow (fun (b : UInt8) => Value.int .u8 (b.toNat : Int)) (w.alloc (.cells Lib.zeros24 233)) w.heap.size 0 dk).drewN k) 185 9 5 ⟨w.heap.size, 0, none⟩ 24 (Lib.decDigits u) Tryz.underlying185 Tryz.underlying5 Tryz.underlying9 (fun j hj => by
    rw [Lib.row_is_numeral hF j hj, Lib.add_plain, World.cell?_drewN]
    exact cell?_putRow (fun (b : UInt8) => Value.int .u8 (b.toNat : Int)) _ w.heap.size 0 _ dk HH0.out (by rw [hF.size, Array.size_replicate]) j (by rw [hF.size]; rw [Lib.decDigits_length] at hj; exact hj))
   rw [Lib.decDigits_length] at h
   exact h
  go_wp2
  go_ret
  exact ⟨rfl, below_put w _ dk k⟩
set_option maxRecDepth 100000 in
theorem formatUint_any (u : Nat) (hu64 : u < 18446744073709551616) (w : World) (htab : Tab w) :
  Calls Tryz.prog 110 #[.int .u64 u, .int .i64 10] w fun e w' => e = .returned (.string ⟨(Lib.decDigits u).toArray⟩) ∧ Below w.heap.size w w' := by
 go_enter Tryz.func110, Tryz.ntmps110
 go_wp2_with (go_at_call 139; refine (formatUint_in u hu64 _ htab).mono ?_; rintro e w' ⟨rfl, hb⟩)
 go_ret
 exact ⟨rfl, hb⟩
end Go.Proofs.YtendjepcjmfmfaaGreatDoor
namespace Go.Proofs.YtendjepcjmfmfaaGreatDoor
def absS (z : Int) : ByteArray := ⟨(Lib.decDigits z.natAbs).toArray⟩
theorem absS_list (z : Int) : (absS z).data.toList = Lib.decDigits z.natAbs := by simp [absS]
theorem dec_list (z : Int) : (dec z).data.toList = Lib.itoa z := by simp [dec]
theorem absS_size (z : Int) : (absS z).size = Lib.nDigits z.natAbs := by
 show (absS z).data.size = _
 rw [← Array.length_toList, absS_list, Lib.decDigits_length]
theorem dec_nat (n : Nat) : dec (n : Int) = absS (n : Int) := by
 unfold dec absS; rw [Lib.itoa_nonneg]; rfl
theorem head_dec (u : Nat) : ∃ c l, Lib.decDigits u = c :: l ∧ 48 ≤ c.toNat ∧ c.toNat ≤ 57 := by
 have h := dec_ne_nil u
 have hd := digs_dec u
 cases hl : Lib.decDigits u with
 | nil => exact absurd hl h
 | cons c l => rw [hl] at hd; exact ⟨c, l, rfl, hd c (List.mem_cons_self ..)⟩
theorem dec_hasPrefix (z : Int) : Lib.hasPrefix (dec z).data.toList [45] = decide (z < 0) := by
 rw [dec_list]
 unfold Lib.hasPrefix Lib.itoa
 by_cases h : z < 0
 ·rw [if_pos h]; simp [h]
 ·rw [if_neg h]
  obtain ⟨c, l, e, h1, h2⟩ := head_dec z.toNat
  rw [e]
  have hc : ¬ (45 : UInt8) = c := fun e => by subst e; exact absurd h1 (by decide)
  rw [decide_eq_false h]
  show ((45 : UInt8) == c && List.isPrefixOf [] l) = false
  simp [hc]
theorem dec_trimPrefix (z : Int) : (⟨(Lib.trimPrefix (dec z).data.toList [45]).toArray⟩ : ByteArray) = absS z := by
 unfold Lib.trimPrefix
 rw [dec_hasPrefix, dec_list]
 unfold absS Lib.itoa
 by_cases h : z < 0
 ·simp [h]
 ·simp only [h, decide_false, if_false, Bool.false_eq_true]
  congr 2
  rw [show z.natAbs = z.toNat by omega]
theorem dec_inj {a b : Int} (h : dec a = dec b) : a = b := by
 have e1 := dec_hasPrefix a
 have e2 := dec_hasPrefix b
 rw [h, e2] at e1
 have e3 := dec_trimPrefix a
 rw [h, dec_trimPrefix b] at e3
 have e4 : Lib.decDigits b.natAbs = Lib.decDigits a.natAbs := by rw [← absS_list, ← absS_list, e3]
 have e5 := congrArg dval e4
 rw [dval_dec, dval_dec] at e5
 have e6 : (b < 0) ↔ (a < 0) := by simpa using e1
 omega
theorem dec_zero : dec 0 = ⟨#[48]⟩ := by
 unfold dec
 rw [show Lib.itoa 0 = [48] by rw [show (0 : Int) = ((0 : Nat) : Int) from rfl, Lib.itoa_nonneg, Lib.decDigits_one (by decide)]; rfl]
theorem nDigits_mono {a b : Nat} (h : a ≤ b) : Lib.nDigits a ≤ Lib.nDigits b := by
 rcases Nat.eq_zero_or_pos b with rfl | hb
 ·rw [show a = 0 by omega]; exact Nat.le_refl _
 ·exact nDigits_le a _ (Lib.nDigits_pos b) (Nat.lt_of_le_of_lt h (Lib.lt_pow_nDigits b))
theorem compareBytes_digs : ∀ (a b : List UInt8), Digs a → Digs b → a.length = b.length → Lib.compareBytes a b = (if dval a < dval b then -1 else if dval b < dval a then 1 else 0)
 | [], [], _, _, _ => by simp [Lib.compareBytes, dval]
 | [], _ :: _, _, _, h => by simp at h
 | _ :: _, [], _, _, h => by simp at h
 | x :: a, y :: b, ha, hb, hl => by
  have hl' : a.length = b.length := by simpa using hl
  have ha' : Digs a := fun c hc => ha c (List.mem_cons_of_mem _ hc)
  have hb' : Digs b := fun c hc => hb c (List.mem_cons_of_mem _ hc)
  have ih := compareBytes_digs a b ha' hb' hl'
  have e1 : dval (x :: a) = (x.toNat - 48) * 10 ^ a.length + dval a := by have := dval_append [x] a; simpa [dval] using this
  have e2 : dval (y :: b) = (y.toNat - 48) * 10 ^ a.length + dval b := by have := dval_append [y] b; rw [← hl'] at this; simpa [dval] using this
  have l1 := dval_lt a ha'
  have l2 := dval_lt b hb'
  rw [← hl'] at l2
  have hx := ha x (List.mem_cons_self ..)
  have hy := hb y (List.mem_cons_self ..)
  unfold Lib.compareBytes
  rw [ih, e1, e2]
  generalize 10 ^ a.length = P at *
  by_cases h1 : x < y
  ·have h1' : x.toNat < y.toNat := UInt8.lt_iff_toNat_lt.1 h1
   have h2 : (x.toNat - 48 + 1) * P ≤ (y.toNat - 48) * P := Nat.mul_le_mul_right _ (by omega)
   rw [Nat.add_mul, Nat.one_mul] at h2
   rw [if_pos h1, if_pos (by omega)]
  ·have h1' : ¬ x.toNat < y.toNat := fun h => h1 (UInt8.lt_iff_toNat_lt.2 h)
   rw [if_neg h1]
   by_cases h3 : y < x
   ·have h3' : y.toNat < x.toNat := UInt8.lt_iff_toNat_lt.1 h3
    have h2 : (y.toNat - 48 + 1) * P ≤ (x.toNat - 48) * P := Nat.mul_le_mul_right _ (by omega)
    rw [Nat.add_mul, Nat.one_mul] at h2
    rw [if_pos h3, if_neg (by omega), if_pos (by omega)]
   ·have h3' : ¬ y.toNat < x.toNat := fun h => h3 (UInt8.lt_iff_toNat_lt.2 h)
    rw [if_neg h3, show x.toNat = y.toNat by omega]
    split <;> split <;> (try split) <;> (try split) <;> first | rfl | omega
theorem compareBytes_abs (a b : Int) (h : Lib.nDigits a.natAbs = Lib.nDigits b.natAbs) :
  Lib.compareBytes (absS a).data.toList (absS b).data.toList = (if a.natAbs < b.natAbs then -1 else if b.natAbs < a.natAbs then 1 else 0) := by
 rw [absS_list, absS_list, compareBytes_digs _ _ (digs_dec _) (digs_dec _) (by rw [Lib.decDigits_length, Lib.decDigits_length, h]), dval_dec, dval_dec]
theorem limbs_len_digits (n : Nat) : (limbs n).length ≤ Lib.nDigits n := by
 refine limbs_len_le _ _ (Nat.lt_of_lt_of_le (Lib.lt_pow_nDigits n) ?_)
 exact Nat.pow_le_pow_left (by decide) _
def sgn (z : Int) : Int := if z < 0 then -1 else if z = 0 then 0 else 1
theorem sgn_bd (z : Int) : -1 ≤ sgn z ∧ sgn z ≤ 1 := by unfold sgn; split <;> (try split) <;> omega
theorem sgn_neg {z : Int} (h : z < 0) : sgn z = -1 := if_pos h
theorem sgn_pos {z : Int} (h : 0 < z) : sgn z = 1 := by unfold sgn; rw [if_neg (by omega), if_neg (by omega)]
theorem sgn_lt {a b : Int} (h : sgn a < sgn b) : sgn (a - b) = -1 := by
 refine sgn_neg ?_
 unfold sgn at h
 split at h <;> split at h <;> (try split at h) <;> (try split at h) <;> omega
theorem sgn_gt {a b : Int} (h : sgn b < sgn a) : sgn (a - b) = 1 := by
 refine sgn_pos ?_
 unfold sgn at h
 split at h <;> split at h <;> (try split at h) <;> (try split at h) <;> omega
theorem sgn_cases (z : Int) : (z < 0 ∧ sgn z = -1) ∨ (z = 0 ∧ sgn z = 0) ∨ (0 < z ∧ sgn z = 1) := by
 rcases Int.lt_trichotomy z 0 with h | h | h
 ·exact .inl ⟨h, sgn_neg h⟩
 ·exact .inr (.inl ⟨h, by rw [h]; rfl⟩)
 ·exact .inr (.inr ⟨h, sgn_pos h⟩)
theorem abs_lt_of_digits {a b : Int} (h : Lib.nDigits a.natAbs < Lib.nDigits b.natAbs) : a.natAbs < b.natAbs := by
 rcases Nat.lt_or_ge a.natAbs b.natAbs with h' | h'
 ·exact h'
 ·have := nDigits_mono h'; omega
theorem cmp_short {a b : Int} (hs : sgn a = sgn b) (h : a.natAbs < b.natAbs) : sgn (a - b) = - sgn a := by
 rcases sgn_cases a with ⟨h1, h2⟩ | ⟨h1, h2⟩ | ⟨h1, h2⟩ <;> rcases sgn_cases b with ⟨h3, h4⟩ | ⟨h3, h4⟩ | ⟨h3, h4⟩ <;> rw [h2, h4] at hs <;> try omega
 ·rw [h2, sgn_pos (by omega)]; rfl
 ·rw [h2, sgn_neg (by omega)]
theorem cmp_long {a b : Int} (hs : sgn a = sgn b) (h : b.natAbs < a.natAbs) : sgn (a - b) = sgn a := by
 rcases sgn_cases a with ⟨h1, h2⟩ | ⟨h1, h2⟩ | ⟨h1, h2⟩ <;> rcases sgn_cases b with ⟨h3, h4⟩ | ⟨h3, h4⟩ | ⟨h3, h4⟩ <;> rw [h2, h4] at hs <;> try omega
 ·rw [h2, sgn_neg (by omega)]
 ·rw [h2, sgn_pos (by omega)]
theorem cmp_even {a b : Int} (hs : sgn a = sgn b) (h : Lib.nDigits a.natAbs = Lib.nDigits b.natAbs) : sgn a * Lib.compareBytes (absS a).data.toList (absS b).data.toList = sgn (a - b) := by
 rw [compareBytes_abs a b h]
 by_cases h1 : a.natAbs < b.natAbs
 ·rw [if_pos h1, cmp_short hs h1]; omega
 ·rw [if_neg h1]
  by_cases h2 : b.natAbs < a.natAbs
  ·rw [if_pos h2, cmp_long hs h2]; omega
  ·rw [if_neg h2]
   have : a = b := by
    rcases sgn_cases a with ⟨h1, h2⟩ | ⟨h1, h2⟩ | ⟨h1, h2⟩ <;> rcases sgn_cases b with ⟨h3, h4⟩ | ⟨h3, h4⟩ | ⟨h3, h4⟩ <;> rw [h2, h4] at hs <;> omega
   subst this
   simp [sgn]
theorem dec_is0 (z : Int) : ((dec z).toList == [48]) = decide (z = 0) := by
 rw [ByteArray.toList_eq, dec_list, Bool.eq_iff_iff]
 simp only [beq_iff_eq, decide_eq_true_eq]
 constructor
 ·intro h
  refine dec_inj ?_
  unfold dec
  rw [h, show Lib.itoa 0 = [48] by rw [show (0 : Int) = ((0 : Nat) : Int) from rfl, Lib.itoa_nonneg, Lib.decDigits_one (by decide)]; rfl]
 ·rintro rfl
  rw [show (0 : Int) = ((0 : Nat) : Int) from rfl, Lib.itoa_nonneg, Lib.decDigits_one (by decide)]; rfl
theorem compare_bd (a b : List UInt8) : -1 ≤ Lib.compareBytes a b ∧ Lib.compareBytes a b ≤ 1 := by
 induction a generalizing b with
 | nil => cases b <;> simp [Lib.compareBytes]
 | cons x a ih =>
  cases b with
  | nil => simp [Lib.compareBytes]
  | cons y b =>
   unfold Lib.compareBytes
   have := ih b
   split
   ·omega
   ·split <;> omega
end Go.Proofs.YtendjepcjmfmfaaGreatDoor
