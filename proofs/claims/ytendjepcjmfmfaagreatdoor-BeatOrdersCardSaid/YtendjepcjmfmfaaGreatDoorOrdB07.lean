/- Part 7 of 47 of the proof of the law: contracts of the functions that it reaches, and plain facts. Conditions: those that each contract names. -/
import Derived.Test.YtendjepcjmfmfaaGreatDoorOrdB05
import Derived.Deep.RegionHeld3
import Derived.BigQuiet
import Derived.Test.YtendjepcjmfmfaaGreatDoorOrdB06
import Derived.Deep.MidRow
namespace Go.Proofs.YtendjepcjmfmfaaGreatDoor
open Go.RowKit
def I64 (n : Int) : Prop := -9223372036854775808 ≤ n ∧ n ≤ 9223372036854775807
def sgnI (z : Int) : Int := if z < 0 then -1 else if z = 0 then 0 else 1
theorem sgnI_neg {z : Int} (h : z < 0) : sgnI z = -1 := if_pos h
theorem sgnI_pos {z : Int} (h : 0 < z) : sgnI z = 1 := by unfold sgnI; rw [if_neg (by omega), if_neg (by omega)]
def TwoBox (w : World) (a b c d : Int) (w' : World) : Prop :=
 w'.cell? ⟨w.heap.size, 0, none⟩ = some (.int .i64 a) ∧ w'.cell? ⟨w.heap.size, 1, none⟩ = some (.int .i64 b) ∧
 w'.cell? ⟨w.heap.size + 1, 0, none⟩ = some (.int .i64 c) ∧ w'.cell? ⟨w.heap.size + 1, 1, none⟩ = some (.int .i64 d) ∧ w.heap.size + 2 ≤ w'.heap.size ∧ Below w.heap.size w w'
theorem TwoBox.below {w w1 w2 : World} {a b c d : Int} (h : TwoBox w a b c d w1) (hb : Below w1.heap.size w1 w2) : TwoBox w a b c d w2 := by
 obtain ⟨h1, h2, h3, h4, h5, h6⟩ := h
 exact ⟨(hb.cell (by show w.heap.size < _; omega)).trans h1, (hb.cell (by show w.heap.size < _; omega)).trans h2, (hb.cell (by show w.heap.size + 1 < _; omega)).trans h3,
  (hb.cell (by show w.heap.size + 1 < _; omega)).trans h4, by have := hb.size; omega, h6.trans (hb.mono (by omega))⟩
theorem TwoBox.drew {w w1 : World} {a b c d : Int} (h : TwoBox w a b c d w1) : TwoBox w a b c d w1.drew := ⟨h.1, h.2.1, h.2.2.1, h.2.2.2.1, h.2.2.2.2.1, h.2.2.2.2.2.drew⟩
theorem TwoBox.start (w : World) (a b c d : Int) (t u : TypeId) : TwoBox w a b c d ((w.alloc (Obj.cells #[.int .i64 a, .int .i64 b] t)).alloc (Obj.cells #[.int .i64 c, .int .i64 d] u)) := by
 have h0 : ((w.alloc (Obj.cells #[.int .i64 a, .int .i64 b] t)).alloc (Obj.cells #[.int .i64 c, .int .i64 d] u)).heap[w.heap.size]? = some (.cells #[.int .i64 a, .int .i64 b] t (0, 0)) := by
  rw [Below.heap_alloc _ _ _ (by simp)]; exact heap_alloc_new w _
 have h1 : ((w.alloc (Obj.cells #[.int .i64 a, .int .i64 b] t)).alloc (Obj.cells #[.int .i64 c, .int .i64 d] u)).heap[w.heap.size + 1]? = some (.cells #[.int .i64 c, .int .i64 d] u (0, 0)) := by
  have := heap_alloc_new (w.alloc (Obj.cells #[.int .i64 a, .int .i64 b] t)) (Obj.cells #[.int .i64 c, .int .i64 d] u)
  rwa [World.size_alloc] at this
 exact ⟨by rw [cell_of_row _ _ _ _ _ _ h0]; rfl, by rw [cell_of_row _ _ _ _ _ _ h0]; rfl, by rw [cell_of_row _ _ _ _ _ _ h1]; rfl, by rw [cell_of_row _ _ _ _ _ _ h1]; rfl, by simp, ((Below.refl _ w).alloc (Nat.le_refl _) _).alloc (by simp) _⟩
theorem mul_bd {a b : Int} (ha : -1000000 ≤ a) (ha' : a ≤ 1000000) (hb : -1000000 ≤ b) (hb' : b ≤ 1000000) : -1000000000000 ≤ a * b ∧ a * b ≤ 1000000000000 := by
 have h : (a * b).natAbs ≤ 1000000 * 1000000 := by rw [Int.natAbs_mul]; exact Nat.mul_le_mul (by omega) (by omega)
 omega
end Go.Proofs.YtendjepcjmfmfaaGreatDoor
namespace Go.Proofs.YtendjepcjmfmfaaGreatDoor
section
open Go.RowKit
set_option maxRecDepth 100000 in
set_option maxHeartbeats 1000000 in
theorem divisor_any (a b : Int) (w : World) (ha : -4611686018427387904 ≤ a) (ha' : a ≤ 4611686018427387904) (hb : -4611686018427387904 ≤ b) (hb' : b ≤ 4611686018427387904) :
  Calls Tryz.prog 106 #[.int .i64 a, .int .i64 b] w fun e w' => e = .returned (.int .i64 (Nat.gcd a.natAbs b.natAbs : Int)) ∧ ∃ k, w' = w.drewN k := by
 go_enter Tryz.func106, Tryz.ntmps106
 go_wp2
 go_loopw [0, 1] (fun u v wr => ∃ (x y : Int) (k : Nat), -4611686018427387904 ≤ x ∧ x ≤ 4611686018427387904 ∧ -4611686018427387904 ≤ y ∧ y ≤ 4611686018427387904 ∧ u = .int .i64 x ∧ v = .int .i64 y ∧ Nat.gcd x.natAbs y.natAbs = Nat.gcd a.natAbs b.natAbs ∧ wr = w.drewN k) (fun _ v _ => (intOf v).natAbs)
 case atStart => exact ⟨a, b, 0, ha, ha', hb, hb', rfl, rfl, rfl, rfl⟩
 case round =>
  obtain ⟨x, y, k, hx0, hx1, hy0, hy1, rfl, rfl, hg, rfl⟩ := hrel
  have HG := Lib.hid hg
  clear hg
  by_cases h0 : y = 0
  ·subst h0
   have hG := HG.out
   rw [Int.natAbs_zero, Nat.gcd_zero_right] at hG
   have hm : max x (-x) = (Nat.gcd a.natAbs b.natAbs : Int) := by rw [← hG]; omega
   have HM := Lib.hid hm
   clear hG hm
   by_cases hneg : x < -x
   ·go_wp2
    go_ret
    exact ⟨ret_int (by rw [← HM.out]; omega), k, rfl⟩
   ·go_wp2
    go_ret
    exact ⟨ret_int (by rw [← HM.out]; omega), k, rfl⟩
  ·have hyz : (y == 0) = false := by simpa using h0
   have hyz2 : (y != 0) = true := by simpa using h0
   obtain ⟨r, hr⟩ : ∃ r, r = x.tmod y := ⟨_, rfl⟩
   have hrn : r.natAbs = x.natAbs % y.natAbs := by rw [hr, Int.natAbs_tmod]
   have hrl : r.natAbs < y.natAbs := by rw [hrn]; exact Nat.mod_lt _ (by omega)
   have HN := Lib.hid hrn
   have HL := Lib.hid hrl
   have HR := Lib.hid hr
   clear hr hrn hrl
   go_wp2
   go_quiet (fail)
   go_wp2
   rw [← HR.out]
   go_roundw
   case rel => exact ⟨y, r, k + nq, hy0, hy1, by have := HL.out; omega, by have := HL.out; omega, rfl, rfl, by rw [← HG.out, HN.out, Nat.gcd_comm y.natAbs, ← Nat.gcd_rec, Nat.gcd_comm], by rw [World.drewN_drewN]⟩
   case measure => simp only [intOf]; exact HL.out
def lowN (n d : Int) : Int := n.tdiv (Nat.gcd n.natAbs d.natAbs : Int)
def lowD (n d : Int) : Int := d.tdiv (Nat.gcd n.natAbs d.natAbs : Int)
set_option maxRecDepth 100000 in
set_option maxHeartbeats 1000000 in
theorem lowest_any (n d : Int) (w : World) (hn0 : -4611686018427387904 ≤ n) (hn1 : n ≤ 4611686018427387904) (hd0 : 0 < d) (hd1 : d ≤ 4611686018427387904) :
  Calls Tryz.prog 77 #[.int .i64 n, .int .i64 d] w fun e w' => e = .returned (.agg #[.int .i64 (lowN n d), .int .i64 (lowD n d)]) ∧ Below w.heap.size w w' := by
 obtain ⟨g, hg0⟩ : ∃ g, g = Nat.gcd n.natAbs d.natAbs := ⟨_, rfl⟩
 have hgp : 0 < g := by rw [hg0]; exact Nat.gcd_pos_of_pos_right _ (by omega)
 have hg := fun W => divisor_any n d W (by omega) (by omega) (by omega) (by omega)
 rw [← hg0] at hg
 have hgz : ((g : Int) == 0) = false := by rw [beq_eq_false_iff_ne]; omega
 have hx : n.tdiv (g : Int) = lowN n d := by unfold lowN; rw [hg0]
 have hy : d.tdiv (g : Int) = lowD n d := by unfold lowD; rw [hg0]
 have hy2 : d / (g : Int) = lowD n d := by rw [← hy, Int.tdiv_eq_ediv_of_nonneg (by omega)]
 have HG := Lib.hid hg
 have HX := Lib.hid hx
 have HY := Lib.hid hy2
 clear hg hg0 hx hy hy2
 go_enter Tryz.func77, Tryz.ntmps77
 go_wp2_with fail
 refine (HG.out _).mono ?_
 rintro e w1 ⟨rfl, k, rfl⟩
 go_wp2
 go_region
 all_goals go_wp2
 refine bodyPost_ret (v := .agg #[.int .i64 (n.tdiv (g : Int)), .int .i64 (d / (g : Int))]) (by simp [results, Tryz.results77, go_sem]) rfl ⟨by rw [HX.out, HY.out], ?_⟩
 (repeat (first | exact Below.refl _ _ | refine bw_new ?_ _ | refine bw_set ?_ (by first | omega | simp) _ | refine bw_drewN ?_ _ | refine bw_drew ?_))
end
end Go.Proofs.YtendjepcjmfmfaaGreatDoor
namespace Go.Proofs.YtendjepcjmfmfaaGreatDoor
open Go.RowKit
def fMake (num den : Int) : Int × Int × Int :=
 if den = 0 then (0, 0, 17)
 else if 1000000 < num.natAbs / Nat.gcd num.natAbs den.natAbs ∨ 1000000 < den.natAbs / Nat.gcd num.natAbs den.natAbs then (0, 0, 4)
 else (if decide (num < 0) = decide (den < 0) then ((num.natAbs / Nat.gcd num.natAbs den.natAbs : Nat) : Int) else -((num.natAbs / Nat.gcd num.natAbs den.natAbs : Nat) : Int), ((den.natAbs / Nat.gcd num.natAbs den.natAbs : Nat) : Int), 0)
def fRet (r : Int × Int × Int) : Value := .tuple #[.agg #[.int .i64 r.1, .int .i64 r.2.1], .int .i64 r.2.2]
set_option maxRecDepth 100000 in
set_option maxHeartbeats 2000000 in
theorem make_any (num den : Int) (w : World) (hn : I64 num) (hd : I64 den) :
  Calls Tryz.prog 70 #[.int .i64 num, .int .i64 den] w fun e w' => e = .returned (fRet (fMake num den)) ∧ Below w.heap.size w w' := by
 obtain ⟨hn0, hn1⟩ := hn
 obtain ⟨hd0, hd1⟩ := hd
 by_cases h0 : den = 0
 ·have hf : fMake num den = (0, 0, 17) := by unfold fMake; rw [if_pos h0]
  rw [hf]
  have h0' : (den == 0) = true := by simpa using h0
  clear hf h0
  go_enter Tryz.func70, Tryz.ntmps70
  go_wp2
  refine bodyPost_ret (v := .tuple #[.agg #[.int .i64 0, .int .i64 0], .int .i64 17]) (by simp [results, Tryz.results70, go_sem]) rfl ⟨rfl, ?_⟩
  exact (Below.refl _ _).alloc (Nat.le_refl _) _
 ·have h0' : (den == 0) = false := by simpa using h0
  obtain ⟨n, hn⟩ : ∃ n, n = num.natAbs := ⟨_, rfl⟩
  obtain ⟨m, hm⟩ : ∃ m, m = den.natAbs := ⟨_, rfl⟩
  obtain ⟨g, hg⟩ : ∃ g, g = Nat.gcd n m := ⟨_, rfl⟩
  have hmn := fun W => magnitude_any num W hn0 hn1
  have hmd := fun W => magnitude_any den W hd0 hd1
  have hgc := fun W => gcd_any n m W (by omega) (by omega)
  rw [← hn] at hmn
  rw [← hm] at hmd
  rw [← hg] at hgc
  have hg0 : 0 < g := by rw [hg]; exact Nat.gcd_pos_of_pos_right _ (by omega)
  have hgz : ((g : Int) == 0) = false := by rw [beq_eq_false_iff_ne]; omega
  have hnb : n ≤ 9223372036854775808 := by omega
  have hmb : m ≤ 9223372036854775808 := by omega
  obtain ⟨x, hx⟩ : ∃ x, x = n / g := ⟨_, rfl⟩
  obtain ⟨y, hy⟩ : ∃ y, y = m / g := ⟨_, rfl⟩
  have hxi : (n : Int) / (g : Int) = (x : Int) := by rw [hx]; simp
  have hyi : (m : Int) / (g : Int) = (y : Int) := by rw [hy]; simp
  have hxn : x ≤ n := by rw [hx]; exact Nat.div_le_self _ _
  have hym : y ≤ m := by rw [hy]; exact Nat.div_le_self _ _
  have hwx : IntKind.u64.wrap ((n : Int) / (g : Int)) = (x : Int) := by rw [hxi, IntKind.wrap_u64]; omega
  have hwy : IntKind.u64.wrap ((m : Int) / (g : Int)) = (y : Int) := by rw [hyi, IntKind.wrap_u64]; omega
  have HWX := Lib.hid hwx
  have HWY := Lib.hid hwy
  have hf : fMake num den = (if 1000000 < x ∨ 1000000 < y then (0, 0, 4) else (if decide (num < 0) = decide (den < 0) then (x : Int) else -(x : Int), (y : Int), 0)) := by
   unfold fMake; rw [if_neg h0, ← hn, ← hm, ← hg, ← hx, ← hy]
  have HMN := Lib.hid hmn
  have HMD := Lib.hid hmd
  have HGC := Lib.hid hgc
  have HF := Lib.hid hf
  clear hmn hmd hgc hf hxi hyi hwx hwy hx hy hg hn hm h0
  go_enter Tryz.func70, Tryz.ntmps70
  go_wp2_with fail
  refine (HMN.out _).mono ?_
  rintro e w1 ⟨rfl, rfl⟩
  go_wp2_with fail
  refine (HMD.out _).mono ?_
  rintro e w1 ⟨rfl, rfl⟩
  go_wp2_with fail
  refine (HGC.out _).mono ?_
  rintro e w1 ⟨rfl, k, rfl⟩
  go_wp2_with fail
  have hwx := HWX.out
  have hwy := HWY.out
  go_quiet (fail)
  clear hwx hwy
  by_cases h1 : 1000000 < x
  ·have hf : fMake num den = (0, 0, 4) := by rw [HF.out, if_pos (Or.inl h1)]
   have HF2 := Lib.hid hf
   clear hf
   go_wp2_with fail
   refine bodyPost_ret (v := fRet (0, 0, 4)) (by simp [results, Tryz.results70, go_sem, fRet]) rfl ⟨by rw [HF2.out], ?_⟩
   (repeat (first | exact Below.refl _ _ | refine bw_new ?_ _ | refine bw_set ?_ (by first | omega | simp) _ | refine bw_drewN ?_ _))
  ·by_cases h2 : 1000000 < y
   ·have hf : fMake num den = (0, 0, 4) := by rw [HF.out, if_pos (Or.inr h2)]
    have HF2 := Lib.hid hf
    clear hf
    go_wp2_with fail
    refine bodyPost_ret (v := fRet (0, 0, 4)) (by simp [results, Tryz.results70, go_sem, fRet]) rfl ⟨by rw [HF2.out], ?_⟩
    (repeat (first | exact Below.refl _ _ | refine bw_new ?_ _ | refine bw_set ?_ (by first | omega | simp) _ | refine bw_drewN ?_ _))
   ·by_cases h3 : num < 0
    ·by_cases h4 : den < 0
     ·have hf : fMake num den = ((x : Int), (y : Int), 0) := by rw [HF.out, if_neg (by omega), decide_eq_true h3, decide_eq_true h4, if_pos rfl]
      have HF2 := Lib.hid hf
      clear hf
      go_wp2_with fail
      refine bodyPost_ret (v := fRet ((x : Int), (y : Int), 0)) (by simp [results, Tryz.results70, go_sem, fRet]) rfl ⟨by rw [HF2.out], ?_⟩
      (repeat (first | exact Below.refl _ _ | refine bw_new ?_ _ | refine bw_set ?_ (by first | omega | simp) _ | refine bw_drewN ?_ _))
     ·have hf : fMake num den = (-(x : Int), (y : Int), 0) := by rw [HF.out, if_neg (by omega), decide_eq_true h3, decide_eq_false h4, if_neg (by decide)]
      have HF2 := Lib.hid hf
      clear hf
      go_wp2_with fail
      refine bodyPost_ret (v := fRet (-(x : Int), (y : Int), 0)) (by simp [results, Tryz.results70, go_sem, fRet]) rfl ⟨by rw [HF2.out], ?_⟩
      (repeat (first | exact Below.refl _ _ | refine bw_new ?_ _ | refine bw_set ?_ (by first | omega | simp) _ | refine bw_drewN ?_ _))
    ·by_cases h4 : den < 0
     ·have hf : fMake num den = (-(x : Int), (y : Int), 0) := by rw [HF.out, if_neg (by omega), decide_eq_false h3, decide_eq_true h4, if_neg (by decide)]
      have HF2 := Lib.hid hf
      clear hf
      go_wp2_with fail
      refine bodyPost_ret (v := fRet (-(x : Int), (y : Int), 0)) (by simp [results, Tryz.results70, go_sem, fRet]) rfl ⟨by rw [HF2.out], ?_⟩
      (repeat (first | exact Below.refl _ _ | refine bw_new ?_ _ | refine bw_set ?_ (by first | omega | simp) _ | refine bw_drewN ?_ _))
     ·have hf : fMake num den = ((x : Int), (y : Int), 0) := by rw [HF.out, if_neg (by omega), decide_eq_false h3, decide_eq_false h4, if_pos rfl]
      have HF2 := Lib.hid hf
      clear hf
      go_wp2_with fail
      refine bodyPost_ret (v := fRet ((x : Int), (y : Int), 0)) (by simp [results, Tryz.results70, go_sem, fRet]) rfl ⟨by rw [HF2.out], ?_⟩
      (repeat (first | exact Below.refl _ _ | refine bw_new ?_ _ | refine bw_set ?_ (by first | omega | simp) _ | refine bw_drewN ?_ _))
end Go.Proofs.YtendjepcjmfmfaaGreatDoor
namespace Go.Proofs.YtendjepcjmfmfaaGreatDoor
section
open Go.RowKit
set_option maxRecDepth 100000 in
set_option maxHeartbeats 1000000 in
theorem fboth_any (a b c d : Int) (w : World) (ha : I64 a) (hb : I64 b) (hc : I64 c) (hd : I64 d) :
  Calls Tryz.prog 147 #[.agg #[.int .i64 a, .int .i64 b], .agg #[.int .i64 c, .int .i64 d]] w fun e w' => e = .returned (.int .i64 (max (fErr a b) (fErr c d))) ∧ Below w.heap.size w w' := by
 go_enter Tryz.func147, Tryz.ntmps147
 go_wp2
 obtain ⟨W2, hW2⟩ : ∃ W2, W2 = (w.alloc (Obj.cells #[Value.int IntKind.i64 a, Value.int IntKind.i64 b] 34)).alloc (Obj.cells #[Value.int IntKind.i64 c, Value.int IntKind.i64 d] 34) := ⟨_, rfl⟩
 rw [← hW2]
 have hT : TwoBox w a b c d W2 := by rw [hW2]; exact TwoBox.start w a b c d _ _
 clear hW2
 go_region_held3 (fun w' => w'.cell? ⟨w.heap.size, 0, none⟩ = some (.int .i64 a) ∧ w'.cell? ⟨w.heap.size, 1, none⟩ = some (.int .i64 b) ∧
 w'.cell? ⟨w.heap.size + 1, 0, none⟩ = some (.int .i64 c) ∧ w'.cell? ⟨w.heap.size + 1, 1, none⟩ = some (.int .i64 d) ∧ w.heap.size + 2 ≤ w'.heap.size ∧ Below w.heap.size w w') (first | assumption | exact TwoBox.drew hT | exact TwoBox.below (by assumption) hbel)
  (first
   | (go_at_call 41; refine (fcheck_any _ _ _ (by first | exact ha.1 | exact hc.1) (by first | exact ha.2 | exact hc.2) (by first | exact hb.1 | exact hd.1) (by first | exact hb.2 | exact hd.2)).mono ?_; rintro e w' ⟨rfl, hbel⟩))
 have hf : TwoBox w a b c d w' := by assumption
 have HF := Lib.hid hf
 clear hf
 go_wp2
 all_goals
  go_ret
  exact ⟨ret_int (by omega), HF.out.2.2.2.2.2⟩
end
section
open Go.RowKit
set_option maxRecDepth 100000 in
set_option maxHeartbeats 1000000 in
theorem fnAdd_any (a b c d : Int) (g h : Nat) (w : World) (e0 : w.cell? ⟨g, 0, none⟩ = some (.int .i64 a)) (e1 : w.cell? ⟨g, 1, none⟩ = some (.int .i64 b)) (e2 : w.cell? ⟨h, 0, none⟩ = some (.int .i64 c)) (e3 : w.cell? ⟨h, 1, none⟩ = some (.int .i64 d)) (hab : Right a b) (hcd : Right c d) :
  Calls Tryz.prog 171 #[.pointer (some ⟨g, 0, none⟩), .pointer (some ⟨h, 0, none⟩)] w fun e w' => e = .returned (.tuple #[.int .i64 (a * d + c * b), .int .i64 (b * d)]) ∧ Below w.heap.size w w' := by
 obtain ⟨hb0, hb1, ha0, ha1, hg1⟩ := hab
 obtain ⟨hd0, hd1, hc0, hc1, hg2⟩ := hcd
 obtain ⟨m1, m2⟩ := mul_bd ha0 ha1 (show -1000000 ≤ d by omega) hd1
 obtain ⟨m3, m4⟩ := mul_bd hc0 hc1 (show -1000000 ≤ b by omega) hb1
 obtain ⟨m5, m6⟩ := mul_bd (show -1000000 ≤ b by omega) hb1 (show -1000000 ≤ d by omega) hd1
 obtain ⟨m7, m8⟩ := mul_bd ha0 ha1 hc0 hc1
 clear hg1 hg2
 go_enter Tryz.func171, Tryz.ntmps171
 go_wp2
 go_quiet (fail)
 go_wp2
 go_ret2
 exact ⟨rfl, below_drewN _ _ _⟩
set_option maxRecDepth 100000 in
set_option maxHeartbeats 2000000 in
theorem lowAdd_any (a b c d : Int) (g h : Nat) (w : World) (hg : g < w.heap.size) (hh : h < w.heap.size) (e0 : w.cell? ⟨g, 0, none⟩ = some (.int .i64 a)) (e1 : w.cell? ⟨g, 1, none⟩ = some (.int .i64 b)) (e2 : w.cell? ⟨h, 0, none⟩ = some (.int .i64 c)) (e3 : w.cell? ⟨h, 1, none⟩ = some (.int .i64 d)) (hab : Right a b) (hcd : Right c d) :
  Calls Tryz.prog 119 #[.agg #[.int .i64 a, .int .i64 b], .agg #[.int .i64 c, .int .i64 d], .func (.func 171) #[] #[.pointer (some ⟨g, 0, none⟩), .pointer (some ⟨h, 0, none⟩)]] w fun e w' => e = .returned (fRet (fMake (a * d + c * b) (b * d))) ∧ Below w.heap.size w w' := by
 have HAB := Lib.hid hab
 have HCD := Lib.hid hcd
 obtain ⟨hb0, hb1, ha0, ha1, hg1⟩ := hab
 obtain ⟨hd0, hd1, hc0, hc1, hg2⟩ := hcd
 have hboth := fun W => fboth_any a b c d W ⟨by omega, by omega⟩ ⟨by omega, by omega⟩ ⟨by omega, by omega⟩ ⟨by omega, by omega⟩
 rw [fErr_ok HAB.out, fErr_ok HCD.out] at hboth
 have HB := Lib.hid hboth
 obtain ⟨m1, m2⟩ := mul_bd ha0 ha1 (show -1000000 ≤ d by omega) hd1
 obtain ⟨m3, m4⟩ := mul_bd hc0 hc1 (show -1000000 ≤ b by omega) hb1
 obtain ⟨m5, m6⟩ := mul_bd (show -1000000 ≤ b by omega) hb1 (show -1000000 ≤ d by omega) hd1
 obtain ⟨m7, m8⟩ := mul_bd ha0 ha1 hc0 hc1
 have hmk := fun W => make_any (a * d + c * b) (b * d) W ⟨by omega, by omega⟩ ⟨by omega, by omega⟩
 obtain ⟨r0, r1, r2, hr⟩ : ∃ r0 r1 r2, fMake (a * d + c * b) (b * d) = (r0, r1, r2) := ⟨_, _, _, rfl⟩
 rw [hr] at hmk ⊢
 have HM := Lib.hid hmk
 obtain ⟨W3, hW3⟩ : ∃ W3, W3 = ((w.alloc (.cells #[.int .i64 a, .int .i64 b] 34)).alloc (.cells #[.int .i64 c, .int .i64 d] 34)).alloc (.cells #[.int .i64 0, .int .i64 0] 34) := ⟨_, rfl⟩
 have hby : Blk W3 (w.heap.size + 1 + 1) 34 [.int .i64 0, .int .i64 0] := by
  rw [hW3]
  have := heap_alloc_new ((w.alloc (.cells #[.int .i64 a, .int .i64 b] 34)).alloc (.cells #[.int .i64 c, .int .i64 d] 34)) (.cells #[.int .i64 0, .int .i64 0] 34)
  rw [World.size_alloc, World.size_alloc] at this
  exact this
 have hbw : Below w.heap.size w W3 := by rw [hW3]; exact bw_new (bw_new (bw_new (Below.refl _ w) _) _) _
 have HBY := Lib.hid hby
 have HBW := Lib.hid hbw
 have HE := Lib.hid (And.intro (And.intro e0 e1) (And.intro e2 e3))
 have HR := Lib.hid hr
 clear hboth hg1 hg2 hmk hr hby hbw e0 e1 e2 e3
 go_enter Tryz.func119, Tryz.ntmps119
 go_wp2_with fail
 rw [← hW3]
 refine (HB.out _).mono ?_
 rintro e w1 ⟨rfl, hb1⟩
 have HB1 := Lib.hid hb1
 have HBW1 := Lib.hid (HBW.out.trans (hb1.mono HBW.out.size))
 have HBY1 := Lib.hid (HBY.out.below hb1 HBY.out.lt)
 clear hb1 hW3
 go_wp2_with fail
 refine (fnAdd_any a b c d g h w1 ((HBW1.out.cell hg).trans HE.out.1.1) ((HBW1.out.cell hg).trans HE.out.1.2) ((HBW1.out.cell hh).trans HE.out.2.1) ((HBW1.out.cell hh).trans HE.out.2.2) HAB.out HCD.out).mono ?_
 rintro e w2 ⟨rfl, hb2⟩
 have HBW2 := Lib.hid (HBW1.out.trans (hb2.mono HBW1.out.size))
 have HBY2 := Lib.hid (HBY1.out.below hb2 HBY1.out.lt)
 clear hb2
 go_wp2_with fail
 refine (HM.out _).mono ?_
 rintro e w3 ⟨rfl, hb3⟩
 have HBW3 := Lib.hid (HBW2.out.trans (hb3.mono HBW2.out.size))
 have HBY3 := Lib.hid (HBY2.out.below hb3 HBY2.out.lt)
 clear hb3
 have c0 := HBY3.out.cell 0
 have c1 := HBY3.out.cell 1
 have f0 := HBY3.out.frozen 0
 have f1 := HBY3.out.frozen 1
 unfold fRet
 dsimp only
 go_wp2
 refine bodyPost_ret (v := .tuple #[.agg #[.int .i64 r0, .int .i64 r1], .int .i64 r2]) (by simp [results, Tryz.results119, go_sem, c0, c1]) rfl ⟨rfl, ?_⟩
 exact bw_set (bw_set HBW3.out (show w.heap.size ≤ w.heap.size + 1 + 1 by omega) _) (show w.heap.size ≤ w.heap.size + 1 + 1 by omega) _
set_option maxRecDepth 100000 in
set_option maxHeartbeats 2000000 in
theorem fAdd_any (a b c d : Int) (w : World) (hab : Right a b) (hcd : Right c d) :
  Calls Tryz.prog 150 #[.agg #[.int .i64 a, .int .i64 b], .agg #[.int .i64 c, .int .i64 d]] w fun e w' => e = .returned (fRet (fMake (a * d + c * b) (b * d))) ∧ Below w.heap.size w w' := by
 obtain ⟨W3, hW3⟩ : ∃ W3, W3 = ((w.alloc (.cells #[.int .i64 a, .int .i64 b] 34)).alloc (.cells #[.int .i64 c, .int .i64 d] 34)).alloc (.cells #[.int .i64 0, .int .i64 0] 34) := ⟨_, rfl⟩
 have hby : Blk W3 (w.heap.size + 1 + 1) 34 [.int .i64 0, .int .i64 0] := by
  rw [hW3]
  have := heap_alloc_new ((w.alloc (.cells #[.int .i64 a, .int .i64 b] 34)).alloc (.cells #[.int .i64 c, .int .i64 d] 34)) (.cells #[.int .i64 0, .int .i64 0] 34)
  rw [World.size_alloc, World.size_alloc] at this
  exact this
 have hbw : Below w.heap.size w W3 := by rw [hW3]; exact bw_new (bw_new (bw_new (Below.refl _ w) _) _) _
 have htb : TwoBox w a b c d W3 := by
  rw [hW3]
  exact (TwoBox.start w a b c d _ _).below (bw_new (Below.refl _ _) _)
 obtain ⟨r0, r1, r2, hr⟩ : ∃ r0 r1 r2, fMake (a * d + c * b) (b * d) = (r0, r1, r2) := ⟨_, _, _, rfl⟩
 have hl := lowAdd_any a b c d w.heap.size (w.heap.size + 1) W3 (by have := hby.lt; omega) (by have := hby.lt; omega) htb.1 htb.2.1 htb.2.2.1 htb.2.2.2.1 hab hcd
 rw [hr] at hl ⊢
 have HL := Lib.hid hl
 have HBY := Lib.hid hby
 have HBW := Lib.hid hbw
 have HR := Lib.hid hr
 clear hl hby hbw htb hr hab hcd
 go_enter Tryz.func150, Tryz.ntmps150
 go_wp2_with fail
 rw [← hW3]
 refine HL.out.mono ?_
 rintro e w3 ⟨rfl, hb3⟩
 have HBW3 := Lib.hid (HBW.out.trans (hb3.mono HBW.out.size))
 have HBY3 := Lib.hid (HBY.out.below hb3 HBY.out.lt)
 clear hb3 hW3
 have c0 := HBY3.out.cell 0
 have c1 := HBY3.out.cell 1
 have f0 := HBY3.out.frozen 0
 have f1 := HBY3.out.frozen 1
 unfold fRet
 dsimp only
 go_wp2
 refine bodyPost_ret (v := .tuple #[.agg #[.int .i64 r0, .int .i64 r1], .int .i64 r2]) (by simp [results, Tryz.results150, go_sem, c0, c1]) rfl ⟨rfl, ?_⟩
 exact bw_set (bw_set HBW3.out (show w.heap.size ≤ w.heap.size + 1 + 1 by omega) _) (show w.heap.size ≤ w.heap.size + 1 + 1 by omega) _
set_option maxRecDepth 100000 in
set_option maxHeartbeats 1000000 in
theorem fnSub_any (a b c d : Int) (g h : Nat) (w : World) (e0 : w.cell? ⟨g, 0, none⟩ = some (.int .i64 a)) (e1 : w.cell? ⟨g, 1, none⟩ = some (.int .i64 b)) (e2 : w.cell? ⟨h, 0, none⟩ = some (.int .i64 c)) (e3 : w.cell? ⟨h, 1, none⟩ = some (.int .i64 d)) (hab : Right a b) (hcd : Right c d) :
  Calls Tryz.prog 121 #[.pointer (some ⟨g, 0, none⟩), .pointer (some ⟨h, 0, none⟩)] w fun e w' => e = .returned (.tuple #[.int .i64 (a * d - c * b), .int .i64 (b * d)]) ∧ Below w.heap.size w w' := by
 obtain ⟨hb0, hb1, ha0, ha1, hg1⟩ := hab
 obtain ⟨hd0, hd1, hc0, hc1, hg2⟩ := hcd
 obtain ⟨m1, m2⟩ := mul_bd ha0 ha1 (show -1000000 ≤ d by omega) hd1
 obtain ⟨m3, m4⟩ := mul_bd hc0 hc1 (show -1000000 ≤ b by omega) hb1
 obtain ⟨m5, m6⟩ := mul_bd (show -1000000 ≤ b by omega) hb1 (show -1000000 ≤ d by omega) hd1
 obtain ⟨m7, m8⟩ := mul_bd ha0 ha1 hc0 hc1
 clear hg1 hg2
 go_enter Tryz.func121, Tryz.ntmps121
 go_wp2
 go_quiet (fail)
 go_wp2
 go_ret2
 exact ⟨rfl, below_drewN _ _ _⟩
set_option maxRecDepth 100000 in
set_option maxHeartbeats 2000000 in
theorem lowSub_any (a b c d : Int) (g h : Nat) (w : World) (hg : g < w.heap.size) (hh : h < w.heap.size) (e0 : w.cell? ⟨g, 0, none⟩ = some (.int .i64 a)) (e1 : w.cell? ⟨g, 1, none⟩ = some (.int .i64 b)) (e2 : w.cell? ⟨h, 0, none⟩ = some (.int .i64 c)) (e3 : w.cell? ⟨h, 1, none⟩ = some (.int .i64 d)) (hab : Right a b) (hcd : Right c d) :
  Calls Tryz.prog 119 #[.agg #[.int .i64 a, .int .i64 b], .agg #[.int .i64 c, .int .i64 d], .func (.func 121) #[] #[.pointer (some ⟨g, 0, none⟩), .pointer (some ⟨h, 0, none⟩)]] w fun e w' => e = .returned (fRet (fMake (a * d - c * b) (b * d))) ∧ Below w.heap.size w w' := by
 have HAB := Lib.hid hab
 have HCD := Lib.hid hcd
 obtain ⟨hb0, hb1, ha0, ha1, hg1⟩ := hab
 obtain ⟨hd0, hd1, hc0, hc1, hg2⟩ := hcd
 have hboth := fun W => fboth_any a b c d W ⟨by omega, by omega⟩ ⟨by omega, by omega⟩ ⟨by omega, by omega⟩ ⟨by omega, by omega⟩
 rw [fErr_ok HAB.out, fErr_ok HCD.out] at hboth
 have HB := Lib.hid hboth
 obtain ⟨m1, m2⟩ := mul_bd ha0 ha1 (show -1000000 ≤ d by omega) hd1
 obtain ⟨m3, m4⟩ := mul_bd hc0 hc1 (show -1000000 ≤ b by omega) hb1
 obtain ⟨m5, m6⟩ := mul_bd (show -1000000 ≤ b by omega) hb1 (show -1000000 ≤ d by omega) hd1
 obtain ⟨m7, m8⟩ := mul_bd ha0 ha1 hc0 hc1
 have hmk := fun W => make_any (a * d - c * b) (b * d) W ⟨by omega, by omega⟩ ⟨by omega, by omega⟩
 obtain ⟨r0, r1, r2, hr⟩ : ∃ r0 r1 r2, fMake (a * d - c * b) (b * d) = (r0, r1, r2) := ⟨_, _, _, rfl⟩
 rw [hr] at hmk ⊢
 have HM := Lib.hid hmk
 obtain ⟨W3, hW3⟩ : ∃ W3, W3 = ((w.alloc (.cells #[.int .i64 a, .int .i64 b] 34)).alloc (.cells #[.int .i64 c, .int .i64 d] 34)).alloc (.cells #[.int .i64 0, .int .i64 0] 34) := ⟨_, rfl⟩
 have hby : Blk W3 (w.heap.size + 1 + 1) 34 [.int .i64 0, .int .i64 0] := by
  rw [hW3]
  have := heap_alloc_new ((w.alloc (.cells #[.int .i64 a, .int .i64 b] 34)).alloc (.cells #[.int .i64 c, .int .i64 d] 34)) (.cells #[.int .i64 0, .int .i64 0] 34)
  rw [World.size_alloc, World.size_alloc] at this
  exact this
 have hbw : Below w.heap.size w W3 := by rw [hW3]; exact bw_new (bw_new (bw_new (Below.refl _ w) _) _) _
 have HBY := Lib.hid hby
 have HBW := Lib.hid hbw
 have HE := Lib.hid (And.intro (And.intro e0 e1) (And.intro e2 e3))
 have HR := Lib.hid hr
 clear hboth hg1 hg2 hmk hr hby hbw e0 e1 e2 e3
 go_enter Tryz.func119, Tryz.ntmps119
 go_wp2_with fail
 rw [← hW3]
 refine (HB.out _).mono ?_
 rintro e w1 ⟨rfl, hb1⟩
 have HB1 := Lib.hid hb1
 have HBW1 := Lib.hid (HBW.out.trans (hb1.mono HBW.out.size))
 have HBY1 := Lib.hid (HBY.out.below hb1 HBY.out.lt)
 clear hb1 hW3
 go_wp2_with fail
 refine (fnSub_any a b c d g h w1 ((HBW1.out.cell hg).trans HE.out.1.1) ((HBW1.out.cell hg).trans HE.out.1.2) ((HBW1.out.cell hh).trans HE.out.2.1) ((HBW1.out.cell hh).trans HE.out.2.2) HAB.out HCD.out).mono ?_
 rintro e w2 ⟨rfl, hb2⟩
 have HBW2 := Lib.hid (HBW1.out.trans (hb2.mono HBW1.out.size))
 have HBY2 := Lib.hid (HBY1.out.below hb2 HBY1.out.lt)
 clear hb2
 go_wp2_with fail
 refine (HM.out _).mono ?_
 rintro e w3 ⟨rfl, hb3⟩
 have HBW3 := Lib.hid (HBW2.out.trans (hb3.mono HBW2.out.size))
 have HBY3 := Lib.hid (HBY2.out.below hb3 HBY2.out.lt)
 clear hb3
 have c0 := HBY3.out.cell 0
 have c1 := HBY3.out.cell 1
 have f0 := HBY3.out.frozen 0
 have f1 := HBY3.out.frozen 1
 unfold fRet
 dsimp only
 go_wp2
 refine bodyPost_ret (v := .tuple #[.agg #[.int .i64 r0, .int .i64 r1], .int .i64 r2]) (by simp [results, Tryz.results119, go_sem, c0, c1]) rfl ⟨rfl, ?_⟩
 exact bw_set (bw_set HBW3.out (show w.heap.size ≤ w.heap.size + 1 + 1 by omega) _) (show w.heap.size ≤ w.heap.size + 1 + 1 by omega) _
set_option maxRecDepth 100000 in
set_option maxHeartbeats 2000000 in
theorem fSub_any (a b c d : Int) (w : World) (hab : Right a b) (hcd : Right c d) :
  Calls Tryz.prog 99 #[.agg #[.int .i64 a, .int .i64 b], .agg #[.int .i64 c, .int .i64 d]] w fun e w' => e = .returned (fRet (fMake (a * d - c * b) (b * d))) ∧ Below w.heap.size w w' := by
 obtain ⟨W3, hW3⟩ : ∃ W3, W3 = ((w.alloc (.cells #[.int .i64 a, .int .i64 b] 34)).alloc (.cells #[.int .i64 c, .int .i64 d] 34)).alloc (.cells #[.int .i64 0, .int .i64 0] 34) := ⟨_, rfl⟩
 have hby : Blk W3 (w.heap.size + 1 + 1) 34 [.int .i64 0, .int .i64 0] := by
  rw [hW3]
  have := heap_alloc_new ((w.alloc (.cells #[.int .i64 a, .int .i64 b] 34)).alloc (.cells #[.int .i64 c, .int .i64 d] 34)) (.cells #[.int .i64 0, .int .i64 0] 34)
  rw [World.size_alloc, World.size_alloc] at this
  exact this
 have hbw : Below w.heap.size w W3 := by rw [hW3]; exact bw_new (bw_new (bw_new (Below.refl _ w) _) _) _
 have htb : TwoBox w a b c d W3 := by
  rw [hW3]
  exact (TwoBox.start w a b c d _ _).below (bw_new (Below.refl _ _) _)
 obtain ⟨r0, r1, r2, hr⟩ : ∃ r0 r1 r2, fMake (a * d - c * b) (b * d) = (r0, r1, r2) := ⟨_, _, _, rfl⟩
 have hl := lowSub_any a b c d w.heap.size (w.heap.size + 1) W3 (by have := hby.lt; omega) (by have := hby.lt; omega) htb.1 htb.2.1 htb.2.2.1 htb.2.2.2.1 hab hcd
 rw [hr] at hl ⊢
 have HL := Lib.hid hl
 have HBY := Lib.hid hby
 have HBW := Lib.hid hbw
 have HR := Lib.hid hr
 clear hl hby hbw htb hr hab hcd
 go_enter Tryz.func99, Tryz.ntmps99
 go_wp2_with fail
 rw [← hW3]
 refine HL.out.mono ?_
 rintro e w3 ⟨rfl, hb3⟩
 have HBW3 := Lib.hid (HBW.out.trans (hb3.mono HBW.out.size))
 have HBY3 := Lib.hid (HBY.out.below hb3 HBY.out.lt)
 clear hb3 hW3
 have c0 := HBY3.out.cell 0
 have c1 := HBY3.out.cell 1
 have f0 := HBY3.out.frozen 0
 have f1 := HBY3.out.frozen 1
 unfold fRet
 dsimp only
 go_wp2
 refine bodyPost_ret (v := .tuple #[.agg #[.int .i64 r0, .int .i64 r1], .int .i64 r2]) (by simp [results, Tryz.results99, go_sem, c0, c1]) rfl ⟨rfl, ?_⟩
 exact bw_set (bw_set HBW3.out (show w.heap.size ≤ w.heap.size + 1 + 1 by omega) _) (show w.heap.size ≤ w.heap.size + 1 + 1 by omega) _
set_option maxRecDepth 100000 in
set_option maxHeartbeats 1000000 in
theorem fnMul_any (a b c d : Int) (g h : Nat) (w : World) (e0 : w.cell? ⟨g, 0, none⟩ = some (.int .i64 a)) (e1 : w.cell? ⟨g, 1, none⟩ = some (.int .i64 b)) (e2 : w.cell? ⟨h, 0, none⟩ = some (.int .i64 c)) (e3 : w.cell? ⟨h, 1, none⟩ = some (.int .i64 d)) (hab : Right a b) (hcd : Right c d) :
  Calls Tryz.prog 120 #[.pointer (some ⟨g, 0, none⟩), .pointer (some ⟨h, 0, none⟩)] w fun e w' => e = .returned (.tuple #[.int .i64 (a * c), .int .i64 (b * d)]) ∧ Below w.heap.size w w' := by
 obtain ⟨hb0, hb1, ha0, ha1, hg1⟩ := hab
 obtain ⟨hd0, hd1, hc0, hc1, hg2⟩ := hcd
 obtain ⟨m1, m2⟩ := mul_bd ha0 ha1 (show -1000000 ≤ d by omega) hd1
 obtain ⟨m3, m4⟩ := mul_bd hc0 hc1 (show -1000000 ≤ b by omega) hb1
 obtain ⟨m5, m6⟩ := mul_bd (show -1000000 ≤ b by omega) hb1 (show -1000000 ≤ d by omega) hd1
 obtain ⟨m7, m8⟩ := mul_bd ha0 ha1 hc0 hc1
 clear hg1 hg2
 go_enter Tryz.func120, Tryz.ntmps120
 go_wp2
 go_quiet (fail)
 go_wp2
 go_ret2
 exact ⟨rfl, below_drewN _ _ _⟩
set_option maxRecDepth 100000 in
set_option maxHeartbeats 2000000 in
theorem lowMul_any (a b c d : Int) (g h : Nat) (w : World) (hg : g < w.heap.size) (hh : h < w.heap.size) (e0 : w.cell? ⟨g, 0, none⟩ = some (.int .i64 a)) (e1 : w.cell? ⟨g, 1, none⟩ = some (.int .i64 b)) (e2 : w.cell? ⟨h, 0, none⟩ = some (.int .i64 c)) (e3 : w.cell? ⟨h, 1, none⟩ = some (.int .i64 d)) (hab : Right a b) (hcd : Right c d) :
  Calls Tryz.prog 119 #[.agg #[.int .i64 a, .int .i64 b], .agg #[.int .i64 c, .int .i64 d], .func (.func 120) #[] #[.pointer (some ⟨g, 0, none⟩), .pointer (some ⟨h, 0, none⟩)]] w fun e w' => e = .returned (fRet (fMake (a * c) (b * d))) ∧ Below w.heap.size w w' := by
 have HAB := Lib.hid hab
 have HCD := Lib.hid hcd
 obtain ⟨hb0, hb1, ha0, ha1, hg1⟩ := hab
 obtain ⟨hd0, hd1, hc0, hc1, hg2⟩ := hcd
 have hboth := fun W => fboth_any a b c d W ⟨by omega, by omega⟩ ⟨by omega, by omega⟩ ⟨by omega, by omega⟩ ⟨by omega, by omega⟩
 rw [fErr_ok HAB.out, fErr_ok HCD.out] at hboth
 have HB := Lib.hid hboth
 obtain ⟨m1, m2⟩ := mul_bd ha0 ha1 (show -1000000 ≤ d by omega) hd1
 obtain ⟨m3, m4⟩ := mul_bd hc0 hc1 (show -1000000 ≤ b by omega) hb1
 obtain ⟨m5, m6⟩ := mul_bd (show -1000000 ≤ b by omega) hb1 (show -1000000 ≤ d by omega) hd1
 obtain ⟨m7, m8⟩ := mul_bd ha0 ha1 hc0 hc1
 have hmk := fun W => make_any (a * c) (b * d) W ⟨by omega, by omega⟩ ⟨by omega, by omega⟩
 obtain ⟨r0, r1, r2, hr⟩ : ∃ r0 r1 r2, fMake (a * c) (b * d) = (r0, r1, r2) := ⟨_, _, _, rfl⟩
 rw [hr] at hmk ⊢
 have HM := Lib.hid hmk
 obtain ⟨W3, hW3⟩ : ∃ W3, W3 = ((w.alloc (.cells #[.int .i64 a, .int .i64 b] 34)).alloc (.cells #[.int .i64 c, .int .i64 d] 34)).alloc (.cells #[.int .i64 0, .int .i64 0] 34) := ⟨_, rfl⟩
 have hby : Blk W3 (w.heap.size + 1 + 1) 34 [.int .i64 0, .int .i64 0] := by
  rw [hW3]
  have := heap_alloc_new ((w.alloc (.cells #[.int .i64 a, .int .i64 b] 34)).alloc (.cells #[.int .i64 c, .int .i64 d] 34)) (.cells #[.int .i64 0, .int .i64 0] 34)
  rw [World.size_alloc, World.size_alloc] at this
  exact this
 have hbw : Below w.heap.size w W3 := by rw [hW3]; exact bw_new (bw_new (bw_new (Below.refl _ w) _) _) _
 have HBY := Lib.hid hby
 have HBW := Lib.hid hbw
 have HE := Lib.hid (And.intro (And.intro e0 e1) (And.intro e2 e3))
 have HR := Lib.hid hr
 clear hboth hg1 hg2 hmk hr hby hbw e0 e1 e2 e3
 go_enter Tryz.func119, Tryz.ntmps119
 go_wp2_with fail
 rw [← hW3]
 refine (HB.out _).mono ?_
 rintro e w1 ⟨rfl, hb1⟩
 have HB1 := Lib.hid hb1
 have HBW1 := Lib.hid (HBW.out.trans (hb1.mono HBW.out.size))
 have HBY1 := Lib.hid (HBY.out.below hb1 HBY.out.lt)
 clear hb1 hW3
 go_wp2_with fail
 refine (fnMul_any a b c d g h w1 ((HBW1.out.cell hg).trans HE.out.1.1) ((HBW1.out.cell hg).trans HE.out.1.2) ((HBW1.out.cell hh).trans HE.out.2.1) ((HBW1.out.cell hh).trans HE.out.2.2) HAB.out HCD.out).mono ?_
 rintro e w2 ⟨rfl, hb2⟩
 have HBW2 := Lib.hid (HBW1.out.trans (hb2.mono HBW1.out.size))
 have HBY2 := Lib.hid (HBY1.out.below hb2 HBY1.out.lt)
 clear hb2
 go_wp2_with fail
 refine (HM.out _).mono ?_
 rintro e w3 ⟨rfl, hb3⟩
 have HBW3 := Lib.hid (HBW2.out.trans (hb3.mono HBW2.out.size))
 have HBY3 := Lib.hid (HBY2.out.below hb3 HBY2.out.lt)
 clear hb3
 have c0 := HBY3.out.cell 0
 have c1 := HBY3.out.cell 1
 have f0 := HBY3.out.frozen 0
 have f1 := HBY3.out.frozen 1
 unfold fRet
 dsimp only
 go_wp2
 refine bodyPost_ret (v := .tuple #[.agg #[.int .i64 r0, .int .i64 r1], .int .i64 r2]) (by simp [results, Tryz.results119, go_sem, c0, c1]) rfl ⟨rfl, ?_⟩
 exact bw_set (bw_set HBW3.out (show w.heap.size ≤ w.heap.size + 1 + 1 by omega) _) (show w.heap.size ≤ w.heap.size + 1 + 1 by omega) _
set_option maxRecDepth 100000 in
set_option maxHeartbeats 2000000 in
theorem fMul_any (a b c d : Int) (w : World) (hab : Right a b) (hcd : Right c d) :
  Calls Tryz.prog 98 #[.agg #[.int .i64 a, .int .i64 b], .agg #[.int .i64 c, .int .i64 d]] w fun e w' => e = .returned (fRet (fMake (a * c) (b * d))) ∧ Below w.heap.size w w' := by
 obtain ⟨W3, hW3⟩ : ∃ W3, W3 = ((w.alloc (.cells #[.int .i64 a, .int .i64 b] 34)).alloc (.cells #[.int .i64 c, .int .i64 d] 34)).alloc (.cells #[.int .i64 0, .int .i64 0] 34) := ⟨_, rfl⟩
 have hby : Blk W3 (w.heap.size + 1 + 1) 34 [.int .i64 0, .int .i64 0] := by
  rw [hW3]
  have := heap_alloc_new ((w.alloc (.cells #[.int .i64 a, .int .i64 b] 34)).alloc (.cells #[.int .i64 c, .int .i64 d] 34)) (.cells #[.int .i64 0, .int .i64 0] 34)
  rw [World.size_alloc, World.size_alloc] at this
  exact this
 have hbw : Below w.heap.size w W3 := by rw [hW3]; exact bw_new (bw_new (bw_new (Below.refl _ w) _) _) _
 have htb : TwoBox w a b c d W3 := by
  rw [hW3]
  exact (TwoBox.start w a b c d _ _).below (bw_new (Below.refl _ _) _)
 obtain ⟨r0, r1, r2, hr⟩ : ∃ r0 r1 r2, fMake (a * c) (b * d) = (r0, r1, r2) := ⟨_, _, _, rfl⟩
 have hl := lowMul_any a b c d w.heap.size (w.heap.size + 1) W3 (by have := hby.lt; omega) (by have := hby.lt; omega) htb.1 htb.2.1 htb.2.2.1 htb.2.2.2.1 hab hcd
 rw [hr] at hl ⊢
 have HL := Lib.hid hl
 have HBY := Lib.hid hby
 have HBW := Lib.hid hbw
 have HR := Lib.hid hr
 clear hl hby hbw htb hr hab hcd
 go_enter Tryz.func98, Tryz.ntmps98
 go_wp2_with fail
 rw [← hW3]
 refine HL.out.mono ?_
 rintro e w3 ⟨rfl, hb3⟩
 have HBW3 := Lib.hid (HBW.out.trans (hb3.mono HBW.out.size))
 have HBY3 := Lib.hid (HBY.out.below hb3 HBY.out.lt)
 clear hb3 hW3
 have c0 := HBY3.out.cell 0
 have c1 := HBY3.out.cell 1
 have f0 := HBY3.out.frozen 0
 have f1 := HBY3.out.frozen 1
 unfold fRet
 dsimp only
 go_wp2
 refine bodyPost_ret (v := .tuple #[.agg #[.int .i64 r0, .int .i64 r1], .int .i64 r2]) (by simp [results, Tryz.results98, go_sem, c0, c1]) rfl ⟨rfl, ?_⟩
 exact bw_set (bw_set HBW3.out (show w.heap.size ≤ w.heap.size + 1 + 1 by omega) _) (show w.heap.size ≤ w.heap.size + 1 + 1 by omega) _
end
end Go.Proofs.YtendjepcjmfmfaaGreatDoor
namespace Go.Proofs.YtendjepcjmfmfaaGreatDoor
open Go.RowKit
abbrev Tm := Int × Int × Int × Int
def tmC (x : Tm) : List Value := [.int .i64 x.1, .int .i64 x.2.1, .int .i64 x.2.2.1, .int .i64 x.2.2.2]
def cirL (C : Nat → Tm) : List Value := (List.range 12).flatMap fun i => tmC (C i)
theorem flat_len (C : Nat → Tm) : ∀ n, ((List.range n).flatMap fun i => tmC (C i)).length = 4 * n
 | 0 => rfl
 | n + 1 => by
  rw [List.range_succ, List.flatMap_append, List.length_append, flat_len C n]
  simp [tmC]; omega
theorem cirL_len (C : Nat → Tm) : (cirL C).length = 48 := flat_len C 12
theorem flat_get (C : Nat → Tm) : ∀ n i j, i < n → j < 4 → ((List.range n).flatMap fun i => tmC (C i))[i * 4 + j]? = (tmC (C i))[j]?
 | 0, i, j, h, _ => absurd h (by omega)
 | n + 1, i, j, h, hj => by
  rw [List.range_succ, List.flatMap_append]
  by_cases e : i < n
  ·rw [List.getElem?_append_left (by rw [flat_len]; omega)]
   exact flat_get C n i j e hj
  ·obtain rfl : i = n := by omega
   rw [List.getElem?_append_right (by rw [flat_len]; omega), flat_len]
   simp [show i * 4 + j - 4 * i = j by omega]
theorem cirL_get (C : Nat → Tm) {i j : Nat} (hi : i < 12) (hj : j < 4) : (cirL C)[i * 4 + j]? = (tmC (C i))[j]? := flat_get C 12 i j hi hj
theorem cirL_ext {C C' : Nat → Tm} (h : ∀ i, i < 12 → C i = C' i) : cirL C = cirL C' := by
 unfold cirL
 have : ∀ l : List Nat, (∀ i ∈ l, i < 12) → l.flatMap (fun i => tmC (C i)) = l.flatMap (fun i => tmC (C' i)) := fun l => by
  induction l with
  | nil => intro _; rfl
  | cons a l ih =>
   intro hl
   rw [List.flatMap_cons, List.flatMap_cons, ih (fun i hi => hl i (List.mem_cons_of_mem _ hi)), h a (hl a List.mem_cons_self)]
 exact this _ (fun i hi => List.mem_range.1 hi)
theorem cir_extract (C : Nat → Tm) {i : Nat} (hi : i < 12) : (cirL C).toArray.extract (i * 4) (i * 4 + 4) = (tmC (C i)).toArray := by
 apply Array.ext_getElem?
 intro j
 by_cases hj : j < 4
 ·have := cirL_get C hi hj
  rw [Array.getElem?_extract]
  simp only [List.getElem?_toArray]
  rw [if_pos (by rw [List.size_toArray, cirL_len]; omega), this]
 ·rw [Array.getElem?_eq_none (by simp [cirL_len]; omega), Array.getElem?_eq_none (by simp [tmC]; omega)]
theorem infoCircle : (Tryz.prog.info? 38).map (·.size) = some 48 := by kernel_rfl
theorem index_cir (C : Nat → Tm) {i : Nat} (hi : i < 12) (W : World) :
  (Instr.index 38 (.agg (cirL C).toArray) (.int .i64 (i : Int))).run Tryz.prog W = .ok (.agg (tmC (C i)).toArray) W := by
 have hs : (sizeOf 36).run Tryz.prog W = .ok 4 W := by
  have : (Tryz.prog.info? 36).map (·.size) = some 4 := by kernel_rfl
  cases hq : Tryz.prog.info? 36 with
  | none => rw [hq] at this; cases this
  | some x => rw [hq] at this; simp at this; simp [sizeOf, typeInfo, hq, this]
 have hag : (isAgg 36).run Tryz.prog W = .ok true W := by
  unfold isAgg
  rw [Sem.run_bind, run_underlying Tryz.underlying36 W]
  rfl
 have h0 : (0 : Int) ≤ (i : Int) := by omega
 have h1 : (i : Int) < ((12 : Nat) : Int) := by omega
 simp only [Instr.index, asIntOf, Sem.run_bind, Sem.run_pure, Result.andThen_ok, run_underlying Tryz.underlying38]
 rw [if_pos ⟨h0, h1⟩]
 simp only [Sem.run_bind, hs, Result.andThen_ok, part, hag, if_true, Int.toNat_natCast, Sem.run_pure, cir_extract C hi]
end Go.Proofs.YtendjepcjmfmfaaGreatDoor
