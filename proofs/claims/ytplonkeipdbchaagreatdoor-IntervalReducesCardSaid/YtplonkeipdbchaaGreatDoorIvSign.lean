/- Package interval: sign, where the bounds decide; over and both. Conditions: exponents at most 10 to the power 12 (sign); the numbers are ints; the library's table of powers of ten reads as its text lays it. Equality of sizes. Conditions: none. -/
import Derived.Test.YtplonkeipdbchaaGreatDoorIvCents
import Derived.Laws.StructEq
namespace Go.Proofs.YtplonkeipdbchaaGreatDoor
section
section
open Go.RowKit Go.Op
theorem part_three (w : World) (x y z : Int) : ((part 3 #[.int .i64 x, .int .i64 y, .int .i64 z] (0 * 1)).run Tryz.prog w = .ok (.int .i64 x) w) ∧ ((part 3 #[.int .i64 x, .int .i64 y, .int .i64 z] (1 * 1)).run Tryz.prog w = .ok (.int .i64 y) w) ∧ ((part 3 #[.int .i64 x, .int .i64 y, .int .i64 z] (2 * 1)).run Tryz.prog w = .ok (.int .i64 z) w) := by
  refine ⟨?_, ?_, ?_⟩ <;> simp [go_sem]
theorem eqlIn_three (w : World) (a b c d e f : Int) (n : Nat) :
    (Op.equalIn (n + 2) 26 (.agg #[.int .i64 a, .int .i64 b, .int .i64 c]) (.agg #[.int .i64 d, .int .i64 e, .int .i64 f])).run Tryz.prog w = .ok (a == d && b == e && c == f) w := by
  have hs : (sizeOf 3).run Tryz.prog w = .ok 1 w := by simp [go_sem]
  have hi : ∀ (x y : Int), (Op.equalIn (n + 1) 3 (.int .i64 x) (.int .i64 y)).run Tryz.prog w = .ok (x == y) w := fun x y => run_equalIn_int w n _ _ _ _ _ Tryz.underlying3
  obtain ⟨h0, h1, h2⟩ := part_three w a b c
  obtain ⟨h3, h4, h5⟩ := part_three w d e f
  rw [show n + 2 = (n + 1) + 1 from rfl]
  unfold Op.equalIn
  simp only [Sem.run_bind, run_underlying Tryz.underlying26, Result.andThen_ok, hs]
  rw [Std.Legacy.Range.forIn_eq_forIn_range']
  simp [List.range', h0, h1, h2, h3, h4, h5, hi, Sem.run_bind, Result.andThen_ok]
  by_cases e1 : a = d <;> by_cases e2 : b = e <;> by_cases e3 : c = f <;> simp [e1, e2, e3]
theorem eql_three (w : World) (a b c d e f : Int) :
    (binOp .eql 26 (.agg #[.int .i64 a, .int .i64 b, .int .i64 c]) (.agg #[.int .i64 d, .int .i64 e, .int .i64 f])).run Tryz.prog w = .ok (.bool (a == d && b == e && c == f)) w := by
  rw [run_eql_struct]
  rw [eqlIn_three w a b c d e f 9998]
  rfl
end
open Go.RowKit

set_option maxRecDepth 100000 in
set_option maxHeartbeats 4000000 in
theorem isign_zero (w : World) : Calls Tryz.prog 41 #[.agg #[.int .i64 0, .int .i64 0, .int .i64 0]] w fun e w' => e = .returned (.int .i64 0) ∧ Below w.heap.size w w' := by
  have heq := fun W => eql_three W 0 0 0 0 0 0
  go_enter Tryz.func41, Tryz.ntmps41
  go_wp2
  go_ret
  exact ⟨rfl, bw_new (Below.refl _ _) _⟩

set_option maxRecDepth 100000 in
set_option maxHeartbeats 4000000 in
/-- sign, where the bounds decide. -/
theorem isign_dec (x y z s : Int) (w : World) (ht : Tab w) (hx : M12 x) (hy : M12 y) (hz : M12 z) (hn : ¬ (x = 0 ∧ y = 0 ∧ z = 0)) (h1 : sgn (loZ x y z) = s) (h2 : sgn (hiZ x y z) = s) (hs : s ≠ 0) :
    Calls Tryz.prog 41 #[.agg #[.int .i64 x, .int .i64 y, .int .i64 z]] w fun e w' => e = .returned (.int .i64 s) ∧ Below w.heap.size w w' := by
  have hbn := fun W hW => bounds_any x y z W hW hx hy hz
  have heq := fun W => eql_three W x y z 0 0 0
  have hf : (x == 0 && y == 0 && z == 0) = false := by
    by_cases e1 : x = 0 <;> by_cases e2 : y = 0 <;> by_cases e3 : z = 0 <;> simp [e1, e2, e3]
    exact hn ⟨e1, e2, e3⟩
  simp only [hf] at heq
  have hsa := fun W => sign_any (loZ x y z) W
  have hsb := fun W => sign_any (hiZ x y z) W
  rw [h1] at hsa
  rw [h2] at hsb
  obtain ⟨lo, hlo⟩ : ∃ a, a = dec (loZ x y z) := ⟨_, rfl⟩
  obtain ⟨hi, hhi⟩ : ∃ a, a = dec (hiZ x y z) := ⟨_, rfl⟩
  rw [← hlo, ← hhi] at hbn
  rw [← hlo] at hsa
  rw [← hhi] at hsb
  have hss : (s == 0) = false := by simpa using hs
  have hss2 : (s != 0) = true := by simpa using hs
  have HBN := Lib.hid hbn
  have HSA := Lib.hid hsa
  have HSB := Lib.hid hsb
  have HT := Lib.hid (ht.below (bw_new (Below.refl w.heap.size w) (.cells #[.int .i64 x, .int .i64 y, .int .i64 z] 26)))
  clear hbn hsa hsb hlo hhi hx hy hz hn h1 h2 hf ht
  go_enter Tryz.func41, Tryz.ntmps41
  go_wp2_with fail
  refine (HBN.out _ HT.out).mono ?_
  rintro e w1 ⟨rfl, hb⟩
  have HB := Lib.hid ((bw_new (Below.refl w.heap.size w) (.cells #[.int .i64 x, .int .i64 y, .int .i64 z] 26)).trans (hb.mono (by simp)))
  clear hb heq
  go_wp2_with fail
  refine (HSA.out _).mono ?_
  rintro e w2 ⟨rfl, rfl⟩
  go_wp2_with fail
  refine (HSB.out _).mono ?_
  rintro e w3 ⟨rfl, rfl⟩
  go_wp2
  go_ret
  exact ⟨rfl, HB.out⟩

set_option maxRecDepth 100000 in
set_option maxHeartbeats 4000000 in
theorem iboth_any (a0 b0 a1 b1 a2 b2 c0 d0 c1 d1 c2 d2 : Int) (w : World) (k1 : I64 a0) (k2 : I64 b0) (k3 : I64 a1) (k4 : I64 b1) (k5 : I64 a2) (k6 : I64 b2) (l1 : I64 c0) (l2 : I64 d0) (l3 : I64 c1) (l4 : I64 d1) (l5 : I64 c2) (l6 : I64 d2) :
    Calls Tryz.prog 42 #[szv a0 b0 a1 b1 a2 b2, szv c0 d0 c1 d1 c2 d2] w fun e w' =>
      e = .returned (.int .i64 (if ivE [(a0, b0), (a1, b1), (a2, b2)] ≠ 0 then ivE [(a0, b0), (a1, b1), (a2, b2)] else ivE [(c0, d0), (c1, d1), (c2, d2)])) ∧ Below w.heap.size w w' := by
  have hc := fun W => icheck_any a0 b0 a1 b1 a2 b2 W k1 k2 k3 k4 k5 k6
  have hd := fun W => icheck_any c0 d0 c1 d1 c2 d2 W l1 l2 l3 l4 l5 l6
  obtain ⟨r, hr⟩ : ∃ r, r = ivE [(a0, b0), (a1, b1), (a2, b2)] := ⟨_, rfl⟩
  obtain ⟨q, hq⟩ : ∃ q, q = ivE [(c0, d0), (c1, d1), (c2, d2)] := ⟨_, rfl⟩
  rw [← hr] at hc ⊢
  rw [← hq] at hd ⊢
  have HC := Lib.hid hc
  have HD := Lib.hid hd
  clear hc hd hr hq k1 k2 k3 k4 k5 k6 l1 l2 l3 l4 l5 l6
  have hx : Blk ((w.alloc (.cells #[.int .i64 a0, .int .i64 b0, .int .i64 a1, .int .i64 b1, .int .i64 a2, .int .i64 b2] 25)).alloc (.cells #[.int .i64 c0, .int .i64 d0, .int .i64 c1, .int .i64 d1, .int .i64 c2, .int .i64 d2] 25)) (w.heap.size + 1) 25 [.int .i64 c0, .int .i64 d0, .int .i64 c1, .int .i64 d1, .int .i64 c2, .int .i64 d2] := by
    have := heap_alloc_new (w.alloc (.cells #[.int .i64 a0, .int .i64 b0, .int .i64 a1, .int .i64 b1, .int .i64 a2, .int .i64 b2] 25)) (.cells #[.int .i64 c0, .int .i64 d0, .int .i64 c1, .int .i64 d1, .int .i64 c2, .int .i64 d2] 25)
    rw [World.size_alloc] at this
    exact this
  have HX := Lib.hid hx
  have HB0 := Lib.hid (bw_new (bw_new (Below.refl w.heap.size w) (.cells #[.int .i64 a0, .int .i64 b0, .int .i64 a1, .int .i64 b1, .int .i64 a2, .int .i64 b2] 25)) (.cells #[.int .i64 c0, .int .i64 d0, .int .i64 c1, .int .i64 d1, .int .i64 c2, .int .i64 d2] 25))
  clear hx
  by_cases h0 : r = 0
  · have hz1 : (r == 0) = true := by simpa using h0
    have hz2 : (r != 0) = false := by simpa using h0
    rw [if_neg (fun h => h h0)]
    clear h0
    go_enter Tryz.func42, Tryz.ntmps42
    go_wp2_with fail
    refine (HC.out _).mono ?_
    rintro e w1 ⟨rfl, hb⟩
    have HX1 := Lib.hid (HX.out.below hb HX.out.lt)
    have HB1 := Lib.hid (HB0.out.trans (hb.mono HB0.out.size))
    obtain ⟨e0, e1, e2, e3, e4, e5⟩ := six_of HX1.out
    clear hb
    go_wp2_with fail
    refine (HD.out _).mono ?_
    rintro e w2 ⟨rfl, hb⟩
    have HB2 := Lib.hid (HB1.out.trans (hb.mono HB1.out.size))
    clear hb e0 e1 e2 e3 e4 e5
    go_wp2
    go_ret
    exact ⟨rfl, HB2.out⟩
  · have hz1 : (r == 0) = false := by simpa using h0
    have hz2 : (r != 0) = true := by simpa using h0
    rw [if_pos h0]
    clear h0
    go_enter Tryz.func42, Tryz.ntmps42
    go_wp2_with fail
    refine (HC.out _).mono ?_
    rintro e w1 ⟨rfl, hb⟩
    have HB1 := Lib.hid (HB0.out.trans (hb.mono HB0.out.size))
    clear hb
    go_wp2
    go_ret
    exact ⟨rfl, HB1.out⟩
end

section
open Go.RowKit Go.Op

theorem eqlIn_frac (w : World) (a b c d : Int) (n : Nat) : (Op.equalIn (n + 2) 23 (.agg #[.int .i64 a, .int .i64 b]) (.agg #[.int .i64 c, .int .i64 d])).run Tryz.prog w = .ok (a == c && b == d) w := by
  have hi : ∀ (x y : Int), (Op.equalIn (n + 1) 3 (.int .i64 x) (.int .i64 y)).run Tryz.prog w = .ok (x == y) w := fun x y => run_equalIn_int w n _ _ _ _ _ Tryz.underlying3
  rw [show n + 2 = (n + 1) + 1 from rfl]
  rw [run_equalIn_struct w (n + 1) _ _ _ (by kernel_rfl) (by kernel_rfl)]
  simp [Program.fieldsOf, Tryz.underlying23, Op.eqFields, go_sem]
  by_cases e1 : a = c <;> by_cases e2 : b = d <;> simp [e1, e2]
theorem part_size (w : World) (a b c d e f : Value) : ((part 23 #[a, b, c, d, e, f] 0).run Tryz.prog w = .ok (.agg #[a, b]) w) ∧ ((part 23 #[a, b, c, d, e, f] 2).run Tryz.prog w = .ok (.agg #[c, d]) w) ∧ ((part 23 #[a, b, c, d, e, f] 4).run Tryz.prog w = .ok (.agg #[e, f]) w) := by
  refine ⟨?_, ?_, ?_⟩ <;> simp [go_sem]
/-- Whether two sizes are the same. -/
def szB (a0 b0 a1 b1 a2 b2 c0 d0 c1 d1 c2 d2 : Int) : Bool := (a0 == c0 && b0 == d0) && ((a1 == c1 && b1 == d1) && (a2 == c2 && b2 == d2))
theorem eqlIn_size (w : World) (a0 b0 a1 b1 a2 b2 c0 d0 c1 d1 c2 d2 : Int) (n : Nat) : (Op.equalIn (n + 3) 25 (szv a0 b0 a1 b1 a2 b2) (szv c0 d0 c1 d1 c2 d2)).run Tryz.prog w = .ok (szB a0 b0 a1 b1 a2 b2 c0 d0 c1 d1 c2 d2) w := by
  have h0 := eqlIn_frac w a0 b0 c0 d0 n
  have h1 := eqlIn_frac w a1 b1 c1 d1 n
  have h2 := eqlIn_frac w a2 b2 c2 d2 n
  have hs : szB a0 b0 a1 b1 a2 b2 c0 d0 c1 d1 c2 d2 = ((a0 == c0 && b0 == d0) && ((a1 == c1 && b1 == d1) && (a2 == c2 && b2 == d2))) := rfl
  rw [hs]
  clear hs
  generalize (a0 == c0 && b0 == d0) = x0 at h0 ⊢
  generalize (a1 == c1 && b1 == d1) = x1 at h1 ⊢
  generalize (a2 == c2 && b2 == d2) = x2 at h2 ⊢
  obtain ⟨p0, p1, p2⟩ := part_size w (.int .i64 a0) (.int .i64 b0) (.int .i64 a1) (.int .i64 b1) (.int .i64 a2) (.int .i64 b2)
  obtain ⟨q0, q1, q2⟩ := part_size w (.int .i64 c0) (.int .i64 d0) (.int .i64 c1) (.int .i64 d1) (.int .i64 c2) (.int .i64 d2)
  rw [show n + 3 = (n + 2) + 1 from rfl]
  rw [run_equalIn_struct w (n + 2) _ _ _ (by kernel_rfl) (by kernel_rfl)]
  simp [Program.fieldsOf, Tryz.underlying25, Op.eqFields, Sem.run_bind, p0, p1, p2, q0, q1, q2, h0, h1, h2, Result.andThen_ok, Sem.run_ite]
  cases x0 <;> cases x1 <;> cases x2 <;> rfl
theorem eql_size (w : World) (a0 b0 a1 b1 a2 b2 c0 d0 c1 d1 c2 d2 : Int) : (binOp .eql 25 (szv a0 b0 a1 b1 a2 b2) (szv c0 d0 c1 d1 c2 d2)).run Tryz.prog w = .ok (.bool (szB a0 b0 a1 b1 a2 b2 c0 d0 c1 d1 c2 d2)) w := by
  rw [run_eql_struct, eqlIn_size w a0 b0 a1 b1 a2 b2 c0 d0 c1 d1 c2 d2 9997]
  rfl
theorem neq_size (w : World) (a0 b0 a1 b1 a2 b2 c0 d0 c1 d1 c2 d2 : Int) : (binOp .neq 25 (szv a0 b0 a1 b1 a2 b2) (szv c0 d0 c1 d1 c2 d2)).run Tryz.prog w = .ok (.bool (!szB a0 b0 a1 b1 a2 b2 c0 d0 c1 d1 c2 d2)) w := by
  rw [run_neq_struct, eqlIn_size w a0 b0 a1 b1 a2 b2 c0 d0 c1 d1 c2 d2 9997]
  rfl
theorem szB_self (a b c d e f : Int) : szB a b c d e f a b c d e f = true := by simp [szB]
end
end Go.Proofs.YtplonkeipdbchaaGreatDoor
