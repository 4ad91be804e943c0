/- Part 35 of 37 of the proof of the law: contracts of the functions that it reaches, and plain facts. Conditions: those that each contract names. -/
import Derived.Test.YtlmheeommpbimaaGreatDoorEqualB34
import Derived.RegionTactic
import Derived.Deep.DeepCutAuto
namespace Go.Proofs.YtlmheeommpbimaaGreatDoor
open Go.RowKit
def nmS : Nat → ByteArray
  | 0 => ⟨#[101, 113, 117, 97, 108]⟩
  | 1 => ⟨#[112, 121, 116, 104, 97, 103, 111, 114, 101, 97, 110]⟩
  | 2 => ⟨#[109, 101, 97, 110, 116, 111, 110, 101]⟩
  | 3 => ⟨#[119, 101, 114, 99, 107, 109, 101, 105, 115, 116, 101, 114]⟩
  | 4 => ⟨#[118, 97, 108, 108, 111, 116, 116, 105]⟩
  | _ => ⟨#[107, 105, 114, 110, 98, 101, 114, 103, 101, 114]⟩
def nmD : Nat → Int
  | 0 => 12
  | 1 => 1
  | 2 => 4
  | 3 => 4
  | 4 => 6
  | _ => 4
def nmP : Nat → Nat → Int
  | 0 => fun _ => 1
  | 1 => fun i => if i = 8 then 1 else 0
  | 2 => fun i => if i = 8 then 4 else 0
  | 3 => fun i => if i = 0 ∨ i = 1 ∨ i = 2 ∨ i = 5 then 1 else 0
  | 4 => fun i => if i = 0 ∨ i = 1 ∨ i = 2 ∨ i = 3 ∨ i = 4 ∨ i = 11 then 1 else 0
  | _ => fun i => if i = 6 then 4 else 0
def nmQ : Nat → Nat → Int
  | 0 => fun _ => 0
  | 1 => fun _ => 0
  | 2 => fun i => if i = 8 then -11 else 1
  | 3 => fun _ => 0
  | 4 => fun _ => 0
  | _ => fun i => if i = 0 ∨ i = 1 ∨ i = 2 ∨ i = 3 then 1 else if i = 6 then -4 else 0
theorem nm_pln (k : Nat) : PlnC (nmD k) (nmP k) (nmQ k) := by
  match k with
  | 0 => exact ⟨(show (1 : Int) ≤ 12 ∧ (12 : Int) ≤ 12 by decide), fun i _ => by simp only [nmP]; (repeat' split) <;> decide, fun i _ => by simp only [nmQ]; (repeat' split) <;> decide⟩
  | 1 => exact ⟨(show (1 : Int) ≤ 1 ∧ (1 : Int) ≤ 12 by decide), fun i _ => by simp only [nmP]; (repeat' split) <;> decide, fun i _ => by simp only [nmQ]; (repeat' split) <;> decide⟩
  | 2 => exact ⟨(show (1 : Int) ≤ 4 ∧ (4 : Int) ≤ 12 by decide), fun i _ => by simp only [nmP]; (repeat' split) <;> decide, fun i _ => by simp only [nmQ]; (repeat' split) <;> decide⟩
  | 3 => exact ⟨(show (1 : Int) ≤ 4 ∧ (4 : Int) ≤ 12 by decide), fun i _ => by simp only [nmP]; (repeat' split) <;> decide, fun i _ => by simp only [nmQ]; (repeat' split) <;> decide⟩
  | 4 => exact ⟨(show (1 : Int) ≤ 6 ∧ (6 : Int) ≤ 12 by decide), fun i _ => by simp only [nmP]; (repeat' split) <;> decide, fun i _ => by simp only [nmQ]; (repeat' split) <;> decide⟩
  | _ + 5 => exact ⟨(show (1 : Int) ≤ 4 ∧ (4 : Int) ≤ 12 by decide), fun i _ => by simp only [nmP]; (repeat' split) <;> decide, fun i _ => by simp only [nmQ]; (repeat' split) <;> decide⟩
theorem cir12 {C C' : Nat → Tm} (h : (List.range 12).map C = (List.range 12).map C') : cirL C = cirL C' := cirL_ext fun i hi => by
  have := congrArg (fun l => l[i]?) h
  simpa [hi] using this
theorem tNamed_at (k : Nat) (hk : k < 6) (w : World) :
    Calls Tryz.prog 21 #[.string (nmS k)] w fun e w' => e = .returned (.tuple #[.agg (cirL (cirP (nmD k) (nmP k) (nmQ k))).toArray, .int .i64 0]) ∧ Below w.heap.size w w' := by
  match k, hk with
  | 0, _ =>
    have h := tNamed_equal w
    rw [cir12 (C := (temC (1, 12, 0, 1) [0, 1, 2, 3, 4, 5, 6, 7, 8, 9, 10, 11])) (C' := cirP (nmD 0) (nmP 0) (nmQ 0)) (by decide)] at h
    exact h
  | 1, _ =>
    have h := tNamed_pythagorean w
    rw [cir12 (C := (temC (1, 1, 0, 1) [8])) (C' := cirP (nmD 1) (nmP 1) (nmQ 1)) (by decide)] at h
    exact h
  | 2, _ =>
    have h := tNamed_meantone w
    rw [cir12 (C := (fun i => if i = 8 then (1, 1, -11, 4) else (0, 1, 1, 4))) (C' := cirP (nmD 2) (nmP 2) (nmQ 2)) (by decide)] at h
    exact h
  | 3, _ =>
    have h := tNamed_werckmeister w
    rw [cir12 (C := (temC (1, 4, 0, 1) [0, 1, 2, 5])) (C' := cirP (nmD 3) (nmP 3) (nmQ 3)) (by decide)] at h
    exact h
  | 4, _ =>
    have h := tNamed_vallotti w
    rw [cir12 (C := (temC (1, 6, 0, 1) [0, 1, 2, 3, 4, 11])) (C' := cirP (nmD 4) (nmP 4) (nmQ 4)) (by decide)] at h
    exact h
  | 5, _ =>
    have h := tNamed_kirnberger w
    rw [cir12 (C := (fun k => if k = 6 then (1, 1, -1, 1) else temC (0, 1, 1, 4) [0, 1, 2, 3] k)) (C' := cirP (nmD 5) (nmP 5) (nmQ 5)) (by decide)] at h
    exact h
def ptL (X : Nat → Int × Int) : List Value := (List.range 12).flatMap fun i => [.int .i8 (X i).1, .int .i8 (X i).2]
def plC (n : Int) (X : Nat → Int × Int) (d : Int) : List Value := .int .u8 n :: (ptL X ++ [.int .u8 d])
end Go.Proofs.YtlmheeommpbimaaGreatDoor
namespace Go.Proofs.YtlmheeommpbimaaGreatDoor
open Go.RowKit
set_option maxRecDepth 1000000 in
set_option maxHeartbeats 4000000 in
theorem tBetween_gen (C : Nat → Tm) (m n : Nat) (s0 s1 s2 s3 s4 s5 : Int) (w : World) (ht : Tab w) (hC : ∀ i, i < 12 → Tm64 (C i)) (hk : ckE C = 0) (hm : m ≤ 127) (hn : n ≤ 127)
    (hB : ∀ W, Tab W → Calls Tryz.prog 59 #[.agg (cirL C).toArray, .int .i64 (m : Int), .int .i64 (n : Int)] W fun e w' => e = .returned (.tuple #[szv s0 s1 s2 s3 s4 s5, .int .i64 0]) ∧ Below W.heap.size W w') :
    Calls Tryz.prog 22 #[.agg (cirL C).toArray, .int .i64 (m : Int), .int .i64 (n : Int)] w fun e w' => e = .returned (.tuple #[szv s0 s1 s2 s3 s4 s5, .int .i64 0]) ∧ Below w.heap.size w w' := by
  have hck := fun W => tcheck_any C W hC
  rw [hk] at hck
  have HCK := Lib.hid hck
  have HB := Lib.hid hB
  have HT := Lib.hid ht
  have hm0 := ((Hp.start w).new 33 (cirL C)).new 36 [.int .i64 0, .int .i64 0, .int .i64 0, .int .i64 0, .int .i64 0, .int .i64 0]
  simp only [World.size_alloc, List.nil_append, List.cons_append] at hm0
  have HM0 := Lib.hid hm0
  clear hm0 ht hB hck hk
  obtain ⟨x, hx⟩ : ∃ x : Int, x = (m : Int) := ⟨_, rfl⟩
  obtain ⟨y, hy⟩ : ∃ y : Int, y = (n : Int) := ⟨_, rfl⟩
  rw [← hx, ← hy] at HB
  rw [← hx, ← hy]
  have x0 : ¬ x < 0 := by omega
  have x1 : ¬ 127 < x := by omega
  have y0 : ¬ y < 0 := by omega
  have y1 : ¬ 127 < y := by omega
  clear hx hy hm hn
  go_enter Tryz.func22, Tryz.ntmps22
  go_wp2_with (refine wpList_load_row rfl 33 _ rfl w.heap.size rfl 33 (cirL C).toArray (0, 0) _ (HM0.out.at_ 0 rfl) Tryz.underlying33 rfl (by rw [infoCircle, List.size_toArray, cirL_len]) ?_)
  refine (HCK.out _).mono ?_
  rintro e w1 ⟨rfl, hb1⟩
  have HM1 := Lib.hid (HM0.out.step hb1)
  clear hb1
  go_wp2_with (refine wpList_load_row rfl 33 _ rfl w.heap.size rfl 33 (cirL C).toArray (0, 0) _ (HM1.out.at_ 0 rfl) Tryz.underlying33 rfl (by rw [infoCircle, List.size_toArray, cirL_len]) ?_)
  refine (HB.out _ (HT.out.below HM1.out.below)).mono ?_
  rintro e w2 ⟨rfl, hb2⟩
  have hq := HM1.out.step hb2
  obtain ⟨z0, z1, z2, z3, z4, z5⟩ := six_of (hq.at_ 1 rfl)
  obtain ⟨f0, f1, f2, f3, f4, f5⟩ := six_free (hq.at_ 1 rfl)
  have HQ := Lib.hid (hq.put6s 1 rfl (.int .i64 s0) (.int .i64 s1) (.int .i64 s2) (.int .i64 s3) (.int .i64 s4) (.int .i64 s5))
  clear hb2 hq
  go_wp2
  exact bodyPost_ret (v := .tuple #[szv s0 s1 s2 s3 s4 s5, .int .i64 0]) (by simp [results, Tryz.results22, go_sem, z0, z1, z2, z3, z4, z5, f0, f1, f2, f3, f4, f5]) rfl ⟨rfl, HQ.out⟩
theorem tBetween_pl {d : Int} {P S : Nat → Int} (h : PlnC d P S) {m n : Nat} (hm : m ≤ 127) (hn : n ≤ 127) (w : World) (ht : Tab w) :
    Calls Tryz.prog 22 #[.agg (cirL (cirP d P S)).toArray, .int .i64 (m : Int), .int .i64 (n : Int)] w fun e w' => e = .returned (.tuple #[szD (vB d P S m n).1 (vB d P S m n).2.1 (vB d P S m n).2.2 d, .int .i64 0]) ∧ Below w.heap.size w w' :=
  tBetween_gen (cirP d P S) m n _ _ _ _ _ _ w ht (plan_tm h) (ckE_pl h) hm hn (fun W hT => tbetween_pl h (by omega) (by omega) W hT)
end Go.Proofs.YtlmheeommpbimaaGreatDoor
namespace Go.Proofs.YtlmheeommpbimaaGreatDoor
open Go.RowKit
def MkP (w : World) (A : List (Nat × TypeId × List Value)) (base : Nat) (C : Nat → Tm) (m0 u v : Bool) (gn g : Nat) (W : World) : Prop :=
  BxP w A base 33 (cirL (fun _ => (0, 0, 0, 0))) (cirL C) u v g W ∧ (m0 = true → Blk W gn 9 ((List.range 6).map fun k => .string (nmS k)))
section
variable {w W W' : World} {A : List (Nat × TypeId × List Value)} {base : Nat} {C : Nat → Tm} {m0 u v : Bool} {gn g : Nat}
end
def plD (n d : Int) : Int := if n % 8 < 6 then nmD (n % 8).toNat else 1 + d % 6
def plP (n : Int) (X : Nat → Int × Int) (i : Nat) : Int := if n % 8 < 6 then nmP (n % 8).toNat i else (X i).1.tmod 4
def plQ (n : Int) (X : Nat → Int × Int) (i : Nat) : Int := if n % 8 < 6 then nmQ (n % 8).toNat i else (X i).2.tmod 4
end Go.Proofs.YtlmheeommpbimaaGreatDoor
namespace Go.Proofs.YtlmheeommpbimaaGreatDoor
section
open Go.RowKit Go.Op
theorem eqlIn_fr (w : World) (a b : Int) (n : Nat) : (Op.equalIn (n + 2) 29 (.agg #[.int .i64 a, .int .i64 b]) (.agg #[.int .i64 a, .int .i64 b])).run Tryz.prog w = .ok true w := by
  have hs : (sizeOf 3).run Tryz.prog w = .ok 1 w := by simp [go_sem]
  have hi : ∀ (x y : Int), (Op.equalIn (n + 1) 3 (.int .i64 x) (.int .i64 y)).run Tryz.prog w = .ok (x == y) w := fun x y => run_equalIn_int w n _ _ _ _ _ Tryz.underlying3
  rw [show n + 2 = (n + 1) + 1 from rfl]
  unfold Op.equalIn
  simp [Sem.run_bind, run_underlying Tryz.underlying29, Result.andThen_ok, hs, hi, go_sem]
theorem eqlIn_tm (w : World) (a b c d : Int) (n : Nat) : (Op.equalIn (n + 3) 31 (.agg #[.int .i64 a, .int .i64 b, .int .i64 c, .int .i64 d]) (.agg #[.int .i64 a, .int .i64 b, .int .i64 c, .int .i64 d])).run Tryz.prog w = .ok true w := by
  have hi : ∀ (x y : Int), (Op.equalIn (n + 2) 29 (.agg #[.int .i64 x, .int .i64 y]) (.agg #[.int .i64 x, .int .i64 y])).run Tryz.prog w = .ok true w := fun x y => eqlIn_fr w x y n
  rw [show n + 3 = (n + 2) + 1 from rfl]
  unfold Op.equalIn
  simp [Sem.run_bind, run_underlying Tryz.underlying31, Result.andThen_ok, hi, go_sem]
theorem part_cir (C : Nat → Tm) {i : Nat} (hi : i < 12) (W : World) : (part 31 (cirL C).toArray (i * 4)).run Tryz.prog W = .ok (.agg (tmC (C i)).toArray) W := by
  have hs : (sizeOf 31).run Tryz.prog W = .ok 4 W := by
    have : (Tryz.prog.info? 31).map (·.size) = some 4 := by kernel_rfl
    cases hq : Tryz.prog.info? 31 with
    | none => rw [hq] at this; cases this
    | some x => rw [hq] at this; simp at this; simp [sizeOf, typeInfo, hq, this]
  have hag : (isAgg 31).run Tryz.prog W = .ok true W := by
    unfold isAgg
    rw [Sem.run_bind, run_underlying Tryz.underlying31 W]
    rfl
  simp only [part, Sem.run_bind, hs, Result.andThen_ok, hag, if_true, Sem.run_pure, cir_extract C hi]
theorem eqlIn_cir (C : Nat → Tm) (w : World) (n : Nat) : (Op.equalIn (n + 4) 33 (.agg (cirL C).toArray) (.agg (cirL C).toArray)).run Tryz.prog w = .ok true w := by
  have hs : (sizeOf 31).run Tryz.prog w = .ok 4 w := by
    have : (Tryz.prog.info? 31).map (·.size) = some 4 := by kernel_rfl
    cases hq : Tryz.prog.info? 31 with
    | none => rw [hq] at this; cases this
    | some x => rw [hq] at this; simp at this; simp [sizeOf, typeInfo, hq, this]
  have hi : ∀ x : Tm, (Op.equalIn (n + 3) 31 (.agg (tmC x).toArray) (.agg (tmC x).toArray)).run Tryz.prog w = .ok true w := fun x => eqlIn_tm w _ _ _ _ n
  have hp := fun i (h : i < 12) => part_cir C h w
  have p0 := hp 0 (by decide)
  have p1 := hp 1 (by decide)
  have p2 := hp 2 (by decide)
  have p3 := hp 3 (by decide)
  have p4 := hp 4 (by decide)
  have p5 := hp 5 (by decide)
  have p6 := hp 6 (by decide)
  have p7 := hp 7 (by decide)
  have p8 := hp 8 (by decide)
  have p9 := hp 9 (by decide)
  have p10 := hp 10 (by decide)
  have p11 := hp 11 (by decide)
  clear hp
  rw [show n + 4 = (n + 3) + 1 from rfl]
  unfold Op.equalIn
  simp only [Sem.run_bind, run_underlying Tryz.underlying33, Result.andThen_ok, hs]
  rw [Std.Legacy.Range.forIn_eq_forIn_range']
  simp only [Nat.zero_mul, Nat.one_mul] at p0 p1
  simp [List.range', p0, p1, p2, p3, p4, p5, p6, p7, p8, p9, p10, p11, hi, Sem.run_bind, Result.andThen_ok]
theorem cir_eq (C : Nat → Tm) (w : World) : (binOp .eql 33 (.agg (cirL C).toArray) (.agg (cirL C).toArray)).run Tryz.prog w = .ok (.bool true) w := by
  rw [run_eql_struct]
  rw [eqlIn_cir C w 9996]
  rfl
theorem wpList_load_rowW {P : Program} {ops : Array Oper} {rest : List Oper} {o : Oper} {a : Act} {w : World} {Q : Exit → Act → World → Prop} (hw : Region.wanted o (yielded ops a.tmps) = true) (ty : TypeId) (x : Operand) (ho : o.op = .load ty x)
    (g : Nat) (hx : a.eval x = .pointer (some ⟨g, 0, none⟩)) (t : TypeId) (cs : Array Value) (fr : Nat × Nat) (d : TypeDesc) (hg : w.heap[g]? = some (.cells cs t fr))
    (hu : P.underlying ty = some d) (hd : (match d with | .struct _ | .array _ _ => true | _ => false) = true) (hi : (P.info? ty).map (·.size) = some cs.size)
    (h : wpList P ops Q rest (a.put o.dst (.agg cs)) w) : wpList P ops Q (o :: rest) a w :=
  wpList_step fun _ hK => by
    rw [if_pos hw]
    exact wp_load_row ty x ho g hx t cs fr d hg hu hd hi (hK _ _ h)
end
end Go.Proofs.YtlmheeommpbimaaGreatDoor
namespace Go.Proofs.YtlmheeommpbimaaGreatDoor
open Go.RowKit
theorem BxP.row {w W : World} {A : List (Nat × TypeId × List Value)} {base : Nat} {t : TypeId} {zs ns : List Value} {g : Nat} (h : BxP w A base t zs ns true false g W) (hw : w.heap.size ≤ base) : BxP w A base t zs ns true true g (W.setRow g ns.toArray) := by
  obtain ⟨h1, h2⟩ := h.ge hw
  have hb := h.b rfl rfl
  exact ⟨⟨below_setRow h.hp.below h1 _, fun p hp => ⟨(setRow_other W g p.1 _ (h2 p hp)).trans (h.hp.blk p hp).1, (h.hp.blk p hp).2⟩, h.hp.apart⟩, by rw [setRow_size]; exact h.sz, h.lo, h.gb, fun _ e => (by cases e), fun _ _ => setRow_heap W g _ _ _ _ hb⟩
theorem leq_of (w : World) : Calls Tryz.prog 25 #[.int .i64 1, .int .i64 0, .int .i64 0] w fun e w' => e = .returned (.tuple #[szv 1 1 0 1 0 1, .int .i64 0]) ∧ Below w.heap.size w w' := by
  have := tof_any 1 1 w (by decide) (by decide)
  unfold szD at this
  rw [show (1 : Int) * 1 = 1 from rfl, (t_low_one 1).1, (t_low_one 1).2, (t_low_one 0).1, (t_low_one 0).2] at this
  exact this
set_option maxRecDepth 1000000 in
set_option maxHeartbeats 4000000 in
theorem lequal_gen (sm y0 y1 : Int) (C M : Nat → Tm) (s n0 n1 a0 a1 a2 a3 a4 a5 l0 l1 : Int) (w : World) (ht : Tab w) (hsm : 0 ≤ sm ∧ sm < 256) (hs : sm % 37 = s)
    (e0 : 0 ≤ y0 ∧ y0 < 256) (e1 : 0 ≤ y1 ∧ y1 < 256) (g0 : y0 % 12 = n0) (g1 : y1 % 12 = n1)
    (hNE : ∀ W, Calls Tryz.prog 21 #[.string ⟨#[101, 113, 117, 97, 108]⟩] W fun e w' => e = .returned (.tuple #[.agg (cirL C).toArray, .int .i64 0]) ∧ Below W.heap.size W w')
    (hNM : ∀ W, Calls Tryz.prog 21 #[.string ⟨#[109, 101, 97, 110, 116, 111, 110, 101]⟩] W fun e w' => e = .returned (.tuple #[.agg (cirL M).toArray, .int .i64 0]) ∧ Below W.heap.size W w')
    (hB0 : ∀ W, Tab W → Calls Tryz.prog 22 #[.agg (cirL C).toArray, .int .i64 n0, .int .i64 (n0 + s)] W fun e w' => e = .returned (.tuple #[szv a0 a1 a2 a3 a4 a5, .int .i64 0]) ∧ Below W.heap.size W w')
    (hB1 : ∀ W, Tab W → Calls Tryz.prog 22 #[.agg (cirL C).toArray, .int .i64 n1, .int .i64 (n1 + s)] W fun e w' => e = .returned (.tuple #[szv a0 a1 a2 a3 a4 a5, .int .i64 0]) ∧ Below W.heap.size W w')
    (hRE : ∀ W, Calls Tryz.prog 24 #[.agg #[.int .i64 1, .int .i64 12, .int .i64 0, .int .i64 1]] W fun e w' => e = .returned (.tuple #[.agg (cirL C).toArray, .int .i64 0]) ∧ Below W.heap.size W w')
    (hRM : ∀ W, Calls Tryz.prog 24 #[.agg #[.int .i64 0, .int .i64 1, .int .i64 1, .int .i64 4]] W fun e w' => e = .returned (.tuple #[.agg (cirL M).toArray, .int .i64 0]) ∧ Below W.heap.size W w')
    (hLP : ∀ W, Calls Tryz.prog 23 #[.int .i64 s, .int .i64 12] W fun e w' => e = .returned (.agg #[.int .i64 l0, .int .i64 l1]) ∧ Below W.heap.size W w')
    (hSC : ∀ W, Calls Tryz.prog 26 #[szv 1 1 0 1 0 1, .agg #[.int .i64 l0, .int .i64 l1]] W fun e w' => e = .returned (.tuple #[szv a0 a1 a2 a3 a4 a5, .int .i64 0]) ∧ Below W.heap.size W w') :
    Calls Tryz.prog 4 #[.int .u8 sm, .agg #[.int .u8 y0, .int .u8 y1]] w fun e w' => e = .returned (.bool true) ∧ Below w.heap.size w w' := by
  have HKN := Lib.hid (fun W hT => tknown_any W hT)
  have HNE := Lib.hid hNE
  have HNM := Lib.hid hNM
  have HB0 := Lib.hid hB0
  have HB1 := Lib.hid hB1
  have HRE := Lib.hid hRE
  have HRM := Lib.hid hRM
  have HLP := Lib.hid hLP
  have HSC := Lib.hid hSC
  have HP0 := Lib.hid (fun W => lpart_at 0 1 0 1 W (by decide) (by decide) (by decide))
  have HP1 := Lib.hid (fun W => lpart_at 1 12 1 12 W (by decide) (by decide) (by decide))
  have HP2 := Lib.hid (fun W => lpart_at 1 4 1 4 W (by decide) (by decide) (by decide))
  have HOF := Lib.hid (fun W => leq_of W)
  have HT := Lib.hid ht
  have tm : ∀ y m k : Int, 0 ≤ y → y % k = m → y.tmod k = m := fun y m k h1 h2 => by rw [Int.tmod_eq_emod_of_nonneg h1, h2]
  have wm : ∀ m : Int, 0 ≤ m ∧ m < 128 → IntKind.u8.wrap m = m ∧ IntKind.i64.wrap m = m := fun m h => ⟨by unfold IntKind.wrap; simp [IntKind.bits, IntKind.signed]; omega, IntWalk.i64_in _ (by omega)⟩
  have t0 := tm sm s 37 hsm.1 hs
  have t1 := tm y0 n0 12 e0.1 g0
  have t2 := tm y1 n1 12 e1.1 g1
  obtain ⟨p0, q0⟩ := wm s (by omega)
  obtain ⟨p1, q1⟩ := wm n0 (by omega)
  obtain ⟨p2, q2⟩ := wm n1 (by omega)
  have w1' : IntKind.i64.wrap (n0 + s) = n0 + s := IntWalk.i64_in _ (by omega)
  have w2' : IntKind.i64.wrap (n1 + s) = n1 + s := IntWalk.i64_in _ (by omega)
  clear ht hNE hNM hB0 hB1 hRE hRM hLP hSC hsm hs e0 e1 g0 g1 tm wm
  have hm0 := (Hp.start w).new 54 [.int .u8 y0, .int .u8 y1]
  simp only [List.nil_append] at hm0
  have HM0 := Lib.hid hm0
  clear hm0
  go_enter Tryz.func4, Tryz.ntmps4
  go_wp2_with fail
  refine (HKN.out _ (HT.out.below HM0.out.below)).mono ?_
  rintro e w1 ⟨rfl, hb1⟩
  have HM1 := Lib.hid (HM0.out.step hb1)
  clear hb1
  go_wp2_with fail
  refine (HNE.out _).mono ?_
  rintro e w2 ⟨rfl, hb2⟩
  have hm2 := (HM1.out.step hb2).new 33 (cirL (fun _ => (0, 0, 0, 0)))
  simp only [List.nil_append, List.cons_append] at hm2
  have HM2 := Lib.hid hm2
  have hm3 := (hm2.row 1 rfl (cirL C)).cast (L' := [(w.heap.size, 54, [.int .u8 y0, .int .u8 y1]), (w2.heap.size, 33, cirL C)]) rfl
  have HM3 := Lib.hid hm3
  clear hb2 hm2 hm3
  go_wp2_with (refine wpList_store_rowTo rfl 33 _ _ rfl rfl (w2.heap.size) (cirL C).toArray rfl rfl 33 (cirL (fun _ => (0, 0, 0, 0))).toArray (HM2.out.at_ 1 rfl) (by rw [infoCircle, List.size_toArray, cirL_len]) (by rw [List.size_toArray, List.size_toArray, cirL_len, cirL_len]) (cir_one _) ?_)
  refine (HNM.out _).mono ?_
  rintro e w3 ⟨rfl, hb3⟩
  have hm4 := (HM3.out.step hb3).new 33 (cirL (fun _ => (0, 0, 0, 0)))
  simp only [List.nil_append, List.cons_append] at hm4
  have HM4 := Lib.hid hm4
  have hm5 := (hm4.row 2 rfl (cirL M)).cast (L' := [(w.heap.size, 54, [.int .u8 y0, .int .u8 y1]), (w2.heap.size, 33, cirL C), (w3.heap.size, 33, cirL M)]) rfl
  have HM5 : Hid (Hp w [(w.heap.size, 54, [.int .u8 y0, .int .u8 y1]), (w2.heap.size, 33, cirL C), (w3.heap.size, 33, cirL M)] ((w3.alloc (.cells #[.int .i64 0, .int .i64 0, .int .i64 0, .int .i64 0, .int .i64 0, .int .i64 0, .int .i64 0, .int .i64 0, .int .i64 0, .int .i64 0, .int .i64 0, .int .i64 0, .int .i64 0, .int .i64 0, .int .i64 0, .int .i64 0, .int .i64 0, .int .i64 0, .int .i64 0, .int .i64 0, .int .i64 0, .int .i64 0, .int .i64 0, .int .i64 0, .int .i64 0, .int .i64 0, .int .i64 0, .int .i64 0, .int .i64 0, .int .i64 0, .int .i64 0, .int .i64 0, .int .i64 0, .int .i64 0, .int .i64 0, .int .i64 0, .int .i64 0, .int .i64 0, .int .i64 0, .int .i64 0, .int .i64 0, .int .i64 0, .int .i64 0, .int .i64 0, .int .i64 0, .int .i64 0, .int .i64 0, .int .i64 0] 33)).setRow w3.heap.size (cirL M).toArray)) := Lib.hid hm5
  have v0 := (HM5.out.at_ 0 rfl).cell 0
  have v1 := (HM5.out.at_ 0 rfl).cell 1
  simp only [List.getElem?_cons_succ, List.getElem?_cons_zero] at v0 v1
  clear hb3 hm4 hm5
  go_wp2_with (first | (refine wpList_store_rowTo rfl 33 _ _ rfl rfl (w3.heap.size) (cirL M).toArray rfl rfl 33 (cirL (fun _ => (0, 0, 0, 0))).toArray (HM4.out.at_ 2 rfl) (by rw [infoCircle, List.size_toArray, cirL_len]) (by rw [List.size_toArray, List.size_toArray, cirL_len, cirL_len]) (cir_one _) ?_) | (refine wpList_load_row rfl 33 _ rfl (w2.heap.size) rfl 33 (cirL C).toArray (0, 0) _ (HM5.out.at_ 1 rfl) Tryz.underlying33 rfl (by rw [infoCircle, List.size_toArray, cirL_len]) ?_))
  refine (HB0.out _ (HT.out.below HM5.out.below)).mono ?_
  rintro e w5 ⟨rfl, hb5⟩
  have hm6 := (HM5.out.step hb5).new 36 [.int .i64 a0, .int .i64 a1, .int .i64 a2, .int .i64 a3, .int .i64 a4, .int .i64 a5]
  simp only [List.nil_append, List.cons_append] at hm6
  have HM6 := Lib.hid hm6
  clear v0 v1
  have v0 := (hm6.at_ 0 rfl).cell 0
  have v1 := (hm6.at_ 0 rfl).cell 1
  simp only [List.getElem?_cons_succ, List.getElem?_cons_zero] at v0 v1
  clear hb5 hm6
  go_wp2_with (refine wpList_load_row rfl 33 _ rfl (w2.heap.size) rfl 33 (cirL C).toArray (0, 0) _ (HM6.out.at_ 1 rfl) Tryz.underlying33 rfl (by rw [infoCircle, List.size_toArray, cirL_len]) ?_)
  refine (HB1.out _ (HT.out.below HM6.out.below)).mono ?_
  rintro e w6 ⟨rfl, hb6⟩
  have hm7 := (HM6.out.step hb6).new 36 [.int .i64 a0, .int .i64 a1, .int .i64 a2, .int .i64 a3, .int .i64 a4, .int .i64 a5]
  simp only [List.nil_append, List.cons_append] at hm7
  have HM7 := Lib.hid hm7
  clear hb6 hm7 v0 v1
  go_wp2_with fail
  refine (HP0.out _).mono ?_
  rintro e w7 ⟨rfl, hb7⟩
  have hm8 := (HM7.out.step hb7).new 29 [.int .i64 0, .int .i64 1]
  simp only [List.nil_append, List.cons_append] at hm8
  have HM8 := Lib.hid hm8
  clear hb7 hm8
  go_upto_region 9 with fail
  have HW9 := Lib.hid HM8.out.below.size
  refine wp_regionJ 10 #[false, false, false, false, false, false, false, false, false, false] (fun l a W => ∃ (m0 m1 m2 m3 m4 m5 m6 m7 m8 m9 : Bool) (gq : Nat), l = #[m0, m1, m2, m3, m4, m5, m6, m7, m8, m9] ∧ a = ({ tmps := #[Value.int IntKind.u8 sm, Value.agg #[Value.int IntKind.u8 y0, Value.int IntKind.u8 y1], undef, Value.pointer (some { block := w.heap.size, off := 0 }), Value.bool false, Value.pointer (some { block := w2.heap.size, off := 0 }), Value.int IntKind.i64 0, Value.pointer (some { block := w3.heap.size, off := 0 }), Value.int IntKind.i64 0, Value.int IntKind.i64 s, Value.pointer (some { block := w5.heap.size, off := 0 }), Value.int IntKind.i64 0, Value.pointer (some { block := w6.heap.size, off := 0 }), Value.int IntKind.i64 0, Value.pointer (some { block := w7.heap.size, off := 0 }), cwX m7 (.pointer (some ⟨gq, 0, none⟩)) (undef), cwX m9 (.int .i64 0) (undef), undef, undef, undef, undef, undef, undef, Value.bool true, Value.bool false, Value.tuple #[Value.agg (cirL C).toArray, Value.int IntKind.i64 0], Value.tuple #[Value.agg (cirL C).toArray, Value.int IntKind.i64 0], Value.agg (cirL C).toArray, Value.int IntKind.i64 0, Value.tuple #[Value.agg (cirL M).toArray, Value.int IntKind.i64 0], Value.tuple #[Value.agg (cirL M).toArray, Value.int IntKind.i64 0], Value.agg (cirL M).toArray, Value.int IntKind.i64 0, Value.int IntKind.u8 sm, Value.int IntKind.u8 s, Value.int IntKind.i64 s, Value.tuple #[szv a0 a1 a2 a3 a4 a5, Value.int IntKind.i64 0], Value.agg (cirL C).toArray, Value.pointer (some { block := w.heap.size, off := 0 }), Value.int IntKind.u8 y0, Value.int IntKind.u8 n0, Value.int IntKind.i64 n0, Value.pointer (some { block := w.heap.size, off := 0 }), Value.int IntKind.u8 y0, Value.int IntKind.u8 n0, Value.int IntKind.i64 n0, Value.int IntKind.i64 s, Value.int IntKind.i64 (n0 + s), Value.tuple #[szv a0 a1 a2 a3 a4 a5, Value.int IntKind.i64 0], szv a0 a1 a2 a3 a4 a5, Value.int IntKind.i64 0, Value.tuple #[szv a0 a1 a2 a3 a4 a5, Value.int IntKind.i64 0], Value.agg (cirL C).toArray, Value.pointer (some { block := w.heap.size, off := 1 }), Value.int IntKind.u8 y1, Value.int IntKind.u8 n1, Value.int IntKind.i64 n1, Value.pointer (some { block := w.heap.size, off := 1 }), Value.int IntKind.u8 y1, Value.int IntKind.u8 n1, Value.int IntKind.i64 n1, Value.int IntKind.i64 s, Value.int IntKind.i64 (n1 + s), Value.tuple #[szv a0 a1 a2 a3 a4 a5, Value.int IntKind.i64 0], szv a0 a1 a2 a3 a4 a5, Value.int IntKind.i64 0, Value.agg #[Value.int IntKind.i64 0, Value.int IntKind.i64 1], cwX m4 (.tuple #[.agg (cirL C).toArray, .int .i64 0]) (undef), cwX m0 (.agg #[.int .i64 1, .int .i64 12]) (undef), cwX m1 (.agg #[.int .i64 0, .int .i64 1]) (undef), cwX m2 (.agg #[.int .i64 1, .int .i64 12, .int .i64 0, .int .i64 1]) (undef), cwX m3 (.tuple #[.agg (cirL C).toArray, .int .i64 0]) (undef), cwX m5 (.agg (cirL C).toArray) (undef), cwX m6 (.int .i64 0) (undef), undef, undef, undef, undef, undef, undef, undef, undef, undef, undef, undef, undef, undef, undef, undef, undef, undef, undef, undef, undef, undef, undef, undef, undef, undef, undef, undef, undef, undef, undef, undef, undef, undef, undef, undef, undef, undef, undef, undef, undef, undef, undef, undef, undef, undef, undef, undef, undef, undef, undef, undef, undef, undef, undef, undef, undef, undef, undef, undef, undef, undef, undef, undef, undef, undef, undef, undef, undef], defers := [] } : Act) ∧ (m8 = true → m7 = true) ∧ BxP w [(w.heap.size, 54, [.int .u8 y0, .int .u8 y1]), (w2.heap.size, 33, cirL C), (w3.heap.size, 33, cirL M), (w5.heap.size, 36, [.int .i64 a0, .int .i64 a1, .int .i64 a2, .int .i64 a3, .int .i64 a4, .int .i64 a5]), (w6.heap.size, 36, [.int .i64 a0, .int .i64 a1, .int .i64 a2, .int .i64 a3, .int .i64 a4, .int .i64 a5]), (w7.heap.size, 29, [.int .i64 0, .int .i64 1])] (w7.alloc (.cells #[.int .i64 0, .int .i64 1] 29)).heap.size 33 (cirL (fun _ => (0, 0, 0, 0))) (cirL C) m7 m8 gq W) (by kernel_rfl) (by kernel_rfl) (by kernel_rfl) (by kernel_rfl) ?_ ?_ ?_ ?_
  · rintro l a W ⟨m0, m1, m2, m3, m4, m5, m6, m7, m8, m9, gq, rfl, _⟩
    rfl
  · exact ⟨false, false, false, false, false, false, false, false, false, false, 0, rfl, rfl, fun h => absurd h (by simp), ((BxP.start HM8.out).step (bw_drew (Below.refl _ _)))⟩
  · rintro l a W i o ⟨m0, m1, m2, m3, m4, m5, m6, m7, m8, m9, gq, rfl, rfl, hi0, hm⟩ ho hun hall K hK
    have hi : i < 10 := (Array.getElem?_eq_some_iff.1 ho).1
    have HM := Lib.hid hm
    have HI := Lib.hid hi0
    clear hm hi0
    rcases (show i = 0 ∨ i = 1 ∨ i = 2 ∨ i = 3 ∨ i = 4 ∨ i = 5 ∨ i = 6 ∨ i = 7 ∨ i = 8 ∨ i = 9 by omega) with rfl | rfl | rfl | rfl | rfl | rfl | rfl | rfl | rfl | rfl
    · obtain rfl := Option.some.inj (show some _ = some o from ho)
      obtain rfl : m0 = false := by simpa using hun
      clear hall hun hi ho
      go_simp
      refine (HP1.out _).mono ?_
      rintro e W' ⟨rfl, hb⟩
      exact hK.out _ _ ⟨true, m1, m2, m3, m4, m5, m6, m7, m8, m9, gq, rfl, rfl, by have h0 := HI.out; exact fun e => by first | rfl | exact h0 e, HM.out.step hb⟩
    · obtain rfl := Option.some.inj (show some _ = some o from ho)
      obtain rfl : m1 = false := by simpa using hun
      clear hall hun hi ho
      have x0 : W.cell? ⟨w7.heap.size, 0, none⟩ = some (.int .i64 0) := (HM.out.hp.at_ 5 rfl).cell 0
      have x1 : W.cell? ⟨w7.heap.size, 1, none⟩ = some (.int .i64 1) := (HM.out.hp.at_ 5 rfl).cell 1
      go_simp
      exact hK.out _ _ ⟨m0, true, m2, m3, m4, m5, m6, m7, m8, m9, gq, rfl, rfl, by have h0 := HI.out; exact fun e => by first | rfl | exact h0 e, HM.out⟩
    · obtain rfl := Option.some.inj (show some _ = some o from ho)
      obtain rfl : m0 = true := getBX hall 0 rfl
      obtain rfl : m1 = true := getBX hall 1 rfl
      obtain rfl : m2 = false := by simpa using hun
      clear hall hun hi ho
      go_simp
      exact hK.out _ _ ⟨true, true, true, m3, m4, m5, m6, m7, m8, m9, gq, rfl, rfl, by have h0 := HI.out; exact fun e => by first | rfl | exact h0 e, HM.out⟩
    · obtain rfl := Option.some.inj (show some _ = some o from ho)
      obtain rfl : m2 = true := getBX hall 2 rfl
      obtain rfl : m3 = false := by simpa using hun
      clear hall hun hi ho
      go_simp
      refine (HRE.out _).mono ?_
      rintro e W' ⟨rfl, hb⟩
      exact hK.out _ _ ⟨m0, m1, true, true, m4, m5, m6, m7, m8, m9, gq, rfl, rfl, by have h0 := HI.out; exact fun e => by first | rfl | exact h0 e, HM.out.step hb⟩
    · obtain rfl := Option.some.inj (show some _ = some o from ho)
      obtain rfl : m3 = true := getBX hall 3 rfl
      obtain rfl : m4 = false := by simpa using hun
      clear hall hun hi ho
      go_simp
      exact hK.out _ _ ⟨m0, m1, m2, true, true, m5, m6, m7, m8, m9, gq, rfl, rfl, by have h0 := HI.out; exact fun e => by first | rfl | exact h0 e, HM.out⟩
    · obtain rfl := Option.some.inj (show some _ = some o from ho)
      obtain rfl : m4 = true := getBX hall 4 rfl
      obtain rfl : m5 = false := by simpa using hun
      clear hall hun hi ho
      go_simp
      exact hK.out _ _ ⟨m0, m1, m2, m3, true, true, m6, m7, m8, m9, gq, rfl, rfl, by have h0 := HI.out; exact fun e => by first | rfl | exact h0 e, HM.out⟩
    · obtain rfl := Option.some.inj (show some _ = some o from ho)
      obtain rfl : m4 = true := getBX hall 4 rfl
      obtain rfl : m6 = false := by simpa using hun
      clear hall hun hi ho
      go_simp
      exact hK.out _ _ ⟨m0, m1, m2, m3, true, m5, true, m7, m8, m9, gq, rfl, rfl, by have h0 := HI.out; exact fun e => by first | rfl | exact h0 e, HM.out⟩
    · obtain rfl := Option.some.inj (show some _ = some o from ho)
      obtain rfl : m7 = false := by simpa using hun
      clear hall hun hi ho
      obtain rfl : m8 = false := by
        cases m8
        · rfl
        · exact absurd (HI.out rfl) (by simp)
      have HN := Lib.hid HM.out.new
      go_simp
      exact hK.out _ _ ⟨m0, m1, m2, m3, m4, m5, m6, true, false, m9, W.heap.size, rfl, rfl, by have h0 := HI.out; exact fun e => by first | rfl | exact h0 e, HN.out⟩
    · obtain rfl := Option.some.inj (show some _ = some o from ho)
      obtain rfl : m5 = true := getBX hall 5 rfl
      obtain rfl : m7 = true := getBX hall 7 rfl
      obtain rfl : m8 = false := by simpa using hun
      clear hall hun hi ho
      have HN := Lib.hid (HM.out.row HW9.out)
      have hbq := HM.out.b rfl rfl
      refine step_store_row rfl 33 _ _ rfl rfl gq (cirL C).toArray rfl rfl 33 (cirL (fun _ => (0, 0, 0, 0))).toArray hbq (by rw [infoCircle, List.size_toArray, cirL_len]) (by rw [List.size_toArray, List.size_toArray, cirL_len, cirL_len]) (cir_one _) ?_
      exact hK.out _ _ ⟨m0, m1, m2, m3, m4, true, m6, true, true, m9, gq, rfl, rfl, by have h0 := HI.out; exact fun e => by first | rfl | exact h0 e, HN.out⟩
    · obtain rfl := Option.some.inj (show some _ = some o from ho)
      obtain rfl : m6 = true := getBX hall 6 rfl
      obtain rfl : m9 = false := by simpa using hun
      clear hall hun hi ho
      go_simp
      exact hK.out _ _ ⟨m0, m1, m2, m3, m4, m5, true, m7, m8, true, gq, rfl, rfl, by have h0 := HI.out; exact fun e => by first | rfl | exact h0 e, HM.out⟩
  · rintro l a W9 ⟨m0, m1, m2, m3, m4, m5, m6, m7, m8, m9, g9, rfl, rfl, _, hm⟩ hall
    obtain rfl : m0 = true := hall 0 (by decide)
    obtain rfl : m1 = true := hall 1 (by decide)
    obtain rfl : m2 = true := hall 2 (by decide)
    obtain rfl : m3 = true := hall 3 (by decide)
    obtain rfl : m4 = true := hall 4 (by decide)
    obtain rfl : m5 = true := hall 5 (by decide)
    obtain rfl : m6 = true := hall 6 (by decide)
    obtain rfl : m7 = true := hall 7 (by decide)
    obtain rfl : m8 = true := hall 8 (by decide)
    obtain rfl : m9 = true := hall 9 (by decide)
    clear hall
    have HQ9 := Lib.hid (hm.done HW9.out)
    simp only [List.nil_append, List.cons_append] at HQ9
    clear hm
    dsimp only [cwX, cond_true]
    go_upto_region 10 with fail
    have HW10 := Lib.hid HQ9.out.below.size
    refine wp_regionJ 10 #[false, false, false, false, false, false, false, false, false, false] (fun l a W => ∃ (m0 m1 m2 m3 m4 m5 m6 m7 m8 m9 : Bool) (gq : Nat), l = #[m0, m1, m2, m3, m4, m5, m6, m7, m8, m9] ∧ a = ({ tmps := #[Value.int IntKind.u8 sm, Value.agg #[Value.int IntKind.u8 y0, Value.int IntKind.u8 y1], undef, Value.pointer (some { block := w.heap.size, off := 0 }), Value.bool false, Value.pointer (some { block := w2.heap.size, off := 0 }), Value.int IntKind.i64 0, Value.pointer (some { block := w3.heap.size, off := 0 }), Value.int IntKind.i64 0, Value.int IntKind.i64 s, Value.pointer (some { block := w5.heap.size, off := 0 }), Value.int IntKind.i64 0, Value.pointer (some { block := w6.heap.size, off := 0 }), Value.int IntKind.i64 0, Value.pointer (some { block := w7.heap.size, off := 0 }), Value.pointer (some { block := g9, off := 0 }), Value.int IntKind.i64 0, cwX m7 (.pointer (some ⟨gq, 0, none⟩)) (undef), cwX m9 (.int .i64 0) (undef), undef, undef, undef, undef, Value.bool true, Value.bool false, Value.tuple #[Value.agg (cirL C).toArray, Value.int IntKind.i64 0], Value.tuple #[Value.agg (cirL C).toArray, Value.int IntKind.i64 0], Value.agg (cirL C).toArray, Value.int IntKind.i64 0, Value.tuple #[Value.agg (cirL M).toArray, Value.int IntKind.i64 0], Value.tuple #[Value.agg (cirL M).toArray, Value.int IntKind.i64 0], Value.agg (cirL M).toArray, Value.int IntKind.i64 0, Value.int IntKind.u8 sm, Value.int IntKind.u8 s, Value.int IntKind.i64 s, Value.tuple #[szv a0 a1 a2 a3 a4 a5, Value.int IntKind.i64 0], Value.agg (cirL C).toArray, Value.pointer (some { block := w.heap.size, off := 0 }), Value.int IntKind.u8 y0, Value.int IntKind.u8 n0, Value.int IntKind.i64 n0, Value.pointer (some { block := w.heap.size, off := 0 }), Value.int IntKind.u8 y0, Value.int IntKind.u8 n0, Value.int IntKind.i64 n0, Value.int IntKind.i64 s, Value.int IntKind.i64 (n0 + s), Value.tuple #[szv a0 a1 a2 a3 a4 a5, Value.int IntKind.i64 0], szv a0 a1 a2 a3 a4 a5, Value.int IntKind.i64 0, Value.tuple #[szv a0 a1 a2 a3 a4 a5, Value.int IntKind.i64 0], Value.agg (cirL C).toArray, Value.pointer (some { block := w.heap.size, off := 1 }), Value.int IntKind.u8 y1, Value.int IntKind.u8 n1, Value.int IntKind.i64 n1, Value.pointer (some { block := w.heap.size, off := 1 }), Value.int IntKind.u8 y1, Value.int IntKind.u8 n1, Value.int IntKind.i64 n1, Value.int IntKind.i64 s, Value.int IntKind.i64 (n1 + s), Value.tuple #[szv a0 a1 a2 a3 a4 a5, Value.int IntKind.i64 0], szv a0 a1 a2 a3 a4 a5, Value.int IntKind.i64 0, Value.agg #[Value.int IntKind.i64 0, Value.int IntKind.i64 1], Value.tuple #[Value.agg (cirL C).toArray, Value.int IntKind.i64 0], Value.agg #[Value.int IntKind.i64 1, Value.int IntKind.i64 12], Value.agg #[Value.int IntKind.i64 0, Value.int IntKind.i64 1], Value.agg #[Value.int IntKind.i64 1, Value.int IntKind.i64 12, Value.int IntKind.i64 0, Value.int IntKind.i64 1], Value.tuple #[Value.agg (cirL C).toArray, Value.int IntKind.i64 0], Value.agg (cirL C).toArray, Value.int IntKind.i64 0, cwX m4 (.tuple #[.agg (cirL M).toArray, .int .i64 0]) (undef), cwX m0 (.agg #[.int .i64 0, .int .i64 1]) (undef), cwX m1 (.agg #[.int .i64 1, .int .i64 4]) (undef), cwX m2 (.agg #[.int .i64 0, .int .i64 1, .int .i64 1, .int .i64 4]) (undef), cwX m3 (.tuple #[.agg (cirL M).toArray, .int .i64 0]) (undef), cwX m5 (.agg (cirL M).toArray) (undef), cwX m6 (.int .i64 0) (undef), undef, undef, undef, undef, undef, undef, undef, undef, undef, undef, undef, undef, undef, undef, undef, undef, undef, undef, undef, undef, undef, undef, undef, undef, undef, undef, undef, undef, undef, undef, undef, undef, undef, undef, undef, undef, undef, undef, undef, undef, undef, undef, undef, undef, undef, undef, undef, undef, undef, undef, undef, undef, undef, undef, undef, undef, undef, undef, undef, undef, undef], defers := [] } : Act) ∧ (m8 = true → m7 = true) ∧ BxP w [(w.heap.size, 54, [.int .u8 y0, .int .u8 y1]), (w2.heap.size, 33, cirL C), (w3.heap.size, 33, cirL M), (w5.heap.size, 36, [.int .i64 a0, .int .i64 a1, .int .i64 a2, .int .i64 a3, .int .i64 a4, .int .i64 a5]), (w6.heap.size, 36, [.int .i64 a0, .int .i64 a1, .int .i64 a2, .int .i64 a3, .int .i64 a4, .int .i64 a5]), (w7.heap.size, 29, [.int .i64 0, .int .i64 1]), (g9, 33, cirL C)] W9.heap.size 33 (cirL (fun _ => (0, 0, 0, 0))) (cirL M) m7 m8 gq W) (by kernel_rfl) (by kernel_rfl) (by kernel_rfl) (by kernel_rfl) ?_ ?_ ?_ ?_
    · rintro l a W ⟨m0, m1, m2, m3, m4, m5, m6, m7, m8, m9, gq, rfl, _⟩
      rfl
    · exact ⟨false, false, false, false, false, false, false, false, false, false, 0, rfl, rfl, fun h => absurd h (by simp), ((BxP.start HQ9.out).step (bw_drew (Below.refl _ _)))⟩
    · rintro l a W i o ⟨m0, m1, m2, m3, m4, m5, m6, m7, m8, m9, gq, rfl, rfl, hi0, hm⟩ ho hun hall K hK
      have hi : i < 10 := (Array.getElem?_eq_some_iff.1 ho).1
      have HM := Lib.hid hm
      have HI := Lib.hid hi0
      clear hm hi0
      rcases (show i = 0 ∨ i = 1 ∨ i = 2 ∨ i = 3 ∨ i = 4 ∨ i = 5 ∨ i = 6 ∨ i = 7 ∨ i = 8 ∨ i = 9 by omega) with rfl | rfl | rfl | rfl | rfl | rfl | rfl | rfl | rfl | rfl
      · obtain rfl := Option.some.inj (show some _ = some o from ho)
        obtain rfl : m0 = false := by simpa using hun
        clear hall hun hi ho
        have x0 : W.cell? ⟨w7.heap.size, 0, none⟩ = some (.int .i64 0) := (HM.out.hp.at_ 5 rfl).cell 0
        have x1 : W.cell? ⟨w7.heap.size, 1, none⟩ = some (.int .i64 1) := (HM.out.hp.at_ 5 rfl).cell 1
        go_simp
        exact hK.out _ _ ⟨true, m1, m2, m3, m4, m5, m6, m7, m8, m9, gq, rfl, rfl, by have h0 := HI.out; exact fun e => by first | rfl | exact h0 e, HM.out⟩
      · obtain rfl := Option.some.inj (show some _ = some o from ho)
        obtain rfl : m1 = false := by simpa using hun
        clear hall hun hi ho
        go_simp
        refine (HP2.out _).mono ?_
        rintro e W' ⟨rfl, hb⟩
        exact hK.out _ _ ⟨m0, true, m2, m3, m4, m5, m6, m7, m8, m9, gq, rfl, rfl, by have h0 := HI.out; exact fun e => by first | rfl | exact h0 e, HM.out.step hb⟩
      · obtain rfl := Option.some.inj (show some _ = some o from ho)
        obtain rfl : m0 = true := getBX hall 0 rfl
        obtain rfl : m1 = true := getBX hall 1 rfl
        obtain rfl : m2 = false := by simpa using hun
        clear hall hun hi ho
        go_simp
        exact hK.out _ _ ⟨true, true, true, m3, m4, m5, m6, m7, m8, m9, gq, rfl, rfl, by have h0 := HI.out; exact fun e => by first | rfl | exact h0 e, HM.out⟩
      · obtain rfl := Option.some.inj (show some _ = some o from ho)
        obtain rfl : m2 = true := getBX hall 2 rfl
        obtain rfl : m3 = false := by simpa using hun
        clear hall hun hi ho
        go_simp
        refine (HRM.out _).mono ?_
        rintro e W' ⟨rfl, hb⟩
        exact hK.out _ _ ⟨m0, m1, true, true, m4, m5, m6, m7, m8, m9, gq, rfl, rfl, by have h0 := HI.out; exact fun e => by first | rfl | exact h0 e, HM.out.step hb⟩
      · obtain rfl := Option.some.inj (show some _ = some o from ho)
        obtain rfl : m3 = true := getBX hall 3 rfl
        obtain rfl : m4 = false := by simpa using hun
        clear hall hun hi ho
        go_simp
        exact hK.out _ _ ⟨m0, m1, m2, true, true, m5, m6, m7, m8, m9, gq, rfl, rfl, by have h0 := HI.out; exact fun e => by first | rfl | exact h0 e, HM.out⟩
      · obtain rfl := Option.some.inj (show some _ = some o from ho)
        obtain rfl : m4 = true := getBX hall 4 rfl
        obtain rfl : m5 = false := by simpa using hun
        clear hall hun hi ho
        go_simp
        exact hK.out _ _ ⟨m0, m1, m2, m3, true, true, m6, m7, m8, m9, gq, rfl, rfl, by have h0 := HI.out; exact fun e => by first | rfl | exact h0 e, HM.out⟩
      · obtain rfl := Option.some.inj (show some _ = some o from ho)
        obtain rfl : m4 = true := getBX hall 4 rfl
        obtain rfl : m6 = false := by simpa using hun
        clear hall hun hi ho
        go_simp
        exact hK.out _ _ ⟨m0, m1, m2, m3, true, m5, true, m7, m8, m9, gq, rfl, rfl, by have h0 := HI.out; exact fun e => by first | rfl | exact h0 e, HM.out⟩
      · obtain rfl := Option.some.inj (show some _ = some o from ho)
        obtain rfl : m7 = false := by simpa using hun
        clear hall hun hi ho
        obtain rfl : m8 = false := by
          cases m8
          · rfl
          · exact absurd (HI.out rfl) (by simp)
        have HN := Lib.hid HM.out.new
        go_simp
        exact hK.out _ _ ⟨m0, m1, m2, m3, m4, m5, m6, true, false, m9, W.heap.size, rfl, rfl, by have h0 := HI.out; exact fun e => by first | rfl | exact h0 e, HN.out⟩
      · obtain rfl := Option.some.inj (show some _ = some o from ho)
        obtain rfl : m5 = true := getBX hall 5 rfl
        obtain rfl : m7 = true := getBX hall 7 rfl
        obtain rfl : m8 = false := by simpa using hun
        clear hall hun hi ho
        have HN := Lib.hid (HM.out.row HW10.out)
        have hbq := HM.out.b rfl rfl
        refine step_store_row rfl 33 _ _ rfl rfl gq (cirL M).toArray rfl rfl 33 (cirL (fun _ => (0, 0, 0, 0))).toArray hbq (by rw [infoCircle, List.size_toArray, cirL_len]) (by rw [List.size_toArray, List.size_toArray, cirL_len, cirL_len]) (cir_one _) ?_
        exact hK.out _ _ ⟨m0, m1, m2, m3, m4, true, m6, true, true, m9, gq, rfl, rfl, by have h0 := HI.out; exact fun e => by first | rfl | exact h0 e, HN.out⟩
      · obtain rfl := Option.some.inj (show some _ = some o from ho)
        obtain rfl : m6 = true := getBX hall 6 rfl
        obtain rfl : m9 = false := by simpa using hun
        clear hall hun hi ho
        go_simp
        exact hK.out _ _ ⟨m0, m1, m2, m3, m4, m5, true, m7, m8, true, gq, rfl, rfl, by have h0 := HI.out; exact fun e => by first | rfl | exact h0 e, HM.out⟩
    · rintro l a W10 ⟨m0, m1, m2, m3, m4, m5, m6, m7, m8, m9, g10, rfl, rfl, _, hm⟩ hall
      obtain rfl : m0 = true := hall 0 (by decide)
      obtain rfl : m1 = true := hall 1 (by decide)
      obtain rfl : m2 = true := hall 2 (by decide)
      obtain rfl : m3 = true := hall 3 (by decide)
      obtain rfl : m4 = true := hall 4 (by decide)
      obtain rfl : m5 = true := hall 5 (by decide)
      obtain rfl : m6 = true := hall 6 (by decide)
      obtain rfl : m7 = true := hall 7 (by decide)
      obtain rfl : m8 = true := hall 8 (by decide)
      obtain rfl : m9 = true := hall 9 (by decide)
      clear hall
      have HQ10 := Lib.hid (hm.done HW10.out)
      simp only [List.nil_append, List.cons_append] at HQ10
      clear hm
      dsimp only [cwX, cond_true]
      go_wp2_with fail
      refine (HOF.out _).mono ?_
      rintro e w8 ⟨rfl, hb8⟩
      have hm9 := (HQ10.out.step hb8).new 36 [.int .i64 1, .int .i64 1, .int .i64 0, .int .i64 1, .int .i64 0, .int .i64 1]
      simp only [List.nil_append, List.cons_append] at hm9
      have HM9 := Lib.hid hm9
      clear hb8 hm9
      go_upto_region 12 with fail
      
      have HW12 := Lib.hid HM9.out.below.size
      refine wp_regionJ 10 #[false, false, false, false, false, false, false, false, false, false] (fun l a W => ∃ (m0 m1 m2 m3 m4 m5 m6 m7 m8 m9 : Bool) (gq : Nat), l = #[m0, m1, m2, m3, m4, m5, m6, m7, m8, m9] ∧ a = ({ tmps := #[Value.int IntKind.u8 sm, Value.agg #[Value.int IntKind.u8 y0, Value.int IntKind.u8 y1], undef, Value.pointer (some { block := w.heap.size, off := 0 }), Value.bool false, Value.pointer (some { block := w2.heap.size, off := 0 }), Value.int IntKind.i64 0, Value.pointer (some { block := w3.heap.size, off := 0 }), Value.int IntKind.i64 0, Value.int IntKind.i64 s, Value.pointer (some { block := w5.heap.size, off := 0 }), Value.int IntKind.i64 0, Value.pointer (some { block := w6.heap.size, off := 0 }), Value.int IntKind.i64 0, Value.pointer (some { block := w7.heap.size, off := 0 }), Value.pointer (some { block := g9, off := 0 }), Value.int IntKind.i64 0, Value.pointer (some { block := g10, off := 0 }), Value.int IntKind.i64 0, Value.pointer (some { block := w8.heap.size, off := 0 }), Value.int IntKind.i64 0, cwX m7 (.pointer (some ⟨gq, 0, none⟩)) (undef), cwX m9 (.int .i64 0) (undef), Value.bool true, Value.bool false, Value.tuple #[Value.agg (cirL C).toArray, Value.int IntKind.i64 0], Value.tuple #[Value.agg (cirL C).toArray, Value.int IntKind.i64 0], Value.agg (cirL C).toArray, Value.int IntKind.i64 0, Value.tuple #[Value.agg (cirL M).toArray, Value.int IntKind.i64 0], Value.tuple #[Value.agg (cirL M).toArray, Value.int IntKind.i64 0], Value.agg (cirL M).toArray, Value.int IntKind.i64 0, Value.int IntKind.u8 sm, Value.int IntKind.u8 s, Value.int IntKind.i64 s, Value.tuple #[szv a0 a1 a2 a3 a4 a5, Value.int IntKind.i64 0], Value.agg (cirL C).toArray, Value.pointer (some { block := w.heap.size, off := 0 }), Value.int IntKind.u8 y0, Value.int IntKind.u8 n0, Value.int IntKind.i64 n0, Value.pointer (some { block := w.heap.size, off := 0 }), Value.int IntKind.u8 y0, Value.int IntKind.u8 n0, Value.int IntKind.i64 n0, Value.int IntKind.i64 s, Value.int IntKind.i64 (n0 + s), Value.tuple #[szv a0 a1 a2 a3 a4 a5, Value.int IntKind.i64 0], szv a0 a1 a2 a3 a4 a5, Value.int IntKind.i64 0, Value.tuple #[szv a0 a1 a2 a3 a4 a5, Value.int IntKind.i64 0], Value.agg (cirL C).toArray, Value.pointer (some { block := w.heap.size, off := 1 }), Value.int IntKind.u8 y1, Value.int IntKind.u8 n1, Value.int IntKind.i64 n1, Value.pointer (some { block := w.heap.size, off := 1 }), Value.int IntKind.u8 y1, Value.int IntKind.u8 n1, Value.int IntKind.i64 n1, Value.int IntKind.i64 s, Value.int IntKind.i64 (n1 + s), Value.tuple #[szv a0 a1 a2 a3 a4 a5, Value.int IntKind.i64 0], szv a0 a1 a2 a3 a4 a5, Value.int IntKind.i64 0, Value.agg #[Value.int IntKind.i64 0, Value.int IntKind.i64 1], Value.tuple #[Value.agg (cirL C).toArray, Value.int IntKind.i64 0], Value.agg #[Value.int IntKind.i64 1, Value.int IntKind.i64 12], Value.agg #[Value.int IntKind.i64 0, Value.int IntKind.i64 1], Value.agg #[Value.int IntKind.i64 1, Value.int IntKind.i64 12, Value.int IntKind.i64 0, Value.int IntKind.i64 1], Value.tuple #[Value.agg (cirL C).toArray, Value.int IntKind.i64 0], Value.agg (cirL C).toArray, Value.int IntKind.i64 0, Value.tuple #[Value.agg (cirL M).toArray, Value.int IntKind.i64 0], Value.agg #[Value.int IntKind.i64 0, Value.int IntKind.i64 1], Value.agg #[Value.int IntKind.i64 1, Value.int IntKind.i64 4], Value.agg #[Value.int IntKind.i64 0, Value.int IntKind.i64 1, Value.int IntKind.i64 1, Value.int IntKind.i64 4], Value.tuple #[Value.agg (cirL M).toArray, Value.int IntKind.i64 0], Value.agg (cirL M).toArray, Value.int IntKind.i64 0, Value.tuple #[szv 1 1 0 1 0 1, Value.int IntKind.i64 0], Value.tuple #[szv 1 1 0 1 0 1, Value.int IntKind.i64 0], szv 1 1 0 1 0 1, Value.int IntKind.i64 0, cwX m4 (.tuple #[szv a0 a1 a2 a3 a4 a5, .int .i64 0]) (undef), cwX m0 (szv 1 1 0 1 0 1) (undef), cwX m1 (.int .i64 s) (undef), cwX m2 (.agg #[.int .i64 l0, .int .i64 l1]) (undef), cwX m3 (.tuple #[szv a0 a1 a2 a3 a4 a5, .int .i64 0]) (undef), cwX m5 (szv a0 a1 a2 a3 a4 a5) (undef), cwX m6 (.int .i64 0) (undef), undef, undef, undef, undef, undef, undef, undef, undef, undef, undef, undef, undef, undef, undef, undef, undef, undef, undef, undef, undef, undef, undef, undef, undef, undef, undef, undef, undef, undef, undef, undef, undef, undef, undef, undef, undef, undef, undef, undef, undef, undef, undef, undef, undef, undef, undef, undef, undef, undef, undef], defers := [] } : Act) ∧ (m8 = true → m7 = true) ∧ BxP w [(w.heap.size, 54, [.int .u8 y0, .int .u8 y1]), (w2.heap.size, 33, cirL C), (w3.heap.size, 33, cirL M), (w5.heap.size, 36, [.int .i64 a0, .int .i64 a1, .int .i64 a2, .int .i64 a3, .int .i64 a4, .int .i64 a5]), (w6.heap.size, 36, [.int .i64 a0, .int .i64 a1, .int .i64 a2, .int .i64 a3, .int .i64 a4, .int .i64 a5]), (w7.heap.size, 29, [.int .i64 0, .int .i64 1]), (g9, 33, cirL C), (g10, 33, cirL M), (w8.heap.size, 36, [.int .i64 1, .int .i64 1, .int .i64 0, .int .i64 1, .int .i64 0, .int .i64 1])] (w8.alloc (.cells #[.int .i64 1, .int .i64 1, .int .i64 0, .int .i64 1, .int .i64 0, .int .i64 1] 36)).heap.size 36 [.int .i64 0, .int .i64 0, .int .i64 0, .int .i64 0, .int .i64 0, .int .i64 0] [.int .i64 a0, .int .i64 a1, .int .i64 a2, .int .i64 a3, .int .i64 a4, .int .i64 a5] m7 m8 gq W) (by kernel_rfl) (by kernel_rfl) (by kernel_rfl) (by kernel_rfl) ?_ ?_ ?_ ?_
      · rintro l a W ⟨m0, m1, m2, m3, m4, m5, m6, m7, m8, m9, gq, rfl, _⟩
        rfl
      · exact ⟨false, false, false, false, false, false, false, false, false, false, 0, rfl, rfl, fun h => absurd h (by simp), ((BxP.start HM9.out).step (bw_drew (Below.refl _ _)))⟩
      · rintro l a W i o ⟨m0, m1, m2, m3, m4, m5, m6, m7, m8, m9, gq, rfl, rfl, hi0, hm⟩ ho hun hall K hK
        have hi : i < 10 := (Array.getElem?_eq_some_iff.1 ho).1
        have HM := Lib.hid hm
        have HI := Lib.hid hi0
        clear hm hi0
        rcases (show i = 0 ∨ i = 1 ∨ i = 2 ∨ i = 3 ∨ i = 4 ∨ i = 5 ∨ i = 6 ∨ i = 7 ∨ i = 8 ∨ i = 9 by omega) with rfl | rfl | rfl | rfl | rfl | rfl | rfl | rfl | rfl | rfl
        · obtain rfl := Option.some.inj (show some _ = some o from ho)
          obtain rfl : m0 = false := by simpa using hun
          clear hall hun hi ho
          obtain ⟨y0', y1', y2', y3', y4', y5'⟩ := six_of (HM.out.hp.at_ 8 rfl)
          go_simp
          exact hK.out _ _ ⟨true, m1, m2, m3, m4, m5, m6, m7, m8, m9, gq, rfl, rfl, by have h0 := HI.out; exact fun e => by first | rfl | exact h0 e, HM.out⟩
        · obtain rfl := Option.some.inj (show some _ = some o from ho)
          obtain rfl : m1 = false := by simpa using hun
          clear hall hun hi ho
          go_simp
          exact hK.out _ _ ⟨m0, true, m2, m3, m4, m5, m6, m7, m8, m9, gq, rfl, rfl, by have h0 := HI.out; exact fun e => by first | rfl | exact h0 e, HM.out⟩
        · obtain rfl := Option.some.inj (show some _ = some o from ho)
          obtain rfl : m1 = true := getBX hall 1 rfl
          obtain rfl : m2 = false := by simpa using hun
          clear hall hun hi ho
          go_simp
          refine (HLP.out _).mono ?_
          rintro e W' ⟨rfl, hb⟩
          exact hK.out _ _ ⟨m0, true, true, m3, m4, m5, m6, m7, m8, m9, gq, rfl, rfl, by have h0 := HI.out; exact fun e => by first | rfl | exact h0 e, HM.out.step hb⟩
        · obtain rfl := Option.some.inj (show some _ = some o from ho)
          obtain rfl : m0 = true := getBX hall 0 rfl
          obtain rfl : m2 = true := getBX hall 2 rfl
          obtain rfl : m3 = false := by simpa using hun
          clear hall hun hi ho
          go_simp
          refine (HSC.out _).mono ?_
          rintro e W' ⟨rfl, hb⟩
          exact hK.out _ _ ⟨true, m1, true, true, m4, m5, m6, m7, m8, m9, gq, rfl, rfl, by have h0 := HI.out; exact fun e => by first | rfl | exact h0 e, HM.out.step hb⟩
        · obtain rfl := Option.some.inj (show some _ = some o from ho)
          obtain rfl : m3 = true := getBX hall 3 rfl
          obtain rfl : m4 = false := by simpa using hun
          clear hall hun hi ho
          go_simp
          exact hK.out _ _ ⟨m0, m1, m2, true, true, m5, m6, m7, m8, m9, gq, rfl, rfl, by have h0 := HI.out; exact fun e => by first | rfl | exact h0 e, HM.out⟩
        · obtain rfl := Option.some.inj (show some _ = some o from ho)
          obtain rfl : m4 = true := getBX hall 4 rfl
          obtain rfl : m5 = false := by simpa using hun
          clear hall hun hi ho
          go_simp
          exact hK.out _ _ ⟨m0, m1, m2, m3, true, true, m6, m7, m8, m9, gq, rfl, rfl, by have h0 := HI.out; exact fun e => by first | rfl | exact h0 e, HM.out⟩
        · obtain rfl := Option.some.inj (show some _ = some o from ho)
          obtain rfl : m4 = true := getBX hall 4 rfl
          obtain rfl : m6 = false := by simpa using hun
          clear hall hun hi ho
          go_simp
          exact hK.out _ _ ⟨m0, m1, m2, m3, true, m5, true, m7, m8, m9, gq, rfl, rfl, by have h0 := HI.out; exact fun e => by first | rfl | exact h0 e, HM.out⟩
        · obtain rfl := Option.some.inj (show some _ = some o from ho)
          obtain rfl : m7 = false := by simpa using hun
          clear hall hun hi ho
          obtain rfl : m8 = false := by
            cases m8
            · rfl
            · exact absurd (HI.out rfl) (by simp)
          have HN := Lib.hid HM.out.new
          go_simp
          exact hK.out _ _ ⟨m0, m1, m2, m3, m4, m5, m6, true, false, m9, W.heap.size, rfl, rfl, by have h0 := HI.out; exact fun e => by first | rfl | exact h0 e, HN.out⟩
        · obtain rfl := Option.some.inj (show some _ = some o from ho)
          obtain rfl : m5 = true := getBX hall 5 rfl
          obtain rfl : m7 = true := getBX hall 7 rfl
          obtain rfl : m8 = false := by simpa using hun
          clear hall hun hi ho
          have z0 := (HM.out.b rfl rfl).cell 0
          have f0 := (HM.out.b rfl rfl).frozen 0
          have z1 := (HM.out.b rfl rfl).cell 1
          have f1 := (HM.out.b rfl rfl).frozen 1
          have z2 := (HM.out.b rfl rfl).cell 2
          have f2 := (HM.out.b rfl rfl).frozen 2
          have z3 := (HM.out.b rfl rfl).cell 3
          have f3 := (HM.out.b rfl rfl).frozen 3
          have z4 := (HM.out.b rfl rfl).cell 4
          have f4 := (HM.out.b rfl rfl).frozen 4
          have z5 := (HM.out.b rfl rfl).cell 5
          have f5 := (HM.out.b rfl rfl).frozen 5
          simp only [List.getElem?_cons_succ, List.getElem?_cons_zero] at z0 z1 z2 z3 z4 z5
          have HN := Lib.hid (HM.out.put6 HW12.out)
          go_simp
          exact hK.out _ _ ⟨m0, m1, m2, m3, m4, true, m6, true, true, m9, gq, rfl, rfl, by have h0 := HI.out; exact fun e => by first | rfl | exact h0 e, HN.out⟩
        · obtain rfl := Option.some.inj (show some _ = some o from ho)
          obtain rfl : m6 = true := getBX hall 6 rfl
          obtain rfl : m9 = false := by simpa using hun
          clear hall hun hi ho
          go_simp
          exact hK.out _ _ ⟨m0, m1, m2, m3, m4, m5, true, m7, m8, true, gq, rfl, rfl, by have h0 := HI.out; exact fun e => by first | rfl | exact h0 e, HM.out⟩
      · rintro l a W ⟨m0, m1, m2, m3, m4, m5, m6, m7, m8, m9, gq, rfl, rfl, _, hm⟩ hall
        obtain rfl : m0 = true := hall 0 (by decide)
        obtain rfl : m1 = true := hall 1 (by decide)
        obtain rfl : m2 = true := hall 2 (by decide)
        obtain rfl : m3 = true := hall 3 (by decide)
        obtain rfl : m4 = true := hall 4 (by decide)
        obtain rfl : m5 = true := hall 5 (by decide)
        obtain rfl : m6 = true := hall 6 (by decide)
        obtain rfl : m7 = true := hall 7 (by decide)
        obtain rfl : m8 = true := hall 8 (by decide)
        obtain rfl : m9 = true := hall 9 (by decide)
        clear hall
        have HQ12 := Lib.hid (hm.done HW12.out)
        simp only [List.nil_append, List.cons_append] at HQ12
        clear hm
        dsimp only [cwX, cond_true]
        have hz := HQ12.out
        obtain ⟨i0, i1, i2, i3, i4, i5⟩ := six_of (hz.at_ 3 rfl)
        obtain ⟨j0, j1, j2, j3, j4, j5⟩ := six_of (hz.at_ 4 rfl)
        obtain ⟨k0, k1, k2, k3, k4, k5⟩ := six_of (hz.at_ 9 rfl)
        have HB := Lib.hid hz.below
        clear hz
        have heC := fun W => cir_eq C W
        have heM := fun W => cir_eq M W
        go_wp2_with (first | (refine wpList_load_rowW rfl 33 _ rfl (g9) rfl 33 (cirL C).toArray (0, 0) _ (HQ12.out.at_ 6 rfl) Tryz.underlying33 rfl (by rw [infoCircle, List.size_toArray, cirL_len]) ?_) | (refine wpList_load_rowW rfl 33 _ rfl (w2.heap.size) rfl 33 (cirL C).toArray (0, 0) _ (HQ12.out.at_ 1 rfl) Tryz.underlying33 rfl (by rw [infoCircle, List.size_toArray, cirL_len]) ?_) | (refine wpList_load_rowW rfl 33 _ rfl (g10) rfl 33 (cirL M).toArray (0, 0) _ (HQ12.out.at_ 7 rfl) Tryz.underlying33 rfl (by rw [infoCircle, List.size_toArray, cirL_len]) ?_) | (refine wpList_load_rowW rfl 33 _ rfl (w3.heap.size) rfl 33 (cirL M).toArray (0, 0) _ (HQ12.out.at_ 2 rfl) Tryz.underlying33 rfl (by rw [infoCircle, List.size_toArray, cirL_len]) ?_))
        exact bodyPost_ret (v := .bool true) (by simp [results, Tryz.results4, go_sem]) rfl ⟨rfl, HB.out⟩
theorem eq_vN : ∀ n, n < 12 → vN 12 (nmP 0) (nmQ 0) n = ((n : Int), 0, 0) := by decide
theorem eq_vB {n s : Nat} (hn : n < 12) (hs : s < 37) : vB 12 (nmP 0) (nmQ 0) n (n + s) = ((s : Int), 0, 0) := by
  have a := eq_vN (n % 12) (by omega)
  have b := eq_vN ((n + s) % 12) (by omega)
  simp only [vB, vP, a, b]
  refine Prod.ext ?_ (by rfl)
  show ((n + s) % 12 : Nat) + 12 * (((n + s) / 12 : Nat) : Int) - (((n % 12 : Nat) : Int) + 12 * ((n / 12 : Nat) : Int)) = s
  omega
theorem lequal_any (sm y0 y1 : Int) (w : World) (ht : Tab w) (hsm : 0 ≤ sm ∧ sm < 256) (e0 : 0 ≤ y0 ∧ y0 < 256) (e1 : 0 ≤ y1 ∧ y1 < 256) :
    Calls Tryz.prog 4 #[.int .u8 sm, .agg #[.int .u8 y0, .int .u8 y1]] w fun e w' => e = .returned (.bool true) ∧ Below w.heap.size w w' := by
  obtain ⟨s, hs⟩ : ∃ s : Nat, sm % 37 = (s : Int) := ⟨(sm % 37).toNat, by omega⟩
  obtain ⟨n0, h0⟩ : ∃ n : Nat, y0 % 12 = (n : Int) := ⟨(y0 % 12).toNat, by omega⟩
  obtain ⟨n1, h1⟩ : ∃ n : Nat, y1 % 12 = (n : Int) := ⟨(y1 % 12).toNat, by omega⟩
  have h := nm_pln 0
  have hm := nm_pln 2
  have hE := fun W => tRegular_equal W
  have hM := fun W => tRegular_mean W
  have rE := cir12 (C := fun i => if i = 8 then (1, 12, 0, 1) else (1, 12, 0, 1)) (C' := cirP (nmD 0) (nmP 0) (nmQ 0)) (by decide)
  have rM := cir12 (C := fun i => if i = 8 then (1, 1, -11, 4) else (0, 1, 1, 4)) (C' := cirP (nmD 2) (nmP 2) (nmQ 2)) (by decide)
  rw [rE] at hE
  rw [rM] at hM
  have hB := fun (n : Nat) (hn : n < 12) (W : World) (hT : Tab W) => tBetween_pl h (m := n) (n := n + s) (by omega) (by omega) W hT
  refine lequal_gen sm y0 y1 (cirP (nmD 0) (nmP 0) (nmQ 0)) (cirP (nmD 2) (nmP 2) (nmQ 2)) (s : Int) (n0 : Int) (n1 : Int) (lowN (s : Int) 12) (lowD (s : Int) 12) (lowN 0 12) (lowD 0 12) (lowN 0 12) (lowD 0 12) (lowN (s : Int) 12) (lowD (s : Int) 12) w ht hsm hs e0 e1 h0 h1 (fun W => tNamed_at 0 (by decide) W) (fun W => tNamed_at 2 (by decide) W) (fun W hT => ?_) (fun W hT => ?_) hE hM (fun W => lpart_at (s : Int) 12 _ _ W ⟨rfl, rfl⟩ (by decide) (by omega)) (fun W => ?_)
  · have := hB n0 (by omega) W hT
    rw [show nmD 0 = 12 from rfl, eq_vB (by omega) (by omega), Int.natCast_add] at this
    exact this
  · have := hB n1 (by omega) W hT
    rw [show nmD 0 = 12 from rfl, eq_vB (by omega) (by omega), Int.natCast_add] at this
    exact this
  · have := tscale_any 12 W (by decide) 1 0 0 (s : Int) (by unfold Bx; decide) (by rw [Int.zero_mul, Int.one_mul]; unfold Bx; omega) (t_right_low (by decide) (by omega))
    rw [Int.zero_mul, Int.one_mul] at this
    exact this
end Go.Proofs.YtlmheeommpbimaaGreatDoor
