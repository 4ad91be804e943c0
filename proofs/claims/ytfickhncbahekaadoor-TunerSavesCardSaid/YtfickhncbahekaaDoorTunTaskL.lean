/- The law's task. Conditions: the words of the set are of 64 bits. Printed by gentask.py. -/
import Derived.Test.YtfickhncbahekaaDoorTunTask
import Derived.Deep.DeepCutAuto
import Derived.Laws.OwnMore
import Derived.Deep.AppendLies
namespace Go.Proofs.YtfickhncbahekaaDoor
open Go.RowKit

theorem step_append_run {P : Program} {ops : Array Oper} {o : Oper} {a : Act} {w : World} {K : Act → World → Prop} {Q : Exit → Act → World → Prop} {E : Prop} (hgd : o.guard = none) (s x : Operand) (t : TypeId)
    (ho : o.op = .call { callee := .builtin .append, args := #[s, x], argTypes := #[t, t] }) (v u : Value) (hs : a.eval s = v) (hx : a.eval x = u) {r : Value} {w' : World} {ty : TypeId} (hty : o.type = ty) (hr : (Builtin.append_ #[t, t] ty #[v, u]).run P w = .ok r w')
    (h : K (a.put o.dst r) w') : if Region.wanted o (yielded ops a.tmps) = true then Oper.wp P o a w K Q else E := by
  have hw : Region.wanted o (yielded ops a.tmps) = true := by simp [Region.wanted, hgd]
  rw [if_pos hw]
  subst hty
  unfold Oper.wp execOp
  simp only [ho, resolve, invoke, builtin, Sem.run_bind, Sem.run_pure, Result.andThen_ok, List.map_toArray, List.map_cons, List.map_nil, hs, hx, hr]
  exact h
/-- A list appended to a new slice of one int. -/
theorem run_append_one {W : World} {base h1 ln lc : Nat} {LA : Option Addr} {f : Int} {l : List Int} (ha : W.ownsRow base 3 1 (.slice (some ⟨h1, 0, none⟩) 1 1) 1 [.int .i64 f]) (hb : W.ownsRow base 3 1 (.slice LA ln lc) ln (l.map i64v))
    (hl : ln ≤ 1000) (hs : base ≤ W.heap.size) (ty : TypeId) :
    ∃ g c W', (Builtin.append_ #[46, 46] ty #[.slice (some ⟨h1, 0, none⟩) 1 1, .slice LA ln lc]).run Tryd.prog W = .ok (.slice (some ⟨g, 0, none⟩) (1 + ln) c) W' ∧ W'.ownsRow base 3 1 (.slice (some ⟨g, 0, none⟩) (1 + ln) c) (1 + ln) ((f :: l).map i64v) ∧ W.grownBy W' (some h1) := by
  obtain ⟨i0, hi, hz0, hz1, hz2⟩ := info_parts infoIntT
  have hlen := hb.1
  rcases hb.2 with ⟨hv, h0⟩ | ⟨g, cap, cur, hv, hbs, hg, _⟩
  · injection hv with e1 e2 e3
    subst e1; subst e2; subst e3
    refine ⟨h1, 1, W, run_append_owned_none W base 46 ty 3 i0 1 Tryd.underlying46 hi _ 1 _ ha, ?_, rfl, rfl, rfl, Nat.le_refl _, fun _ _ _ => rfl⟩
    obtain rfl : l = [] := by
      have : l.length = 0 := by simpa using hlen
      exact List.eq_nil_of_length_eq_zero this
    exact ha
  · injection hv with e1 e2 e3
    subst e1
    obtain ⟨v', w', hr, h2, h3, _, _⟩ := run_append_own_at (P := Tryd.prog) W base 46 ty 3 i0 (.int .i64 0) 1 8 Tryd.underlying46 hi hz0 hz1 hz2 rfl (by decide) _ 1 _ ha ⟨g, 0, none⟩ ln lc (l.map i64v) (by simpa using hlen) (fun j u hu => by
      have hj : j < ln * 1 := by
        have := (List.getElem?_eq_some_iff.1 hu).1
        rw [hlen] at this
        exact this
      have := hb.cellAt j hj
      rw [show (⟨g, 0, none⟩ : Addr).add j = ⟨g, j, none⟩ by unfold Addr.add; split <;> simp_all, this, hu]) (fun u hu => by
      obtain ⟨x, _, rfl⟩ := List.mem_map.1 hu
      rfl) (by unfold maxLen; omega) (by omega) hs
    obtain ⟨g2, c2, hv2, _⟩ := own_form h2 (by omega)
    subst hv2
    exact ⟨g2, c2, w', hr, h2, h3⟩
/-- What the region that builds the list keeps. -/
structure TlP (w : World) (f s1 s2 lo hi : Int) (ln : Nat) (l : List Int) (v2 v5 v6 : Bool) (h1 : Nat) (LA : Option Addr) (lc : Nat) (A' : Option Addr) (c' : Nat) (W : World) : Prop where
  hp : Hp w [(w.heap.size, 43, tkcs f s1 s2 lo hi)] W
  sz : w.heap.size + 1 ≤ W.heap.size
  a : v2 = true → v6 = false → W.ownsRow (w.heap.size + 1) 3 1 (.slice (some ⟨h1, 0, none⟩) 1 1) 1 [.int .i64 f]
  b : v5 = true → v6 = false → W.ownsRow (w.heap.size + 1) 3 1 (.slice LA ln lc) ln (l.map i64v)
  c : v6 = true → W.ownsRow (w.heap.size + 1) 3 1 (.slice A' (1 + ln) c') (1 + ln) ((f :: l).map i64v)
section
variable {w W W' : World} {f s1 s2 lo hi : Int} {ln : Nat} {l : List Int} {v2 v5 v6 : Bool} {h1 : Nat} {LA : Option Addr} {lc : Nat} {A' : Option Addr} {c' : Nat}
theorem TlP.new1 (h : TlP w f s1 s2 lo hi ln l v2 v5 false h1 LA lc A' c' W) : TlP w f s1 s2 lo hi ln l true v5 false W.heap.size LA lc A' c' (W.alloc (.cells #[.int .i64 f] 3)) where
  hp := h.hp.alloc _
  sz := Nat.le_trans h.sz (by rw [World.size_alloc]; omega)
  a := fun _ _ => World.ownsRow_lit W #[.int .i64 f] 1 h.sz (by unfold maxLen; decide) rfl
  b := fun e e2 => own_below (h.b e e2) (bw_new (Below.refl _ _) _)
  c := fun e => by cases e
theorem TlP.call {LB : Option Addr} {lb : Nat} (h : TlP w f s1 s2 lo hi ln l v2 v5 false h1 LA lc A' c' W) (hb : Below W.heap.size W W') (ho : W'.ownsRow W.heap.size 3 1 (.slice LB ln lb) ln (l.map i64v)) : TlP w f s1 s2 lo hi ln l v2 true false h1 LB lb A' c' W' where
  hp := h.hp.step hb
  sz := Nat.le_trans h.sz hb.size
  a := fun e e2 => own_below (h.a e e2) hb
  b := fun _ _ => own_low ho h.sz
  c := fun e => by cases e
theorem TlP.app {g c2 : Nat} (h : TlP w f s1 s2 lo hi ln l v2 v5 v6 h1 LA lc A' c' W) (ha : W.ownsRow (w.heap.size + 1) 3 1 (.slice (some ⟨h1, 0, none⟩) 1 1) 1 [.int .i64 f]) (ho : W'.ownsRow (w.heap.size + 1) 3 1 (.slice (some ⟨g, 0, none⟩) (1 + ln) c2) (1 + ln) ((f :: l).map i64v)) (hg : W.grownBy W' (some h1)) :
    TlP w f s1 s2 lo hi ln l true true true h1 LA lc (some ⟨g, 0, none⟩) c2 W' where
  hp := h.hp.grown hg (fun q e => by
    have := (ha.lt h1 rfl).1
    cases e
    refine ⟨by omega, fun p hp => ?_⟩
    rw [List.mem_singleton] at hp
    subst hp
    dsimp only
    omega)
  sz := Nat.le_trans h.sz hg.size
  a := fun _ e => by cases e
  b := fun _ e => by cases e
  c := fun _ => ho
end

set_option maxRecDepth 1000000 in
set_option maxHeartbeats 8000000 in
theorem ltask_any (f : Int) (s : Nat × Nat) (lo hi : Int) (w : World) (hs : NOk s) :
    Calls Tryd.prog 34 #[tv f s lo hi] w fun e w' => e = .returned (.int .i64 (tkE f s lo hi)) ∧ Below w.heap.size w w' := by
  have HR := Lib.hid (fun W => refRight_any lo hi W)
  have HL0 := Lib.hid (fun W => refList_any s W hs)
  have hm0 := (Hp.start w).new 43 (tkcs f (s.1 : Int) (s.2 : Int) lo hi)
  simp only [List.nil_append] at hm0
  have HM := Lib.hid hm0
  have hll := listK_len s 128
  rw [show listK s 128 = listN s from rfl] at hll
  have hE0 : cpE lo hi = 0 → tkE f s lo hi = if (lo ≤ f ∧ f ≤ hi) ∧ ∀ n ∈ listN s, lo ≤ n ∧ n ≤ hi then 0 else 23 := fun h0 => by unfold tkE; rw [if_neg (fun e => e h0)]
  have hE1 : cpE lo hi ≠ 0 → tkE f s lo hi = cpE lo hi := fun h0 => by unfold tkE; rw [if_pos h0]
  obtain ⟨kl, hl⟩ : ∃ kl, kl = listN s := ⟨_, rfl⟩
  rw [← hl] at HL0 hE0 hll
  obtain ⟨ln, hln⟩ : ∃ ln, ln = kl.length := ⟨_, rfl⟩
  have HLN := Lib.hid hln
  rw [← hln] at hll
  have HLL := Lib.hid hll
  obtain ⟨s1, s2⟩ := s
  unfold tv
  unfold nv at HL0
  dsimp only at HM HL0 ⊢
  have HL := HL0
  by_cases h0 : cpE lo hi = 0
  · have HE := Lib.hid (hE0 h0)
    rw [h0] at HR
    have c3 : (w.alloc (.cells (tkcs f (s1 : Int) (s2 : Int) lo hi).toArray 43)).cell? ⟨w.heap.size, 3, none⟩ = some (.int .i64 lo) := (hm0.at_ 0 rfl).cell 3
    have c4 : (w.alloc (.cells (tkcs f (s1 : Int) (s2 : Int) lo hi).toArray 43)).cell? ⟨w.heap.size, 4, none⟩ = some (.int .i64 hi) := (hm0.at_ 0 rfl).cell 4
    clear hm0 hE0 hE1 hl hs hln hll h0
    go_enter Tryd.func34, Tryd.ntmps34
    go_wp2_with fail
    refine (HR.out _).mono ?_
    rintro e w1 ⟨rfl, hb1⟩
    have HM1 := Lib.hid (HM.out.step hb1)
    clear hb1 c3 c4
    go_wp2_with fail
    refine wp_regionJ 9 #[false, false, false, false, false, false, false, false, false] (fun l a W => ∃ (m0 m1 m2 m3 m4 m5 m6 m7 m8 : Bool) (h1 : Nat) (LA : Option Addr) (lc : Nat) (A' : Option Addr) (c' : Nat), l = #[m0, m1, m2, m3, m4, m5, m6, m7, m8] ∧ a = ({ tmps := #[Value.agg #[Value.int IntKind.i64 f, Value.int IntKind.u64 (s1 : Int), Value.int IntKind.u64 (s2 : Int), Value.int IntKind.i64 lo, Value.int IntKind.i64 hi], Value.pointer (some { block := w.heap.size, off := 0 }), Value.int IntKind.i64 0, Value.int IntKind.i64 0, undef, undef, Value.pointer (some { block := w.heap.size, off := 3 }), Value.agg #[Value.int IntKind.i64 lo, Value.int IntKind.i64 hi], Value.int IntKind.i64 0, Value.int IntKind.i64 0, Value.bool false, undef, cw m0 (Value.pointer (some { block := w.heap.size, off := 0 })) (undef), cw m1 (.int .i64 f) (undef), cw m2 (.slice (some ⟨h1, 0, none⟩) 1 1) (undef), cw m3 (Value.pointer (some { block := w.heap.size, off := 1 })) (undef), cw m4 (.agg #[.int .u64 (s1 : Int), .int .u64 (s2 : Int)]) (undef), cw m5 (.slice LA ln lc) (undef), cw m6 (.slice A' (1 + ln) c') (undef), cw m7 (.int .i64 (1 + (ln : Int))) (undef), cw m8 (.int .i64 0) (undef), undef, undef, undef, undef, undef, undef, undef, undef, undef, undef, undef, undef, undef, undef, undef, undef], defers := [] } : Act) ∧ (m6 = true → m2 = true ∧ m5 = true) ∧ TlP w f (s1 : Int) (s2 : Int) lo hi ln kl m2 m5 m6 h1 LA lc A' c' W) (by kernel_rfl) (by kernel_rfl) (by kernel_rfl) (by kernel_rfl) ?_ ?_ ?_ ?_
    · rintro l a W ⟨m0, m1, m2, m3, m4, m5, m6, m7, m8, h1, LA, lc, A', c', rfl, _⟩
      rfl
    · exact ⟨false, false, false, false, false, false, false, false, false, 0, none, 0, none, 0, rfl, rfl, fun h => absurd h (by simp), ⟨HM1.out.drew, by have := (HM1.out.at_ 0 rfl).lt; exact this, fun h => absurd h (by simp), fun h => absurd h (by simp), fun h => absurd h (by simp)⟩⟩
    · rintro l a W i o ⟨m0, m1, m2, m3, m4, m5, m6, m7, m8, h1, LA, lc, A', c', rfl, rfl, hi0, hm⟩ ho hun hall K hK
      have hi : i < 9 := (Array.getElem?_eq_some_iff.1 ho).1
      have HM := Lib.hid hm
      have HI := Lib.hid hi0
      clear hm hi0
      rcases (show i = 0 ∨ i = 1 ∨ i = 2 ∨ i = 3 ∨ i = 4 ∨ i = 5 ∨ i = 6 ∨ i = 7 ∨ i = 8 by omega) with rfl | rfl | rfl | rfl | rfl | rfl | rfl | rfl | rfl
      · obtain rfl := Option.some.inj (show some _ = some o from ho)
        obtain rfl : m0 = false := by simpa using hun
        clear hall hun hi ho
        go_simp
        exact hK.out _ _ ⟨true, m1, m2, m3, m4, m5, m6, m7, m8, h1, LA, lc, A', c', rfl, rfl, by have h0 := HI.out; exact fun e => ⟨by first | rfl | exact (h0 e).1, by first | rfl | exact (h0 e).2⟩, HM.out⟩
      · obtain rfl := Option.some.inj (show some _ = some o from ho)
        obtain rfl : m0 = true := getBT hall 0 rfl
        obtain rfl : m1 = false := by simpa using hun
        clear hall hun hi ho
        have z0 : W.cell? ⟨w.heap.size, 0, none⟩ = some (.int .i64 f) := (HM.out.hp.at_ 0 rfl).cell 0
        go_simp
        exact hK.out _ _ ⟨true, true, m2, m3, m4, m5, m6, m7, m8, h1, LA, lc, A', c', rfl, rfl, by have h0 := HI.out; exact fun e => ⟨by first | rfl | exact (h0 e).1, by first | rfl | exact (h0 e).2⟩, HM.out⟩
      · obtain rfl := Option.some.inj (show some _ = some o from ho)
        obtain rfl : m1 = true := getBT hall 1 rfl
        obtain rfl : m2 = false := by simpa using hun
        clear hall hun hi ho
        obtain rfl : m6 = false := by
          cases m6
          · rfl
          · exact absurd ((HI.out rfl).1) (by simp)
        have HN := Lib.hid HM.out.new1
        go_simp
        exact hK.out _ _ ⟨m0, true, true, m3, m4, m5, false, m7, m8, W.heap.size, LA, lc, A', c', rfl, rfl, by have h0 := HI.out; exact fun e => ⟨by first | rfl | exact (h0 e).1, by first | rfl | exact (h0 e).2⟩, HN.out⟩
      · obtain rfl := Option.some.inj (show some _ = some o from ho)
        obtain rfl : m3 = false := by simpa using hun
        clear hall hun hi ho
        go_simp
        exact hK.out _ _ ⟨m0, m1, m2, true, m4, m5, m6, m7, m8, h1, LA, lc, A', c', rfl, rfl, by have h0 := HI.out; exact fun e => ⟨by first | rfl | exact (h0 e).1, by first | rfl | exact (h0 e).2⟩, HM.out⟩
      · obtain rfl := Option.some.inj (show some _ = some o from ho)
        obtain rfl : m3 = true := getBT hall 3 rfl
        obtain rfl : m4 = false := by simpa using hun
        clear hall hun hi ho
        have z0 : W.cell? ⟨w.heap.size, 1, none⟩ = some (.int .u64 (s1 : Int)) := (HM.out.hp.at_ 0 rfl).cell 1
        have z1 : W.cell? ⟨w.heap.size, 2, none⟩ = some (.int .u64 (s2 : Int)) := (HM.out.hp.at_ 0 rfl).cell 2
        go_simp
        exact hK.out _ _ ⟨m0, m1, m2, true, true, m5, m6, m7, m8, h1, LA, lc, A', c', rfl, rfl, by have h0 := HI.out; exact fun e => ⟨by first | rfl | exact (h0 e).1, by first | rfl | exact (h0 e).2⟩, HM.out⟩
      · obtain rfl := Option.some.inj (show some _ = some o from ho)
        obtain rfl : m4 = true := getBT hall 4 rfl
        obtain rfl : m5 = false := by simpa using hun
        clear hall hun hi ho
        obtain rfl : m6 = false := by
          cases m6
          · rfl
          · exact absurd ((HI.out rfl).2) (by simp)
        go_simp
        refine (HL.out _).mono ?_
        rintro e W' ⟨LB, lb, rfl, hown, hb⟩
        rw [← HLN.out] at hown ⊢
        exact hK.out _ _ ⟨m0, m1, m2, m3, true, true, false, m7, m8, h1, LB, lb, A', c', rfl, rfl, by have h0 := HI.out; exact fun e => ⟨by first | rfl | exact (h0 e).1, by first | rfl | exact (h0 e).2⟩, HM.out.call hb hown⟩
      · obtain rfl := Option.some.inj (show some _ = some o from ho)
        obtain rfl : m2 = true := getBT hall 2 rfl
        obtain rfl : m5 = true := getBT hall 5 rfl
        obtain rfl : m6 = false := by simpa using hun
        clear hall hun hi ho
        obtain ⟨g, c2, W', hr, hown, hgrow⟩ := run_append_one (HM.out.a rfl rfl) (HM.out.b rfl rfl) (by have := HLL.out; omega) HM.out.sz 46
        refine step_append_run (by rfl) _ _ 46 (by rfl) _ _ rfl rfl (by rfl) hr ?_
        exact hK.out _ _ ⟨m0, m1, true, m3, m4, true, true, m7, m8, h1, LA, lc, some ⟨g, 0, none⟩, c2, rfl, rfl, by have h0 := HI.out; exact fun e => ⟨by first | rfl | exact (h0 e).1, by first | rfl | exact (h0 e).2⟩, HM.out.app (HM.out.a rfl rfl) hown hgrow⟩
      · obtain rfl := Option.some.inj (show some _ = some o from ho)
        obtain rfl : m6 = true := getBT hall 6 rfl
        obtain rfl : m7 = false := by simpa using hun
        clear hall hun hi ho
        go_simp
        exact hK.out _ _ ⟨m0, m1, m2, m3, m4, m5, true, true, m8, h1, LA, lc, A', c', rfl, rfl, by have h0 := HI.out; exact fun e => ⟨by first | rfl | exact (h0 e).1, by first | rfl | exact (h0 e).2⟩, HM.out⟩
      · obtain rfl := Option.some.inj (show some _ = some o from ho)
        obtain rfl : m8 = false := by simpa using hun
        clear hall hun hi ho
        go_simp
        exact hK.out _ _ ⟨m0, m1, m2, m3, m4, m5, m6, m7, true, h1, LA, lc, A', c', rfl, rfl, by have h0 := HI.out; exact fun e => ⟨by first | rfl | exact (h0 e).1, by first | rfl | exact (h0 e).2⟩, HM.out⟩
    · rintro l a W ⟨m0, m1, m2, m3, m4, m5, m6, m7, m8, h1, LA, lc, A', c', rfl, rfl, _, hm⟩ hall
      obtain rfl : m0 = true := hall 0 (by decide)
      obtain rfl : m1 = true := hall 1 (by decide)
      obtain rfl : m2 = true := hall 2 (by decide)
      obtain rfl : m3 = true := hall 3 (by decide)
      obtain rfl : m4 = true := hall 4 (by decide)
      obtain rfl : m5 = true := hall 5 (by decide)
      obtain rfl : m6 = true := hall 6 (by decide)
      obtain rfl : m7 = true := hall 7 (by decide)
      obtain rfl : m8 = true := hall 8 (by decide)
      clear hall
      have HMM := Lib.hid hm
      have HOW := Lib.hid (hm.c rfl)
      have hl128 := HLL.out
      have HPP := Lib.hid hm.hp
      clear hm
      dsimp only [cw, cond_true]
      go_wp2_with fail
      obtain ⟨W9, rfl⟩ : ∃ W9, W9 = W := ⟨_, rfl⟩
      obtain ⟨q, hq⟩ : ∃ q, q = f :: kl := ⟨_, rfl⟩
      have hql : q.length = 1 + ln := by rw [hq, List.length_cons, HLN.out]; omega
      have HQL := Lib.hid hql
      have hoq := HOW.out
      rw [← hq] at hoq
      have HOQ := Lib.hid hoq
      have HEQ : Hid (tkE f (s1, s2) lo hi = if ∀ n ∈ q, lo ≤ n ∧ n ≤ hi then 0 else 23) := Lib.hid (by
        rw [HE.out, hq]
        simp only [List.mem_cons, forall_eq_or_imp])
      clear hq hql hoq
      go_loopw [20] (fun v wx => ∃ i : Nat, v = .int .i64 (i : Int) ∧ i ≤ 1 + ln ∧ wx = W9 ∧ ∀ j (h : j < i) (h2 : j < q.length), lo ≤ q[j] ∧ q[j] ≤ hi) (fun v _ => 1 + ln - (intOf v).toNat)
      case atStart => exact ⟨0, rfl, by omega, rfl, fun j h => absurd h (by omega)⟩
      case round =>
        obtain ⟨i, rfl, hi', rfl, hall⟩ := hrel
        have HALL := Lib.hid hall
        by_cases hil : (i : Int) < 1 + (ln : Int)
        · obtain ⟨b, off, rfl, hbl, hcs⟩ := (Rd.of_own HOQ.out HQL.out.symm).at_ (by rw [HQL.out]; omega)
          have hiq : i < q.length := by rw [HQL.out]; omega
          have hx0 := hcs i hiq
          obtain ⟨x, hx⟩ : ∃ x, x = q[i] := ⟨_, rfl⟩
          rw [← hx] at hx0
          have z0 : wr.cell? ⟨b, off + i, none⟩ = some (.int .i64 x) := hx0
          have c3 : wr.cell? ⟨w.heap.size, 3, none⟩ = some (.int .i64 lo) := (HPP.out.at_ 0 rfl).cell 3
          have c4 : wr.cell? ⟨w.heap.size, 4, none⟩ = some (.int .i64 hi) := (HPP.out.at_ 0 rfl).cell 4
          have HBB := Lib.hid HPP.out.below
          by_cases hin : lo ≤ x ∧ x ≤ hi
          · have HIN := Lib.hid (show ∀ j (h : j < i + 1) (h2 : j < q.length), lo ≤ q[j] ∧ q[j] ≤ hi from fun j h h2 => by
              by_cases e : j = i
              · subst e; rw [← hx]; exact hin
              · exact HALL.out j (by omega) h2)
            obtain ⟨hn1, hn2⟩ := hin
            clear hx hcs hx0 hall hiq
            go_wp2
            go_roundw
            case rel => exact ⟨i + 1, by go_num, by omega, by first | rfl | trivial, HIN.out⟩
            case measure => simp [intOf]; omega
          · have HX := Lib.hid (show tkE f (s1, s2) lo hi = 23 by
              rw [HEQ.out]
              exact if_neg fun e => hin (by rw [hx]; exact e _ (List.getElem_mem _)))
            clear hx hcs hx0 hall hiq
            by_cases h5 : x < lo
            · clear hin
              go_wp2
              go_ret
              exact ⟨by rw [HX.out]; rfl, HBB.out⟩
            · have h6 : hi < x := by omega
              clear hin
              go_wp2
              go_ret
              exact ⟨by rw [HX.out]; rfl, HBB.out⟩
        · have HX := Lib.hid (show tkE f (s1, s2) lo hi = 0 by
            rw [HEQ.out]
            refine if_pos fun n hn => ?_
            obtain ⟨j, hj, rfl⟩ := List.getElem_of_mem hn
            exact hall j (by have := HQL.out; omega) hj)
          have HBB := Lib.hid HPP.out.below
          clear hall
          go_wp2
          go_ret
          exact ⟨by rw [HX.out]; rfl, HBB.out⟩
  · have HE := Lib.hid (hE1 h0)
    obtain ⟨x, hx⟩ : ∃ x, x = cpE lo hi := ⟨_, rfl⟩
    rw [← hx] at HR HE h0
    have hxz : (x != 0) = true := by simpa using h0
    have c3 : (w.alloc (.cells (tkcs f (s1 : Int) (s2 : Int) lo hi).toArray 43)).cell? ⟨w.heap.size, 3, none⟩ = some (.int .i64 lo) := (hm0.at_ 0 rfl).cell 3
    have c4 : (w.alloc (.cells (tkcs f (s1 : Int) (s2 : Int) lo hi).toArray 43)).cell? ⟨w.heap.size, 4, none⟩ = some (.int .i64 hi) := (hm0.at_ 0 rfl).cell 4
    clear hm0 hE0 hE1 hl hs hln hll h0 hx
    go_enter Tryd.func34, Tryd.ntmps34
    go_wp2_with fail
    refine (HR.out _).mono ?_
    rintro e w1 ⟨rfl, hb1⟩
    have HB1 := Lib.hid (HM.out.step hb1).below
    clear hb1 c3 c4
    go_wp2
    go_ret
    exact ⟨by rw [HE.out]; rfl, HB1.out⟩
end Go.Proofs.YtfickhncbahekaaDoor
