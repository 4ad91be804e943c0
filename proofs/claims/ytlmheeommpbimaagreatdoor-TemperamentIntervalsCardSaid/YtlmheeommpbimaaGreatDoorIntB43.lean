/- Part 43 of 46 of the proof of the law: contracts of the functions that it reaches, and plain facts. Conditions: those that each contract names. -/
import Derived.Test.YtlmheeommpbimaaGreatDoorIntB35
import Derived.Great.CaseRows
import Derived.Great.BuildSlice
import Derived.RegionTactic
import Derived.Deep.DeepCutAuto
import Derived.Test.YtlmheeommpbimaaGreatDoorIntB42
import Derived.Test.YtlmheeommpbimaaGreatDoorIntB38
import Derived.Test.YtlmheeommpbimaaGreatDoorIntB36
namespace Go.Proofs.YtlmheeommpbimaaGreatDoor
open Go.RowKit
def twoC (C B : Nat → Tm) : List Value := ([.agg (cirL C).toArray, .agg (cirL B).toArray] : List Value).flatMap fun v => v.cells.toList
def alB (E : Nat → Bool) (n : Nat) : Bool := (List.range n).all E
structure HpB (w : World) (L : List (Nat × TypeId × List Value)) (v W : World) : Prop where
 hp : Hp w L W
 bw : Below v.heap.size v W
theorem own_far {w : World} {base : Nat} {e : TypeId} {size n : Nat} {v : Value} {xs : List Value} (h : w.ownsRow base e size v n xs) {g o : Nat} (hg : g < base) (x : Value) : (w.setCell ⟨g, o, none⟩ x).ownsRow base e size v n xs := by
 refine ⟨h.1, ?_⟩
 rcases h.2 with h0 | ⟨q, cap, cur, hv, hbs, hq, hr⟩
 ·exact .inl h0
 ·exact .inr ⟨q, cap, cur, hv, hbs, (Below.heap_setCell w ⟨g, o, none⟩ x q (by show q ≠ g; omega)).trans hq, hr⟩
theorem HpB.step {w v W W' : World} {L : List (Nat × TypeId × List Value)} (h : HpB w L v W) (hb : Below W.heap.size W W') : HpB w L v W' := ⟨h.hp.step hb, h.bw.trans (hb.mono h.bw.size)⟩
theorem HpB.at_ {w v W : World} {L : List (Nat × TypeId × List Value)} (h : HpB w L v W) (i : Nat) {g : Nat} {t : TypeId} {cs : List Value} (e : L[i]? = some (g, t, cs)) : Blk W g t cs := h.hp.at_ i e
set_option maxRecDepth 1000000 in
set_option maxHeartbeats 4000000 in
theorem livs_gen (C : Nat → Tm) (x0 x1 s0 s1 s2 s3 s4 s5 : Int) (q0 q1 q2 q3 z0 z1 z2 z3 z4 z5 : Nat → Int) (t0 t1 t2 t3 u0 u1 u2 u3 : Nat → Nat → Int) (LB SH B : Nat → Bool) (OK SD : Nat → Nat → Bool) (L : Nat → Nat → Int) (LA : Option Addr) (lc Bd : Nat) (w : World) (ht : Tab w) (hx : 0 ≤ x0 ∧ x0 ≤ 36)
  (hl : Rd i64z w Bd LA (lsB B 12)) (hBd : Bd ≤ w.heap.size) (hlc : (lsB B 12).length ≤ lc)
  (hB : ∀ (k : Nat) W, k < 12 → Tab W → Calls Tryz.prog 37 #[.agg (cirL C).toArray, .int .i64 (k : Int), .int .i64 ((k : Int) + x0)] W fun e w' => e = .returned (.tuple #[ovv (q0 k) (q1 k) (q2 k) (q3 k), .bool (LB k)]) ∧ Below W.heap.size W w')
  (hS : ∀ (k : Nat) W, k < 12 → Calls Tryz.prog 73 #[ovv (q0 k) (q1 k) (q2 k) (q3 k)] W fun e w' => e = .returned (.bool (SH k)) ∧ Below W.heap.size W w')
  (hZ : ∀ (k : Nat) W, k < 12 → LB k = true → Calls Tryz.prog 16 #[ovv (q0 k) (q1 k) (q2 k) (q3 k)] W fun e w' => e = .returned (szv (z0 k) (z1 k) (z2 k) (z3 k) (z4 k) (z5 k)) ∧ Below W.heap.size W w')
  (hE : ∀ k : Nat, k < 12 → B k = eqZ (z0 k) (z1 k) (z2 k) (z3 k) (z4 k) (z5 k) s0 s1 s2 s3 s4 s5)
  (hA : ∀ (k j : Nat) W, k < 12 → j ≤ k → LB k = true → (0 < k → LB j = true) → Calls Tryz.prog 19 #[ovv (q0 k) (q1 k) (q2 k) (q3 k), ovv (if k = 0 then 0 else q0 j) (if k = 0 then 0 else q1 j) (if k = 0 then 0 else q2 j) (if k = 0 then 1 else q3 j), .int .i64 (-1)] W fun e w' => e = .returned (ovv (t0 k j) (t1 k j) (t2 k j) (t3 k j)) ∧ Below W.heap.size W w')
  (hO : ∀ (k j : Nat) W, k < 12 → j ≤ k → LB k = true → (0 < k → LB j = true) → Calls Tryz.prog 18 #[ovv (t0 k j) (t1 k j) (t2 k j) (t3 k j)] W fun e w' => e = .returned (.tuple #[ovv (u0 k j) (u1 k j) (u2 k j) (u3 k j), .bool (OK k j)]) ∧ Below W.heap.size W w')
  (hD : ∀ (k j : Nat) W, k < 12 → j ≤ k → LB k = true → (0 < k → LB j = true) → Calls Tryz.prog 73 #[ovv (u0 k j) (u1 k j) (u2 k j) (u3 k j)] W fun e w' => e = .returned (.bool (SD k j)) ∧ Below W.heap.size W w')
  (hG : ∀ (k j : Nat) W, k < 12 → j < k → LB k = true → LB j = true → OK k j = true → SD k j = true → Tab W → Calls Tryz.prog 76 #[ovv (u0 k j) (u1 k j) (u2 k j) (u3 k j)] W fun e w' => e = .returned (.int .i64 (L k j)) ∧ Below W.heap.size W w') :
  Calls Tryz.prog 39 #[.agg (cirL C).toArray, .agg #[.int .i64 x0, .int .i64 x1], szv s0 s1 s2 s3 s4 s5, .slice LA (lsB B 12).length lc, .int .i64 (wdB L 12 : Nat)] w fun e w' => e = .returned (.bool true) ∧ Below w.heap.size w w' := by
 have HT := Lib.hid ht
 have HB := Lib.hid hB
 have HS := Lib.hid hS
 have HZ := Lib.hid hZ
 have HE := Lib.hid hE
 have HA := Lib.hid hA
 have HO := Lib.hid hO
 have HD := Lib.hid hD
 have HG := Lib.hid hG
 have HLR := Lib.hid hl
 have HLC := Lib.hid hlc
 obtain ⟨x00, x01⟩ := hx
 obtain ⟨ln, hln⟩ : ∃ n, n = (lsB B 12).length := ⟨_, rfl⟩
 obtain ⟨wn, hwn⟩ : ∃ n : Int, n = (wdB L 12 : Nat) := ⟨_, rfl⟩
 rw [← hln, ← hwn]
 have HLN := Lib.hid hln
 have HWN := Lib.hid hwn
 obtain ⟨i0, hi, hz0, hz1, hz2⟩ := info_parts infoIntZ
 have HI0 := Lib.hid hi
 have HZ0 := Lib.hid hz0
 have HZ1 := Lib.hid hz1
 have HZ2 := Lib.hid hz2
 clear ht hB hS hZ hE hA hO hD hG hl hlc hln hwn hi hz0 hz1 hz2
 have hm0 := ((((Hp.start w).new 33 (cirL C)).new 77 [.int .i64 x0, .int .i64 x1]).new 36 [.int .i64 s0, .int .i64 s1, .int .i64 s2, .int .i64 s3, .int .i64 s4, .int .i64 s5]).new 45 [.int .i64 0, .int .i64 0, .int .i64 0, .int .i64 1]
 simp only [World.size_alloc, List.nil_append, List.cons_append] at hm0
 have HM0 := Lib.hid hm0
 clear hm0
 go_enter Tryz.func39, Tryz.ntmps39
 go_wp2_with fail
 go_loopw [11, 12, 19] (fun u b v W => ∃ (k : Nat) (A : Option Addr) (c : Nat) (r0 r1 r2 r3 : Int), k ≤ 12 ∧ v = .int .i64 (k : Int) ∧ u = .slice A (lsB B k).length c ∧ b = .int .i64 (wdB L k : Nat) ∧
   (r0 = (if k = 0 then 0 else q0 (wdB L k)) ∧ r1 = (if k = 0 then 0 else q1 (wdB L k)) ∧ r2 = (if k = 0 then 0 else q2 (wdB L k)) ∧ r3 = (if k = 0 then 1 else q3 (wdB L k))) ∧ (∀ j, j < k → LB j = true) ∧
   W.ownsRow (w.heap.size + 4) 3 1 (.slice A (lsB B k).length c) (lsB B k).length ((lsB B k).map i64z) ∧ Hp w [(w.heap.size, 33, cirL C), (w.heap.size + 1, 77, [.int .i64 x0, .int .i64 x1]), (w.heap.size + 1 + 1, 36, [.int .i64 s0, .int .i64 s1, .int .i64 s2, .int .i64 s3, .int .i64 s4, .int .i64 s5]), (w.heap.size + 1 + 1 + 1, 45, [.int .i64 r0, .int .i64 r1, .int .i64 r2, .int .i64 r3])] W ∧ w.heap.size + 4 ≤ W.heap.size) (fun _ _ v _ => 12 - (intOf v).toNat)
 case atStart => exact ⟨0, none, 0, 0, 0, 0, 1, by omega, rfl, rfl, rfl, ⟨rfl, rfl, rfl, rfl⟩, fun j h => absurd h (by omega), World.ownsRow_nil _ _ _ _, HM0.out, by have := (HM0.out.at_ 3 rfl).lt; omega⟩
 case round =>
  obtain ⟨k, A, c, r0, r1, r2, r3, hk, rfl, rfl, rfl, hmo, hlb, hown, hm, hsz⟩ := hrel
  have hjk : wdB L k ≤ k := by
   by_cases h0 : k = 0
   ·rw [h0]; exact Nat.le_refl _
   ·exact Nat.le_of_lt (wdB_lt L k (by omega))
  have hjl : 0 < k → LB (wdB L k) = true := fun h => hlb _ (wdB_lt L k h)
  obtain ⟨l, hl⟩ : ∃ l, l = lsB B k := ⟨_, rfl⟩
  have hll : l.length ≤ 12 := by rw [hl]; exact Nat.le_trans (lsB_len _ _) hk
  rw [← hl] at hown ⊢
  obtain ⟨m, hmm⟩ : ∃ m, m = l.length := ⟨_, rfl⟩
  rw [← hmm] at hown hll ⊢
  obtain ⟨J, hJ⟩ : ∃ j, j = wdB L k := ⟨_, rfl⟩
  rw [← hJ] at hmo hjk hjl ⊢
  have HJ := Lib.hid hJ
  have HO1 := Lib.hid hown
  have HMR := Lib.hid hm
  have HL := Lib.hid (And.intro hl hmm)
  have HLB := Lib.hid hlb
  have HJL := Lib.hid hjl
  have HMO := Lib.hid hmo
  clear hown hm hl hmm hlb hmo hjl hJ
  by_cases hlt : k < 12
  ·have HBK := Lib.hid (fun W hT => HB.out k W hlt hT)
   have HSK := Lib.hid (fun W => HS.out k W hlt)
   have HZK := Lib.hid (fun W h => HZ.out k W hlt h)
   have heq := HE.out k hlt
   have HLS := Lib.hid (lsB_succ B k)
   have haa := fun W h => HA.out k J W hlt hjk h HJL.out
   have hoo := fun W h => HO.out k J W hlt hjk h HJL.out
   have hdd := fun W h => HD.out k J W hlt hjk h HJL.out
   have hgg := fun W (h0 : J < k) h1 h2 h3 h4 hT => HG.out k J W hlt h0 h1 h2 h3 h4 hT
   obtain ⟨g0, g1, g2, g3⟩ := HMO.out
   rw [← g0, ← g1, ← g2, ← g3] at haa
   clear g0 g1 g2 g3
   obtain ⟨z, hz⟩ : ∃ z : Int, z = (k : Int) := ⟨_, rfl⟩
   rw [← hz] at HBK
   obtain ⟨lk, hlk⟩ : ∃ x, x = LB k := ⟨_, rfl⟩
   obtain ⟨sk, hsk⟩ : ∃ x, x = SH k := ⟨_, rfl⟩
   obtain ⟨bk, hbk⟩ : ∃ x, x = B k := ⟨_, rfl⟩
   obtain ⟨ok, hok⟩ : ∃ x, x = OK k J := ⟨_, rfl⟩
   obtain ⟨sd, hsd⟩ : ∃ x, x = SD k J := ⟨_, rfl⟩
   obtain ⟨sg, hsg⟩ : ∃ x, x = L k J := ⟨_, rfl⟩
   obtain ⟨p0', hp0⟩ : ∃ x, x = q0 k := ⟨_, rfl⟩
   obtain ⟨p1', hp1⟩ : ∃ x, x = q1 k := ⟨_, rfl⟩
   obtain ⟨p2', hp2⟩ : ∃ x, x = q2 k := ⟨_, rfl⟩
   obtain ⟨p3', hp3⟩ : ∃ x, x = q3 k := ⟨_, rfl⟩
   obtain ⟨e0', he0⟩ : ∃ x, x = z0 k := ⟨_, rfl⟩
   obtain ⟨e1', he1⟩ : ∃ x, x = z1 k := ⟨_, rfl⟩
   obtain ⟨e2', he2⟩ : ∃ x, x = z2 k := ⟨_, rfl⟩
   obtain ⟨e3', he3⟩ : ∃ x, x = z3 k := ⟨_, rfl⟩
   obtain ⟨e4', he4⟩ : ∃ x, x = z4 k := ⟨_, rfl⟩
   obtain ⟨e5', he5⟩ : ∃ x, x = z5 k := ⟨_, rfl⟩
   obtain ⟨t0', ht0⟩ : ∃ x, x = t0 k J := ⟨_, rfl⟩
   obtain ⟨t1', ht1⟩ : ∃ x, x = t1 k J := ⟨_, rfl⟩
   obtain ⟨t2', ht2⟩ : ∃ x, x = t2 k J := ⟨_, rfl⟩
   obtain ⟨t3', ht3⟩ : ∃ x, x = t3 k J := ⟨_, rfl⟩
   obtain ⟨u0', hu0⟩ : ∃ x, x = u0 k J := ⟨_, rfl⟩
   obtain ⟨u1', hu1⟩ : ∃ x, x = u1 k J := ⟨_, rfl⟩
   obtain ⟨u2', hu2⟩ : ∃ x, x = u2 k J := ⟨_, rfl⟩
   obtain ⟨u3', hu3⟩ : ∃ x, x = u3 k J := ⟨_, rfl⟩
   rw [← hp0, ← hp1, ← hp2, ← hp3] at HBK HSK HZK haa
   rw [← he0, ← he1, ← he2, ← he3, ← he4, ← he5] at HZK heq
   rw [← ht0, ← ht1, ← ht2, ← ht3] at haa hoo
   rw [← hu0, ← hu1, ← hu2, ← hu3] at hoo hdd hgg
   rw [← hlk] at HBK HZK haa hoo hdd hgg
   rw [← hsk] at HSK
   rw [← hbk] at heq HLS
   rw [← hok] at hoo hgg
   rw [← hsd] at hdd hgg
   rw [← hsg] at hgg
   have HEK := Lib.hid heq
   have HPK := Lib.hid (And.intro hp0 (And.intro hp1 (And.intro hp2 hp3)))
   have HAA := Lib.hid haa
   have HOO := Lib.hid hoo
   have HDD := Lib.hid hdd
   have HGG := Lib.hid hgg
   have HZV := Lib.hid hz
   have HLK := Lib.hid hlk
   have HSG := Lib.hid hsg
   have hz12 : 0 ≤ z ∧ z < 12 := by omega
   obtain ⟨wb, hwb⟩ : ∃ x : Int, x = (J : Nat) := ⟨_, rfl⟩
   rw [← hwb, ← hz]
   have HWB := Lib.hid hwb
   have v0 := (HMR.out.at_ 1 rfl).cell 0
   have v1 := (HMR.out.at_ 1 rfl).cell 1
   simp only [List.getElem?_cons_succ, List.getElem?_cons_zero] at v0 v1
   clear hz heq haa hoo hdd hgg hlk hsk hbk hok hsd hsg hwb hp0 hp1 hp2 hp3 he0 he1 he2 he3 he4 he5 ht0 ht1 ht2 ht3 hu0 hu1 hu2 hu3
   go_wp2_with (refine wpList_load_row rfl 33 _ rfl (w.heap.size) rfl 33 (cirL C).toArray (0, 0) _ (HMR.out.at_ 0 rfl) Tryz.underlying33 rfl (by rw [infoCircle, List.size_toArray, cirL_len]) ?_)
   refine (HBK.out _ (HT.out.below HMR.out.below)).mono ?_
   rintro e w3 ⟨rfl, hb3⟩
   have hm3 := (HMR.out.step hb3).new 45 [.int .i64 p0', .int .i64 p1', .int .i64 p2', .int .i64 p3']
   simp only [List.nil_append, List.cons_append] at hm3
   have HO3 := Lib.hid (own_bl (own_bl HO1.out hb3) (bw_new (Below.refl _ _) (.cells #[.int .i64 p0', .int .i64 p1', .int .i64 p2', .int .i64 p3'] 45)))
   have hsz3 : w.heap.size + 4 ≤ w3.heap.size := Nat.le_trans hsz hb3.size
   have hsz13 := hb3.size
   have c0 := (hm3.at_ 4 rfl).cell 0
   have c1 := (hm3.at_ 4 rfl).cell 1
   have c2 := (hm3.at_ 4 rfl).cell 2
   have c3 := (hm3.at_ 4 rfl).cell 3
   simp only [List.getElem?_cons_succ, List.getElem?_cons_zero] at c0 c1 c2 c3
   have HM3 := Lib.hid hm3
   clear hb3 hm3 v0 v1
   cases lk
   ·have HQ := Lib.hid HM3.out.below
    go_wp2
    exact bodyPost_ret (v := .bool true) (by simp [results, Tryz.results39, go_sem]) rfl ⟨rfl, HQ.out⟩
   have HZZ := Lib.hid (fun W => HZK.out W rfl)
   have HAB := Lib.hid (fun W => HAA.out W rfl)
   have HOB := Lib.hid (fun W => HOO.out W rfl)
   have HDB := Lib.hid (fun W => HDD.out W rfl)
   have HGB := Lib.hid (fun W h0 h3 h4 hT => HGG.out W h0 rfl (HJL.out (by omega)) h3 h4 hT)
   clear HZK HAA HOO HDD HGG
   go_wp2_with fail
   refine (HSK.out _).mono ?_
   rintro e w4 ⟨rfl, hb4⟩
   have HM4 := Lib.hid (HM3.out.step hb4)
   have HO4 := Lib.hid (own_bl HO3.out hb4)
   have hsz4 : w.heap.size + 5 ≤ w4.heap.size := by have := hb4.size; rw [World.size_alloc] at this; omega
   clear hb4 c0 c1 c2 c3
   cases sk
   ·have HQ := Lib.hid HM4.out.below
    go_wp2
    exact bodyPost_ret (v := .bool true) (by simp [results, Tryz.results39, go_sem]) rfl ⟨rfl, HQ.out⟩
   go_upto_region 9 with fail
   refine wp_regionJ 4 #[false, false, false, false] (fun l a W => ∃ (m0 m1 m2 m3 : Bool), l = #[m0, m1, m2, m3] ∧ a = ({ tmps := #[.agg (cirL C).toArray, .agg #[.int .i64 x0, .int .i64 x1], szv s0 s1 s2 s3 s4 s5, .slice LA ln lc, .int .i64 wn, .pointer (some ⟨w.heap.size, 0, none⟩), .pointer (some ⟨w.heap.size + 1, 0, none⟩), .pointer (some ⟨w.heap.size + 1 + 1, 0, none⟩), undef, undef, u10, .slice A m c, .int .i64 wb, .pointer (some ⟨w.heap.size + 1 + 1 + 1, 0, none⟩), .int .i64 z, .pointer (some ⟨w3.heap.size, 0, none⟩), .bool true, u17, .agg #[.int .i64 0, .int .i64 0, .int .i64 0, .int .i64 1], .int .i64 z, .bool true, .int .i64 z, .tuple #[ovv p0' p1' p2' p3', .bool true], .agg (cirL C).toArray, .int .i64 z, .int .i64 z, .pointer (some ⟨w.heap.size + 1, 0, none⟩), .int .i64 x0, .int .i64 (z + x0), .tuple #[ovv p0' p1' p2' p3', .bool true], ovv p0' p1' p2' p3', .bool true, .bool true, .bool false, .bool false, .agg #[.int .i64 p0', .int .i64 p1', .int .i64 p2', .int .i64 p3'], .bool true, .bool false, .bool false, cwX m0 (ovv p0' p1' p2' p3') (u39), cwX m1 (szv e0' e1' e2' e3' e4' e5') (u40), cwX m2 (szv s0 s1 s2 s3 s4 s5) (u41), cwX m3 (.bool (eqZ e0' e1' e2' e3' e4' e5' s0 s1 s2 s3 s4 s5)) (u42), u43, u44, u45, u46, u47, u48, u49, u50, u51, u52, u53, u54, u55, u56, u57, u58, u59, u60, u61, u62, u63, u64, u65, u66, u67, u68, u69, u70, undef, undef, undef, undef, undef, undef, undef, undef], defers := [] } : Act) ∧ (True) ∧ HpB w [(w.heap.size, 33, cirL C), (w.heap.size + 1, 77, [.int .i64 x0, .int .i64 x1]), (w.heap.size + 1 + 1, 36, [.int .i64 s0, .int .i64 s1, .int .i64 s2, .int .i64 s3, .int .i64 s4, .int .i64 s5]), (w.heap.size + 1 + 1 + 1, 45, [.int .i64 r0, .int .i64 r1, .int .i64 r2, .int .i64 r3]), (w3.heap.size, 45, [.int .i64 p0', .int .i64 p1', .int .i64 p2', .int .i64 p3'])] w4 W) (by kernel_rfl) (by kernel_rfl) (by kernel_rfl) (by kernel_rfl) ?_ ?_ ?_ ?_
   ·rintro l a W ⟨m0, m1, m2, m3, rfl, _⟩
    rfl
   ·exact ⟨false, false, false, false, rfl, rfl, trivial, ⟨HM4.out.drew, bw_drew (Below.refl _ _)⟩⟩
   ·rintro l a W i o ⟨m0, m1, m2, m3, rfl, rfl, hi0, hm⟩ ho hun hall K hK
    have hi : i < 4 := (Array.getElem?_eq_some_iff.1 ho).1
    have HM := Lib.hid hm
    have HI := Lib.hid hi0
    clear hm hi0
    rcases (show i = 0 ∨ i = 1 ∨ i = 2 ∨ i = 3 by omega) with rfl | rfl | rfl | rfl
    ·cases ho
     simp at hun; subst hun
     clear hall hi
     have v0 : W.cell? ⟨w3.heap.size, 0, none⟩ = some (.int .i64 p0') := (HM.out.at_ 4 rfl).cell 0
     have v1 : W.cell? ⟨w3.heap.size, 1, none⟩ = some (.int .i64 p1') := (HM.out.at_ 4 rfl).cell 1
     have v2 : W.cell? ⟨w3.heap.size, 2, none⟩ = some (.int .i64 p2') := (HM.out.at_ 4 rfl).cell 2
     have v3 : W.cell? ⟨w3.heap.size, 3, none⟩ = some (.int .i64 p3') := (HM.out.at_ 4 rfl).cell 3
     go_simp
     exact hK.out _ _ ⟨true, m1, m2, m3, rfl, rfl, trivial, HM.out⟩
    ·cases ho
     cases (getBX hall 0 rfl : m0 = true)
     simp at hun; subst hun
     clear hall hi
     go_simp
     refine (HZZ.out _).mono ?_
     rintro e W' ⟨rfl, hb⟩
     exact hK.out _ _ ⟨true, true, m2, m3, rfl, rfl, trivial, HM.out.step hb⟩
    ·cases ho
     simp at hun; subst hun
     clear hall hi
     obtain ⟨y0', y1', y2', y3', y4', y5'⟩ := six_of (HM.out.at_ 2 rfl)
     go_simp
     exact hK.out _ _ ⟨m0, m1, true, m3, rfl, rfl, trivial, HM.out⟩
    ·cases ho
     cases (getBX hall 1 rfl : m1 = true)
     cases (getBX hall 2 rfl : m2 = true)
     simp at hun; subst hun
     clear hall hi
     go_simp
     rw [eqZ_run]
     go_simp
     exact hK.out _ _ ⟨m0, true, true, true, rfl, rfl, trivial, HM.out⟩
   ·rintro l a W ⟨m0, m1, m2, m3, rfl, rfl, _, hm⟩ hall
    cases (hall 0 (by decide) : m0 = true)
    cases (hall 1 (by decide) : m1 = true)
    cases (hall 2 (by decide) : m2 = true)
    cases (hall 3 (by decide) : m3 = true)
    clear hall
    have HM5 := Lib.hid hm.hp
    have HO5 := Lib.hid (own_bl HO4.out hm.bw)
    have hs5 := hm.bw.size
    clear hm
    dsimp only [cwX, cond_true]
    rw [← HEK.out]
    go_upto_if 42 with fail
    go_cut [11] (fun s11 wx => ∃ (A' : Option Addr) (c' : Nat), s11 = .slice A' (lsB B (k + 1)).length c' ∧ wx.ownsRow (w.heap.size + 4) 3 1 (.slice A' (lsB B (k + 1)).length c') (lsB B (k + 1)).length ((lsB B (k + 1)).map i64z) ∧ Hp w [(w.heap.size, 33, cirL C), (w.heap.size + 1, 77, [.int .i64 x0, .int .i64 x1]), (w.heap.size + 1 + 1, 36, [.int .i64 s0, .int .i64 s1, .int .i64 s2, .int .i64 s3, .int .i64 s4, .int .i64 s5]), (w.heap.size + 1 + 1 + 1, 45, [.int .i64 r0, .int .i64 r1, .int .i64 r2, .int .i64 r3]), (w3.heap.size, 45, [.int .i64 p0', .int .i64 p1', .int .i64 p2', .int .i64 p3'])] wx ∧ w4.heap.size ≤ wx.heap.size)
    case first =>
     cases bk with
     | true =>
      have HLT := Lib.hid (show lsB B (k + 1) = l ++ [z] by rw [HLS.out, if_pos rfl, HL.out.1, HZV.out])
      go_wp2_with (at_builtin; refine wpList_append_own _ rfl _ _ 69 rfl (w.heap.size + 4) 3 i0 (.int .i64 0) 1 8 Tryz.underlying69 HI0.out HZ0.out HZ1.out HZ2.out rfl (by decide) _ _ _ rfl (own_bl HO5.out (bw_new (Below.refl _ _) _)) ⟨W.heap.size, 0, none⟩ 1 1 [.int .i64 z] rfl rfl ?cells (by simp [Value.oneCell']) (by unfold maxLen; omega) (by omega) (by simp; omega) ?_)
      try (case cells => exact World.news_of_block (cs := #[.int .i64 z]) (t := 3) (fr := (0, 0)) (heap_alloc_new W (.cells #[.int .i64 z] 3)))
      intro v' w6 hown hgrow _
      obtain ⟨g, rc2, hv, hrc2⟩ := own_form hown (by omega)
      subst hv
      have hm6 : Hp w [(w.heap.size, 33, cirL C), (w.heap.size + 1, 77, [.int .i64 x0, .int .i64 x1]), (w.heap.size + 1 + 1, 36, [.int .i64 s0, .int .i64 s1, .int .i64 s2, .int .i64 s3, .int .i64 s4, .int .i64 s5]), (w.heap.size + 1 + 1 + 1, 45, [.int .i64 r0, .int .i64 r1, .int .i64 r2, .int .i64 r3]), (w3.heap.size, 45, [.int .i64 p0', .int .i64 p1', .int .i64 p2', .int .i64 p3'])] w6 := (HM5.out.alloc _).grw hgrow (fun q hq => by
       have := (HO5.out.lt _ hq).1
       have h3 := (HO5.out.lt _ hq).2
       refine ⟨by omega, fun p hp => ?_⟩
       simp only [List.mem_cons, List.not_mem_nil, or_false] at hp
       rcases hp with rfl | rfl | rfl | rfl | rfl
       ·show w.heap.size ≠ q; omega
       ·show w.heap.size + 1 ≠ q; omega
       ·show w.heap.size + 1 + 1 ≠ q; omega
       ·show w.heap.size + 1 + 1 + 1 ≠ q; omega
       ·have := (HO1.out.lt _ hq).2
        show w3.heap.size ≠ q
        omega)
      have hs6 := hgrow.size
      rw [World.size_alloc] at hs6
      have HM6 := Lib.hid hm6
      have HO6 := Lib.hid hown
      clear hown hgrow hm6
      go_wp2
      go_meet
      rw [HLT.out, List.length_append, List.map_append, ← HL.out.2]
      exact ⟨_, _, rfl, HO6.out, HM6.out, by omega⟩
     | false =>
      have HLT := Lib.hid (show lsB B (k + 1) = l by rw [HLS.out, HL.out.1]; simp)
      go_wp2
      go_meet
      rw [HLT.out, ← HL.out.2]
      exact ⟨_, _, rfl, HO5.out, HM5.out, hs5⟩
    case rest =>
     obtain ⟨A', c', rfl, hown5, hm5, hsz5⟩ := hcut
     have HOW := Lib.hid hown5
     have HM7 := Lib.hid hm5
     have hll2 : (lsB B (k + 1)).length ≤ 12 := Nat.le_trans (lsB_len _ _) (by omega)
     obtain ⟨m2, hm2⟩ : ∃ n, n = (lsB B (k + 1)).length := ⟨_, rfl⟩
     rw [← hm2] at HOW hll2 ⊢
     have HM2L := Lib.hid hm2
     have c0 := (hm5.at_ 3 rfl).cell 0
     have c1 := (hm5.at_ 3 rfl).cell 1
     have c2 := (hm5.at_ 3 rfl).cell 2
     have c3 := (hm5.at_ 3 rfl).cell 3
     simp only [List.getElem?_cons_succ, List.getElem?_cons_zero] at c0 c1 c2 c3
     have e0 := (hm5.at_ 4 rfl).cell 0
     have e1 := (hm5.at_ 4 rfl).cell 1
     have e2 := (hm5.at_ 4 rfl).cell 2
     have e3 := (hm5.at_ 4 rfl).cell 3
     simp only [List.getElem?_cons_succ, List.getElem?_cons_zero] at e0 e1 e2 e3
     clear hown5 hm5 hm2 hs5
     go_wp2_with fail
     refine (HAB.out _).mono ?_
     rintro e w7 ⟨rfl, hb7⟩
     have HM8 := Lib.hid (HM7.out.step hb7)
     have HO8 := Lib.hid (own_bl HOW.out hb7)
     have hs7 := hb7.size
     clear c0 c1 c2 c3 e0 e1 e2 e3 hb7
     go_wp2_with fail
     refine (HOB.out _).mono ?_
     rintro e w8 ⟨rfl, hb8⟩
     have hm9 := (HM8.out.step hb8).new 45 [.int .i64 u0', .int .i64 u1', .int .i64 u2', .int .i64 u3']
     simp only [List.nil_append, List.cons_append] at hm9
     have HO9 := Lib.hid (own_bl (own_bl HO8.out hb8) (bw_new (Below.refl _ _) (.cells #[.int .i64 u0', .int .i64 u1', .int .i64 u2', .int .i64 u3'] 45)))
     have hs8 := hb8.size
     have c0 := (hm9.at_ 5 rfl).cell 0
     have c1 := (hm9.at_ 5 rfl).cell 1
     have c2 := (hm9.at_ 5 rfl).cell 2
     have c3 := (hm9.at_ 5 rfl).cell 3
     simp only [List.getElem?_cons_succ, List.getElem?_cons_zero] at c0 c1 c2 c3
     have HM9 := Lib.hid hm9
     clear hb8 hm9
     cases ok
     ·have HQ := Lib.hid HM9.out.below
      go_wp2
      exact bodyPost_ret (v := .bool true) (by simp [results, Tryz.results39, go_sem]) rfl ⟨rfl, HQ.out⟩
     have HGC := Lib.hid (fun W h0 h4 hT => HGB.out W h0 rfl h4 hT)
     clear HGB
     go_wp2_with fail
     refine (HDB.out _).mono ?_
     rintro e w9 ⟨rfl, hb9⟩
     have hm10 := HM9.out.step hb9
     have HO10 := Lib.hid (own_bl HO9.out hb9)
     have hs9 := hb9.size
     rw [World.size_alloc] at hs9
     clear c0 c1 c2 c3 hb9
     have c0 := (hm10.at_ 5 rfl).cell 0
     have c1 := (hm10.at_ 5 rfl).cell 1
     have c2 := (hm10.at_ 5 rfl).cell 2
     have c3 := (hm10.at_ 5 rfl).cell 3
     simp only [List.getElem?_cons_succ, List.getElem?_cons_zero] at c0 c1 c2 c3
     have e0 := (hm10.at_ 4 rfl).cell 0
     have e1 := (hm10.at_ 4 rfl).cell 1
     have e2 := (hm10.at_ 4 rfl).cell 2
     have e3 := (hm10.at_ 4 rfl).cell 3
     simp only [List.getElem?_cons_succ, List.getElem?_cons_zero] at e0 e1 e2 e3
     have d0 := (hm10.at_ 3 rfl).cell 0
     have d1 := (hm10.at_ 3 rfl).cell 1
     have d2 := (hm10.at_ 3 rfl).cell 2
     have d3 := (hm10.at_ 3 rfl).cell 3
     simp only [List.getElem?_cons_succ, List.getElem?_cons_zero] at d0 d1 d2 d3
     have f0 := (hm10.at_ 3 rfl).frozen 0
     have f1 := (hm10.at_ 3 rfl).frozen 1
     have f2 := (hm10.at_ 3 rfl).frozen 2
     have f3 := (hm10.at_ 3 rfl).frozen 3
     have HM10 := Lib.hid (hm10.sub (L' := [(w.heap.size, 33, cirL C), (w.heap.size + 1, 77, [.int .i64 x0, .int .i64 x1]), (w.heap.size + 1 + 1, 36, [.int .i64 s0, .int .i64 s1, .int .i64 s2, .int .i64 s3, .int .i64 s4, .int .i64 s5]), (w.heap.size + 1 + 1 + 1, 45, [.int .i64 r0, .int .i64 r1, .int .i64 r2, .int .i64 r3])]) (by simp))
     have HP10 := Lib.hid ((hm10.put4 3 rfl (.int .i64 p0') (.int .i64 p1') (.int .i64 p2') (.int .i64 p3')).sub (L' := [(w.heap.size, 33, cirL C), (w.heap.size + 1, 77, [.int .i64 x0, .int .i64 x1]), (w.heap.size + 1 + 1, 36, [.int .i64 s0, .int .i64 s1, .int .i64 s2, .int .i64 s3, .int .i64 s4, .int .i64 s5]), (w.heap.size + 1 + 1 + 1, 45, [.int .i64 p0', .int .i64 p1', .int .i64 p2', .int .i64 p3'])]) (by simp))
     have HO11 := Lib.hid (own_far (own_far (own_far (own_far HO10.out (g := w.heap.size + 1 + 1 + 1) (o := 0) (by omega) (.int .i64 p0')) (g := w.heap.size + 1 + 1 + 1) (o := 1) (by omega) (.int .i64 p1')) (g := w.heap.size + 1 + 1 + 1) (o := 2) (by omega) (.int .i64 p2')) (g := w.heap.size + 1 + 1 + 1) (o := 3) (by omega) (.int .i64 p3'))
     cases sd
     ·have HQ := Lib.hid hm10.below
      clear hm10
      go_wp2
      exact bodyPost_ret (v := .bool true) (by simp [results, Tryz.results39, go_sem]) rfl ⟨rfl, HQ.out⟩
     have HGD := Lib.hid (fun W h0 hT => HGC.out W h0 rfl hT)
     have HM11 := Lib.hid hm10
     have hex : wdB L (k + 1) = if k = 0 then 0 else if sg ≤ 0 then J else k := by rw [show wdB L (k + 1) = if k = 0 then 0 else if L k (wdB L k) ≤ 0 then wdB L k else k from rfl, ← HJ.out, ← HSG.out]
     have HEX := Lib.hid hex
     have HLB2 := Lib.hid (show ∀ j, j < k + 1 → LB j = true from fun j hj => by
      rcases (show j < k ∨ j = k by omega) with hj | rfl
      ·exact HLB.out j hj
      ·exact HLK.out.symm)
     clear HGC hm10 hex
     by_cases hk0 : k = 0
     ·have hz0 : z = 0 := by have := HZV.out; omega
      have hz1 : (z == 0) = true := by simpa using hz0
      go_upto_region 15 with fail
      go_region
      go_wp2_with fail
      go_roundw
      case rel =>
       have ew : wdB L (k + 1) = k := by rw [HEX.out, if_pos hk0, hk0]
       have hzk := HZV.out
       obtain ⟨h0, h1, h2, h3⟩ := HPK.out
       refine ⟨k + 1, A', c', p0', p1', p2', p3', by omega, by rw [hk0]; rfl, by rw [HM2L.out], by rw [ew, hk0]; rfl, ⟨?_, ?_, ?_, ?_⟩, HLB2.out, ?_, HP10.out.drew, by simp; omega⟩
       ·rw [if_neg (by omega), ew]; exact h0
       ·rw [if_neg (by omega), ew]; exact h1
       ·rw [if_neg (by omega), ew]; exact h2
       ·rw [if_neg (by omega), ew]; exact h3
       ·rw [← HM2L.out]; exact own_bl HO11.out (bw_drew (Below.refl _ _))
      case measure => simp [intOf]; have := HZV.out; omega
     ·have hz0 : ¬ z = 0 := by have := HZV.out; omega
      have hz1 : (z == 0) = false := by simpa using hz0
      have hJk : J < k := by have h1 := wdB_lt L k (by omega); have h2 := HJ.out; omega
      have HGE := Lib.hid (fun W hT => HGD.out W hJk hT)
      clear HGD
      go_wp2_with fail
      refine (HGE.out _ (HT.out.below HM11.out.below)).mono ?_
      rintro e w10 ⟨rfl, hb10⟩
      have hm12 := HM11.out.step hb10
      have HO12 := Lib.hid (own_bl HO10.out hb10)
      have HO13 := Lib.hid (own_far (own_far (own_far (own_far HO12.out (g := w.heap.size + 1 + 1 + 1) (o := 0) (by omega) (.int .i64 p0')) (g := w.heap.size + 1 + 1 + 1) (o := 1) (by omega) (.int .i64 p1')) (g := w.heap.size + 1 + 1 + 1) (o := 2) (by omega) (.int .i64 p2')) (g := w.heap.size + 1 + 1 + 1) (o := 3) (by omega) (.int .i64 p3'))
      have hs10 := hb10.size
      clear c0 c1 c2 c3 d0 d1 d2 d3 e0 e1 e2 e3 f0 f1 f2 f3 hb10
      have e0 := (hm12.at_ 4 rfl).cell 0
      have e1 := (hm12.at_ 4 rfl).cell 1
      have e2 := (hm12.at_ 4 rfl).cell 2
      have e3 := (hm12.at_ 4 rfl).cell 3
      simp only [List.getElem?_cons_succ, List.getElem?_cons_zero] at e0 e1 e2 e3
      have d0 := (hm12.at_ 3 rfl).cell 0
      have d1 := (hm12.at_ 3 rfl).cell 1
      have d2 := (hm12.at_ 3 rfl).cell 2
      have d3 := (hm12.at_ 3 rfl).cell 3
      simp only [List.getElem?_cons_succ, List.getElem?_cons_zero] at d0 d1 d2 d3
      have f0 := (hm12.at_ 3 rfl).frozen 0
      have f1 := (hm12.at_ 3 rfl).frozen 1
      have f2 := (hm12.at_ 3 rfl).frozen 2
      have f3 := (hm12.at_ 3 rfl).frozen 3
      have HM12 := Lib.hid (hm12.sub (L' := [(w.heap.size, 33, cirL C), (w.heap.size + 1, 77, [.int .i64 x0, .int .i64 x1]), (w.heap.size + 1 + 1, 36, [.int .i64 s0, .int .i64 s1, .int .i64 s2, .int .i64 s3, .int .i64 s4, .int .i64 s5]), (w.heap.size + 1 + 1 + 1, 45, [.int .i64 r0, .int .i64 r1, .int .i64 r2, .int .i64 r3])]) (by simp))
      have HP12 := Lib.hid ((hm12.put4 3 rfl (.int .i64 p0') (.int .i64 p1') (.int .i64 p2') (.int .i64 p3')).sub (L' := [(w.heap.size, 33, cirL C), (w.heap.size + 1, 77, [.int .i64 x0, .int .i64 x1]), (w.heap.size + 1 + 1, 36, [.int .i64 s0, .int .i64 s1, .int .i64 s2, .int .i64 s3, .int .i64 s4, .int .i64 s5]), (w.heap.size + 1 + 1 + 1, 45, [.int .i64 p0', .int .i64 p1', .int .i64 p2', .int .i64 p3'])]) (by simp))
      clear hm12
      by_cases hg0 : sg ≤ 0
      ·go_wp2_with fail
       go_roundw
       case rel =>
        have ew : wdB L (k + 1) = J := by rw [HEX.out, if_neg (by have := HZV.out; omega), if_pos hg0]
        have hzk := HZV.out
        obtain ⟨h0, h1, h2, h3⟩ := HMO.out
        have hk0' : ¬ k = 0 := by have := HZV.out; omega
        rw [if_neg hk0'] at h0 h1 h2 h3
        refine ⟨k + 1, A', c', r0, r1, r2, r3, by omega, by rw [hzk]; go_num, by rw [HM2L.out], by rw [ew, HWB.out], ⟨?_, ?_, ?_, ?_⟩, HLB2.out, ?_, HM12.out, by omega⟩
        ·rw [if_neg (by omega), ew]; exact h0
        ·rw [if_neg (by omega), ew]; exact h1
        ·rw [if_neg (by omega), ew]; exact h2
        ·rw [if_neg (by omega), ew]; exact h3
        ·rw [← HM2L.out]; exact HO12.out
       case measure => simp [intOf]; have := HZV.out; omega
      ·have hg1 : 0 < sg := by omega
       go_upto_region 15 with fail
       go_region
       go_wp2_with fail
       go_roundw
       case rel =>
        have ew : wdB L (k + 1) = k := by rw [HEX.out, if_neg (by have := HZV.out; omega), if_neg (by omega)]
        have hzk := HZV.out
        obtain ⟨h0, h1, h2, h3⟩ := HPK.out
        refine ⟨k + 1, A', c', p0', p1', p2', p3', by omega, by rw [hzk]; go_num, by rw [HM2L.out], by rw [ew, hzk], ⟨?_, ?_, ?_, ?_⟩, HLB2.out, ?_, HP12.out.drew, by simp; omega⟩
        ·rw [if_neg (by omega), ew]; exact h0
        ·rw [if_neg (by omega), ew]; exact h1
        ·rw [if_neg (by omega), ew]; exact h2
        ·rw [if_neg (by omega), ew]; exact h3
        ·rw [← HM2L.out]; exact own_bl HO13.out (bw_drew (Below.refl _ _))
       case measure => simp [intOf]; have := HZV.out; omega
  ·obtain rfl : k = 12 := by omega
   have hown := HO1.out
   rw [HL.out.2, HL.out.1] at hown
   have oR := Rd.of_own hown rfl
   have oC := own_cap hown
   have hr2 := (HLR.out.more hBd).below HMR.out.below
   have hsq := seq_any LA A lc c (lsB B 12) (lsB B 12) wr (hr2.more HMR.out.below.size) oR (Nat.le_trans (lsB_len _ _) (by decide)) (Nat.le_trans (lsB_len _ _) (by decide)) HLC.out oC
   rw [decide_eq_true rfl, ← HLN.out] at hsq
   have HSQ := Lib.hid hsq
   have HQ := Lib.hid HMR.out
   have hwj : wn = (J : Nat) := by rw [HWN.out, HJ.out]
   rw [hwj]
   have hmn : m = ln := by rw [HL.out.2, HL.out.1, HLN.out]
   rw [hmn]
   clear hown oR oC hr2 hsq hwj hmn hk hlt
   go_wp2_with fail
   refine HSQ.out.mono ?_
   rintro e w4 ⟨rfl, hb4⟩
   have HB4 := Lib.hid (HQ.out.step hb4).below
   clear hb4
   go_wp2
   exact bodyPost_ret (v := .bool true) (by simp [results, Tryz.results39, go_sem]) rfl ⟨rfl, HB4.out⟩
end Go.Proofs.YtlmheeommpbimaaGreatDoor
