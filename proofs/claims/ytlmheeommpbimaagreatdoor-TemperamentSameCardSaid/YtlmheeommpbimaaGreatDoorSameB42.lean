/- Part 42 of 44 of the proof of the law: contracts of the functions that it reaches, and plain facts. Conditions: those that each contract names. -/
import Derived.Test.YtlmheeommpbimaaGreatDoorSameB41
import Derived.RegionTactic
import Derived.Deep.DeepCutAuto
import Derived.Test.YtlmheeommpbimaaGreatDoorSameB37
namespace Go.Proofs.YtlmheeommpbimaaGreatDoor
open Go.RowKit
set_option maxRecDepth 1000000 in
set_option maxHeartbeats 4000000 in
theorem lnote_long (C : Nat → Tm) (n k : Nat) (s0 s1 s2 s3 : Int) (w : World) (ht : Tab w) (hn : n < 12) (hk : 7 * n % 12 = k)
  (hSU : ∀ W, Calls Tryz.prog 17 #[.agg (cirL C).toArray, .int .i64 (k : Int)] W fun e w' => e = .returned (.tuple #[ovv s0 s1 s2 s3, .bool true]) ∧ Below W.heap.size W w')
  (hSH : ∀ W, Calls Tryz.prog 73 #[ovv s0 s1 s2 s3] W fun e w' => e = .returned (.bool false) ∧ Below W.heap.size W w') :
  Calls Tryz.prog 36 #[.agg (cirL C).toArray, .int .i64 (n : Int)] w fun e w' => e = .returned (.tuple #[ovv s0 s1 s2 s3, .bool false]) ∧ Below w.heap.size w w' := by
 have HSU := Lib.hid hSU
 have HSH := Lib.hid hSH
 have HT := Lib.hid ht
 obtain ⟨x, hx⟩ : ∃ x : Int, x = (n : Int) := ⟨_, rfl⟩
 obtain ⟨y, hy⟩ : ∃ y : Int, y = (k : Int) := ⟨_, rfl⟩
 have hxy : (7 * x).tmod 12 = y := by rw [Int.tmod_eq_emod_of_nonneg (by omega)]; omega
 have w7 : IntKind.i64.wrap (7 * x) = 7 * x := IntWalk.i64_in _ (by omega)
 have wy : IntKind.i64.wrap y = y := IntWalk.i64_in _ (by omega)
 have hx0 : 0 ≤ x ∧ x < 12 := by omega
 rw [← hy] at HSU
 rw [← hx]
 clear hx hy hk hn ht hSU hSH
 have hm0 := ((Hp.start w).new 33 (cirL C)).new 45 [.int .i64 0, .int .i64 0, .int .i64 0, .int .i64 0]
 simp only [World.size_alloc, List.nil_append, List.cons_append] at hm0
 have HM0 := Lib.hid hm0
 clear hm0
 go_enter Tryz.func36, Tryz.ntmps36
 go_wp2_with (refine wpList_load_row rfl 33 _ rfl (w.heap.size) rfl 33 (cirL C).toArray (0, 0) _ (HM0.out.at_ 0 rfl) Tryz.underlying33 rfl (by rw [infoCircle, List.size_toArray, cirL_len]) ?_)
 refine (HSU.out _).mono ?_
 rintro e w1 ⟨rfl, hb1⟩
 have hm1 := (HM0.out.step hb1).new 45 [.int .i64 s0, .int .i64 s1, .int .i64 s2, .int .i64 s3]
 simp only [List.nil_append, List.cons_append] at hm1
 have v0 := (hm1.at_ 2 rfl).cell 0
 have v1 := (hm1.at_ 2 rfl).cell 1
 have v2 := (hm1.at_ 2 rfl).cell 2
 have v3 := (hm1.at_ 2 rfl).cell 3
 simp only [List.getElem?_cons_succ, List.getElem?_cons_zero] at v0 v1 v2 v3
 have HM1 := Lib.hid hm1
 clear hb1 hm1
 go_wp2_with fail
 refine (HSH.out _).mono ?_
 rintro e w2 ⟨rfl, hb2⟩
 have hq := HM1.out.step hb2
 clear v0 v1 v2 v3
 have v0 := (hq.at_ 2 rfl).cell 0
 have v1 := (hq.at_ 2 rfl).cell 1
 have v2 := (hq.at_ 2 rfl).cell 2
 have v3 := (hq.at_ 2 rfl).cell 3
 have z0 := (hq.at_ 1 rfl).cell 0
 have z1 := (hq.at_ 1 rfl).cell 1
 have z2 := (hq.at_ 1 rfl).cell 2
 have z3 := (hq.at_ 1 rfl).cell 3
 have f0 := (hq.at_ 1 rfl).frozen 0
 have f1 := (hq.at_ 1 rfl).frozen 1
 have f2 := (hq.at_ 1 rfl).frozen 2
 have f3 := (hq.at_ 1 rfl).frozen 3
 simp only [List.getElem?_cons_succ, List.getElem?_cons_zero] at v0 v1 v2 v3 z0 z1 z2 z3
 have HB := Lib.hid (hq.put4 1 rfl (.int .i64 s0) (.int .i64 s1) (.int .i64 s2) (.int .i64 s3)).below
 clear hb2 hq
 go_wp2
 exact bodyPost_ret (v := .tuple #[ovv s0 s1 s2 s3, .bool false]) (by simp [results, Tryz.results36, go_sem, z0, z1, z2, z3, f0, f1, f2, f3]) rfl ⟨rfl, HB.out⟩
set_option maxRecDepth 1000000 in
set_option maxHeartbeats 4000000 in
theorem lnote_short (C : Nat → Tm) (n k : Nat) (s0 s1 s2 s3 z t0 t1 t2 t3 u0 u1 u2 u3 : Int) (w : World) (ht : Tab w) (hn : n < 12) (hk : 7 * n % 12 = k)
  (hSU : ∀ W, Calls Tryz.prog 17 #[.agg (cirL C).toArray, .int .i64 (k : Int)] W fun e w' => e = .returned (.tuple #[ovv s0 s1 s2 s3, .bool true]) ∧ Below W.heap.size W w')
  (hSH : ∀ W, Calls Tryz.prog 73 #[ovv s0 s1 s2 s3] W fun e w' => e = .returned (.bool true) ∧ Below W.heap.size W w')
  (hOC : ∀ W, Tab W → Calls Tryz.prog 74 #[ovv s0 s1 s2 s3] W fun e w' => e = .returned (.int .i64 z) ∧ Below W.heap.size W w')
  (hAD : ∀ W, Calls Tryz.prog 19 #[ovv s0 s1 s2 s3, ovv z 0 0 1, .int .i64 (-1)] W fun e w' => e = .returned (ovv t0 t1 t2 t3) ∧ Below W.heap.size W w')
  (hOV : ∀ W, Calls Tryz.prog 18 #[ovv t0 t1 t2 t3] W fun e w' => e = .returned (.tuple #[ovv u0 u1 u2 u3, .bool true]) ∧ Below W.heap.size W w') :
  Calls Tryz.prog 36 #[.agg (cirL C).toArray, .int .i64 (n : Int)] w fun e w' => e = .returned (.tuple #[ovv u0 u1 u2 u3, .bool true]) ∧ Below w.heap.size w w' := by
 have HSU := Lib.hid hSU
 have HSH := Lib.hid hSH
 have HT := Lib.hid ht
 have HOC := Lib.hid hOC
 have HAD := Lib.hid hAD
 have HOV := Lib.hid hOV
 have HLO := Lib.hid (fun W => loctaves_any z W)
 obtain ⟨x, hx⟩ : ∃ x : Int, x = (n : Int) := ⟨_, rfl⟩
 obtain ⟨y, hy⟩ : ∃ y : Int, y = (k : Int) := ⟨_, rfl⟩
 have hxy : (7 * x).tmod 12 = y := by rw [Int.tmod_eq_emod_of_nonneg (by omega)]; omega
 have w7 : IntKind.i64.wrap (7 * x) = 7 * x := IntWalk.i64_in _ (by omega)
 have wy : IntKind.i64.wrap y = y := IntWalk.i64_in _ (by omega)
 have hx0 : 0 ≤ x ∧ x < 12 := by omega
 rw [← hy] at HSU
 rw [← hx]
 clear hx hy hk hn ht hSU hSH hOC hAD hOV
 have hm0 := ((Hp.start w).new 33 (cirL C)).new 45 [.int .i64 0, .int .i64 0, .int .i64 0, .int .i64 0]
 simp only [World.size_alloc, List.nil_append, List.cons_append] at hm0
 have HM0 := Lib.hid hm0
 clear hm0
 go_enter Tryz.func36, Tryz.ntmps36
 go_wp2_with (refine wpList_load_row rfl 33 _ rfl (w.heap.size) rfl 33 (cirL C).toArray (0, 0) _ (HM0.out.at_ 0 rfl) Tryz.underlying33 rfl (by rw [infoCircle, List.size_toArray, cirL_len]) ?_)
 refine (HSU.out _).mono ?_
 rintro e w1 ⟨rfl, hb1⟩
 have hm1 := (HM0.out.step hb1).new 45 [.int .i64 s0, .int .i64 s1, .int .i64 s2, .int .i64 s3]
 simp only [List.nil_append, List.cons_append] at hm1
 have v0 := (hm1.at_ 2 rfl).cell 0
 have v1 := (hm1.at_ 2 rfl).cell 1
 have v2 := (hm1.at_ 2 rfl).cell 2
 have v3 := (hm1.at_ 2 rfl).cell 3
 simp only [List.getElem?_cons_succ, List.getElem?_cons_zero] at v0 v1 v2 v3
 have HM1 := Lib.hid hm1
 clear hb1 hm1
 go_wp2_with fail
 refine (HSH.out _).mono ?_
 rintro e w2 ⟨rfl, hb2⟩
 have HM2 := Lib.hid (HM1.out.step hb2)
 clear hb2 v0 v1 v2 v3
 go_upto_region 5 with fail
 refine wp_regionJ 10 #[false, false, false, false, false, false, false, false, false, false] (fun l a W => ∃ (m0 m1 m2 m3 m4 m5 m6 m7 m8 m9 : Bool), l = #[m0, m1, m2, m3, m4, m5, m6, m7, m8, m9] ∧ a = ({ tmps := #[Value.agg (cirL C).toArray, Value.int IntKind.i64 x, Value.pointer (some { block := w.heap.size, off := 0 }), undef, Value.pointer (some { block := w.heap.size + 1, off := 0 }), cwX m9 (.bool true) (Value.bool false), Value.int IntKind.i64 y, Value.pointer (some { block := w1.heap.size, off := 0 }), Value.bool true, Value.int IntKind.i64 x, Value.int IntKind.i64 (7 * x), Value.int IntKind.i64 y, Value.tuple #[ovv s0 s1 s2 s3, Value.bool true], Value.agg (cirL C).toArray, Value.int IntKind.i64 y, Value.tuple #[ovv s0 s1 s2 s3, Value.bool true], ovv s0 s1 s2 s3, Value.bool true, Value.bool true, Value.bool false, Value.bool false, Value.agg #[Value.int IntKind.i64 s0, Value.int IntKind.i64 s1, Value.int IntKind.i64 s2, Value.int IntKind.i64 s3], Value.bool true, Value.bool false, Value.bool false, undef, cwX m0 (ovv s0 s1 s2 s3) (undef), cwX m1 (ovv s0 s1 s2 s3) (undef), cwX m2 (.int .i64 z) (undef), cwX m3 (ovv z 0 0 1) (undef), cwX m4 (ovv t0 t1 t2 t3) (undef), cwX m5 (.tuple #[ovv u0 u1 u2 u3, .bool true]) (undef), cwX m6 (ovv u0 u1 u2 u3) (undef), cwX m7 (.bool true) (undef)], defers := [] } : Act) ∧ (True) ∧ Hp w [(w.heap.size, 33, cirL C), (w.heap.size + 1, 45, bif m8 then [.int .i64 u0, .int .i64 u1, .int .i64 u2, .int .i64 u3] else [.int .i64 0, .int .i64 0, .int .i64 0, .int .i64 0]), (w1.heap.size, 45, [.int .i64 s0, .int .i64 s1, .int .i64 s2, .int .i64 s3])] W) (by kernel_rfl) (by kernel_rfl) (by kernel_rfl) (by kernel_rfl) ?_ ?_ ?_ ?_
 ·rintro l a W ⟨m0, m1, m2, m3, m4, m5, m6, m7, m8, m9, rfl, _⟩
  rfl
 ·exact ⟨false, false, false, false, false, false, false, false, false, false, rfl, rfl, trivial, HM2.out.drew⟩
 ·rintro l a W i o ⟨m0, m1, m2, m3, m4, m5, m6, m7, m8, m9, rfl, rfl, hi0, hm⟩ ho hun hall K hK
  have hi : i < 10 := (Array.getElem?_eq_some_iff.1 ho).1
  have HM := Lib.hid hm
  have HI := Lib.hid hi0
  clear hm hi0
  rcases (show i = 0 ∨ i = 1 ∨ i = 2 ∨ i = 3 ∨ i = 4 ∨ i = 5 ∨ i = 6 ∨ i = 7 ∨ i = 8 ∨ i = 9 by omega) with rfl | rfl | rfl | rfl | rfl | rfl | rfl | rfl | rfl | rfl
  ·cases ho
   simp at hun; subst hun
   clear hall hi
   have v0 : W.cell? ⟨w1.heap.size, 0, none⟩ = some (.int .i64 s0) := (HM.out.at_ 2 rfl).cell 0
   have v1 : W.cell? ⟨w1.heap.size, 1, none⟩ = some (.int .i64 s1) := (HM.out.at_ 2 rfl).cell 1
   have v2 : W.cell? ⟨w1.heap.size, 2, none⟩ = some (.int .i64 s2) := (HM.out.at_ 2 rfl).cell 2
   have v3 : W.cell? ⟨w1.heap.size, 3, none⟩ = some (.int .i64 s3) := (HM.out.at_ 2 rfl).cell 3
   go_simp
   exact hK.out _ _ ⟨true, m1, m2, m3, m4, m5, m6, m7, m8, m9, rfl, rfl, trivial, HM.out⟩
  ·cases ho
   simp at hun; subst hun
   clear hall hi
   have v0 : W.cell? ⟨w1.heap.size, 0, none⟩ = some (.int .i64 s0) := (HM.out.at_ 2 rfl).cell 0
   have v1 : W.cell? ⟨w1.heap.size, 1, none⟩ = some (.int .i64 s1) := (HM.out.at_ 2 rfl).cell 1
   have v2 : W.cell? ⟨w1.heap.size, 2, none⟩ = some (.int .i64 s2) := (HM.out.at_ 2 rfl).cell 2
   have v3 : W.cell? ⟨w1.heap.size, 3, none⟩ = some (.int .i64 s3) := (HM.out.at_ 2 rfl).cell 3
   go_simp
   exact hK.out _ _ ⟨m0, true, m2, m3, m4, m5, m6, m7, m8, m9, rfl, rfl, trivial, HM.out⟩
  ·cases ho
   cases (getBX hall 1 rfl : m1 = true)
   simp at hun; subst hun
   clear hall hi
   go_simp
   refine (HOC.out _ (HT.out.below HM.out.below)).mono ?_
   rintro e W' ⟨rfl, hb⟩
   exact hK.out _ _ ⟨m0, true, true, m3, m4, m5, m6, m7, m8, m9, rfl, rfl, trivial, HM.out.step hb⟩
  ·cases ho
   cases (getBX hall 2 rfl : m2 = true)
   simp at hun; subst hun
   clear hall hi
   go_simp
   refine (HLO.out _).mono ?_
   rintro e W' ⟨rfl, hb⟩
   exact hK.out _ _ ⟨m0, m1, true, true, m4, m5, m6, m7, m8, m9, rfl, rfl, trivial, HM.out.step hb⟩
  ·cases ho
   cases (getBX hall 0 rfl : m0 = true)
   cases (getBX hall 3 rfl : m3 = true)
   simp at hun; subst hun
   clear hall hi
   go_simp
   refine (HAD.out _).mono ?_
   rintro e W' ⟨rfl, hb⟩
   exact hK.out _ _ ⟨true, m1, m2, true, true, m5, m6, m7, m8, m9, rfl, rfl, trivial, HM.out.step hb⟩
  ·cases ho
   cases (getBX hall 4 rfl : m4 = true)
   simp at hun; subst hun
   clear hall hi
   go_simp
   refine (HOV.out _).mono ?_
   rintro e W' ⟨rfl, hb⟩
   exact hK.out _ _ ⟨m0, m1, m2, m3, true, true, m6, m7, m8, m9, rfl, rfl, trivial, HM.out.step hb⟩
  ·cases ho
   cases (getBX hall 5 rfl : m5 = true)
   simp at hun; subst hun
   clear hall hi
   go_simp
   exact hK.out _ _ ⟨m0, m1, m2, m3, m4, true, true, m7, m8, m9, rfl, rfl, trivial, HM.out⟩
  ·cases ho
   cases (getBX hall 5 rfl : m5 = true)
   simp at hun; subst hun
   clear hall hi
   go_simp
   exact hK.out _ _ ⟨m0, m1, m2, m3, m4, true, m6, true, m8, m9, rfl, rfl, trivial, HM.out⟩
  ·cases ho
   cases (getBX hall 6 rfl : m6 = true)
   simp at hun; subst hun
   clear hall hi
   have z0 : W.cell? ⟨w.heap.size + 1, 0, none⟩ = some (.int .i64 0) := (HM.out.at_ 1 rfl).cell 0
   have f0 := (HM.out.at_ 1 rfl).frozen 0
   have z1 : W.cell? ⟨w.heap.size + 1, 1, none⟩ = some (.int .i64 0) := (HM.out.at_ 1 rfl).cell 1
   have f1 := (HM.out.at_ 1 rfl).frozen 1
   have z2 : W.cell? ⟨w.heap.size + 1, 2, none⟩ = some (.int .i64 0) := (HM.out.at_ 1 rfl).cell 2
   have f2 := (HM.out.at_ 1 rfl).frozen 2
   have z3 : W.cell? ⟨w.heap.size + 1, 3, none⟩ = some (.int .i64 0) := (HM.out.at_ 1 rfl).cell 3
   have f3 := (HM.out.at_ 1 rfl).frozen 3
   have HN := Lib.hid (HM.out.put4 1 rfl (.int .i64 u0) (.int .i64 u1) (.int .i64 u2) (.int .i64 u3))
   go_simp
   exact hK.out _ _ ⟨m0, m1, m2, m3, m4, m5, true, m7, true, m9, rfl, rfl, trivial, HN.out⟩
  ·cases ho
   cases (getBX hall 7 rfl : m7 = true)
   simp at hun; subst hun
   clear hall hi
   go_simp
   exact hK.out _ _ ⟨m0, m1, m2, m3, m4, m5, m6, true, m8, true, rfl, rfl, trivial, HM.out⟩
 ·rintro l a W ⟨m0, m1, m2, m3, m4, m5, m6, m7, m8, m9, rfl, rfl, _, hm⟩ hall
  cases (hall 0 (by decide) : m0 = true)
  cases (hall 1 (by decide) : m1 = true)
  cases (hall 2 (by decide) : m2 = true)
  cases (hall 3 (by decide) : m3 = true)
  cases (hall 4 (by decide) : m4 = true)
  cases (hall 5 (by decide) : m5 = true)
  cases (hall 6 (by decide) : m6 = true)
  cases (hall 7 (by decide) : m7 = true)
  cases (hall 8 (by decide) : m8 = true)
  cases (hall 9 (by decide) : m9 = true)
  clear hall
  have hq := hm
  clear hm
  have z0 := (hq.at_ 1 rfl).cell 0
  have z1 := (hq.at_ 1 rfl).cell 1
  have z2 := (hq.at_ 1 rfl).cell 2
  have z3 := (hq.at_ 1 rfl).cell 3
  simp only [cond_true, List.getElem?_cons_succ, List.getElem?_cons_zero] at z0 z1 z2 z3
  have HB := Lib.hid hq.below
  clear hq
  dsimp only [cwX, cond_true]
  go_wp2
  exact bodyPost_ret (v := .tuple #[ovv u0 u1 u2 u3, .bool true]) (by simp [results, Tryz.results36, go_sem, z0, z1, z2, z3]) rfl ⟨rfl, HB.out⟩
abbrev nr3 (d : Int) (v : Int × Int × Int) : Int × Int × Int × Int := nrm v.1 v.2.1 v.2.2 d
def lnB (d : Int) (P S : Nat → Int) (n : Nat) : Bool := shB (nr3 d (vS d P S (7 * n % 12))).1 (nr3 d (vS d P S (7 * n % 12))).2.1 (nr3 d (vS d P S (7 * n % 12))).2.2.1
def lnV (d : Int) (P S : Nat → Int) (n : Nat) : Int × Int × Int × Int := if lnB d P S n = true then nr3 d (vN d P S n) else nr3 d (vS d P S (7 * n % 12))
def lbB (d : Int) (P S : Nat → Int) (m n : Nat) : Bool := lnB d P S (m % 12) && lnB d P S (n % 12)
def lbV (d : Int) (P S : Nat → Int) (m n : Nat) : Int × Int × Int × Int := if lbB d P S m n = true then nr3 d (vB d P S m n) else (0, 0, 0, 1)
section
variable {d : Int} {P S : Nat → Int} (h : PlnC d P S)
include h
theorem lnote_pl {n : Nat} (hn : n < 12) (w : World) (ht : Tab w) :
  Calls Tryz.prog 36 #[.agg (cirL (cirP d P S)).toArray, .int .i64 (n : Int)] w fun e w' => e = .returned (.tuple #[ovn (lnV d P S n), .bool (lnB d P S n)]) ∧ Below w.heap.size w w' := by
 have hd := h.d
 have hk : 7 * n % 12 ≤ 12 := by omega
 have hvb := vS_bd h (7 * n % 12) hk
 have hV := nrm_ok (d := d) (by omega) (vS_Bx h (k := 7 * n % 12) hk)
 have hVb := hV.bd (vS_Bx h (k := 7 * n % 12) hk)
 have hN := vN_Bx h n
 have hVd := hV.den
 unfold Bx at hVb
 have hSU := fun W => lsum_pl h (n := 7 * n % 12) hk W
 have hSH := fun W => lshort41_any (nr3 d (vS d P S (7 * n % 12))).1 (nr3 d (vS d P S (7 * n % 12))).2.1 (nr3 d (vS d P S (7 * n % 12))).2.2.1 (nr3 d (vS d P S (7 * n % 12))).2.2.2 W (by dsimp only [nr3]; omega) (by dsimp only [nr3]; omega) (by dsimp only [nr3]; omega)
 have hB : lnB d P S n = shB (nr3 d (vS d P S (7 * n % 12))).1 (nr3 d (vS d P S (7 * n % 12))).2.1 (nr3 d (vS d P S (7 * n % 12))).2.2.1 := rfl
 rw [← hB] at hSH
 cases hb : lnB d P S n with
 | false =>
  have e : lnV d P S n = nr3 d (vS d P S (7 * n % 12)) := by unfold lnV; rw [if_neg (by rw [hb]; decide)]
  rw [e]
  rw [hb] at hSH
  exact lnote_long (cirP d P S) n (7 * n % 12) _ _ _ _ w ht hn rfl hSU hSH
 | true =>
  have e : lnV d P S n = nr3 d (vN d P S n) := by unfold lnV; rw [if_pos hb]
  rw [e]
  rw [hb] at hSH hB
  have hs9 := of_decide_eq_true hB.symm
  have hoc := oc_same (vS d P S (7 * n % 12)).1 (vS d P S (7 * n % 12)).2.1 (vS d P S (7 * n % 12)).2.2 d (by omega) hVd.1 hV.ex hV.ey hV.ez
  have hnr := oc_near hd (x := (vS d P S (7 * n % 12)).1) (y := (vS d P S (7 * n % 12)).2.1) (z := (vS d P S (7 * n % 12)).2.2) (by omega) (by omega) (by omega)
  have hOC := fun W (hT : Tab W) => refoct_any (nr3 d (vS d P S (7 * n % 12))).1 (nr3 d (vS d P S (7 * n % 12))).2.1 (nr3 d (vS d P S (7 * n % 12))).2.2.1 (nr3 d (vS d P S (7 * n % 12))).2.2.2 W hT hs9.1 hs9.2.1 hs9.2.2 ⟨hVd.1, by dsimp only [nr3]; omega⟩
  rw [hoc] at hOC
  have hvN : vN d P S n = ((vS d P S (7 * n % 12)).1 - d * ocZ (vS d P S (7 * n % 12)).1 (vS d P S (7 * n % 12)).2.1 (vS d P S (7 * n % 12)).2.2 d, (vS d P S (7 * n % 12)).2.1, (vS d P S (7 * n % 12)).2.2) := rfl
  have a0 := fun o : Int => add_cross (U := o) (u := d * o) (E := 1) (k := -1) hV.ex (by rw [Int.mul_one, Int.mul_comm])
  have a1 := add_cross (U := 0) (u := 0) (E := 1) (k := -1) hV.ey (by rw [Int.zero_mul, Int.zero_mul])
  have a2 := add_cross (U := 0) (u := 0) (E := 1) (k := -1) hV.ez (by rw [Int.zero_mul, Int.zero_mul])
  have a0 := a0 (ocZ (vS d P S (7 * n % 12)).1 (vS d P S (7 * n % 12)).2.1 (vS d P S (7 * n % 12)).2.2 d)
  rw [hvN] at hN ⊢
  generalize ocZ (vS d P S (7 * n % 12)).1 (vS d P S (7 * n % 12)).2.1 (vS d P S (7 * n % 12)).2.2 d = o at *
  have hob : -6000 ≤ o ∧ o ≤ 6000 := by
   constructor
   ·by_cases c : -6000 ≤ o
    ·exact c
    ·have : d * o ≤ 1 * o := Int.mul_le_mul_of_nonpos_right (by omega) (by omega)
     omega
   ·by_cases c : o ≤ 6000
    ·exact c
    ·have : 1 * o ≤ d * o := Int.mul_le_mul_of_nonneg_right (by omega) (by omega)
     omega
  rw [show (vS d P S (7 * n % 12)).1 + -1 * (d * o) = (vS d P S (7 * n % 12)).1 - d * o by omega] at a0
  rw [show (vS d P S (7 * n % 12)).2.1 + -1 * 0 = (vS d P S (7 * n % 12)).2.1 by omega] at a1
  rw [show (vS d P S (7 * n % 12)).2.2 + -1 * 0 = (vS d P S (7 * n % 12)).2.2 by omega] at a2
  dsimp only [nr3] at hs9 hSH hOC ⊢
  have q := fun X U : Int => fun (hx : -6000 ≤ X ∧ X ≤ 6000) (hu : -6000 ≤ U ∧ U ≤ 6000) => (radd_bd (x := X) (u := U) (D := (nrm (vS d P S (7 * n % 12)).1 (vS d P S (7 * n % 12)).2.1 (vS d P S (7 * n % 12)).2.2 d).2.2.2) (E := 1) (k := -1) (by omega) (by omega) (by omega) (by omega) (.inr rfl)).2.2.2.2
  have q0 := q _ o hVb.1 hob
  have q1 := q _ 0 hVb.2.1 (by decide)
  have q2 := q _ 0 hVb.2.2 (by decide)
  exact lnote_short (cirP d P S) n (7 * n % 12) _ _ _ _ o _ _ _ _ _ _ _ _ w ht hn rfl hSU hSH hOC (fun W => radd_any _ _ _ _ o 0 0 1 (-1) W (by omega) (by omega) (by omega) (by omega) (by omega) (by omega) (by omega) (by omega) (.inr rfl)) (fun W => lover_at W (by omega) hN (by omega) (by omega) (by omega) (by omega) a0 a1 a2)
end
end Go.Proofs.YtlmheeommpbimaaGreatDoor
