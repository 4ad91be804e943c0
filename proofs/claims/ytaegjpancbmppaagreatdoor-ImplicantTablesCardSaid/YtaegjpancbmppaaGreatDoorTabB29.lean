/- Part 29 of 33 of the proof of the law: contracts of the functions that it reaches, and plain facts. Conditions: those that each contract names. -/
import Derived.Test.YtaegjpancbmppaaGreatDoorTabB24
import Derived.Test.YtaegjpancbmppaaGreatDoorTabB18
import Derived.Test.YtaegjpancbmppaaGreatDoorTabB27
import Derived.Test.YtaegjpancbmppaaGreatDoorTabB28
set_option linter.unusedVariables false
set_option linter.unusedSimpArgs false
namespace Go.Proofs.YtaegjpancbmppaaGreatDoor
open Go.RowKit Go.Shelf
def FmOK (t : Fm) : Prop := t.size ≤ 10000 ∧ t.depth ≤ 100 ∧ t.all nodeOK
def FspPost (l : List Int) (W : World) (e : Ending) (W' : World) : Prop :=
 ∃ (A : Option Addr) (c : Nat) (L : List Int), e = .returned (.tuple #[.slice A L.length c, .int .i64 0]) ∧ Rd iz W' W'.heap.size A L ∧ L.Pairwise (· < ·) ∧ (∀ x, x ∈ L ↔ x ∈ l) ∧ L.length ≤ 10000 ∧ Below W.heap.size W W'
set_option maxRecDepth 1000000 in
set_option maxHeartbeats 4000000 in
theorem fsupport_any (t : Fm) (A : Option Addr) (c : Nat) (W : World) (h : FmOK t) (hA : FsR W (lowB W.heap.size) A t.l) :
  Calls Tryz.prog 61 #[.agg (fcL t.k t.a A t.l.length c).toArray] W (FspPost t.vars W) := by
 obtain ⟨k, hk⟩ : ∃ k, k = t.k := ⟨_, rfl⟩
 obtain ⟨a, ha⟩ : ∃ k, k = t.a := ⟨_, rfl⟩
 obtain ⟨n, hn⟩ : ∃ n, n = t.l.length := ⟨_, rfl⟩
 rw [← hk, ← ha, ← hn]
 have HCK := Lib.hid (show ∀ X, Below W.heap.size W X → Calls Tryz.prog 63 #[.agg #[.int .i64 k, .int .i64 a, .slice A n c]] X (SgPost 0 X) from fun X hb => by
  rw [hk, ha, hn]; exact fcheck_any t A c X h.1 h.2.1 h.2.2 (hA.step hb))
 have HX := Lib.hid (bw_new (Below.refl W.heap.size W) (.cells #[.int .i64 k, .int .i64 a, .slice A n c] 53))
 have HBK := Lib.hid (show Blk (W.alloc (.cells #[.int .i64 k, .int .i64 a, .slice A n c] 53)) W.heap.size 53 (fcL k a A n c) from heap_alloc_new W _)
 have HSU := Lib.hid (show ∀ X, Below W.heap.size W X → ∀ g, g < X.heap.size → X.cell? ⟨g, 0, none⟩ = some (.int .i64 k) → X.cell? ⟨g, 1, none⟩ = some (.int .i64 a) → X.cell? ⟨g, 2, none⟩ = some (.slice A n c) → Calls Tryz.prog 75 #[.slice (some ⟨g, 0, none⟩) 1 1] X (SupPost t.vars X) from fun X hb g hg h0 h1 h2 => by
  rw [hk] at h0
  rw [ha] at h1
  rw [hn] at h2
  exact support_any t g 0 1 A c X h.1 hg h0 h1 h2 (hA.step hb))
 clear hk ha hn h hA
 show Calls Tryz.prog 61 #[.agg #[.int .i64 k, .int .i64 a, .slice A n c]] W _
 go_enter Tryz.func61, Tryz.ntmps61
 go_wp2_with fail
 refine (HCK.out _ HX.out).mono ?_
 rintro e w1 ⟨rfl, hb⟩
 have HB := Lib.hid (HX.out.trans (hb.mono HX.out.size))
 have hf : Blk w1 W.heap.size 53 (fcL k a A n c) := (hb.block _ HBK.out.lt).trans HBK.out
 have q0 : w1.cell? ⟨W.heap.size, 0, none⟩ = some (.int .i64 k) := Blk.cell hf 0
 have q1 : w1.cell? ⟨W.heap.size, 1, none⟩ = some (.int .i64 a) := Blk.cell hf 1
 have q2 : w1.cell? ⟨W.heap.size, 2, none⟩ = some (.slice A n c) := Blk.cell hf 2
 have h1 := bw_new (Below.refl w1.heap.size w1) (.cells #[.int .i64 k, .int .i64 a, .slice A n c] 53)
 have hB2 := HB.out.trans (h1.mono HB.out.size)
 have hbn : Blk (w1.alloc (.cells #[.int .i64 k, .int .i64 a, .slice A n c] 53)) w1.heap.size 53 (fcL k a A n c) := heap_alloc_new w1 _
 have HS := Lib.hid (HSU.out _ hB2 w1.heap.size hbn.lt (hbn.cell 0) (hbn.cell 1) (hbn.cell 2))
 have HB2 := Lib.hid hB2
 clear hb hf h1 hbn hB2
 go_wp2_with fail
 refine HS.out.mono ?_
 rintro e w2 ⟨A', c', L, rfl, hR, hP, hM, hL, hb⟩
 have HF := Lib.hid (And.intro hR (And.intro hP (And.intro hM (And.intro hL (HB2.out.trans (hb.mono HB2.out.size))))))
 obtain ⟨m, hm⟩ : ∃ m, m = L.length := ⟨_, rfl⟩
 rw [← hm]
 have HMM := Lib.hid hm
 clear hR hP hM hL hb hm
 go_wp2_with fail
 go_ret2
 exact ⟨A', c', L, by rw [← HMM.out]; rfl, HF.out⟩
def FvlPost (b : Bool) (W : World) (e : Ending) (W' : World) : Prop := e = .returned (.tuple #[.bool b, .int .i64 0]) ∧ Below W.heap.size W W'
set_option maxRecDepth 1000000 in
set_option maxHeartbeats 4000000 in
theorem fvalue_any (t : Fm) (vals : List Bool) (A Av : Option Addr) (c nv cv : Nat) (W : World) (h : FmOK t) (hv : ∀ x ∈ t.vars, x < (vals.length : Int)) (hnv : nv = vals.length) (hvin : t.all (varIn vals.length)) (hA : FsR W (lowB W.heap.size) A t.l) (hR : Rd bz W W.heap.size Av vals) :
  Calls Tryz.prog 62 #[.agg (fcL t.k t.a A t.l.length c).toArray, .slice Av nv cv] W (FvlPost (t.val (vf vals)) W) := by
 obtain ⟨k, hk⟩ : ∃ k, k = t.k := ⟨_, rfl⟩
 obtain ⟨a, ha⟩ : ∃ k, k = t.a := ⟨_, rfl⟩
 obtain ⟨n, hn⟩ : ∃ n, n = t.l.length := ⟨_, rfl⟩
 rw [← hk, ← ha, ← hn]
 have hb1 := bw_new (Below.refl W.heap.size W) (.cells #[.int .i64 k, .int .i64 a, .slice A n c] 53)
 have s1 : (W.alloc (.cells #[.int .i64 k, .int .i64 a, .slice A n c] 53)).heap.size = W.heap.size + 1 := by simp
 have hb2 := bw_new (Below.refl (W.alloc (.cells #[.int .i64 k, .int .i64 a, .slice A n c] 53)).heap.size (W.alloc (.cells #[.int .i64 k, .int .i64 a, .slice A n c] 53))) (.cells #[.slice Av nv cv] 104)
 have HX := Lib.hid (hb1.trans (hb2.mono hb1.size))
 have HBF := Lib.hid (show Blk ((W.alloc (.cells #[.int .i64 k, .int .i64 a, .slice A n c] 53)).alloc (.cells #[.slice Av nv cv] 104)) W.heap.size 53 (fcL k a A n c) from (hb2.block _ (by rw [s1]; exact Nat.lt_succ_self _)).trans (heap_alloc_new W _))
 have hbv : Blk ((W.alloc (.cells #[.int .i64 k, .int .i64 a, .slice A n c] 53)).alloc (.cells #[.slice Av nv cv] 104)) (W.heap.size + 1) 104 [.slice Av nv cv] := by
  have := heap_alloc_new (W.alloc (.cells #[.int .i64 k, .int .i64 a, .slice A n c] 53)) (.cells #[.slice Av nv cv] 104)
  rw [s1] at this
  exact this
 have HBV := Lib.hid hbv
 have HCK := Lib.hid (show ∀ X, Below W.heap.size W X → Calls Tryz.prog 63 #[.agg #[.int .i64 k, .int .i64 a, .slice A n c]] X (SgPost 0 X) from fun X hb => by
  rw [hk, ha, hn]; exact fcheck_any t A c X h.1 h.2.1 h.2.2 (hA.step hb))
 have HSU := Lib.hid (show ∀ X, Below W.heap.size W X → ∀ g, g < X.heap.size → X.cell? ⟨g, 0, none⟩ = some (.int .i64 k) → X.cell? ⟨g, 1, none⟩ = some (.int .i64 a) → X.cell? ⟨g, 2, none⟩ = some (.slice A n c) → Calls Tryz.prog 75 #[.slice (some ⟨g, 0, none⟩) 1 1] X (SupPost t.vars X) from fun X hb g hg h0 h1 h2 => by
  rw [hk] at h0
  rw [ha] at h1
  rw [hn] at h2
  exact support_any t g 0 1 A c X h.1 hg h0 h1 h2 (hA.step hb))
 have HVL := Lib.hid (show ∀ X, Below W.heap.size W X → ∀ vb, vb < X.heap.size → X.cell? ⟨vb, 0, none⟩ = some (.slice Av vals.length cv) → Calls Tryz.prog 76 #[.agg #[.int .i64 k, .int .i64 a, .slice A n c], .func (.func 77) #[] #[.pointer (some ⟨vb, 0, none⟩)]] X (fun e w' => e = .returned (.bool (t.val (vf vals))) ∧ Below X.heap.size X w') from fun X hb vb hlt hc => by
  rw [hk, ha, hn]
  exact value_any vb vals t.size t (Nat.le_refl _) ⟨h.1, hvin, h.2.2⟩ A c X (hA.step hb) ⟨hlt, Av, cv, hc, rd_stepB hR hb⟩)
 have HLS := Lib.hid (show ∀ L : List Int, L.Pairwise (· < ·) → (∀ x, x ∈ L ↔ x ∈ t.vars) → ∀ hl : 0 < L.length, L[L.length - 1] < (vals.length : Int) from fun L _ hm hl => hv _ ((hm _).1 (List.getElem_mem _)))
 have HNV := Lib.hid hnv
 clear hk ha hn h hA hR hv hvin hnv hb1 hb2 s1 hbv
 show Calls Tryz.prog 62 #[.agg #[.int .i64 k, .int .i64 a, .slice A n c], .slice Av nv cv] W _
 go_enter Tryz.func62, Tryz.ntmps62
 go_wp2_with fail
 refine (HCK.out _ HX.out).mono ?_
 rintro e w1 ⟨rfl, hb⟩
 have HB := Lib.hid (HX.out.trans (hb.mono HX.out.size))
 have hf : Blk w1 W.heap.size 53 (fcL k a A n c) := (hb.block _ HBF.out.lt).trans HBF.out
 have HV1 := Lib.hid (show Blk w1 (W.heap.size + 1) 104 [.slice Av nv cv] from (hb.block _ HBV.out.lt).trans HBV.out)
 have HF1 := Lib.hid hf
 have q0 : w1.cell? ⟨W.heap.size, 0, none⟩ = some (.int .i64 k) := Blk.cell hf 0
 have q1 : w1.cell? ⟨W.heap.size, 1, none⟩ = some (.int .i64 a) := Blk.cell hf 1
 have q2 : w1.cell? ⟨W.heap.size, 2, none⟩ = some (.slice A n c) := Blk.cell hf 2
 have h1 := bw_new (Below.refl w1.heap.size w1) (.cells #[.int .i64 k, .int .i64 a, .slice A n c] 53)
 have hB2 := HB.out.trans (h1.mono HB.out.size)
 have hbn : Blk (w1.alloc (.cells #[.int .i64 k, .int .i64 a, .slice A n c] 53)) w1.heap.size 53 (fcL k a A n c) := heap_alloc_new w1 _
 have HS := Lib.hid (HSU.out _ hB2 w1.heap.size hbn.lt (hbn.cell 0) (hbn.cell 1) (hbn.cell 2))
 have HB2 := Lib.hid hB2
 have H1 := Lib.hid h1
 clear hb hf h1 hbn hB2
 go_wp2_with fail
 refine HS.out.mono ?_
 rintro e w2 ⟨A', c', L, rfl, hR, hP, hM, hL, hb⟩
 have HB3 := Lib.hid (HB2.out.trans (hb.mono HB2.out.size))
 have hv3 : Blk w2 (W.heap.size + 1) 104 [.slice Av nv cv] := (hb.block _ (Nat.lt_of_lt_of_le HV1.out.lt H1.out.size)).trans ((H1.out.block _ HV1.out.lt).trans HV1.out)
 have hf3 : Blk w2 W.heap.size 53 (fcL k a A n c) := (hb.block _ (Nat.lt_of_lt_of_le HF1.out.lt H1.out.size)).trans ((H1.out.block _ HF1.out.lt).trans HF1.out)
 have p0 : w2.cell? ⟨W.heap.size, 0, none⟩ = some (.int .i64 k) := Blk.cell hf3 0
 have p1 : w2.cell? ⟨W.heap.size, 1, none⟩ = some (.int .i64 a) := Blk.cell hf3 1
 have p2 : w2.cell? ⟨W.heap.size, 2, none⟩ = some (.slice A n c) := Blk.cell hf3 2
 have p3 : w2.cell? ⟨W.heap.size + 1, 0, none⟩ = some (.slice Av nv cv) := Blk.cell hv3 0
 have hlast := HLS.out L hP hM
 rw [← HNV.out] at hlast
 obtain ⟨r, hr⟩ : ∃ r, r = t.val (vf vals) := ⟨_, rfl⟩
 have HRE := Lib.hid hr
 obtain ⟨m, hm⟩ : ∃ m, m = L.length := ⟨_, rfl⟩
 have hvl : W.heap.size + 1 < w2.heap.size := hv3.lt
 have hfl : W.heap.size < w2.heap.size := hf3.lt
 clear q0 q1 q2 hv3 hf3 hP hM hb
 by_cases hm0 : m = 0
 ·rw [← hm]
  subst hm0
  have HCE := Lib.hid (show ∀ W', Below w2.heap.size w2 W' → W'.cell? ⟨W.heap.size + 1, 0, none⟩ = some (.slice Av nv cv) from fun W' h => (h.cell (p := ⟨W.heap.size + 1, 0, none⟩) hvl).trans p3)
  have HVD := Lib.hid (show ∀ W', Below w2.heap.size w2 W' → Calls Tryz.prog 76 #[.agg #[.int .i64 k, .int .i64 a, .slice A n c], .func (.func 77) #[] #[.pointer (some ⟨W.heap.size + 1, 0, none⟩)]] W' (fun e w' => e = .returned (.bool r) ∧ Below W'.heap.size W' w') from fun W' h => by
   have := HVL.out W' (HB3.out.trans (h.mono HB3.out.size)) (W.heap.size + 1) (Nat.lt_of_lt_of_le hvl h.size) (by rw [← HNV.out]; exact HCE.out W' h)
   rw [hr]; exact this)
  clear hlast hR hL hm hr
  go_upto_region 5 with fail
  --R5A
  refine wp_regionJ 14 #[false, false, false, false, false, false, false, false, false, false, false, false, false, false] (fun ll aa W' => ∃ (m0 m1 m2 m3 m4 m5 m6 m7 m8 m9 m10 m11 m12 m13 : Bool), ll = #[m0, m1, m2, m3, m4, m5, m6, m7, m8, m9, m10, m11, m12, m13] ∧ aa = ({ tmps := #[Value.agg #[Value.int IntKind.i64 k, Value.int IntKind.i64 a, Value.slice A n c], Value.slice Av nv cv, Value.pointer (some { block := W.heap.size, off := 0 }), Value.pointer (some { block := W.heap.size + 1, off := 0 }), Value.bool false, Value.int IntKind.i64 0, Value.int IntKind.i64 0, Value.slice A' 0 c', Value.agg #[Value.int IntKind.i64 k, Value.int IntKind.i64 a, Value.slice A n c], Value.int IntKind.i64 0, Value.int IntKind.i64 0, Value.bool false, undef, Value.agg #[Value.int IntKind.i64 k, Value.int IntKind.i64 a, Value.slice A n c], Value.slice (some { block := w1.heap.size, off := 0 }) 1 1, Value.slice A' 0 c', cwX m0 (Value.slice A' 0 c') (undef), cwX m1 (Value.int .i64 0) (undef), cwX m2 (Value.bool false) (undef), cwX m3 (Value.bool false) (undef), undef, undef, undef, undef, undef, undef, undef, undef, undef, cwX m13 (Value.bool false) (undef), undef, undef, undef], defers := [] } : Act) ∧ (True) ∧ Below w2.heap.size w2 W') (by kernel_rfl) (by kernel_rfl) (by kernel_rfl) (by kernel_rfl) ?_ ?_ ?_ ?_
  ·rintro ll aa W' ⟨m0, m1, m2, m3, m4, m5, m6, m7, m8, m9, m10, m11, m12, m13, rfl, _⟩
   rfl
  ·exact ⟨false, false, false, false, false, false, false, false, false, false, false, false, false, false, rfl, rfl, trivial, (bw_drew (Below.refl _ _))⟩
  ·rintro ll aa W' i o ⟨m0, m1, m2, m3, m4, m5, m6, m7, m8, m9, m10, m11, m12, m13, rfl, rfl, hi0, hm⟩ ho hun hall K hK
   have hi : i < 14 := (Array.getElem?_eq_some_iff.1 ho).1
   have HM := Lib.hid hm
   have HI := Lib.hid hi0
   clear hm hi0
   rcases (show i = 0 ∨ i = 1 ∨ i = 2 ∨ i = 3 ∨ i = 4 ∨ i = 5 ∨ i = 6 ∨ i = 7 ∨ i = 8 ∨ i = 9 ∨ i = 10 ∨ i = 11 ∨ i = 12 ∨ i = 13 by omega) with rfl | rfl | rfl | rfl | rfl | rfl | rfl | rfl | rfl | rfl | rfl | rfl | rfl | rfl
   ·cases ho
    simp at hun; subst hun
    clear hall hi
    go_simp
    exact hK.out _ _ ⟨true, m1, m2, m3, m4, m5, m6, m7, m8, m9, m10, m11, m12, m13, rfl, rfl, trivial, HM.out⟩
   ·cases ho
    cases (getBX hall 0 rfl : m0 = true)
    simp at hun; subst hun
    clear hall hi
    go_simp
    exact hK.out _ _ ⟨true, true, m2, m3, m4, m5, m6, m7, m8, m9, m10, m11, m12, m13, rfl, rfl, trivial, HM.out⟩
   ·cases ho
    cases (getBX hall 1 rfl : m1 = true)
    simp at hun; subst hun
    clear hall hi
    go_simp
    exact hK.out _ _ ⟨m0, true, true, m3, m4, m5, m6, m7, m8, m9, m10, m11, m12, m13, rfl, rfl, trivial, HM.out⟩
   ·cases ho
    cases (getBX hall 2 rfl : m2 = true)
    simp at hun; subst hun
    clear hall hi
    go_simp
    exact hK.out _ _ ⟨m0, m1, true, true, m4, m5, m6, m7, m8, m9, m10, m11, m12, m13, rfl, rfl, trivial, HM.out⟩
   ·cases ho
    cases (getBX hall 3 rfl : m3 = true)
    simp at hun; subst hun
    clear hall hi
    go_simp
    exact hK.out _ _ ⟨m0, m1, m2, true, true, m5, m6, m7, m8, m9, m10, m11, m12, m13, rfl, rfl, trivial, HM.out⟩
   ·cases ho
    cases (getBX hall 3 rfl : m3 = true)
    simp at hun; subst hun
    clear hall hi
    go_simp
    exact hK.out _ _ ⟨m0, m1, m2, true, m4, true, m6, m7, m8, m9, m10, m11, m12, m13, rfl, rfl, trivial, HM.out⟩
   ·cases ho
    cases (getBX hall 3 rfl : m3 = true)
    cases (getBX hall 5 rfl : m5 = true)
    simp at hun; subst hun
    clear hall hi
    go_simp
    exact hK.out _ _ ⟨m0, m1, m2, true, m4, true, true, m7, m8, m9, m10, m11, m12, m13, rfl, rfl, trivial, HM.out⟩
   ·cases ho
    cases (getBX hall 3 rfl : m3 = true)
    cases (getBX hall 6 rfl : m6 = true)
    simp at hun; subst hun
    clear hall hi
    go_simp
    exact hK.out _ _ ⟨m0, m1, m2, true, m4, m5, true, true, m8, m9, m10, m11, m12, m13, rfl, rfl, trivial, HM.out⟩
   ·cases ho
    cases (getBX hall 3 rfl : m3 = true)
    cases (getBX hall 4 rfl : m4 = true)
    cases (getBX hall 7 rfl : m7 = true)
    simp at hun; subst hun
    clear hall hi
    go_simp
    exact hK.out _ _ ⟨m0, m1, m2, true, true, m5, m6, true, true, m9, m10, m11, m12, m13, rfl, rfl, trivial, HM.out⟩
   ·cases ho
    cases (getBX hall 3 rfl : m3 = true)
    cases (getBX hall 8 rfl : m8 = true)
    simp at hun; subst hun
    clear hall hi
    go_simp
    exact hK.out _ _ ⟨m0, m1, m2, true, m4, m5, m6, m7, true, true, m10, m11, m12, m13, rfl, rfl, trivial, HM.out⟩
   ·cases ho
    cases (getBX hall 3 rfl : m3 = true)
    simp at hun; subst hun
    clear hall hi
    go_simp
    exact hK.out _ _ ⟨m0, m1, m2, true, m4, m5, m6, m7, m8, m9, true, m11, m12, m13, rfl, rfl, trivial, HM.out⟩
   ·cases ho
    cases (getBX hall 3 rfl : m3 = true)
    cases (getBX hall 10 rfl : m10 = true)
    simp at hun; subst hun
    clear hall hi
    go_simp
    exact hK.out _ _ ⟨m0, m1, m2, true, m4, m5, m6, m7, m8, m9, true, true, m12, m13, rfl, rfl, trivial, HM.out⟩
   ·cases ho
    cases (getBX hall 3 rfl : m3 = true)
    cases (getBX hall 9 rfl : m9 = true)
    cases (getBX hall 11 rfl : m11 = true)
    simp at hun; subst hun
    clear hall hi
    go_simp
    exact hK.out _ _ ⟨m0, m1, m2, true, m4, m5, m6, m7, m8, true, m10, true, true, m13, rfl, rfl, trivial, HM.out⟩
   ·cases ho
    cases (getBX hall 3 rfl : m3 = true)
    cases (getBX hall 12 rfl : m12 = true)
    simp at hun; subst hun
    clear hall hi
    go_simp
    exact hK.out _ _ ⟨m0, m1, m2, true, m4, m5, m6, m7, m8, m9, m10, m11, true, true, rfl, rfl, trivial, HM.out⟩
  ·rintro ll aa W' ⟨m0, m1, m2, m3, m4, m5, m6, m7, m8, m9, m10, m11, m12, m13, rfl, rfl, _, hm⟩ hall
   cases (hall 0 (by decide) : m0 = true)
   cases (hall 1 (by decide) : m1 = true)
   cases (hall 2 (by decide) : m2 = true)
   cases (hall 3 (by decide) : m3 = true)
   cases (hall 4 (by decide) : m4 = true)
   cases (hall 5 (by decide) : m5 = true)
   cases (hall 6 (by decide) : m6 = true)
   cases (hall 7 (by decide) : m7 = true)
   cases (hall 8 (by decide) : m8 = true)
   cases (hall 9 (by decide) : m9 = true)
   cases (hall 10 (by decide) : m10 = true)
   cases (hall 11 (by decide) : m11 = true)
   cases (hall 12 (by decide) : m12 = true)
   cases (hall 13 (by decide) : m13 = true)
   clear hall
   have HME := Lib.hid hm
   have p0 : W'.cell? ⟨W.heap.size, 0, none⟩ = some (.int .i64 k) := (hm.cell (p := ⟨W.heap.size, 0, none⟩) hfl).trans p0
   have p1 : W'.cell? ⟨W.heap.size, 1, none⟩ = some (.int .i64 a) := (hm.cell (p := ⟨W.heap.size, 1, none⟩) hfl).trans p1
   have p2 : W'.cell? ⟨W.heap.size, 2, none⟩ = some (.slice A n c) := (hm.cell (p := ⟨W.heap.size, 2, none⟩) hfl).trans p2
   have hfw := Nat.lt_of_lt_of_le hfl hm.size
   clear hm
   dsimp only [cwX, cond_true]
   go_wp2_with fail
   refine (HVD.out _ HME.out).mono ?_
   rintro e w3 ⟨rfl, hb3⟩
   have HB4 := Lib.hid (HB3.out.trans ((HME.out.trans (hb3.mono HME.out.size)).mono HB3.out.size))
   clear hb3
   go_wp2_with fail
   go_ret2
   exact ⟨by rw [← HRE.out]; rfl, HB4.out⟩
 ·have hl := hlast (by omega)
  obtain ⟨g, off, rfl, hlt, hc⟩ := hR (by omega)
  have hcn := hc (L.length - 1) (by omega)
  obtain ⟨z, hz⟩ : ∃ z, z = L[L.length - 1]'(by omega) := ⟨_, rfl⟩
  rw [← hz] at hl hcn
  rw [← hm] at hcn hL ⊢
  have hm1 : (0 : Int) < (m : Int) := by omega
  have hm2 : 0 < m := by omega
  have hzl2 : decide ((nv : Int) ≤ z) = false := decide_eq_false (by omega)
  have hmw : IntKind.i64.wrap ((m : Int) - 1) = ((m - 1 : Nat) : Int) := by rw [IntWalk.i64_in _ (by omega)]; omega
  have hzl : ¬ ((nv : Int) ≤ z) := by omega
  have hmm : m - 1 < m := by omega
  replace hcn : w2.cell? ⟨g, off + (m - 1), none⟩ = some (.int .i64 z) := hcn
  have HCE := Lib.hid (show ∀ W', Below w2.heap.size w2 W' → W'.cell? ⟨W.heap.size + 1, 0, none⟩ = some (.slice Av nv cv) ∧ g < W'.heap.size ∧ W'.cell? ⟨g, off + (m - 1), none⟩ = some (.int .i64 z) from fun W' h => ⟨(h.cell (p := ⟨W.heap.size + 1, 0, none⟩) hvl).trans p3, Nat.lt_of_lt_of_le hlt h.size, (h.cell (p := ⟨g, off + (m - 1), none⟩) hlt).trans hcn⟩)
  have HVD := Lib.hid (show ∀ W', Below w2.heap.size w2 W' → Calls Tryz.prog 76 #[.agg #[.int .i64 k, .int .i64 a, .slice A n c], .func (.func 77) #[] #[.pointer (some ⟨W.heap.size + 1, 0, none⟩)]] W' (fun e w' => e = .returned (.bool r) ∧ Below W'.heap.size W' w') from fun W' h => by
   have := HVL.out W' (HB3.out.trans (h.mono HB3.out.size)) (W.heap.size + 1) (Nat.lt_of_lt_of_le hvl h.size) (by rw [← HNV.out]; exact (HCE.out W' h).1)
   rw [hr]; exact this)
  clear hlast hc hz hl hm hr
  go_upto_region 5 with fail
  --R5B
  refine wp_regionJ 14 #[false, false, false, false, false, false, false, false, false, false, false, false, false, false] (fun ll aa W' => ∃ (m0 m1 m2 m3 m4 m5 m6 m7 m8 m9 m10 m11 m12 m13 : Bool), ll = #[m0, m1, m2, m3, m4, m5, m6, m7, m8, m9, m10, m11, m12, m13] ∧ aa = ({ tmps := #[Value.agg #[Value.int IntKind.i64 k, Value.int IntKind.i64 a, Value.slice A n c], Value.slice Av nv cv, Value.pointer (some { block := W.heap.size, off := 0 }), Value.pointer (some { block := W.heap.size + 1, off := 0 }), Value.bool false, Value.int IntKind.i64 0, Value.int IntKind.i64 0, Value.slice (some { block := g, off := off }) m c', Value.agg #[Value.int IntKind.i64 k, Value.int IntKind.i64 a, Value.slice A n c], Value.int IntKind.i64 0, Value.int IntKind.i64 0, Value.bool false, undef, Value.agg #[Value.int IntKind.i64 k, Value.int IntKind.i64 a, Value.slice A n c], Value.slice (some { block := w1.heap.size, off := 0 }) 1 1, Value.slice (some { block := g, off := off }) m c', cwX m0 (Value.slice (some { block := g, off := off }) m c') (undef), cwX m1 (Value.int .i64 (m : Int)) (undef), cwX m2 (Value.bool true) (undef), cwX m3 (Value.bool true) (undef), cwX m4 (Value.slice (some { block := g, off := off }) m c') (undef), cwX m5 (Value.slice (some { block := g, off := off }) m c') (undef), cwX m6 (Value.int .i64 (m : Int)) (undef), cwX m7 (Value.int .i64 ((m - 1 : Nat) : Int)) (undef), cwX m8 (Value.pointer (some ⟨g, off + (m - 1), none⟩)) (undef), cwX m9 (Value.int .i64 z) (undef), cwX m10 (Value.slice Av nv cv) (undef), cwX m11 (Value.int .i64 (nv : Int)) (undef), cwX m12 (Value.bool false) (undef), cwX m13 (Value.bool false) (undef), undef, undef, undef], defers := [] } : Act) ∧ (True) ∧ Below w2.heap.size w2 W') (by kernel_rfl) (by kernel_rfl) (by kernel_rfl) (by kernel_rfl) ?_ ?_ ?_ ?_
  ·rintro ll aa W' ⟨m0, m1, m2, m3, m4, m5, m6, m7, m8, m9, m10, m11, m12, m13, rfl, _⟩
   rfl
  ·exact ⟨false, false, false, false, false, false, false, false, false, false, false, false, false, false, rfl, rfl, trivial, (bw_drew (Below.refl _ _))⟩
  ·rintro ll aa W' i o ⟨m0, m1, m2, m3, m4, m5, m6, m7, m8, m9, m10, m11, m12, m13, rfl, rfl, hi0, hm⟩ ho hun hall K hK
   have hi : i < 14 := (Array.getElem?_eq_some_iff.1 ho).1
   have HM := Lib.hid hm
   have HI := Lib.hid hi0
   clear hm hi0
   rcases (show i = 0 ∨ i = 1 ∨ i = 2 ∨ i = 3 ∨ i = 4 ∨ i = 5 ∨ i = 6 ∨ i = 7 ∨ i = 8 ∨ i = 9 ∨ i = 10 ∨ i = 11 ∨ i = 12 ∨ i = 13 by omega) with rfl | rfl | rfl | rfl | rfl | rfl | rfl | rfl | rfl | rfl | rfl | rfl | rfl | rfl
   ·cases ho
    simp at hun; subst hun
    clear hall hi
    go_simp
    exact hK.out _ _ ⟨true, m1, m2, m3, m4, m5, m6, m7, m8, m9, m10, m11, m12, m13, rfl, rfl, trivial, HM.out⟩
   ·cases ho
    cases (getBX hall 0 rfl : m0 = true)
    simp at hun; subst hun
    clear hall hi
    go_simp
    exact hK.out _ _ ⟨true, true, m2, m3, m4, m5, m6, m7, m8, m9, m10, m11, m12, m13, rfl, rfl, trivial, HM.out⟩
   ·cases ho
    cases (getBX hall 1 rfl : m1 = true)
    simp at hun; subst hun
    clear hall hi
    go_simp
    exact hK.out _ _ ⟨m0, true, true, m3, m4, m5, m6, m7, m8, m9, m10, m11, m12, m13, rfl, rfl, trivial, HM.out⟩
   ·cases ho
    cases (getBX hall 2 rfl : m2 = true)
    simp at hun; subst hun
    clear hall hi
    go_simp
    exact hK.out _ _ ⟨m0, m1, true, true, m4, m5, m6, m7, m8, m9, m10, m11, m12, m13, rfl, rfl, trivial, HM.out⟩
   ·cases ho
    cases (getBX hall 3 rfl : m3 = true)
    simp at hun; subst hun
    clear hall hi
    go_simp
    exact hK.out _ _ ⟨m0, m1, m2, true, true, m5, m6, m7, m8, m9, m10, m11, m12, m13, rfl, rfl, trivial, HM.out⟩
   ·cases ho
    cases (getBX hall 3 rfl : m3 = true)
    simp at hun; subst hun
    clear hall hi
    go_simp
    exact hK.out _ _ ⟨m0, m1, m2, true, m4, true, m6, m7, m8, m9, m10, m11, m12, m13, rfl, rfl, trivial, HM.out⟩
   ·cases ho
    cases (getBX hall 3 rfl : m3 = true)
    cases (getBX hall 5 rfl : m5 = true)
    simp at hun; subst hun
    clear hall hi
    go_simp
    exact hK.out _ _ ⟨m0, m1, m2, true, m4, true, true, m7, m8, m9, m10, m11, m12, m13, rfl, rfl, trivial, HM.out⟩
   ·cases ho
    cases (getBX hall 3 rfl : m3 = true)
    cases (getBX hall 6 rfl : m6 = true)
    simp at hun; subst hun
    clear hall hi
    go_simp
    exact hK.out _ _ ⟨m0, m1, m2, true, m4, m5, true, true, m8, m9, m10, m11, m12, m13, rfl, rfl, trivial, HM.out⟩
   ·cases ho
    cases (getBX hall 3 rfl : m3 = true)
    cases (getBX hall 4 rfl : m4 = true)
    cases (getBX hall 7 rfl : m7 = true)
    simp at hun; subst hun
    clear hall hi
    go_simp
    exact hK.out _ _ ⟨m0, m1, m2, true, true, m5, m6, true, true, m9, m10, m11, m12, m13, rfl, rfl, trivial, HM.out⟩
   ·cases ho
    cases (getBX hall 3 rfl : m3 = true)
    cases (getBX hall 8 rfl : m8 = true)
    simp at hun; subst hun
    clear hall hi
    obtain ⟨-, x1, x2⟩ := HCE.out W' HM.out
    go_simp
    exact hK.out _ _ ⟨m0, m1, m2, true, m4, m5, m6, m7, true, true, m10, m11, m12, m13, rfl, rfl, trivial, HM.out⟩
   ·cases ho
    cases (getBX hall 3 rfl : m3 = true)
    simp at hun; subst hun
    clear hall hi
    have x1 := (HCE.out W' HM.out).1
    go_simp
    exact hK.out _ _ ⟨m0, m1, m2, true, m4, m5, m6, m7, m8, m9, true, m11, m12, m13, rfl, rfl, trivial, HM.out⟩
   ·cases ho
    cases (getBX hall 3 rfl : m3 = true)
    cases (getBX hall 10 rfl : m10 = true)
    simp at hun; subst hun
    clear hall hi
    go_simp
    exact hK.out _ _ ⟨m0, m1, m2, true, m4, m5, m6, m7, m8, m9, true, true, m12, m13, rfl, rfl, trivial, HM.out⟩
   ·cases ho
    cases (getBX hall 3 rfl : m3 = true)
    cases (getBX hall 9 rfl : m9 = true)
    cases (getBX hall 11 rfl : m11 = true)
    simp at hun; subst hun
    clear hall hi
    go_simp
    exact hK.out _ _ ⟨m0, m1, m2, true, m4, m5, m6, m7, m8, true, m10, true, true, m13, rfl, rfl, trivial, HM.out⟩
   ·cases ho
    cases (getBX hall 3 rfl : m3 = true)
    cases (getBX hall 12 rfl : m12 = true)
    simp at hun; subst hun
    clear hall hi
    go_simp
    exact hK.out _ _ ⟨m0, m1, m2, true, m4, m5, m6, m7, m8, m9, m10, m11, true, true, rfl, rfl, trivial, HM.out⟩
  ·rintro ll aa W' ⟨m0, m1, m2, m3, m4, m5, m6, m7, m8, m9, m10, m11, m12, m13, rfl, rfl, _, hm⟩ hall
   cases (hall 0 (by decide) : m0 = true)
   cases (hall 1 (by decide) : m1 = true)
   cases (hall 2 (by decide) : m2 = true)
   cases (hall 3 (by decide) : m3 = true)
   cases (hall 4 (by decide) : m4 = true)
   cases (hall 5 (by decide) : m5 = true)
   cases (hall 6 (by decide) : m6 = true)
   cases (hall 7 (by decide) : m7 = true)
   cases (hall 8 (by decide) : m8 = true)
   cases (hall 9 (by decide) : m9 = true)
   cases (hall 10 (by decide) : m10 = true)
   cases (hall 11 (by decide) : m11 = true)
   cases (hall 12 (by decide) : m12 = true)
   cases (hall 13 (by decide) : m13 = true)
   clear hall
   have HME := Lib.hid hm
   have p0 : W'.cell? ⟨W.heap.size, 0, none⟩ = some (.int .i64 k) := (hm.cell (p := ⟨W.heap.size, 0, none⟩) hfl).trans p0
   have p1 : W'.cell? ⟨W.heap.size, 1, none⟩ = some (.int .i64 a) := (hm.cell (p := ⟨W.heap.size, 1, none⟩) hfl).trans p1
   have p2 : W'.cell? ⟨W.heap.size, 2, none⟩ = some (.slice A n c) := (hm.cell (p := ⟨W.heap.size, 2, none⟩) hfl).trans p2
   have hfw := Nat.lt_of_lt_of_le hfl hm.size
   clear hm
   dsimp only [cwX, cond_true]
   go_wp2_with fail
   refine (HVD.out _ HME.out).mono ?_
   rintro e w3 ⟨rfl, hb3⟩
   have HB4 := Lib.hid (HB3.out.trans ((HME.out.trans (hb3.mono HME.out.size)).mono HB3.out.size))
   clear hb3
   go_wp2_with fail
   go_ret2
   exact ⟨by rw [← HRE.out]; rfl, HB4.out⟩
end Go.Proofs.YtaegjpancbmppaaGreatDoor
namespace Go.Proofs.YtaegjpancbmppaaGreatDoor
open Go.RowKit
def lsOut (L0 : List (Nat × Nat)) : LsS → List (Nat × Nat)
 | none => []
 | some (b, _) => b.map fun i => L0.getD i (0, 0)
theorem lsL_out (n may : Nat) (on : List Nat) : lsL n may on = lsOut (prS n (rowM on) may) (lsSeek (lsP n (prS n (rowM on) may)) on (on.length + 1) none [] 0 0) := by
 unfold lsL lsOut
 rfl
theorem on_short {q : Nat} {L : List Int} (hq : q ≤ 8) (h : ∀ x ∈ L, 0 ≤ x ∧ x < ((2 ^ q : Nat) : Int)) (hs : L.Pairwise (· < ·)) : (onR L).length ≤ 256 ∧ (onR L).Pairwise (· < ·) := by
 have hp : (onR L).Pairwise (· < ·) := by
  rw [List.pairwise_map]
  exact hs.imp_of_mem fun ha hb hab => by have := h _ ha; have := h _ hb; omega
 have := nodup_le (onR L) (List.range 256) (hp.imp fun h => Nat.ne_of_lt h) (fun x hx => List.mem_range.2 (on_small hq h x hx))
 rw [List.length_range] at this
 exact ⟨this, hp⟩
theorem lsCells (L0 : List (Nat × Nat)) (b : List Nat) {k : Nat} (h : k < b.length) : (b.take (k + 1)).flatMap (fun i => cbL (L0.getD i (0, 0))) = (b.take k).flatMap (fun i => cbL (L0.getD i (0, 0))) ++ cbL (L0.getD (b.getD k 0) (0, 0)) := by
 rw [List.take_succ_eq_append_getElem h, List.flatMap_append, List.flatMap_cons, List.flatMap_nil, List.append_nil, List.getD_eq_getElem?_getD (l := b), List.getElem?_eq_getElem h]
 rfl
structure LmP (w : World) (base q : Nat) (PL : List (Nat × TypeId × List Value)) (L0 : List (Nat × Nat)) (cs : List Value) (m1 m5 : Bool) (gA : Option Addr) (gq : Nat) (W : World) : Prop where
 hp : Hp w PL W
 sz : base ≤ W.heap.size
 prd : m1 = true → PRd q W W.heap.size gA L0
 bx : m5 = true → Blk W gq 81 cs ∧ base ≤ gq
 bn : m1 = true → m5 = true → 0 < L0.length → ∀ p, gA = some p → p.block ≠ gq
theorem LmP.start {w W : World} {base q : Nat} {PL : List (Nat × TypeId × List Value)} {L0 : List (Nat × Nat)} {cs : List Value} {gA : Option Addr} {gq : Nat} (h : Hp w PL W) (hb : base ≤ W.heap.size) : LmP w base q PL L0 cs false false gA gq W :=
 ⟨h, hb, fun e => (by cases e), fun e => (by cases e), fun e => (by cases e)⟩
theorem LmP.pr {w W W' : World} {base q : Nat} {PL : List (Nat × TypeId × List Value)} {L0 : List (Nat × Nat)} {cs cs' : List Value} {gA gA' : Option Addr} {gq : Nat} (h : LmP w base q PL L0 cs false false gA gq W) (hb : Below W.heap.size W W') (hr : PRd q W' W'.heap.size gA' L0) : LmP w base q PL L0 cs' true false gA' gq W' :=
 ⟨h.hp.step hb, Nat.le_trans h.sz hb.size, fun _ => hr, fun e => (by cases e), fun _ e => (by cases e)⟩
theorem LmP.box {w W : World} {base q : Nat} {PL : List (Nat × TypeId × List Value)} {L0 : List (Nat × Nat)} {cs : List Value} {gA : Option Addr} {gq : Nat} (h : LmP w base q PL L0 cs true false gA gq W) : LmP w base q PL L0 cs true true gA W.heap.size (W.alloc (.cells cs.toArray 81)) :=
 ⟨h.hp.alloc _, Nat.le_trans h.sz (by rw [World.size_alloc]; omega), fun _ => ((h.prd rfl).below (bw_new (Below.refl W.heap.size W) _)).more (by rw [World.size_alloc]; omega), fun _ => ⟨heap_alloc_new W _, h.sz⟩, fun _ _ hl p hp => by
  obtain ⟨g, e, hg, -⟩ := h.prd rfl hl
  rw [e] at hp
  cases hp
  exact Nat.ne_of_lt hg⟩
set_option maxRecDepth 1000000 in
set_option maxHeartbeats 8000000 in
theorem iLeast_ok (A B : Option Addr) (c d n m q : Nat) (L K : List Int) (w : World) (h : TabAt w w.heap.size A B n m L K) (hk : smlE (q : Int) L K = 0) :
  Calls Tryz.prog 14 #[.agg #[.int .i64 (q : Int), .slice A n c, .slice B m d]] w fun e w' => ∃ (A' : Option Addr) (cp : Nat), e = .returned (.tuple #[.slice A' (lsL q (mayM L K) (onR L)).length cp, .int .i64 0]) ∧ w'.ownsRow w.heap.size 37 2 (.slice A' (lsL q (mayM L K) (onR L)).length cp) (lsL q (mayM L K) (onR L)).length ((lsL q (mayM L K) (onR L)).flatMap cbL) ∧ Below w.heap.size w w' := by
 obtain ⟨hk0, hq5⟩ := sml_zero hk
 obtain ⟨hq8, l1, hpw, -, -⟩ := chk_rows hk0
 obtain ⟨h256, -⟩ := on_short hq8 l1 hpw
 obtain ⟨R, hR⟩ : ∃ R, R = lsL q (mayM L K) (onR L) := ⟨_, rfl⟩
 rw [← hR]
 obtain ⟨L0, hL0⟩ : ∃ l, l = tPr q L K := ⟨_, rfl⟩
 rw [lsL_out, show prS q (rowM (onR L)) (mayM L K) = L0 by rw [hL0]; rfl] at hR
 have hL0m : ∀ x ∈ L0, x.1 < 256 := fun x hx => by
  rw [hL0] at hx
  have h1 := (prF_mem.1 ((prS_mem hq8).1 hx)).1
  have := pow_le8 hq8
  omega
 have hL0l : L0.length ≤ 65536 := by rw [hL0]; exact tPr_len q L K hq8
 have hrn := rd_nat h.on (fun x hx => (l1 x hx).1)
 have hr256 := on_small hq8 l1
 have hn : n = (onR L).length := by rw [List.length_map]; exact h.n_
 have hSM := fun W (hb : Below w.heap.size w W) => ismall_any A B c d n m (q : Int) L K W (h.below hb)
 rw [hk] at hSM
 have HSM := Lib.hid hSM
 have hn1 := h.nm.1
 obtain ⟨nl, hnl⟩ : ∃ l, l = L0.length := ⟨_, rfl⟩
 have HPR := Lib.hid (show ∀ W, Below w.heap.size w W → Calls Tryz.prog 42 #[.agg #[.int .i64 (q : Int), .slice A n c, .slice B m d]] W fun e w' => ∃ (A' : Option Addr) (cp : Nat), e = .returned (.slice A' nl cp) ∧ PRd q w' w'.heap.size A' L0 ∧ Below W.heap.size W w' from fun W hb => by rw [hnl, hL0]; exact iprimes_any A B c d n m q L K W (h.below hb) hk0)
 have HR := Lib.hid hR
 have HP := Lib.hid (And.intro hrn (And.intro hr256 (And.intro hn (And.intro hn1 (And.intro h256 (And.intro hq8 (And.intro hL0m (And.intro hL0l hnl))))))))
 obtain ⟨i0, hi0, hz0, hz1, hz2⟩ := info_parts infoCub
 have HI0 := Lib.hid hi0
 have HZ0 := Lib.hid hz0
 have HZ1 := Lib.hid hz1
 have HZ2 := Lib.hid hz2
 have hm0 := (Hp.start w).new 26 [.int .i64 (q : Int), .slice A n c, .slice B m d]
 simp only [List.nil_append] at hm0
 have HM0 := Lib.hid hm0
 have c0 : (w.alloc (.cells #[.int .i64 (q : Int), .slice A n c, .slice B m d] 26)).cell? ⟨w.heap.size, 0, none⟩ = some (.int .i64 (q : Int)) := (hm0.at_ 0 rfl).cell 0
 have c1 : (w.alloc (.cells #[.int .i64 (q : Int), .slice A n c, .slice B m d] 26)).cell? ⟨w.heap.size, 1, none⟩ = some (.slice A n c) := (hm0.at_ 0 rfl).cell 1
 have c2 : (w.alloc (.cells #[.int .i64 (q : Int), .slice A n c, .slice B m d] 26)).cell? ⟨w.heap.size, 2, none⟩ = some (.slice B m d) := (hm0.at_ 0 rfl).cell 2
 clear hi0 hz0 hz1 hz2 hm0 h hk hk0 hq5 hq8 l1 hpw h256 hR hL0 hL0m hL0l hrn hr256 hn hSM hn1 hnl
 go_enter Tryz.func14, Tryz.ntmps14
 go_wp2_with fail
 refine (HSM.out _ HM0.out.below).mono ?_
 rintro e w1 ⟨rfl, hb1⟩
 have HM1 := Lib.hid (HM0.out.step hb1)
 have HW1 := Lib.hid HM1.out.below.size
 clear hb1 HM0 c0 c1 c2
 go_upto_region 4 with fail
 refine wp_regionJ 7 #[false, false, false, false, false, false, false] (fun ll aa W => ∃ (m0 m1 m2 m3 m4 m5 m6 : Bool) (gA : Option Addr) (gc : Nat) (gq : Nat), ll = #[m0, m1, m2, m3, m4, m5, m6] ∧ aa = ({ tmps := #[Value.agg #[Value.int IntKind.i64 (q : Int), Value.slice A n c, Value.slice B m d], Value.pointer (some { block := w.heap.size, off := 0 }), Value.slice none 0 0, Value.int IntKind.i64 0, Value.int IntKind.i64 0, cwX m6 (.pointer (some ⟨gq, 0, none⟩)) (undef), undef, undef, undef, Value.agg #[Value.int IntKind.i64 (q : Int), Value.slice A n c, Value.slice B m d], Value.int IntKind.i64 0, Value.int IntKind.i64 0, Value.bool false, undef, cwX m0 (.agg #[.int .i64 (q : Int), .slice A n c, .slice B m d]) (undef), cwX m1 (.slice gA nl gc) (undef), cwX m2 (.pointer (some ⟨w.heap.size, 1, none⟩)) (undef), cwX m3 (.slice A n c) (undef), cwX m4 (.agg #[.slice gA nl gc, .slice A n c, .slice none 0 0, .int .i64 0, .bool false]) (undef), cwX m5 (.pointer (some ⟨gq, 0, none⟩)) (undef), undef, undef, undef, undef, undef, undef, undef, undef, undef, undef, undef, undef, undef, undef, undef, undef, undef, undef, undef, undef, undef, undef, undef, undef, undef], defers := [] } : Act) ∧ ((m5 = true → m4 = true) ∧ (m4 = true → m1 = true) ∧ (m6 = true → m5 = true)) ∧ LmP w w1.heap.size q [(w.heap.size, 26, [.int .i64 (q : Int), .slice A n c, .slice B m d])] L0 [.slice gA nl gc, .slice A n c, .slice none 0 0, .int .i64 0, .bool false] m1 m5 gA gq W) (by kernel_rfl) (by kernel_rfl) (by kernel_rfl) (by kernel_rfl) ?_ ?_ ?_ ?_
 ·rintro ll aa W ⟨m0, m1, m2, m3, m4, m5, m6, gA, gc, gq, rfl, _⟩
  rfl
 ·exact ⟨false, false, false, false, false, false, false, none, 0, 0, rfl, rfl, ⟨fun h => absurd h (by simp), fun h => absurd h (by simp), fun h => absurd h (by simp)⟩, LmP.start HM1.out.drew (by exact Nat.le_refl _)⟩
 ·rintro ll aa W i o ⟨m0, m1, m2, m3, m4, m5, m6, gA, gc, gq, rfl, rfl, hi0, hm⟩ ho hun hall K hK
  have hi : i < 7 := (Array.getElem?_eq_some_iff.1 ho).1
  have HM := Lib.hid hm
  have HI := Lib.hid hi0
  clear hm hi0
  rcases (show i = 0 ∨ i = 1 ∨ i = 2 ∨ i = 3 ∨ i = 4 ∨ i = 5 ∨ i = 6 by omega) with rfl | rfl | rfl | rfl | rfl | rfl | rfl
  ·cases ho
   simp at hun; subst hun
   clear hall hi
   have c0 : W.cell? ⟨w.heap.size, 0, none⟩ = some (.int .i64 (q : Int)) := (HM.out.hp.at_ 0 rfl).cell 0
   have c1 : W.cell? ⟨w.heap.size, 1, none⟩ = some (.slice A n c) := (HM.out.hp.at_ 0 rfl).cell 1
   have c2 : W.cell? ⟨w.heap.size, 2, none⟩ = some (.slice B m d) := (HM.out.hp.at_ 0 rfl).cell 2
   go_simp
   exact hK.out _ _ ⟨true, m1, m2, m3, m4, m5, m6, gA, gc, gq, rfl, rfl, by obtain ⟨h0, h1, h2⟩ := HI.out; exact ⟨fun e => by first | rfl | exact h0 e | exact absurd e (by simp), fun e => by first | rfl | exact h1 e | exact absurd e (by simp), fun e => by first | rfl | exact h2 e | exact absurd e (by simp)⟩, HM.out⟩
  ·cases ho
   cases (getBX hall 0 rfl : m0 = true)
   simp at hun; subst hun
   clear hall hi
   obtain rfl : m4 = false := by
    cases m4
    ·rfl
    ·exact absurd (HI.out.2.1 rfl) (by simp)
   obtain rfl : m5 = false := by
    cases m5
    ·rfl
    ·exact absurd (HI.out.1 rfl) (by simp)
   go_simp
   refine (HPR.out _ HM.out.hp.below).mono ?_
   rintro e W' ⟨A', cp', rfl, hrd, hb⟩
   have HN := Lib.hid (HM.out.pr (cs' := [.slice A' nl cp', .slice A n c, .slice none 0 0, .int .i64 0, .bool false]) hb hrd)
   exact hK.out _ _ ⟨true, true, m2, m3, false, false, m6, A', cp', gq, rfl, rfl, by obtain ⟨h0, h1, h2⟩ := HI.out; exact ⟨fun e => by first | rfl | exact h0 e | exact absurd e (by simp), fun e => by first | rfl | exact h1 e | exact absurd e (by simp), fun e => by first | rfl | exact h2 e | exact absurd e (by simp)⟩, HN.out⟩
  ·cases ho
   simp at hun; subst hun
   clear hall hi
   go_simp
   exact hK.out _ _ ⟨m0, m1, true, m3, m4, m5, m6, gA, gc, gq, rfl, rfl, by obtain ⟨h0, h1, h2⟩ := HI.out; exact ⟨fun e => by first | rfl | exact h0 e | exact absurd e (by simp), fun e => by first | rfl | exact h1 e | exact absurd e (by simp), fun e => by first | rfl | exact h2 e | exact absurd e (by simp)⟩, HM.out⟩
  ·cases ho
   cases (getBX hall 2 rfl : m2 = true)
   simp at hun; subst hun
   clear hall hi
   have c0 : W.cell? ⟨w.heap.size, 0, none⟩ = some (.int .i64 (q : Int)) := (HM.out.hp.at_ 0 rfl).cell 0
   have c1 : W.cell? ⟨w.heap.size, 1, none⟩ = some (.slice A n c) := (HM.out.hp.at_ 0 rfl).cell 1
   have c2 : W.cell? ⟨w.heap.size, 2, none⟩ = some (.slice B m d) := (HM.out.hp.at_ 0 rfl).cell 2
   go_simp
   exact hK.out _ _ ⟨m0, m1, true, true, m4, m5, m6, gA, gc, gq, rfl, rfl, by obtain ⟨h0, h1, h2⟩ := HI.out; exact ⟨fun e => by first | rfl | exact h0 e | exact absurd e (by simp), fun e => by first | rfl | exact h1 e | exact absurd e (by simp), fun e => by first | rfl | exact h2 e | exact absurd e (by simp)⟩, HM.out⟩
  ·cases ho
   cases (getBX hall 1 rfl : m1 = true)
   cases (getBX hall 3 rfl : m3 = true)
   simp at hun; subst hun
   clear hall hi
   go_simp
   exact hK.out _ _ ⟨m0, true, m2, true, true, m5, m6, gA, gc, gq, rfl, rfl, by obtain ⟨h0, h1, h2⟩ := HI.out; exact ⟨fun e => by first | rfl | exact h0 e | exact absurd e (by simp), fun e => by first | rfl | exact h1 e | exact absurd e (by simp), fun e => by first | rfl | exact h2 e | exact absurd e (by simp)⟩, HM.out⟩
  ·cases ho
   cases (getBX hall 4 rfl : m4 = true)
   obtain rfl : m1 = true := HI.out.2.1 rfl
   simp at hun; subst hun
   clear hall hi
   obtain rfl : m6 = false := by
    cases m6
    ·rfl
    ·exact absurd (HI.out.2.2 rfl) (by simp)
   have HN := Lib.hid HM.out.box
   go_simp
   exact hK.out _ _ ⟨m0, true, m2, m3, true, true, false, gA, gc, W.heap.size, rfl, rfl, by obtain ⟨h0, h1, h2⟩ := HI.out; exact ⟨fun e => by first | rfl | exact h0 e | exact absurd e (by simp), fun e => by first | rfl | exact h1 e | exact absurd e (by simp), fun e => by first | rfl | exact h2 e | exact absurd e (by simp)⟩, HN.out⟩
  ·cases ho
   cases (getBX hall 5 rfl : m5 = true)
   simp at hun; subst hun
   clear hall hi
   go_simp
   exact hK.out _ _ ⟨m0, m1, m2, m3, m4, true, true, gA, gc, gq, rfl, rfl, by obtain ⟨h0, h1, h2⟩ := HI.out; exact ⟨fun e => by first | rfl | exact h0 e | exact absurd e (by simp), fun e => by first | rfl | exact h1 e | exact absurd e (by simp), fun e => by first | rfl | exact h2 e | exact absurd e (by simp)⟩, HM.out⟩
 ·rintro ll aa W2 ⟨m0, m1, m2, m3, m4, m5, m6, gA, gc, gq, rfl, rfl, _, hm⟩ hall
  cases (hall 0 (by decide) : m0 = true)
  cases (hall 1 (by decide) : m1 = true)
  cases (hall 2 (by decide) : m2 = true)
  cases (hall 3 (by decide) : m3 = true)
  cases (hall 4 (by decide) : m4 = true)
  cases (hall 5 (by decide) : m5 = true)
  cases (hall 6 (by decide) : m6 = true)
  clear hall
  have HM2 := Lib.hid hm
  clear hm HM1
  dsimp only [cwX, cond_true]
  have hbk := (HM2.out.bx rfl).1
  have hge := (HM2.out.bx rfl).2
  have hne : 0 < L0.length → ∀ p, gA = some p → p.block ≠ gq := (HM2.out.bn rfl rfl)
  have hAne : 0 < (onR L).length → ∀ p, A = some p → p.block ≠ gq := fun hl p hp e => by
   have h1 := HW1.out
   obtain ⟨b', o', e1, e2, -⟩ := HP.out.1 hl
   rw [e1] at hp
   cases hp
   dsimp only at e
   omega
  have hlc : LcAt W2 q gq nl n gA A L0 (onR L) := ⟨HM2.out.prd rfl, (HP.out.1.below HM2.out.hp.below).more HM2.out.hp.below.size, HP.out.2.2.2.2.2.2.2.2, HP.out.2.2.1, hne, hAne⟩
  have hsk := iseekr_any q gq nl gc n c gA A L0 (onR L) HP.out.2.2.2.2.2.1 HP.out.2.2.2.2.2.2.1 HP.out.2.2.2.2.2.2.2.1 HP.out.2.1 (by have := HP.out.2.2.2.2.1; omega) ((onR L).length + 1) none [] 0 0 none 0 0 W2 hlc ⟨none, 0, 0, 0, false, hbk, (fun p h => by cases h), .inl ⟨rfl, rfl, rfl⟩⟩ Rd.nil rfl (fun _ => ⟨rfl, rfl⟩) (Nat.le_refl _) (fun p h => by cases h) (by have := HP.out.2.2.2.2.1; omega) (Nat.le_refl _) (Nat.lt_succ_of_le (List.length_filter_le _ _))
  obtain ⟨S, hS⟩ : ∃ S, S = lsSeek (lsP q L0) (onR L) ((onR L).length + 1) none [] 0 0 := ⟨_, rfl⟩
  rw [← hS, setL_zero] at hsk
  have hSb : ∀ b k, S = some (b, k) → ∀ i ∈ b, i < L0.length := fun b k e i hi => by
   have hsp := lsSeek_spec (lsP q L0) (onR L) ((onR L).length + 1) none [] 0 0 ⟨List.nodup_nil, (fun _ h => by cases h), (fun x => by simp), rfl⟩ (Nat.lt_succ_of_le (List.length_filter_le _ _))
   rw [← hS, e] at hsp
   rcases hsp with ⟨h, -⟩ | ⟨b', h1, h2, -⟩
   ·cases h
   ·cases h1
    have := h2.2.1 i hi
    rwa [lsP_len] at this
  have HRS := Lib.hid (show R = lsOut L0 S by rw [HR.out, hS])
  have HSB := Lib.hid hSb
  have HSK := Lib.hid (show Calls Tryz.prog 43 #[.pointer (some ⟨gq, 0, none⟩), .slice none 0 0, .agg #[.int .u64 0, .int .u64 0, .int .u64 0, .int .u64 0], .int .i64 0] W2 (LkPost gq nl gc n c gA A S W2) from hsk)
  have HLC := Lib.hid hlc
  have HGE := Lib.hid (Nat.le_trans HW1.out hge)
  clear hbk hge hne hAne hlc hsk hS hSb HR
  go_wp2_with fail
  refine HSK.out.mono ?_
  rintro e W3 ⟨rfl, hch, AB, nb, cb, lit, fd, hbk, hnb, hcs⟩
  have HLC3 := Lib.hid (HLC.out.chs hch)
  have HB3 := Lib.hid (HM2.out.hp.below.trans (hch.below HGE.out HM2.out.hp.below.size))
  have HBK := Lib.hid hbk
  have hres : ∃ b : List Nat, nb = b.length ∧ Rd nv W3 W3.heap.size AB b ∧ R = b.map (fun i => L0.getD i (0, 0)) ∧ (∀ i ∈ b, i < L0.length) ∧ nb ≤ 4000 := by
   rcases hcs with ⟨hs, -, h0⟩ | ⟨b, hs, -, h1, h2, h3⟩
   ·exact ⟨[], h0, Rd.nil, by rw [HRS.out, hs]; rfl, (fun i h => by cases h), by omega⟩
   ·exact ⟨b, h1, h3, by rw [HRS.out, hs]; rfl, HSB.out b lit hs, h2⟩
  obtain ⟨b, hbl, hrb, hRb, hbi, hb4⟩ := hres
  have HBB := Lib.hid (And.intro hbl (And.intro hrb (And.intro hRb hbi)))
  obtain ⟨e0, e1, e2, e3, e4⟩ := five_of hbk
  clear hch hbk hnb hcs hbl hrb hRb hbi HSB HRS HSK
  go_wp2_with fail
  go_loopw [6, 28] (fun u x wr => ∃ (k : Nat) (A' : Option Addr) (cp : Nat), k ≤ nb ∧ x = .int .i64 (k : Int) ∧ u = .slice A' k cp ∧ wr.ownsRow W3.heap.size 37 2 (.slice A' k cp) k ((b.take k).flatMap fun i => cbL (L0.getD i (0, 0))) ∧ Below W3.heap.size W3 wr) (fun _ x _ => nb - (intOf x).toNat)
  case atStart => exact ⟨0, none, 0, Nat.zero_le _, rfl, rfl, World.ownsRow_nil _ _ _ _, Below.refl _ _⟩
  case round =>
   obtain ⟨k, A', cp, hk, rfl, rfl, hown, hb⟩ := hrel
   have HO := Lib.hid hown
   have HB := Lib.hid hb
   clear hown hb e0 e1 e2 e3 e4
   by_cases hlt : k < nb
   ·have hkb : k < b.length := by rw [← HBB.out.1]; exact hlt
    obtain ⟨bb, bo, hAB, hbb, hcc⟩ := ((HBB.out.2.1.below HB.out).more HB.out.size) (by omega)
    have ck := hcc k hkb
    have hgd : b.getD k 0 = b[k]'hkb := by rw [List.getD_eq_getElem?_getD, List.getElem?_eq_getElem hkb]; rfl
    rw [← hgd] at ck
    have hiL := HBB.out.2.2.2 (b.getD k 0) (by rw [hgd]; exact List.getElem_mem _)
    have hcl := lsCells L0 b hkb
    obtain ⟨i, hi⟩ : ∃ i, i = b.getD k 0 := ⟨_, rfl⟩
    rw [← hi] at ck hiL hcl
    obtain ⟨g, hgA, hg, q0, q1, -, -, -, -⟩ := prd_at (HLC3.out.chs (.of_below HB.out)).pr hiL
    obtain ⟨z, hz⟩ : ∃ z, z = L0.getD i (0, 0) := ⟨_, rfl⟩
    rw [← hz] at q0 q1 hcl
    obtain ⟨za, zb⟩ := z
    dsimp only at q0 q1
    have HCL := Lib.hid hcl
    subst hAB
    subst hgA
    obtain ⟨e0, e1, e2, e3, e4⟩ := five_of ((HB.out.block gq (Blk.lt HBK.out)).trans HBK.out)
    have hinl : (i : Int) < (nl : Int) := by have := HP.out.2.2.2.2.2.2.2.2; omega
    have hi0 : (0 : Int) ≤ (i : Int) := by omega
    have hinl2 : i < nl := by omega
    have hklz : (k : Int) < (nb : Int) := by omega
    obtain ⟨k2, hk2⟩ : ∃ z : Int, z = (k : Int) + 1 := ⟨_, rfl⟩
    have hwk : IntKind.i64.wrap ((k : Int) + 1) = k2 := by rw [hk2]; exact IntWalk.i64_in _ (by omega)
    have HK2 := Lib.hid hk2
    have HLT := Lib.hid hlt
    have hk4 : k ≤ 4000 := by omega
    clear hgd hi hiL hcl hz hlt hk hk2 hcc hbb hg hkb
    go_wp2_with (at_builtin; refine wpList_append_own _ rfl _ _ 28 rfl W3.heap.size 37 i0 (.agg #[.int .i64 0, .int .i64 0]) 2 16 Tryz.underlying28 HI0.out HZ0.out HZ1.out HZ2.out rfl (by decide) _ _ _ rfl (own_blI HO.out (bw_new (Below.refl _ _) _)) ⟨wr.heap.size, 0, none⟩ 1 1 (cbL (za, zb)) rfl rfl (World.news_of_block (cs := (cbL (za, zb)).toArray) (t := 37) (fr := (0, 0)) (heap_alloc_new wr _)) (by simp [Value.oneCell']) (by unfold maxLen; omega) (by omega) (by simp; have := HB.out.size; omega) ?_)
    intro v' w4 hown hgrow _
    obtain ⟨g4, c4', hv, hc4⟩ := own_form hown (by omega)
    subst hv
    have hbn := bw_new HB.out (.cells (cbL (za, zb)).toArray 37)
    have HB4 := Lib.hid (hbn.grown hgrow hbn.size (fun k hk => (HO.out.lt k hk).1))
    have HO4 := Lib.hid hown
    clear hown hgrow hbn q0 q1 ck e0 e1 e2 e3 e4
    go_wp2_with fail
    go_roundw
    case rel => exact ⟨k + 1, some ⟨g4, 0, none⟩, c4', by have := HLT.out; omega, by rw [HK2.out]; rfl, rfl, by rw [HCL.out]; exact HO4.out, HB4.out⟩
    case measure => have := HLT.out; have := HK2.out; simp only [intOf]; omega
   ·obtain rfl : k = nb := by omega
    have HFIN := Lib.hid (show k = R.length ∧ wr.ownsRow w.heap.size 37 2 (.slice A' k cp) k (R.flatMap cbL) ∧ Below w.heap.size w wr by
     have h1 := HO.out
     rw [List.take_of_length_le (by rw [HBB.out.1]; exact Nat.le_refl _)] at h1
     refine ⟨by rw [HBB.out.2.2.1, List.length_map]; exact HBB.out.1, ?_, HB3.out.trans (HB.out.mono HB3.out.size)⟩
     rw [HBB.out.2.2.1, List.flatMap_map]
     exact own_lwI h1 HB3.out.size)
    have hkn : ¬ (k : Int) < (k : Int) := by omega
    clear hlt hk
    go_wp2_with fail
    exact bodyPost_ret (v := .tuple #[.slice A' k cp, .int .i64 0]) (by simp [results, Tryz.results14, go_sem]) rfl ⟨A', cp, by rw [HFIN.out.1], by rw [← HFIN.out.1]; exact HFIN.out.2.1, HFIN.out.2.2⟩
end Go.Proofs.YtaegjpancbmppaaGreatDoor
