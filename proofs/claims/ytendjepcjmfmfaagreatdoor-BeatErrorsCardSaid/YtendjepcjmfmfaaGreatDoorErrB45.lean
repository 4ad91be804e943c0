/- Part 45 of 46 of the proof of the law: contracts of the functions that it reaches, and plain facts. Conditions: those that each contract names. -/
import Derived.Test.YtendjepcjmfmfaaGreatDoorErrB43
import Derived.Test.YtendjepcjmfmfaaGreatDoorErrB44
namespace Go.Proofs.YtendjepcjmfmfaaGreatDoor
open Go.RowKit Go.Shelf Go.Sort
abbrev NK (lo : Int) (n : Nat) := { x : Int // lo ≤ x ∧ x < lo + n }
def encK {lo : Int} {n : Nat} (x : NK lo n) : Value := .int .i64 x.1
def cfK (v0 v1 : Nat → Int) (lo : Int) (n : Nat) (x y : NK lo n) : Int := cfB v0 v1 lo x.1 y.1
def LtB (v0 v1 : Nat → Int) (lo a b : Int) : Prop := v0 (a - lo).toNat < v0 (b - lo).toNat ∨ (v0 (a - lo).toNat = v0 (b - lo).toNat ∧ (v1 (a - lo).toNat < v1 (b - lo).toNat ∨ (v1 (a - lo).toNat = v1 (b - lo).toNat ∧ a < b)))
instance (v0 v1 : Nat → Int) (lo a b : Int) : Decidable (LtB v0 v1 lo a b) := by unfold LtB; infer_instance
end Go.Proofs.YtendjepcjmfmfaaGreatDoor
namespace Go.Proofs.YtendjepcjmfmfaaGreatDoor
open Go.RowKit
def kyL (lo : Int) (n k : Nat) (h : k ≤ n) : List (NK lo n) := (List.range k).attach.map fun i => ⟨lo + (i.1 : Nat), by have := List.mem_range.1 i.2; omega⟩
def kzL (lo : Int) (k : Nat) : List Int := (List.range k).map fun i : Nat => lo + i
def OdRel (W1 : World) (lo : Int) (n : Nat) (u v : Value) (W : World) : Prop :=
 ∃ (k : Nat) (A : Option Addr) (c : Nat), k ≤ n ∧ v = .int .i64 (k : Int) ∧ u = .slice A k c ∧ W.ownsRow W1.heap.size 3 1 (.slice A k c) k ((kzL lo k).map i64z) ∧ Hp W1 [] W
end Go.Proofs.YtendjepcjmfmfaaGreatDoor
namespace Go.Proofs.YtendjepcjmfmfaaGreatDoor
open Go.RowKit
def cmE42 (lo hi : Int) : Int := if lo < 0 ∨ 127 < hi then 3 else if hi < lo then 23 else 0
set_option maxRecDepth 100000 in
theorem bcomp_any (lo hi : Int) (w : World) : Calls Tryz.prog 37 #[.agg #[.int .i64 lo, .int .i64 hi]] w fun e w' => e = .returned (.int .i64 (cmE42 lo hi)) ∧ Below w.heap.size w w' := by
 have h : (lo < 0 ∧ cmE42 lo hi = 3) ∨ (0 ≤ lo ∧ 127 < hi ∧ cmE42 lo hi = 3) ∨ (0 ≤ lo ∧ hi ≤ 127 ∧ hi < lo ∧ cmE42 lo hi = 23) ∨ (0 ≤ lo ∧ hi ≤ 127 ∧ lo ≤ hi ∧ cmE42 lo hi = 0) := by
  unfold cmE42
  by_cases h1 : lo < 0
  ·left; exact ⟨h1, if_pos (.inl h1)⟩
  ·by_cases h2 : 127 < hi
   ·right; left; exact ⟨by omega, h2, if_pos (.inr h2)⟩
   ·by_cases h3 : hi < lo
    ·right; right; left; exact ⟨by omega, by omega, h3, by rw [if_neg (by omega), if_pos h3]⟩
    ·right; right; right; exact ⟨by omega, by omega, by omega, by rw [if_neg (by omega), if_neg h3]⟩
 rcases h with ⟨h1, h⟩ | ⟨h1, h2, h⟩ | ⟨h1, h2, h3, h⟩ | ⟨h1, h2, h3, h⟩
 all_goals
  have HE := Lib.hid h
  clear h
  go_enter Tryz.func37, Tryz.ntmps37
  go_wp2
  go_ret
  exact ⟨by rw [HE.out]; rfl, bw_new (Below.refl _ w) _⟩
def kyE (C : Nat → Tm) (p s lo hi : Int) : Int := if tuE C p ≠ 0 then tuE C p else if ¬ ptB s then 18 else if cmE42 lo hi ≠ 0 then cmE42 lo hi else if 127 < hi + s then 3 else 0
set_option maxRecDepth 1000000 in
set_option maxHeartbeats 4000000 in
theorem babove_err (C : Nat → Tm) (p s lo hi : Int) (w : World) (hC : ∀ i, i < 12 → Tm64 (C i)) (hk : kyE C p s lo hi ≠ 0) :
  Calls Tryz.prog 67 #[.agg (tuL C p).toArray, .int .i64 s, .agg #[.int .i64 lo, .int .i64 hi]] w fun e w' => e = .returned (.tuple #[.slice none 0 0, .int .i64 (kyE C p s lo hi)]) ∧ Below w.heap.size w w' := by
 obtain ⟨E, hE⟩ : ∃ E, E = kyE C p s lo hi := ⟨_, rfl⟩
 rw [← hE] at hk ⊢
 have hck := fun W => bCheck_any C p W hC
 obtain ⟨t, ht⟩ : ∃ t, t = tuE C p := ⟨_, rfl⟩
 obtain ⟨m, hm⟩ : ∃ t, t = cmE42 lo hi := ⟨_, rfl⟩
 have hcc := fun W => bcomp_any lo hi W
 rw [← ht] at hck
 rw [← hm] at hcc
 have hKE : E = if t ≠ 0 then t else if ¬ ptB s then 18 else if m ≠ 0 then m else if 127 < hi + s then 3 else 0 := by rw [hE, ht, hm]; rfl
 have hm0r : m = 0 → 0 ≤ lo ∧ hi ≤ 127 ∧ lo ≤ hi := fun h => by
  rw [hm] at h
  unfold cmE42 at h
  split at h
  ·cases h
  ·split at h
   ·cases h
   ·omega
 have HCK := Lib.hid hck
 have HCC := Lib.hid hcc
 have HK := Lib.hid hKE
 have HR := Lib.hid hm0r
 have hm0 := ((Hp.start w).new 41 (tuL C p)).new 80 [.int .i64 lo, .int .i64 hi]
 simp only [World.size_alloc, List.nil_append, List.cons_append] at hm0
 have HM0 := Lib.hid hm0
 have HKN := Lib.hid hk
 clear hm0 hC hE hck hcc ht hm hKE hm0r hk
 go_enter Tryz.func67, Tryz.ntmps67
 go_wp2_with (refine wpList_load_row rfl 41 _ rfl w.heap.size rfl 41 (tuL C p).toArray (0, 0) _ (HM0.out.at_ 0 rfl) Tryz.underlying41 rfl (by rw [infoTun, List.size_toArray, tuL_len]) ?_)
 refine (HCK.out _).mono ?_
 rintro e w1 ⟨rfl, hb1⟩
 have HM1 := Lib.hid (HM0.out.step hb1)
 clear hb1 HM0
 by_cases h1 : t = 0
 ·subst h1
  go_wp2_with fail
  by_cases h2 : ptB s
  ·refine (bPart_ok s _ h2).mono ?_
   rintro e wx ⟨rfl, rfl⟩
   obtain ⟨y0, y1⟩ := two_of (HM1.out.at_ 1 rfl)
   have hs12 : 3 ≤ s ∧ s ≤ 12 := by unfold ptB at h2; omega
   have HS := Lib.hid (And.intro h2 hs12)
   obtain ⟨u0, hu0⟩ : ∃ u, u = (ptP s).1 := ⟨_, rfl⟩
   obtain ⟨u1, hu1⟩ : ∃ u, u = (ptP s).2 := ⟨_, rfl⟩
   rw [← hu0, ← hu1]
   clear h2 hs12 hu0 hu1
   go_wp2_with fail
   refine (HCC.out _).mono ?_
   rintro e w2 ⟨rfl, hb2⟩
   have HM2 := Lib.hid (HM1.out.step hb2)
   clear hb2 HM1 y0 y1
   by_cases h3 : m = 0
   ·subst h3
    obtain ⟨r1, r2, r3⟩ := HR.out rfl
    obtain ⟨y0, y1⟩ := two_of (HM2.out.at_ 1 rfl)
    obtain ⟨x, hx⟩ : ∃ x, x = hi + s := ⟨_, rfl⟩
    have hw : IntKind.i64.wrap (hi + s) = x := by rw [hx]; exact IntWalk.i64_in _ (by have := HS.out.2; omega)
    have hx127 : 127 < x := by
     rcases Int.lt_or_le 127 (hi + s) with h | h
     ·omega
     ·exact absurd (HK.out.trans (by rw [if_neg (by simp), if_neg (fun h => h HS.out.1), if_neg (by simp), if_neg (by omega)])) HKN.out
    have HE := Lib.hid (show E = 3 from HK.out.trans (by rw [if_neg (by simp), if_neg (fun h => h HS.out.1), if_neg (by simp), if_pos (by omega)]))
    have hnt := fun W => bnote_any x W
    rw [show ntB x = false from decide_eq_false (by omega)] at hnt
    have HNT := Lib.hid hnt
    clear hx hnt hx127 r1 r2 r3
    go_wp2_with fail
    refine (HNT.out _).mono ?_
    rintro e wy ⟨rfl, rfl⟩
    go_wp2_with fail
    exact bodyPost_ret (v := .tuple #[.slice none 0 0, .int .i64 3]) (by simp [results, Tryz.results67, go_sem]) rfl ⟨by rw [HE.out], HM2.out.below⟩
   ·have HE := Lib.hid (show E = m from HK.out.trans (by rw [if_neg (by simp), if_neg (fun h => h HS.out.1), if_pos h3]))
    have hz : (m != 0) = true := by simpa using h3
    clear h3
    go_wp2_with fail
    exact bodyPost_ret (v := .tuple #[.slice none 0 0, .int .i64 m]) (by simp [results, Tryz.results67, go_sem]) rfl ⟨by rw [HE.out], HM2.out.below⟩
  ·refine (bPart_no s _ h2).mono ?_
   rintro e wx ⟨rfl, rfl⟩
   have HE := Lib.hid (show E = 18 from HK.out.trans (by rw [if_neg (by simp), if_pos h2]))
   clear h2
   go_wp2_with fail
   exact bodyPost_ret (v := .tuple #[.slice none 0 0, .int .i64 18]) (by simp [results, Tryz.results67, go_sem]) rfl ⟨by rw [HE.out], HM1.out.below⟩
 ·have HE := Lib.hid (show E = t from HK.out.trans (by rw [if_pos h1]))
  have hz : (t != 0) = true := by simpa using h1
  clear h1
  go_wp2_with fail
  exact bodyPost_ret (v := .tuple #[.slice none 0 0, .int .i64 t]) (by simp [results, Tryz.results67, go_sem]) rfl ⟨by rw [HE.out], HM1.out.below⟩
set_option maxRecDepth 1000000 in
set_option maxHeartbeats 4000000 in
theorem border_err (C : Nat → Tm) (p s lo hi : Int) (w : World) (hC : ∀ i, i < 12 → Tm64 (C i)) (hk : kyE C p s lo hi ≠ 0) :
  Calls Tryz.prog 36 #[.agg (tuL C p).toArray, .int .i64 s, .agg #[.int .i64 lo, .int .i64 hi]] w fun e w' => e = .returned (.tuple #[.slice none 0 0, .int .i64 (kyE C p s lo hi)]) ∧ Below w.heap.size w w' := by
 have ha := fun W => babove_err C p s lo hi W hC hk
 obtain ⟨E, hE⟩ : ∃ E, E = kyE C p s lo hi := ⟨_, rfl⟩
 rw [← hE] at hk ha ⊢
 have HA := Lib.hid ha
 have hz : (E != 0) = true := by simpa using hk
 have hm0 := ((Hp.start w).new 41 (tuL C p)).new 80 [.int .i64 lo, .int .i64 hi]
 simp only [World.size_alloc, List.nil_append, List.cons_append] at hm0
 have HM0 := Lib.hid hm0
 obtain ⟨y0, y1⟩ := two_of (hm0.at_ 1 rfl)
 clear hm0 hC ha hE hk
 go_enter Tryz.func36, Tryz.ntmps36
 go_wp2_with (refine wpList_load_row rfl 41 _ rfl w.heap.size rfl 41 (tuL C p).toArray (0, 0) _ (HM0.out.at_ 0 rfl) Tryz.underlying41 rfl (by rw [infoTun, List.size_toArray, tuL_len]) ?_)
 refine (HA.out _).mono ?_
 rintro e w1 ⟨rfl, hb1⟩
 have HM1 := Lib.hid ((HM0.out.step hb1).new 91 [.slice none 0 0])
 clear hb1 HM0 y0 y1
 go_wp2_with fail
 exact bodyPost_ret (v := .tuple #[.slice none 0 0, .int .i64 E]) (by simp [results, Tryz.results36, go_sem]) rfl ⟨rfl, HM1.out.below⟩
set_option maxRecDepth 1000000 in
set_option maxHeartbeats 4000000 in
theorem brising_err (C : Nat → Tm) (p s lo hi : Int) (w : World) (hC : ∀ i, i < 12 → Tm64 (C i)) (hk : kyE C p s lo hi ≠ 0) :
  Calls Tryz.prog 32 #[.agg (tuL C p).toArray, .int .i64 s, .agg #[.int .i64 lo, .int .i64 hi]] w fun e w' => e = .returned (.tuple #[.int .i64 0, .bool false, .int .i64 (kyE C p s lo hi)]) ∧ Below w.heap.size w w' := by
 have ha := fun W => babove_err C p s lo hi W hC hk
 obtain ⟨E, hE⟩ : ∃ E, E = kyE C p s lo hi := ⟨_, rfl⟩
 rw [← hE] at hk ha ⊢
 have HA := Lib.hid ha
 have hz : (E != 0) = true := by simpa using hk
 have hm0 := ((Hp.start w).new 41 (tuL C p)).new 80 [.int .i64 lo, .int .i64 hi]
 simp only [World.size_alloc, List.nil_append, List.cons_append] at hm0
 have HM0 := Lib.hid hm0
 obtain ⟨y0, y1⟩ := two_of (hm0.at_ 1 rfl)
 clear hm0 hC ha hE hk
 go_enter Tryz.func32, Tryz.ntmps32
 go_wp2_with (refine wpList_load_row rfl 41 _ rfl w.heap.size rfl 41 (tuL C p).toArray (0, 0) _ (HM0.out.at_ 0 rfl) Tryz.underlying41 rfl (by rw [infoTun, List.size_toArray, tuL_len]) ?_)
 refine (HA.out _).mono ?_
 rintro e w1 ⟨rfl, hb1⟩
 have HM1 := Lib.hid (HM0.out.step hb1)
 clear hb1 HM0 y0 y1
 go_wp2_with fail
 exact bodyPost_ret (v := .tuple #[.int .i64 0, .bool false, .int .i64 E]) (by simp [results, Tryz.results32, go_sem]) rfl ⟨rfl, HM1.out.below⟩
end Go.Proofs.YtendjepcjmfmfaaGreatDoor
namespace Go.Proofs.YtendjepcjmfmfaaGreatDoor
open Go.RowKit
theorem btw_tot {D : Nat → Tm} (hk : ckE D = 0) (hD : ∀ i, i < 12 → Tm64 (D i)) (x y : Int) (hx : 0 ≤ x ∧ x ≤ 127) (hy : 0 ≤ y ∧ y ≤ 127) (W : World) (hT : Tab W) :
  Calls Tryz.prog 56 #[.agg (cirL D).toArray, .int .i64 x, .int .i64 y] W fun e w' => SzE e ∧ Below W.heap.size W w' := by
 obtain ⟨m, rfl⟩ : ∃ m : Nat, x = (m : Int) := ⟨x.toNat, by omega⟩
 obtain ⟨n, rfl⟩ : ∃ m : Nat, y = (m : Int) := ⟨y.toNat, by omega⟩
 exact tBetween_tot D m n W hT (rtC_of hk) hD hk (by omega) (by omega)
theorem dir_tot {D : Nat → Tm} (hk : ckE D = 0) (hD : ∀ i, i < 12 → Tm64 (D i)) (p a b : Int) (hr : ivxE (a, b) = 0) (W : World) (hT : Tab W) :
  Calls Tryz.prog 58 #[.agg (tuL D p).toArray, .agg #[.int .i64 a, .int .i64 b]] W fun e w' => InE e ∧ Below W.heap.size W w' := by
 obtain ⟨hs, h0, h1⟩ := ivx_ok hr
 have hs12 : 3 ≤ b ∧ b ≤ 12 := by unfold ptB at hs; omega
 exact bdir_tot D p a b (a + b) W hT hs (by omega) rfl (fun W hT => btw_tot hk hD a (a + b) (by omega) (by omega) W hT)
theorem beats_tot {D : Nat → Tm} (hk : ckE D = 0) (hD : ∀ i, i < 12 → Tm64 (D i)) (p a b : Int) (hr : ivxE (a, b) = 0) (W : World) (hT : Tab W) :
  Calls Tryz.prog 60 #[.agg (tuL D p).toArray, .agg #[.int .i64 a, .int .i64 b]] W fun e w' => BdE e ∧ Below W.heap.size W w' := by
 obtain ⟨hs, h0, h1⟩ := ivx_ok hr
 have hs12 : 3 ≤ b ∧ b ≤ 12 := by unfold ptB at hs; omega
 exact bbeats_tot D p a b (a + b) W hT hs (by omega) rfl (fun W hT => dir_tot hk hD p a b hr W hT)
  (fun W hT => bfreq_tot D p a W hT (fun W hT => btw_tot hk hD 69 a (by decide) (by omega) W hT))
  (fun W hT => bfreq_tot D p (a + b) W hT (fun W hT => btw_tot hk hD 69 (a + b) (by decide) (by omega) W hT))
theorem ivs_two_e (x y : Int × Int) : ivsE [x, y] = if ivxE x ≠ 0 then ivxE x else ivxE y := by
 show (if ivxE x ≠ 0 then ivxE x else if ivxE y ≠ 0 then ivxE y else 0) = _
 obtain ⟨u, hu⟩ : ∃ u, u = ivxE x := ⟨_, rfl⟩
 obtain ⟨v, hv⟩ : ∃ v, v = ivxE y := ⟨_, rfl⟩
 rw [← hu, ← hv]
 by_cases h : u = 0 <;> by_cases h' : v = 0 <;> simp [h, h']
theorem err_zero {E x : Int} (h : (if E ≠ 0 then E else x) = 0) : E = 0 ∧ x = 0 := by
 by_cases hE : E = 0
 ·rw [if_neg (fun k => k hE)] at h; exact ⟨hE, h⟩
 ·rw [if_pos hE] at h; exact absurd h hE
theorem tuE_zero {D : Nat → Tm} {p : Int} (h : tuE D p = 0) : ckE D = 0 := (err_zero h).1
theorem lers_any (m d a b a' b' p f0 f1 f2 f3 lo hi : Int) (rp : Bool) (X : Nat → Int × Int) (w : World) (ht : Tab w) (hm : 0 ≤ m ∧ m < 256) (hd : 0 ≤ d ∧ d < 256) (hX : ∀ i, i < 12 → (-128 ≤ (X i).1 ∧ (X i).1 ≤ 127) ∧ (-128 ≤ (X i).2 ∧ (X i).2 ≤ 127))
  (hf : I64 f0 ∧ I64 f1 ∧ I64 f2 ∧ I64 f3) (ha : I64 a) (hb : I64 b) (ha' : I64 a') (hb' : I64 b') :
  Calls Tryz.prog 10 #[.agg (plC m X d).toArray, .agg #[.int .i64 p, .bool rp, .int .i64 f0, .int .i64 f1, .int .i64 f2, .int .i64 f3, .int .i64 lo, .int .i64 hi], .agg #[.int .i64 a, .int .i64 b, .int .i64 a', .int .i64 b']] w fun e w' => e = .returned (.bool true) ∧ Below w.heap.size w w' := by
 obtain ⟨C, hC⟩ : ∃ C, C = cirP (plD m d) (plP m X) (plQ m X) := ⟨_, rfl⟩
 have hCt : ∀ i, i < 12 → Tm64 (C i) := by rw [hC]; exact plan_tm (pl_pln m d X)
 have hM := fun W => lMake_any m d X W hm hd hX
 rw [← hC] at hM
 obtain ⟨D, hD⟩ : ∃ D, D = if rp then (fun i => if i = 0 then (f0, f1, f2, f3) else C i) else C := ⟨_, rfl⟩
 have hDt : ∀ i, i < 12 → Tm64 (D i) := fun i hi => by
  rw [hD]
  cases rp with
  | false => exact hCt i hi
  | true =>
   rw [if_pos rfl]
   by_cases h : i = 0
   ·rw [if_pos h]; exact ⟨⟨hf.1, hf.2.1⟩, hf.2.2.1, hf.2.2.2⟩
   ·rw [if_neg h]; exact hCt i hi
 have hdc : ∀ x y : Int, (if decide (ptB b) = false then x else y) = if ¬ ptB b then x else y := fun x y => by
  by_cases h : ptB b
  ·rw [if_neg (by simp [h]), if_neg (fun k => k h)]
  ·rw [if_pos (decide_eq_false h), if_pos h]
 have hky : (if tuE D p ≠ 0 then tuE D p else if decide (ptB b) = false then 18 else if cmE42 lo hi ≠ 0 then cmE42 lo hi else if 127 < hi + b then 3 else 0) = kyE D p b lo hi := by
  rw [hdc]; rfl
 refine lers_gen m d a b a' b' p f0 f1 f2 f3 lo hi (tuE D p) (ivxE (a, b)) (ivxE (a', b')) (cmE42 lo hi) (ptP b).1 (ptP b).2 rp (decide (ptB b)) X C D w ht hD
  (fun h => by have := of_decide_eq_true h; unfold ptB at this; omega)
  (fun h => by
   unfold cmE42 at h
   split at h
   ·cases h
   ·split at h
    ·cases h
    ·omega)
  hM (fun W => bCheck_any D p W hDt) (fun W => lright_any a b W) (fun W => lright_any a' b' W) (fun W => lpart42 b W) (fun W => bcomp_any lo hi W) (fun W hT => ?_) (fun W hT => ?_) (fun W hT => ?_) (fun W hT => ?_) (fun K hK h0 W => ?_) (fun K hK h0 W => ?_)
 ·by_cases hE : tuE D p = 0
  ·rw [if_neg (fun k => k hE)]
   exact bFrequency_note D p (-1) W hDt hE rfl
  ·rw [if_pos hE]
   exact bFrequency_err D p (-1) W hDt hE
 ·refine bDirection_tot D p a b _ W hT hDt ha hb rfl (fun h => ?_)
  obtain ⟨hE, hr⟩ := err_zero h
  exact fun W hT => dir_tot (tuE_zero hE) hDt p a b hr W hT
 ·refine bBeats_tot D p a b _ W hT hDt ha hb rfl (fun h => ?_) (fun h => ?_)
  ·obtain ⟨hE, hr⟩ := err_zero h
   exact fun W g hT hg => bsizes_tot D p g 1 [(a, b)] W hT hg (by simp) (fun x hx => by rw [List.mem_singleton] at hx; subst hx; exact hr) (fun x y hx hy W hT => btw_tot (tuE_zero hE) hDt x y hx hy W hT)
  ·obtain ⟨hE, hr⟩ := err_zero h
   exact fun W hT => beats_tot (tuE_zero hE) hDt p a b hr W hT
 ·have hc : (if tuE D p ≠ 0 then tuE D p else if ivxE (a, b) ≠ 0 then ivxE (a, b) else ivxE (a', b')) = if tuE D p ≠ 0 then tuE D p else ivsE [(a, b), (a', b')] := by rw [ivs_two_e]
  refine bCompare_tot D p a b a' b' _ W hT hDt ha hb ha' hb' hc (fun h => ?_) (fun h => ?_) (fun h => ?_)
  ·obtain ⟨hE, hr⟩ := err_zero h
   obtain ⟨hr1, hr2⟩ := err_zero hr
   exact fun W g hT hg => bsizes_tot D p g 2 [(a, b), (a', b')] W hT hg (by simp) (fun x hx => by
    simp only [List.mem_cons, List.not_mem_nil, or_false] at hx
    rcases hx with rfl | rfl
    ·exact hr1
    ·exact hr2) (fun x y hx hy W hT => btw_tot (tuE_zero hE) hDt x y hx hy W hT)
  ·obtain ⟨hE, hr⟩ := err_zero h
   exact fun W hT => beats_tot (tuE_zero hE) hDt p a b (err_zero hr).1 W hT
  ·obtain ⟨hE, hr⟩ := err_zero h
   exact fun W hT => beats_tot (tuE_zero hE) hDt p a' b' (err_zero hr).2 W hT
 ·rw [hky] at hK
  subst hK
  exact border_err D p b lo hi W hDt h0
 ·rw [hky] at hK
  subst hK
  exact brising_err D p b lo hi W hDt h0
end Go.Proofs.YtendjepcjmfmfaaGreatDoor
