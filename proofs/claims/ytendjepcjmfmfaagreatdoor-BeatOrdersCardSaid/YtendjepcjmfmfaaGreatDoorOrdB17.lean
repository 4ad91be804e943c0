/- Part 17 of 47 of the proof of the law: contracts of the functions that it reaches, and plain facts. Conditions: those that each contract names. -/
import Derived.Test.YtendjepcjmfmfaaGreatDoorOrdB15
import Derived.Test.YtendjepcjmfmfaaGreatDoorOrdB16
import Derived.Deep.OwnRows
import Derived.Deep.RegionLaw
import Derived.Deep.DeepCutAuto
import Derived.Deep.CutBlock
import Derived.Deep.LoopGhost
namespace Go.Proofs.YtendjepcjmfmfaaGreatDoor
open Go.RowKit
theorem mult_len {q d t k : Nat} (hl : (limbs q).length = k + 1) (ht : t = (limbs q)[k]'(by omega)) (hd : d = 1000000000 / (t + 1)) : 0 < d ∧ d < 1000000000 ∧ t ≠ 0 ∧ (limbs (q * d)).length = k + 1 ∧ t < 1000000000 := by
 have ht9 : t < 1000000000 := by rw [ht]; exact (limbs_small q).get k (by omega)
 have hd0 : 0 < d := by rw [hd]; exact Nat.div_pos (by omega) (by omega)
 have hd1 : d * (t + 1) ≤ 1000000000 := by rw [hd]; exact Nat.div_mul_le_self _ _
 have ht0 : t ≠ 0 := by
  have hq0 : q ≠ 0 := by rintro rfl; rw [limbs_zero] at hl; simp at hl
  have := limbs_last hq0
  simp only [hl, Nat.add_sub_cancel] at this
  rw [ht]; exact this
 refine ⟨hd0, ?_, ht0, ?_, ht9⟩
 ·have h2 : d * 2 ≤ d * (t + 1) := Nat.mul_le_mul_left _ (by omega)
  omega
 have h1 : (limbs (q * d)).length ≤ k + 1 := by
  apply limbs_len_le
  have e := lv_split (limbs q) k (by omega)
  rw [lv_limbs, lv_drop k (by omega), List.drop_of_length_le (by omega), ← ht] at e
  simp only [lv, Nat.mul_zero, Nat.add_zero] at e
  have hlow := lv_lt _ ((limbs_small q).take k)
  rw [List.length_take, Nat.min_eq_left (by omega)] at hlow
  have h2 : q < 1000000000 ^ k * (t + 1) := by rw [Nat.mul_add, Nat.mul_one]; omega
  have h3 : q * d < 1000000000 ^ k * (t + 1) * d := Nat.mul_lt_mul_of_pos_right h2 hd0
  have h4 : 1000000000 ^ k * (t + 1) * d ≤ 1000000000 ^ k * 1000000000 := by
   rw [Nat.mul_assoc, Nat.mul_comm (t + 1)]; exact Nat.mul_le_mul_left _ hd1
  rw [Nat.pow_succ]
  omega
 have h5 : (limbs q).length ≤ (limbs (q * d)).length := limbs_len_mono (Nat.le_mul_of_pos_right _ hd0)
 omega
theorem mult_len2 {p d : Nat} (hd0 : 0 < d) (hd1 : d ≤ 1000000000) : (limbs p).length ≤ (limbs (p * d)).length ∧ (limbs (p * d)).length ≤ (limbs p).length + 1 := by
 refine ⟨limbs_len_mono (Nat.le_mul_of_pos_right _ hd0), limbs_len_le _ _ ?_⟩
 have := limbs_len_lt p
 rw [Nat.pow_succ]
 exact Nat.lt_of_lt_of_le (Nat.mul_lt_mul_of_pos_right this hd0) (Nat.mul_le_mul_left _ hd1)
def DivMem3 (w : World) (gd gu gv d : Nat) (C O2 : List Nat) (w' : World) : Prop :=
 Blk w' gd 145 ([d].map u64v) ∧ Blk w' gu 145 (C.map u64v) ∧ Blk w' gv 145 (O2.map u64v) ∧ Below w.heap.size w w'
theorem DivMem3.below {w w1 w2 : World} {gd gu gv d : Nat} {C O2 : List Nat} (h : DivMem3 w gd gu gv d C O2 w1) (hb : Below w1.heap.size w1 w2) : DivMem3 w gd gu gv d C O2 w2 :=
 ⟨h.1.below hb h.1.lt, h.2.1.below hb h.2.1.lt, h.2.2.1.below hb h.2.2.1.lt, h.2.2.2.trans (hb.mono h.2.2.2.size)⟩
def DivMem (w : World) (gd gu gv gq d : Nat) (C O2 Q : List Nat) (w' : World) : Prop := DivMem3 w gd gu gv d C O2 w' ∧ Blk w' gq 145 (Q.map u64v)
theorem DivMem.below {w w1 w2 : World} {gd gu gv gq d : Nat} {C O2 Q : List Nat} (h : DivMem w gd gu gv gq d C O2 Q w1) (hb : Below w1.heap.size w1 w2) : DivMem w gd gu gv gq d C O2 Q w2 := ⟨h.1.below hb, h.2.below hb h.2.lt⟩
def DivHeld (w : World) (gd gu gv gq d : Nat) (C O2 Q : List Nat) (w' : World) : Prop := w'.cell? ⟨gd, 0, none⟩ = some (.int .u64 (d : Int)) ∧ DivMem w gd gu gv gq d C O2 Q w'
theorem DivHeld.of {w w' : World} {gd gu gv gq d : Nat} {C O2 Q : List Nat} (h : DivMem w gd gu gv gq d C O2 Q w') : DivHeld w gd gu gv gq d C O2 Q w' := ⟨by rw [h.1.1.cell]; rfl, h⟩
theorem DivHeld.mem {w w' : World} {gd gu gv gq d : Nat} {C O2 Q : List Nat} (h : DivHeld w gd gu gv gq d C O2 Q w') : DivMem w gd gu gv gq d C O2 Q w' := h.2
theorem DivHeld.below {w w1 w2 : World} {gd gu gv gq d : Nat} {C O2 Q : List Nat} (h : DivHeld w gd gu gv gq d C O2 Q w1) (hb : Below w1.heap.size w1 w2) : DivHeld w gd gu gv gq d C O2 Q w2 := .of (h.2.below hb)
theorem DivHeld.drew {w w1 : World} {gd gu gv gq d : Nat} {C O2 Q : List Nat} (h : DivHeld w gd gu gv gq d C O2 Q w1) : DivHeld w gd gu gv gq d C O2 Q w1.drew := h.below (bw_drew (Below.refl _ _))
theorem get_lt {L : List Nat} {x v : Nat} (h : L[x]? = some v) : x < L.length := by
 rcases Nat.lt_or_ge x L.length with h1 | h1
 ·exact h1
 ·rw [List.getElem?_eq_none h1] at h; cases h
theorem DivMem.ucell {w w' : World} {gd gu gv gq d z x v : Nat} {U O2 Q : List Nat} (h : DivMem w gd gu gv gq d (U ++ [z]) O2 Q w') (hx : U[x]? = some v) : w'.cell? ⟨gu, x, none⟩ = some (.int .u64 (v : Int)) := by
 rw [h.1.2.1.cell, List.getElem?_map, List.getElem?_append_left (get_lt hx), hx]; rfl
theorem DivMem.vcell {w w' : World} {gd gu gv gq d x v : Nat} {C O2 Q : List Nat} (h : DivMem w gd gu gv gq d C O2 Q w') (hx : O2[x]? = some v) : w'.cell? ⟨gv, x, none⟩ = some (.int .u64 (v : Int)) := by
 rw [h.1.2.2.1.cell, List.getElem?_map, hx]; rfl
theorem limb_zero {O : List Nat} (_hs : Small O) (n : Nat) (hn : n < O.length) (h : (limbs (lv O)).length ≤ n) : O[n] = 0 := by
 have h1 := limbs_len_lt (lv O)
 have h2 : (1000000000 : Nat) ^ (limbs (lv O)).length ≤ 1000000000 ^ n := Nat.pow_le_pow_right (by decide) h
 have h3 := lv_split O n (by omega)
 rw [lv_drop n hn] at h3
 rcases Nat.eq_zero_or_pos O[n] with h0 | h0
 ·exact h0
 ·have h4 : 1000000000 ^ n * 1 ≤ 1000000000 ^ n * (O[n] + 1000000000 * lv (O.drop (n + 1))) := Nat.mul_le_mul_left _ (by omega)
  omega
theorem DivMem3.zero {w w1 : World} {gd gu gv d m : Nat} {C O2 : List Nat} (h : DivMem3 w gd gu gv d C O2 w1) (hm : m < C.length) (h0 : C[m] = 0) (h1 : gd < gu) (h2 : gu < gv) (h3 : w.heap.size ≤ gu) :
  DivMem3 w gd gu gv d C O2 (w1.setCell ⟨gu, m, none⟩ (.int .u64 0)) := by
 refine ⟨h.1.far (p := ⟨gu, m, none⟩) (by show gd ≠ gu; omega) _, ?_, h.2.2.1.far (p := ⟨gu, m, none⟩) (by show gv ≠ gu; omega) _, bw_set h.2.2.2 h3 _⟩
 have := h.2.1.put m (.int .u64 0)
 have e : (C.map u64v).set m (.int .u64 0) = C.map u64v := by
  have e1 : Value.int .u64 0 = u64v C[m] := by rw [h0]; rfl
  rw [e1, ← List.map_set, List.set_getElem_self]
 rwa [e] at this
theorem DivMem.copied {w W W' : World} {gd gu gv gq d : Nat} {C C' O2 Q : List Nat} (h : DivMem w gd gu gv gq d C O2 Q W) (ho : OnlyAt gu W W') (hb : Blk W' gu 145 (C'.map u64v)) (h1 : gd < gu) (h2 : gu < gv) (h3 : gv < gq) (h4 : w.heap.size ≤ gu) :
  DivMem w gd gu gv gq d C' O2 Q W' :=
 ⟨⟨ho.blk (by omega) h.1.1, hb, ho.blk (by omega) h.1.2.2.1, h.1.2.2.2.trans (ho.low h4)⟩, ho.blk (by omega) h.2⟩
theorem DivMem.stored {w W : World} {gd gu gv gq d : Nat} {C O2 Q : List Nat} (h : DivMem w gd gu gv gq d C O2 Q W) (i x : Nat) (h1 : gd < gu) (h2 : gu < gv) (h3 : gv < gq) (h4 : w.heap.size ≤ gu) :
  DivMem w gd gu gv gq d C O2 (Q.set i x) (W.setCell ⟨gq, i, none⟩ (.int .u64 (x : Int))) := by
 refine ⟨⟨h.1.1.far (p := ⟨gq, i, none⟩) (by show gd ≠ gq; omega) _, h.1.2.1.far (p := ⟨gq, i, none⟩) (by show gu ≠ gq; omega) _, h.1.2.2.1.far (p := ⟨gq, i, none⟩) (by show gv ≠ gq; omega) _, bw_set h.1.2.2.2 (by omega) _⟩, ?_⟩
 have := h.2.put i (.int .u64 (x : Int))
 rwa [show Value.int .u64 (x : Int) = u64v x from rfl, ← List.map_set] at this
theorem window_two {U R : List Nat} {z i k : Nat} (hi : i + k < U.length) (hR : R.length ≤ k) :
  splice (splice (U ++ [z]) i (List.replicate (k + 1) 0)) i R = upd U R i k ++ [z] := by
 rw [splice_twice _ _ _ _ (by rw [List.length_replicate]; omega) (by rw [List.length_replicate, List.length_append, List.length_singleton]; omega)]
 unfold splice upd
 rw [List.take_append_of_le_length (by omega), List.drop_replicate]
 simp only [List.append_assoc, List.length_append, List.length_replicate]
 rw [show i + (R.length + (k + 1 - R.length)) = i + k + 1 by omega, List.drop_append_of_le_length (by omega)]
def DivTaken (w : World) (gd gu gv gq d : Nat) (C O2 Q : List Nat) (A7 : Option Addr) (W V : Nat) (s14 s17 : Value) (wx : World) : Prop :=
 ∃ (q1 lx : Nat) (Ax : Option Addr) (cx : Nat), s14 = .int .u64 (q1 : Int) ∧ s17 = .slice Ax lx cx ∧ (q1 = W / V ∧ lx = (limbs (V * (W / V))).length) ∧
  Rd u64v wx wx.heap.size Ax (limbs (V * (W / V))) ∧ lx ≤ cx ∧ Rd u64v wx wx.heap.size A7 (limbs W) ∧ DivMem w gd gu gv gq d C O2 Q wx
set_option maxRecDepth 1000000 in
set_option maxHeartbeats 8000000 in
theorem divide_long (p q : Nat) (A1 A2 : Option Addr) (c1 c2 : Nat) (w : World) (hr1 : Rd u64v w w.heap.size A1 (limbs p)) (hr2 : Rd u64v w w.heap.size A2 (limbs q))
  (hp : (limbs p).length ≤ 100000) (k : Nat) (hq : (limbs q).length = k + 2) (hle : q ≤ p) :
  Calls Tryz.prog 179 #[.slice A1 (limbs p).length c1, .slice A2 (limbs q).length c2] w (RetTwo (p / q) (p % q) w) := by
 have hlen : (limbs q).length ≤ (limbs p).length := limbs_len_mono hle
 have hcm := mcmp_any p q A1 A2 c1 c2 w hr1 hr2 (by omega) (by omega)
 obtain ⟨o, ho⟩ : ∃ o, o = sgnI ((p : Int) - q) := ⟨_, rfl⟩
 have ho0 : 0 ≤ o := by rw [ho]; unfold sgnI; split <;> (try split) <;> omega
 rw [← ho] at hcm
 obtain ⟨t, ht⟩ : ∃ t, t = (limbs q)[k + 1]'(by omega) := ⟨_, rfl⟩
 obtain ⟨d, hd⟩ : ∃ d, d = 1000000000 / (t + 1) := ⟨_, rfl⟩
 obtain ⟨hd0, hd1, ht0, hvl, ht9⟩ := mult_len hq ht hd
 obtain ⟨hul1, hul2⟩ := mult_len2 (p := p) hd0 (Nat.le_of_lt hd1)
 have hdi : (1000000000 : Int) / ((t : Int) + 1) = (d : Int) := by rw [hd]; simp
 obtain ⟨b2, o2, hA2, hb2, q2⟩ := hr2.at_ (by omega)
 subst hA2
 have d2 : w.cell? ⟨b2, o2 + (k + 1), none⟩ = some (.int .u64 (t : Int)) := by rw [q2 (k + 1) (by omega), ht]
 have hti := fun W A c B e h1 h2 => times_blk (limbs p) [d] A B c e W h1 h2 (limbs_small p) (Small.one (by omega)) (by omega) (by simp)
 have htv := fun W A c B e h1 h2 => times_blk (limbs q) [d] A B c e W h1 h2 (limbs_small q) (Small.one (by omega)) (by omega) (by simp)
 rw [lv_one, lv_limbs] at hti htv
 rw [hq] at hcm hlen ⊢
 obtain ⟨m, hm⟩ : ∃ m, m = (limbs p).length := ⟨_, rfl⟩
 rw [← hm] at hp hcm hlen hul1 hul2 hti ⊢
 obtain ⟨l, hl⟩ : ∃ l, l = (limbs (p * d)).length := ⟨_, rfl⟩
 rw [← hl] at hul1 hul2
 simp only [hq] at htv
 have hti2 : ∀ W A c B e, Rd u64v W W.heap.size A (limbs p) → Rd u64v W W.heap.size B [d] → Calls Tryz.prog 90 #[.slice A m c, .slice B 1 e] W fun e W' => ∃ (g : Nat) (O : List Nat), e = .returned (.slice (some ⟨g, 0, none⟩) l (m + 2)) ∧ W.heap.size ≤ g ∧ Blk W' g 145 (O.map u64v) ∧ O.length = m + 2 ∧ Small O ∧ lv O = p * d ∧ Below W.heap.size W W' := fun W A c B e h1 h2 => by
  rw [hl]
  exact hti W A c B e h1 h2
 have htv2 : ∀ W A c B e, Rd u64v W W.heap.size A (limbs q) → Rd u64v W W.heap.size B [d] → Calls Tryz.prog 90 #[.slice A (k + 2) c, .slice B 1 e] W fun e W' => ∃ (g : Nat) (O : List Nat), e = .returned (.slice (some ⟨g, 0, none⟩) (k + 2) (k + 2 + 2)) ∧ W.heap.size ≤ g ∧ Blk W' g 145 (O.map u64v) ∧ O.length = k + 2 + 2 ∧ Small O ∧ lv O = q * d ∧ Below W.heap.size W W' := fun W A c B e h1 h2 => by
  refine (htv W A c B e h1 h2).mono fun e W' ⟨g, O, he, h3⟩ => ⟨g, O, by rw [he, hvl]; rfl, h3⟩
 obtain ⟨i0, hi, hz0, hz1, hz2⟩ := info_parts Tryz.infoU64
 have HHI := Lib.hid hi
 have HZ0 := Lib.hid hz0
 have HZ1 := Lib.hid hz1
 have HZ2 := Lib.hid hz2
 clear hi hz0 hz1 hz2
 have HCM := Lib.hid hcm
 have HTI := Lib.hid hti2
 have HTV := Lib.hid htv2
 have HR1 := Lib.hid hr1
 have HR2 := Lib.hid hr2
 have HDI := Lib.hid hdi
 have HMDL := Lib.hid (And.intro hm (And.intro hl (And.intro hvl hq)))
 clear hcm hti htv hti2 htv2 hr1 hr2 ho q2 hd hdi hm hl ht hvl hq
 go_enter Tryz.func179, Tryz.ntmps179
 go_wp2_with fail
 refine (HCM.out).mono ?_
 rintro e w1 ⟨rfl, hb⟩
 have HB := Lib.hid hb
 have d3 : w1.cell? ⟨b2, o2 + (k + 1), none⟩ = some (.int .u64 (t : Int)) := (hb.cell (p := ⟨b2, o2 + (k + 1), none⟩) hb2).trans d2
 clear hb d2
 go_wp2_with fail
 rw [HDI.out]
 obtain ⟨W2, hW2⟩ : ∃ W2, W2 = w1.alloc (.cells #[.int .u64 (d : Int)] 145) := ⟨_, rfl⟩
 have hb2w : Below w1.heap.size w1 W2 := by rw [hW2]; exact bw_new (Below.refl _ _) _
 have hdb : Blk W2 w1.heap.size 145 ([d].map u64v) := by rw [hW2]; exact heap_alloc_new w1 _
 have hBW := HB.out.trans (hb2w.mono HB.out.size)
 have r1 : Rd u64v W2 W2.heap.size A1 (limbs p) := ((HR1.out.below hBW).more hBW.size)
 have r2 : Rd u64v W2 W2.heap.size (some ⟨b2, o2, none⟩) (limbs q) := ((HR2.out.below hBW).more hBW.size)
 have hgd : w.heap.size ≤ w1.heap.size := HB.out.size
 rw [← hW2]
 obtain ⟨gd, hgd2⟩ : ∃ gd, gd = w1.heap.size := ⟨_, rfl⟩
 rw [← hgd2] at hdb hgd ⊢
 have HBW := Lib.hid hBW
 have HR2' := Lib.hid r2
 have HDB := Lib.hid hdb
 have hc0 := HTI.out W2 A1 c1 (some ⟨gd, 0, none⟩) 1 r1 hdb.rd
 have HC0 := Lib.hid hc0
 clear hW2 hb2w hBW r1 r2 hgd2 hdb d3 hc0
 refine (HC0.out).mono ?_
 rintro e w3 ⟨gu, O, rfl, hgu, hO, hol, hos, hov, hb⟩
 have HB3 := Lib.hid (HBW.out.trans (hb.mono HBW.out.size))
 have HDB3 := Lib.hid (HDB.out.below hb HDB.out.lt)
 have HO := Lib.hid hO
 have HOV := Lib.hid (And.intro hol (And.intro hos hov))
 have hgu2 : w.heap.size ≤ gu := Nat.le_trans HBW.out.size hgu
 have hc1 := HTV.out w3 (some ⟨b2, o2, none⟩) c2 (some ⟨gd, 0, none⟩) 1 ((HR2'.out.below hb).more hb.size) HDB3.out.rd
 have HC1 := Lib.hid hc1
 have hgud : gd < gu := Nat.lt_of_lt_of_le HDB.out.lt hgu
 clear hb hO hol hos hov hgu hc1 HC0
 go_wp2_with fail
 refine (HC1.out).mono ?_
 rintro e w4 ⟨gv, O2, rfl, hgv, hO2, hol2, hos2, hov2, hb⟩
 have hguv : gu < gv := Nat.lt_of_lt_of_le HO.out.lt hgv
 have hM4 : DivMem3 w gd gu gv d O O2 w4 := ⟨HDB3.out.below hb HDB3.out.lt, HO.out.below hb HO.out.lt, hO2, HB3.out.trans (hb.mono HB3.out.size)⟩
 have HM4 := Lib.hid hM4
 have HOV2 := Lib.hid (And.intro hol2 (And.intro hos2 hov2))
 clear hb hO2 hol2 hos2 hov2 hgv hM4 HC1 HDB3 HO HB3 HR2'
 have hl2 : m = l ∨ m + 1 = l := by omega
 go_upto_region 8 with fail
 go_cut [9] (fun s9 wx => s9 = .slice (some ⟨gu, 0, none⟩) (m + 1) (m + 2) ∧ DivMem3 w gd gu gv d O O2 wx)
 case first =>
  -- {
  rcases hl2 with rfl | rfl
  ·have hlO : m < O.length := by rw [HOV.out.1]; omega
   have hz : O[m] = 0 := limb_zero HOV.out.2.1 m hlO (by rw [HOV.out.2.2, ← HMDL.out.2.1]; exact Nat.le_refl _)
   have e1 : (m : Int) + 1 - (m : Int) = 1 := by omega
   have e2 : (Builtin.zeroCells #[Value.int IntKind.u64 0] 1).toList = [Value.int IntKind.u64 0] := by kernel_rfl
   have hfo : w4.frozen? ⟨gu, m, none⟩ = false := HM4.out.2.1.frozen _
   have hco : w4.cell? ⟨gu, m, none⟩ = some (.int .u64 (O[m] : Int)) := by rw [HM4.out.2.1.cell]; simp [hlO]
   have HZ := Lib.hid hz
   clear hz
   go_wp2_with fail
   go_meet
   exact ⟨rfl, HM4.out.zero hlO HZ.out hgud hguv hgu2⟩
  ·have e1 : (((m + 1 : Nat) : Int)) = (m : Int) + 1 := by omega
   have e2 : (m : Int) + 1 - ((m : Int) + 1) = 0 := by omega
   go_wp2_with fail
   go_meet
   exact ⟨rfl, HM4.out⟩
  -- }
 case rest =>
  obtain ⟨rfl, hM5⟩ := hcut
  have HM5 := Lib.hid hM5
  clear hM5
  obtain ⟨n, hn⟩ : ∃ n, n = m - (k + 1) := ⟨_, rfl⟩
  have hn1 : m + 1 ≤ n + k + 2 := by omega
  have hn2 : n + k + 2 ≤ m + 1 := by omega
  have hst : DivInv (O.take (m + 1)) (List.replicate n 0) (q * d) (p * d) (m + 1) (k + 2) n ∧ ∃ z, O = O.take (m + 1) ++ [z] := by
   have hol := HOV.out.1
   have hU : O = O.take (m + 1) ++ [O[m + 1]'(by omega)] := by
    have := List.take_append_drop (m + 1) O
    rw [List.drop_eq_getElem_cons (show m + 1 < O.length by omega), List.drop_of_length_le (by omega)] at this
    exact this.symm
   have hz : O[m + 1]'(by omega) = 0 := limb_zero HOV.out.2.1 (m + 1) (by omega) (by rw [HOV.out.2.2, ← HMDL.out.2.1]; exact hul2)
   have hUv : lv (O.take (m + 1)) = p * d := by
    have e := HOV.out.2.2
    rw [hU, lv_append, lv_one, hz, Nat.mul_zero, Nat.add_zero] at e
    exact e
   have hq0 : q ≠ 0 := by rintro rfl; have := HMDL.out.2.2.2; rw [limbs_zero] at this; simp at this
   have := DivInv.start (M := limbs p) (N := limbs q) (U := O.take (m + 1)) (d := d) (limbs_small p) (HOV.out.2.1.take _) (limbs_len_pos hq0) (limbs_last hq0) hd0 (by rw [List.length_take, ← HMDL.out.1]; omega) (by rw [hUv, lv_limbs]) (by rw [HMDL.out.2.2.2, ← HMDL.out.1]; omega)
   rw [lv_limbs, lv_limbs, ← HMDL.out.1, HMDL.out.2.2.2, show m + 1 - (k + 2) = n by omega] at this
   exact ⟨this, _, hU⟩
  obtain ⟨hst, z0, hz0⟩ := hst
  have HST := Lib.hid hst
  have HZ0' := Lib.hid hz0
  clear hn hst hz0
  go_wp2_with (at_make; refine wpList_make_full _ rfl _ _ 156 rfl w.heap.size 145 i0 (.int .u64 0) 1 Tryz.underlying156 HHI.out HZ0.out HZ1.out .i64 .i64 _ _ n rfl rfl (by omega) (by omega) (by rw [HZ2.out]; omega) (by unfold maxLen; omega) HM5.out.2.2.2.size ?_)
  intro w6 hown hgrow
  have hblk : Blk w6 wc.heap.size 145 ((List.replicate n 0).map u64v) := by
   have := Blk.of_own hown
   rw [toList_madeCells_one] at this
   simpa [u64v] using this
  have hbr : Below wc.heap.size wc w6 := (Below.refl _ _).grown hgrow (Nat.le_refl _) (by simp)
  obtain ⟨gq, hgq⟩ : ∃ gq, gq = wc.heap.size := ⟨_, rfl⟩
  have hgvq : gv < gq := by rw [hgq]; exact HM5.out.2.2.1.lt
  have hM6 : DivMem w gd gu gv gq d (O.take (m + 1) ++ [z0]) O2 (List.replicate n 0) w6 := ⟨by rw [← HZ0'.out]; exact HM5.out.below hbr, by rw [hgq]; exact hblk⟩
  rw [← hgq]
  have HM6 := Lib.hid hM6
  clear hown hgrow hblk hbr hM6 hgq
  go_wp2_with fail
  go_loopg [12] n (fun j iv wr => ∃ (z : Nat) (U Q : List Nat), iv = .int .i64 ((j : Int) - 1) ∧ j ≤ n ∧ Lib.Kept (DivInv U Q (q * d) (p * d) (m + 1) (k + 2) j) ∧ DivMem w gd gu gv gq d (U ++ [z]) O2 Q wr)
  case atStart => exact ⟨z0, _, _, by congr 1; omega, Nat.le_refl _, HST.out, HM6.out⟩
  case round =>
   clear HM5 HM6 HST HZ0' HM4
   obtain ⟨wo, rfl⟩ : ∃ wo : World, wo = wr := ⟨_, rfl⟩
   obtain ⟨j, rfl⟩ : ∃ j : Nat, j = gk := ⟨_, rfl⟩
   obtain ⟨z, U, Q, rfl, hj, hinv, hmem⟩ := hrel
   have HI := Lib.hid hinv
   have HM := Lib.hid hmem
   clear hinv hmem
   by_cases h0 : j = 0
   ·subst h0
    -- {
    have hdone := HI.out.done hd0
    have hUl := HI.out.1
    have hUs := HI.out.2.1
    have hQl := HI.out.2.2.1
    have hQs := HI.out.2.2.2.1
    have hRU : ∀ W, DivMem w gd gu gv gq d (U ++ [z]) O2 Q W → Rd u64v W W.heap.size (some ⟨gu, 0, none⟩) U := fun W h => by
     have := h.1.2.1.rd.take (m + 1)
     rwa [← hUl, List.take_left] at this
    have htr : ∀ W, DivMem w gd gu gv gq d (U ++ [z]) O2 Q W → Calls Tryz.prog 114 #[.slice (some ⟨gu, 0, none⟩) (m + 1) (m + 2)] W fun e w' => e = .returned (.slice (some ⟨gu, 0, none⟩) (limbs (lv U)).length (m + 2)) ∧ W = w' := fun W h =>
     trim_len U (m + 1) hUl (some ⟨gu, 0, none⟩) (m + 2) W.heap.size W (hRU W h) hUs (by omega) (by omega)
    have hle := limbs_len_le_len U hUs
    have hby : ∀ W, DivMem w gd gu gv gq d (U ++ [z]) O2 Q W → Calls Tryz.prog 182 #[.slice (some ⟨gu, 0, none⟩) (limbs (lv U)).length (m + 2), .int .u64 (d : Int)] W (RetBy (p % q) (lv U % d) W) := fun W h => by
     have hr : Rd u64v W W.heap.size (some ⟨gu, 0, none⟩) (limbs (lv U)) := by
      have := (hRU W h).take (limbs (lv U)).length
      rwa [← limbs_eq_take U hUs] at this
     have := mby_any (limbs (lv U)) d (some ⟨gu, 0, none⟩) (m + 2) W hr (limbs_small _) (by omega) hd0 (Nat.le_of_lt hd1)
     rwa [lv_limbs, hdone.2] at this
    have htq : ∀ W, Blk W gq 145 (Q.map u64v) → Calls Tryz.prog 114 #[.slice (some ⟨gq, 0, none⟩) n n] W fun e w' => e = .returned (.slice (some ⟨gq, 0, none⟩) (limbs (p / q)).length n) ∧ W = w' := fun W h => by
     have := trim_len Q n (by omega) (some ⟨gq, 0, none⟩) n W.heap.size W h.rd hQs (Nat.le_refl _) (by omega)
     rwa [hdone.1] at this
    have hqle : (limbs (p / q)).length ≤ n := by rw [← hdone.1]; have := limbs_len_le_len Q hQs; omega
    have hqrd : ∀ W, Blk W gq 145 (Q.map u64v) → Rd u64v W W.heap.size (some ⟨gq, 0, none⟩) (limbs (p / q)) := fun W h => by
     have := h.rd.take (limbs (lv Q)).length
     rwa [← limbs_eq_take Q hQs, hdone.1] at this
    obtain ⟨lu, hlu⟩ : ∃ lu, lu = (limbs (lv U)).length := ⟨_, rfl⟩
    rw [← hlu] at htr hby
    have HTR := Lib.hid htr
    have HBY := Lib.hid hby
    have HTQ := Lib.hid htq
    have HQLE := Lib.hid hqle
    have HQRD := Lib.hid hqrd
    have hT : DivHeld w gd gu gv gq d (U ++ [z]) O2 Q wo := DivHeld.of HM.out
    clear htr hby htq hqle hqrd hdone hUl hUs hQl hQs hRU hle hlu HI HM
    go_wp2_with fail
    go_region_held3 (fun w' => w'.cell? ⟨gd, 0, none⟩ = some (.int .u64 d) ∧ DivMem w gd gu gv gq d (U ++ [z]) O2 Q w') (first | assumption | exact DivHeld.drew hT | exact DivHeld.below (by assumption) hbel)
     (first
      | (go_at_call 114; refine (HTR.out _ (DivHeld.mem (by assumption))).mono ?_; rintro e w' ⟨rfl, rfl⟩)
      | (go_at_call 182; refine (HBY.out _ (DivHeld.mem (by assumption))).mono ?_; rintro e w' ⟨Ar, cr, rfl, hrr, hcr, hbel⟩))
    have hf : DivHeld w gd gu gv gq d (U ++ [z]) O2 Q w' := by assumption
    have HF := Lib.hid hf.mem
    have HRR := Lib.hid hrr
    have HCR := Lib.hid hcr
    clear hf hrr hcr hT
    rename_i hH1
    clear hH1 hbel
    go_wp2_with fail
    refine (HTQ.out _ HF.out.2).mono ?_
    rintro e w'' ⟨rfl, rfl⟩
    go_wp2
    go_ret2
    exact ⟨some ⟨gq, 0, none⟩, n, Ar, cr, rfl, HQRD.out _ HF.out.2, HQLE.out, HRR.out, HCR.out, HF.out.1.2.2.2⟩
    -- }
   ·obtain ⟨i, rfl⟩ : ∃ i, j = i + 1 := ⟨j - 1, by omega⟩
    have hii : ((i + 1 : Nat) : Int) - 1 = (i : Int) := by omega
    rw [hii]
    clear hii h0
    obtain ⟨u1, u2, u3, ul, v1, v2, vl, W, a1, a2, a3, c1', c2', hW, eW, eV, b1, b2', b3, d1, d2, hul, hvll, hv0, huv, hq9, hV0, hVk⟩ := HI.out.round (by omega) (by rw [HOV2.out.1]) HOV2.out.2.1 HOV2.out.2.2 HMDL.out.2.2.1
    have HU1 := Lib.hid (fun W' (h : DivMem w gd gu gv gq d (U ++ [z]) O2 Q W') => h.ucell a1)
    have HU2 := Lib.hid (fun W' (h : DivMem w gd gu gv gq d (U ++ [z]) O2 Q W') => h.ucell a2)
    have HU3 := Lib.hid (fun W' (h : DivMem w gd gu gv gq d (U ++ [z]) O2 Q W') => h.ucell a3)
    have HV1 := Lib.hid (fun W' (h : DivMem w gd gu gv gq d (U ++ [z]) O2 Q W') => h.vcell c1')
    have HV2 := Lib.hid (fun W' (h : DivMem w gd gu gv gq d (U ++ [z]) O2 Q W') => h.vcell c2')
    have hgs := GuessInv.start eW eV b3 hul hv0
    have HGS := Lib.hid hgs
    have HWV := Lib.hid (And.intro hW (And.intro eW (And.intro eV (And.intro hul (And.intro hvll (And.intro hq9 (And.intro hV0 hVk)))))))
    have huv2 : u1 * 1000000000 + u2 ≤ v1 * 1000000000 + 999999999 := by omega
    clear a1 a2 a3 c1' c2' hW eW eV hul hvll hq9 hV0 hVk hgs
    have q1 : IntKind.i64.wrap ((i : Int) + ((k : Int) + 2)) = (i : Int) + ((k : Int) + 2) := by rw [IntWalk.i64_in _ (by omega)]
    have q2 : IntKind.i64.wrap ((i : Int) + ((k : Int) + 2) - 1) = (i : Int) + ((k : Int) + 2) - 1 := by rw [IntWalk.i64_in _ (by omega)]
    have q3 : IntKind.i64.wrap ((i : Int) + ((k : Int) + 2) - 2) = (i : Int) + ((k : Int) + 2) - 2 := by rw [IntWalk.i64_in _ (by omega)]
    have q4 : IntKind.i64.wrap ((k : Int) + 2 - 1) = (k : Int) + 1 := by rw [IntWalk.i64_in _ (by omega)]; omega
    have q5 : IntKind.i64.wrap ((k : Int) + 2 - 2) = (k : Int) := by rw [IntWalk.i64_in _ (by omega)]; omega
    have q6 : IntKind.u64.wrap ((u1 : Int) * 1000000000) = (u1 : Int) * 1000000000 := by rw [IntKind.wrap_u64]; omega
    have q7 : IntKind.u64.wrap ((u1 : Int) * 1000000000 + (u2 : Int)) = (u1 : Int) * 1000000000 + (u2 : Int) := by rw [IntKind.wrap_u64]; omega
    have t1 : ((i : Int) + ((k : Int) + 2)).toNat = i + (k + 2) := by omega
    have t2 : ((i : Int) + ((k : Int) + 2) - 1).toNat = i + (k + 1) := by omega
    have t3 : ((i : Int) + ((k : Int) + 2) - 2).toNat = i + k := by omega
    have t4 : ((k : Int) + 1).toNat = k + 1 := by omega
    have HT := Lib.hid (And.intro t1 (And.intro t2 (And.intro t3 t4)))
    clear t1 t2 t3 t4
    have HQ1 := Lib.hid (And.intro q1 (And.intro q2 (And.intro q6 q7)))
    have HQ2 := Lib.hid (And.intro q1 (And.intro q3 q5))
    have HQ4 := Lib.hid q4
    clear q1 q2 q3 q4 q5 q6 q7
    have J1 : (i : Int) + ((k : Int) + 2) < (m : Int) + 1 := by omega
    have J2 : (i : Int) + ((k : Int) + 2) - 1 < (m : Int) + 1 := by omega
    have J3 : (0 : Int) ≤ (i : Int) + ((k : Int) + 2) - 1 := by omega
    have J4 : (1 : Int) ≤ (i : Int) + ((k : Int) + 2) := by omega
    have J5 : (i : Int) + ((k : Int) + 2) ≤ (m : Int) + 1 := by omega
    have J6 : (k : Int) + 2 - 1 < (k : Int) + 2 := by omega
    have J7 : (0 : Int) ≤ (k : Int) + 2 - 1 := by omega
    have J8 : (1 : Int) ≤ (k : Int) + 2 := by omega
    have J9 : (0 : Int) ≤ (i : Int) + ((k : Int) + 2) := by omega
    have J10 : (k : Int) + 1 < (k : Int) + 2 := by omega
    have J11 : (0 : Int) ≤ (k : Int) + 1 := by omega
    have f1 := HU1.out wo HM.out
    have f2 := HU2.out wo HM.out
    have f3 := HV1.out wo HM.out
    have hMd : ∀ n, DivMem w gd gu gv gq d (U ++ [z]) O2 Q (wo.drewN n) := fun n => HM.out.below (below_drewN _ _ _)
    have HMD := Lib.hid hMd
    clear hMd
    go_wp2_with fail
    obtain ⟨q1, q2, q6, q7⟩ := HQ1.out
    obtain ⟨t1, t2, t3, t4⟩ := HT.out
    go_quiet (fail)
    clear q1 q2 q6 q7
    go_wp2_with fail
    have q4 := HQ4.out
    go_quiet (fail)
    clear f1 f2 f3 q4 t1 t2 t3 t4
    have K1 : (i : Int) + ((k : Int) + 2) - 2 < (m : Int) + 1 := by omega
    have K2 : (0 : Int) ≤ (i : Int) + ((k : Int) + 2) - 2 := by omega
    have K3 : (2 : Int) ≤ (i : Int) + ((k : Int) + 2) := by omega
    have K4 : (k : Int) < (k : Int) + 2 := by omega
    have hg0 : (u1 * 1000000000 + u2) / v1 < 2000000000 := Nat.div_lt_of_lt_mul (by omega)
    have hr0 : (u1 * 1000000000 + u2) % v1 < 1000000000 := Nat.lt_trans (Nat.mod_lt _ hv0) d1
    have HGR := Lib.hid (And.intro hg0 hr0)
    clear hg0 hr0
    have HNB := Lib.hid (And.intro b1 (And.intro b2' (And.intro b3 (And.intro d1 (And.intro d2 (And.intro hv0 huv2))))))
    clear b1 b2' b3 d1 d2 hv0 huv huv2
    go_upto_block 3 with (fail)
    go_cut [14] (fun s14 wx => ∃ (g n' : Nat), s14 = .int .u64 (g : Int) ∧ g < 1000000000 ∧ Lib.Kept (W / (q * d) ≤ g ∧ g ≤ W / (q * d) + 1) ∧ wx = wo.drewN n')
    case first =>
     -- {
     go_wp2_with fail
     go_loopg [14, 15] ((u1 * 1000000000 + u2) / v1) (fun g gv' rv wr => ∃ (r n' : Nat), gv' = .int .u64 (g : Int) ∧ rv = .int .u64 (r : Int) ∧ g < 2000000000 ∧ r < 1000000000 ∧ Lib.Kept (GuessInv W (q * d) (u1 * 1000000000 + u2) v1 g r) ∧ wr = wo.drewN n')
     case atStart => exact ⟨(u1 * 1000000000 + u2) % v1, _, by simp, by simp, HGR.out.1, HGR.out.2, HGS.out, by rw [World.drewN_drewN]⟩
     case round =>
      obtain ⟨g, rfl⟩ : ∃ g : Nat, g = gk := ⟨_, rfl⟩
      obtain ⟨r, n', rfl, rfl, hg, hr, hgi, rfl⟩ := hrel
      have HGI := Lib.hid hgi
      clear hgi
      obtain ⟨Wq, hWq⟩ : ∃ Wq, Wq = wo.drewN n' := ⟨_, rfl⟩
      have e1 := HV1.out _ (HMD.out n')
      have e2 := HV2.out _ (HMD.out n')
      have e3 := HU3.out _ (HMD.out n')
      rw [← hWq] at e1 e2 e3 ⊢
      have HWQ := Lib.hid hWq
      have i1 : (g : Int) < 2000000000 := by omega
      have i2 : (r : Int) < 1000000000 := by omega
      have i3 : (v1 : Int) < 1000000000 := by have := HNB.out.2.2.2.1; omega
      have i4 : (v2 : Int) < 1000000000 := by have := HNB.out.2.2.2.2.1; omega
      have i5 : (u3 : Int) < 1000000000 := by have := HNB.out.2.2.1; omega
      have HG := Lib.hid (And.intro hg hr)
      clear hWq hg hr
      by_cases hgB : 1000000000 ≤ g
      ·have hgI : (1000000000 : Int) ≤ (g : Int) := by omega
       have hst := HGI.out.great HWV.out.2.2.2.2.2.1 hgB
       have HST2 := Lib.hid hst
       have HGP := Lib.hid (show 1 ≤ g by omega)
       clear hgB hst
       go_wp2_with fail
       go_quiet (fail)
       by_cases hrB : 1000000000 ≤ r + v1
       ·have hrI : decide ((1000000000 : Int) ≤ (r : Int) + (v1 : Int)) = true := decide_eq_true (by omega)
        have HRB := Lib.hid hrB
        clear hrB
        go_upto_region 19 with fail
        clear i1 i2 i3 i4 i5 hgI J1 J2 J3 J4 J5 J6 J7 J8 J9 K1 K2 K3 K4
        go_wp2_with fail
        go_meet
        have hbk := HST2.out.brk (u3 := u3) HNB.out.2.2.2.2.2.2 HRB.out HNB.out.2.2.2.2.1
        have hdn := HST2.out.done HWV.out.2.1 HWV.out.2.2.1 HWV.out.2.2.2.2.1 HNB.out.2.2.2.2.2.1 hbk.1 hbk.2
        have hg1 := HGP.out
        exact ⟨g - 1, n' + nq, by congr 1; omega, hbk.1, hdn, by rw [HWQ.out, World.drewN_drewN]⟩
       ·have hrI : decide ((1000000000 : Int) ≤ (r : Int) + (v1 : Int)) = false := decide_eq_false (by omega)
        have HRB := Lib.hid hrB
        clear hrB
        go_upto_region 19 with fail
        clear i1 i2 i3 i4 i5 hgI J1 J2 J3 J4 J5 J6 J7 J8 J9 K1 K2 K3 K4
        go_wp2_with fail
        go_roundg (g - 1)
        case measure => have := HGP.out; omega
        case rel =>
         have hg1 := HGP.out
         have hg2 := HG.out.1
         have hr2 := HRB.out
         exact ⟨r + v1, n' + nq, by congr 1; omega, by first | go_num | (congr 1; omega), by omega, by omega, HST2.out, by rw [HWQ.out, World.drewN_drewN]⟩
      ·have hgD : decide ((1000000000 : Int) ≤ (g : Int)) = false := decide_eq_false (by omega)
       obtain ⟨gp, hgp⟩ : ∃ gp, gp = g * v2 := ⟨_, rfl⟩
       have hgpb : gp ≤ 999999999 * 999999999 := by rw [hgp]; exact Nat.mul_le_mul (by omega) (by omega)
       have q8 : IntKind.u64.wrap ((g : Int) * (v2 : Int)) = (gp : Int) := by rw [show (g : Int) * (v2 : Int) = (gp : Int) by rw [hgp]; simp, IntKind.wrap_u64]; omega
       have q9 : IntKind.u64.wrap ((r : Int) * 1000000000) = (r : Int) * 1000000000 := by rw [IntKind.wrap_u64]; omega
       have q10 : IntKind.u64.wrap ((r : Int) * 1000000000 + (u3 : Int)) = (r : Int) * 1000000000 + (u3 : Int) := by rw [IntKind.wrap_u64]; omega
       have HQ8 := Lib.hid (And.intro q8 (And.intro q9 q10))
       have HGP2 := Lib.hid hgp
       have HGB := Lib.hid hgB
       clear q8 q9 q10 hgB
       by_cases hgt : r * 1000000000 + u3 < g * v2
       ·have hgtD : decide ((r : Int) * 1000000000 + (u3 : Int) < (gp : Int)) = true := decide_eq_true (by omega)
        have hst := HGI.out.down HWV.out.2.1 HWV.out.2.2.1 HWV.out.2.2.2.1 hgt
        have HST2 := Lib.hid hst
        have HGP := Lib.hid (show 1 ≤ g by rcases Nat.eq_zero_or_pos g with h | h; · subst h; omega
                                           ·exact h)
        have i6 : (1 : Int) ≤ (g : Int) := by have := HGP.out; omega
        clear hgt hst hgp hgpb
        go_wp2_with fail
        obtain ⟨q8, q9, q10⟩ := HQ8.out
        obtain ⟨q1, q3, q5⟩ := HQ2.out
        obtain ⟨t1, t2, t3, t4⟩ := HT.out
        go_quiet (fail)
        clear q8 q9 q10 q1 q3 q5 t1 t2 t3 t4
        by_cases hrB : 1000000000 ≤ r + v1
        ·have hrI : decide ((1000000000 : Int) ≤ (r : Int) + (v1 : Int)) = true := decide_eq_true (by omega)
         have HRB := Lib.hid hrB
         clear hrB
         go_upto_region 19 with fail
         clear i1 i2 i3 i4 i5 i6 hgD hgtD J1 J2 J3 J4 J5 J6 J7 J8 J9 K1 K2 K3 K4
         go_wp2_with fail
         go_meet
         have hbk := HST2.out.brk (u3 := u3) HNB.out.2.2.2.2.2.2 HRB.out HNB.out.2.2.2.2.1
         have hdn := HST2.out.done HWV.out.2.1 HWV.out.2.2.1 HWV.out.2.2.2.2.1 HNB.out.2.2.2.2.2.1 hbk.1 hbk.2
         have hg1 := HGP.out
         exact ⟨g - 1, n' + nq, by congr 1; omega, hbk.1, hdn, by rw [HWQ.out, World.drewN_drewN]⟩
        ·have hrI : decide ((1000000000 : Int) ≤ (r : Int) + (v1 : Int)) = false := decide_eq_false (by omega)
         have HRB := Lib.hid hrB
         clear hrB
         go_upto_region 19 with fail
         clear i1 i2 i3 i4 i5 i6 hgD hgtD J1 J2 J3 J4 J5 J6 J7 J8 J9 K1 K2 K3 K4
         go_wp2_with fail
         go_roundg (g - 1)
         case measure => have := HGP.out; omega
         case rel =>
          have hg1 := HGP.out
          have hg2 := HG.out.1
          have hr2 := HRB.out
          exact ⟨r + v1, n' + nq, by congr 1; omega, by first | go_num | (congr 1; omega), by omega, by omega, HST2.out, by rw [HWQ.out, World.drewN_drewN]⟩
       ·have hgtD : decide ((r : Int) * 1000000000 + (u3 : Int) < (gp : Int)) = false := decide_eq_false (by omega)
        have HNG := Lib.hid hgt
        clear hgt hgp hgpb
        go_wp2_with fail
        obtain ⟨q8, q9, q10⟩ := HQ8.out
        obtain ⟨q1, q3, q5⟩ := HQ2.out
        obtain ⟨t1, t2, t3, t4⟩ := HT.out
        go_quiet (fail)
        clear q8 q9 q10 q1 q3 q5 t1 t2 t3 t4 i1 i2 i3 i4 i5 hgD hgtD J1 J2 J3 J4 J5 J6 J7 J8 J9 K1 K2 K3 K4
        go_wp2_with fail
        go_meet
        have hdn := HGI.out.done HWV.out.2.1 HWV.out.2.2.1 HWV.out.2.2.2.2.1 HNB.out.2.2.2.2.2.1 (Nat.lt_of_not_le HGB.out) (Nat.le_of_not_lt HNG.out)
        exact ⟨g, n' + nq, rfl, Nat.lt_of_not_le HGB.out, hdn, by rw [HWQ.out, World.drewN_drewN]⟩
     -- }
    case rest =>
     obtain ⟨g, n', rfl, hg9, hgk, rfl⟩ := hcut
     have HGK := Lib.hid hgk
     clear hgk
     obtain ⟨P, hP⟩ : ∃ P, P = (U.drop i).take (k + 2 + 1) := ⟨_, rfl⟩
     have hwin := HI.out.window HWV.out.2.2.2.2.2.2.2 (by omega)
     have hPl : P.length = i + (k + 2) + 1 - i := by rw [hP, List.length_take, List.length_drop, HI.out.1]; omega
     have hPv : lv P = W := by rw [hP, hwin.2.2, HWV.out.1]
     have hPs : Small P := by rw [hP]; exact Small.take (fun x hx => HI.out.2.1 x (List.mem_of_mem_drop hx)) _
     have hMn := HMD.out n'
     obtain ⟨Wd, hWd⟩ : ∃ Wd, Wd = wo.drewN n' := ⟨_, rfl⟩
     rw [← hWd] at hMn ⊢
     have hcl := clone_any P gu i (m + 2 - i) Wd (by omega) (by omega) hMn.1.2.1.lt (fun x hx => by
      refine hMn.ucell ?_
      have h2 : P[x]? = U[i + x]? := by rw [hP, List.getElem?_take, if_pos (by omega), List.getElem?_drop]
      rw [← h2]
      exact List.getElem?_eq_getElem hx)
     rw [hPl] at hcl
     have HCL := Lib.hid hcl
     have HMN := Lib.hid hMn
     have HPP := Lib.hid (And.intro hPl (And.intro hPv hPs))
     have HWLEN := Lib.hid (show (limbs W).length ≤ k + 3 by have := limbs_len_le_len P hPs; rw [hPv] at this; omega)
     have hgi : (g : Int) < 1000000000 := by omega
     have HG9 := Lib.hid hg9
     clear hg9 hP hwin hPl hPv hPs hMn hWd hcl
     go_wp2_with fail
     refine (HCL.out).mono ?_
     rintro e w7 ⟨A7, c7, rfl, hrd, hcp, hb⟩
     have HM7 := Lib.hid (HMN.out.below hb)
     have htr := trim_len P _ HPP.out.1 A7 c7 w7.heap.size w7 hrd HPP.out.2.2 hcp (by omega)
     rw [HPP.out.2.1] at htr
     have hrw : Rd u64v w7 w7.heap.size A7 (limbs W) := by
      have := limbs_eq_take P HPP.out.2.2
      rw [HPP.out.2.1] at this
      rw [this]; exact hrd.take _
     have HTR := Lib.hid htr
     have HRW := Lib.hid hrw
     clear hb hrd hcp htr hrw HCL HMN HPP
     go_wp2_with fail
     refine (HTR.out).mono ?_
     rintro e w8 ⟨rfl, rfl⟩
     go_wp2_with fail
     obtain ⟨W8, hW8⟩ : ∃ W8, W8 = w7.alloc (.cells #[.int .u64 (g : Int)] 145) := ⟨_, rfl⟩
     have hb8 : Below w7.heap.size w7 W8 := by rw [hW8]; exact bw_new (Below.refl _ _) _
     have hgb : Rd u64v W8 W8.heap.size (some ⟨w7.heap.size, 0, none⟩) [g] := by rw [hW8]; exact Blk.rd (t := 145) (heap_alloc_new w7 _)
     rw [← hW8]
     have htg := trim_len [g] 1 rfl (some ⟨w7.heap.size, 0, none⟩) 1 W8.heap.size W8 hgb (Small.one HG9.out) (Nat.le_refl _) (by omega)
     rw [lv_one] at htg
     have hgl : Rd u64v W8 W8.heap.size (some ⟨w7.heap.size, 0, none⟩) (limbs g) := by
      have := limbs_eq_take [g] (Small.one HG9.out)
      rw [lv_one] at this
      rw [this]; exact hgb.take _
     have hgll : (limbs g).length ≤ 1 := limbs_len_le _ _ (by have := HG9.out; omega)
     have HM8 := Lib.hid (HM7.out.below hb8)
     have HRW8 := Lib.hid ((HRW.out.below hb8).more hb8.size)
     have HTG := Lib.hid htg
     have HGL := Lib.hid (And.intro hgl hgll)
     clear hW8 hb8 hgb htg hgl hgll HM7 HRW HTR
     refine (HTG.out).mono ?_
     rintro e w9 ⟨rfl, rfl⟩
     have hvr : Rd u64v W8 W8.heap.size (some ⟨gv, 0, none⟩) (limbs (q * d)) := by
      have h1 := limbs_eq_take O2 HOV2.out.2.1
      rw [HOV2.out.2.2, HMDL.out.2.2.1] at h1
      rw [h1]; exact HM8.out.1.2.2.1.rd.take _
     have htm := times_any (limbs (q * d)) (limbs g) (some ⟨gv, 0, none⟩) (some ⟨w7.heap.size, 0, none⟩) (k + 2 + 2) 1 W8 hvr HGL.out.1 (limbs_small _) (limbs_small _) (by rw [HMDL.out.2.2.1]; omega) (Nat.le_trans HGL.out.2 (by omega))
     rw [lv_limbs, lv_limbs, HMDL.out.2.2.1] at htm
     have HTM := Lib.hid htm
     clear hvr htm HTG
     go_wp2_with fail
     refine (HTM.out).mono ?_
     rintro e w10 ⟨Ap, cp, rfl, hrp, hcp, hb⟩
     have HM10 := Lib.hid (HM8.out.below hb)
     have HRW10 := Lib.hid ((HRW8.out.below hb).more hb.size)
     have HRP := Lib.hid (And.intro hrp hcp)
     clear hb hrp hcp HM8 HRW8 HTM HGL
     have hWl : (limbs W).length ≤ k + 3 := HWLEN.out
     have hGl : (limbs (q * d * g)).length ≤ k + 3 := by
      apply limbs_len_le
      have h9 := HG9.out
      have hV := HWV.out.2.2.2.2.2.2.2
      calc q * d * g ≤ q * d * 1000000000 := Nat.mul_le_mul_left _ (Nat.le_of_lt h9)
       _ < 1000000000 ^ (k + 2) * 1000000000 := Nat.mul_lt_mul_of_pos_right hV (by decide)
       _ = 1000000000 ^ (k + 3) := (Nat.pow_succ _ _).symm
     have hcm := mcmp_any W (q * d * g) A7 Ap c7 cp w10 HRW10.out HRP.out.1 (by omega) (by omega)
     have hvr : ∀ X, DivMem w gd gu gv gq d (U ++ [z]) O2 Q X → Rd u64v X X.heap.size (some ⟨gv, 0, none⟩) (limbs (q * d)) := fun X hX => by
      have h1 := limbs_eq_take O2 HOV2.out.2.1
      rw [HOV2.out.2.2, HMDL.out.2.2.1] at h1
      rw [h1]; exact hX.1.2.2.1.rd.take _
     have hls := fun X (hX : DivMem w gd gu gv gq d (U ++ [z]) O2 Q X) (hr : Rd u64v X X.heap.size Ap (limbs (q * d * g))) (hle : q * d ≤ q * d * g) => mless_any (limbs (q * d * g)) (limbs (q * d)) Ap (some ⟨gv, 0, none⟩) cp (k + 2 + 2) X hr (hvr X hX) (limbs_small _) (limbs_small _) (by omega) (by rw [lv_limbs, lv_limbs]; exact hle) (limbs_len_mono hle)
     simp only [lv_limbs, HMDL.out.2.2.1] at hls
     obtain ⟨o2, ho2⟩ : ∃ o2, o2 = sgnI ((W : Int) - ((q * d * g : Nat) : Int)) := ⟨_, rfl⟩
     have ho3 : (W < q * d * g → o2 < 0) ∧ (q * d * g ≤ W → 0 ≤ o2) := by
      rw [ho2]; unfold sgnI
      constructor
      ·intro h; split
       ·omega
       ·split
        ·omega
        ·omega
      ·intro h; split
       ·omega
       ·split
        ·omega
        ·omega
     rw [← ho2] at hcm
     have HO3 := Lib.hid ho3
     have HLS := Lib.hid hls
     have HWLN := Lib.hid hWl
     have HCP := Lib.hid hGl
     obtain ⟨lp, hlp⟩ : ∃ lp, lp = (limbs (q * d * g)).length := ⟨_, rfl⟩
     obtain ⟨lw, hlw⟩ : ∃ lw, lw = (limbs W).length := ⟨_, rfl⟩
     rw [← hlp, ← hlw] at hcm
     rw [← hlp] at HLS
     have HLP := Lib.hid hlp
     have HLW := Lib.hid hlw
     have HCMP := Lib.hid hcm
     clear hcm hvr hls ho2 ho3 hWl hGl
     rw [← hlp, ← hlw]
     clear hlp hlw
     go_wp2_with fail
     refine (HCMP.out).mono ?_
     rintro e w11 ⟨rfl, hb⟩
     have HM11 := Lib.hid (HM10.out.below hb)
     have HRW11 := Lib.hid ((HRW10.out.below hb).more hb.size)
     have HRP11 := Lib.hid ((HRP.out.1.below hb).more hb.size)
     clear hb HM10 HRW10 HCMP
     go_upto_if 160 with fail
     go_cut [14, 17] (fun s14 s17 wx => DivTaken w gd gu gv gq d (U ++ [z]) O2 Q A7 W (q * d) s14 s17 wx)
     case first =>
      -- {
      clear J1 J2 J3 J4 J5 J6 J7 J8 J9 K1 K2 K3 K4
      by_cases hc : q * d * g ≤ W
      ·have hod : decide (o2 < 0) = false := decide_eq_false (by have := HO3.out.2 hc; omega)
       have hgq : g = W / (q * d) := by
        have h1 := HGK.out.1
        have h2 : g ≤ W / (q * d) := (Nat.le_div_iff_mul_le HWV.out.2.2.2.2.2.2.1).2 (by rw [Nat.mul_comm]; exact hc)
        omega
       have HGQ := Lib.hid hgq
       clear hc hgq
       rw [hod]
       go_wp2_with fail
       go_meet
       exact ⟨g, lp, Ap, cp, rfl, rfl, ⟨HGQ.out, by rw [HLP.out, ← HGQ.out]⟩, by rw [← HGQ.out]; exact HRP11.out, by rw [HLP.out]; exact HRP.out.2, HRW11.out, HM11.out⟩
      ·have hod : decide (o2 < 0) = true := decide_eq_true (HO3.out.1 (by omega))
       have hgq : g = W / (q * d) + 1 := by
        obtain ⟨h1, h1'⟩ := HGK.out
        have h2 : ¬ g ≤ W / (q * d) := fun h => hc (by
         have := (Nat.le_div_iff_mul_le HWV.out.2.2.2.2.2.2.1).1 h
         rwa [Nat.mul_comm] at this)
        omega
       have hgi1 : (1 : Int) ≤ (g : Int) := Int.ofNat_le.2 (show 1 ≤ g by rw [hgq]; exact Nat.le_add_left _ _)
       have hls := HLS.out w11 HM11.out HRP11.out (Nat.le_mul_of_pos_right _ (by omega))
       have hsub : q * d * g - q * d = q * d * (W / (q * d)) := by rw [hgq, Nat.mul_add, Nat.mul_one, Nat.add_sub_cancel]
       rw [hsub] at hls
       have HGQ := Lib.hid hgq
       have HLS2 := Lib.hid hls
       clear hc hgq hls hsub
       rw [hod]
       go_wp2_with fail
       refine (HLS2.out).mono ?_
       rintro e w12 ⟨Al, cl, rfl, hrl, hcl2, hb⟩
       have HM12 := Lib.hid (HM11.out.below hb)
       have HRW12 := Lib.hid ((HRW11.out.below hb).more hb.size)
       have HRL := Lib.hid (And.intro hrl hcl2)
       clear hb hrl hcl2
       go_wp2_with fail
       go_meet
       have hgq := HGQ.out
       exact ⟨g - 1, _, Al, cl, by congr 1; omega, rfl, ⟨by omega, rfl⟩, HRL.out.1, HRL.out.2, HRW12.out, HM12.out⟩
      -- }
     case rest =>
      obtain ⟨q1, lx, Ax, cx, rfl, rfl, hkq, hrx, hcx, hrw, hmx⟩ := hcut
      have HKQ := Lib.hid hkq
      have hwv : W - q * d * (W / (q * d)) = W % (q * d) := by have := Nat.div_add_mod W (q * d); omega
      have hwl : q * d * (W / (q * d)) ≤ W := Nat.mul_div_le W (q * d)
      have hml := mless_new (limbs W) (limbs (q * d * (W / (q * d)))) A7 Ax c7 cx wc hrw hrx (limbs_small _) (limbs_small _) (by have := HWLN.out; omega) (by rw [lv_limbs, lv_limbs]; exact hwl) (limbs_len_mono hwl)
      rw [lv_limbs, lv_limbs, hwv, ← HKQ.out.2, ← HLW.out] at hml
      have HML := Lib.hid hml
      have HMX := Lib.hid hmx
      have HRXW := Lib.hid hrx
      clear hwv hwl hml hrx hcx hrw hmx HRW11 HRP11 HM11 hkq HRXW
      go_wp2_with fail
      refine (HML.out).mono ?_
      rintro e w12 ⟨Al, cl, rfl, hrl, hcl2, hb, hal⟩
      have HM12 := Lib.hid (HMX.out.below hb)
      have HRL := Lib.hid (And.intro hrl hcl2)
      have HAL := Lib.hid (show ∀ ad, Al = some ad → gu < ad.block from fun ad h => Nat.lt_of_lt_of_le HMX.out.1.2.1.lt (hal ad h))
      clear hb hrl hcl2 HML HMX hal
      go_wp2_with fail
      have hmk : ∀ X, (Instr.makeSlice 156 (.int .i64 ((k : Int) + 2 + 1)) (.int .i64 ((k : Int) + 2 + 1))).run Tryz.prog X = .ok (.slice (some ⟨X.heap.size, 0, none⟩) (k + 2 + 1) (k + 2 + 1)) (X.alloc (.cells (madeCells #[.int .u64 0] (k + 2 + 1)) 145)) := fun X => by
       have := run_make_row' (P := Tryz.prog) 156 145 (.int .u64 0) 8 Tryz.underlying156 Tryz.infoU64 rfl .i64 .i64 (k + 2 + 1) (by omega) (by omega) X
       rwa [show ((k + 2 + 1 : Nat) : Int) = (k : Int) + 2 + 1 by omega] at this
      have L1 : (0 : Int) ≤ (i : Int) + ((k : Int) + 2) + 1 := by omega
      have L2 : (i : Int) ≤ (i : Int) + ((k : Int) + 2) + 1 := by omega
      have L3 : (i : Int) + ((k : Int) + 2) + 1 ≤ (m : Int) + 2 := by omega
      have L4 : (0 : Int) ≤ (i : Int) := by omega
      have L5 : IntKind.i64.wrap ((i : Int) + ((k : Int) + 2)) = (i : Int) + ((k : Int) + 2) := IntWalk.i64_in _ (by omega)
      have L6 : IntKind.i64.wrap ((i : Int) + ((k : Int) + 2) + 1) = (i : Int) + ((k : Int) + 2) + 1 := IntWalk.i64_in _ (by omega)
      have L7 : IntKind.i64.wrap ((k : Int) + 2 + 1) = (k : Int) + 2 + 1 := IntWalk.i64_in _ (by omega)
      have L8 : ¬ (m + 2 = i) := by omega
      have L9 : ((i : Int) + ((k : Int) + 2) + 1).toNat = i + (k + 2) + 1 := by omega
      obtain ⟨Cu, hCu⟩ : ∃ Cu, Cu = (U ++ [z]).map u64v := ⟨_, rfl⟩
      obtain ⟨Zs, hZs⟩ : ∃ Zs, Zs = (List.replicate (k + 2 + 1) 0).map u64v := ⟨_, rfl⟩
      have hZl : Zs.length = k + 2 + 1 := by rw [hZs]; simp
      have hCl : Cu.length = m + 2 := by rw [hCu, List.length_map, List.length_append, HI.out.1]; rfl
      have hZ1 : ∀ v ∈ Zs, v.oneCell' = true := by rw [hZs]; intro v hv; obtain ⟨x, _, rfl⟩ := List.mem_map.1 hv; rfl
      have hnew : Blk (w12.alloc (.cells (madeCells #[.int .u64 0] (k + 2 + 1)) 145)).drew w12.heap.size 145 Zs := by
       unfold Blk
       have := heap_alloc_new w12 (.cells (madeCells #[.int .u64 0] (k + 2 + 1)) 145)
       refine Eq.trans this ?_
       congr 2
       apply Array.toList_inj.1
       rw [toList_madeCells_one, hZs]
       simp [u64v]
      have hcu : Blk (w12.alloc (.cells (madeCells #[.int .u64 0] (k + 2 + 1)) 145)).drew gu 145 Cu := by rw [hCu]; exact (HM12.out.1.2.1.alloc _).drew
      have HCU := Lib.hid hCu
      have HZS := Lib.hid hZs
      have HNEW := Lib.hid hnew
      have HCUB := Lib.hid hcu
      have HZL := Lib.hid (And.intro hZl (And.intro hCl hZ1))
      clear hCu hZs hnew hcu hZl hCl hZ1
      go_region_law ((refine step_copy_put (by rfl) (.tmp 175) (.tmp 178) 156 156 (by rfl) 145 Tryz.underlying156 (by kernel_rfl) _ _ _ _ _ _ (by rfl) (by rfl) gu i Cu 145 HCUB.out Zs (by rw [HZL.out.1]; show _ = min _ _; omega) (fun _ => ⟨by rfl, _, by rfl, fun j v hv => (by rw [add_at, Nat.zero_add, HNEW.out.cell]; exact hv)⟩) (by rw [HZL.out.1, HZL.out.2.1]; omega) HZL.out.2.2 ?_; intro w13 hg13 ho13))
      have hM13 : DivMem w gd gu gv gq d (splice (U ++ [z]) i (List.replicate (k + 2 + 1) 0)) O2 Q w13 :=
       ((HM12.out.below (bw_drew (bw_new (Below.refl _ _) _)))).copied ho13 (by have := hg13.out; rw [HCU.out, HZS.out, splice_map] at this; exact this) hgud hguv hgvq hgu2
      have hR2 : (limbs (W % (q * d))).length ≤ k + 2 := limbs_len_le _ _ (Nat.lt_trans (Nat.mod_lt _ HWV.out.2.2.2.2.2.2.1) HWV.out.2.2.2.2.2.2.2)
      have hrl : Rd u64v w13 w13.heap.size Al (limbs (W % (q * d))) := fun h0 => by
       obtain ⟨b, off, rfl, hb, hc⟩ := HRL.out.1.at_ h0
       have hne := HAL.out _ rfl
       refine ⟨b, off, rfl, ?_, fun x hx => ?_⟩
       ·rw [ho13.size]; exact Nat.lt_of_lt_of_le hb (bw_drew (bw_new (Below.refl _ _) _) : Below w12.heap.size w12 _).size
       ·rw [ho13.cell (by have : gu < b := hne; omega), (bw_drew (bw_new (Below.refl _ _) _) : Below w12.heap.size w12 _).cell (p := ⟨b, off + x, none⟩) hb]
        exact hc x hx
      obtain ⟨lr, hlr⟩ : ∃ lr, lr = (limbs (W % (q * d))).length := ⟨_, rfl⟩
      obtain ⟨Cv, hCv⟩ : ∃ Cv, Cv = (splice (U ++ [z]) i (List.replicate (k + 2 + 1) 0)).map u64v := ⟨_, rfl⟩
      obtain ⟨Rs, hRs⟩ : ∃ Rs, Rs = (limbs (W % (q * d))).map u64v := ⟨_, rfl⟩
      have hRl : Rs.length = lr := by rw [hRs, List.length_map, hlr]
      have hCvl : Cv.length = m + 2 := by rw [hCv, List.length_map, length_splice _ _ _ (by rw [List.length_replicate, List.length_append, HI.out.1]; simp; omega), List.length_append, HI.out.1]; rfl
      have hRs1 : ∀ v ∈ Rs, v.oneCell' = true := by rw [hRs]; intro v hv; obtain ⟨x, _, rfl⟩ := List.mem_map.1 hv; rfl
      have hlr2 : lr ≤ k + 2 := by rw [hlr]; exact hR2
      have hcv : Blk w13 gu 145 Cv := by rw [hCv]; exact hM13.1.2.1
      have hsrc : 0 < Rs.length → ∃ ad, Al = some ad ∧ ∀ j v, Rs[j]? = some v → w13.cell? (ad.add j) = some v := fun h0 => by
       obtain ⟨b, off, rfl, hb, hc⟩ := hrl.at_ (by rw [hRs, List.length_map] at h0; exact h0)
       refine ⟨_, rfl, fun j v hv => ?_⟩
       have hj : j < (limbs (W % (q * d))).length := by have := (List.getElem?_eq_some_iff.1 hv).1; rw [hRs, List.length_map] at this; exact this
       rw [add_at, hc j hj]
       rw [hRs, List.getElem?_map, List.getElem?_eq_getElem hj] at hv
       exact hv
      rw [← hlr]
      have HM13 := Lib.hid hM13
      have HCV := Lib.hid hCv
      have HRS := Lib.hid hRs
      have HCVB := Lib.hid hcv
      have HSRC := Lib.hid hsrc
      have HLL := Lib.hid (And.intro hRl (And.intro hCvl (And.intro hRs1 hlr)))
      clear hM13 hR2 hrl hCv hRs hRl hCvl hRs1 hlr hcv hsrc hg13 ho13 HRL HAL L1 L2 L3 L5 L6 L7 L9 hmk HCU HZS HNEW HCUB HZL
      obtain ⟨w14, hrun, hg14, ho14⟩ := run_copy_put (P := Tryz.prog) w13 156 156 3 145 Tryz.underlying156 (by kernel_rfl) (some ⟨gu, i, none⟩) Al (m + 1 - i) (m + 2 - i) lr cl gu i Cv 145 HCVB.out Rs (by rw [HLL.out.1]; show _ = min _ _; omega) (fun h0 => ⟨rfl, HSRC.out h0⟩) (by rw [HLL.out.1, HLL.out.2.1]; omega) HLL.out.2.2.1
      have hM14 : DivMem w gd gu gv gq d (upd U (limbs (W % (q * d))) i (k + 2) ++ [z]) O2 Q w14 := HM13.out.copied ho14 (by
       have h := hg14
       rw [HCV.out, HRS.out, splice_map, window_two (by rw [HI.out.1]; omega) (by rw [← HLL.out.2.2.2]; exact hlr2)] at h
       exact h) hgud hguv hgvq hgu2
      have HM14 := Lib.hid hM14
      have hfq := hM14.2.frozen i
      have hqi : w14.cell? ⟨gq, i, none⟩ = some (u64v (Q[i]'(by rw [HI.out.2.2.1]; omega))) := by rw [hM14.2.cell, List.getElem?_map, List.getElem?_eq_getElem (by rw [HI.out.2.2.1]; omega)]; rfl
      have hin1 : (i : Int) < (n : Int) := by omega
      obtain ⟨u5, hu5⟩ : ∃ u5, u5 = u64v (Q[i]'(by rw [HI.out.2.2.1]; omega)) := ⟨_, rfl⟩
      rw [← hu5] at hqi
      have HM15 := Lib.hid (HM14.out.stored i q1 hgud hguv hgvq hgu2)
      have HG14 := Lib.hid (And.intro hg14 hu5)
      clear hM14 hg14 ho14 hu5
      go_wp2_with fail
      have hst := HI.out.step HWV.out.2.2.2.2.2.2.1 HWV.out.2.2.2.2.2.2.2 (by omega) (q := q1) (by rw [HKQ.out.1, HWV.out.1])
      go_roundg i
      case measure => omega
      case rel => exact ⟨z, _, _, by congr 1, by omega, hst.1, by rw [HWV.out.1] at HM15; exact HM15.out⟩
end Go.Proofs.YtendjepcjmfmfaaGreatDoor
