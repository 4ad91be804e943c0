/- Part 14 of 33 of the proof of the law: contracts of the functions that it reaches, and plain facts. Conditions: those that each contract names. -/
import Derived.Test.YtaegjpancbmppaaGreatDoorTabB13
import Derived.Lib.SliceRun
import Derived.Laws.IdiomCopy
import Derived.Test.YtaegjpancbmppaaGreatDoorTabB03
import Derived.Test.YtaegjpancbmppaaGreatDoorTabB01
import Derived.Test.YtaegjpancbmppaaGreatDoorTabB07
import Derived.Deep.AppendLies
set_option linter.unusedVariables false
set_option linter.unusedSimpArgs false
namespace Go.Proofs.YtaegjpancbmppaaGreatDoor
open Go.RowKit
structure Chs (g : Nat) (w w' : World) : Prop where
 os : w'.os = w.os
 tape : w'.tape = w.tape
 output : w'.output = w.output
 size : w.heap.size ≤ w'.heap.size
 block : ∀ k, k < w.heap.size → k ≠ g → w'.heap[k]? = w.heap[k]?
theorem Chs.refl (g : Nat) (w : World) : Chs g w w := ⟨rfl, rfl, rfl, Nat.le_refl _, fun _ _ _ => rfl⟩
theorem Chs.trans {g : Nat} {w w1 w2 : World} (h : Chs g w w1) (k : Chs g w1 w2) : Chs g w w2 :=
 ⟨k.os.trans h.os, k.tape.trans h.tape, k.output.trans h.output, Nat.le_trans h.size k.size, fun i hi hg => (k.block i (Nat.lt_of_lt_of_le hi h.size) hg).trans (h.block i hi hg)⟩
theorem Chs.of_below {g : Nat} {w w' : World} (h : Below w.heap.size w w') : Chs g w w' := ⟨h.os, h.tape, h.output, h.size, fun k hk _ => h.block k hk⟩
theorem Chs.step {g : Nat} {w w1 w2 : World} (h : Chs g w w1) (k : Below w1.heap.size w1 w2) : Chs g w w2 := h.trans (.of_below k)
theorem Chs.set {g : Nat} {w w' : World} (h : Chs g w w') (o : Nat) (v : Value) : Chs g w (w'.setCell ⟨g, o, none⟩ v) :=
 h.trans ⟨rfl, rfl, rfl, by simp, fun k _ hk => Below.heap_setCell w' ⟨g, o, none⟩ v k hk⟩
theorem Chs.setCells {g : Nat} {w : World} : ∀ (vs : List Value) (o : Nat) {w' : World}, Chs g w w' → Chs g w (w'.setCells g o vs)
 | [], _, _, h => h
 | v :: vs, o, w', h => Chs.setCells vs (o + 1) (h.set o v)
theorem Chs.below {g B : Nat} {w w' : World} (h : Chs g w w') (hB : B ≤ g) (hw : B ≤ w.heap.size) : Below B w w' :=
 ⟨h.os, h.tape, h.output, h.size, fun k hk => h.block k (by omega) (by omega)⟩
def RwF (W : World) (g n : Nat) (f : Nat → Nat) : Prop := ∃ cs : List Value, Blk W g 3 cs ∧ n ≤ cs.length ∧ ∀ t, t < n → cs[t]? = some (nv (f t))
theorem RwF.cell {W : World} {g n t : Nat} {f : Nat → Nat} (h : RwF W g n f) (ht : t < n) : W.cell? ⟨g, t, none⟩ = some (.int .i64 (f t : Int)) ∧ W.frozen? ⟨g, t, none⟩ = false := by
 obtain ⟨cs, h1, h2, h3⟩ := h
 exact ⟨(h1.cell t).trans (h3 t ht), h1.frozen t⟩
theorem RwF.lt {W : World} {g n : Nat} {f : Nat → Nat} (h : RwF W g n f) : g < W.heap.size := by
 obtain ⟨cs, h1, _⟩ := h
 exact h1.lt
theorem RwF.step {W W' : World} {g n : Nat} {f : Nat → Nat} (h : RwF W g n f) (hb : Below W.heap.size W W') : RwF W' g n f := by
 obtain ⟨cs, h1, h2, h3⟩ := h
 exact ⟨cs, (hb.block g h1.lt).trans h1, h2, h3⟩
theorem RwF.put {W : World} {g n i : Nat} {f : Nat → Nat} (h : RwF W g n f) (hi : i < n) (v : Nat) : RwF (W.setCell ⟨g, i, none⟩ (.int .i64 (v : Int))) g n (fun t => if t = i then v else f t) := by
 obtain ⟨cs, h1, h2, h3⟩ := h
 refine ⟨cs.set i (.int .i64 (v : Int)), h1.put i _, by simpa using h2, fun t ht => ?_⟩
 rw [List.getElem?_set]
 by_cases e : i = t
 ·subst e
  dsimp only
  rw [if_pos rfl, if_pos rfl, if_pos (by omega)]
 ·dsimp only
  rw [if_neg e, if_neg (fun k : t = i => e k.symm)]
  exact h3 t ht
theorem RwF.of_own {W : World} {base n c : Nat} {g : Nat} {L : List Nat} (h : W.ownsRow base 3 1 (.slice (some ⟨g, 0, none⟩) n c) n (L.map nv)) (hn : n = L.length) : RwF W g n (fun t => L.getD t 0) ∧ n ≤ c := by
 rcases h.2 with ⟨h', _⟩ | ⟨g', cap, cur, hv, hb, hg, hnc, hmx, hs, ht⟩
 ·cases h'
 ·injection hv with e1 e2 e3
  injection e1 with e1
  injection e1 with e1 _ _
  subst e1; subst e3
  refine ⟨⟨cur.toList, hg, by rw [Array.length_toList, hs]; omega, fun t htn => ?_⟩, hnc⟩
  have h2 : (cur.toList.take (n * 1))[t]? = (L.map nv)[t]? := by rw [ht]
  rw [List.getElem?_take, if_pos (by omega)] at h2
  dsimp only
  rw [h2, List.getElem?_map, List.getElem?_eq_getElem (by omega), List.getD_eq_getElem?_getD, List.getElem?_eq_getElem (by omega)]
  rfl
def DlAns (w : World) (g gb rb : Nat) (L : List Nat) (p : Nat → Bool) : Prop :=
 ∀ W, Chs g w W → ∀ x ∈ L, Calls Tryz.prog 53 #[nv x, .pointer (some ⟨gb, 0, none⟩), .pointer (some ⟨rb, 0, none⟩)] W fun e w' => e = .returned (.bool (p x)) ∧ Below W.heap.size W w'
def ixF (p : Nat → Bool) (L : List Nat) : Int := match L.findIdx? p with | some i => (i : Int) | none => -1
theorem ixF_hit {p : Nat → Bool} {L : List Nat} {k : Nat} (hk : k < L.length) (hp : p (L.getD k 0) = true) (hall : ∀ j, j < k → p (L.getD j 0) = false) : ixF p L = (k : Int) := by
 unfold ixF
 have hg : ∀ j (h : j < L.length), L.getD j 0 = L[j] := fun j h => by rw [List.getD_eq_getElem?_getD, List.getElem?_eq_getElem h]; rfl
 have : L.findIdx? p = some k := by
  rw [List.findIdx?_eq_some_iff_getElem]
  refine ⟨hk, by rw [← hg k hk]; exact hp, fun j hj => ?_⟩
  rw [← hg j (by omega), hall j hj]; simp
 rw [this]
theorem ixF_none {p : Nat → Bool} {L : List Nat} (hall : ∀ j, j < L.length → p (L.getD j 0) = false) : ixF p L = -1 := by
 unfold ixF
 have : L.findIdx? p = none := by
  rw [List.findIdx?_eq_none_iff]
  intro x hx
  obtain ⟨j, hj, rfl⟩ := List.getElem_of_mem hx
  have := hall j hj
  rwa [List.getD_eq_getElem?_getD, List.getElem?_eq_getElem hj] at this
 rw [this]
set_option maxRecDepth 1000000 in
set_option maxHeartbeats 4000000 in
theorem iindex_any (p : Nat → Bool) (g gb rb n c : Nat) (L : List Nat) (w : World) (hr : RwF w g n (fun t => L.getD t 0)) (hn : n = L.length) (hn1 : n ≤ 1000) (hd : DlAns w g gb rb L p) :
  Calls Tryz.prog 74 #[.slice (some ⟨g, 0, none⟩) n c, .func (.func 53) #[] #[.pointer (some ⟨gb, 0, none⟩), .pointer (some ⟨rb, 0, none⟩)]] w fun e w' => e = .returned (.int .i64 (ixF p L)) ∧ Below w.heap.size w w' := by
 have HR := Lib.hid hr
 have HN := Lib.hid hn
 have HD := Lib.hid hd
 clear hr hn hd
 go_enter Tryz.func74, Tryz.ntmps74
 go_wp2_with fail
 go_loopw [5, 8] (fun _ x wr => ∃ k : Nat, k ≤ n ∧ x = .int .i64 (k : Int) ∧ (∀ j, j < k → p (L.getD j 0) = false) ∧ Below w.heap.size w wr) (fun _ x _ => n - (intOf x).toNat)
 case atStart => exact ⟨0, Nat.zero_le _, rfl, fun j h => absurd h (Nat.not_lt_zero _), Below.refl _ _⟩
 case round =>
  obtain ⟨k, hk, rfl, hall, hb⟩ := hrel
  have HA := Lib.hid hall
  have HB := Lib.hid hb
  clear hall hb
  by_cases hlt : k < n
  ·obtain ⟨q0, -⟩ := (HR.out.step HB.out).cell hlt
   have hca := HD.out wr (.of_below HB.out) (L.getD k 0) (by rw [List.getD_eq_getElem?_getD, List.getElem?_eq_getElem (by have := HN.out; omega)]; exact List.getElem_mem _)
   obtain ⟨x, hx⟩ : ∃ x, x = L.getD k 0 := ⟨_, rfl⟩
   rw [← hx] at q0 hca
   obtain ⟨b, hbb⟩ : ∃ b, b = p x := ⟨_, rfl⟩
   rw [← hbb] at hca
   have HC := Lib.hid hca
   have HX := Lib.hid (show p (L.getD k 0) = b by rw [hbb, hx])
   have HLT := Lib.hid hlt
   obtain ⟨k2, hk2⟩ : ∃ z : Int, z = (k : Int) + 1 := ⟨_, rfl⟩
   have hwk : IntKind.i64.wrap ((k : Int) + 1) = k2 := by rw [hk2]; exact IntWalk.i64_in _ (by omega)
   have HK2 := Lib.hid hk2
   have hkn : (k : Int) < (n : Int) := by omega
   clear hca hx hbb hk2 hlt hk
   go_wp2_with fail
   refine HC.out.mono ?_
   rintro e w' ⟨rfl, hb'⟩
   have HB2 := Lib.hid (HB.out.trans (hb'.mono HB.out.size))
   clear hb' q0
   cases b with
   | true =>
    have HE := Lib.hid (show ixF p L = (k : Int) from ixF_hit (by have := HLT.out; have := HN.out; omega) HX.out HA.out)
    go_wp2_with fail
    exact bodyPost_ret (v := .int .i64 (k : Int)) (by simp [results, Tryz.results74, go_sem]) rfl ⟨by rw [HE.out], HB2.out⟩
   | false =>
    go_wp2_with fail
    go_roundw
    case rel => exact ⟨k + 1, by have := HLT.out; omega, by rw [HK2.out]; rfl, (fun j hj => by
     rcases Nat.lt_succ_iff_lt_or_eq.1 hj with h | rfl
     ·exact HA.out j h
     ·exact HX.out), HB2.out⟩
    case measure => have := HLT.out; have := HK2.out; simp only [intOf]; omega
  ·have HE := Lib.hid (show ixF p L = -1 from ixF_none fun j hj => HA.out j (by have := HN.out; omega))
   have hkn : ¬ (k : Int) < (n : Int) := by omega
   clear hlt hk
   go_wp2_with fail
   exact bodyPost_ret (v := .int .i64 (-1)) (by simp [results, Tryz.results74, go_sem]) rfl ⟨by rw [HE.out], HB.out⟩
structure KpI (p : Nat → Bool) (L : List Nat) (j i : Nat) (f : Nat → Nat) : Prop where
 len : i = ((L.take j).filter fun x => !p x).length
 lt : i < j
 low : ∀ t, t < i → f t = ((L.take j).filter fun x => !p x).getD t 0
 high : ∀ t, j ≤ t → t < L.length → f t = L.getD t 0
theorem take_sn {L : List Nat} {k : Nat} (h : k < L.length) : L.take (k + 1) = L.take k ++ [L.getD k 0] := by
 rw [List.take_succ_eq_append_getElem h, List.getD_eq_getElem?_getD, List.getElem?_eq_getElem h]; rfl
theorem KpI.start {p : Nat → Bool} {L : List Nat} {k : Nat} (hk : k < L.length) (hp : p (L.getD k 0) = true) (hall : ∀ j, j < k → p (L.getD j 0) = false) : KpI p L (k + 1) k (fun t => L.getD t 0) := by
 have h0 : (L.take k).filter (fun x => !p x) = L.take k := by
  rw [List.filter_eq_self]
  intro x hx
  obtain ⟨j, hj, rfl⟩ := List.getElem_of_mem hx
  rw [List.length_take] at hj
  have := hall j (by omega)
  rw [List.getD_eq_getElem?_getD, List.getElem?_eq_getElem (by omega)] at this
  rw [List.getElem_take]
  change p L[j] = false at this
  rw [this]; rfl
 have h1 : (L.take (k + 1)).filter (fun x => !p x) = L.take k := by
  rw [take_sn hk, List.filter_append, h0, List.filter_cons, hp]; simp
 refine ⟨by rw [h1, List.length_take]; omega, by omega, fun t ht => ?_, fun t _ _ => rfl⟩
 show L.getD t 0 = _
 rw [h1, List.getD_eq_getElem?_getD, List.getD_eq_getElem?_getD, List.getElem?_take, if_pos ht]
theorem KpI.skip {p : Nat → Bool} {L : List Nat} {j i : Nat} {f : Nat → Nat} (h : KpI p L j i f) (hj : j < L.length) (hp : p (L.getD j 0) = true) : KpI p L (j + 1) i f := by
 have h1 : (L.take (j + 1)).filter (fun x => !p x) = (L.take j).filter (fun x => !p x) := by
  rw [take_sn hj, List.filter_append, List.filter_cons, hp]; simp
 exact ⟨by rw [h1]; exact h.len, by have := h.lt; omega, fun t ht => by rw [h1]; exact h.low t ht, fun t h1 h2 => h.high t (by omega) h2⟩
theorem KpI.keep {p : Nat → Bool} {L : List Nat} {j i : Nat} {f : Nat → Nat} (h : KpI p L j i f) (hj : j < L.length) (hp : p (L.getD j 0) = false) : KpI p L (j + 1) (i + 1) (fun t => if t = i then L.getD j 0 else f t) := by
 have h1 : (L.take (j + 1)).filter (fun x => !p x) = (L.take j).filter (fun x => !p x) ++ [L.getD j 0] := by
  rw [take_sn hj, List.filter_append, List.filter_cons, hp]; simp
 refine ⟨by rw [h1, List.length_append, ← h.len]; rfl, by have := h.lt; omega, fun t ht => ?_, fun t k1 k2 => ?_⟩
 ·show (if t = i then _ else _) = _
  rw [h1]
  clear hp h1
  generalize L.getD j 0 = x
  rw [List.getD_eq_getElem?_getD]
  by_cases e : t = i
  ·subst e
   rw [if_pos rfl, List.getElem?_append_right (by rw [← h.len]; exact Nat.le_refl _), ← h.len, Nat.sub_self]
   rfl
  ·rw [if_neg e, List.getElem?_append_left (by rw [← h.len]; omega), ← List.getD_eq_getElem?_getD]
   exact h.low t (by omega)
 ·show (if t = i then _ else _) = _
  have := h.lt
  rw [if_neg (by omega)]
  exact h.high t (by omega) k2
def DlPost (p : Nat → Bool) (g : Nat) (L : List Nat) (w : World) (e : Ending) (w' : World) : Prop :=
 ∃ (A' : Option Addr) (c' : Nat), e = .returned (.slice A' (L.filter fun x => !p x).length c') ∧ (L.filter fun x => !p x).length ≤ c' ∧ c' ≤ 9223372036854775807 ∧ A' ≠ none ∧ Rd nv w' w'.heap.size A' (L.filter fun x => !p x) ∧ Chs g w w'
theorem ix_cases (p : Nat → Bool) (L : List Nat) : (ixF p L = -1 ∧ L.filter (fun x => !p x) = L) ∨ ∃ k, k < L.length ∧ ixF p L = (k : Int) ∧ p (L.getD k 0) = true ∧ ∀ j, j < k → p (L.getD j 0) = false := by
 unfold ixF
 have hg : ∀ j (h : j < L.length), L.getD j 0 = L[j] := fun j h => by rw [List.getD_eq_getElem?_getD, List.getElem?_eq_getElem h]; rfl
 cases hh : L.findIdx? p with
 | none =>
  refine .inl ⟨rfl, ?_⟩
  rw [List.filter_eq_self]
  intro x hx
  rw [List.findIdx?_eq_none_iff.1 hh x hx]; rfl
 | some k =>
  obtain ⟨h1, h2, h3⟩ := List.findIdx?_eq_some_iff_getElem.1 hh
  refine .inr ⟨k, h1, rfl, by rw [hg k h1]; exact h2, fun j hj => ?_⟩
  rw [hg j (by omega)]
  simpa using h3 j hj
set_option maxRecDepth 1000000 in
set_option maxHeartbeats 4000000 in
theorem idelete_any (p : Nat → Bool) (g gb rb n c : Nat) (L : List Nat) (w : World) (hr : RwF w g n (fun t => L.getD t 0)) (hn : n = L.length) (hn1 : n ≤ 1000) (hc : n ≤ c) (hc9 : c ≤ 9223372036854775807) (hd : DlAns w g gb rb L p) :
  Calls Tryz.prog 52 #[.slice (some ⟨g, 0, none⟩) n c, .func (.func 53) #[] #[.pointer (some ⟨gb, 0, none⟩), .pointer (some ⟨rb, 0, none⟩)]] w (DlPost p g L w) := by
 have HIX := Lib.hid (iindex_any p g gb rb n c L w hr hn hn1 hd)
 have HR := Lib.hid hr
 have HN := Lib.hid hn
 have HD := Lib.hid hd
 rcases ix_cases p L with ⟨h1, h2⟩ | ⟨k0, hk0, h1, hp0, hall0⟩
 ·rw [h1] at HIX
  have HF := Lib.hid h2
  clear hr hn hd h1 h2
  go_enter Tryz.func52, Tryz.ntmps52
  go_wp2_with fail
  refine HIX.out.mono ?_
  rintro e w' ⟨rfl, hb⟩
  have HB := Lib.hid hb
  clear hb
  go_wp2_with fail
  exact bodyPost_ret (v := .slice (some ⟨g, 0, none⟩) n c) (by simp [results, Tryz.results52, go_sem]) rfl ⟨_, c, by rw [HF.out, ← HN.out], by rw [HF.out, ← HN.out]; exact hc, hc9, by simp, by
   rw [HF.out]
   intro hl
   refine ⟨g, 0, rfl, (HR.out.step HB.out).lt, fun i hi => ?_⟩
   have := ((HR.out.step HB.out).cell (t := i) (by rw [HN.out]; exact hi)).1
   rw [Nat.zero_add, this, List.getD_eq_getElem?_getD, List.getElem?_eq_getElem hi]
   rfl, .of_below HB.out⟩
 ·rw [h1] at HIX
  have HK0 := Lib.hid (KpI.start hk0 hp0 hall0)
  have hk0n : k0 < n := by omega
  obtain ⟨k1, hk1⟩ : ∃ z : Int, z = (k0 : Int) + 1 := ⟨_, rfl⟩
  have hwk0 : IntKind.i64.wrap ((k0 : Int) + 1) = k1 := by rw [hk1]; exact IntWalk.i64_in _ (by omega)
  have hne1 : ((k0 : Int) == -1) = false := beq_eq_false_iff_ne.2 (by omega)
  have HK1 := Lib.hid hk1
  clear hr hn hd h1 hk0 hp0 hall0 hk1
  go_enter Tryz.func52, Tryz.ntmps52
  go_wp2_with fail
  refine HIX.out.mono ?_
  rintro e w' ⟨rfl, hb⟩
  have HB := Lib.hid hb
  clear hb
  go_wp2_with fail
  go_loopw [5, 6, 7] (fun u x _ wr => ∃ (i j : Nat) (f : Nat → Nat), u = .int .i64 (i : Int) ∧ x = .int .i64 (j : Int) ∧ j ≤ n ∧ KpI p L j i f ∧ RwF wr g n f ∧ Chs g w wr) (fun _ x _ _ => n - (intOf x).toNat)
  case atStart => exact ⟨k0, k0 + 1, _, rfl, by rw [HK1.out]; rfl, by omega, HK0.out, HR.out.step HB.out, .of_below HB.out⟩
  case round =>
   obtain ⟨i, j, f, rfl, rfl, hjn, hkp, hrw, hch⟩ := hrel
   have HKP := Lib.hid hkp
   have HRW := Lib.hid hrw
   have HCH := Lib.hid hch
   have hij := hkp.lt
   clear hkp hrw hch
   by_cases hlt : j < n
   ·obtain ⟨q0, -⟩ := HRW.out.cell hlt
    obtain ⟨q1, q2⟩ := HRW.out.cell (t := i) (by omega)
    rw [HKP.out.high j (Nat.le_refl _) (by rw [← HN.out]; exact hlt)] at q0
    have hca := HD.out wr HCH.out (L.getD j 0) (by rw [List.getD_eq_getElem?_getD, List.getElem?_eq_getElem (by have := HN.out; omega)]; exact List.getElem_mem _)
    obtain ⟨x, hx⟩ : ∃ x, x = L.getD j 0 := ⟨_, rfl⟩
    rw [← hx] at q0 hca
    obtain ⟨y, hy⟩ : ∃ y, y = f i := ⟨_, rfl⟩
    rw [← hy] at q1
    obtain ⟨b, hbb⟩ : ∃ b, b = p x := ⟨_, rfl⟩
    rw [← hbb] at hca
    have HC := Lib.hid hca
    have HX := Lib.hid (show p (L.getD j 0) = b by rw [hbb, hx])
    have HXX := Lib.hid hx
    have HLT := Lib.hid hlt
    obtain ⟨j2, hj2⟩ : ∃ z : Int, z = (j : Int) + 1 := ⟨_, rfl⟩
    have hwj : IntKind.i64.wrap ((j : Int) + 1) = j2 := by rw [hj2]; exact IntWalk.i64_in _ (by omega)
    obtain ⟨i2, hi2⟩ : ∃ z : Int, z = (i : Int) + 1 := ⟨_, rfl⟩
    have hwi : IntKind.i64.wrap ((i : Int) + 1) = i2 := by rw [hi2]; exact IntWalk.i64_in _ (by omega)
    have HJ2 := Lib.hid hj2
    have HI2 := Lib.hid hi2
    have hjnz : (j : Int) < (n : Int) := by omega
    have hinz : i < n := by omega
    clear hca hx hy hbb hj2 hi2 hlt hjn
    go_wp2_with fail
    refine HC.out.mono ?_
    rintro e w' ⟨rfl, hb'⟩
    have HCH2 := Lib.hid (HCH.out.step hb')
    have HRW2 := Lib.hid (HRW.out.step hb')
    clear hb' q0 q1 q2
    cases b with
    | true =>
     go_wp2_with fail
     go_roundw
     case rel => exact ⟨i, j + 1, f, rfl, by rw [HJ2.out]; rfl, by have := HLT.out; omega, HKP.out.skip (by rw [← HN.out]; exact HLT.out) HX.out, HRW2.out, HCH2.out⟩
     case measure => have := HLT.out; have := HJ2.out; simp only [intOf]; omega
    | false =>
     obtain ⟨q1, q2⟩ := HRW2.out.cell (t := i) hinz
     go_wp2_with fail
     go_roundw
     case rel => exact ⟨i + 1, j + 1, _, by rw [HI2.out]; rfl, by rw [HJ2.out]; rfl, by have := HLT.out; omega, HKP.out.keep (by rw [← HN.out]; exact HLT.out) HX.out, by rw [← HXX.out]; exact HRW2.out.put hinz x, HCH2.out.set i _⟩
     case measure => have := HLT.out; have := HJ2.out; simp only [intOf]; omega
   ·obtain rfl : j = n := by omega
    have hltz : ¬ (j : Int) < (j : Int) := by omega
    have hcl : ∀ ty, (Builtin.clear_ #[24] ty #[.slice (some ⟨g, i, none⟩) (j - i) (c - i)]).run Tryz.prog wr = .ok (.tuple #[]) (wr.setCells g i (List.replicate (j - i) (.int .i64 0))) :=
     fun ty => Lib.run_clear_slice wr _ _ ty _ Tryz.underlying24 Tryz.zeroValue3 rfl rfl g i _ _ (by omega) (fun t ht => by rw [(HRW.out.cell (t := i + t) (by omega)).1]; rfl) (fun t ht => (HRW.out.cell (t := i + t) (by omega)).2)
    have hij2 : (i : Int) < (j : Int) := by omega
    have HLE := Lib.hid (show i = (L.filter fun x => !p x).length by
     have := HKP.out.len
     rwa [List.take_of_length_le (by rw [HN.out]; exact Nat.le_refl _)] at this)
    have HFIN := Lib.hid (show Rd nv (wr.setCells g i (List.replicate (j - i) (.int .i64 0))) (wr.setCells g i (List.replicate (j - i) (.int .i64 0))).heap.size (some ⟨g, 0, none⟩) (L.filter fun x => !p x) from fun _ => by
     refine ⟨g, 0, rfl, Nat.lt_of_lt_of_le HRW.out.lt (Chs.setCells _ _ (Chs.refl g wr)).size, fun t ht => ?_⟩
     rw [Nat.zero_add, World.cell?_setCells_out g _ i wr ⟨g, t, none⟩ (fun _ _ => .inl (by show t < i; rw [HLE.out]; exact ht)), (HRW.out.cell (t := t) (by rw [← HLE.out] at ht; omega)).1, HKP.out.low t (by rw [HLE.out]; exact ht), List.take_of_length_le (by rw [HN.out]; exact Nat.le_refl _), List.getD_eq_getElem?_getD, List.getElem?_eq_getElem ht]
     rfl)
    have HCF := Lib.hid (Chs.setCells (List.replicate (j - i) (.int .i64 0)) i HCH.out)
    have hic : i ≤ c := by omega
    clear hlt hjn
    go_wp2_with fail
    exact bodyPost_ret (v := .slice (some ⟨g, 0, none⟩) i c) (by simp [results, Tryz.results52, go_sem]) rfl ⟨some ⟨g, 0, none⟩, c, by rw [← HLE.out], by rw [← HLE.out]; exact hic, hc9, by simp, HFIN.out, HCF.out⟩
inductive Fm where
 | nd (k a : Int) (l : List Fm)
def Fm.k : Fm → Int | .nd k _ _ => k
def Fm.a : Fm → Int | .nd _ a _ => a
def Fm.l : Fm → List Fm | .nd _ _ l => l
instance : Inhabited Fm := ⟨.nd 0 0 []⟩
inductive FsR (W : World) (S : Nat → Prop) : Option Addr → List Fm → Prop
 | nil (A : Option Addr) : FsR W S A []
 | mk (g off : Nat) (l : List Fm) (As : Nat → Option Addr) (cs : Nat → Nat) (hg : S g)
   (hc : ∀ i (h : i < l.length), W.cell? ⟨g, off + i * 3, none⟩ = some (.int .i64 (l[i]).k) ∧ W.cell? ⟨g, off + i * 3 + 1, none⟩ = some (.int .i64 (l[i]).a) ∧ W.cell? ⟨g, off + i * 3 + 2, none⟩ = some (.slice (As i) (l[i]).l.length (cs i)) ∧ (l[i]).l.length ≤ cs i)
   (hk : ∀ i (h : i < l.length), FsR W S (As i) (l[i]).l) : FsR W S (some ⟨g, off, none⟩) l
theorem FsR.keep {W W' : World} {S : Nat → Prop} (hS : ∀ b, S b → W'.heap[b]? = W.heap[b]?) {A : Option Addr} {l : List Fm} (h : FsR W S A l) : FsR W' S A l := by
 induction h with
 | nil A => exact .nil A
 | mk g off l As cs hg hc hk ih =>
  refine .mk g off l As cs hg (fun i h => ?_) ih
  have e : ∀ o, W'.cell? ⟨g, o, none⟩ = W.cell? ⟨g, o, none⟩ := fun o => by unfold World.cell?; rw [hS g hg]
  rw [e, e, e]
  exact hc i h
theorem FsR.mono {W : World} {S S' : Nat → Prop} (hS : ∀ b, S b → S' b) {A : Option Addr} {l : List Fm} (h : FsR W S A l) : FsR W S' A l := by
 induction h with
 | nil A => exact .nil A
 | mk g off l As cs hg hc hk ih => exact .mk g off l As cs (hS g hg) hc ih
theorem FsR.at_ {W : World} {S : Nat → Prop} {A : Option Addr} {l : List Fm} (h : FsR W S A l) (hl : 0 < l.length) : ∃ (g off : Nat) (As : Nat → Option Addr) (cs : Nat → Nat), A = some ⟨g, off, none⟩ ∧ S g ∧ (∀ i (h : i < l.length), W.cell? ⟨g, off + i * 3, none⟩ = some (.int .i64 (l[i]).k) ∧ W.cell? ⟨g, off + i * 3 + 1, none⟩ = some (.int .i64 (l[i]).a) ∧ W.cell? ⟨g, off + i * 3 + 2, none⟩ = some (.slice (As i) (l[i]).l.length (cs i)) ∧ (l[i]).l.length ≤ cs i) ∧ ∀ i (h : i < l.length), FsR W S (As i) (l[i]).l := by
 cases h with
 | nil A => exact absurd hl (by simp)
 | mk g off l As cs hg hc hk => exact ⟨g, off, As, cs, rfl, hg, hc, hk⟩
abbrev lowB (B : Nat) : Nat → Prop := fun b => b < B
theorem FsR.lowK {W W' : World} {B : Nat} (hb : Below B W W') {A : Option Addr} {l : List Fm} (h : FsR W (lowB B) A l) : FsR W' (lowB B) A l := h.keep fun b hB => hb.block b hB
theorem FsR.step {W W' : World} (hb : Below W.heap.size W W') {A : Option Addr} {l : List Fm} (h : FsR W (lowB W.heap.size) A l) : FsR W' (lowB W'.heap.size) A l := (h.lowK hb).mono fun b hB => Nat.lt_of_lt_of_le hB hb.size
abbrev fcL (k a : Int) (A : Option Addr) (n c : Nat) : List Value := [.int .i64 k, .int .i64 a, .slice A n c]
def fcR (l : List Fm) (As : Nat → Option Addr) (cs : Nat → Nat) : Nat → List Value
 | 0 => []
 | n + 1 => fcR l As cs n ++ fcL (l.getD n default).k (l.getD n default).a (As n) (l.getD n default).l.length (cs n)
theorem fcR_len (l : List Fm) (As : Nat → Option Addr) (cs : Nat → Nat) : ∀ n, (fcR l As cs n).length = n * 3
 | 0 => rfl
 | n + 1 => by rw [fcR, List.length_append, fcR_len l As cs n]; simp; omega
theorem fcR_get (l : List Fm) (As : Nat → Option Addr) (cs : Nat → Nat) : ∀ n i j, i < n → j < 3 → (fcR l As cs n)[i * 3 + j]? = (fcL (l.getD i default).k (l.getD i default).a (As i) (l.getD i default).l.length (cs i))[j]?
 | 0, _, _, h, _ => absurd h (Nat.not_lt_zero _)
 | n + 1, i, j, h, hj => by
  rw [fcR]
  rcases Nat.lt_succ_iff_lt_or_eq.1 h with h' | rfl
  ·rw [List.getElem?_append_left (by rw [fcR_len]; omega)]
   exact fcR_get l As cs n i j h' hj
  ·rw [List.getElem?_append_right (by rw [fcR_len]; omega), fcR_len, Nat.add_sub_cancel_left]
theorem fcR_congr (l l' : List Fm) (As As' : Nat → Option Addr) (cs cs' : Nat → Nat) : ∀ n, (∀ i, i < n → l.getD i default = l'.getD i default ∧ As i = As' i ∧ cs i = cs' i) → fcR l As cs n = fcR l' As' cs' n
 | 0, _ => rfl
 | n + 1, h => by
  obtain ⟨h1, h2, h3⟩ := h n (Nat.lt_succ_self n)
  rw [fcR, fcR, fcR_congr l l' As As' cs cs' n (fun i hi => h i (by omega)), h1, h2, h3]
theorem FsR.of_own {W : World} {base n c : Nat} {A : Option Addr} {l : List Fm} {As : Nat → Option Addr} {cs : Nat → Nat} {S : Nat → Prop} (h : W.ownsRow base 53 3 (.slice A n c) n (fcR l As cs n)) (hn : n = l.length) (hS : ∀ g, A = some ⟨g, 0, none⟩ → S g) (hk : ∀ i (h : i < l.length), FsR W S (As i) (l[i]).l ∧ (l[i]).l.length ≤ cs i) : FsR W S A l := by
 rcases h.2 with ⟨hv, h0⟩ | ⟨g, cap, cur, hv, hb, hg, hnc, hmx, hs, ht⟩
 ·have : l = [] := List.length_eq_zero_iff.1 (by omega)
  subst this
  exact .nil A
 ·injection hv with e1 e2 e3
  subst e1
  refine .mk g 0 l As cs (hS g rfl) (fun i hi => ?_) (fun i hi => (hk i hi).1)
  have hgd : l.getD i default = l[i] := by rw [List.getD_eq_getElem?_getD, List.getElem?_eq_getElem hi]; rfl
  have hcell : ∀ j, j < 3 → W.cell? ⟨g, 0 + i * 3 + j, none⟩ = (fcL (l[i]).k (l[i]).a (As i) (l[i]).l.length (cs i))[j]? := fun j hj => by
   have h2 : (cur.toList.take (n * 3))[i * 3 + j]? = (fcR l As cs n)[i * 3 + j]? := by rw [ht]
   rw [List.getElem?_take, if_pos (by omega), fcR_get l As cs n i j (by omega) hj, hgd] at h2
   rw [cell_of_row W g _ cur _ (0, 0) hg, Nat.zero_add, ← Array.getElem?_toList, h2]
  exact ⟨hcell 0 (by decide), hcell 1 (by decide), hcell 2 (by decide), (hk i hi).2⟩
theorem infoFm : (Tryz.prog.info? 53).map (fun i => (i.zero, i.size, i.bytes)) = some (some (.agg #[.int .i64 0, .int .i64 0, .slice none 0 0]), 3, 40) := by kernel_rfl
def updF {α : Type} (f : Nat → α) (n : Nat) (x : α) : Nat → α := fun i => if i = n then x else f i
theorem fcR_snoc (l : List Fm) (As : Nat → Option Addr) (cs : Nat → Nat) (n : Nat) (hn : n = l.length) (t : Fm) (A : Option Addr) (c : Nat) : fcR (l ++ [t]) (updF As n A) (updF cs n c) (n + 1) = fcR l As cs n ++ fcL t.k t.a A t.l.length c := by
 rw [fcR]
 have e : (l ++ [t]).getD n default = t := by
  rw [List.getD_eq_getElem?_getD, List.getElem?_append_right (by omega), hn, Nat.sub_self]; rfl
 have e2 : updF As n A n = A := if_pos rfl
 have e3 : updF cs n c n = c := if_pos rfl
 rw [e, e2, e3]
 congr 1
 refine fcR_congr _ _ _ _ _ _ n fun i hi => ⟨?_, if_neg (by omega), if_neg (by omega)⟩
 rw [List.getD_eq_getElem?_getD, List.getD_eq_getElem?_getD, List.getElem?_append_left (by omega)]
def RowF (W : World) (base : Nat) (S : Nat → Prop) (A : Option Addr) (n c : Nat) (l : List Fm) : Prop :=
 ∃ (As : Nat → Option Addr) (cs : Nat → Nat), W.ownsRow base 53 3 (.slice A n c) n (fcR l As cs n) ∧ n = l.length ∧ ∀ i (h : i < l.length), FsR W S (As i) (l[i]).l ∧ (l[i]).l.length ≤ cs i
theorem RowF.nil (W : World) (base : Nat) (S : Nat → Prop) : RowF W base S none 0 0 [] :=
 ⟨fun _ => none, fun _ => 0, World.ownsRow_nil _ _ _ _, rfl, fun i h => absurd h (by simp)⟩
theorem RowF.mono {W : World} {base n c : Nat} {S S' : Nat → Prop} {A : Option Addr} {l : List Fm} (h : RowF W base S A n c l) (hS : ∀ b, S b → S' b) : RowF W base S' A n c l := by
 obtain ⟨As, cs, h1, h2, h3⟩ := h
 exact ⟨As, cs, h1, h2, fun i hi => ⟨(h3 i hi).1.mono hS, (h3 i hi).2⟩⟩
theorem RowF.step {W W' : World} {base n c : Nat} {S : Nat → Prop} {A : Option Addr} {l : List Fm} (h : RowF W base S A n c l) (hb : Below W.heap.size W W') (hS : ∀ b, S b → b < W.heap.size) : RowF W' base S A n c l := by
 obtain ⟨As, cs, h1, h2, h3⟩ := h
 exact ⟨As, cs, own_blI h1 hb, h2, fun i hi => ⟨(h3 i hi).1.keep fun b hs => hb.block b (hS b hs), (h3 i hi).2⟩⟩
theorem RowF.set {W : World} {base n c g o : Nat} {u : Value} {S : Nat → Prop} {A : Option Addr} {l : List Fm} (h : RowF W base S A n c l) (hS : ∀ b, S b → b ≠ g) (hg : some g ≠ (Value.slice A n c).ownBlock) : RowF (W.setCell ⟨g, o, none⟩ u) base S A n c l := by
 obtain ⟨As, cs, h1, h2, h3⟩ := h
 refine ⟨As, cs, ?_, h2, fun i hi => ⟨(h3 i hi).1.keep fun b hs => Below.heap_setCell W ⟨g, o, none⟩ u b (hS b hs), (h3 i hi).2⟩⟩
 refine ⟨h1.1, ?_⟩
 rcases h1.2 with h0 | ⟨g', cap, cur, hv, hbs, hh, hr⟩
 ·exact .inl h0
 ·refine .inr ⟨g', cap, cur, hv, hbs, ?_, hr⟩
  have hne : g' ≠ g := fun e => hg (by rw [hv, e]; rfl)
  exact (Below.heap_setCell W ⟨g, o, none⟩ u g' hne).trans hh
theorem RowF.snoc {W w' : World} {base n c g cap : Nat} {S : Nat → Prop} {A At : Option Addr} {ct : Nat} {l : List Fm} {As : Nat → Option Addr} {cs : Nat → Nat} (h1 : W.ownsRow base 53 3 (.slice A n c) n (fcR l As cs n)) (h2 : n = l.length) (h3 : ∀ i (h : i < l.length), FsR W S (As i) (l[i]).l ∧ (l[i]).l.length ≤ cs i)
  {t : Fm} (ht : FsR W S At t.l) (hct : t.l.length ≤ ct) (hown : w'.ownsRow base 53 3 (.slice (some ⟨g, 0, none⟩) (n + 1) cap) (n + 1) (fcR l As cs n ++ fcL t.k t.a At t.l.length ct)) (hg : W.grownBy w' (Value.slice A n c).ownBlock) (hS : ∀ b, S b → b < W.heap.size ∧ some b ≠ (Value.slice A n c).ownBlock) :
  RowF w' base S (some ⟨g, 0, none⟩) (n + 1) cap (l ++ [t]) := by
 refine ⟨updF As n At, updF cs n ct, by rw [fcR_snoc l As cs n h2 t At ct]; exact hown, by rw [List.length_append, h2]; rfl, fun i hi => ?_⟩
 have hkeep : ∀ b, S b → w'.heap[b]? = W.heap[b]? := fun b hb => hg.block b (hS b hb).1 (hS b hb).2
 rw [List.length_append, List.length_singleton] at hi
 by_cases e : i = n
 ·have e1 : (l ++ [t])[i]'(by rw [List.length_append, List.length_singleton]; exact hi) = t := by
   rw [List.getElem_append_right (by omega)]; simp
  have e2 : updF As n At i = At := if_pos e
  have e3 : updF cs n ct i = ct := if_pos e
  rw [e1, e2, e3]
  exact ⟨ht.keep hkeep, hct⟩
 ·have e1 : (l ++ [t])[i]'(by rw [List.length_append, List.length_singleton]; exact hi) = l[i]'(by omega) := List.getElem_append_left (by omega)
  have e2 : updF As n At i = As i := if_neg e
  have e3 : updF cs n ct i = cs i := if_neg e
  rw [e1, e2, e3]
  exact ⟨(h3 i (by omega)).1.keep hkeep, (h3 i (by omega)).2⟩
theorem RowF.fs {W : World} {base n c : Nat} {S S' : Nat → Prop} {A : Option Addr} {l : List Fm} (h : RowF W base S A n c l) (hS : ∀ b, S b → S' b) (hg : ∀ g, (Value.slice A n c).ownBlock = some g → S' g) : FsR W S' A l := by
 obtain ⟨As, cs, h1, h2, h3⟩ := h
 exact FsR.of_own h1 h2 (fun g e => hg g (by rw [e]; rfl)) fun i hi => ⟨(h3 i hi).1.mono hS, (h3 i hi).2⟩
theorem RowF.cap {W : World} {base n c : Nat} {S : Nat → Prop} {A : Option Addr} {l : List Fm} (h : RowF W base S A n c l) : n = l.length ∧ n ≤ c := by
 obtain ⟨As, cs, h1, h2, h3⟩ := h
 exact ⟨h2, own_cap h1⟩
theorem RowF.own {W : World} {base n c : Nat} {S : Nat → Prop} {A : Option Addr} {l : List Fm} (h : RowF W base S A n c l) : ∀ g, (Value.slice A n c).ownBlock = some g → base ≤ g ∧ g < W.heap.size := fun g hg => by
 obtain ⟨As, cs, h1, -, -⟩ := h
 exact h1.lt g hg
def SoB (B0 g1 g2 N : Nat) (v : Value) : Nat → Prop := fun b => B0 ≤ b ∧ b < N ∧ some b ≠ v.ownBlock ∧ b ≠ g1 ∧ b ≠ g2
theorem row_step {w0 wi Wb w4 : World} {base B0 g1 g2 gb n c g4 c4 : Nat} {kk : Int} {A At : Option Addr} {ct : Nat} {l : List Fm} {t : Fm} {x0 : Nat × TypeId × List Value} {As : Nat → Option Addr} {cs : Nat → Nat}
  (hp : Hp w0 [x0, (gb, 53, fcL kk 0 A n c)] wi) (h0 : x0.1 < base) (hgb : gb < base) (hw0 : w0.heap.size ≤ base) (hg12 : gb = g1 ∨ gb = g2)
  (hb : Below wi.heap.size wi Wb) (hown : wi.ownsRow base 53 3 (.slice A n c) n (fcR l As cs n)) (hn : n = l.length)
  (hk : ∀ i (h : i < l.length), FsR wi (SoB B0 g1 g2 wi.heap.size (.slice A n c)) (As i) (l[i]).l ∧ (l[i]).l.length ≤ cs i)
  (ht : FsR Wb (SoB B0 g1 g2 Wb.heap.size (.slice A n c)) At t.l) (hct : t.l.length ≤ ct)
  (hown4 : w4.ownsRow base 53 3 (.slice (some ⟨g4, 0, none⟩) (n + 1) c4) (n + 1) (fcR l As cs n ++ fcL t.k t.a At t.l.length ct)) (hg : Wb.grownBy w4 (Value.slice A n c).ownBlock) (hor : (Value.slice A n c).ownBlock = some g4 ∨ g4 = Wb.heap.size) :
  RowF (w4.setCell ⟨gb, 2, none⟩ (.slice (some ⟨g4, 0, none⟩) (n + 1) c4)) base (SoB B0 g1 g2 (w4.setCell ⟨gb, 2, none⟩ (.slice (some ⟨g4, 0, none⟩) (n + 1) c4)).heap.size (.slice (some ⟨g4, 0, none⟩) (n + 1) c4)) (some ⟨g4, 0, none⟩) (n + 1) c4 (l ++ [t]) ∧
   Hp w0 [x0, (gb, 53, fcL kk 0 (some ⟨g4, 0, none⟩) (n + 1) c4)] (w4.setCell ⟨gb, 2, none⟩ (.slice (some ⟨g4, 0, none⟩) (n + 1) c4)) := by
 have hown' := own_blI hown hb
 have hge : base ≤ g4 := (hown4.lt g4 rfl).1
 have hrow := RowF.snoc hown' hn (S := SoB B0 g1 g2 Wb.heap.size (.slice A n c)) (fun i hi => ⟨((hk i hi).1.keep fun b hs => hb.block b hs.2.1).mono fun b hs => ⟨hs.1, Nat.lt_of_lt_of_le hs.2.1 hb.size, hs.2.2⟩, (hk i hi).2⟩) ht hct hown4 hg (fun b hs => ⟨hs.2.1, hs.2.2.1⟩)
 have hsz : Wb.heap.size ≤ w4.heap.size := hg.size
 constructor
 ·refine (hrow.set (fun b hs => ?_) (fun e => ?_)).mono fun b hs => ⟨hs.1, ?_, ?_, hs.2.2.2⟩
  ·rcases hg12 with e | e <;> rw [e]
   ·exact hs.2.2.2.1
   ·exact hs.2.2.2.2
  ·have e' : gb = g4 := by simpa [Value.ownBlock] using e
   omega
  ·have : (w4.setCell ⟨gb, 2, none⟩ (.slice (some ⟨g4, 0, none⟩) (n + 1) c4)).heap.size = w4.heap.size := by simp
   rw [this]; exact Nat.lt_of_lt_of_le hs.2.1 hsz
  ·intro e
   have e' : b = g4 := by simpa [Value.ownBlock] using e
   rcases hor with h | h
   ·exact hs.2.2.1 (by rw [h, e'])
   ·have := hs.2.1
    omega
 ·have h1 := (hp.step hb).grwI hg (fun q hq => ⟨Nat.le_trans hw0 (hown'.lt q hq).1, fun p hp' e => by
   have h2 := (hown'.lt q hq).1
   rcases List.mem_cons.1 hp' with rfl | hp'
   ·omega
   ·rw [List.mem_singleton] at hp'
    subst hp'
    dsimp only at e
    omega⟩)
  exact h1.put 1 rfl 2 (.slice (some ⟨g4, 0, none⟩) (n + 1) c4)
theorem fs_one {W : World} {S : Nat → Prop} {g : Nat} {k a : Int} (h : Blk W g 53 (fcL k a none 0 0)) (hS : S g) : FsR W S (some ⟨g, 0, none⟩) [.nd k a []] := by
 refine .mk g 0 [.nd k a []] (fun _ => none) (fun _ => 0) hS (fun i hi => ?_) (fun i hi => ?_)
 ·obtain rfl : i = 0 := by simpa using hi
  exact ⟨h.cell 0, h.cell 1, h.cell 2, Nat.le_refl _⟩
 ·obtain rfl : i = 0 := by simpa using hi
  exact .nil _
def litT (v x : Nat) : Fm := if v.testBit x then .nd 1 (x : Int) [] else .nd 2 0 [.nd 1 (x : Int) []]
def litsT (c v k : Nat) : List Fm := ((List.range k).filter fun x => c.testBit x).map (litT v)
def prodT (n : Nat) (x : Int × Int) : Fm := .nd 3 0 (litsT x.1.toNat x.2.toNat n)
theorem litsT_succ (c v k : Nat) : litsT c v (k + 1) = litsT c v k ++ if c.testBit k then [litT v k] else [] := by
 unfold litsT
 rw [List.range_succ, List.filter_append, List.map_append, List.filter_cons]
 cases c.testBit k <;> simp
theorem litsT_len (c v k : Nat) : (litsT c v k).length ≤ k := by
 unfold litsT
 rw [List.length_map]
 have := List.length_filter_le (fun x => c.testBit x) (List.range k)
 rwa [List.length_range] at this
theorem bit_and1 {a x : Nat} (ha : a < 9223372036854775808) : bits .and .i64 ((a : Int) / 2 ^ x) 1 = if a.testBit x then 1 else 0 := by
 have e : ((a : Int) / 2 ^ x) = ((a / 2 ^ x : Nat) : Int) := by
  rw [Int.natCast_ediv, Int.natCast_pow]; rfl
 have hl : a / 2 ^ x < 9223372036854775808 := Nat.lt_of_le_of_lt (Nat.div_le_self _ _) ha
 rw [e, show (1 : Int) = ((1 : Nat) : Int) from rfl, and_i64 hl (by decide), Nat.and_one_is_mod, Nat.testBit_eq_decide_div_mod_eq]
 rcases Nat.mod_two_eq_zero_or_one (a / 2 ^ x) with h | h <;> rw [h] <;> rfl
def CqRd (W : World) (Bd : Nat) (A : Option Addr) (L : List (Int × Int)) : Prop :=
 0 < L.length → ∃ g off, A = some ⟨g, off, none⟩ ∧ g < Bd ∧ ∀ i, i < L.length → W.cell? ⟨g, off + i * 2, none⟩ = some (.int .i64 (L.getD i (0, 0)).1) ∧ W.cell? ⟨g, off + i * 2 + 1, none⟩ = some (.int .i64 (L.getD i (0, 0)).2)
theorem CqRd.step {W W' : World} {A : Option Addr} {L : List (Int × Int)} (h : CqRd W W.heap.size A L) (hb : Below W.heap.size W W') : CqRd W' W'.heap.size A L := fun hl => by
 obtain ⟨g, off, rfl, hg, hc⟩ := h hl
 exact ⟨g, off, rfl, Nat.lt_of_lt_of_le hg hb.size, fun i hi => ⟨(hb.cell (p := ⟨g, _, none⟩) hg).trans (hc i hi).1, (hb.cell (p := ⟨g, _, none⟩) hg).trans (hc i hi).2⟩⟩
def fmE (n : Int) (L : List (Int × Int)) : Int := if n < 0 ∨ 8 < n then 3 else if L.all (fun x => rgB n.toNat x.1 x.2) then 0 else 7
def FoPost (n : Int) (L : List (Int × Int)) (w : World) (e : Ending) (w' : World) : Prop :=
 (fmE n L ≠ 0 ∧ e = .returned (.tuple #[.agg #[.int .i64 0, .int .i64 0, .slice none 0 0], .int .i64 (fmE n L)]) ∧ Below w.heap.size w w') ∨
 (fmE n L = 0 ∧ ∃ (A' : Option Addr) (cp : Nat), e = .returned (.tuple #[.agg #[.int .i64 4, .int .i64 0, .slice A' L.length cp], .int .i64 0]) ∧ L.length ≤ cp ∧ FsR w' (fun b => w.heap.size ≤ b ∧ b < w'.heap.size) A' (L.map (prodT n.toNat)) ∧ Below w.heap.size w w')
end Go.Proofs.YtaegjpancbmppaaGreatDoor
