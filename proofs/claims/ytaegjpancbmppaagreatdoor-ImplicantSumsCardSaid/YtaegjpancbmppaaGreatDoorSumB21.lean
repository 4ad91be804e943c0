/- Part 21 of 33 of the proof of the law: contracts of the functions that it reaches, and plain facts. Conditions: those that each contract names. -/
import Derived.Test.YtaegjpancbmppaaGreatDoorSumB17
import Derived.Test.YtaegjpancbmppaaGreatDoorSumB18
import Derived.Test.YtaegjpancbmppaaGreatDoorSumB15
import Derived.Test.YtaegjpancbmppaaGreatDoorSumB08
set_option linter.unusedVariables false
set_option linter.unusedSimpArgs false
namespace Go.Proofs.YtaegjpancbmppaaGreatDoor
open Go.RowKit
mutual
def Fm.val (f : Int → Bool) : Fm → Bool
 | .nd k a l => if k = 1 then f a else if k = 2 then !((valsL f l).headD false) else if k = 3 then (valsL f l).all id else if k = 4 then (valsL f l).any id else k == 6
def valsL (f : Int → Bool) : List Fm → List Bool
 | [] => []
 | t :: l => t.val f :: valsL f l
end
theorem valsL_map (f : Int → Bool) : ∀ l : List Fm, valsL f l = l.map (Fm.val f)
 | [] => by rw [valsL]; rfl
 | t :: l => by rw [valsL, valsL_map f l]; rfl
theorem Fm.val_eq (f : Int → Bool) (k a : Int) (l : List Fm) : (Fm.nd k a l).val f = if k = 1 then f a else if k = 2 then !((l.map (Fm.val f)).headD false) else if k = 3 then l.all (Fm.val f) else if k = 4 then l.any (Fm.val f) else k == 6 := by
 rw [Fm.val, valsL_map, List.all_map, List.any_map]; rfl
def vf (vals : List Bool) (v : Int) : Bool := vals.getD v.toNat false
abbrev bz (b : Bool) : Value := .bool b
def EnvOK (X : World) (vb : Nat) (vals : List Bool) : Prop := vb < X.heap.size ∧ ∃ (A : Option Addr) (c : Nat), X.cell? ⟨vb, 0, none⟩ = some (.slice A vals.length c) ∧ Rd bz X X.heap.size A vals
theorem rd_stepB {α : Type} {enc : α → Value} {X Y : World} {A : Option Addr} {l : List α} (h : Rd enc X X.heap.size A l) (hb : Below X.heap.size X Y) : Rd enc Y Y.heap.size A l := fun hl => by
 obtain ⟨b, off, rfl, hlt, hc⟩ := h hl
 exact ⟨b, off, rfl, Nat.lt_of_lt_of_le hlt hb.size, fun i hi => (hb.cell (p := ⟨b, _, none⟩) hlt).trans (hc i hi)⟩
theorem EnvOK.step {X Y : World} {vb : Nat} {vals : List Bool} (h : EnvOK X vb vals) (hb : Below X.heap.size X Y) : EnvOK Y vb vals := by
 obtain ⟨h1, A, c, h2, h3⟩ := h
 exact ⟨Nat.lt_of_lt_of_le h1 hb.size, A, c, (hb.cell (p := ⟨vb, 0, none⟩) h1).trans h2, rd_stepB h3 hb⟩
def varIn (n : Nat) (k a : Int) (m : Nat) : Prop := (k = 1 → 0 ≤ a ∧ a < n) ∧ (k = 2 → 0 < m)
abbrev ofV (vb : Nat) : Value := .func (.func 77) #[] #[.pointer (some ⟨vb, 0, none⟩)]
def VlOK (vb : Nat) (vals : List Bool) (t : Fm) : Prop := ∀ (A : Option Addr) (c : Nat) (X : World), FsR X (lowB X.heap.size) A t.l → EnvOK X vb vals →
 Calls Tryz.prog 76 #[.agg (fcL t.k t.a A t.l.length c).toArray, ofV vb] X fun e w' => e = .returned (.bool (t.val (vf vals))) ∧ Below X.heap.size X w'
set_option maxRecDepth 1000000 in
theorem ofv_any (vb : Nat) (vals : List Bool) (a : Int) (X : World) (h : EnvOK X vb vals) (ha : 0 ≤ a ∧ a < vals.length) :
  Calls Tryz.prog 77 #[.int .i64 a, .pointer (some ⟨vb, 0, none⟩)] X fun e w' => e = .returned (.bool (vf vals a)) ∧ Below X.heap.size X w' := by
 obtain ⟨h1, A, c, h2, h3⟩ := h
 obtain ⟨n, rfl⟩ : ∃ n : Nat, a = (n : Int) := ⟨a.toNat, by omega⟩
 have hn : n < vals.length := by omega
 obtain ⟨b, off, rfl, hlt, hc⟩ := h3 (by omega)
 have hcn := hc n hn
 have hv : vf vals (n : Int) = vals[n] := by unfold vf; rw [Int.toNat_natCast, List.getD_eq_getElem?_getD, List.getElem?_eq_getElem hn]; rfl
 rw [← hv] at hcn
 obtain ⟨m, hm⟩ : ∃ m, m = vals.length := ⟨_, rfl⟩
 rw [← hm] at h2 ha
 have ha1 := ha.2
 obtain ⟨r, hr⟩ : ∃ r, r = vf vals (n : Int) := ⟨_, rfl⟩
 rw [← hr] at hcn
 rw [← hr]
 replace hcn : X.cell? ⟨b, off + n, none⟩ = some (.bool r) := hcn
 clear hc h3 hv hm hr hn
 go_enter Tryz.func77, Tryz.ntmps77
 go_wp2_with fail
 go_ret
 exact ⟨rfl, Below.refl _ _⟩
set_option maxRecDepth 1000000 in
theorem clo1_any (vb B : Nat) (vals : List Bool) (t : Fm) (A : Option Addr) (c n : Nat) (X : World) (hn : n = t.l.length) (hE : VlOK vb vals t) (hF : FsR X (lowB X.heap.size) A t.l) (hV : EnvOK X vb vals) (hBl : B < X.heap.size) (hB : X.cell? ⟨B, 0, none⟩ = some (ofV vb)) :
  Calls Tryz.prog 93 #[.agg #[.int .i64 t.k, .int .i64 t.a, .slice A n c], .pointer (some ⟨B, 0, none⟩)] X fun e w' => e = .returned (.bool (!(t.val (vf vals)))) ∧ Below X.heap.size X w' := by
 have hbx := bw_new (Below.refl X.heap.size X) (.cells #[.int .i64 t.k, .int .i64 t.a, .slice A n c] 53)
 have h := hE A c _ (hF.step hbx) (hV.step hbx)
 rw [← hn] at h
 have H := Lib.hid (show Calls Tryz.prog 76 #[.agg #[.int .i64 t.k, .int .i64 t.a, .slice A n c], .func (.func 77) #[] #[.pointer (some ⟨vb, 0, none⟩)]] (X.alloc (.cells #[.int .i64 t.k, .int .i64 t.a, .slice A n c] 53)) _ from h)
 have HX := Lib.hid hbx
 obtain ⟨r, hr⟩ : ∃ r, r = t.val (vf vals) := ⟨_, rfl⟩
 rw [← hr] at H ⊢
 clear h hE hF hV hn hr hbx
 go_enter Tryz.func93, Tryz.ntmps93
 go_wp2_with fail
 refine H.out.mono ?_
 rintro e w3 ⟨rfl, hb⟩
 have HB := Lib.hid (HX.out.trans (hb.mono HX.out.size))
 clear hb
 go_wp2_with fail
 go_ret
 exact ⟨rfl, HB.out⟩
set_option maxRecDepth 1000000 in
set_option maxHeartbeats 4000000 in
theorem idx1_any (vb B : Nat) (vals : List Bool) (l : List Fm) (hE : ∀ t ∈ l, VlOK vb vals t) (n : Nat) (hn : n = l.length) (hn1 : n ≤ 10000) (A : Option Addr) (c : Nat) (X : World) (hF : FsR X (lowB X.heap.size) A l) (hV : EnvOK X vb vals) (hBl : B < X.heap.size) (hB : X.cell? ⟨B, 0, none⟩ = some (ofV vb)) :
  Calls Tryz.prog 115 #[.slice A n c, .func (.func 93) #[] #[.pointer (some ⟨B, 0, none⟩)]] X fun e w' => ∃ r : Int, e = .returned (.int .i64 r) ∧ (decide (r ≥ 0)) = l.any (fun t => !(t.val (vf vals))) ∧ Below X.heap.size X w' := by
 have HF := Lib.hid hF
 have HV := Lib.hid hV
 have HN := Lib.hid hn
 have HE := Lib.hid hE
 have HC := Lib.hid (And.intro hBl hB)
 clear hF hV hn hE hBl hB
 go_enter Tryz.func115, Tryz.ntmps115
 go_wp2_with fail
 go_loopw [8] (fun x wr => ∃ k : Nat, k ≤ n ∧ x = .int .i64 (k : Int) ∧ (l.take k).any (fun t => !(t.val (vf vals))) = false ∧ Below X.heap.size X wr) (fun x _ => n - (intOf x).toNat)
 case atStart => exact ⟨0, Nat.zero_le _, rfl, rfl, Below.refl _ _⟩
 case round =>
  obtain ⟨wo, rfl⟩ : ∃ W, W = wr := ⟨_, rfl⟩
  obtain ⟨k, hk, rfl, ha, hb⟩ := hrel
  have HB := Lib.hid hb
  have HA := Lib.hid ha
  clear hb ha
  by_cases hlt : k < n
  ·have hkl : k < l.length := by rw [← HN.out]; exact hlt
   have hkz : (k : Int) < (n : Int) := by omega
   have HKL := Lib.hid hlt
   obtain ⟨k2, hk2⟩ : ∃ z : Int, z = (k : Int) + 1 := ⟨_, rfl⟩
   have hwk : IntKind.i64.wrap ((k : Int) + 1) = k2 := by rw [hk2]; exact IntWalk.i64_in _ (by omega)
   have HK2 := Lib.hid hk2
   have hs1 := HF.out.step HB.out
   obtain ⟨g1, o1, As1, cs1, rfl, -, hc1, hk1⟩ := hs1.at_ (by omega)
   obtain ⟨a0, a1, a2, -⟩ := hc1 k hkl
   have e1 := hk1 k hkl
   have hEk := HE.out _ (List.getElem_mem hkl)
   have htk := List.take_succ_eq_append_getElem hkl
   have hme := List.getElem_mem hkl
   obtain ⟨t, ht⟩ : ∃ t, t = l[k] := ⟨_, rfl⟩
   rw [← ht] at a0 a1 a2 e1 hEk htk hme
   obtain ⟨m, hm⟩ : ∃ m, m = t.l.length := ⟨_, rfl⟩
   rw [← hm] at a2
   have HCL := Lib.hid (clo1_any vb B vals t (As1 k) (cs1 k) m wo hm hEk e1 (HV.out.step HB.out) (Nat.lt_of_lt_of_le HC.out.1 HB.out.size) ((HB.out.cell (p := ⟨B, 0, none⟩) HC.out.1).trans HC.out.2))
   have HST := Lib.hid (show (l.take (k + 1)).any (fun t => !(t.val (vf vals))) = (!(t.val (vf vals))) by rw [htk, List.any_append, HA.out, List.any_cons, List.any_nil, Bool.or_false, Bool.false_or])
   have HME := Lib.hid (show (!(t.val (vf vals))) = true → l.any (fun t => !(t.val (vf vals))) = true from fun h => List.any_eq_true.2 ⟨t, hme, h⟩)
   obtain ⟨r, hr⟩ : ∃ r, r = (!(t.val (vf vals))) := ⟨_, rfl⟩
   rw [← hr] at HCL HST HME
   clear hk2 hlt hk hs1 hc1 hk1 e1 hEk ht hm hkl htk hme hr
   go_wp2_with fail
   refine HCL.out.mono ?_
   rintro e w3 ⟨rfl, hb3⟩
   have HB3 := Lib.hid (HB.out.trans (hb3.mono HB.out.size))
   clear hb3 a0 a1 a2
   cases r with
   | true =>
    go_wp2_with fail
    go_ret
    exact ⟨_, rfl, by rw [show l.any _ = true from by first | exact HME.out rfl | exact HME.out trivial]; exact decide_eq_true (by omega), HB3.out⟩
   | false =>
    go_wp2_with fail
    go_roundw
    case rel => exact ⟨k + 1, HKL.out, by rw [HK2.out]; rfl, HST.out, HB3.out⟩
    case measure => have := HKL.out; have := HK2.out; simp only [intOf]; omega
  ·obtain rfl : k = n := by omega
   have hkz : ¬ (k : Int) < (k : Int) := by omega
   have HFIN := Lib.hid (show l.any (fun t => !(t.val (vf vals))) = false by
    have := HA.out
    rwa [List.take_of_length_le (by rw [HN.out]; exact Nat.le_refl _)] at this)
   clear hk hlt
   go_wp2_with fail
   go_ret
   exact ⟨_, rfl, by rw [HFIN.out]; decide, HB.out⟩
theorem con1_any (vb B : Nat) (vals : List Bool) (l : List Fm) (hE : ∀ t ∈ l, VlOK vb vals t) (n : Nat) (hn : n = l.length) (hn1 : n ≤ 10000) (A : Option Addr) (c : Nat) (X : World) (hF : FsR X (lowB X.heap.size) A l) (hV : EnvOK X vb vals) (hBl : B < X.heap.size) (hB : X.cell? ⟨B, 0, none⟩ = some (ofV vb)) :
  Calls Tryz.prog 92 #[.slice A n c, .func (.func 93) #[] #[.pointer (some ⟨B, 0, none⟩)]] X fun e w' => e = .returned (.bool (l.any fun t => !(t.val (vf vals)))) ∧ Below X.heap.size X w' := by
 have H := Lib.hid (idx1_any vb B vals l hE n hn hn1 A c X hF hV hBl hB)
 clear hE hn hF hV hB
 go_enter Tryz.func92, Tryz.ntmps92
 go_wp2_with fail
 refine H.out.mono ?_
 rintro e w3 ⟨r, rfl, hr, hb⟩
 have HB := Lib.hid hb
 have HR := Lib.hid hr
 clear hb hr
 go_wp2_with fail
 go_ret
 exact ⟨congrArg (fun b => Ending.returned (Value.bool b)) HR.out, HB.out⟩
set_option maxRecDepth 1000000 in
theorem clo2_any (vb B : Nat) (vals : List Bool) (t : Fm) (A : Option Addr) (c n : Nat) (X : World) (hn : n = t.l.length) (hE : VlOK vb vals t) (hF : FsR X (lowB X.heap.size) A t.l) (hV : EnvOK X vb vals) (hBl : B < X.heap.size) (hB : X.cell? ⟨B, 0, none⟩ = some (ofV vb)) :
  Calls Tryz.prog 94 #[.agg #[.int .i64 t.k, .int .i64 t.a, .slice A n c], .pointer (some ⟨B, 0, none⟩)] X fun e w' => e = .returned (.bool (t.val (vf vals))) ∧ Below X.heap.size X w' := by
 have hbx := bw_new (Below.refl X.heap.size X) (.cells #[.int .i64 t.k, .int .i64 t.a, .slice A n c] 53)
 have h := hE A c _ (hF.step hbx) (hV.step hbx)
 rw [← hn] at h
 have H := Lib.hid (show Calls Tryz.prog 76 #[.agg #[.int .i64 t.k, .int .i64 t.a, .slice A n c], .func (.func 77) #[] #[.pointer (some ⟨vb, 0, none⟩)]] (X.alloc (.cells #[.int .i64 t.k, .int .i64 t.a, .slice A n c] 53)) _ from h)
 have HX := Lib.hid hbx
 obtain ⟨r, hr⟩ : ∃ r, r = t.val (vf vals) := ⟨_, rfl⟩
 rw [← hr] at H ⊢
 clear h hE hF hV hn hr hbx
 go_enter Tryz.func94, Tryz.ntmps94
 go_wp2_with fail
 refine H.out.mono ?_
 rintro e w3 ⟨rfl, hb⟩
 have HB := Lib.hid (HX.out.trans (hb.mono HX.out.size))
 clear hb
 go_wp2_with fail
 go_ret
 exact ⟨rfl, HB.out⟩
set_option maxRecDepth 1000000 in
set_option maxHeartbeats 4000000 in
theorem idx2_any (vb B : Nat) (vals : List Bool) (l : List Fm) (hE : ∀ t ∈ l, VlOK vb vals t) (n : Nat) (hn : n = l.length) (hn1 : n ≤ 10000) (A : Option Addr) (c : Nat) (X : World) (hF : FsR X (lowB X.heap.size) A l) (hV : EnvOK X vb vals) (hBl : B < X.heap.size) (hB : X.cell? ⟨B, 0, none⟩ = some (ofV vb)) :
  Calls Tryz.prog 115 #[.slice A n c, .func (.func 94) #[] #[.pointer (some ⟨B, 0, none⟩)]] X fun e w' => ∃ r : Int, e = .returned (.int .i64 r) ∧ (decide (r ≥ 0)) = l.any (fun t => t.val (vf vals)) ∧ Below X.heap.size X w' := by
 have HF := Lib.hid hF
 have HV := Lib.hid hV
 have HN := Lib.hid hn
 have HE := Lib.hid hE
 have HC := Lib.hid (And.intro hBl hB)
 clear hF hV hn hE hBl hB
 go_enter Tryz.func115, Tryz.ntmps115
 go_wp2_with fail
 go_loopw [8] (fun x wr => ∃ k : Nat, k ≤ n ∧ x = .int .i64 (k : Int) ∧ (l.take k).any (fun t => t.val (vf vals)) = false ∧ Below X.heap.size X wr) (fun x _ => n - (intOf x).toNat)
 case atStart => exact ⟨0, Nat.zero_le _, rfl, rfl, Below.refl _ _⟩
 case round =>
  obtain ⟨wo, rfl⟩ : ∃ W, W = wr := ⟨_, rfl⟩
  obtain ⟨k, hk, rfl, ha, hb⟩ := hrel
  have HB := Lib.hid hb
  have HA := Lib.hid ha
  clear hb ha
  by_cases hlt : k < n
  ·have hkl : k < l.length := by rw [← HN.out]; exact hlt
   have hkz : (k : Int) < (n : Int) := by omega
   have HKL := Lib.hid hlt
   obtain ⟨k2, hk2⟩ : ∃ z : Int, z = (k : Int) + 1 := ⟨_, rfl⟩
   have hwk : IntKind.i64.wrap ((k : Int) + 1) = k2 := by rw [hk2]; exact IntWalk.i64_in _ (by omega)
   have HK2 := Lib.hid hk2
   have hs1 := HF.out.step HB.out
   obtain ⟨g1, o1, As1, cs1, rfl, -, hc1, hk1⟩ := hs1.at_ (by omega)
   obtain ⟨a0, a1, a2, -⟩ := hc1 k hkl
   have e1 := hk1 k hkl
   have hEk := HE.out _ (List.getElem_mem hkl)
   have htk := List.take_succ_eq_append_getElem hkl
   have hme := List.getElem_mem hkl
   obtain ⟨t, ht⟩ : ∃ t, t = l[k] := ⟨_, rfl⟩
   rw [← ht] at a0 a1 a2 e1 hEk htk hme
   obtain ⟨m, hm⟩ : ∃ m, m = t.l.length := ⟨_, rfl⟩
   rw [← hm] at a2
   have HCL := Lib.hid (clo2_any vb B vals t (As1 k) (cs1 k) m wo hm hEk e1 (HV.out.step HB.out) (Nat.lt_of_lt_of_le HC.out.1 HB.out.size) ((HB.out.cell (p := ⟨B, 0, none⟩) HC.out.1).trans HC.out.2))
   have HST := Lib.hid (show (l.take (k + 1)).any (fun t => t.val (vf vals)) = (t.val (vf vals)) by rw [htk, List.any_append, HA.out, List.any_cons, List.any_nil, Bool.or_false, Bool.false_or])
   have HME := Lib.hid (show (t.val (vf vals)) = true → l.any (fun t => t.val (vf vals)) = true from fun h => List.any_eq_true.2 ⟨t, hme, h⟩)
   obtain ⟨r, hr⟩ : ∃ r, r = (t.val (vf vals)) := ⟨_, rfl⟩
   rw [← hr] at HCL HST HME
   clear hk2 hlt hk hs1 hc1 hk1 e1 hEk ht hm hkl htk hme hr
   go_wp2_with fail
   refine HCL.out.mono ?_
   rintro e w3 ⟨rfl, hb3⟩
   have HB3 := Lib.hid (HB.out.trans (hb3.mono HB.out.size))
   clear hb3 a0 a1 a2
   cases r with
   | true =>
    go_wp2_with fail
    go_ret
    exact ⟨_, rfl, by rw [show l.any _ = true from by first | exact HME.out rfl | exact HME.out trivial]; exact decide_eq_true (by omega), HB3.out⟩
   | false =>
    go_wp2_with fail
    go_roundw
    case rel => exact ⟨k + 1, HKL.out, by rw [HK2.out]; rfl, HST.out, HB3.out⟩
    case measure => have := HKL.out; have := HK2.out; simp only [intOf]; omega
  ·obtain rfl : k = n := by omega
   have hkz : ¬ (k : Int) < (k : Int) := by omega
   have HFIN := Lib.hid (show l.any (fun t => t.val (vf vals)) = false by
    have := HA.out
    rwa [List.take_of_length_le (by rw [HN.out]; exact Nat.le_refl _)] at this)
   clear hk hlt
   go_wp2_with fail
   go_ret
   exact ⟨_, rfl, by rw [HFIN.out]; decide, HB.out⟩
theorem con2_any (vb B : Nat) (vals : List Bool) (l : List Fm) (hE : ∀ t ∈ l, VlOK vb vals t) (n : Nat) (hn : n = l.length) (hn1 : n ≤ 10000) (A : Option Addr) (c : Nat) (X : World) (hF : FsR X (lowB X.heap.size) A l) (hV : EnvOK X vb vals) (hBl : B < X.heap.size) (hB : X.cell? ⟨B, 0, none⟩ = some (ofV vb)) :
  Calls Tryz.prog 92 #[.slice A n c, .func (.func 94) #[] #[.pointer (some ⟨B, 0, none⟩)]] X fun e w' => e = .returned (.bool (l.any fun t => t.val (vf vals))) ∧ Below X.heap.size X w' := by
 have H := Lib.hid (idx2_any vb B vals l hE n hn hn1 A c X hF hV hBl hB)
 clear hE hn hF hV hB
 go_enter Tryz.func92, Tryz.ntmps92
 go_wp2_with fail
 refine H.out.mono ?_
 rintro e w3 ⟨r, rfl, hr, hb⟩
 have HB := Lib.hid hb
 have HR := Lib.hid hr
 clear hb hr
 go_wp2_with fail
 go_ret
 exact ⟨congrArg (fun b => Ending.returned (Value.bool b)) HR.out, HB.out⟩
def VOK (n : Nat) (t : Fm) : Prop := t.size ≤ 10000 ∧ t.all (varIn n) ∧ t.all nodeOK
set_option maxRecDepth 1000000 in
set_option maxHeartbeats 8000000 in
theorem value_any (vb : Nat) (vals : List Bool) : ∀ (F : Nat) (t : Fm), t.size ≤ F → VOK vals.length t → VlOK vb vals t := by
 intro F
 induction F with
 | zero => intro t h; have := size_pos t; omega
 | succ F ih =>
  intro t hF hok A c X hA hV
  obtain ⟨hs, hv, hno⟩ := hok
  have hq := Fm.all_root hv
  have hq2 := Fm.all_root hno
  have hkids : ∀ s ∈ t.l, VlOK vb vals s := fun s hs' => by
   have h1 := size_mem hs'
   have h2 : t.size = 1 + sizeL t.l := Fm.size_eq t
   exact ih s (by omega) ⟨by omega, Fm.all_kid hv hs', Fm.all_kid hno hs'⟩
  have hll := len_size t.l
  have h2 : t.size = 1 + sizeL t.l := Fm.size_eq t
  obtain ⟨k, a, l⟩ := t
  replace hkids : ∀ s ∈ l, VlOK vb vals s := hkids
  replace hA : FsR X (lowB X.heap.size) A l := hA
  replace hq : varIn vals.length k a l.length := hq
  replace hq2 : nodeOK k a l.length := hq2
  replace hll : l.length ≤ sizeL l := hll
  replace h2 : (Fm.nd k a l).size = 1 + sizeL l := h2
  have hl1 : l.length ≤ 10000 := by omega
  rw [Fm.val_eq]
  obtain ⟨n, hn⟩ : ∃ n, n = l.length := ⟨_, rfl⟩
  rw [← hn] at hq hq2 hl1
  show Calls Tryz.prog 76 #[.agg #[.int .i64 k, .int .i64 a, .slice A l.length c], .func (.func 77) #[] #[.pointer (some ⟨vb, 0, none⟩)]] X _
  rw [← hn]
  have hb1 := bw_new (Below.refl X.heap.size X) (.cells #[.int .i64 k, .int .i64 a, .slice A n c] 53)
  have hb2 := bw_new (Below.refl (X.alloc (.cells #[.int .i64 k, .int .i64 a, .slice A n c] 53)).heap.size (X.alloc (.cells #[.int .i64 k, .int .i64 a, .slice A n c] 53))) (.cells #[ofV vb] 98)
  have s1 : (X.alloc (.cells #[.int .i64 k, .int .i64 a, .slice A n c] 53)).heap.size = X.heap.size + 1 := by simp
  have hbx := hb1.trans (hb2.mono hb1.size)
  have hbk : Blk ((X.alloc (.cells #[.int .i64 k, .int .i64 a, .slice A n c] 53)).alloc (.cells #[ofV vb] 98)) (X.heap.size + 1) 98 [ofV vb] := by
   have := heap_alloc_new (X.alloc (.cells #[.int .i64 k, .int .i64 a, .slice A n c] 53)) (.cells #[ofV vb] 98)
   rw [s1] at this
   exact this
  have hbf : Blk ((X.alloc (.cells #[.int .i64 k, .int .i64 a, .slice A n c] 53)).alloc (.cells #[ofV vb] 98)) X.heap.size 53 (fcL k a A n c) :=
   (hb2.block _ (by rw [s1]; exact Nat.lt_succ_self _)).trans (heap_alloc_new X _)
  have HBF := Lib.hid hbf
  have HX := Lib.hid hbx
  have HA := Lib.hid (hA.step hbx)
  have HA0 := Lib.hid hA
  have HV := Lib.hid (hV.step hbx)
  have HBK := Lib.hid hbk
  have HKID := Lib.hid hkids
  have HN := Lib.hid hn
  clear ih hF hv hno hs hll h2 hkids hA hV hbx hbk hb1 hb2 s1 hbf
  rcases hq2 with ⟨rfl, h1, h2, h3⟩ | ⟨rfl, rfl, h3⟩ | ⟨rfl | rfl, rfl, h3⟩ | ⟨rfl | rfl, rfl, h3⟩
  ·rw [if_pos rfl]
   have HOA := Lib.hid (ofv_any vb vals a _ HV.out (hq.1 rfl))
   obtain ⟨r, hr⟩ : ∃ r, r = vf vals a := ⟨_, rfl⟩
   rw [← hr] at HOA ⊢
   clear hr hq h1 h2 h3 hn
   go_enter Tryz.func76, Tryz.ntmps76
   go_wp2_with fail
   refine HOA.out.mono ?_
   rintro e w3 ⟨rfl, hb⟩
   have HB := Lib.hid (HX.out.trans (hb.mono HX.out.size))
   clear hb
   go_wp2_with fail
   go_ret
   exact ⟨rfl, HB.out⟩
  ·rw [if_neg (by decide), if_pos rfl]
   obtain ⟨s, hl⟩ : ∃ s, l = [s] := by
    match l, hn.symm.trans h3 with
    | [s], _ => exact ⟨s, rfl⟩
   subst hl
   subst h3
   obtain ⟨g1, o1, As1, cs1, hAe, hg1, hc1, -⟩ := HA0.out.at_ (by show 0 < 1; decide)
   obtain ⟨a0, a1, a2, -⟩ := hc1 0 (by show 0 < 1; decide)
   obtain ⟨g2, o2, As2, cs2, hAe2, -, hc2, hk2⟩ := HA.out.at_ (by show 0 < 1; decide)
   obtain ⟨-, -, b2, -⟩ := hc2 0 (by show 0 < 1; decide)
   have e1 := hk2 0 (by show 0 < 1; decide)
   subst hAe
   injection hAe2 with e3
   injection e3 with e3 e4 _
   subst e3
   subst e4
   replace a0 : _ = some (Value.int .i64 s.k) := a0
   replace a1 : _ = some (Value.int .i64 s.a) := a1
   replace a2 : _ = some (Value.slice (As1 0) s.l.length (cs1 0)) := a2
   replace b2 : _ = some (Value.slice (As2 0) s.l.length (cs2 0)) := b2
   replace e1 : FsR _ _ (As2 0) s.l := e1
   have b3 := (HX.out.cell (p := ⟨g1, o1 + 0 * 3 + 2, none⟩) hg1).trans a2
   rw [b2] at b3
   injection b3 with b3
   injection b3 with b3 _ b4
   rw [b3] at e1
   rw [Nat.zero_mul, Nat.add_zero] at a0 a1 a2
   obtain ⟨m, hm⟩ : ∃ m, m = s.l.length := ⟨_, rfl⟩
   rw [← hm] at a2
   have HE1 := Lib.hid e1
   have HR := Lib.hid (show ((!(([s] : List Fm).map (Fm.val (vf vals))).headD false)) = !(s.val (vf vals)) from rfl)
   rw [HR.out]
   obtain ⟨r, hr⟩ : ∃ r, r = s.val (vf vals) := ⟨_, rfl⟩
   rw [← hr]
   obtain ⟨k', hk'⟩ : ∃ z, z = s.k := ⟨_, rfl⟩
   obtain ⟨a', ha'⟩ : ∃ z, z = s.a := ⟨_, rfl⟩
   obtain ⟨A', hA'⟩ : ∃ z, z = As1 0 := ⟨_, rfl⟩
   obtain ⟨c', hc'⟩ : ∃ z, z = cs1 0 := ⟨_, rfl⟩
   rw [← hk'] at a0
   rw [← ha'] at a1
   rw [← hA', ← hc'] at a2
   have hg1' : g1 < X.heap.size := hg1
   have HWX := Lib.hid (show ∀ W, Below ((X.alloc (.cells #[.int .i64 2, .int .i64 0, .slice (some ⟨g1, o1, none⟩) 1 c] 53)).alloc (.cells #[ofV vb] 98)).heap.size ((X.alloc (.cells #[.int .i64 2, .int .i64 0, .slice (some ⟨g1, o1, none⟩) 1 c] 53)).alloc (.cells #[ofV vb] 98)) W → W.cell? ⟨X.heap.size, 2, none⟩ = some (.slice (some ⟨g1, o1, none⟩) 1 c) ∧ W.cell? ⟨X.heap.size + 1, 0, none⟩ = some (ofV vb) ∧ g1 < W.heap.size ∧ W.cell? ⟨g1, o1, none⟩ = some (.int .i64 k') ∧ W.cell? ⟨g1, o1 + 1, none⟩ = some (.int .i64 a') ∧ W.cell? ⟨g1, o1 + 2, none⟩ = some (.slice A' m c') from fun W h => by
    have h1 := HX.out.trans (h.mono HX.out.size)
    exact ⟨(h.cell (p := ⟨X.heap.size, 2, none⟩) HBF.out.lt).trans (HBF.out.cell 2), (h.cell (p := ⟨X.heap.size + 1, 0, none⟩) HBK.out.lt).trans (HBK.out.cell 0), Nat.lt_of_lt_of_le hg1' h1.size, (h1.cell (p := ⟨g1, o1, none⟩) hg1').trans a0, (h1.cell (p := ⟨g1, o1 + 1, none⟩) hg1').trans a1, (h1.cell (p := ⟨g1, o1 + 2, none⟩) hg1').trans a2⟩)
   have HCL2 := Lib.hid (show ∀ W, Below ((X.alloc (.cells #[.int .i64 2, .int .i64 0, .slice (some ⟨g1, o1, none⟩) 1 c] 53)).alloc (.cells #[ofV vb] 98)).heap.size ((X.alloc (.cells #[.int .i64 2, .int .i64 0, .slice (some ⟨g1, o1, none⟩) 1 c] 53)).alloc (.cells #[ofV vb] 98)) W → Calls Tryz.prog 76 #[.agg #[.int .i64 k', .int .i64 a', .slice A' m c'], .func (.func 77) #[] #[.pointer (some ⟨vb, 0, none⟩)]] W (fun e w' => e = .returned (.bool r) ∧ Below W.heap.size W w') from fun W h => by
    have := HKID.out s (List.mem_singleton.2 rfl) (As1 0) c' W (HE1.out.step h) (HV.out.step h)
    rw [hr, hk', ha', hA', hm]
    exact this)
   clear hr hk' ha' hA' hc' hm hn hq b2 b3 b4 e1 hc1 hc2 hk2 hg1 a0 a1 a2
   go_enter Tryz.func76, Tryz.ntmps76
   go_upto_region 5 with fail
   --R5
   refine wp_regionJ 8 #[false, false, false, false, false, false, false, false] (fun ll aa W => ∃ (m0 m1 m2 m3 m4 m5 m6 m7 : Bool), ll = #[m0, m1, m2, m3, m4, m5, m6, m7] ∧ aa = ({ tmps := #[Value.agg #[Value.int IntKind.i64 2, Value.int IntKind.i64 0, Value.slice (some { block := g1, off := o1 }) 1 c], Value.func (Fn.func 77) #[] #[Value.pointer (some { block := vb, off := 0 })], Value.pointer (some { block := X.heap.size, off := 0 }), Value.pointer (some { block := X.heap.size + 1, off := 0 }), cwX m7 (Value.bool (!r)) (Value.bool false), Value.pointer (some { block := X.heap.size, off := 0 }), Value.int IntKind.i64 2, Value.bool false, Value.bool false, undef, undef, undef, undef, Value.bool true, Value.bool true, cwX m0 (Value.pointer (some ⟨X.heap.size, 2, none⟩)) (undef), cwX m1 (Value.slice (some ⟨g1, o1, none⟩) 1 c) (undef), cwX m2 (Value.pointer (some ⟨g1, o1, none⟩)) (undef), cwX m3 (Value.agg #[.int .i64 k', .int .i64 a', .slice A' m c']) (undef), cwX m4 (ofV vb) (undef), cwX m5 (Value.bool r) (undef), cwX m6 (Value.bool (!r)) (undef), undef, undef, undef, undef, undef, undef, undef, undef, undef, undef, undef, undef, undef, undef, undef, undef], defers := [] } : Act) ∧ (True) ∧ Below ((X.alloc (.cells #[.int .i64 2, .int .i64 0, .slice (some ⟨g1, o1, none⟩) 1 c] 53)).alloc (.cells #[ofV vb] 98)).heap.size ((X.alloc (.cells #[.int .i64 2, .int .i64 0, .slice (some ⟨g1, o1, none⟩) 1 c] 53)).alloc (.cells #[ofV vb] 98)) W) (by kernel_rfl) (by kernel_rfl) (by kernel_rfl) (by kernel_rfl) ?_ ?_ ?_ ?_
   ·rintro ll aa W ⟨m0, m1, m2, m3, m4, m5, m6, m7, rfl, _⟩
    rfl
   ·exact ⟨false, false, false, false, false, false, false, false, rfl, rfl, trivial, (bw_drew (Below.refl _ _))⟩
   ·rintro ll aa W i o ⟨m0, m1, m2, m3, m4, m5, m6, m7, rfl, rfl, hi0, hm⟩ ho hun hall K hK
    have hi : i < 8 := (Array.getElem?_eq_some_iff.1 ho).1
    have HM := Lib.hid hm
    have HI := Lib.hid hi0
    clear hm hi0
    rcases (show i = 0 ∨ i = 1 ∨ i = 2 ∨ i = 3 ∨ i = 4 ∨ i = 5 ∨ i = 6 ∨ i = 7 by omega) with rfl | rfl | rfl | rfl | rfl | rfl | rfl | rfl
    ·cases ho
     simp at hun; subst hun
     clear hall hi
     go_simp
     exact hK.out _ _ ⟨true, m1, m2, m3, m4, m5, m6, m7, rfl, rfl, trivial, HM.out⟩
    ·cases ho
     cases (getBX hall 0 rfl : m0 = true)
     simp at hun; subst hun
     clear hall hi
     have x2 := (HWX.out W HM.out).1
     go_simp
     exact hK.out _ _ ⟨true, true, m2, m3, m4, m5, m6, m7, rfl, rfl, trivial, HM.out⟩
    ·cases ho
     cases (getBX hall 1 rfl : m1 = true)
     simp at hun; subst hun
     clear hall hi
     go_simp
     exact hK.out _ _ ⟨m0, true, true, m3, m4, m5, m6, m7, rfl, rfl, trivial, HM.out⟩
    ·cases ho
     cases (getBX hall 2 rfl : m2 = true)
     simp at hun; subst hun
     clear hall hi
     obtain ⟨-, -, a0, a1, a2⟩ := HWX.out W HM.out
     go_simp
     exact hK.out _ _ ⟨m0, m1, true, true, m4, m5, m6, m7, rfl, rfl, trivial, HM.out⟩
    ·cases ho
     simp at hun; subst hun
     clear hall hi
     have x3 := (HWX.out W HM.out).2.1
     go_simp
     exact hK.out _ _ ⟨m0, m1, m2, m3, true, m5, m6, m7, rfl, rfl, trivial, HM.out⟩
    ·cases ho
     cases (getBX hall 3 rfl : m3 = true)
     cases (getBX hall 4 rfl : m4 = true)
     simp at hun; subst hun
     clear hall hi
     go_simp
     refine (HCL2.out W HM.out).mono ?_
     rintro e W' ⟨rfl, hb⟩
     have HN' := Lib.hid (HM.out.trans (hb.mono HM.out.size))
     exact hK.out _ _ ⟨m0, m1, m2, true, true, true, m6, m7, rfl, rfl, trivial, HN'.out⟩
    ·cases ho
     cases (getBX hall 5 rfl : m5 = true)
     simp at hun; subst hun
     clear hall hi
     go_simp
     exact hK.out _ _ ⟨m0, m1, m2, m3, m4, true, true, m7, rfl, rfl, trivial, HM.out⟩
    ·cases ho
     cases (getBX hall 0 rfl : m0 = true)
     cases (getBX hall 1 rfl : m1 = true)
     cases (getBX hall 2 rfl : m2 = true)
     cases (getBX hall 3 rfl : m3 = true)
     cases (getBX hall 4 rfl : m4 = true)
     cases (getBX hall 5 rfl : m5 = true)
     cases (getBX hall 6 rfl : m6 = true)
     simp at hun; subst hun
     clear hall hi
     go_simp
     exact hK.out _ _ ⟨true, true, true, true, true, true, true, true, rfl, rfl, trivial, HM.out⟩
   ·rintro ll aa W ⟨m0, m1, m2, m3, m4, m5, m6, m7, rfl, rfl, _, hm⟩ hall
    cases (hall 0 (by decide) : m0 = true)
    cases (hall 1 (by decide) : m1 = true)
    cases (hall 2 (by decide) : m2 = true)
    cases (hall 3 (by decide) : m3 = true)
    cases (hall 4 (by decide) : m4 = true)
    cases (hall 5 (by decide) : m5 = true)
    cases (hall 6 (by decide) : m6 = true)
    cases (hall 7 (by decide) : m7 = true)
    clear hall
    have HME := Lib.hid hm
    clear hm
    dsimp only [cwX, cond_true]
    go_wp2_with fail
    go_ret
    exact ⟨rfl, HX.out.trans (HME.out.mono HX.out.size)⟩
  ·rw [if_neg (by decide), if_neg (by decide), if_pos rfl, List.all_eq_not_any_not]
   have HC := Lib.hid (con1_any vb (X.heap.size + 1) vals l HKID.out n HN.out hl1 A c _ HA.out HV.out HBK.out.lt (HBK.out.cell 0))
   obtain ⟨r, hr⟩ : ∃ r, r = l.any fun t => !(t.val (vf vals)) := ⟨_, rfl⟩
   rw [← hr] at HC ⊢
   clear hr hq h3 hn hl1
   go_enter Tryz.func76, Tryz.ntmps76
   go_wp2_with fail
   refine HC.out.mono ?_
   rintro e w3 ⟨rfl, hb⟩
   have HB := Lib.hid (HX.out.trans (hb.mono HX.out.size))
   clear hb
   go_wp2_with fail
   go_ret
   exact ⟨rfl, HB.out⟩
  ·rw [if_neg (by decide), if_neg (by decide), if_neg (by decide), if_pos rfl]
   have HC := Lib.hid (con2_any vb (X.heap.size + 1) vals l HKID.out n HN.out hl1 A c _ HA.out HV.out HBK.out.lt (HBK.out.cell 0))
   obtain ⟨r, hr⟩ : ∃ r, r = l.any fun t => t.val (vf vals) := ⟨_, rfl⟩
   rw [← hr] at HC
   rw [show l.any (Fm.val (vf vals)) = r from hr.symm]
   clear hr hq h3 hn hl1
   go_enter Tryz.func76, Tryz.ntmps76
   go_wp2_with fail
   refine HC.out.mono ?_
   rintro e w3 ⟨rfl, hb⟩
   have HB := Lib.hid (HX.out.trans (hb.mono HX.out.size))
   clear hb
   go_wp2_with fail
   go_ret
   exact ⟨rfl, HB.out⟩
  ·rw [if_neg (by decide), if_neg (by decide), if_neg (by decide), if_neg (by decide)]
   clear hq h3 hn hl1
   go_enter Tryz.func76, Tryz.ntmps76
   go_wp2_with fail
   go_ret
   exact ⟨rfl, HX.out⟩
  ·rw [if_neg (by decide), if_neg (by decide), if_neg (by decide), if_neg (by decide)]
   clear hq h3 hn hl1
   go_enter Tryz.func76, Tryz.ntmps76
   go_wp2_with fail
   go_ret
   exact ⟨rfl, HX.out⟩
end Go.Proofs.YtaegjpancbmppaaGreatDoor
namespace Go.Proofs.YtaegjpancbmppaaGreatDoor
def rowV (n r : Nat) : List Bool := (List.range n).map fun i => r.testBit i
theorem rowV_len (n r : Nat) : (rowV n r).length = n := by unfold rowV; rw [List.length_map, List.length_range]
theorem rowV_get {n r i : Nat} (h : i < n) : vf (rowV n r) (i : Int) = r.testBit i := by
 unfold vf rowV
 rw [Int.toNat_natCast, List.getD_eq_getElem?_getD, List.getElem?_map, List.getElem?_range h]
 rfl
def tabK (n : Nat) (t : Fm) (k : Nat) : List Nat := (List.range k).filter fun r => t.val (vf (rowV n r))
def tabF (n : Nat) (t : Fm) : List Nat := tabK n t (2 ^ n)
theorem tabK_succ (n : Nat) (t : Fm) (k : Nat) : tabK n t (k + 1) = if t.val (vf (rowV n k)) = true then tabK n t k ++ [k] else tabK n t k := by
 unfold tabK
 rw [List.range_succ, List.filter_append]
 by_cases h : t.val (vf (rowV n k)) = true
 ·rw [if_pos h, List.filter_cons_of_pos (p := fun r => t.val (vf (rowV n r))) h]; rfl
 ·rw [if_neg h, List.filter_cons_of_neg (p := fun r => t.val (vf (rowV n r))) h, List.filter_nil, List.append_nil]
theorem tabK_len (n : Nat) (t : Fm) (k : Nat) : (tabK n t k).length ≤ k := by
 have := List.length_filter_le (fun r => t.val (vf (rowV n r))) (List.range k); rwa [List.length_range] at this
theorem tabF_mem {n : Nat} {t : Fm} {r : Nat} : r ∈ tabF n t ↔ r < 2 ^ n ∧ t.val (vf (rowV n r)) = true := by unfold tabF tabK; rw [List.mem_filter, List.mem_range]
theorem lit_val (f : Int → Bool) (v i : Nat) : (litT v i).val f = (f (i : Int) == v.testBit i) := by
 unfold litT
 cases v.testBit i with
 | true => rw [if_pos rfl, Fm.val_eq, if_pos rfl]; cases f (i : Int) <;> rfl
 | false =>
  rw [if_neg (by simp), Fm.val_eq, if_neg (by decide), if_pos rfl, List.map_cons, Fm.val_eq, if_pos rfl]
  cases f (i : Int) <;> rfl
theorem prod_val {n r : Nat} {x : Nat × Nat} (h1 : x.1 < 2 ^ n) (h2 : adn x.2 x.1 = 0) : (prodT n ((x.1 : Int), (x.2 : Int))).val (vf (rowV n r)) = hasB x r := by
 unfold prodT
 rw [Fm.val_eq, if_neg (by decide), if_neg (by decide), if_pos rfl, Bool.eq_iff_iff]
 unfold hasB litsT
 rw [beq_iff_eq, List.all_eq_true]
 simp only [Int.toNat_natCast]
 constructor
 ·intro h
  apply Nat.eq_of_testBit_eq
  intro i
  rw [Nat.testBit_and]
  cases hc : x.1.testBit i with
  | false =>
   rw [Bool.and_false]
   cases hv : x.2.testBit i with
   | false => rfl
   | true => rw [adn_nil.1 h2 i hv] at hc; cases hc
  | true =>
   have hi : i < n := Classical.byContradiction fun hni => by
    rw [Nat.testBit_lt_two_pow (Nat.lt_of_lt_of_le h1 (Nat.pow_le_pow_right (by decide) (show n ≤ i by omega)))] at hc
    cases hc
   have := h _ (List.mem_map.2 ⟨i, List.mem_filter.2 ⟨List.mem_range.2 hi, hc⟩, rfl⟩)
   rw [lit_val, rowV_get hi, beq_iff_eq] at this
   rw [this, Bool.and_true]
 ·intro h t ht
  obtain ⟨i, hi, rfl⟩ := List.mem_map.1 ht
  obtain ⟨hi, hc⟩ := List.mem_filter.1 hi
  rw [lit_val, rowV_get (List.mem_range.1 hi), beq_iff_eq, ← h, Nat.testBit_and, hc, Bool.and_true]
theorem sum_val {n r : Nat} {S : List (Nat × Nat)} (h : ∀ x ∈ S, x.1 < 2 ^ n ∧ adn x.2 x.1 = 0) : (Fm.nd 4 0 ((cqI S).map (prodT n))).val (vf (rowV n r)) = S.any fun x => hasB x r := by
 rw [Fm.val_eq, if_neg (by decide), if_neg (by decide), if_neg (by decide), if_pos rfl]
 unfold cqI
 rw [List.map_map, List.any_map]
 induction S with
 | nil => rfl
 | cons x S ih =>
  rw [List.any_cons, List.any_cons, ih fun y hy => h y (List.mem_cons_of_mem _ hy)]
  congr 1
  obtain ⟨h1, h2⟩ := h x (List.mem_cons_self ..)
  exact prod_val h1 h2
theorem sum_table {q may : Nat} {no : List Nat} {S : List (Nat × Nat)} (hq : q ≤ 8) (ho : ∀ r ∈ no, r < 2 ^ q) (h : SumP q may no S) {r : Nat} :
  (r ∈ no → r ∈ tabF q (.nd 4 0 ((cqI S).map (prodT q)))) ∧ (r ∈ tabF q (.nd 4 0 ((cqI S).map (prodT q))) → may.testBit r = true) := by
 have hS : ∀ x ∈ S, x.1 < 2 ^ q ∧ adn x.2 x.1 = 0 := fun x hx => by
  obtain ⟨h1, h2⟩ := prF_mem.1 ((prS_mem hq).1 (h.1 x hx))
  exact ⟨h1, (prV_mem.1 h2).2.1⟩
 constructor
 ·intro hr
  have hr2 := ho r hr
  rw [tabF_mem, sum_val hS, List.any_eq_true]
  exact ⟨hr2, h.2 r hr⟩
 ·intro hr
  rw [tabF_mem] at hr
  obtain ⟨hr2, hv⟩ := hr
  rw [sum_val hS, List.any_eq_true] at hv
  obtain ⟨x, hx, hb⟩ := hv
  obtain ⟨-, hp1, -⟩ := (prV_mem.1 (prF_mem.1 ((prS_mem hq).1 (h.1 x hx))).2).2
  unfold hasB at hb
  rw [beq_iff_eq] at hb
  exact impB_iff.1 hp1 r hr2 hb
end Go.Proofs.YtaegjpancbmppaaGreatDoor
namespace Go.Proofs.YtaegjpancbmppaaGreatDoor
theorem nodesL_ex : ∀ {l : List Fm} {x : Int × Int × Nat}, x ∈ nodesL l → ∃ t ∈ l, x ∈ t.nodes
 | [], x, h => by rw [nodesL] at h; cases h
 | y :: l, x, h => by
  rw [nodesL] at h
  rcases List.mem_append.1 h with h | h
  ·exact ⟨y, List.mem_cons_self .., h⟩
  ·obtain ⟨t, ht, hx⟩ := nodesL_ex h
   exact ⟨t, List.mem_cons_of_mem _ ht, hx⟩
theorem Fm.all_nd {Q : Int → Int → Nat → Prop} {k a : Int} {l : List Fm} (h : Q k a l.length) (hl : ∀ s ∈ l, s.all Q) : (Fm.nd k a l).all Q := fun x hx => by
 rw [Fm.nodes] at hx
 rcases List.mem_cons.1 hx with rfl | hx
 ·exact h
 ·obtain ⟨t, ht, hx⟩ := nodesL_ex hx
  exact hl t ht x hx
def mkT (b k : Nat) : Nat := if b % 8 = 4 then min k 1 else min k (b / 8 / 2 % 4)
def mkK (b : Nat) : Int := if b % 8 = 4 then 2 else ((3 + b / 8 % 2 : Nat) : Int)
def mkS (st : List Fm) (b : Nat) : List Fm :=
 if b % 8 < 3 then st ++ [.nd 1 ((b / 8 % 6 : Nat) : Int) []]
 else if b % 8 = 3 then st ++ [.nd ((5 + b / 8 % 2 : Nat) : Int) 0 []]
 else if b % 8 = 4 ∧ st.length = 0 then [.nd 2 0 [.nd 1 ((b / 8 % 6 : Nat) : Int) []]]
 else st.take (st.length - mkT b st.length) ++ [.nd (mkK b) 0 (st.drop (st.length - mkT b st.length))]
def mkL (l : List Nat) (k : Nat) : List Fm := (l.take k).foldl mkS []
def mkF (l : List Nat) : Fm := if (mkL l (min l.length 30)).length = 1 then (mkL l (min l.length 30)).headD default else .nd 3 0 (mkL l (min l.length 30))
def node6 (k a : Int) (m : Nat) : Prop := nodeOK k a m ∧ (k = 1 → 0 ≤ a ∧ a < 6)
def StOK (st : List Fm) (n : Nat) : Prop := (∀ s ∈ st, s.all node6) ∧ sizeL st ≤ n
end Go.Proofs.YtaegjpancbmppaaGreatDoor
