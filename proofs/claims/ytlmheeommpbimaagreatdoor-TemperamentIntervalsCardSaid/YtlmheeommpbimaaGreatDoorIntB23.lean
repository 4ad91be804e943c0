/- Part 23 of 46 of the proof of the law: contracts of the functions that it reaches, and plain facts. Conditions: those that each contract names. -/
import Derived.Test.YtlmheeommpbimaaGreatDoorRows
import Derived.Test.YtlmheeommpbimaaGreatDoorIntB03
import Derived.Test.YtlmheeommpbimaaGreatDoorIntB01
import Derived.BigQuiet
import Derived.Test.YtlmheeommpbimaaGreatDoorIntB04
import Derived.Test.YtlmheeommpbimaaGreatDoorIntB02
import Derived.Lib.AtoiErrMem
import Derived.Lib.TrimByte
import Derived.Deep.AppendLies
import Derived.Deep.RegionLaw
import Derived.Lib.Hide
namespace Go.Proofs.YtlmheeommpbimaaGreatDoor
section
open Go.RowKit
abbrev n64v : Nat → Value := fun x => .int .i64 (x : Int)
set_option maxHeartbeats 400000 in
theorem short_any (L : List Nat) (A : Option Addr) (cap Bd : Nat) (w : World) (hr : Rd n64v w Bd A L) (hsm : Small4 L) (hcap : L.length ≤ cap) (hmax : L.length ≤ 1000000000000) :
  Calls Tryz.prog 129 #[.slice A L.length cap] w fun e w' => e = .returned (.slice A (grps (gv L)).length cap) ∧ w = w' := by
 go_enter Tryz.func129, Tryz.ntmps129
 go_wp2
 go_loop [0] (fun v => ∃ k : Nat, k ≤ L.length ∧ gv (L.take k) = gv L ∧ v = .slice A k cap) (fun v => lenOf v)
 case atStart => exact ⟨L.length, Nat.le_refl _, by rw [List.take_length], rfl⟩
 case round =>
  obtain ⟨k, hk, he, rfl⟩ := hrel
  have HE := Lib.hid he
  clear he
  by_cases hk0 : k = 0
  ·subst hk0
   go_wp2
   go_ret
   exact ⟨ret_slice (grps_len_of L hsm 0 (Nat.zero_le _) HE.out (fun h => absurd h (by omega))).symm, rfl⟩
  ·obtain ⟨j, rfl⟩ : ∃ j, k = j + 1 := ⟨k - 1, by omega⟩
   obtain ⟨b, off, rfl, hb, hc⟩ := hr.at_ (by omega)
   obtain ⟨x, hx⟩ : ∃ x, x = L[j] := ⟨_, rfl⟩
   have hcj : w.cell? ⟨b, off + j, none⟩ = some (.int .i64 (x : Int)) := by rw [hc j (by omega), hx]
   have HX := Lib.hid hx
   clear hx hc
   by_cases hx0 : x = 0
   ·have h0 : ((x : Int) == 0) = true := by subst hx0; rfl
    go_wp2
    go_round
    case rel => exact ⟨j, by omega, by rw [← HE.out, gv_take_succ L j (by omega), ← HX.out, hx0]; simp, rfl⟩
    case measure => simp [lenOf]
   ·have h0 : ((x : Int) == 0) = false := by simp; exact hx0
    go_wp2
    go_ret
    exact ⟨ret_slice (grps_len_of L hsm (j + 1) hk HE.out (fun _ => by rw [show L[j + 1 - 1]'(by omega) = x from HX.out.symm]; exact hx0)).symm, rfl⟩
theorem short_len (L : List Nat) (n : Nat) (hn : L.length = n) (A : Option Addr) (cap Bd : Nat) (w : World) (hr : Rd n64v w Bd A L) (hsm : Small4 L) (hcap : n ≤ cap) (hmax : n ≤ 1000000000000) :
  Calls Tryz.prog 129 #[.slice A n cap] w fun e w' => e = .returned (.slice A (grps (gv L)).length cap) ∧ w = w' := by
 subst hn
 exact short_any L A cap Bd w hr hsm hcap hmax
end
section
open Go.RowKit
theorem decFrom_digs : ∀ (l : List UInt8) (a : Nat), Digs l → Lib.decFrom a l = some (a * 10 ^ l.length + dval l)
 | [], a, _ => by simp [Lib.decFrom, dval]
 | c :: l, a, h => by
  have hc := h c (List.mem_cons_self ..)
  have hl : Digs l := fun x hx => h x (List.mem_cons_of_mem _ hx)
  have ih := decFrom_digs l (a * 10 + (c.toNat - 48)) hl
  have hd : Lib.digitVal c = some (c.toNat - 48) := if_pos hc
  simp only [Lib.decFrom, hd]
  rw [ih]
  have e : dval (c :: l) = (c.toNat - 48) * 10 ^ l.length + dval l := by
   have := foldl_dval l (10 * 0 + (c.toNat - 48))
   rw [Nat.mul_zero, Nat.zero_add] at this
   unfold dval
   rw [List.foldl_cons, Nat.mul_zero, Nat.zero_add]
   exact this
  rw [e, List.length_cons, Nat.pow_succ]
  congr 1
  rw [Nat.add_mul, Nat.mul_assoc, Nat.mul_comm 10]; omega
theorem decNat_digs (l : List UInt8) (h : Digs l) (hl : l ≠ []) : Lib.decNat l = some (dval l) := by
 unfold Lib.decNat
 rw [if_neg (by simpa using hl), decFrom_digs l 0 h]; simp
theorem atoi_digs (l : List UInt8) (h : Digs l) (hl : l ≠ []) : Lib.atoi l = some (dval l : Int) := by
 cases l with
 | nil => exact absurd rfl hl
 | cons c l =>
  have hc := h c (List.mem_cons_self ..)
  have h1 : (c == 45) = false := by
   rw [beq_eq_false_iff_ne]; rintro rfl; revert hc; decide
  have h2 : (c == 43) = false := by
   rw [beq_eq_false_iff_ne]; rintro rfl; revert hc; decide
  unfold Lib.atoi
  simp only [h1, h2, Bool.false_eq_true, if_false]
  rw [decNat_digs _ h hl]; rfl
theorem atoi_itoa (z : Int) : Lib.atoi (Lib.itoa z) = some z := by
 by_cases h : z < 0
 ·obtain ⟨u, rfl⟩ : ∃ u : Nat, z = -(u : Int) := ⟨z.natAbs, by omega⟩
  rw [Lib.itoa_neg u (by omega)]
  unfold Lib.atoi
  simp only [show ((45 : UInt8) == 45) = true from rfl, if_true]
  rw [decNat_digs _ (digs_dec _) (dec_ne_nil _), dval_dec]
  rfl
 ·obtain ⟨n, rfl⟩ := Int.eq_ofNat_of_zero_le (show 0 ≤ z by omega)
  rw [Lib.itoa_nonneg, atoi_digs _ (digs_dec _) (dec_ne_nil _), dval_dec]
theorem atoi_any (s : ByteArray) (n : Int) (w : World) (hl : s.size ≤ 18) (h : Lib.atoi s.data.toList = some n) :
  Calls Tryz.prog 127 #[.string s] w fun e w' => e = .returned (.tuple #[.int .i64 n, .nilIface]) ∧ Below w.heap.size w w' :=
 (Tryz.strconv_Atoi s n hl h w).mono fun e w' ⟨he, t, hw⟩ => ⟨he, by rw [hw]; exact Lib.bytesWorld_below _ _ _⟩
theorem atoi_dig (s : ByteArray) (w : World) (hl : s.size ≤ 18) (h0 : 0 < s.size) (h : Digs s.data.toList) :
  Calls Tryz.prog 127 #[.string s] w fun e w' => e = .returned (.tuple #[.int .i64 (dval s.data.toList), .nilIface]) ∧ Below w.heap.size w w' :=
 atoi_any s _ w hl (atoi_digs _ h (fun e => by have : s.data.toList.length = 0 := by rw [e]; rfl
                                               rw [Array.length_toList] at this
                                               exact absurd this (by show s.size ≠ 0; omega)))
theorem atoi_dec (z : Int) (w : World) (hl : (dec z).size ≤ 18) :
  Calls Tryz.prog 127 #[.string (dec z)] w fun e w' => e = .returned (.tuple #[.int .i64 z, .nilIface]) ∧ Below w.heap.size w w' :=
 atoi_any _ z w hl (by rw [dec_list]; exact atoi_itoa z)
end
section
open Go.RowKit
theorem group_step (ds : List UInt8) (e : Nat) (h4 : 4 < e) (he : e ≤ ds.length) (L : List Nat) (hg : gv L = dval (ds.drop e)) (hl : 4 * L.length = ds.length - e) :
  gv (L ++ [dval ((ds.take e).drop (e - 4))]) = dval (ds.drop (e - 4)) := by
 rw [gv_append, gv_one, hg]
 have e1 : ds.drop (e - 4) = (ds.take e).drop (e - 4) ++ ds.drop e := by
  rw [List.drop_take, show e - (e - 4) = 4 by omega]
  have := List.take_append_drop 4 (ds.drop (e - 4))
  rw [List.drop_drop, show e - 4 + 4 = e by omega] at this
  exact this.symm
 rw [e1, dval_append, List.length_drop, ← hl, Nat.pow_mul, Nat.mul_comm (dval _), Nat.add_comm]
theorem group_last (ds : List UInt8) (e : Nat) (he : e ≤ ds.length) (L : List Nat) (hg : gv L = dval (ds.drop e)) (hl : 4 * L.length = ds.length - e) :
  gv (L ++ [dval (ds.take e)]) = dval ds := by
 rw [gv_append, gv_one, hg]
 have e1 : ds = ds.take e ++ ds.drop e := (List.take_append_drop e ds).symm
 rw [show dval ds = dval (ds.take e ++ ds.drop e) by rw [List.take_append_drop], dval_append, List.length_drop, ← hl, Nat.pow_mul, Nat.mul_comm (dval _), Nat.add_comm]
theorem dval_lt4 (l : List UInt8) (h : Digs l) (hl : l.length ≤ 4) : dval l < 10000 := by
 have h1 := dval_lt l h
 have h2 : (10 : Nat) ^ l.length ≤ 10 ^ 4 := Nat.pow_le_pow_right (by decide) hl
 omega
theorem own_belowG {w w' : World} {base : Nat} {e : TypeId} {size n : Nat} {v : Value} {xs : List Value} (h : w.ownsRow base e size v n xs) (hb : Below w.heap.size w w') : w'.ownsRow base e size v n xs := by
 refine ⟨h.1, ?_⟩
 rcases h.2 with hn | ⟨g, cap, cur, hv, hb', hg, r⟩
 ·exact .inl hn
 ·refine .inr ⟨g, cap, cur, hv, hb', ?_, r⟩
  have hlt : g < w.heap.size := by
   rcases Nat.lt_or_ge g w.heap.size with h | h
   ·exact h
   ·rw [Array.getElem?_eq_none h] at hg; cases hg
  rw [hb.block g hlt]; exact hg
def RetGrp (p : Nat) (w : World) (e : Ending) (w' : World) : Prop :=
 ∃ A cap, e = .returned (.slice A (grps p).length cap) ∧ Rd n64v w' w'.heap.size A (grps p) ∧ (grps p).length ≤ cap ∧ Below w.heap.size w w'
theorem infoIntG : (Tryz.prog.info? 3).map (fun i => (i.zero, i.size, i.bytes)) = some (some (.int .i64 0), 1, 8) := by kernel_rfl
def szOf : Value → Nat
 | .string b => b.size
 | _ => 0
set_option maxRecDepth 100000 in
set_option maxHeartbeats 2000000 in
theorem group_any (s : ByteArray) (w : World) (hd : Digs s.data.toList) (h0 : 0 < s.size) (h1 : s.size ≤ 1000000) :
  Calls Tryz.prog 110 #[.string s] w (RetGrp (dval s.data.toList) w) := by
 obtain ⟨i0, hi, hz0, hz1, hz2⟩ := info_parts infoIntG
 obtain ⟨D, hD⟩ : ∃ D, D = s.data.toList := ⟨_, rfl⟩
 have hlen : D.length = s.size := by rw [hD, Array.length_toList]; rfl
 rw [← hD] at hd ⊢
 have HHI := Lib.hid hi
 have HZ0 := Lib.hid hz0
 have HZ1 := Lib.hid hz1
 have HZ2 := Lib.hid hz2
 have HLEN := Lib.hid hlen
 have HD := Lib.hid hD
 clear hlen hi hz0 hz1 hz2 hD
 go_enter Tryz.func110, Tryz.ntmps110
 go_wp2
 go_loopw [0, 3] (fun sv m wr => ∃ (t : ByteArray) (L : List Nat) (A : Option Addr) (c : Nat), sv = .string t ∧ m = .slice A L.length c ∧ 0 < t.size ∧ Lib.Kept (t.size ≤ D.length ∧ t.data.toList = D.take t.size ∧ 4 * L.length = D.length - t.size ∧ gv L = dval (D.drop t.size) ∧ Small4 L) ∧
   wr.ownsRow w.heap.size 3 1 (.slice A L.length c) L.length (L.map n64v) ∧ Below w.heap.size w wr)
  (fun sv _ _ => szOf sv)
 case atStart => exact ⟨s, [], none, 0, rfl, rfl, h0, ⟨by rw [HLEN.out]; exact Nat.le_refl _, by rw [← HLEN.out, List.take_length, HD.out], by rw [HLEN.out]; simp, by rw [← HLEN.out, List.drop_length]; rfl, Small4.nil⟩, World.ownsRow_nil _ _ _ _, Below.refl _ _⟩
 case round =>
  obtain ⟨t, L, A, ca, rfl, rfl, ht0, hkept, hown, hb⟩ := hrel
  have HK := Lib.hid hkept
  have HO := Lib.hid hown
  have HB := Lib.hid hb
  have htD : t.size ≤ D.length := hkept.1
  clear hkept hown hb
  by_cases h4 : 4 < t.size
  ·obtain ⟨f, hf⟩ : ∃ f, t.size = f + 4 := ⟨t.size - 4, by omega⟩
   have hf0 : 0 < f := by omega
   have hf1 : f ≤ 1000000 := by have := HLEN.out; omega
   clear h4 htD ht0
   obtain ⟨c, hc⟩ : ∃ c, c = t.extract f (f + 4) := ⟨_, rfl⟩
   obtain ⟨C, hC⟩ : ∃ C, C = (D.take (f + 4)).drop f := ⟨_, rfl⟩
   have htk := HK.out.2.1
   rw [hf] at htk
   have hcC : c.data.toList = C := by
    rw [hc, Lib.extract_data, hC, htk, show f + 4 - f = 4 by omega, List.take_of_length_le (by rw [List.length_drop, List.length_take]; omega)]
   have hdC : Digs C := by rw [hC]; exact (hd.take _).drop _
   have hCl : C.length = 4 := by
    have := HK.out.1
    rw [hC, List.length_drop, List.length_take]; omega
   have hcs : c.size = 4 := by
    have : c.data.toList.length = 4 := by rw [hcC]; exact hCl
    rw [Array.length_toList] at this
    exact this
   obtain ⟨x, hx⟩ : ∃ x, x = dval C := ⟨_, rfl⟩
   have hx4 : x < 10000 := by rw [hx]; exact dval_lt4 C hdC (by omega)
   have hat := fun W => atoi_dig c W (by omega) (by omega) (by rw [hcC]; exact hdC)
   rw [hcC, ← hx, hc] at hat
   have HAT := Lib.hid hat
   have HX := Lib.hid hx
   have HCC := Lib.hid hC
   have hL : L.length ≤ 1000000 := by have := HK.out.2.2.1; have := HLEN.out; omega
   have hte : t.extract 0 f = t.extract 0 f := rfl
   clear hat hx hC hcC hdC hCl hcs hc htk hte
   go_wp2_with fail
   refine (HAT.out _).mono ?_
   rintro e w2 ⟨rfl, hk⟩
   have HO2 := Lib.hid (own_belowG HO.out hk)
   have HB2 := Lib.hid (HB.out.trans (hk.mono HB.out.size))
   clear hk HO HB HAT
   go_wp2_with fail
   have hwf : IntKind.i64.wrap (f : Int) = (f : Int) := IntWalk.i64_in _ (by omega)
   have hfi : (f : Int) ≤ (f : Int) + 4 := by omega
   have hfj : (0 : Int) ≤ (f : Int) := by omega
   go_region_law (refine step_append_lies _ rfl (.tmp 20) (.tmp 22) 69 rfl w.heap.size 3 i0 (.int .i64 0) 1 8 Tryz.underlying69 HHI.out HZ0.out HZ1.out HZ2.out rfl (by decide) (.slice A L.length ca) L.length (L.map n64v) (by simp [Act.eval, Act.put]) (by first | exact (HO2.out.drew).alloc _ | exact (HO2.out.alloc _).drew | exact ((HO2.out.drew).alloc _).drew) ⟨w2.heap.size, 0, none⟩ 1 1 [.int .i64 x] (by simp [Act.eval, Act.put]) rfl (by first | exact cell_one_new _ _ _ | (intro j u hj; have h := cell_one_new w2 (.int .i64 x) 3 j u hj; exact h)) (by simp [Value.oneCell']) (by omega) (by unfold maxLen; omega) (by omega) (by have := HB2.out.size; simp; omega) _ rfl ?_; intro g' cap' w3 hown' hgrow hat' hlt')
   have hb3 : Below w.heap.size w w3 := ((HB2.out.alloc HB2.out.size _).drew).grown hgrow (by have := HB2.out.size; simp; omega) (fun g hg => (HO2.out.lt g hg).1)
   have hts : (t.extract 0 f).size = f := by rw [ByteArray.size_extract, hf]; omega
   have htd : (t.extract 0 f).data.toList = D.take f := by
    rw [Lib.extract_data, HK.out.2.1, hf, List.drop_zero, Nat.sub_zero, List.take_take, Nat.min_eq_left (by omega)]
   obtain ⟨t2, ht2⟩ : ∃ t2, t2 = t.extract 0 f := ⟨_, rfl⟩
   rw [← ht2] at hts htd ⊢
   have hkk : t2.size ≤ D.length ∧ t2.data.toList = D.take t2.size ∧ 4 * (L ++ [x]).length = D.length - t2.size ∧ gv (L ++ [x]) = dval (D.drop t2.size) ∧ Small4 (L ++ [x]) := by
    obtain ⟨k1, k2, k3, k4, k5⟩ := HK.out
    rw [hf] at k1 k3 k4
    rw [hts]
    refine ⟨by omega, htd, by rw [List.length_append, List.length_singleton]; omega, ?_, k5.append (Small4.one hx4)⟩
    have h := group_step D (f + 4) (by omega) k1 L k4 k3
    rw [show f + 4 - 4 = f by omega, ← HCC.out, ← HX.out] at h
    exact h
   have HKK := Lib.hid hkk
   have HB3 := Lib.hid hb3
   have HO3 := Lib.hid hown'
   clear hkk hb3 hown' hgrow hat' hlt' htd ht2 hwf hfi hfj
   simp only [List.getElem_toArray, List.getElem_cons_succ, List.getElem_cons_zero, Act.put, List.setIfInBounds_toArray, List.set_cons_zero, List.set_cons_succ]
   go_wp2
   go_roundw
   case rel => exact ⟨t2, L ++ [x], some ⟨g', 0, none⟩, cap', rfl, by rw [List.length_append]; rfl, by omega, HKK.out, by rw [List.length_append, List.map_append]; exact HO3.out, HB3.out⟩
   case measure => simp [szOf]; omega
  ·have hts4 : t.size ≤ 4 := by omega
   obtain ⟨x, hx⟩ : ∃ x, x = dval (D.take t.size) := ⟨_, rfl⟩
   have htl : (D.take t.size).length ≤ 4 := by rw [List.length_take]; omega
   have hx4 : x < 10000 := by rw [hx]; exact dval_lt4 _ (hd.take _) htl
   have hat := fun W => atoi_dig t W (by omega) ht0 (by rw [HK.out.2.1]; exact hd.take _)
   rw [HK.out.2.1, ← hx] at hat
   have HAT := Lib.hid hat
   have hL : L.length ≤ 1000000 := by have := HK.out.2.2.1; have := HLEN.out; omega
   have hval : gv (L ++ [x]) = dval D := by rw [hx]; exact group_last D t.size HK.out.1 L HK.out.2.2.2.1 HK.out.2.2.1
   have hsm : Small4 (L ++ [x]) := HK.out.2.2.2.2.append (Small4.one hx4)
   have HV := Lib.hid hval
   have HS := Lib.hid hsm
   clear hat hx htl hval hsm htD
   go_wp2_with fail
   refine (HAT.out _).mono ?_
   rintro e w2 ⟨rfl, hk⟩
   have HO2 := Lib.hid (own_belowG HO.out hk)
   have HB2 := Lib.hid (HB.out.trans (hk.mono HB.out.size))
   clear hk HO HB HAT
   go_wp2_with (at_builtin; refine wpList_append_own _ rfl _ _ 69 rfl w.heap.size 3 i0 (.int .i64 0) 1 8 Tryz.underlying69 HHI.out HZ0.out HZ1.out HZ2.out rfl (by decide) _ _ _ rfl (HO2.out.alloc _) ⟨w2.heap.size, 0, none⟩ 1 1 [.int .i64 x] rfl rfl (cell_one_new _ _ _) (by simp [Value.oneCell']) (by unfold maxLen; omega) (by omega) (by have := HB2.out.size; simp; omega) ?_)
   intro v' w3 hown' hgrow _
   obtain ⟨g', cap', rfl, hcap⟩ := own_form hown' (by omega)
   have hb3 : Below w.heap.size w w3 := (HB2.out.alloc HB2.out.size _).grown hgrow (by have := HB2.out.size; simp; omega) (fun g hg => (HO2.out.lt g hg).1)
   have hl2 : (L ++ [x]).length = L.length + 1 := by rw [List.length_append]; rfl
   have hrd : Rd n64v w3 w3.heap.size (some ⟨g', 0, none⟩) (L ++ [x]) := Rd.of_own (by rw [List.map_append]; exact hown') hl2.symm
   have hsh := short_len (L ++ [x]) (L.length + 1) hl2 (some ⟨g', 0, none⟩) cap' w3.heap.size w3 hrd HS.out hcap (by omega)
   rw [HV.out] at hsh
   have hle : (grps (dval D)).length ≤ L.length + 1 := by rw [← HV.out, ← hl2]; exact grps_len_le_len _ HS.out
   have heq : grps (dval D) = (L ++ [x]).take (grps (dval D)).length := by
    have h := grps_eq_take _ HS.out
    rw [HV.out] at h
    exact h
   have hrd2 : Rd n64v w3 w3.heap.size (some ⟨g', 0, none⟩) (grps (dval D)) := by rw [heq]; exact hrd.take _
   have HSH := Lib.hid hsh
   have HRD := Lib.hid hrd2
   have HB3 := Lib.hid hb3
   clear hsh hrd2 hb3 hrd hown' hgrow heq hl2
   go_wp2_with fail
   refine (HSH.out).mono ?_
   rintro e w4 ⟨rfl, rfl⟩
   go_wp2
   go_ret
   exact ⟨_, _, rfl, HRD.out, by omega, HB3.out⟩
end
end Go.Proofs.YtlmheeommpbimaaGreatDoor
namespace Go.Proofs.YtlmheeommpbimaaGreatDoor
section
open Go.RowKit
set_option maxRecDepth 100000 in
set_option maxHeartbeats 4000000 in
theorem both_add (G H : List Nat) (A1 A2 : Option Addr) (c1 c2 : Nat) (w : World) (hr1 : Rd n64v w w.heap.size A1 G) (hr2 : Rd n64v w w.heap.size A2 H) (hG : Small4 G) (hH : Small4 H)
  (hg : G.length ≤ 1000000) (hh : H.length ≤ 1000000) :
  Calls Tryz.prog 128 #[.slice A1 G.length c1, .slice A2 H.length c2, .int .i64 1] w (RetGrp (gv G + gv H) w) := by
 obtain ⟨i0, hi, hz0, hz1, hz2⟩ := info_parts infoIntG
 have HHI := Lib.hid hi
 have HZ0 := Lib.hid hz0
 have HZ1 := Lib.hid hz1
 have HZ2 := Lib.hid hz2
 have HG := Lib.hid hG
 have HH := Lib.hid hH
 clear hi hz0 hz1 hz2 hG hH
 go_enter Tryz.func128, Tryz.ntmps128
 go_wp2
 go_loopw [7, 8, 9] (fun m cv iv wr => ∃ (i k : Nat) (O : List Nat) (A : Option Addr) (cp : Nat), m = .slice A i cp ∧ cv = .int .i64 (k : Int) ∧ iv = .int .i64 (i : Int) ∧ k ≤ 1 ∧ i ≤ 1000001 ∧ Lib.Kept (BothInv G H O i k 1) ∧
   Lib.Kept (max G.length H.length < i → k = 0) ∧ wr.ownsRow w.heap.size 3 1 (.slice A i cp) i (O.map n64v) ∧ Below w.heap.size w wr)
  (fun _ _ iv _ => max G.length H.length + 1 - (intOf iv).toNat)
 case atStart => exact ⟨0, 0, [], none, 0, rfl, rfl, rfl, by omega, by omega, BothInv.start G H 1 (.inl rfl), (show _ → (0 : Nat) = 0 from fun _ => rfl), World.ownsRow_nil _ _ _ _, Below.refl _ _⟩
 case round =>
  obtain ⟨i, k, O, A, cp, rfl, rfl, rfl, hk, hi, hinv, hlast, hown, hb⟩ := hrel
  have HI := Lib.hid hinv
  have HL := Lib.hid hlast
  have HO := Lib.hid hown
  have HB := Lib.hid hb
  have R1 := hr1.below hb
  have R2 := hr2.below hb
  clear hinv hlast hown hb
  by_cases h1 : i < G.length
  ·by_cases h2 : i < H.length
   ·obtain ⟨b1, o1, rfl, _, q1⟩ := R1.at_ (by omega)
    obtain ⟨b2, o2, rfl, _, q2⟩ := R2.at_ (by omega)
    obtain ⟨x, hx⟩ : ∃ x, x = G[i] := ⟨_, rfl⟩
    obtain ⟨y, hy⟩ : ∃ y, y = H[i] := ⟨_, rfl⟩
    have d1 : wr.cell? ⟨b1, o1 + i, none⟩ = some (.int .i64 (x : Int)) := by rw [q1 i h1, hx]
    have d2 : wr.cell? ⟨b2, o2 + i, none⟩ = some (.int .i64 (y : Int)) := by rw [q2 i h2, hy]
    have hx4 : x < 10000 := by rw [hx]; exact HG.out.get i h1
    have hy4 : y < 10000 := by rw [hy]; exact HH.out.get i h2
    have HX := Lib.hid hx
    have HY := Lib.hid hy
    have hst := HI.out.step (t := (k : Int) + x + 1 * y) (c' := (((k + x + y) / 10000 : Nat) : Int)) (d := (k + x + y) % 10000) (x := x) (y := y) HG.out HH.out (by rw [hx, List.getElem?_eq_getElem h1]; rfl) (by rw [hy, List.getElem?_eq_getElem h2]; rfl) rfl (by omega) (by omega)
    have HST := Lib.hid hst
    clear hx hy q1 q2 hst
    go_wp2_with (at_builtin; refine wpList_append_own _ rfl _ _ 69 rfl w.heap.size 3 i0 (.int .i64 0) 1 8 Tryz.underlying69 HHI.out HZ0.out HZ1.out HZ2.out rfl (by decide) _ _ _ rfl (HO.out.alloc _) ⟨wr.heap.size, 0, none⟩ 1 1 [.int .i64 (((k : Int) + x + y) % 10000)] rfl rfl (cell_one_new _ _ _) (by simp [Value.oneCell']) (by unfold maxLen; omega) (by omega) (by have := HB.out.size; simp; omega) ?_)
    intro v' w3 hown' hgrow _
    obtain ⟨g', cap', rfl, hcap⟩ := own_form hown' (by omega)
    have hb3 : Below w.heap.size w w3 := (HB.out.alloc HB.out.size _).grown hgrow (by have := HB.out.size; simp; omega) (fun g hg => (HO.out.lt g hg).1)
    have ho3 : w3.ownsRow w.heap.size 3 1 (.slice (some ⟨g', 0, none⟩) (i + 1) cap') (i + 1) ((O ++ [(k + x + y) % 10000]).map n64v) := by
     rw [List.map_append, show [(k + x + y) % 10000].map n64v = [.int .i64 (((k : Int) + x + y) % 10000)] by simp]; exact hown'
    have HO3 := Lib.hid ho3
    have HB3 := Lib.hid hb3
    clear hown' hgrow hb3 ho3
    go_wp2
    go_roundw
    case rel => exact ⟨i + 1, (k + x + y) / 10000, O ++ [(k + x + y) % 10000], _, _, rfl, by first | go_num | (congr 1; omega), by go_num, by omega, by omega, HST.out, (show _ → (k + x + y) / 10000 = 0 from fun h => by omega), HO3.out, HB3.out⟩
    case measure => simp [intOf]; omega
   ·obtain ⟨b1, o1, rfl, _, q1⟩ := R1.at_ (by omega)
    obtain ⟨x, hx⟩ : ∃ x, x = G[i] := ⟨_, rfl⟩
    have d1 : wr.cell? ⟨b1, o1 + i, none⟩ = some (.int .i64 (x : Int)) := by rw [q1 i h1, hx]
    have hx4 : x < 10000 := by rw [hx]; exact HG.out.get i h1
    have HX := Lib.hid hx
    have hst := HI.out.step (t := (k : Int) + x + 1 * (0 : Nat)) (c' := (((k + x) / 10000 : Nat) : Int)) (d := (k + x) % 10000) (x := x) (y := 0) HG.out HH.out (by rw [hx, List.getElem?_eq_getElem h1]; rfl) (by rw [List.getElem?_eq_none (by omega)]; rfl) rfl (by omega) (by omega)
    have HST := Lib.hid hst
    clear hx q1 hst
    go_wp2_with (at_builtin; refine wpList_append_own _ rfl _ _ 69 rfl w.heap.size 3 i0 (.int .i64 0) 1 8 Tryz.underlying69 HHI.out HZ0.out HZ1.out HZ2.out rfl (by decide) _ _ _ rfl (HO.out.alloc _) ⟨wr.heap.size, 0, none⟩ 1 1 [.int .i64 (((k : Int) + x) % 10000)] rfl rfl (cell_one_new _ _ _) (by simp [Value.oneCell']) (by unfold maxLen; omega) (by omega) (by have := HB.out.size; simp; omega) ?_)
    intro v' w3 hown' hgrow _
    obtain ⟨g', cap', rfl, hcap⟩ := own_form hown' (by omega)
    have hb3 : Below w.heap.size w w3 := (HB.out.alloc HB.out.size _).grown hgrow (by have := HB.out.size; simp; omega) (fun g hg => (HO.out.lt g hg).1)
    have ho3 : w3.ownsRow w.heap.size 3 1 (.slice (some ⟨g', 0, none⟩) (i + 1) cap') (i + 1) ((O ++ [(k + x) % 10000]).map n64v) := by
     rw [List.map_append, show [(k + x) % 10000].map n64v = [.int .i64 (((k : Int) + x) % 10000)] by simp]; exact hown'
    have HO3 := Lib.hid ho3
    have HB3 := Lib.hid hb3
    clear hown' hgrow hb3 ho3
    go_wp2
    go_roundw
    case rel => exact ⟨i + 1, (k + x) / 10000, O ++ [(k + x) % 10000], _, _, rfl, by first | go_num | (congr 1; omega), by go_num, by omega, by omega, HST.out, (show _ → (k + x) / 10000 = 0 from fun h => by omega), HO3.out, HB3.out⟩
    case measure => simp [intOf]; omega
  ·by_cases h2 : i < H.length
   ·obtain ⟨b2, o2, rfl, _, q2⟩ := R2.at_ (by omega)
    obtain ⟨y, hy⟩ : ∃ y, y = H[i] := ⟨_, rfl⟩
    have d2 : wr.cell? ⟨b2, o2 + i, none⟩ = some (.int .i64 (y : Int)) := by rw [q2 i h2, hy]
    have hy4 : y < 10000 := by rw [hy]; exact HH.out.get i h2
    have HY := Lib.hid hy
    have hst := HI.out.step (t := (k : Int) + (0 : Nat) + 1 * y) (c' := (((k + y) / 10000 : Nat) : Int)) (d := (k + y) % 10000) (x := 0) (y := y) HG.out HH.out (by rw [List.getElem?_eq_none (by omega)]; rfl) (by rw [hy, List.getElem?_eq_getElem h2]; rfl) rfl (by omega) (by omega)
    have HST := Lib.hid hst
    clear hy q2 hst
    go_wp2_with (at_builtin; refine wpList_append_own _ rfl _ _ 69 rfl w.heap.size 3 i0 (.int .i64 0) 1 8 Tryz.underlying69 HHI.out HZ0.out HZ1.out HZ2.out rfl (by decide) _ _ _ rfl (HO.out.alloc _) ⟨wr.heap.size, 0, none⟩ 1 1 [.int .i64 (((k : Int) + y) % 10000)] rfl rfl (cell_one_new _ _ _) (by simp [Value.oneCell']) (by unfold maxLen; omega) (by omega) (by have := HB.out.size; simp; omega) ?_)
    intro v' w3 hown' hgrow _
    obtain ⟨g', cap', rfl, hcap⟩ := own_form hown' (by omega)
    have hb3 : Below w.heap.size w w3 := (HB.out.alloc HB.out.size _).grown hgrow (by have := HB.out.size; simp; omega) (fun g hg => (HO.out.lt g hg).1)
    have ho3 : w3.ownsRow w.heap.size 3 1 (.slice (some ⟨g', 0, none⟩) (i + 1) cap') (i + 1) ((O ++ [(k + y) % 10000]).map n64v) := by
     rw [List.map_append, show [(k + y) % 10000].map n64v = [.int .i64 (((k : Int) + y) % 10000)] by simp]; exact hown'
    have HO3 := Lib.hid ho3
    have HB3 := Lib.hid hb3
    clear hown' hgrow hb3 ho3
    go_wp2
    go_roundw
    case rel => exact ⟨i + 1, (k + y) / 10000, O ++ [(k + y) % 10000], _, _, rfl, by first | go_num | (congr 1; omega), by go_num, by omega, by omega, HST.out, (show _ → (k + y) / 10000 = 0 from fun h => by omega), HO3.out, HB3.out⟩
    case measure => simp [intOf]; omega
   ·have hM : max G.length H.length ≤ i := by omega
    by_cases hk0 : k = 0
    ·subst hk0
     have hfin := HI.out.done (by omega) (by omega)
     have hsum : gv O = gv G + gv H := by omega
     have hol := HI.out.1
     have hsm := HI.out.2.1
     have hcap := own_cap HO.out
     have hrd : Rd n64v wr wr.heap.size A O := Rd.of_own HO.out hol.symm
     have hsh := short_len O i hol A cp wr.heap.size wr hrd hsm hcap (by omega)
     rw [hsum] at hsh
     have hle : (grps (gv G + gv H)).length ≤ i := by rw [← hsum, ← hol]; exact grps_len_le_len _ hsm
     have heq : grps (gv G + gv H) = O.take (grps (gv G + gv H)).length := by
      have h := grps_eq_take _ hsm
      rw [hsum] at h
      exact h
     have hrd2 : Rd n64v wr wr.heap.size A (grps (gv G + gv H)) := by rw [heq]; exact hrd.take _
     have HSH := Lib.hid hsh
     have HRD := Lib.hid hrd2
     clear hsh hrd2 hrd heq hsm hol hsum hfin
     go_wp2_with fail
     refine (HSH.out).mono ?_
     rintro e w4 ⟨rfl, rfl⟩
     go_wp2
     go_ret
     exact ⟨_, _, rfl, HRD.out, by omega, HB.out⟩
    ·obtain rfl : k = 1 := by omega
     have hiM : i ≤ max G.length H.length := by
      have := HL.out
      by_cases hlt : max G.length H.length < i
      ·exact absurd (this hlt) (by omega)
      ·omega
     have hst := HI.out.step (t := 1) (c' := 0) (d := 1) (x := 0) (y := 0) HG.out HH.out (by rw [List.getElem?_eq_none (by omega)]; rfl) (by rw [List.getElem?_eq_none (by omega)]; rfl) rfl (by omega) (by omega)
     have HST := Lib.hid hst
     clear hst
     go_wp2_with (at_builtin; refine wpList_append_own _ rfl _ _ 69 rfl w.heap.size 3 i0 (.int .i64 0) 1 8 Tryz.underlying69 HHI.out HZ0.out HZ1.out HZ2.out rfl (by decide) _ _ _ rfl (HO.out.alloc _) ⟨wr.heap.size, 0, none⟩ 1 1 [.int .i64 1] rfl rfl (cell_one_new _ _ _) (by simp [Value.oneCell']) (by unfold maxLen; omega) (by omega) (by have := HB.out.size; simp; omega) ?_)
     intro v' w3 hown' hgrow _
     obtain ⟨g', cap', rfl, hcap⟩ := own_form hown' (by omega)
     have hb3 : Below w.heap.size w w3 := (HB.out.alloc HB.out.size _).grown hgrow (by have := HB.out.size; simp; omega) (fun g hg => (HO.out.lt g hg).1)
     have ho3 : w3.ownsRow w.heap.size 3 1 (.slice (some ⟨g', 0, none⟩) (i + 1) cap') (i + 1) ((O ++ [1]).map n64v) := by
      rw [List.map_append]; exact hown'
     have HO3 := Lib.hid ho3
     have HB3 := Lib.hid hb3
     clear hown' hgrow hb3 ho3
     go_wp2
     go_roundw
     case rel => exact ⟨i + 1, 0, O ++ [1], _, _, rfl, by first | go_num | rfl, by go_num, by omega, by omega, HST.out, (show _ → (0 : Nat) = 0 from fun _ => rfl), HO3.out, HB3.out⟩
     case measure => simp [intOf]; omega
end
section
open Go.RowKit
theorem tmod_parts (t : Int) (h : -10000 ≤ t) (h' : t ≤ 9999) : ∃ r : Int, t.tmod 10000 = r ∧ -9999 ≤ r ∧ r ≤ 9999 ∧ r % 10000 = t % 10000 ∧ (t - r % 10000).tdiv 10000 = t / 10000 := by
 have hq : (t - t % 10000).tdiv 10000 = t / 10000 := by
  rw [show t - t % 10000 = 10000 * (t / 10000) by omega, Int.mul_tdiv_cancel_left _ (by omega)]
 by_cases h0 : 0 ≤ t
 ·have e : t.tmod 10000 = t % 10000 := Int.tmod_eq_emod_of_nonneg h0
  refine ⟨_, e, by omega, by omega, by omega, ?_⟩
  rw [show t % 10000 % 10000 = t % 10000 by omega]; exact hq
 ·have e : t.tmod 10000 = -((-t) % 10000) := by
   rw [show t.tmod 10000 = (-(-t)).tmod 10000 by rw [Int.neg_neg], Int.neg_tmod, Int.tmod_eq_emod_of_nonneg (by omega)]
  refine ⟨_, e, by omega, by omega, by omega, ?_⟩
  rw [show -((-t) % 10000) % 10000 = t % 10000 by omega]; exact hq
set_option maxRecDepth 100000 in
set_option maxHeartbeats 4000000 in
theorem both_subX (G H : List Nat) (A1 A2 : Option Addr) (c1 c2 : Nat) (w : World) (hr1 : Rd n64v w w.heap.size A1 G) (hr2 : Rd n64v w w.heap.size A2 H) (hG : Small4 G) (hH : Small4 H)
  (hg : G.length ≤ 1000000) (hh : H.length ≤ 1000000) (hle : gv H ≤ gv G) :
  Calls Tryz.prog 128 #[.slice A1 G.length c1, .slice A2 H.length c2, .int .i64 (-1)] w (fun e w' => ∃ A cap, e = .returned (.slice A (grps (gv G - gv H)).length cap) ∧ Rd n64v w' w'.heap.size A (grps (gv G - gv H)) ∧ (grps (gv G - gv H)).length ≤ cap ∧ Below w.heap.size w w' ∧ ∀ ad, A = some ad → w.heap.size ≤ ad.block) := by
 obtain ⟨i0, hi, hz0, hz1, hz2⟩ := info_parts infoIntG
 have HHI := Lib.hid hi
 have HZ0 := Lib.hid hz0
 have HZ1 := Lib.hid hz1
 have HZ2 := Lib.hid hz2
 have HG := Lib.hid hG
 have HH := Lib.hid hH
 have HLE := Lib.hid hle
 clear hi hz0 hz1 hz2 hG hH hle
 go_enter Tryz.func128, Tryz.ntmps128
 go_wp2
 go_loopw [7, 8, 9] (fun m cv iv wr => ∃ (i k : Nat) (O : List Nat) (A : Option Addr) (cp : Nat), m = .slice A i cp ∧ cv = .int .i64 (-(k : Int)) ∧ iv = .int .i64 (i : Int) ∧ k ≤ 1 ∧ i ≤ 1000001 ∧ Lib.Kept (BothInv G H O i (-(k : Int)) (-1)) ∧
   wr.ownsRow w.heap.size 3 1 (.slice A i cp) i (O.map n64v) ∧ Below w.heap.size w wr)
  (fun _ _ iv _ => max G.length H.length + 1 - (intOf iv).toNat)
 case atStart => exact ⟨0, 0, [], none, 0, rfl, rfl, rfl, by omega, by omega, (show BothInv G H [] 0 (-((0 : Nat) : Int)) (-1) from BothInv.start G H (-1) (.inr rfl)), World.ownsRow_nil _ _ _ _, Below.refl _ _⟩
 case round =>
  obtain ⟨i, k, O, A, cp, rfl, rfl, rfl, hk, hi, hinv, hown, hb⟩ := hrel
  have HI := Lib.hid hinv
  have HO := Lib.hid hown
  have HB := Lib.hid hb
  have R1 := hr1.below hb
  have R2 := hr2.below hb
  clear hinv hown hb
  by_cases h1 : i < G.length
  ·by_cases h2 : i < H.length
   ·obtain ⟨b1, o1, rfl, _, q1⟩ := R1.at_ (by omega)
    obtain ⟨b2, o2, rfl, _, q2⟩ := R2.at_ (by omega)
    obtain ⟨x, hx⟩ : ∃ x, x = G[i] := ⟨_, rfl⟩
    have d1 : wr.cell? ⟨b1, o1 + i, none⟩ = some (.int .i64 (x : Int)) := by rw [q1 i h1, hx]
    have hx4 : x < 10000 := by rw [hx]; exact HG.out.get i h1
    obtain ⟨y, hy⟩ : ∃ y, y = H[i] := ⟨_, rfl⟩
    have d2 : wr.cell? ⟨b2, o2 + i, none⟩ = some (.int .i64 (y : Int)) := by rw [q2 i h2, hy]
    have hy4 : y < 10000 := by rw [hy]; exact HH.out.get i h2
    obtain ⟨d, hd⟩ : ∃ d : Nat, (d : Int) = (-(k : Int) + (x : Int) + -(y : Int)) % 10000 := ⟨((-(k : Int) + (x : Int) + -(y : Int)) % 10000).toNat, by omega⟩
    obtain ⟨k', hk', hk1⟩ : ∃ k' : Nat, -(k' : Int) = (-(k : Int) + (x : Int) + -(y : Int)) / 10000 ∧ k' ≤ 1 := ⟨(-((-(k : Int) + (x : Int) + -(y : Int)) / 10000)).toNat, by omega, by omega⟩
    obtain ⟨r, hr, hr1, hr2, hr3, hr4⟩ := tmod_parts (-(k : Int) + (x : Int) + -(y : Int)) (by omega) (by omega)
    have hdr : (d : Int) = r % 10000 := by omega
    have hq : (-(k : Int) + (x : Int) + -(y : Int) - r % 10000).tdiv 10000 = -(k' : Int) := hr4.trans hk'.symm
    have hst := HI.out.step (t := -(k : Int) + (x : Int) + -(y : Int)) (c' := -(k' : Int)) (d := d) (x := x) (y := y) HG.out HH.out (by rw [hx, List.getElem?_eq_getElem h1]; rfl) (by rw [hy, List.getElem?_eq_getElem h2]; rfl) (by omega) hd hk'
    have HST := Lib.hid hst
    have HD := Lib.hid hd
    have HDR := Lib.hid hdr
    have HK' := Lib.hid hk'
    clear hst hd hk' hdr hr3 hr4 hx q1 hy q2
    go_wp2_with (at_builtin; refine wpList_append_own _ rfl _ _ 69 rfl w.heap.size 3 i0 (.int .i64 0) 1 8 Tryz.underlying69 HHI.out HZ0.out HZ1.out HZ2.out rfl (by decide) _ _ _ rfl (HO.out.alloc _) ⟨wr.heap.size, 0, none⟩ 1 1 [.int .i64 (r % 10000)] rfl rfl (cell_one_new _ _ _) (by simp [Value.oneCell']) (by unfold maxLen; omega) (by omega) (by have := HB.out.size; simp; omega) ?_)
    intro v' w3 hown' hgrow _
    obtain ⟨g', cap', rfl, hcap⟩ := own_form hown' (by omega)
    have hb3 : Below w.heap.size w w3 := (HB.out.alloc HB.out.size _).grown hgrow (by have := HB.out.size; simp; omega) (fun g hg => (HO.out.lt g hg).1)
    have ho3 : w3.ownsRow w.heap.size 3 1 (.slice (some ⟨g', 0, none⟩) (i + 1) cap') (i + 1) ((O ++ [d]).map n64v) := by
     rw [List.map_append, show [d].map n64v = [.int .i64 (r % 10000)] by rw [← HDR.out]; rfl]; exact hown'
    have HO3 := Lib.hid ho3
    have HB3 := Lib.hid hb3
    clear hown' hgrow hb3 ho3
    go_wp2
    go_roundw
    case rel => exact ⟨i + 1, k', O ++ [d], _, _, rfl, by first | rfl | go_num | (congr 1; omega), by go_num, by omega, by omega, HST.out, HO3.out, HB3.out⟩
    case measure => simp [intOf]; omega
   ·obtain ⟨b1, o1, rfl, _, q1⟩ := R1.at_ (by omega)
    obtain ⟨x, hx⟩ : ∃ x, x = G[i] := ⟨_, rfl⟩
    have d1 : wr.cell? ⟨b1, o1 + i, none⟩ = some (.int .i64 (x : Int)) := by rw [q1 i h1, hx]
    have hx4 : x < 10000 := by rw [hx]; exact HG.out.get i h1
    obtain ⟨d, hd⟩ : ∃ d : Nat, (d : Int) = (-(k : Int) + (x : Int)) % 10000 := ⟨((-(k : Int) + (x : Int)) % 10000).toNat, by omega⟩
    obtain ⟨k', hk', hk1⟩ : ∃ k' : Nat, -(k' : Int) = (-(k : Int) + (x : Int)) / 10000 ∧ k' ≤ 1 := ⟨(-((-(k : Int) + (x : Int)) / 10000)).toNat, by omega, by omega⟩
    obtain ⟨r, hr, hr1, hr2, hr3, hr4⟩ := tmod_parts (-(k : Int) + (x : Int)) (by omega) (by omega)
    have hdr : (d : Int) = r % 10000 := by omega
    have hq : (-(k : Int) + (x : Int) - r % 10000).tdiv 10000 = -(k' : Int) := hr4.trans hk'.symm
    have hst := HI.out.step (t := -(k : Int) + (x : Int)) (c' := -(k' : Int)) (d := d) (x := x) (y := 0) HG.out HH.out (by rw [hx, List.getElem?_eq_getElem h1]; rfl) (by rw [List.getElem?_eq_none (by omega)]; rfl) (by omega) hd hk'
    have HST := Lib.hid hst
    have HD := Lib.hid hd
    have HDR := Lib.hid hdr
    have HK' := Lib.hid hk'
    clear hst hd hk' hdr hr3 hr4 hx q1
    go_wp2_with (at_builtin; refine wpList_append_own _ rfl _ _ 69 rfl w.heap.size 3 i0 (.int .i64 0) 1 8 Tryz.underlying69 HHI.out HZ0.out HZ1.out HZ2.out rfl (by decide) _ _ _ rfl (HO.out.alloc _) ⟨wr.heap.size, 0, none⟩ 1 1 [.int .i64 (r % 10000)] rfl rfl (cell_one_new _ _ _) (by simp [Value.oneCell']) (by unfold maxLen; omega) (by omega) (by have := HB.out.size; simp; omega) ?_)
    intro v' w3 hown' hgrow _
    obtain ⟨g', cap', rfl, hcap⟩ := own_form hown' (by omega)
    have hb3 : Below w.heap.size w w3 := (HB.out.alloc HB.out.size _).grown hgrow (by have := HB.out.size; simp; omega) (fun g hg => (HO.out.lt g hg).1)
    have ho3 : w3.ownsRow w.heap.size 3 1 (.slice (some ⟨g', 0, none⟩) (i + 1) cap') (i + 1) ((O ++ [d]).map n64v) := by
     rw [List.map_append, show [d].map n64v = [.int .i64 (r % 10000)] by rw [← HDR.out]; rfl]; exact hown'
    have HO3 := Lib.hid ho3
    have HB3 := Lib.hid hb3
    clear hown' hgrow hb3 ho3
    go_wp2
    go_roundw
    case rel => exact ⟨i + 1, k', O ++ [d], _, _, rfl, by first | rfl | go_num | (congr 1; omega), by go_num, by omega, by omega, HST.out, HO3.out, HB3.out⟩
    case measure => simp [intOf]; omega
  ·by_cases h2 : i < H.length
   ·obtain ⟨b2, o2, rfl, _, q2⟩ := R2.at_ (by omega)
    obtain ⟨y, hy⟩ : ∃ y, y = H[i] := ⟨_, rfl⟩
    have d2 : wr.cell? ⟨b2, o2 + i, none⟩ = some (.int .i64 (y : Int)) := by rw [q2 i h2, hy]
    have hy4 : y < 10000 := by rw [hy]; exact HH.out.get i h2
    obtain ⟨d, hd⟩ : ∃ d : Nat, (d : Int) = (-(k : Int) + -(y : Int)) % 10000 := ⟨((-(k : Int) + -(y : Int)) % 10000).toNat, by omega⟩
    obtain ⟨k', hk', hk1⟩ : ∃ k' : Nat, -(k' : Int) = (-(k : Int) + -(y : Int)) / 10000 ∧ k' ≤ 1 := ⟨(-((-(k : Int) + -(y : Int)) / 10000)).toNat, by omega, by omega⟩
    obtain ⟨r, hr, hr1, hr2, hr3, hr4⟩ := tmod_parts (-(k : Int) + -(y : Int)) (by omega) (by omega)
    have hdr : (d : Int) = r % 10000 := by omega
    have hq : (-(k : Int) + -(y : Int) - r % 10000).tdiv 10000 = -(k' : Int) := hr4.trans hk'.symm
    have hst := HI.out.step (t := -(k : Int) + -(y : Int)) (c' := -(k' : Int)) (d := d) (x := 0) (y := y) HG.out HH.out (by rw [List.getElem?_eq_none (by omega)]; rfl) (by rw [hy, List.getElem?_eq_getElem h2]; rfl) (by omega) hd hk'
    have HST := Lib.hid hst
    have HD := Lib.hid hd
    have HDR := Lib.hid hdr
    have HK' := Lib.hid hk'
    clear hst hd hk' hdr hr3 hr4 hy q2
    go_wp2_with (at_builtin; refine wpList_append_own _ rfl _ _ 69 rfl w.heap.size 3 i0 (.int .i64 0) 1 8 Tryz.underlying69 HHI.out HZ0.out HZ1.out HZ2.out rfl (by decide) _ _ _ rfl (HO.out.alloc _) ⟨wr.heap.size, 0, none⟩ 1 1 [.int .i64 (r % 10000)] rfl rfl (cell_one_new _ _ _) (by simp [Value.oneCell']) (by unfold maxLen; omega) (by omega) (by have := HB.out.size; simp; omega) ?_)
    intro v' w3 hown' hgrow _
    obtain ⟨g', cap', rfl, hcap⟩ := own_form hown' (by omega)
    have hb3 : Below w.heap.size w w3 := (HB.out.alloc HB.out.size _).grown hgrow (by have := HB.out.size; simp; omega) (fun g hg => (HO.out.lt g hg).1)
    have ho3 : w3.ownsRow w.heap.size 3 1 (.slice (some ⟨g', 0, none⟩) (i + 1) cap') (i + 1) ((O ++ [d]).map n64v) := by
     rw [List.map_append, show [d].map n64v = [.int .i64 (r % 10000)] by rw [← HDR.out]; rfl]; exact hown'
    have HO3 := Lib.hid ho3
    have HB3 := Lib.hid hb3
    clear hown' hgrow hb3 ho3
    go_wp2
    go_roundw
    case rel => exact ⟨i + 1, k', O ++ [d], _, _, rfl, by first | rfl | go_num | (congr 1; omega), by go_num, by omega, by omega, HST.out, HO3.out, HB3.out⟩
    case measure => simp [intOf]; omega
   ·have hk0 : k = 0 := by have := HI.out.noDebt (by omega) (by omega) HLE.out; omega
    subst hk0
    have hfin := BothInv.done (i := i) (O := O) (sg := -1) HI.out (by omega) (by omega)
    have hsum : gv O = gv G - gv H := by have := HLE.out; omega
    have hol := HI.out.1
    have hsm := HI.out.2.1
    have hcap := own_cap HO.out
    have hrd : Rd n64v wr wr.heap.size A O := Rd.of_own HO.out hol.symm
    have hsh := short_len O i hol A cp wr.heap.size wr hrd hsm hcap (by omega)
    rw [hsum] at hsh
    have hle : (grps (gv G - gv H)).length ≤ i := by rw [← hsum, ← hol]; exact grps_len_le_len _ hsm
    have heq : grps (gv G - gv H) = O.take (grps (gv G - gv H)).length := by
     have h := grps_eq_take _ hsm
     rw [hsum] at h
     exact h
    have hrd2 : Rd n64v wr wr.heap.size A (grps (gv G - gv H)) := by rw [heq]; exact hrd.take _
    have HSH := Lib.hid hsh
    have HRD := Lib.hid hrd2
    clear hsh hrd2 hrd heq hsm hol hsum hfin
    go_wp2_with fail
    refine (HSH.out).mono ?_
    rintro e w4 ⟨rfl, rfl⟩
    go_wp2
    go_ret
    exact ⟨_, _, rfl, HRD.out, by omega, HB.out, fun ad e => (HO.out.lt ad.block (by subst e; rfl)).1⟩
theorem both_sub (G H : List Nat) (A1 A2 : Option Addr) (c1 c2 : Nat) (w : World) (hr1 : Rd n64v w w.heap.size A1 G) (hr2 : Rd n64v w w.heap.size A2 H) (hG : Small4 G) (hH : Small4 H)
  (hg : G.length ≤ 1000000) (hh : H.length ≤ 1000000) (hle : gv H ≤ gv G) :
  Calls Tryz.prog 128 #[.slice A1 G.length c1, .slice A2 H.length c2, .int .i64 (-1)] w (RetGrp (gv G - gv H) w) :=
 (both_subX G H A1 A2 c1 c2 w hr1 hr2 hG hH hg hh hle).mono fun e w' ⟨A, cap, h1, h2, h3, h4, _⟩ => ⟨A, cap, h1, h2, h3, h4⟩
end
end Go.Proofs.YtlmheeommpbimaaGreatDoor
