/- Part 12 of 47 of the proof of the law: contracts of the functions that it reaches, and plain facts. Conditions: those that each contract names. -/
import Derived.Test.YtendjepcjmfmfaaGreatDoorOrdB09
import Derived.Test.YtendjepcjmfmfaaGreatDoorOrdB03
import Derived.Maps.AppendAt
import Derived.Lib.Strings
namespace Go.Proofs.YtendjepcjmfmfaaGreatDoor
open Go.RowKit
set_option maxHeartbeats 1000000 in
set_option maxRecDepth 20000 in
theorem long_any (s : ByteArray) (w : World) (hd : Digs s.data.toList) (hs : s.size ≤ 1000000) :
  Calls Tryz.prog 108 #[.string s] w (RetMag (dval s.data.toList) w) := by
 obtain ⟨i0, hi, hz0, hz1, hz2⟩ := info_parts Tryz.infoU64
 obtain ⟨N, hN⟩ : ∃ N, N = s.size := ⟨_, rfl⟩
 have hlen : s.data.toList.length = N := by rw [hN, Array.length_toList]; rfl
 have HLEN := Lib.hid hlen
 have HN := Lib.hid hN
 have hN1 : N ≤ 1000000 := by omega
 have hcv := fun (w : World) (s : ByteArray) => run_bytes_of_string (P := Tryz.prog) w 9 185 5 s Tryz.underlying9 Tryz.underlying185 Tryz.underlying5
 have HHI := Lib.hid hi
 have HZ0 := Lib.hid hz0
 have HZ1 := Lib.hid hz1
 have HZ2 := Lib.hid hz2
 clear hlen hi hz0 hz1 hz2
 go_enter Tryz.func108, Tryz.ntmps108
 go_wp2
 rw [← hN]
 clear hN
 go_loopw [3, 4] (fun m e wr => ∃ (j : Nat) (L : List Nat) (A : Option Addr) (c : Nat), m = .slice A j c ∧ L.length = j ∧ 9 * j ≤ N + 8 ∧ Small L ∧ lv L = dval (s.data.toList.drop (N - 9 * j)) ∧ e = .int .i64 ((N : Int) - 9 * (j : Int)) ∧
   wr.ownsRow w.heap.size 145 1 (.slice A j c) j (L.map u64v) ∧ Below w.heap.size w wr)
  (fun _ e _ => (intOf e).toNat)
 case atStart => exact ⟨0, [], none, 0, rfl, rfl, by omega, Small.nil, by rw [List.drop_of_length_le (by rw [HLEN.out]; omega)]; rfl, by simp, World.ownsRow_nil _ _ _ _, Below.refl _ _⟩
 case round =>
  obtain ⟨j, L, A, ca, rfl, hl, hj, hsm, hv, rfl, hown, hb⟩ := hrel
  obtain ⟨e, he⟩ : ∃ e : Nat, e = N - 9 * j := ⟨_, rfl⟩
  by_cases hpos : 9 * j < N
  ·have hee : (N : Int) - 9 * (j : Int) = (e : Int) := by omega
   rw [hee]
   have he0 : 0 < e := by omega
   have heN : e ≤ N := by omega
   have hes : e ≤ s.size := by rw [← HN.out]; omega
   have HEE := Lib.hid hee
   have HE := Lib.hid he
   have HL := Lib.hid hl
   have HV := Lib.hid hv
   have HO := Lib.hid hown
   have HB := Lib.hid hb
   clear hee he hl hv hown hb
   have heq : e = N - 9 * j := HE.out
   obtain ⟨C, hC⟩ : ∃ C, C = (s.data.toList.drop (N - 9 * (j + 1))).take (e - (N - 9 * (j + 1))) := ⟨_, rfl⟩
   have hdC : Digs C := by rw [hC]; exact (hd.drop _).take _
   have hsC : dval C < 1000000000 := by
    have := chunk_small s.data.toList hd j
    rw [HLEN.out] at this
    rw [hC, heq]; exact this
   have hvC : lv (L ++ [dval C]) = dval (s.data.toList.drop (N - 9 * (j + 1))) := by
    have := chunk_step s.data.toList j (by rw [HLEN.out]; exact hpos) L HL.out (by rw [HLEN.out]; exact HV.out)
    rw [HLEN.out] at this
    rw [hC, heq]; exact this
   have HC := Lib.hid hC
   have HVC := Lib.hid hvC
   clear hC hvC heq
   by_cases h9 : 9 ≤ e
   ·go_wp2
    rw [show e - (e - 9) = 9 from by omega]
    obtain ⟨t, ht⟩ : ∃ t, t = s.extract (e - 9) e := ⟨_, rfl⟩
    generalize grownCap wr 9 0 5 = cap
    rw [← ht]
    have hcl : 9 = C.length := by rw [HC.out, List.length_take, List.length_drop, HLEN.out]; have := HE.out; omega
    have htC : t.data.toList = C := by
     rw [ht, Lib.extract_data, HC.out]
     have := HE.out
     rw [show N - 9 * (j + 1) = (e - 9) from by omega]
    obtain ⟨w2, hw2⟩ : ∃ w2, w2 = (wr.alloc (Obj.cells (bytesRow t cap) 5 ((bytesRow t cap).size, (bytesRow t cap).size + 1))).drew := ⟨_, rfl⟩
    rw [← hw2]
    have hrd : Rd (fun c : UInt8 => .int .u8 (c.toNat : Int)) w2 (wr.heap.size + 1) (some ⟨wr.heap.size, 0, none⟩) C := by rw [hw2, ← htC]; exact conv_rd wr t cap _ _
    have hO2 : w2.ownsRow w.heap.size 145 1 (.slice A j ca) j (L.map u64v) := by rw [hw2]; exact (HO.out.alloc _).drew
    have hB2 : Below w.heap.size w w2 := by rw [hw2]; exact (HB.out.alloc HB.out.size _).drew
    have HCL := Lib.hid hcl
    have HO := Lib.hid hO2
    have HB := Lib.hid hB2
    clear ht htC hw2 hO2 hB2 hcl
    go_loop [5, 22] (fun v i => ∃ k : Nat, k ≤ 9 ∧ i = .int .i64 k ∧ v = .int .u64 (dval (C.take k))) (fun _ i => 9 - (intOf i).toNat)
    case atStart => exact ⟨0, by omega, rfl, by simp [dval]⟩
    case round =>
     obtain ⟨k, hk, rfl, rfl⟩ := hrel
     by_cases hlt : k < 9
     ·have hkC : k < C.length := by have := HCL.out; omega
      obtain ⟨c, hc⟩ : ∃ c, c = C[k] := ⟨_, rfl⟩
      obtain ⟨q, hq⟩ : ∃ q, q = dval (C.take k) := ⟨_, rfl⟩
      have hq1 : q < 1000000000 := by
       rw [hq]
       have h1 := dval_lt _ (hdC.take k)
       have h2 : (10 : Nat) ^ (C.take k).length ≤ 10 ^ 9 := Nat.pow_le_pow_right (by decide) (by rw [List.length_take]; omega)
       omega
      obtain ⟨b, off, hA, _, hcell⟩ := hrd.at_ (by omega)
      have hcc : w2.cell? ⟨wr.heap.size, k, none⟩ = some (.int .u8 (c.toNat : Int)) := by
       have h1 := hcell k hkC
       injection hA with hA; injection hA with h2 h3 _
       rw [← h2, ← h3, Nat.zero_add] at h1
       rw [h1, hc]
      have hc0 : 48 ≤ c.toNat := by rw [hc]; exact (hdC.get k hkC).1
      have hc1 : c.toNat ≤ 57 := by rw [hc]; exact (hdC.get k hkC).2
      have HD := Lib.hid (dval_take_succ C k hkC)
      rw [← hq, ← hc] at HD
      rw [← hq]
      have HQ := Lib.hid hq
      have HCC := Lib.hid hc
      clear hq hc hcell hA
      go_wp2
      go_round
      case rel => exact ⟨k + 1, by omega, by go_num, by rw [HD.out]; congr 1; omega⟩
      case measure => simp [intOf]; omega
     ·obtain ⟨hkn⟩ : Nonempty (k = 9) := ⟨by omega⟩
      subst hkn
      rw [show C.take 9 = C from List.take_of_length_le (by have := HCL.out; omega)]
      go_wp2_with (at_builtin; refine wpList_append_own _ rfl _ _ 156 rfl w.heap.size 145 i0 (.int .u64 0) 1 8 Tryz.underlying156 HHI.out HZ0.out HZ1.out HZ2.out rfl (by decide) _ _ _ rfl (HO.out.alloc _) ⟨w2.heap.size, 0, none⟩ 1 1 [.int .u64 (dval C)] rfl rfl (cell_one_new _ _ _) (by simp [Value.oneCell']) (by unfold maxLen; omega) (by omega) (by have := HB.out.size; simp; omega) ?_)
      intro v' w3 hown' hgrow _
      obtain ⟨g', cap', rfl, _⟩ := own_form hown' (by omega)
      have hb3 : Below w.heap.size w w3 := (HB.out.alloc HB.out.size _).grown hgrow (by have := HB.out.size; simp; omega) (fun g hg => (HO.out.lt g hg).1)
      have HO3 := Lib.hid hown'
      have HB3 := Lib.hid hb3
      clear hown' hgrow hb3
      go_wp2
      go_roundw
      case rel => exact ⟨j + 1, L ++ [dval C], _, _, rfl, by rw [List.length_append, HL.out]; rfl, by omega, hsm.append (Small.one hsC), HVC.out, by rw [show ((j + 1 : Nat) : Int) = (j : Int) + 1 from rfl]; congr 1; have := HEE.out; omega, by rw [List.map_append]; exact HO3.out, HB3.out⟩
      case measure => simp [intOf]; omega
   ·go_wp2
    obtain ⟨t, ht⟩ : ∃ t, t = s.extract 0 e := ⟨_, rfl⟩
    generalize grownCap wr e 0 5 = cap
    rw [← ht]
    have hcl : e = C.length := by rw [HC.out, List.length_take, List.length_drop, HLEN.out]; have := HE.out; omega
    have htC : t.data.toList = C := by
     rw [ht, Lib.extract_data, HC.out]
     have := HE.out
     rw [show N - 9 * (j + 1) = 0 from by omega]
    obtain ⟨w2, hw2⟩ : ∃ w2, w2 = (wr.alloc (Obj.cells (bytesRow t cap) 5 ((bytesRow t cap).size, (bytesRow t cap).size + 1))).drew := ⟨_, rfl⟩
    rw [← hw2]
    have hrd : Rd (fun c : UInt8 => .int .u8 (c.toNat : Int)) w2 (wr.heap.size + 1) (some ⟨wr.heap.size, 0, none⟩) C := by rw [hw2, ← htC]; exact conv_rd wr t cap _ _
    have hO2 : w2.ownsRow w.heap.size 145 1 (.slice A j ca) j (L.map u64v) := by rw [hw2]; exact (HO.out.alloc _).drew
    have hB2 : Below w.heap.size w w2 := by rw [hw2]; exact (HB.out.alloc HB.out.size _).drew
    have HCL := Lib.hid hcl
    have HO := Lib.hid hO2
    have HB := Lib.hid hB2
    clear ht htC hw2 hO2 hB2 hcl
    go_loop [5, 22] (fun v i => ∃ k : Nat, k ≤ e ∧ i = .int .i64 k ∧ v = .int .u64 (dval (C.take k))) (fun _ i => e - (intOf i).toNat)
    case atStart => exact ⟨0, by omega, rfl, by simp [dval]⟩
    case round =>
     obtain ⟨k, hk, rfl, rfl⟩ := hrel
     by_cases hlt : k < e
     ·have hkC : k < C.length := by have := HCL.out; omega
      obtain ⟨c, hc⟩ : ∃ c, c = C[k] := ⟨_, rfl⟩
      obtain ⟨q, hq⟩ : ∃ q, q = dval (C.take k) := ⟨_, rfl⟩
      have hq1 : q < 1000000000 := by
       rw [hq]
       have h1 := dval_lt _ (hdC.take k)
       have h2 : (10 : Nat) ^ (C.take k).length ≤ 10 ^ 9 := Nat.pow_le_pow_right (by decide) (by rw [List.length_take]; omega)
       omega
      obtain ⟨b, off, hA, _, hcell⟩ := hrd.at_ (by omega)
      have hcc : w2.cell? ⟨wr.heap.size, k, none⟩ = some (.int .u8 (c.toNat : Int)) := by
       have h1 := hcell k hkC
       injection hA with hA; injection hA with h2 h3 _
       rw [← h2, ← h3, Nat.zero_add] at h1
       rw [h1, hc]
      have hc0 : 48 ≤ c.toNat := by rw [hc]; exact (hdC.get k hkC).1
      have hc1 : c.toNat ≤ 57 := by rw [hc]; exact (hdC.get k hkC).2
      have HD := Lib.hid (dval_take_succ C k hkC)
      rw [← hq, ← hc] at HD
      rw [← hq]
      have HQ := Lib.hid hq
      have HCC := Lib.hid hc
      clear hq hc hcell hA
      go_wp2
      go_round
      case rel => exact ⟨k + 1, by omega, by go_num, by rw [HD.out]; congr 1; omega⟩
      case measure => simp [intOf]; omega
     ·obtain ⟨hkn⟩ : Nonempty (k = e) := ⟨by omega⟩
      subst hkn
      rw [show C.take k = C from List.take_of_length_le (by have := HCL.out; omega)]
      go_wp2_with (at_builtin; refine wpList_append_own _ rfl _ _ 156 rfl w.heap.size 145 i0 (.int .u64 0) 1 8 Tryz.underlying156 HHI.out HZ0.out HZ1.out HZ2.out rfl (by decide) _ _ _ rfl (HO.out.alloc _) ⟨w2.heap.size, 0, none⟩ 1 1 [.int .u64 (dval C)] rfl rfl (cell_one_new _ _ _) (by simp [Value.oneCell']) (by unfold maxLen; omega) (by omega) (by have := HB.out.size; simp; omega) ?_)
      intro v' w3 hown' hgrow _
      obtain ⟨g', cap', rfl, _⟩ := own_form hown' (by omega)
      have hb3 : Below w.heap.size w w3 := (HB.out.alloc HB.out.size _).grown hgrow (by have := HB.out.size; simp; omega) (fun g hg => (HO.out.lt g hg).1)
      have HO3 := Lib.hid hown'
      have HB3 := Lib.hid hb3
      clear hown' hgrow hb3
      go_wp2
      go_roundw
      case rel => exact ⟨j + 1, L ++ [dval C], _, _, rfl, by rw [List.length_append, HL.out]; rfl, by omega, hsm.append (Small.one hsC), HVC.out, by rw [show ((j + 1 : Nat) : Int) = (j : Int) + 1 from rfl]; congr 1; have := HEE.out; omega, by rw [List.map_append]; exact HO3.out, HB3.out⟩
      case measure => simp [intOf]; omega
  ·have hN9 : N - 9 * j = 0 := by omega
   rw [hN9, List.drop_zero] at hv
   have hca := own_cap hown
   have hrd : Rd u64v wr wr.heap.size A L := Rd.of_own hown hl.symm
   have htk := limbs_eq_take L hsm
   have hle := limbs_len_le_len L hsm
   rw [hv] at htk hle
   have HV := Lib.hid hv
   have HL := Lib.hid hl
   have HK := Lib.hid htk
   have HE := Lib.hid hle
   have HB := Lib.hid hb
   clear hN9 hv hl htk hle hb hown he
   go_wp2_with fail
   refine (trim_len L j HL.out A ca _ _ hrd hsm hca (by omega)).mono ?_
   rintro e w' ⟨rfl, rfl⟩
   rw [HV.out]
   go_wp2
   go_ret
   exact ⟨_, _, rfl, by rw [HK.out]; exact hrd.take _, by have := HE.out; have := HL.out; omega, HB.out⟩
end Go.Proofs.YtendjepcjmfmfaaGreatDoor
