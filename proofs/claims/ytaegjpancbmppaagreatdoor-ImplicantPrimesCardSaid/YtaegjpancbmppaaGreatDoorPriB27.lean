/- Part 27 of 28 of the proof of the law: contracts of the functions that it reaches, and plain facts. Conditions: those that each contract names. -/
import Derived.Test.YtaegjpancbmppaaGreatDoorPriB16
import Derived.Test.YtaegjpancbmppaaGreatDoorPriB17
import Derived.Test.YtaegjpancbmppaaGreatDoorPriB26
import Derived.Test.YtaegjpancbmppaaGreatDoorPriB07
set_option linter.unusedVariables false
set_option linter.unusedSimpArgs false
namespace Go.Proofs.YtaegjpancbmppaaGreatDoor
open Go.RowKit
theorem own_cq {W : World} {base n c : Nat} {A : Option Addr} {X : List (Nat × Nat)} (h : W.ownsRow base 37 2 (.slice A n c) n (X.flatMap cbL)) (hn : n = X.length) : CqRd W W.heap.size A (zP X) := fun hl => by
 rw [List.length_map] at hl
 rcases h.2 with ⟨h0, h1⟩ | ⟨g, cap, cur, hv, hbs, hg, hr⟩
 ·cases h0
  omega
 ·cases hv
  have hcb : ∀ (Y : List (Nat × Nat)) i, i < Y.length → (Y.flatMap cbL)[i * 2]? = some (nv (Y.getD i (0, 0)).1) ∧ (Y.flatMap cbL)[i * 2 + 1]? = some (nv (Y.getD i (0, 0)).2) := by
   intro Y
   induction Y with
   | nil => intro i hi; simp at hi
   | cons y Y ih =>
    intro i hi
    cases i with
    | zero => exact ⟨rfl, rfl⟩
    | succ i =>
     have h2 := ih i (by simpa using hi)
     have e1 : (i + 1) * 2 = i * 2 + 2 := by omega
     rw [List.flatMap_cons, e1]
     exact h2
  refine ⟨g, 0, rfl, (h.lt g rfl).2, fun i hi => ?_⟩
  rw [List.length_map] at hi
  obtain ⟨k0, k1⟩ := hcb X i hi
  have hc0 := World.ownsRow.cellAt h (i * 2) (by omega)
  have hc1 := World.ownsRow.cellAt h (i * 2 + 1) (by omega)
  rw [zP_get hi, Nat.zero_add]
  exact ⟨hc0.trans k0, hc1.trans k1⟩
theorem hasB_bits {r a b : Nat} (hr : r < 256) (ha : a < 256) : (bits .and .i64 (r : Int) (a : Int) == (b : Int)) = hasB (a, b) r := by
 unfold hasB
 rw [and_i64 (by omega) (by omega), Bool.eq_iff_iff, beq_iff_eq, beq_iff_eq]
 dsimp only
 omega
theorem tPr_bd {q : Nat} {L K : List Int} (hq : q ≤ 8) {x : Nat × Nat} (hx : x ∈ tPr q L K) : x.1 < 256 ∧ x.2 < 256 := by
 obtain ⟨h1, h2⟩ := prF_mem.1 ((prS_mem hq).1 hx)
 have h3 := (prV_mem.1 h2).1
 have := pow_le8 hq
 omega
set_option maxRecDepth 1000000 in
set_option maxHeartbeats 8000000 in
theorem lprim_any (a on fr : Nat) (V : World) (ha : a < 256) (h1 : on < 65536) (h2 : fr < 65536) :
  Calls Tryz.prog 7 #[.int .u8 (a : Int), .int .u16 (on : Int), .int .u16 (fr : Int)] V (LwPost V) := by
 have HK := Lib.hid (iknown_any V)
 obtain ⟨q, hq⟩ : ∃ q, q = a % 5 := ⟨_, rfl⟩
 have hMk := fun X => lMake_any a on fr X ha h1 h2
 unfold MkPost at hMk
 rw [← hq] at hMk
 have hq4 : q ≤ 4 := by omega
 obtain ⟨no, hno⟩ : ∃ x, x = mkOn on (2 ^ q) := ⟨_, rfl⟩
 obtain ⟨nf, hnf⟩ : ∃ x, x = mkFr on fr (2 ^ q) := ⟨_, rfl⟩
 rw [← hno, ← hnf] at hMk
 have HMF := Lib.hid (show MkF q no nf by rw [hno, hnf]; exact mkF_of on fr q)
 have HMK := Lib.hid hMk
 clear hMk hno hnf ha h1 h2 hq
 go_enter Tryz.func7, Tryz.ntmps7
 go_wp2_with fail
 refine HK.out.mono ?_
 rintro e W0 ⟨rfl, hb⟩
 have HB0 := Lib.hid hb
 clear hb HK
 go_wp2_with fail
 refine (HMK.out _).mono ?_
 rintro e W1 ⟨A, B, c, d, rfl, hc, hc9, hA, hB, hT, hb⟩
 have HT := Lib.hid hT
 have HB1 := Lib.hid (HB0.out.trans (hb.mono HB0.out.size))
 have hm1 := (Hp.start W1).new 26 [.int .i64 (q : Int), .slice A no.length c, .slice B nf.length d]
 simp only [List.nil_append] at hm1
 have HM1 := Lib.hid hm1
 have hck := chk_mk HMF.out (by omega)
 obtain ⟨P, hP⟩ : ∃ P, P = tPr q (zR no) (zR nf) := ⟨_, rfl⟩
 have hp1 := fun X (h : Below W1.heap.size W1 X) => iPrimes_ok A B c d no.length nf.length q (zR no) (zR nf) X (HT.out.below h) hck
 have hp2 := fun X (h : Below W1.heap.size W1 X) => iEssential_ok A B c d no.length nf.length q (zR no) (zR nf) X (HT.out.below h) hck
 have hp3 := fun X (h : Below W1.heap.size W1 X) => lprimes_any A B c d no.length nf.length q (zR no) (zR nf) X (HT.out.below h) zR_pos zR_pos hq4
 rw [← hP] at hp1 hp2 hp3
 rw [zR_on] at hp2
 obtain ⟨m, hm⟩ : ∃ m, m = P.length := ⟨_, rfl⟩
 obtain ⟨E, hE⟩ : ∃ E, E = essL P no := ⟨_, rfl⟩
 obtain ⟨ke, hk⟩ : ∃ k, k = E.length := ⟨_, rfl⟩
 obtain ⟨n, hn⟩ : ∃ n, n = no.length := ⟨_, rfl⟩
 rw [← hE, ← hk] at hp2
 rw [← hm] at hp1 hp3
 have HP1 := Lib.hid hp1
 have HP2 := Lib.hid hp2
 have HP3 := Lib.hid hp3
 have HPE := Lib.hid (And.intro hP (And.intro hm (And.intro hE (And.intro hk hn))))
 clear hc hc9 hA hB hT hb hm1 hck hP hp1 hp2 hp3 hm hE hk HMK
 rw [← hn] at HP1 HP2 HP3 HM1
 rw [← hn]
 clear hn
 go_wp2_with fail
 refine (HP1.out _ HM1.out.below).mono ?_
 rintro e W2 ⟨A2, c2, rfl, ho2, hb2⟩
 have HO2 := Lib.hid ho2
 have HM2 := Lib.hid (HM1.out.step hb2)
 have HS1 := Lib.hid HM1.out.below.size
 clear ho2 hb2
 have t0 : W2.cell? ⟨W1.heap.size, 0, none⟩ = some (.int .i64 (q : Int)) := (HM2.out.at_ 0 rfl).cell 0
 have t1 : W2.cell? ⟨W1.heap.size, 1, none⟩ = some (.slice A n c) := (HM2.out.at_ 0 rfl).cell 1
 have t2 : W2.cell? ⟨W1.heap.size, 2, none⟩ = some (.slice B nf.length d) := (HM2.out.at_ 0 rfl).cell 2
 go_wp2_with fail
 refine (HP2.out _ HM2.out.below).mono ?_
 rintro e W3 ⟨A3, c3, rfl, ho3, hb3⟩
 have HO3 := Lib.hid ho3
 have HO23 := Lib.hid (own_blI HO2.out hb3)
 have HM3 := Lib.hid (HM2.out.step hb3)
 clear ho3 hb3 t0 t1 t2
 have t0 : W3.cell? ⟨W1.heap.size, 0, none⟩ = some (.int .i64 (q : Int)) := (HM3.out.at_ 0 rfl).cell 0
 have t1 : W3.cell? ⟨W1.heap.size, 1, none⟩ = some (.slice A n c) := (HM3.out.at_ 0 rfl).cell 1
 have t2 : W3.cell? ⟨W1.heap.size, 2, none⟩ = some (.slice B nf.length d) := (HM3.out.at_ 0 rfl).cell 2
 go_wp2_with fail
 refine (HP3.out _ HM3.out.below).mono ?_
 rintro e W4 ⟨A4, c4, rfl, ho4, hb4⟩
 have HO4 := Lib.hid ho4
 have HO24 := Lib.hid (own_blI HO23.out hb4)
 have HO34 := Lib.hid (own_blI HO3.out hb4)
 have HM4 := Lib.hid (HM3.out.step hb4)
 clear ho4 hb4 t0 t1 t2
 have HC2 := Lib.hid (own_cq HO24.out HPE.out.2.1)
 have HC3 := Lib.hid (own_cq HO34.out HPE.out.2.2.2.1)
 have HC4 := Lib.hid (own_cq HO4.out HPE.out.2.1)
 have HTW := Lib.hid (show ∀ X, Below W4.heap.size W4 X → X.cell? ⟨W1.heap.size, 1, none⟩ = some (.slice A n c) from fun X h => ((HM4.out.step h).at_ 0 rfl).cell 1)
 have HRW := Lib.hid (show ∀ X, Below W4.heap.size W4 X → Rd iz X X.heap.size A (zR no) from fun X h => (HT.out.below (HM4.out.step h).below).on)
 have HCW := Lib.hid (show ∀ X, Below W4.heap.size W4 X → CqRd X X.heap.size A4 (zP P) from fun X h => HC4.out.step h)
 have hm256 : m ≤ 65536 := by rw [HPE.out.2.1, HPE.out.1]; exact tPr_len q (zR no) (zR nf) (by omega)
 have hn256 : n ≤ 1000 := by rw [HPE.out.2.2.2.2]; have := HT.out.nm.1; omega
 obtain ⟨i0, hi0, hz0, hz1, hz2⟩ := info_parts infoCub
 have HI0 := Lib.hid hi0
 have HZ0 := Lib.hid hz0
 have HZ1 := Lib.hid hz1
 have HZ2 := Lib.hid hz2
 clear hi0 hz0 hz1 hz2
 go_wp2_with fail
 have HPB := Lib.hid (show ∀ x ∈ P, x.1 < 256 ∧ x.2 < 256 from fun x hx => by
  rw [HPE.out.1] at hx
  exact tPr_bd (by omega) hx)
 go_loopw [13, 14] (fun u x wr => ∃ (i : Nat) (A' : Option Addr) (no' cp : Nat), i ≤ m ∧ x = .int .i64 (i : Int) ∧ u = .slice A' no' cp ∧ no' = (essK P no i).length ∧ wr.ownsRow W4.heap.size 37 2 (.slice A' no' cp) no' ((essK P no i).flatMap cbL) ∧ Below W4.heap.size W4 wr) (fun _ x _ => m - (intOf x).toNat)
 case atStart => exact ⟨0, none, 0, 0, Nat.zero_le _, rfl, rfl, by rw [essK_zero]; rfl, by rw [essK_zero]; exact World.ownsRow_nil _ _ _ _, Below.refl _ _⟩
 case round =>
  obtain ⟨wo, rfl⟩ : ∃ W, W = wr := ⟨_, rfl⟩
  obtain ⟨i, A', no', cp, hi, rfl, rfl, hno', hown, hb⟩ := hrel
  have HNO := Lib.hid hno'
  have HO := Lib.hid hown
  have HBO := Lib.hid hb
  have hno6 : no' ≤ 65536 := by
   rw [hno']
   have := essK_len P no i
   have := HPE.out.2.1
   omega
  clear hown hb hno'
  by_cases hlt : i < m
  ·have hiP : i < P.length := by rw [← HPE.out.2.1]; exact hlt
   have hiz : (i : Int) < (m : Int) := by omega
   have HI := Lib.hid hlt
   have HIP := Lib.hid hiP
   obtain ⟨i2, hi2⟩ : ∃ z : Int, z = (i : Int) + 1 := ⟨_, rfl⟩
   have hwi : IntKind.i64.wrap ((i : Int) + 1) = i2 := by rw [hi2]; exact IntWalk.i64_in _ (by omega)
   have HI2 := Lib.hid hi2
   obtain ⟨z, hz⟩ : ∃ z, z = P.getD i (0, 0) := ⟨_, rfl⟩
   obtain ⟨za, zb⟩ := z
   have HZ := Lib.hid hz
   obtain ⟨g4, o4, hA4, hg4, hq4⟩ := HCW.out W4 (Below.refl _ _) (by rw [List.length_map]; exact Nat.lt_of_le_of_lt (Nat.zero_le _) hiP)
   have HXP := Lib.hid (show ∀ j, j < P.length → ∀ X, Below W4.heap.size W4 X → X.cell? ⟨g4, o4 + j * 2, none⟩ = some (.int .i64 ((P.getD j (0, 0)).1 : Int)) ∧ X.cell? ⟨g4, o4 + j * 2 + 1, none⟩ = some (.int .i64 ((P.getD j (0, 0)).2 : Int)) from fun j hj X h => by
    obtain ⟨p0, p1⟩ := hq4 j (by rw [List.length_map]; exact hj)
    rw [zP_get hj] at p0 p1
    exact ⟨(h.cell (p := ⟨g4, o4 + j * 2, none⟩) hg4).trans p0, (h.cell (p := ⟨g4, o4 + j * 2 + 1, none⟩) hg4).trans p1⟩)
   subst hA4
   have hxi := HXP.out i hiP
   rw [← hz] at hxi
   have HXI := Lib.hid hxi
   have hmi : (za, zb) ∈ P := by rw [hz, List.getD_eq_getElem?_getD, List.getElem?_eq_getElem hiP]; exact List.getElem_mem _
   have hza := HPB.out (za, zb) hmi
   have HZA := Lib.hid (show za < 256 from hza.1)
   have t1 := HTW.out wo HBO.out
   clear hg4 hq4 hxi hmi hza
   clear hi2 hiP hlt hi hz
   go_wp2_with fail
   go_loopw [15, 16] (fun u x wx => ∃ k : Nat, k ≤ n ∧ x = .int .i64 (k : Int) ∧ u = .bool ((no.take k).any fun r => cntE P r == 1 && hasB (za, zb) r) ∧ Below wo.heap.size wo wx) (fun _ x _ => n - (intOf x).toNat)
   case atStart => exact ⟨0, Nat.zero_le _, rfl, rfl, Below.refl _ _⟩
   case round =>
    obtain ⟨wk, rfl⟩ : ∃ W, W = wr := ⟨_, rfl⟩
    obtain ⟨k, hk, rfl, rfl, hb⟩ := hrel
    have HBK := Lib.hid (HBO.out.trans (hb.mono HBO.out.size))
    have HBK0 := Lib.hid hb
    clear hb t1
    have t1 := HTW.out wk HBK.out
    by_cases hkl : k < n
    ·have hkL : k < (zR no).length := by rw [List.length_map, ← HPE.out.2.2.2.2]; exact hkl
     have hkN : k < no.length := by rw [← HPE.out.2.2.2.2]; exact hkl
     obtain ⟨r, hr⟩ : ∃ r, r = no[k] := ⟨_, rfl⟩
     obtain ⟨b, off, hA, hbb, hcc⟩ := HRW.out W4 (Below.refl _ _) (Nat.lt_of_le_of_lt (Nat.zero_le _) hkL)
     have hck := hcc k hkL
     rw [show (zR no)[k] = (r : Int) by rw [hr, List.getElem_map]; rfl] at hck
     have HXA := Lib.hid (show ∀ X, Below W4.heap.size W4 X → X.cell? ⟨b, off + k, none⟩ = some (.int .i64 (r : Int)) from fun X h => (h.cell (p := ⟨b, off + k, none⟩) hbb).trans hck)
     subst hA
     clear hbb hcc hck
     have HTK := Lib.hid (show no.take (k + 1) = no.take k ++ [r] by rw [hr, List.take_succ_eq_append_getElem hkN])
     have hr2 : r < 2 ^ q := by rw [hr]; exact HMF.out.on _ (List.getElem_mem hkN)
     have HR := Lib.hid hr2
     have hp16 : 2 ^ q ≤ 256 := pow_le8 (by omega)
     have hr256 : r < 256 := by omega
     have hkz : (k : Int) < (n : Int) := by omega
     have HKL := Lib.hid (And.intro hkl hkL)
     obtain ⟨k2, hk2⟩ : ∃ z : Int, z = (k : Int) + 1 := ⟨_, rfl⟩
     have hwk : IntKind.i64.wrap ((k : Int) + 1) = k2 := by rw [hk2]; exact IntWalk.i64_in _ (by omega)
     have HK2 := Lib.hid hk2
     obtain ⟨av, hav⟩ : ∃ x, x = (no.take k).any fun r => cntE P r == 1 && hasB (za, zb) r := ⟨_, rfl⟩
     rw [← hav]
     have HAV := Lib.hid hav
     clear hk2 hkL hkN hr hr2 hkl hk hav hp16
     go_wp2_with fail
     go_loopw [17, 18] (fun u x wx => ∃ j : Nat, j ≤ m ∧ x = .int .i64 (j : Int) ∧ u = .int .i64 (cntK P r j : Int) ∧ Below wo.heap.size wo wx) (fun _ x _ => m - (intOf x).toNat)
     case atStart => exact ⟨0, Nat.zero_le _, rfl, by rw [cntK_zero]; rfl, HBK0.out⟩
     case round =>
      obtain ⟨wj, rfl⟩ : ∃ W, W = wr := ⟨_, rfl⟩
      obtain ⟨j, hj, rfl, rfl, hb⟩ := hrel
      have HBJ := Lib.hid (HBO.out.trans (hb.mono HBO.out.size))
      have HBJ0 := Lib.hid hb
      clear hb t1
      have hcl := cntK_le P r j
      by_cases hjm : j < m
      ·have hjP : j < P.length := by rw [← HPE.out.2.1]; exact hjm
       have hco := cntK_succ (r := r) hjP
       obtain ⟨cn, hcn⟩ : ∃ o, o = cntK P r j := ⟨_, rfl⟩
       rw [← hcn] at hco hcl
       rw [← hcn]
       have HCO := Lib.hid hco
       have hxj := HXP.out j hjP
       obtain ⟨y, hy⟩ : ∃ y, y = P.getD j (0, 0) := ⟨_, rfl⟩
       rw [← hy] at hxj HCO
       obtain ⟨ya, yb⟩ := y
       have HXJ := Lib.hid hxj
       obtain ⟨t, ht⟩ : ∃ t, t = hasB (ya, yb) r := ⟨_, rfl⟩
       rw [← ht] at HCO
       have hmem : (ya, yb) ∈ P := by rw [hy, List.getD_eq_getElem?_getD, List.getElem?_eq_getElem hjP]; exact List.getElem_mem _
       have hya := HPB.out (ya, yb) hmem
       dsimp only at hya
       have hhb : (bits .and .i64 (r : Int) (ya : Int) == (yb : Int)) = t := by rw [ht]; exact hasB_bits hr256 hya.1
       have HLH := Lib.hid (fun X => lhas_any (ya : Int) (yb : Int) (r : Int) X)
       rw [hhb] at HLH
       clear hxj hy ht hya hhb hmem hr256
       have HJ := Lib.hid (And.intro hjm hjP)
       have hjz : (j : Int) < (m : Int) := by omega
       obtain ⟨j2, hj2⟩ : ∃ z : Int, z = (j : Int) + 1 := ⟨_, rfl⟩
       have hwj : IntKind.i64.wrap ((j : Int) + 1) = j2 := by rw [hj2]; exact IntWalk.i64_in _ (by omega)
       have HJ2 := Lib.hid hj2
       have hwc : IntKind.i64.wrap ((cn : Int) + 1) = ((cn + 1 : Nat) : Int) := by rw [IntWalk.i64_in _ (by omega)]; rfl
       obtain ⟨cn2, hcn2⟩ : ∃ z : Int, z = ((cn + 1 : Nat) : Int) := ⟨_, rfl⟩
       rw [← hcn2] at hwc
       have HCN := Lib.hid hcn2
       clear hj2 hcn2 hco hcn hjP hjm hj hcl
       go_upto_region 19 with fail
       --R19
       refine wp_regionJ 10 #[false, false, false, false, false, false, false, false, false, false] (fun ll aa W => ∃ (m0 m1 m2 m3 m4 m5 m6 m7 m8 m9 : Bool), ll = #[m0, m1, m2, m3, m4, m5, m6, m7, m8, m9] ∧ aa = ({ tmps := #[Value.int IntKind.u8 (a : Int), Value.int IntKind.u16 (on : Int), Value.int IntKind.u16 (fr : Int), undef, undef, undef, Value.bool false, Value.pointer (some { block := W1.heap.size, off := 0 }), Value.slice A2 m c2, Value.int IntKind.i64 0, Value.slice A3 ke c3, Value.int IntKind.i64 0, Value.slice (some { block := g4, off := o4 }) m c4, Value.slice A' no' cp, Value.int IntKind.i64 (i : Int), Value.bool av, Value.int IntKind.i64 (k : Int), Value.int IntKind.i64 (cn : Int), Value.int IntKind.i64 (j : Int), Value.bool true, Value.bool false, Value.int IntKind.u8 (a : Int), Value.int IntKind.u16 (on : Int), Value.int IntKind.u16 (fr : Int), Value.agg #[Value.int IntKind.i64 (q : Int), Value.slice (some { block := b, off := off }) n c, Value.slice B nf.length d], Value.tuple #[Value.slice A2 m c2, Value.int IntKind.i64 0], Value.agg #[Value.int IntKind.i64 (q : Int), Value.slice (some { block := b, off := off }) n c, Value.slice B nf.length d], Value.tuple #[Value.slice A2 m c2, Value.int IntKind.i64 0], Value.slice A2 m c2, Value.int IntKind.i64 0, Value.tuple #[Value.slice A3 ke c3, Value.int IntKind.i64 0], Value.agg #[Value.int IntKind.i64 (q : Int), Value.slice (some { block := b, off := off }) n c, Value.slice B nf.length d], Value.tuple #[Value.slice A3 ke c3, Value.int IntKind.i64 0], Value.slice A3 ke c3, Value.int IntKind.i64 0, Value.agg #[Value.int IntKind.i64 (q : Int), Value.slice (some { block := b, off := off }) n c, Value.slice B nf.length d], Value.slice (some { block := g4, off := o4 }) m c4, Value.int IntKind.i64 (i : Int), Value.slice (some { block := g4, off := o4 }) m c4, Value.int IntKind.i64 (m : Int), Value.bool true, u41, u42, Value.int IntKind.i64 (k : Int), Value.pointer (some { block := W1.heap.size, off := 1 }), Value.slice (some { block := b, off := off }) n c, Value.int IntKind.i64 (n : Int), Value.bool true, u48, u49, Value.int IntKind.i64 (j : Int), Value.slice (some { block := g4, off := o4 }) m c4, Value.int IntKind.i64 (m : Int), Value.bool true, u54, u55, cwX m0 (Value.slice (some { block := g4, off := o4 }) m c4) (u56), cwX m1 (Value.int IntKind.i64 (j : Int)) (u57), cwX m2 (Value.pointer (some ⟨g4, o4 + j * 2, none⟩)) (u58), cwX m3 (Value.agg #[.int .i64 (ya : Int), .int .i64 (yb : Int)]) (u59), cwX m4 (Value.pointer (some ⟨W1.heap.size, 1, none⟩)) (u60), cwX m5 (Value.slice (some { block := b, off := off }) n c) (u61), cwX m6 (Value.int IntKind.i64 (k : Int)) (u62), cwX m7 (Value.pointer (some ⟨b, off + k, none⟩)) (u63), cwX m8 (Value.int .i64 (r : Int)) (u64), cwX m9 (Value.bool t) (u65), u66, u67, u68, u69, u70, u71, u72, u73, u74, u75, u76, u77, u78, u79, u80, u81, u82, u83, u84, u85, u86, u87, u88, u89, u90, u91, u92, undef, undef, undef, undef, undef, undef, undef, undef, undef, undef, undef, undef, undef, undef, undef, undef], defers := [] } : Act) ∧ (True) ∧ Below wo.heap.size wo W) (by kernel_rfl) (by kernel_rfl) (by kernel_rfl) (by kernel_rfl) ?_ ?_ ?_ ?_
       ·rintro ll aa W ⟨m0, m1, m2, m3, m4, m5, m6, m7, m8, m9, rfl, _⟩
        rfl
       ·exact ⟨false, false, false, false, false, false, false, false, false, false, rfl, rfl, trivial, (HBJ0.out.drew)⟩
       ·rintro ll aa W i o ⟨m0, m1, m2, m3, m4, m5, m6, m7, m8, m9, rfl, rfl, hi0, hm⟩ ho hun hall K hK
        have hi : i < 10 := (Array.getElem?_eq_some_iff.1 ho).1
        have HM := Lib.hid hm
        have HI := Lib.hid hi0
        clear hm hi0
        rcases (show i = 0 ∨ i = 1 ∨ i = 2 ∨ i = 3 ∨ i = 4 ∨ i = 5 ∨ i = 6 ∨ i = 7 ∨ i = 8 ∨ i = 9 by omega) with rfl | rfl | rfl | rfl | rfl | rfl | rfl | rfl | rfl | rfl
        ·cases ho
         simp at hun; subst hun
         clear hall hi
         go_simp
         exact hK.out _ _ ⟨true, m1, m2, m3, m4, m5, m6, m7, m8, m9, rfl, rfl, trivial, HM.out⟩
        ·cases ho
         simp at hun; subst hun
         clear hall hi
         go_simp
         exact hK.out _ _ ⟨m0, true, m2, m3, m4, m5, m6, m7, m8, m9, rfl, rfl, trivial, HM.out⟩
        ·cases ho
         cases (getBX hall 0 rfl : m0 = true)
         cases (getBX hall 1 rfl : m1 = true)
         simp at hun; subst hun
         clear hall hi
         go_simp
         exact hK.out _ _ ⟨true, true, true, m3, m4, m5, m6, m7, m8, m9, rfl, rfl, trivial, HM.out⟩
        ·cases ho
         cases (getBX hall 2 rfl : m2 = true)
         simp at hun; subst hun
         clear hall hi
         obtain ⟨y0, y1⟩ := HXJ.out W (HBO.out.trans (HM.out.mono HBO.out.size))
         go_simp
         exact hK.out _ _ ⟨m0, m1, true, true, m4, m5, m6, m7, m8, m9, rfl, rfl, trivial, HM.out⟩
        ·cases ho
         simp at hun; subst hun
         clear hall hi
         go_simp
         exact hK.out _ _ ⟨m0, m1, m2, m3, true, m5, m6, m7, m8, m9, rfl, rfl, trivial, HM.out⟩
        ·cases ho
         cases (getBX hall 4 rfl : m4 = true)
         simp at hun; subst hun
         clear hall hi
         have t1 := HTW.out W (HBO.out.trans (HM.out.mono HBO.out.size))
         go_simp
         exact hK.out _ _ ⟨m0, m1, m2, m3, true, true, m6, m7, m8, m9, rfl, rfl, trivial, HM.out⟩
        ·cases ho
         simp at hun; subst hun
         clear hall hi
         go_simp
         exact hK.out _ _ ⟨m0, m1, m2, m3, m4, m5, true, m7, m8, m9, rfl, rfl, trivial, HM.out⟩
        ·cases ho
         cases (getBX hall 5 rfl : m5 = true)
         cases (getBX hall 6 rfl : m6 = true)
         simp at hun; subst hun
         clear hall hi
         go_simp
         exact hK.out _ _ ⟨m0, m1, m2, m3, m4, true, true, true, m8, m9, rfl, rfl, trivial, HM.out⟩
        ·cases ho
         cases (getBX hall 7 rfl : m7 = true)
         simp at hun; subst hun
         clear hall hi
         have x0 := HXA.out W (HBO.out.trans (HM.out.mono HBO.out.size))
         go_simp
         exact hK.out _ _ ⟨m0, m1, m2, m3, m4, m5, m6, true, true, m9, rfl, rfl, trivial, HM.out⟩
        ·cases ho
         cases (getBX hall 3 rfl : m3 = true)
         cases (getBX hall 8 rfl : m8 = true)
         simp at hun; subst hun
         clear hall hi
         go_simp
         refine (HLH.out W).mono ?_
         rintro e W' ⟨rfl, hb⟩
         have HN := Lib.hid (HM.out.trans (hb.mono HM.out.size))
         exact hK.out _ _ ⟨m0, m1, m2, true, m4, m5, m6, m7, true, true, rfl, rfl, trivial, HN.out⟩
       ·rintro ll aa W ⟨m0, m1, m2, m3, m4, m5, m6, m7, m8, m9, rfl, rfl, _, hm⟩ hall
        cases (hall 0 (by decide) : m0 = true)
        cases (hall 1 (by decide) : m1 = true)
        cases (hall 2 (by decide) : m2 = true)
        cases (hall 3 (by decide) : m3 = true)
        cases (hall 4 (by decide) : m4 = true)
        cases (hall 5 (by decide) : m5 = true)
        cases (hall 6 (by decide) : m6 = true)
        cases (hall 7 (by decide) : m7 = true)
        cases (hall 8 (by decide) : m8 = true)
        cases (hall 9 (by decide) : m9 = true)
        clear hall
        have HME := Lib.hid hm
        clear hm
        dsimp only [cwX, cond_true]
        cases t with
        | false =>
         go_wp2_with fail
         go_roundw
         case rel => exact ⟨j + 1, HJ.out.1, by rw [HJ2.out]; rfl, by rw [HCO.out]; rfl, HME.out⟩
         case measure => have := HJ.out.1; have := HJ2.out; simp only [intOf]; omega
        | true =>
         go_wp2_with fail
         go_roundw
         case rel => exact ⟨j + 1, HJ.out.1, by rw [HJ2.out]; rfl, by rw [HCO.out, HCN.out]; rfl, HME.out⟩
         case measure => have := HJ.out.1; have := HJ2.out; simp only [intOf]; omega
      ·obtain rfl : j = m := by omega
       have hjz : ¬ (j : Int) < (j : Int) := by omega
       clear hj hjm
       go_wp2_with fail
       --R21
       have hce : cntK P r j = cntE P r := by rw [HPE.out.2.1]; exact cntK_full P r
       obtain ⟨ce, hce2⟩ : ∃ x, x = cntE P r := ⟨_, rfl⟩
       have HCE := Lib.hid hce2
       rw [hce, ← hce2]
       obtain ⟨t, ht⟩ : ∃ t, t = hasB (za, zb) r := ⟨_, rfl⟩
       have hhb : (bits .and .i64 (r : Int) (za : Int) == (zb : Int)) = t := by rw [ht]; exact hasB_bits hr256 HZA.out
       have HLI := Lib.hid (fun X => lhas_any (za : Int) (zb : Int) (r : Int) X)
       rw [hhb] at HLI
       have HTT := Lib.hid ht
       clear hce hce2 hhb ht
       cases av with
       | true =>
        go_upto_region 21 with fail
        refine wp_regionJ 18 #[false, false, false, false, false, false, false, false, false, false, false, false, false, false, false, false, false, false] (fun ll aa W => ∃ (m0 m1 m2 m3 m4 m5 m6 m7 m8 m9 m10 m11 m12 m13 m14 m15 m16 m17 : Bool), ll = #[m0, m1, m2, m3, m4, m5, m6, m7, m8, m9, m10, m11, m12, m13, m14, m15, m16, m17] ∧ aa = ({ tmps := #[Value.int IntKind.u8 (a : Int), Value.int IntKind.u16 (on : Int), Value.int IntKind.u16 (fr : Int), undef, undef, undef, Value.bool false, Value.pointer (some { block := W1.heap.size, off := 0 }), Value.slice A2 j c2, Value.int IntKind.i64 0, Value.slice A3 ke c3, Value.int IntKind.i64 0, Value.slice (some { block := g4, off := o4 }) j c4, Value.slice A' no' cp, Value.int IntKind.i64 (i : Int), Value.bool true, Value.int IntKind.i64 (k : Int), Value.int IntKind.i64 (ce : Int), Value.int IntKind.i64 (j : Int), Value.bool true, Value.bool false, Value.int IntKind.u8 (a : Int), Value.int IntKind.u16 (on : Int), Value.int IntKind.u16 (fr : Int), Value.agg #[Value.int IntKind.i64 (q : Int), Value.slice (some { block := b, off := off }) n c, Value.slice B nf.length d], Value.tuple #[Value.slice A2 j c2, Value.int IntKind.i64 0], Value.agg #[Value.int IntKind.i64 (q : Int), Value.slice (some { block := b, off := off }) n c, Value.slice B nf.length d], Value.tuple #[Value.slice A2 j c2, Value.int IntKind.i64 0], Value.slice A2 j c2, Value.int IntKind.i64 0, Value.tuple #[Value.slice A3 ke c3, Value.int IntKind.i64 0], Value.agg #[Value.int IntKind.i64 (q : Int), Value.slice (some { block := b, off := off }) n c, Value.slice B nf.length d], Value.tuple #[Value.slice A3 ke c3, Value.int IntKind.i64 0], Value.slice A3 ke c3, Value.int IntKind.i64 0, Value.agg #[Value.int IntKind.i64 (q : Int), Value.slice (some { block := b, off := off }) n c, Value.slice B nf.length d], Value.slice (some { block := g4, off := o4 }) j c4, Value.int IntKind.i64 (i : Int), Value.slice (some { block := g4, off := o4 }) j c4, Value.int IntKind.i64 (j : Int), Value.bool true, u41, u42, Value.int IntKind.i64 (k : Int), Value.pointer (some { block := W1.heap.size, off := 1 }), Value.slice (some { block := b, off := off }) n c, Value.int IntKind.i64 (n : Int), Value.bool true, u48, u49, Value.int IntKind.i64 (j : Int), Value.slice (some { block := g4, off := o4 }) j c4, Value.int IntKind.i64 (j : Int), Value.bool false, u54, u55, u56, u57, u58, u59, u60, u61, u62, u63, u64, u65, u66, u67, cwX m0 (Value.bool true) (u68), cwX m1 (Value.bool true) (u69), cwX m2 (undef) (u70), cwX m3 (undef) (u71), cwX m4 (undef) (u72), cwX m5 (undef) (u73), cwX m6 (undef) (u74), cwX m7 (undef) (u75), cwX m8 (undef) (u76), cwX m9 (undef) (u77), cwX m10 (undef) (u78), cwX m11 (undef) (u79), cwX m12 (undef) (u80), cwX m13 (undef) (u81), cwX m14 (undef) (u82), cwX m15 (undef) (u83), cwX m16 (Value.bool true) (u84), u85, u86, u87, u88, u89, u90, u91, u92, undef, undef, undef, undef, undef, undef, undef, undef, undef, undef, undef, undef, undef, undef, undef, undef], defers := [] } : Act) ∧ (True) ∧ Below wo.heap.size wo W) (by kernel_rfl) (by kernel_rfl) (by kernel_rfl) (by kernel_rfl) ?_ ?_ ?_ ?_
        ·rintro ll aa W ⟨m0, m1, m2, m3, m4, m5, m6, m7, m8, m9, m10, m11, m12, m13, m14, m15, m16, m17, rfl, _⟩
         rfl
        ·exact ⟨false, false, false, false, false, false, false, false, false, false, false, false, false, false, false, false, false, false, rfl, rfl, trivial, (HBJ0.out.drew)⟩
        ·rintro ll aa W i o ⟨m0, m1, m2, m3, m4, m5, m6, m7, m8, m9, m10, m11, m12, m13, m14, m15, m16, m17, rfl, rfl, hi0, hm⟩ ho hun hall K hK
         have hi : i < 18 := (Array.getElem?_eq_some_iff.1 ho).1
         have HM := Lib.hid hm
         have HI := Lib.hid hi0
         clear hm hi0
         rcases (show i = 0 ∨ i = 1 ∨ i = 2 ∨ i = 3 ∨ i = 4 ∨ i = 5 ∨ i = 6 ∨ i = 7 ∨ i = 8 ∨ i = 9 ∨ i = 10 ∨ i = 11 ∨ i = 12 ∨ i = 13 ∨ i = 14 ∨ i = 15 ∨ i = 16 ∨ i = 17 by omega) with rfl | rfl | rfl | rfl | rfl | rfl | rfl | rfl | rfl | rfl | rfl | rfl | rfl | rfl | rfl | rfl | rfl | rfl
         ·cases ho
          simp at hun; subst hun
          clear hall hi
          go_simp
          exact hK.out _ _ ⟨true, m1, m2, m3, m4, m5, m6, m7, m8, m9, m10, m11, m12, m13, m14, m15, m16, m17, rfl, rfl, trivial, HM.out⟩
         ·cases ho
          cases (getBX hall 0 rfl : m0 = true)
          simp at hun; subst hun
          clear hall hi
          go_simp
          exact hK.out _ _ ⟨true, true, m2, m3, m4, m5, m6, m7, m8, m9, m10, m11, m12, m13, m14, m15, m16, m17, rfl, rfl, trivial, HM.out⟩
         ·cases ho
          cases (getBX hall 1 rfl : m1 = true)
          simp at hun; subst hun
          clear hall hi
          go_simp
          exact hK.out _ _ ⟨m0, true, true, m3, m4, m5, m6, m7, m8, m9, m10, m11, m12, m13, m14, m15, m16, m17, rfl, rfl, trivial, HM.out⟩
         ·cases ho
          cases (getBX hall 1 rfl : m1 = true)
          cases (getBX hall 2 rfl : m2 = true)
          simp at hun; subst hun
          clear hall hi
          go_simp
          exact hK.out _ _ ⟨m0, true, true, true, m4, m5, m6, m7, m8, m9, m10, m11, m12, m13, m14, m15, m16, m17, rfl, rfl, trivial, HM.out⟩
         ·cases ho
          cases (getBX hall 1 rfl : m1 = true)
          cases (getBX hall 3 rfl : m3 = true)
          simp at hun; subst hun
          clear hall hi
          go_simp
          exact hK.out _ _ ⟨m0, true, m2, true, true, m5, m6, m7, m8, m9, m10, m11, m12, m13, m14, m15, m16, m17, rfl, rfl, trivial, HM.out⟩
         ·cases ho
          cases (getBX hall 4 rfl : m4 = true)
          simp at hun; subst hun
          clear hall hi
          go_simp
          exact hK.out _ _ ⟨m0, m1, m2, m3, true, true, m6, m7, m8, m9, m10, m11, m12, m13, m14, m15, m16, m17, rfl, rfl, trivial, HM.out⟩
         ·cases ho
          cases (getBX hall 4 rfl : m4 = true)
          simp at hun; subst hun
          clear hall hi
          go_simp
          exact hK.out _ _ ⟨m0, m1, m2, m3, true, m5, true, m7, m8, m9, m10, m11, m12, m13, m14, m15, m16, m17, rfl, rfl, trivial, HM.out⟩
         ·cases ho
          cases (getBX hall 4 rfl : m4 = true)
          cases (getBX hall 5 rfl : m5 = true)
          cases (getBX hall 6 rfl : m6 = true)
          simp at hun; subst hun
          clear hall hi
          go_simp
          exact hK.out _ _ ⟨m0, m1, m2, m3, true, true, true, true, m8, m9, m10, m11, m12, m13, m14, m15, m16, m17, rfl, rfl, trivial, HM.out⟩
         ·cases ho
          cases (getBX hall 4 rfl : m4 = true)
          cases (getBX hall 7 rfl : m7 = true)
          simp at hun; subst hun
          clear hall hi
          go_simp
          exact hK.out _ _ ⟨m0, m1, m2, m3, true, m5, m6, true, true, m9, m10, m11, m12, m13, m14, m15, m16, m17, rfl, rfl, trivial, HM.out⟩
         ·cases ho
          cases (getBX hall 4 rfl : m4 = true)
          simp at hun; subst hun
          clear hall hi
          go_simp
          exact hK.out _ _ ⟨m0, m1, m2, m3, true, m5, m6, m7, m8, true, m10, m11, m12, m13, m14, m15, m16, m17, rfl, rfl, trivial, HM.out⟩
         ·cases ho
          cases (getBX hall 4 rfl : m4 = true)
          cases (getBX hall 9 rfl : m9 = true)
          simp at hun; subst hun
          clear hall hi
          go_simp
          exact hK.out _ _ ⟨m0, m1, m2, m3, true, m5, m6, m7, m8, true, true, m11, m12, m13, m14, m15, m16, m17, rfl, rfl, trivial, HM.out⟩
         ·cases ho
          cases (getBX hall 4 rfl : m4 = true)
          simp at hun; subst hun
          clear hall hi
          go_simp
          exact hK.out _ _ ⟨m0, m1, m2, m3, true, m5, m6, m7, m8, m9, m10, true, m12, m13, m14, m15, m16, m17, rfl, rfl, trivial, HM.out⟩
         ·cases ho
          cases (getBX hall 4 rfl : m4 = true)
          cases (getBX hall 10 rfl : m10 = true)
          cases (getBX hall 11 rfl : m11 = true)
          simp at hun; subst hun
          clear hall hi
          go_simp
          exact hK.out _ _ ⟨m0, m1, m2, m3, true, m5, m6, m7, m8, m9, true, true, true, m13, m14, m15, m16, m17, rfl, rfl, trivial, HM.out⟩
         ·cases ho
          cases (getBX hall 4 rfl : m4 = true)
          cases (getBX hall 12 rfl : m12 = true)
          simp at hun; subst hun
          clear hall hi
          go_simp
          exact hK.out _ _ ⟨m0, m1, m2, m3, true, m5, m6, m7, m8, m9, m10, m11, true, true, m14, m15, m16, m17, rfl, rfl, trivial, HM.out⟩
         ·cases ho
          cases (getBX hall 4 rfl : m4 = true)
          cases (getBX hall 8 rfl : m8 = true)
          cases (getBX hall 13 rfl : m13 = true)
          simp at hun; subst hun
          clear hall hi
          go_simp
          exact hK.out _ _ ⟨m0, m1, m2, m3, true, m5, m6, m7, true, m9, m10, m11, m12, true, true, m15, m16, m17, rfl, rfl, trivial, HM.out⟩
         ·cases ho
          cases (getBX hall 1 rfl : m1 = true)
          cases (getBX hall 4 rfl : m4 = true)
          cases (getBX hall 14 rfl : m14 = true)
          simp at hun; subst hun
          clear hall hi
          go_simp
          exact hK.out _ _ ⟨m0, true, m2, m3, true, m5, m6, m7, m8, m9, m10, m11, m12, m13, true, true, m16, m17, rfl, rfl, trivial, HM.out⟩
         ·cases ho
          cases (getBX hall 1 rfl : m1 = true)
          cases (getBX hall 15 rfl : m15 = true)
          simp at hun; subst hun
          clear hall hi
          go_simp
          exact hK.out _ _ ⟨m0, true, m2, m3, m4, m5, m6, m7, m8, m9, m10, m11, m12, m13, m14, true, true, m17, rfl, rfl, trivial, HM.out⟩
         ·cases ho
          cases (getBX hall 0 rfl : m0 = true)
          cases (getBX hall 1 rfl : m1 = true)
          cases (getBX hall 2 rfl : m2 = true)
          cases (getBX hall 3 rfl : m3 = true)
          cases (getBX hall 4 rfl : m4 = true)
          cases (getBX hall 5 rfl : m5 = true)
          cases (getBX hall 6 rfl : m6 = true)
          cases (getBX hall 7 rfl : m7 = true)
          cases (getBX hall 8 rfl : m8 = true)
          cases (getBX hall 9 rfl : m9 = true)
          cases (getBX hall 10 rfl : m10 = true)
          cases (getBX hall 11 rfl : m11 = true)
          cases (getBX hall 12 rfl : m12 = true)
          cases (getBX hall 13 rfl : m13 = true)
          cases (getBX hall 14 rfl : m14 = true)
          cases (getBX hall 15 rfl : m15 = true)
          cases (getBX hall 16 rfl : m16 = true)
          simp at hun; subst hun
          clear hall hi
          go_simp
          exact hK.out _ _ ⟨true, true, true, true, true, true, true, true, true, true, true, true, true, true, true, true, true, true, rfl, rfl, trivial, HM.out⟩
        ·rintro ll aa W ⟨m0, m1, m2, m3, m4, m5, m6, m7, m8, m9, m10, m11, m12, m13, m14, m15, m16, m17, rfl, rfl, _, hm⟩ hall
         cases (hall 0 (by decide) : m0 = true)
         cases (hall 1 (by decide) : m1 = true)
         cases (hall 2 (by decide) : m2 = true)
         cases (hall 3 (by decide) : m3 = true)
         cases (hall 4 (by decide) : m4 = true)
         cases (hall 5 (by decide) : m5 = true)
         cases (hall 6 (by decide) : m6 = true)
         cases (hall 7 (by decide) : m7 = true)
         cases (hall 8 (by decide) : m8 = true)
         cases (hall 9 (by decide) : m9 = true)
         cases (hall 10 (by decide) : m10 = true)
         cases (hall 11 (by decide) : m11 = true)
         cases (hall 12 (by decide) : m12 = true)
         cases (hall 13 (by decide) : m13 = true)
         cases (hall 14 (by decide) : m14 = true)
         cases (hall 15 (by decide) : m15 = true)
         cases (hall 16 (by decide) : m16 = true)
         cases (hall 17 (by decide) : m17 = true)
         clear hall
         have HME := Lib.hid hm
         clear hm
         dsimp only [cwX, cond_true]
         go_wp2_with fail
         go_roundw
         case rel => exact ⟨k + 1, HKL.out.1, by rw [HK2.out]; rfl, by rw [HTK.out, List.any_append, ← HAV.out, List.any_cons, List.any_nil, ← HCE.out, ← HTT.out]; simp, HME.out⟩
         case measure => have := HKL.out.1; have := HK2.out; simp only [intOf]; omega
       | false =>
        by_cases h1 : ce = 1
        ·have hc1 : ((ce : Int) == 1) = true := by rw [beq_iff_eq]; omega
         have HEQ := Lib.hid (show (ce == 1) = true by rw [h1]; rfl)
         clear h1
         go_upto_region 21 with fail
         refine wp_regionJ 18 #[false, false, false, false, false, false, false, false, false, false, false, false, false, false, false, false, false, false] (fun ll aa W => ∃ (m0 m1 m2 m3 m4 m5 m6 m7 m8 m9 m10 m11 m12 m13 m14 m15 m16 m17 : Bool), ll = #[m0, m1, m2, m3, m4, m5, m6, m7, m8, m9, m10, m11, m12, m13, m14, m15, m16, m17] ∧ aa = ({ tmps := #[Value.int IntKind.u8 (a : Int), Value.int IntKind.u16 (on : Int), Value.int IntKind.u16 (fr : Int), undef, undef, undef, Value.bool false, Value.pointer (some { block := W1.heap.size, off := 0 }), Value.slice A2 j c2, Value.int IntKind.i64 0, Value.slice A3 ke c3, Value.int IntKind.i64 0, Value.slice (some { block := g4, off := o4 }) j c4, Value.slice A' no' cp, Value.int IntKind.i64 (i : Int), cwX m17 (Value.bool t) (Value.bool false), Value.int IntKind.i64 (k : Int), Value.int IntKind.i64 (ce : Int), Value.int IntKind.i64 (j : Int), Value.bool true, Value.bool false, Value.int IntKind.u8 (a : Int), Value.int IntKind.u16 (on : Int), Value.int IntKind.u16 (fr : Int), Value.agg #[Value.int IntKind.i64 (q : Int), Value.slice (some { block := b, off := off }) n c, Value.slice B nf.length d], Value.tuple #[Value.slice A2 j c2, Value.int IntKind.i64 0], Value.agg #[Value.int IntKind.i64 (q : Int), Value.slice (some { block := b, off := off }) n c, Value.slice B nf.length d], Value.tuple #[Value.slice A2 j c2, Value.int IntKind.i64 0], Value.slice A2 j c2, Value.int IntKind.i64 0, Value.tuple #[Value.slice A3 ke c3, Value.int IntKind.i64 0], Value.agg #[Value.int IntKind.i64 (q : Int), Value.slice (some { block := b, off := off }) n c, Value.slice B nf.length d], Value.tuple #[Value.slice A3 ke c3, Value.int IntKind.i64 0], Value.slice A3 ke c3, Value.int IntKind.i64 0, Value.agg #[Value.int IntKind.i64 (q : Int), Value.slice (some { block := b, off := off }) n c, Value.slice B nf.length d], Value.slice (some { block := g4, off := o4 }) j c4, Value.int IntKind.i64 (i : Int), Value.slice (some { block := g4, off := o4 }) j c4, Value.int IntKind.i64 (j : Int), Value.bool true, u41, u42, Value.int IntKind.i64 (k : Int), Value.pointer (some { block := W1.heap.size, off := 1 }), Value.slice (some { block := b, off := off }) n c, Value.int IntKind.i64 (n : Int), Value.bool true, u48, u49, Value.int IntKind.i64 (j : Int), Value.slice (some { block := g4, off := o4 }) j c4, Value.int IntKind.i64 (j : Int), Value.bool false, u54, u55, u56, u57, u58, u59, u60, u61, u62, u63, u64, u65, u66, u67, cwX m0 (Value.bool false) (u68), cwX m1 (Value.bool false) (u69), cwX m2 (Value.int IntKind.i64 (ce : Int)) (u70), cwX m3 (Value.bool true) (u71), cwX m4 (Value.bool true) (u72), cwX m5 (Value.slice (some { block := g4, off := o4 }) j c4) (u73), cwX m6 (Value.int IntKind.i64 (i : Int)) (u74), cwX m7 (Value.pointer (some ⟨g4, o4 + i * 2, none⟩)) (u75), cwX m8 (Value.agg #[.int .i64 (za : Int), .int .i64 (zb : Int)]) (u76), cwX m9 (Value.pointer (some ⟨W1.heap.size, 1, none⟩)) (u77), cwX m10 (Value.slice (some { block := b, off := off }) n c) (u78), cwX m11 (Value.int IntKind.i64 (k : Int)) (u79), cwX m12 (Value.pointer (some ⟨b, off + k, none⟩)) (u80), cwX m13 (Value.int .i64 (r : Int)) (u81), cwX m14 (Value.bool t) (u82), cwX m15 (Value.bool t) (u83), cwX m16 (Value.bool t) (u84), u85, u86, u87, u88, u89, u90, u91, u92, undef, undef, undef, undef, undef, undef, undef, undef, undef, undef, undef, undef, undef, undef, undef, undef], defers := [] } : Act) ∧ (m17 = true → m0 = true) ∧ Below wo.heap.size wo W) (by kernel_rfl) (by kernel_rfl) (by kernel_rfl) (by kernel_rfl) ?_ ?_ ?_ ?_
         ·rintro ll aa W ⟨m0, m1, m2, m3, m4, m5, m6, m7, m8, m9, m10, m11, m12, m13, m14, m15, m16, m17, rfl, _⟩
          rfl
         ·exact ⟨false, false, false, false, false, false, false, false, false, false, false, false, false, false, false, false, false, false, rfl, rfl, fun h => absurd h (by simp), (HBJ0.out.drew)⟩
         ·rintro ll aa W i o ⟨m0, m1, m2, m3, m4, m5, m6, m7, m8, m9, m10, m11, m12, m13, m14, m15, m16, m17, rfl, rfl, hi0, hm⟩ ho hun hall K hK
          have hi : i < 18 := (Array.getElem?_eq_some_iff.1 ho).1
          have HM := Lib.hid hm
          have HI := Lib.hid hi0
          clear hm hi0
          rcases (show i = 0 ∨ i = 1 ∨ i = 2 ∨ i = 3 ∨ i = 4 ∨ i = 5 ∨ i = 6 ∨ i = 7 ∨ i = 8 ∨ i = 9 ∨ i = 10 ∨ i = 11 ∨ i = 12 ∨ i = 13 ∨ i = 14 ∨ i = 15 ∨ i = 16 ∨ i = 17 by omega) with rfl | rfl | rfl | rfl | rfl | rfl | rfl | rfl | rfl | rfl | rfl | rfl | rfl | rfl | rfl | rfl | rfl | rfl
          ·cases ho
           simp at hun; subst hun
           clear hall hi
           obtain rfl : m17 = false := by
            cases m17
            ·rfl
            ·exact absurd (HI.out rfl) (by simp)
           go_simp
           exact hK.out _ _ ⟨true, m1, m2, m3, m4, m5, m6, m7, m8, m9, m10, m11, m12, m13, m14, m15, m16, false, rfl, rfl, by have h0 := HI.out; exact fun e => by first | rfl | exact h0 e | exact absurd e (by simp), HM.out⟩
          ·cases ho
           cases (getBX hall 0 rfl : m0 = true)
           simp at hun; subst hun
           clear hall hi
           go_simp
           exact hK.out _ _ ⟨true, true, m2, m3, m4, m5, m6, m7, m8, m9, m10, m11, m12, m13, m14, m15, m16, m17, rfl, rfl, by have h0 := HI.out; exact fun e => by first | rfl | exact h0 e | exact absurd e (by simp), HM.out⟩
          ·cases ho
           cases (getBX hall 1 rfl : m1 = true)
           simp at hun; subst hun
           clear hall hi
           go_simp
           exact hK.out _ _ ⟨m0, true, true, m3, m4, m5, m6, m7, m8, m9, m10, m11, m12, m13, m14, m15, m16, m17, rfl, rfl, by have h0 := HI.out; exact fun e => by first | rfl | exact h0 e | exact absurd e (by simp), HM.out⟩
          ·cases ho
           cases (getBX hall 1 rfl : m1 = true)
           cases (getBX hall 2 rfl : m2 = true)
           simp at hun; subst hun
           clear hall hi
           go_simp
           exact hK.out _ _ ⟨m0, true, true, true, m4, m5, m6, m7, m8, m9, m10, m11, m12, m13, m14, m15, m16, m17, rfl, rfl, by have h0 := HI.out; exact fun e => by first | rfl | exact h0 e | exact absurd e (by simp), HM.out⟩
          ·cases ho
           cases (getBX hall 1 rfl : m1 = true)
           cases (getBX hall 3 rfl : m3 = true)
           simp at hun; subst hun
           clear hall hi
           go_simp
           exact hK.out _ _ ⟨m0, true, m2, true, true, m5, m6, m7, m8, m9, m10, m11, m12, m13, m14, m15, m16, m17, rfl, rfl, by have h0 := HI.out; exact fun e => by first | rfl | exact h0 e | exact absurd e (by simp), HM.out⟩
          ·cases ho
           cases (getBX hall 4 rfl : m4 = true)
           simp at hun; subst hun
           clear hall hi
           go_simp
           exact hK.out _ _ ⟨m0, m1, m2, m3, true, true, m6, m7, m8, m9, m10, m11, m12, m13, m14, m15, m16, m17, rfl, rfl, by have h0 := HI.out; exact fun e => by first | rfl | exact h0 e | exact absurd e (by simp), HM.out⟩
          ·cases ho
           cases (getBX hall 4 rfl : m4 = true)
           simp at hun; subst hun
           clear hall hi
           go_simp
           exact hK.out _ _ ⟨m0, m1, m2, m3, true, m5, true, m7, m8, m9, m10, m11, m12, m13, m14, m15, m16, m17, rfl, rfl, by have h0 := HI.out; exact fun e => by first | rfl | exact h0 e | exact absurd e (by simp), HM.out⟩
          ·cases ho
           cases (getBX hall 4 rfl : m4 = true)
           cases (getBX hall 5 rfl : m5 = true)
           cases (getBX hall 6 rfl : m6 = true)
           simp at hun; subst hun
           clear hall hi
           go_simp
           exact hK.out _ _ ⟨m0, m1, m2, m3, true, true, true, true, m8, m9, m10, m11, m12, m13, m14, m15, m16, m17, rfl, rfl, by have h0 := HI.out; exact fun e => by first | rfl | exact h0 e | exact absurd e (by simp), HM.out⟩
          ·cases ho
           cases (getBX hall 4 rfl : m4 = true)
           cases (getBX hall 7 rfl : m7 = true)
           simp at hun; subst hun
           clear hall hi
           obtain ⟨y0, y1⟩ := HXI.out W (HBO.out.trans (HM.out.mono HBO.out.size))
           go_simp
           exact hK.out _ _ ⟨m0, m1, m2, m3, true, m5, m6, true, true, m9, m10, m11, m12, m13, m14, m15, m16, m17, rfl, rfl, by have h0 := HI.out; exact fun e => by first | rfl | exact h0 e | exact absurd e (by simp), HM.out⟩
          ·cases ho
           cases (getBX hall 4 rfl : m4 = true)
           simp at hun; subst hun
           clear hall hi
           go_simp
           exact hK.out _ _ ⟨m0, m1, m2, m3, true, m5, m6, m7, m8, true, m10, m11, m12, m13, m14, m15, m16, m17, rfl, rfl, by have h0 := HI.out; exact fun e => by first | rfl | exact h0 e | exact absurd e (by simp), HM.out⟩
          ·cases ho
           cases (getBX hall 4 rfl : m4 = true)
           cases (getBX hall 9 rfl : m9 = true)
           simp at hun; subst hun
           clear hall hi
           have t1 := HTW.out W (HBO.out.trans (HM.out.mono HBO.out.size))
           go_simp
           exact hK.out _ _ ⟨m0, m1, m2, m3, true, m5, m6, m7, m8, true, true, m11, m12, m13, m14, m15, m16, m17, rfl, rfl, by have h0 := HI.out; exact fun e => by first | rfl | exact h0 e | exact absurd e (by simp), HM.out⟩
          ·cases ho
           cases (getBX hall 4 rfl : m4 = true)
           simp at hun; subst hun
           clear hall hi
           go_simp
           exact hK.out _ _ ⟨m0, m1, m2, m3, true, m5, m6, m7, m8, m9, m10, true, m12, m13, m14, m15, m16, m17, rfl, rfl, by have h0 := HI.out; exact fun e => by first | rfl | exact h0 e | exact absurd e (by simp), HM.out⟩
          ·cases ho
           cases (getBX hall 4 rfl : m4 = true)
           cases (getBX hall 10 rfl : m10 = true)
           cases (getBX hall 11 rfl : m11 = true)
           simp at hun; subst hun
           clear hall hi
           go_simp
           exact hK.out _ _ ⟨m0, m1, m2, m3, true, m5, m6, m7, m8, m9, true, true, true, m13, m14, m15, m16, m17, rfl, rfl, by have h0 := HI.out; exact fun e => by first | rfl | exact h0 e | exact absurd e (by simp), HM.out⟩
          ·cases ho
           cases (getBX hall 4 rfl : m4 = true)
           cases (getBX hall 12 rfl : m12 = true)
           simp at hun; subst hun
           clear hall hi
           have x0 := HXA.out W (HBO.out.trans (HM.out.mono HBO.out.size))
           go_simp
           exact hK.out _ _ ⟨m0, m1, m2, m3, true, m5, m6, m7, m8, m9, m10, m11, true, true, m14, m15, m16, m17, rfl, rfl, by have h0 := HI.out; exact fun e => by first | rfl | exact h0 e | exact absurd e (by simp), HM.out⟩
          ·cases ho
           cases (getBX hall 4 rfl : m4 = true)
           cases (getBX hall 8 rfl : m8 = true)
           cases (getBX hall 13 rfl : m13 = true)
           simp at hun; subst hun
           clear hall hi
           go_simp
           refine (HLI.out W).mono ?_
           rintro e W' ⟨rfl, hb⟩
           have HN := Lib.hid (HM.out.trans (hb.mono HM.out.size))
           exact hK.out _ _ ⟨m0, m1, m2, m3, true, m5, m6, m7, true, m9, m10, m11, m12, true, true, m15, m16, m17, rfl, rfl, by have h0 := HI.out; exact fun e => by first | rfl | exact h0 e | exact absurd e (by simp), HN.out⟩
          ·cases ho
           cases (getBX hall 1 rfl : m1 = true)
           cases (getBX hall 4 rfl : m4 = true)
           cases (getBX hall 14 rfl : m14 = true)
           simp at hun; subst hun
           clear hall hi
           go_simp
           exact hK.out _ _ ⟨m0, true, m2, m3, true, m5, m6, m7, m8, m9, m10, m11, m12, m13, true, true, m16, m17, rfl, rfl, by have h0 := HI.out; exact fun e => by first | rfl | exact h0 e | exact absurd e (by simp), HM.out⟩
          ·cases ho
           cases (getBX hall 1 rfl : m1 = true)
           cases (getBX hall 15 rfl : m15 = true)
           simp at hun; subst hun
           clear hall hi
           go_simp
           exact hK.out _ _ ⟨m0, true, m2, m3, m4, m5, m6, m7, m8, m9, m10, m11, m12, m13, m14, true, true, m17, rfl, rfl, by have h0 := HI.out; exact fun e => by first | rfl | exact h0 e | exact absurd e (by simp), HM.out⟩
          ·cases ho
           cases (getBX hall 0 rfl : m0 = true)
           cases (getBX hall 1 rfl : m1 = true)
           cases (getBX hall 2 rfl : m2 = true)
           cases (getBX hall 3 rfl : m3 = true)
           cases (getBX hall 4 rfl : m4 = true)
           cases (getBX hall 5 rfl : m5 = true)
           cases (getBX hall 6 rfl : m6 = true)
           cases (getBX hall 7 rfl : m7 = true)
           cases (getBX hall 8 rfl : m8 = true)
           cases (getBX hall 9 rfl : m9 = true)
           cases (getBX hall 10 rfl : m10 = true)
           cases (getBX hall 11 rfl : m11 = true)
           cases (getBX hall 12 rfl : m12 = true)
           cases (getBX hall 13 rfl : m13 = true)
           cases (getBX hall 14 rfl : m14 = true)
           cases (getBX hall 15 rfl : m15 = true)
           cases (getBX hall 16 rfl : m16 = true)
           simp at hun; subst hun
           clear hall hi
           go_simp
           exact hK.out _ _ ⟨true, true, true, true, true, true, true, true, true, true, true, true, true, true, true, true, true, true, rfl, rfl, by have h0 := HI.out; exact fun e => by first | rfl | exact h0 e | exact absurd e (by simp), HM.out⟩
         ·rintro ll aa W ⟨m0, m1, m2, m3, m4, m5, m6, m7, m8, m9, m10, m11, m12, m13, m14, m15, m16, m17, rfl, rfl, _, hm⟩ hall
          cases (hall 0 (by decide) : m0 = true)
          cases (hall 1 (by decide) : m1 = true)
          cases (hall 2 (by decide) : m2 = true)
          cases (hall 3 (by decide) : m3 = true)
          cases (hall 4 (by decide) : m4 = true)
          cases (hall 5 (by decide) : m5 = true)
          cases (hall 6 (by decide) : m6 = true)
          cases (hall 7 (by decide) : m7 = true)
          cases (hall 8 (by decide) : m8 = true)
          cases (hall 9 (by decide) : m9 = true)
          cases (hall 10 (by decide) : m10 = true)
          cases (hall 11 (by decide) : m11 = true)
          cases (hall 12 (by decide) : m12 = true)
          cases (hall 13 (by decide) : m13 = true)
          cases (hall 14 (by decide) : m14 = true)
          cases (hall 15 (by decide) : m15 = true)
          cases (hall 16 (by decide) : m16 = true)
          cases (hall 17 (by decide) : m17 = true)
          clear hall
          have HME := Lib.hid hm
          clear hm
          dsimp only [cwX, cond_true]
          go_wp2_with fail
          go_roundw
          case rel => exact ⟨k + 1, HKL.out.1, by rw [HK2.out]; rfl, by rw [HTK.out, List.any_append, ← HAV.out, List.any_cons, List.any_nil, ← HCE.out, HEQ.out, ← HTT.out]; simp, HME.out⟩
          case measure => have := HKL.out.1; have := HK2.out; simp only [intOf]; omega
        ·have hc1 : ((ce : Int) == 1) = false := by rw [beq_eq_false_iff_ne]; omega
         have HEQ := Lib.hid (show (ce == 1) = false by rw [beq_eq_false_iff_ne]; exact h1)
         clear h1
         go_upto_region 21 with fail
         refine wp_regionJ 18 #[false, false, false, false, false, false, false, false, false, false, false, false, false, false, false, false, false, false] (fun ll aa W => ∃ (m0 m1 m2 m3 m4 m5 m6 m7 m8 m9 m10 m11 m12 m13 m14 m15 m16 m17 : Bool), ll = #[m0, m1, m2, m3, m4, m5, m6, m7, m8, m9, m10, m11, m12, m13, m14, m15, m16, m17] ∧ aa = ({ tmps := #[Value.int IntKind.u8 (a : Int), Value.int IntKind.u16 (on : Int), Value.int IntKind.u16 (fr : Int), undef, undef, undef, Value.bool false, Value.pointer (some { block := W1.heap.size, off := 0 }), Value.slice A2 j c2, Value.int IntKind.i64 0, Value.slice A3 ke c3, Value.int IntKind.i64 0, Value.slice (some { block := g4, off := o4 }) j c4, Value.slice A' no' cp, Value.int IntKind.i64 (i : Int), Value.bool false, Value.int IntKind.i64 (k : Int), Value.int IntKind.i64 (ce : Int), Value.int IntKind.i64 (j : Int), Value.bool true, Value.bool false, Value.int IntKind.u8 (a : Int), Value.int IntKind.u16 (on : Int), Value.int IntKind.u16 (fr : Int), Value.agg #[Value.int IntKind.i64 (q : Int), Value.slice (some { block := b, off := off }) n c, Value.slice B nf.length d], Value.tuple #[Value.slice A2 j c2, Value.int IntKind.i64 0], Value.agg #[Value.int IntKind.i64 (q : Int), Value.slice (some { block := b, off := off }) n c, Value.slice B nf.length d], Value.tuple #[Value.slice A2 j c2, Value.int IntKind.i64 0], Value.slice A2 j c2, Value.int IntKind.i64 0, Value.tuple #[Value.slice A3 ke c3, Value.int IntKind.i64 0], Value.agg #[Value.int IntKind.i64 (q : Int), Value.slice (some { block := b, off := off }) n c, Value.slice B nf.length d], Value.tuple #[Value.slice A3 ke c3, Value.int IntKind.i64 0], Value.slice A3 ke c3, Value.int IntKind.i64 0, Value.agg #[Value.int IntKind.i64 (q : Int), Value.slice (some { block := b, off := off }) n c, Value.slice B nf.length d], Value.slice (some { block := g4, off := o4 }) j c4, Value.int IntKind.i64 (i : Int), Value.slice (some { block := g4, off := o4 }) j c4, Value.int IntKind.i64 (j : Int), Value.bool true, u41, u42, Value.int IntKind.i64 (k : Int), Value.pointer (some { block := W1.heap.size, off := 1 }), Value.slice (some { block := b, off := off }) n c, Value.int IntKind.i64 (n : Int), Value.bool true, u48, u49, Value.int IntKind.i64 (j : Int), Value.slice (some { block := g4, off := o4 }) j c4, Value.int IntKind.i64 (j : Int), Value.bool false, u54, u55, u56, u57, u58, u59, u60, u61, u62, u63, u64, u65, u66, u67, cwX m0 (Value.bool false) (u68), cwX m1 (Value.bool false) (u69), cwX m2 (Value.int IntKind.i64 (ce : Int)) (u70), cwX m3 (Value.bool false) (u71), cwX m4 (Value.bool false) (u72), cwX m5 (undef) (u73), cwX m6 (undef) (u74), cwX m7 (undef) (u75), cwX m8 (undef) (u76), cwX m9 (undef) (u77), cwX m10 (undef) (u78), cwX m11 (undef) (u79), cwX m12 (undef) (u80), cwX m13 (undef) (u81), cwX m14 (undef) (u82), cwX m15 (Value.bool false) (u83), cwX m16 (Value.bool false) (u84), u85, u86, u87, u88, u89, u90, u91, u92, undef, undef, undef, undef, undef, undef, undef, undef, undef, undef, undef, undef, undef, undef, undef, undef], defers := [] } : Act) ∧ (True) ∧ Below wo.heap.size wo W) (by kernel_rfl) (by kernel_rfl) (by kernel_rfl) (by kernel_rfl) ?_ ?_ ?_ ?_
         ·rintro ll aa W ⟨m0, m1, m2, m3, m4, m5, m6, m7, m8, m9, m10, m11, m12, m13, m14, m15, m16, m17, rfl, _⟩
          rfl
         ·exact ⟨false, false, false, false, false, false, false, false, false, false, false, false, false, false, false, false, false, false, rfl, rfl, trivial, (HBJ0.out.drew)⟩
         ·rintro ll aa W i o ⟨m0, m1, m2, m3, m4, m5, m6, m7, m8, m9, m10, m11, m12, m13, m14, m15, m16, m17, rfl, rfl, hi0, hm⟩ ho hun hall K hK
          have hi : i < 18 := (Array.getElem?_eq_some_iff.1 ho).1
          have HM := Lib.hid hm
          have HI := Lib.hid hi0
          clear hm hi0
          rcases (show i = 0 ∨ i = 1 ∨ i = 2 ∨ i = 3 ∨ i = 4 ∨ i = 5 ∨ i = 6 ∨ i = 7 ∨ i = 8 ∨ i = 9 ∨ i = 10 ∨ i = 11 ∨ i = 12 ∨ i = 13 ∨ i = 14 ∨ i = 15 ∨ i = 16 ∨ i = 17 by omega) with rfl | rfl | rfl | rfl | rfl | rfl | rfl | rfl | rfl | rfl | rfl | rfl | rfl | rfl | rfl | rfl | rfl | rfl
          ·cases ho
           simp at hun; subst hun
           clear hall hi
           go_simp
           exact hK.out _ _ ⟨true, m1, m2, m3, m4, m5, m6, m7, m8, m9, m10, m11, m12, m13, m14, m15, m16, m17, rfl, rfl, trivial, HM.out⟩
          ·cases ho
           cases (getBX hall 0 rfl : m0 = true)
           simp at hun; subst hun
           clear hall hi
           go_simp
           exact hK.out _ _ ⟨true, true, m2, m3, m4, m5, m6, m7, m8, m9, m10, m11, m12, m13, m14, m15, m16, m17, rfl, rfl, trivial, HM.out⟩
          ·cases ho
           cases (getBX hall 1 rfl : m1 = true)
           simp at hun; subst hun
           clear hall hi
           go_simp
           exact hK.out _ _ ⟨m0, true, true, m3, m4, m5, m6, m7, m8, m9, m10, m11, m12, m13, m14, m15, m16, m17, rfl, rfl, trivial, HM.out⟩
          ·cases ho
           cases (getBX hall 1 rfl : m1 = true)
           cases (getBX hall 2 rfl : m2 = true)
           simp at hun; subst hun
           clear hall hi
           go_simp
           exact hK.out _ _ ⟨m0, true, true, true, m4, m5, m6, m7, m8, m9, m10, m11, m12, m13, m14, m15, m16, m17, rfl, rfl, trivial, HM.out⟩
          ·cases ho
           cases (getBX hall 1 rfl : m1 = true)
           cases (getBX hall 3 rfl : m3 = true)
           simp at hun; subst hun
           clear hall hi
           go_simp
           exact hK.out _ _ ⟨m0, true, m2, true, true, m5, m6, m7, m8, m9, m10, m11, m12, m13, m14, m15, m16, m17, rfl, rfl, trivial, HM.out⟩
          ·cases ho
           cases (getBX hall 4 rfl : m4 = true)
           simp at hun; subst hun
           clear hall hi
           go_simp
           exact hK.out _ _ ⟨m0, m1, m2, m3, true, true, m6, m7, m8, m9, m10, m11, m12, m13, m14, m15, m16, m17, rfl, rfl, trivial, HM.out⟩
          ·cases ho
           cases (getBX hall 4 rfl : m4 = true)
           simp at hun; subst hun
           clear hall hi
           go_simp
           exact hK.out _ _ ⟨m0, m1, m2, m3, true, m5, true, m7, m8, m9, m10, m11, m12, m13, m14, m15, m16, m17, rfl, rfl, trivial, HM.out⟩
          ·cases ho
           cases (getBX hall 4 rfl : m4 = true)
           cases (getBX hall 5 rfl : m5 = true)
           cases (getBX hall 6 rfl : m6 = true)
           simp at hun; subst hun
           clear hall hi
           go_simp
           exact hK.out _ _ ⟨m0, m1, m2, m3, true, true, true, true, m8, m9, m10, m11, m12, m13, m14, m15, m16, m17, rfl, rfl, trivial, HM.out⟩
          ·cases ho
           cases (getBX hall 4 rfl : m4 = true)
           cases (getBX hall 7 rfl : m7 = true)
           simp at hun; subst hun
           clear hall hi
           go_simp
           exact hK.out _ _ ⟨m0, m1, m2, m3, true, m5, m6, true, true, m9, m10, m11, m12, m13, m14, m15, m16, m17, rfl, rfl, trivial, HM.out⟩
          ·cases ho
           cases (getBX hall 4 rfl : m4 = true)
           simp at hun; subst hun
           clear hall hi
           go_simp
           exact hK.out _ _ ⟨m0, m1, m2, m3, true, m5, m6, m7, m8, true, m10, m11, m12, m13, m14, m15, m16, m17, rfl, rfl, trivial, HM.out⟩
          ·cases ho
           cases (getBX hall 4 rfl : m4 = true)
           cases (getBX hall 9 rfl : m9 = true)
           simp at hun; subst hun
           clear hall hi
           go_simp
           exact hK.out _ _ ⟨m0, m1, m2, m3, true, m5, m6, m7, m8, true, true, m11, m12, m13, m14, m15, m16, m17, rfl, rfl, trivial, HM.out⟩
          ·cases ho
           cases (getBX hall 4 rfl : m4 = true)
           simp at hun; subst hun
           clear hall hi
           go_simp
           exact hK.out _ _ ⟨m0, m1, m2, m3, true, m5, m6, m7, m8, m9, m10, true, m12, m13, m14, m15, m16, m17, rfl, rfl, trivial, HM.out⟩
          ·cases ho
           cases (getBX hall 4 rfl : m4 = true)
           cases (getBX hall 10 rfl : m10 = true)
           cases (getBX hall 11 rfl : m11 = true)
           simp at hun; subst hun
           clear hall hi
           go_simp
           exact hK.out _ _ ⟨m0, m1, m2, m3, true, m5, m6, m7, m8, m9, true, true, true, m13, m14, m15, m16, m17, rfl, rfl, trivial, HM.out⟩
          ·cases ho
           cases (getBX hall 4 rfl : m4 = true)
           cases (getBX hall 12 rfl : m12 = true)
           simp at hun; subst hun
           clear hall hi
           go_simp
           exact hK.out _ _ ⟨m0, m1, m2, m3, true, m5, m6, m7, m8, m9, m10, m11, true, true, m14, m15, m16, m17, rfl, rfl, trivial, HM.out⟩
          ·cases ho
           cases (getBX hall 4 rfl : m4 = true)
           cases (getBX hall 8 rfl : m8 = true)
           cases (getBX hall 13 rfl : m13 = true)
           simp at hun; subst hun
           clear hall hi
           go_simp
           exact hK.out _ _ ⟨m0, m1, m2, m3, true, m5, m6, m7, true, m9, m10, m11, m12, true, true, m15, m16, m17, rfl, rfl, trivial, HM.out⟩
          ·cases ho
           cases (getBX hall 1 rfl : m1 = true)
           cases (getBX hall 4 rfl : m4 = true)
           cases (getBX hall 14 rfl : m14 = true)
           simp at hun; subst hun
           clear hall hi
           go_simp
           exact hK.out _ _ ⟨m0, true, m2, m3, true, m5, m6, m7, m8, m9, m10, m11, m12, m13, true, true, m16, m17, rfl, rfl, trivial, HM.out⟩
          ·cases ho
           cases (getBX hall 1 rfl : m1 = true)
           cases (getBX hall 15 rfl : m15 = true)
           simp at hun; subst hun
           clear hall hi
           go_simp
           exact hK.out _ _ ⟨m0, true, m2, m3, m4, m5, m6, m7, m8, m9, m10, m11, m12, m13, m14, true, true, m17, rfl, rfl, trivial, HM.out⟩
          ·cases ho
           cases (getBX hall 0 rfl : m0 = true)
           cases (getBX hall 1 rfl : m1 = true)
           cases (getBX hall 2 rfl : m2 = true)
           cases (getBX hall 3 rfl : m3 = true)
           cases (getBX hall 4 rfl : m4 = true)
           cases (getBX hall 5 rfl : m5 = true)
           cases (getBX hall 6 rfl : m6 = true)
           cases (getBX hall 7 rfl : m7 = true)
           cases (getBX hall 8 rfl : m8 = true)
           cases (getBX hall 9 rfl : m9 = true)
           cases (getBX hall 10 rfl : m10 = true)
           cases (getBX hall 11 rfl : m11 = true)
           cases (getBX hall 12 rfl : m12 = true)
           cases (getBX hall 13 rfl : m13 = true)
           cases (getBX hall 14 rfl : m14 = true)
           cases (getBX hall 15 rfl : m15 = true)
           cases (getBX hall 16 rfl : m16 = true)
           simp at hun; subst hun
           clear hall hi
           go_simp
           exact hK.out _ _ ⟨true, true, true, true, true, true, true, true, true, true, true, true, true, true, true, true, true, true, rfl, rfl, trivial, HM.out⟩
         ·rintro ll aa W ⟨m0, m1, m2, m3, m4, m5, m6, m7, m8, m9, m10, m11, m12, m13, m14, m15, m16, m17, rfl, rfl, _, hm⟩ hall
          cases (hall 0 (by decide) : m0 = true)
          cases (hall 1 (by decide) : m1 = true)
          cases (hall 2 (by decide) : m2 = true)
          cases (hall 3 (by decide) : m3 = true)
          cases (hall 4 (by decide) : m4 = true)
          cases (hall 5 (by decide) : m5 = true)
          cases (hall 6 (by decide) : m6 = true)
          cases (hall 7 (by decide) : m7 = true)
          cases (hall 8 (by decide) : m8 = true)
          cases (hall 9 (by decide) : m9 = true)
          cases (hall 10 (by decide) : m10 = true)
          cases (hall 11 (by decide) : m11 = true)
          cases (hall 12 (by decide) : m12 = true)
          cases (hall 13 (by decide) : m13 = true)
          cases (hall 14 (by decide) : m14 = true)
          cases (hall 15 (by decide) : m15 = true)
          cases (hall 16 (by decide) : m16 = true)
          cases (hall 17 (by decide) : m17 = true)
          clear hall
          have HME := Lib.hid hm
          clear hm
          dsimp only [cwX, cond_true]
          go_wp2_with fail
          go_roundw
          case rel => exact ⟨k + 1, HKL.out.1, by rw [HK2.out]; rfl, by rw [HTK.out, List.any_append, ← HAV.out, List.any_cons, List.any_nil, ← HCE.out, HEQ.out, ← HTT.out]; simp, HME.out⟩
          case measure => have := HKL.out.1; have := HK2.out; simp only [intOf]; omega
    ·obtain rfl : k = n := by omega
     have hkz : ¬ (k : Int) < (k : Int) := by omega
     clear hk hkl
     have hal : ((no.take k).any fun r => cntE P r == 1 && hasB (za, zb) r) = aloB P no (za, zb) := by
      rw [HPE.out.2.2.2.2, List.take_length]; rfl
     rw [hal]
     have hst := essK_succ (rows := no) HIP.out
     rw [← HZ.out] at hst
     obtain ⟨al, hal2⟩ : ∃ x, x = aloB P no (za, zb) := ⟨_, rfl⟩
     rw [← hal2] at hst
     rw [← hal2]
     have HST := Lib.hid hst
     clear hal hal2 hst
     cases al with
     | false =>
      have HS2 := Lib.hid (show essK P no (i + 1) = essK P no i by rw [HST.out]; rfl)
      go_wp2_with fail
      go_roundw
      case rel => exact ⟨i + 1, A', no', cp, HI.out, by rw [HI2.out]; rfl, rfl, by rw [HS2.out]; exact HNO.out, by rw [HS2.out]; exact own_blI HO.out HBK0.out, HBK.out⟩
      case measure => have := HI.out; have := HI2.out; simp only [intOf]; omega
     | true =>
      have HS2 := Lib.hid (show essK P no (i + 1) = essK P no i ++ [(za, zb)] by rw [HST.out]; rfl)
      obtain ⟨y0, y1⟩ := HXI.out wk HBK.out
      go_wp2_with (at_builtin; refine wpList_append_lies _ rfl _ _ 28 rfl W4.heap.size 37 i0 (.agg #[.int .i64 0, .int .i64 0]) 2 16 Tryz.underlying28 HI0.out HZ0.out HZ1.out HZ2.out rfl (by decide) _ _ _ rfl (own_blI (own_blI HO.out HBK0.out) (bw_new (Below.refl _ _) _)) ⟨wk.heap.size, 0, none⟩ 1 1 (cbL (za, zb)) rfl rfl (World.news_of_block (cs := (cbL (za, zb)).toArray) (t := 37) (fr := (0, 0)) (heap_alloc_new wk _)) (by simp [Value.oneCell']) (by decide) (by unfold maxLen; omega) (by omega) (by simp; have := HBK.out.size; omega) _ rfl ?_)
      intro g5 c5 w5 hown5 hgrow5 hor5 hlt5
      have HO5 := Lib.hid hown5
      have HB5 := Lib.hid ((bw_new HBK.out (.cells (cbL (za, zb)).toArray 37)).grown hgrow5 (bw_new HBK.out (.cells (cbL (za, zb)).toArray 37)).size (fun q hq => (HO.out.lt q hq).1))
      clear hown5 hgrow5 hor5 hlt5 y0 y1
      go_wp2_with fail
      go_roundw
      case rel => exact ⟨i + 1, some ⟨g5, 0, none⟩, no' + 1, c5, HI.out, by rw [HI2.out]; rfl, rfl, by rw [HS2.out, List.length_append, ← HNO.out]; rfl, by rw [HS2.out, List.flatMap_append]; exact HO5.out, HB5.out⟩
      case measure => have := HI.out; have := HI2.out; simp only [intOf]; omega
     --R23
  ·obtain rfl : i = m := by omega
   have hiz : ¬ (i : Int) < (i : Int) := by omega
   clear hi hlt
   have hes : essK P no i = E := by rw [HPE.out.2.2.1, HPE.out.2.1]; exact essK_full P no
   have hnk : no' = ke := by rw [HNO.out, hes, HPE.out.2.2.2.1]
   have hoq := own_cq HO.out HNO.out
   rw [hes] at hoq
   subst hnk
   have HS1' := Lib.hid (lsame_any A2 A4 c2 c4 i (zP P) wo (HC2.out.step HBO.out) (HC4.out.step HBO.out) (by rw [List.length_map]; exact HPE.out.2.1) (by omega))
   have HS2' := Lib.hid (fun X (h : Below wo.heap.size wo X) => lsame_any A3 A' c3 cp no' (zP E) X ((HC3.out.step HBO.out).step h) (hoq.step h) (by rw [List.length_map]; exact HPE.out.2.2.2.1) (by omega))
   clear hes hoq
   go_wp2_with fail
   refine HS1'.out.mono ?_
   rintro e W5 ⟨rfl, hb5⟩
   have HB5 := Lib.hid hb5
   clear hb5
   go_wp2_with fail
   refine (HS2'.out _ HB5.out).mono ?_
   rintro e W6 ⟨rfl, hb6⟩
   have HB6 := Lib.hid (HB5.out.trans (hb6.mono HB5.out.size))
   clear hb6
   go_wp2_with fail
   exact bodyPost_ret (v := .bool true) (by simp [results, Tryz.results7, go_sem]) rfl ⟨rfl, HB1.out.trans ((HM4.out.below.trans ((HBO.out.trans (HB6.out.mono HBO.out.size)).mono HM4.out.below.size)).mono HB1.out.size)⟩
   --R24
end Go.Proofs.YtaegjpancbmppaaGreatDoor
