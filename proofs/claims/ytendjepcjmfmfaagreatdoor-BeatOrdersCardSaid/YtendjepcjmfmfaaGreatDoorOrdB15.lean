/- Part 15 of 47 of the proof of the law: contracts of the functions that it reaches, and plain facts. Conditions: those that each contract names. -/
import Derived.Test.YtendjepcjmfmfaaGreatDoorOrdB14
import Derived.WalkSpells
import Derived.RegionTactic
import Derived.ChangeAlike
import Derived.Laws.CopyOwn
import Derived.Lib.TrimByte
namespace Go.Proofs.YtendjepcjmfmfaaGreatDoor
section
open Go.RowKit
set_option maxRecDepth 100000 in
set_option maxHeartbeats 2000000 in
theorem clone_any (L : List Nat) (b off c : Nat) (w : World) (h0 : 0 < L.length) (hl : L.length ≤ 1000000) (hb : b < w.heap.size) (hc : ∀ i (h : i < L.length), w.cell? ⟨b, off + i, none⟩ = some (u64v L[i])) :
  Calls Tryz.prog 183 #[.slice (some ⟨b, off, none⟩) L.length c] w fun e w' => ∃ A cap, e = .returned (.slice A L.length cap) ∧ Rd u64v w' w'.heap.size A L ∧ L.length ≤ cap ∧ Below w.heap.size w w' := by
 obtain ⟨i0, hi, hz0, hz1, hz2⟩ := info_parts Tryz.infoU64
 have HHI := Lib.hid hi
 have HZ0 := Lib.hid hz0
 have HZ1 := Lib.hid hz1
 have HZ2 := Lib.hid hz2
 have HC := Lib.hid hc
 have heq := fun (W : World) => Lib.run_eql_slice_nil (P := Tryz.prog) W 156 145 (some ⟨b, off, none⟩) L.length c 0 0 Tryz.underlying156
 clear hi hz0 hz1 hz2 hc
 go_enter Tryz.func183, Tryz.ntmps183
 go_wp2_with (at_builtin; refine wpList_append_own _ rfl _ _ 156 rfl w.heap.size 145 i0 (.int .u64 0) 1 8 Tryz.underlying156 HHI.out HZ0.out HZ1.out HZ2.out rfl (by decide) (.slice (some ⟨w.heap.size, 0, none⟩) 0 0) 0 [] rfl ?c1 ⟨b, off, none⟩ L.length c (L.map u64v) rfl ?c2 ?c3 ?c4 ?c5 ?c6 ?c7 ?_)
 case c1 => exact Blk.own (cs := []) (heap_alloc_new w _) (Nat.le_refl _) (Nat.le_refl _) (by simp)
 case c2 => simp
 case c3 =>
  intro j u hj
  rw [List.getElem?_map] at hj
  have hjl : j < L.length := by
   rcases Nat.lt_or_ge j L.length with h | h
   ·exact h
   ·rw [List.getElem?_eq_none h] at hj; cases hj
  rw [List.getElem?_eq_getElem hjl] at hj
  rw [← Option.some.inj hj]
  have ea : (⟨b, off, none⟩ : Addr).add j = ⟨b, off + j, none⟩ := by first | rfl | simp [Addr.add]
  rw [ea]
  exact ((bw_new (Below.refl _ w) (.cells #[] 145)).cell (p := ⟨b, off + j, none⟩) hb).trans (HC.out j hjl)
 case c4 => intro u hu; obtain ⟨x, _, rfl⟩ := List.mem_map.1 hu; rfl
 case c5 => unfold maxLen; omega
 case c6 => omega
 case c7 => simp
 intro v' w3 hown' hgrow _
 obtain ⟨g', cap', rfl, hcap⟩ := own_form hown' h0
 have hb3 : Below w.heap.size w w3 := (bw_new (Below.refl _ w) _).grown hgrow (by simp) (fun g hg => by simp [Value.ownBlock] at hg; omega)
 have hrd : Rd u64v w3 w3.heap.size (some ⟨g', 0, none⟩) L := Rd.of_own hown' rfl
 have HB3 := Lib.hid hb3
 have HRD := Lib.hid hrd
 clear hown' hgrow hb3 hrd
 go_wp2
 go_ret
 exact ⟨_, _, rfl, HRD.out, hcap, HB3.out⟩
end
section
open Go.RowKit
def RetBy (p r : Nat) (w : World) (e : Ending) (w' : World) : Prop :=
 ∃ A cap, e = .returned (.tuple #[.slice A (limbs p).length cap, .int .u64 (r : Int)]) ∧ Rd u64v w' w'.heap.size A (limbs p) ∧ (limbs p).length ≤ cap ∧ Below w.heap.size w w'
set_option maxRecDepth 100000 in
set_option maxHeartbeats 4000000 in
theorem mby_any (M : List Nat) (d : Nat) (A1 : Option Addr) (c1 : Nat) (w : World) (hr1 : Rd u64v w w.heap.size A1 M) (hM : Small M) (hm : M.length ≤ 1000000) (hd0 : 0 < d) (hd : d ≤ 1000000000) :
  Calls Tryz.prog 182 #[.slice A1 M.length c1, .int .u64 (d : Int)] w (RetBy (lv M / d) (lv M % d) w) := by
 obtain ⟨i0, hi, hz0, hz1, hz2⟩ := info_parts Tryz.infoU64
 have HHI := Lib.hid hi
 have HZ0 := Lib.hid hz0
 have HZ1 := Lib.hid hz1
 have HZ2 := Lib.hid hz2
 have HM := Lib.hid hM
 clear hi hz0 hz1 hz2 hM
 go_enter Tryz.func182, Tryz.ntmps182
 go_wp2_with (at_make; refine wpList_make_full _ rfl _ _ 156 rfl w.heap.size 145 i0 (.int .u64 0) 1 Tryz.underlying156 HHI.out HZ0.out HZ1.out .i64 .i64 _ _ M.length rfl rfl (by omega) (by omega) (by rw [HZ2.out]; omega) (by unfold maxLen; omega) (Nat.le_refl _) ?_)
 intro w1 hown hgrow
 have hblk : Blk w1 w.heap.size 145 ((List.replicate M.length 0).map u64v) := by
  have := Blk.of_own hown
  rw [toList_madeCells_one] at this
  simpa [u64v] using this
 have hb1 : Below w.heap.size w w1 := (Below.refl _ _).grown hgrow (Nat.le_refl _) (by simp)
 have HB1 := Lib.hid hblk
 have HL1 := Lib.hid hb1
 clear hown hgrow hblk hb1
 go_wp2
 go_loopw [7, 8] (fun rv iv wr => ∃ (j r : Nat) (O : List Nat), rv = .int .u64 (r : Int) ∧ iv = .int .i64 ((j : Int) - 1) ∧ j ≤ M.length ∧ r < d ∧ Lib.Kept (ByInv M O d j r) ∧ Blk wr w.heap.size 145 (O.map u64v) ∧ Below w.heap.size w wr)
  (fun _ iv _ => (intOf iv + 1).toNat)
 case atStart => exact ⟨M.length, 0, _, rfl, by first | rfl | (congr 1; omega), Nat.le_refl _, hd0, ByInv.start M d hd0, HB1.out, HL1.out⟩
 case round =>
  clear HB1 HL1
  obtain ⟨j, r, O, rfl, rfl, hj, hr, hinv, hblk, hb⟩ := hrel
  have HI := Lib.hid hinv
  have HB := Lib.hid hblk
  have HL := Lib.hid hb
  clear hinv hblk hb
  by_cases h0 : j = 0
  ·subst h0
   have hol := HI.out.1
   have hdone := HI.out.done
   have hsm := HI.out.2.1
   have hrd : Rd u64v wr wr.heap.size (some ⟨w.heap.size, 0, none⟩) O := HB.out.rd
   have htr := trim_len O M.length hol (some ⟨w.heap.size, 0, none⟩) M.length wr.heap.size wr hrd hsm (Nat.le_refl _) (by omega)
   rw [hdone.1] at htr
   have hle2 : (limbs (lv M / d)).length ≤ M.length := by rw [← hdone.1]; have := limbs_len_le_len _ hsm; omega
   have heq : limbs (lv M / d) = O.take (limbs (lv M / d)).length := by
    have h := limbs_eq_take _ hsm
    rw [hdone.1] at h
    exact h
   have hrd2 : Rd u64v wr wr.heap.size (some ⟨w.heap.size, 0, none⟩) (limbs (lv M / d)) := by rw [heq]; exact hrd.take _
   have HTR := Lib.hid htr
   have HRD := Lib.hid hrd2
   have HR := Lib.hid hdone.2
   clear htr hrd2 hrd heq hdone hsm hol
   go_wp2_with fail
   refine (HTR.out).mono ?_
   rintro e w4 ⟨rfl, rfl⟩
   go_wp2
   go_ret2
   exact ⟨_, _, by rw [← HR.out]; rfl, HRD.out, hle2, HL.out⟩
  ·obtain ⟨i, rfl⟩ : ∃ i, j = i + 1 := ⟨j - 1, by omega⟩
   have hii : ((i + 1 : Nat) : Int) - 1 = (i : Int) := by omega
   rw [hii]
   clear hii h0
   have hiM : i < M.length := by omega
   obtain ⟨b1, o1, rfl, _, q1⟩ := (hr1.below HL.out).at_ (by omega)
   obtain ⟨m, hm2⟩ : ∃ m, m = M[i] := ⟨_, rfl⟩
   have d1 : wr.cell? ⟨b1, o1 + i, none⟩ = some (.int .u64 (m : Int)) := by rw [q1 i hiM, hm2]
   have hm9 : m < 1000000000 := by rw [hm2]; exact HM.out.get i hiM
   have hst := HI.out.step (x := r * 1000000000 + m) HM.out hiM (by rw [hm2])
   have hxd : r * 1000000000 + m < 1000000000000000000 := by
    have : (r + 1) * 1000000000 ≤ 1000000000 * 1000000000 := Nat.mul_le_mul_right _ (by omega)
    omega
   have hrn : (r * 1000000000 + m) % d < d := Nat.mod_lt _ hd0
   obtain ⟨x, hx⟩ : ∃ x, x = r * 1000000000 + m := ⟨_, rfl⟩
   rw [← hx] at hst hxd hrn
   have hxi : (r : Int) * 1000000000 + (m : Int) = (x : Int) := by omega
   have hiO : i < O.length := by rw [HI.out.1]; exact hiM
   have hco : wr.frozen? ⟨w.heap.size, i, none⟩ = false := HB.out.frozen _
   obtain ⟨o, ho⟩ : ∃ o, o = O[i] := ⟨_, rfl⟩
   have hcc : wr.cell? ⟨w.heap.size, i, none⟩ = some (.int .u64 (o : Int)) := by rw [HB.out.cell]; simp [ho, hiO]
   have HST := Lib.hid hst
   have HX := Lib.hid hxi
   have HRN := Lib.hid hrn
   clear hm2 q1 hst hx hxi ho hiO hrn
   go_wp2
   rw [HX.out]
   have hqi : (x : Int).tdiv (d : Int) = ((x / d : Nat) : Int) := by rw [Int.tdiv_eq_ediv_of_nonneg (by omega)]; simp
   have hri : (x : Int).tmod (d : Int) = ((x % d : Nat) : Int) := by rw [Int.tmod_eq_emod_of_nonneg (by omega)]; simp
   obtain ⟨q, hq⟩ : ∃ q, q = x / d := ⟨_, rfl⟩
   obtain ⟨s, hs⟩ : ∃ s, s = x % d := ⟨_, rfl⟩
   have hq9 : q ≤ x := by rw [hq]; exact Nat.div_le_self _ _
   have hsd : s < d := by rw [hs]; exact HRN.out
   have hdz : ((d : Int) == 0) = false := by rw [beq_eq_false_iff_ne]; omega
   have hwq : IntKind.u64.wrap (q : Int) = (q : Int) := by rw [IntKind.wrap_u64]; omega
   have hws : IntKind.u64.wrap (s : Int) = (s : Int) := by rw [IntKind.wrap_u64]; omega
   have hii2 : (i : Int) < (M.length : Int) := by omega
   rw [← hq] at hqi
   rw [← hs] at hri
   have HQS := Lib.hid (And.intro hq hs)
   clear hq hs
   go_region
   clear hqi hri hwq hws hdz
   go_wp2
   go_roundw
   case rel =>
    refine ⟨i, s, O.set i q, rfl, rfl, by omega, hsd, ?_, ?_, ?_⟩
    ·rw [HQS.out.1, HQS.out.2]; exact HST.out
    ·rw [List.map_set]; exact (HB.out.put i _).drew
    ·exact (HL.out.setCell (Nat.le_refl _) _).drew
   case measure => simp [intOf]
end
section
open Go.RowKit
def RetTwo (p r : Nat) (w : World) (e : Ending) (w' : World) : Prop :=
 ∃ A c B k, e = .returned (.tuple #[.slice A (limbs p).length c, .slice B (limbs r).length k]) ∧ Rd u64v w' w'.heap.size A (limbs p) ∧ (limbs p).length ≤ c ∧ Rd u64v w' w'.heap.size B (limbs r) ∧ (limbs r).length ≤ k ∧ Below w.heap.size w w'
set_option maxRecDepth 100000 in
theorem divide_less (p q : Nat) (A1 A2 : Option Addr) (c1 c2 : Nat) (w : World) (hr1 : Rd u64v w w.heap.size A1 (limbs p)) (hr2 : Rd u64v w w.heap.size A2 (limbs q)) (hc1 : (limbs p).length ≤ c1)
  (hp : (limbs p).length ≤ 100000) (hq : (limbs q).length ≤ 100000) (hlt : p < q) :
  Calls Tryz.prog 179 #[.slice A1 (limbs p).length c1, .slice A2 (limbs q).length c2] w (RetTwo (p / q) (p % q) w) := by
 have hcm := mcmp_any p q A1 A2 c1 c2 w hr1 hr2 (by omega) (by omega)
 rw [sgnI_neg (show (p : Int) - q < 0 by omega)] at hcm
 have HCM := Lib.hid hcm
 have HR := Lib.hid hr1
 have HC := Lib.hid hc1
 have HL := Lib.hid hlt
 clear hcm hr1 hr2 hc1 hlt
 go_enter Tryz.func179, Tryz.ntmps179
 go_wp2_with fail
 refine (HCM.out).mono ?_
 rintro e w1 ⟨rfl, hb⟩
 have HB := Lib.hid hb
 clear hb
 go_wp2
 go_ret2
 refine ⟨none, 0, A1, c1, ?_, ?_, ?_, ?_, ?_, HB.out⟩
 ·rw [Nat.div_eq_of_lt HL.out, Nat.mod_eq_of_lt HL.out, limbs_zero]; rfl
 ·rw [Nat.div_eq_of_lt HL.out, limbs_zero]; exact Rd.nil
 ·rw [Nat.div_eq_of_lt HL.out, limbs_zero]; exact Nat.le_refl _
 ·rw [Nat.mod_eq_of_lt HL.out]; exact (HR.out.below HB.out).more HB.out.size
 ·rw [Nat.mod_eq_of_lt HL.out]; exact HC.out
set_option maxRecDepth 100000 in
set_option maxHeartbeats 1000000 in
theorem divide_one (p q : Nat) (A1 A2 : Option Addr) (c1 c2 : Nat) (w : World) (hr1 : Rd u64v w w.heap.size A1 (limbs p)) (hr2 : Rd u64v w w.heap.size A2 (limbs q))
  (hp : (limbs p).length ≤ 100000) (hq : (limbs q).length = 1) (hle : q ≤ p) :
  Calls Tryz.prog 179 #[.slice A1 (limbs p).length c1, .slice A2 (limbs q).length c2] w (RetTwo (p / q) (p % q) w) := by
 have hq0 : q ≠ 0 := by rintro rfl; rw [limbs_zero] at hq; simp at hq
 have hq1 : q < 1000000000 := by have := limbs_len_lt q; rw [hq] at this; omega
 have hql : limbs q = [q] := by
  rw [limbs_pos hq0, Nat.div_eq_of_lt hq1, limbs_zero, Nat.mod_eq_of_lt hq1]
 have hcm := mcmp_any p q A1 A2 c1 c2 w hr1 hr2 (by omega) (by omega)
 obtain ⟨o, ho⟩ : ∃ o, o = sgnI ((p : Int) - q) := ⟨_, rfl⟩
 have ho0 : 0 ≤ o := by rw [ho]; unfold sgnI; split <;> (try split) <;> omega
 have hby := fun W hr => mby_any (limbs p) q A1 c1 W hr (limbs_small p) (by omega) (by omega) (by omega)
 rw [lv_limbs] at hby
 rw [← ho] at hcm
 obtain ⟨b2, o2, hA2, hb2, q2⟩ := hr2.at_ (by omega)
 subst hA2
 have d2 : w.cell? ⟨b2, o2, none⟩ = some (.int .u64 (q : Int)) := by
  have := q2 0 (by omega)
  rw [Nat.add_zero] at this
  rw [this]
  simp [hql]
 have hrq : p % q < q := Nat.mod_lt _ (by omega)
 obtain ⟨r, hr⟩ : ∃ r, r = p % q := ⟨_, rfl⟩
 rw [← hr] at hby hrq
 rw [hq] at hcm ⊢
 have HCM := Lib.hid hcm
 have HBY := Lib.hid hby
 have HR1 := Lib.hid hr1
 have HR := Lib.hid hr
 have htr := fun W A hrd => trim_len [r] 1 rfl A 1 W.heap.size W hrd (Small.one (by omega)) (Nat.le_refl _) (by omega)
 rw [lv_one] at htr
 have HTR := Lib.hid htr
 have HRS := Lib.hid (show Small [r] from Small.one (by omega))
 clear hcm hby hr1 hr2 hr ho hql q2 hq htr
 go_enter Tryz.func179, Tryz.ntmps179
 go_wp2_with fail
 refine (HCM.out).mono ?_
 rintro e w1 ⟨rfl, hb⟩
 have HB := Lib.hid hb
 have d3 : w1.cell? ⟨b2, o2, none⟩ = some (.int .u64 (q : Int)) := (hb.cell (p := ⟨b2, o2, none⟩) hb2).trans d2
 clear hb d2
 go_wp2_with fail
 refine (HBY.out _ ((HR1.out.below HB.out).more HB.out.size)).mono ?_
 rintro e w2 ⟨A, cap, rfl, hrd, hcp, hb⟩
 have HB2 := Lib.hid (HB.out.trans (hb.mono HB.out.size))
 have HRD := Lib.hid hrd
 have HCP := Lib.hid hcp
 clear hb hrd hcp d3
 go_wp2_with fail
 have hrd1 : Rd u64v (w2.alloc (.cells #[.int .u64 (r : Int)] 145)) (w2.alloc (.cells #[.int .u64 (r : Int)] 145)).heap.size (some ⟨w2.heap.size, 0, none⟩) [r] := Blk.rd (t := 145) (heap_alloc_new w2 _)
 refine (HTR.out _ _ hrd1).mono ?_
 rintro e w3 ⟨rfl, rfl⟩
 have hle2 := limbs_len_le_len [r] HRS.out
 have heq := limbs_eq_take [r] HRS.out
 rw [lv_one] at hle2 heq
 have hrd3 : Rd u64v (w2.alloc (.cells #[.int .u64 (r : Int)] 145)) (w2.alloc (.cells #[.int .u64 (r : Int)] 145)).heap.size (some ⟨w2.heap.size, 0, none⟩) (limbs r) := by rw [heq]; exact hrd1.take _
 have HRD3 := Lib.hid hrd3
 have HLE := Lib.hid hle2
 have HRDA := Lib.hid ((HRD.out.below (bw_new (Below.refl _ w2) (.cells #[.int .u64 (r : Int)] 145))).more (bw_new (Below.refl _ w2) (.cells #[.int .u64 (r : Int)] 145)).size)
 clear hrd1 hrd3 hle2 heq
 go_wp2
 go_ret2
 exact ⟨A, cap, _, _, by rw [← HR.out]; rfl, HRDA.out, HCP.out, by rw [← HR.out]; exact HRD3.out, by rw [← HR.out]; exact HLE.out, bw_new HB2.out _⟩
end
end Go.Proofs.YtendjepcjmfmfaaGreatDoor
