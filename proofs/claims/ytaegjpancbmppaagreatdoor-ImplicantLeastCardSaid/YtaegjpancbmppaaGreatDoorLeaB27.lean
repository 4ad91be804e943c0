/- Part 27 of 29 of the proof of the law: contracts of the functions that it reaches, and plain facts. Conditions: those that each contract names. -/
import Derived.Test.YtaegjpancbmppaaGreatDoorLeaB26
import Derived.Test.YtaegjpancbmppaaGreatDoorLeaB16
import Derived.Test.YtaegjpancbmppaaGreatDoorLeaB14
set_option linter.unusedVariables false
set_option linter.unusedSimpArgs false
namespace Go.Proofs.YtaegjpancbmppaaGreatDoor
open Go.RowKit
structure CoAt (W : World) (b q : Nat) (A Ap : Option Addr) (no : List Nat) (P : List (Nat × Nat)) : Prop where
 on : Rd iz W W.heap.size A (zR no)
 onb : 0 < no.length → ∀ p, A = some p → p.block < b
 pr : CqRd W W.heap.size Ap (zP P)
 prb : 0 < P.length → ∀ p, Ap = some p → p.block < b
 mp : ∃ mm, MapQ W b mm ∧ ∀ i r, mget mm (i, r) = none ∨ mget mm (i, r) = some (.int .i64 (csT q P no i r : Int))
theorem CoAt.chs {W W' : World} {b q : Nat} {A Ap : Option Addr} {no : List Nat} {P : List (Nat × Nat)} (h : CoAt W b q A Ap no P) (hc : Chs b W W') (hm : ∃ mm, MapQ W' b mm ∧ ∀ i r, mget mm (i, r) = none ∨ mget mm (i, r) = some (.int .i64 (csT q P no i r : Int))) : CoAt W' b q A Ap no P where
 on := fun hl => by
  obtain ⟨g, o, e, hg, hcell⟩ := h.on hl
  have hne : g ≠ b := Nat.ne_of_lt (h.onb (by rwa [List.length_map] at hl) _ e)
  exact ⟨g, o, e, Nat.lt_of_lt_of_le hg hc.size, fun i hi => (cell_chs hc hg hne).trans (hcell i hi)⟩
 onb := h.onb
 pr := fun hl => by
  obtain ⟨g, o, e, hg, hcell⟩ := h.pr hl
  have hne : g ≠ b := Nat.ne_of_lt (h.prb (by rwa [List.length_map] at hl) _ e)
  exact ⟨g, o, e, Nat.lt_of_lt_of_le hg hc.size, fun i hi => ⟨(cell_chs hc hg hne).trans (hcell i hi).1, (cell_chs hc hg hne).trans (hcell i hi).2⟩⟩
 prb := h.prb
 mp := hm
theorem CoAt.below {W W' : World} {b q : Nat} {A Ap : Option Addr} {no : List Nat} {P : List (Nat × Nat)} (h : CoAt W b q A Ap no P) (hb : Below W.heap.size W W') : CoAt W' b q A Ap no P :=
 h.chs (.of_below hb) (by
  obtain ⟨mm, h1, h2⟩ := h.mp
  exact ⟨mm, h1.keep (hb.block b h1.lt), h2⟩)
theorem CoAt.grow {W Wb w5 : World} {b q : Nat} {A Ap : Option Addr} {no : List Nat} {P : List (Nat × Nat)} {e : TypeId} {size n : Nat} {v : Value} {xs : List Value} (h : CoAt W b q A Ap no P) (ho : W.ownsRow (b + 1) e size v n xs) (hb : Below W.heap.size W Wb) (hg : Wb.grownBy w5 v.ownBlock) :
  CoAt w5 b q A Ap no P ∧ Below (b + 1) W w5 := by
 obtain ⟨mm, h1, h2⟩ := h.mp
 have hB : Below (b + 1) W w5 := (hb.mono h1.lt).grown hg (Nat.le_trans h1.lt hb.size) (fun q hq => (ho.lt q hq).1)
 refine ⟨⟨fun hl => ?_, h.onb, fun hl => ?_, h.prb, mm, h1.keep (hB.block b (Nat.lt_succ_self b)), h2⟩, hB⟩
 ·obtain ⟨g, o, e', hl', hcell⟩ := h.on hl
  have hgb : g < b + 1 := Nat.lt_succ_of_lt (h.onb (by rwa [List.length_map] at hl) _ e')
  exact ⟨g, o, e', Nat.lt_of_lt_of_le hl' hB.size, fun i hi => (hB.cell (p := ⟨g, o + i, none⟩) hgb).trans (hcell i hi)⟩
 ·obtain ⟨g, o, e', hl', hcell⟩ := h.pr hl
  have hgb : g < b + 1 := Nat.lt_succ_of_lt (h.prb (by rwa [List.length_map] at hl) _ e')
  exact ⟨g, o, e', Nat.lt_of_lt_of_le hl' hB.size, fun i hi => ⟨(hB.cell (p := ⟨g, o + i * 2, none⟩) hgb).trans (hcell i hi).1, (hB.cell (p := ⟨g, o + i * 2 + 1, none⟩) hgb).trans (hcell i hi).2⟩⟩
theorem CoAt.look {W : World} {b q : Nat} {A Ap : Option Addr} {no : List Nat} {P : List (Nat × Nat)} (h : CoAt W b q A Ap no P) (i r : Nat) :
  ∃ f : Bool, ∃ v : Int, (Instr.lookup 33 (.map (some b)) (.agg #[.int .i64 (i : Int), .int .i64 (r : Int)]) true).run Tryz.prog W = .ok (.tuple #[.int .i64 v, .bool f]) W ∧ (f = true → v = (csT q P no i r : Int)) := by
 obtain ⟨mm, h1, h2⟩ := h.mp
 have hl := look_q h1 (i, r)
 rcases h2 i r with e | e
 ·rw [e] at hl
  exact ⟨false, 0, hl, fun h => by cases h⟩
 ·rw [e] at hl
  exact ⟨true, _, hl, fun _ => rfl⟩
theorem CoAt.put {W : World} {b q : Nat} {A Ap : Option Addr} {no : List Nat} {P : List (Nat × Nat)} (h : CoAt W b q A Ap no P) (i r : Nat) :
  ∃ W', (Instr.mapUpdate 33 (.map (some b)) (.agg #[.int .i64 (i : Int), .int .i64 (r : Int)]) (.int .i64 (csT q P no i r : Int))).run Tryz.prog W = .ok () W' ∧ CoAt W' b q A Ap no P ∧ Chs b W W' := by
 obtain ⟨mm, h1, h2⟩ := h.mp
 obtain ⟨W', hr, hm, hg⟩ := store_q h1 (i, r) (.int .i64 (csT q P no i r : Int))
 have hc : Chs b W W' := ⟨hg.os, hg.tape, hg.output, hg.size, fun k hk hkb => hg.block k hk (fun e => hkb (by injection e))⟩
 refine ⟨W', hr, h.chs hc ⟨_, hm, fun i' r' => ?_⟩, hc⟩
 rw [mget_mput]
 by_cases e : (i', r') = (i, r)
 ·rw [if_pos e]
  cases e
  exact .inr rfl
 ·rw [if_neg e]
  exact h2 i' r'
def CoPost (b q : Nat) (A Ap : Option Addr) (no : List Nat) (P : List (Nat × Nat)) (i r : Nat) (W : World) (e : Ending) (W' : World) : Prop :=
 e = .returned (.int .i64 (csT q P no i r : Int)) ∧ CoAt W' b q A Ap no P ∧ Chs b W W'
set_option maxRecDepth 1000000 in
set_option maxHeartbeats 8000000 in
theorem lcost_any (b q n m c d nf cp : Nat) (A B Ap : Option Addr) (no : List Nat) (P : List (Nat × Nat)) (hn : n = no.length) (hn10 : n ≤ 10) (hm : m = P.length) (hm1 : m ≤ 65536) (hno : ∀ r ∈ no, r < 2 ^ q) (hno8 : ∀ r ∈ no, r < 256) (hP : ∀ x ∈ P, x.1 < 256 ∧ x.2 < 256) :
  ∀ f (i rest : Nat), f = m - i → i ≤ m → rest < 65536 → ∀ V, CoAt V b q A Ap no P → Calls Tryz.prog 18 #[.agg #[.int .i64 (q : Int), .slice A n c, .slice B nf d], .slice Ap m cp, .int .i64 (i : Int), .int .i64 (rest : Int), .map (some b)] V (CoPost b q A Ap no P i rest V) := by
 have HN := Lib.hid (And.intro hn (And.intro hm (And.intro hno (And.intro hno8 hP))))
 clear hn hm hno hno8 hP
 intro f
 induction f with
 | zero =>
  intro i rest hf hi hr V hco
  obtain rfl : i = m := by omega
  have HCO := Lib.hid (hco.below (bw_new (Below.refl _ _) (.cells #[.int .i64 (q : Int), .slice A n c, .slice B nf d] 26)))
  have HB := Lib.hid (Chs.of_below (g := b) (bw_new (Below.refl V.heap.size V) (.cells #[.int .i64 (q : Int), .slice A n c, .slice B nf d] 26)))
  clear hco hf hi
  by_cases h0 : rest = 0
  ·subst h0
   go_enter Tryz.func18, Tryz.ntmps18
   go_wp2_with fail
   exact bodyPost_ret (v := .int .i64 0) (by simp [results, Tryz.results18, go_sem]) rfl ⟨by rw [csT_zero]; rfl, HCO.out, HB.out⟩
  ·have hrz : ((rest : Int) == 0) = false := by rw [beq_eq_false_iff_ne]; omega
   have HCE := Lib.hid (show csT q P no i rest = 1000000 by rw [HN.out.2.1]; exact csT_end h0)
   clear h0
   go_enter Tryz.func18, Tryz.ntmps18
   go_wp2_with fail
   exact bodyPost_ret (v := .int .i64 1000000) (by simp [results, Tryz.results18, go_sem]) rfl ⟨by rw [HCE.out]; rfl, HCO.out, HB.out⟩
 | succ f ih =>
  intro i rest hf hi hr V hco
  have HCO := Lib.hid (hco.below (bw_new (Below.refl _ _) (.cells #[.int .i64 (q : Int), .slice A n c, .slice B nf d] 26)))
  have HB := Lib.hid (Chs.of_below (g := b) (bw_new (Below.refl V.heap.size V) (.cells #[.int .i64 (q : Int), .slice A n c, .slice B nf d] 26)))
  have hm0 := (Hp.start V).new 26 [.int .i64 (q : Int), .slice A n c, .slice B nf d]
  simp only [List.nil_append] at hm0
  have HBK := Lib.hid (hm0.at_ 0 rfl)
  have HLW := Lib.hid (show b < V.heap.size by
   obtain ⟨mm, h1, _⟩ := hco.mp
   exact h1.lt)
  clear hco hm0
  by_cases h0 : rest = 0
  ·subst h0
   go_enter Tryz.func18, Tryz.ntmps18
   go_wp2_with fail
   exact bodyPost_ret (v := .int .i64 0) (by simp [results, Tryz.results18, go_sem]) rfl ⟨by rw [csT_zero]; rfl, HCO.out, HB.out⟩
  have hrz : ((rest : Int) == 0) = false := by rw [beq_eq_false_iff_ne]; omega
  have hltm : i < m := by omega
  have hiP : i < P.length := by rw [← HN.out.2.1]; exact hltm
  have hst := csT_step (n := q) (on := no) HN.out.2.2.1 hiP h0
  have hbd := csT_bd q P no (i + 1) rest
  have him : ((i : Int) == (m : Int)) = false := by rw [beq_eq_false_iff_ne]; omega
  obtain ⟨fd, v, hlk, hfd⟩ := HCO.out.look i rest
  have HFD := Lib.hid hfd
  have HST := Lib.hid hst
  have HIH := Lib.hid (fun rest' (h : rest' < 65536) => ih (i + 1) rest' (by omega) (by omega) h)
  have HIP := Lib.hid hiP
  clear ih hf hfd hst h0
  cases fd with
  | true =>
   go_enter Tryz.func18, Tryz.ntmps18
   go_wp2_with fail
   exact bodyPost_ret (v := .int .i64 v) (by simp [results, Tryz.results18, go_sem]) rfl ⟨by rw [HFD.out (by trivial)], HCO.out, HB.out⟩
  | false =>
   have hi1 : IntKind.i64.wrap ((i : Int) + 1) = ((i + 1 : Nat) : Int) := by rw [IntWalk.i64_in _ (by omega)]; rfl
   go_enter Tryz.func18, Tryz.ntmps18
   go_wp2_with fail
   have hih := HIH.out rest hr _ HCO.out
   obtain ⟨n1, hn1⟩ : ∃ x, x = csT q P no (i + 1) rest := ⟨_, rfl⟩
   unfold CoPost at hih
   rw [← hn1] at hih hbd
   have HN1 := Lib.hid hn1
   clear hn1
   refine hih.mono ?_
   clear hih
   rintro e W1 ⟨rfl, hco1, hch1⟩
   have HC1 := Lib.hid hco1
   have HK1 := Lib.hid (HB.out.trans hch1)
   have hbk : Blk W1 V.heap.size 26 [.int .i64 (q : Int), .slice A n c, .slice B nf d] := (hch1.block _ (by simp) (by have := HLW.out; omega)).trans HBK.out
   have HBK1 := Lib.hid hbk
   have t0 : W1.cell? ⟨V.heap.size, 0, none⟩ = some (.int .i64 (q : Int)) := hbk.cell 0
   have t1 : W1.cell? ⟨V.heap.size, 1, none⟩ = some (.slice A n c) := hbk.cell 1
   have t2 : W1.cell? ⟨V.heap.size, 2, none⟩ = some (.slice B nf d) := hbk.cell 2
   obtain ⟨g4, o4, hA4, hg4, hq4⟩ := hco1.pr (by rw [List.length_map]; exact Nat.lt_of_le_of_lt (Nat.zero_le _) HIP.out)
   obtain ⟨p0, p1⟩ := hq4 i (by rw [List.length_map]; exact HIP.out)
   rw [zP_get HIP.out] at p0 p1
   have hgb : g4 ≠ b := Nat.ne_of_lt (hco1.prb (Nat.lt_of_le_of_lt (Nat.zero_le _) HIP.out) _ hA4)
   obtain ⟨z, hz⟩ : ∃ z, z = P.getD i (0, 0) := ⟨_, rfl⟩
   rw [← hz] at p0 p1
   have hmi : z ∈ P := by rw [hz, List.getD_eq_getElem?_getD, List.getElem?_eq_getElem HIP.out]; exact List.getElem_mem _
   have hst := HST.out
   rw [← hz, ← HN1.out] at hst
   obtain ⟨za, zb⟩ := z
   have hza := (HN.out.2.2.2.2 _ hmi).1
   have HZA := Lib.hid hza
   have HXI := Lib.hid (show ∀ X, Chs b W1 X → X.cell? ⟨g4, o4 + i * 2, none⟩ = some (.int .i64 (za : Int)) ∧ X.cell? ⟨g4, o4 + i * 2 + 1, none⟩ = some (.int .i64 (zb : Int)) from fun X h => ⟨(cell_chs h hg4 hgb).trans p0, (cell_chs h hg4 hgb).trans p1⟩)
   subst hA4
   have HRM := Lib.hid (fun X (h : CoAt X b q A (some ⟨g4, o4, none⟩) no P) => lrem_any A B c d n nf q no za zb rest X h.on HN.out.1 hn10 HN.out.2.2.2.1 hza hr)
   have hrl := remK_le (za, zb) no rest no.length
   obtain ⟨lf, hlf⟩ : ∃ x, x = remK (za, zb) no rest no.length := ⟨_, rfl⟩
   rw [← hlf] at HRM hst hrl
   have HS2 := Lib.hid hst
   clear hco1 hch1 hbk hg4 hq4 hgb hz hmi hza hlf HST
   dsimp only at p0 p1
   have HBL := Lib.hid (show V.heap.size < W1.heap.size from HBK1.out.lt)
   have HTB := Lib.hid (show ∀ X, Chs b W1 X → Blk X V.heap.size 26 [.int .i64 (q : Int), .slice A n c, .slice B nf d] from fun X h => (h.block _ HBL.out (by have := HLW.out; omega)).trans HBK1.out)
   have HPO := Lib.hid (fun X => lones_any za X HZA.out)
   have hpz := popc_le 8 za HZA.out (Nat.le_refl _)
   obtain ⟨pz, hpz2⟩ : ∃ x, x = popc za := ⟨_, rfl⟩
   rw [← hpz2] at hpz HPO hst
   have HPZ := Lib.hid hpz2
   have HS3 := Lib.hid hst
   have HI2 := Lib.hid (HIH.out lf (by omega))
   have hb2 := csT_bd q P no (i + 1) lf
   obtain ⟨c2, hc2⟩ : ∃ x, x = csT q P no (i + 1) lf := ⟨_, rfl⟩
   unfold CoPost at HI2
   rw [← hc2] at HI2 hb2 hst
   have HS4 := Lib.hid hst
   clear hpz2 hc2 hst HS2 HS3
   go_wp2_with fail
   --R1
   refine wp_regionJ 8 #[false, false, false, false, false, false, false, false] (fun ll aa W => ∃ (m0 m1 m2 m3 m4 m5 m6 m7 : Bool), ll = #[m0, m1, m2, m3, m4, m5, m6, m7] ∧ aa = ({ tmps := #[Value.agg #[Value.int IntKind.i64 (q : Int), Value.slice A n c, Value.slice B nf d], Value.slice (some { block := g4, off := o4 }) m cp, Value.int IntKind.i64 (i : Int), Value.int IntKind.i64 (rest : Int), Value.map (some b), Value.pointer (some { block := V.heap.size, off := 0 }), undef, undef, undef, undef, Value.int IntKind.i64 0, Value.int IntKind.i64 v, Value.bool false, Value.int IntKind.i64 (n1 : Int), cwX m7 (Value.int .i64 (lf : Int)) (undef), Value.int IntKind.i64 (rest : Int), Value.bool false, Value.int IntKind.i64 (i : Int), Value.slice (some { block := g4, off := o4 }) m cp, Value.int IntKind.i64 (m : Int), Value.bool false, Value.tuple #[Value.int IntKind.i64 v, Value.bool false], Value.map (some b), Value.int IntKind.i64 (i : Int), Value.int IntKind.i64 (rest : Int), Value.agg #[Value.int IntKind.i64 (i : Int), Value.int IntKind.i64 (rest : Int)], Value.tuple #[Value.int IntKind.i64 v, Value.bool false], Value.int IntKind.i64 v, Value.bool false, Value.bool false, undef, Value.agg #[Value.int IntKind.i64 (q : Int), Value.slice A n c, Value.slice B nf d], Value.slice (some { block := g4, off := o4 }) m cp, Value.int IntKind.i64 (i : Int), Value.int IntKind.i64 ((i : Int) + 1), Value.int IntKind.i64 (rest : Int), Value.map (some b), Value.int IntKind.i64 (n1 : Int), cwX m0 (Value.agg #[Value.int IntKind.i64 (q : Int), Value.slice A n c, Value.slice B nf d]) (undef), cwX m1 (Value.slice (some { block := g4, off := o4 }) m cp) (undef), cwX m2 (Value.int IntKind.i64 (i : Int)) (undef), cwX m3 (Value.pointer (some ⟨g4, o4 + i * 2, none⟩)) (undef), cwX m4 (Value.agg #[.int .i64 (za : Int), .int .i64 (zb : Int)]) (undef), cwX m5 (Value.int IntKind.i64 (rest : Int)) (undef), cwX m6 (Value.int .i64 (lf : Int)) (undef), undef, undef, undef, undef, undef, undef, undef, undef, undef, undef, undef, undef, undef, undef, undef, undef, undef, undef, undef, undef, undef, undef, undef, undef, undef, undef], defers := [] } : Act) ∧ (True) ∧ (fun X => CoAt X b q A (some ⟨g4, o4, none⟩) no P ∧ Chs b W1 X) W) (by kernel_rfl) (by kernel_rfl) (by kernel_rfl) (by kernel_rfl) ?_ ?_ ?_ ?_
   ·rintro ll aa W ⟨m0, m1, m2, m3, m4, m5, m6, m7, rfl, _⟩
    rfl
   ·exact ⟨false, false, false, false, false, false, false, false, rfl, rfl, trivial, ⟨HC1.out.below (bw_drew (Below.refl _ _)), Chs.of_below (bw_drew (Below.refl _ _))⟩⟩
   ·rintro ll aa W i o ⟨m0, m1, m2, m3, m4, m5, m6, m7, rfl, rfl, hi0, hm⟩ ho hun hall K hK
    have hi : i < 8 := (Array.getElem?_eq_some_iff.1 ho).1
    have HM := Lib.hid hm
    have HI := Lib.hid hi0
    clear hm hi0
    rcases (show i = 0 ∨ i = 1 ∨ i = 2 ∨ i = 3 ∨ i = 4 ∨ i = 5 ∨ i = 6 ∨ i = 7 by omega) with rfl | rfl | rfl | rfl | rfl | rfl | rfl | rfl
    ·cases ho
     simp at hun; subst hun
     clear hall hi
     have hbk := HTB.out W (HM.out.2)
     have t0 : W.cell? ⟨V.heap.size, 0, none⟩ = some (.int .i64 (q : Int)) := hbk.cell 0
     have t1 : W.cell? ⟨V.heap.size, 1, none⟩ = some (.slice A n c) := hbk.cell 1
     have t2 : W.cell? ⟨V.heap.size, 2, none⟩ = some (.slice B nf d) := hbk.cell 2
     clear hbk
     go_simp
     exact hK.out _ _ ⟨true, m1, m2, m3, m4, m5, m6, m7, rfl, rfl, trivial, HM.out⟩
    ·cases ho
     simp at hun; subst hun
     clear hall hi
     go_simp
     exact hK.out _ _ ⟨m0, true, m2, m3, m4, m5, m6, m7, rfl, rfl, trivial, HM.out⟩
    ·cases ho
     simp at hun; subst hun
     clear hall hi
     go_simp
     exact hK.out _ _ ⟨m0, m1, true, m3, m4, m5, m6, m7, rfl, rfl, trivial, HM.out⟩
    ·cases ho
     cases (getBX hall 1 rfl : m1 = true)
     cases (getBX hall 2 rfl : m2 = true)
     simp at hun; subst hun
     clear hall hi
     go_simp
     exact hK.out _ _ ⟨m0, true, true, true, m4, m5, m6, m7, rfl, rfl, trivial, HM.out⟩
    ·cases ho
     cases (getBX hall 3 rfl : m3 = true)
     simp at hun; subst hun
     clear hall hi
     obtain ⟨y0, y1⟩ := HXI.out W (HM.out.2)
     go_simp
     exact hK.out _ _ ⟨m0, m1, m2, true, true, m5, m6, m7, rfl, rfl, trivial, HM.out⟩
    ·cases ho
     simp at hun; subst hun
     clear hall hi
     go_simp
     exact hK.out _ _ ⟨m0, m1, m2, m3, m4, true, m6, m7, rfl, rfl, trivial, HM.out⟩
    ·cases ho
     cases (getBX hall 0 rfl : m0 = true)
     cases (getBX hall 4 rfl : m4 = true)
     cases (getBX hall 5 rfl : m5 = true)
     simp at hun; subst hun
     clear hall hi
     go_simp
     refine (HRM.out W HM.out.1).mono ?_
     rintro e W' ⟨rfl, hb⟩
     have HN' := Lib.hid (And.intro (HM.out.1.below hb) (HM.out.2.step hb))
     exact hK.out _ _ ⟨true, m1, m2, m3, true, true, true, m7, rfl, rfl, trivial, HN'.out⟩
    ·cases ho
     cases (getBX hall 0 rfl : m0 = true)
     cases (getBX hall 1 rfl : m1 = true)
     cases (getBX hall 2 rfl : m2 = true)
     cases (getBX hall 3 rfl : m3 = true)
     cases (getBX hall 4 rfl : m4 = true)
     cases (getBX hall 5 rfl : m5 = true)
     cases (getBX hall 6 rfl : m6 = true)
     simp at hun; subst hun
     clear hall hi
     go_simp
     exact hK.out _ _ ⟨true, true, true, true, true, true, true, true, rfl, rfl, trivial, HM.out⟩
   ·rintro ll aa WR ⟨m0, m1, m2, m3, m4, m5, m6, m7, rfl, rfl, _, hm⟩ hall
    cases (hall 0 (by decide) : m0 = true)
    cases (hall 1 (by decide) : m1 = true)
    cases (hall 2 (by decide) : m2 = true)
    cases (hall 3 (by decide) : m3 = true)
    cases (hall 4 (by decide) : m4 = true)
    cases (hall 5 (by decide) : m5 = true)
    cases (hall 6 (by decide) : m6 = true)
    cases (hall 7 (by decide) : m7 = true)
    clear hall
    have HC2 := Lib.hid hm.1
    have HK2 := Lib.hid hm.2
    clear hm
    dsimp only [cwX, cond_true]
    by_cases hlr : lf = rest
    ·have hlz : ((lf : Int) != (rest : Int)) = false := by rw [bne_eq_false_iff_eq]; omega
     have HCT := Lib.hid (show csT q P no i rest = n1 by rw [HS4.out, if_pos hlr])
     obtain ⟨W', hput, hcp, hkp⟩ := HC2.out.put i rest
     rw [HCT.out] at hput
     have HC3 := Lib.hid hcp
     have HK3 := Lib.hid (HK1.out.trans (HK2.out.trans hkp))
     clear hcp hkp hlr
     go_wp2_with fail
     exact bodyPost_ret (v := .int .i64 (n1 : Int)) (by simp [results, Tryz.results18, go_sem]) rfl ⟨by rw [HCT.out], HC3.out, HK3.out⟩
    ·have hlz : ((lf : Int) != (rest : Int)) = true := by rw [bne_iff_ne]; omega
     obtain ⟨s1, hs1⟩ : ∃ x : Nat, x = 100 + pz := ⟨_, rfl⟩
     obtain ⟨s2, hs2⟩ : ∃ x : Nat, x = s1 + c2 := ⟨_, rfl⟩
     obtain ⟨nn, hnn⟩ : ∃ x : Nat, x = min n1 s2 := ⟨_, rfl⟩
     have HCT := Lib.hid (show csT q P no i rest = nn by rw [HS4.out, if_neg hlr, hnn, hs2, hs1])
     have hw1 : IntKind.i64.wrap (100 + (pz : Int)) = (s1 : Int) := by rw [IntWalk.i64_in _ (by omega)]; omega
     have hw2 : IntKind.i64.wrap ((s1 : Int) + (c2 : Int)) = (s2 : Int) := by rw [IntWalk.i64_in _ (by omega)]; omega
     have hmin : min (n1 : Int) (s2 : Int) = (nn : Int) := by omega
     clear hs1 hs2 hnn hlr
     go_upto_region 11 with fail
     refine wp_regionJ 18 #[false, false, false, false, false, false, false, false, false, false, false, false, false, false, false, false, false, false] (fun ll aa W => ∃ (m0 m1 m2 m3 m4 m5 m6 m7 m8 m9 m10 m11 m12 m13 m14 m15 m16 m17 : Bool), ll = #[m0, m1, m2, m3, m4, m5, m6, m7, m8, m9, m10, m11, m12, m13, m14, m15, m16, m17] ∧ aa = ({ tmps := #[Value.agg #[Value.int IntKind.i64 (q : Int), Value.slice A n c, Value.slice B nf d], Value.slice (some { block := g4, off := o4 }) m cp, Value.int IntKind.i64 (i : Int), Value.int IntKind.i64 (rest : Int), Value.map (some b), Value.pointer (some { block := V.heap.size, off := 0 }), undef, undef, undef, undef, Value.int IntKind.i64 0, Value.int IntKind.i64 v, Value.bool false, cwX m17 (Value.int .i64 (nn : Int)) (Value.int IntKind.i64 (n1 : Int)), Value.int IntKind.i64 (lf : Int), Value.int IntKind.i64 (rest : Int), Value.bool false, Value.int IntKind.i64 (i : Int), Value.slice (some { block := g4, off := o4 }) m cp, Value.int IntKind.i64 (m : Int), Value.bool false, Value.tuple #[Value.int IntKind.i64 v, Value.bool false], Value.map (some b), Value.int IntKind.i64 (i : Int), Value.int IntKind.i64 (rest : Int), Value.agg #[Value.int IntKind.i64 (i : Int), Value.int IntKind.i64 (rest : Int)], Value.tuple #[Value.int IntKind.i64 v, Value.bool false], Value.int IntKind.i64 v, Value.bool false, Value.bool false, undef, Value.agg #[Value.int IntKind.i64 (q : Int), Value.slice A n c, Value.slice B nf d], Value.slice (some { block := g4, off := o4 }) m cp, Value.int IntKind.i64 (i : Int), Value.int IntKind.i64 ((i : Int) + 1), Value.int IntKind.i64 (rest : Int), Value.map (some b), Value.int IntKind.i64 (n1 : Int), Value.agg #[Value.int IntKind.i64 (q : Int), Value.slice A n c, Value.slice B nf d], Value.slice (some { block := g4, off := o4 }) m cp, Value.int IntKind.i64 (i : Int), Value.pointer (some { block := g4, off := o4 + i * 2 }), Value.agg #[Value.int IntKind.i64 (za : Int), Value.int IntKind.i64 (zb : Int)], Value.int IntKind.i64 (rest : Int), Value.int IntKind.i64 (lf : Int), Value.int IntKind.i64 (lf : Int), Value.int IntKind.i64 (rest : Int), Value.bool true, cwX m0 (Value.int IntKind.i64 (n1 : Int)) (undef), cwX m1 (Value.slice (some { block := g4, off := o4 }) m cp) (undef), cwX m2 (Value.int IntKind.i64 (i : Int)) (undef), cwX m3 (Value.pointer (some ⟨g4, o4 + i * 2, none⟩)) (undef), cwX m4 (Value.pointer (some ⟨g4, o4 + i * 2, none⟩)) (undef), cwX m5 (Value.int .i64 (za : Int)) (undef), cwX m6 (Value.int .i64 (pz : Int)) (undef), cwX m7 (Value.int .i64 (s1 : Int)) (undef), cwX m8 (Value.agg #[Value.int IntKind.i64 (q : Int), Value.slice A n c, Value.slice B nf d]) (undef), cwX m9 (Value.slice (some { block := g4, off := o4 }) m cp) (undef), cwX m10 (Value.int IntKind.i64 (i : Int)) (undef), cwX m11 (Value.int .i64 ((i : Int) + 1)) (undef), cwX m12 (Value.int IntKind.i64 (lf : Int)) (undef), cwX m13 (Value.map (some b)) (undef), cwX m14 (Value.int .i64 (c2 : Int)) (undef), cwX m15 (Value.int .i64 (s2 : Int)) (undef), cwX m16 (Value.int .i64 (nn : Int)) (undef), undef, undef, undef, undef, undef, undef], defers := [] } : Act) ∧ (m17 = true → m0 = true) ∧ (fun X => CoAt X b q A (some ⟨g4, o4, none⟩) no P ∧ Chs b WR X) W) (by kernel_rfl) (by kernel_rfl) (by kernel_rfl) (by kernel_rfl) ?_ ?_ ?_ ?_
     ·rintro ll aa W ⟨m0, m1, m2, m3, m4, m5, m6, m7, m8, m9, m10, m11, m12, m13, m14, m15, m16, m17, rfl, _⟩
      rfl
     ·exact ⟨false, false, false, false, false, false, false, false, false, false, false, false, false, false, false, false, false, false, rfl, rfl, fun h => absurd h (by simp), ⟨HC2.out.below (bw_drew (Below.refl _ _)), Chs.of_below (bw_drew (Below.refl _ _))⟩⟩
     ·rintro ll aa W i o ⟨m0, m1, m2, m3, m4, m5, m6, m7, m8, m9, m10, m11, m12, m13, m14, m15, m16, m17, rfl, rfl, hi0, hm⟩ ho hun hall K hK
      have hi : i < 18 := (Array.getElem?_eq_some_iff.1 ho).1
      have HM := Lib.hid hm
      have HI := Lib.hid hi0
      clear hm hi0
      rcases (show i = 0 ∨ i = 1 ∨ i = 2 ∨ i = 3 ∨ i = 4 ∨ i = 5 ∨ i = 6 ∨ i = 7 ∨ i = 8 ∨ i = 9 ∨ i = 10 ∨ i = 11 ∨ i = 12 ∨ i = 13 ∨ i = 14 ∨ i = 15 ∨ i = 16 ∨ i = 17 by omega) with rfl | rfl | rfl | rfl | rfl | rfl | rfl | rfl | rfl | rfl | rfl | rfl | rfl | rfl | rfl | rfl | rfl | rfl
      ·cases ho
       simp at hun; subst hun
       clear hall hi
       obtain rfl : m17 = false := by
        cases m17
        ·rfl
        ·exact absurd (HI.out rfl) (by simp)
       go_simp
       exact hK.out _ _ ⟨true, m1, m2, m3, m4, m5, m6, m7, m8, m9, m10, m11, m12, m13, m14, m15, m16, false, rfl, rfl, by have h0 := HI.out; exact fun e => by first | rfl | exact h0 e | exact absurd e (by simp), HM.out⟩
      ·cases ho
       simp at hun; subst hun
       clear hall hi
       go_simp
       exact hK.out _ _ ⟨m0, true, m2, m3, m4, m5, m6, m7, m8, m9, m10, m11, m12, m13, m14, m15, m16, m17, rfl, rfl, by have h0 := HI.out; exact fun e => by first | rfl | exact h0 e | exact absurd e (by simp), HM.out⟩
      ·cases ho
       simp at hun; subst hun
       clear hall hi
       go_simp
       exact hK.out _ _ ⟨m0, m1, true, m3, m4, m5, m6, m7, m8, m9, m10, m11, m12, m13, m14, m15, m16, m17, rfl, rfl, by have h0 := HI.out; exact fun e => by first | rfl | exact h0 e | exact absurd e (by simp), HM.out⟩
      ·cases ho
       cases (getBX hall 1 rfl : m1 = true)
       cases (getBX hall 2 rfl : m2 = true)
       simp at hun; subst hun
       clear hall hi
       go_simp
       exact hK.out _ _ ⟨m0, true, true, true, m4, m5, m6, m7, m8, m9, m10, m11, m12, m13, m14, m15, m16, m17, rfl, rfl, by have h0 := HI.out; exact fun e => by first | rfl | exact h0 e | exact absurd e (by simp), HM.out⟩
      ·cases ho
       cases (getBX hall 3 rfl : m3 = true)
       simp at hun; subst hun
       clear hall hi
       go_simp
       exact hK.out _ _ ⟨m0, m1, m2, true, true, m5, m6, m7, m8, m9, m10, m11, m12, m13, m14, m15, m16, m17, rfl, rfl, by have h0 := HI.out; exact fun e => by first | rfl | exact h0 e | exact absurd e (by simp), HM.out⟩
      ·cases ho
       cases (getBX hall 4 rfl : m4 = true)
       simp at hun; subst hun
       clear hall hi
       obtain ⟨y0, y1⟩ := HXI.out W (HK2.out.trans HM.out.2)
       go_simp
       exact hK.out _ _ ⟨m0, m1, m2, m3, true, true, m6, m7, m8, m9, m10, m11, m12, m13, m14, m15, m16, m17, rfl, rfl, by have h0 := HI.out; exact fun e => by first | rfl | exact h0 e | exact absurd e (by simp), HM.out⟩
      ·cases ho
       cases (getBX hall 5 rfl : m5 = true)
       simp at hun; subst hun
       clear hall hi
       go_simp
       refine (HPO.out W).mono ?_
       rintro e W' ⟨rfl, rfl⟩
       exact hK.out _ _ ⟨m0, m1, m2, m3, m4, true, true, m7, m8, m9, m10, m11, m12, m13, m14, m15, m16, m17, rfl, rfl, by have h0 := HI.out; exact fun e => by first | rfl | exact h0 e | exact absurd e (by simp), HM.out⟩
      ·cases ho
       cases (getBX hall 6 rfl : m6 = true)
       simp at hun; subst hun
       clear hall hi
       go_simp
       exact hK.out _ _ ⟨m0, m1, m2, m3, m4, m5, true, true, m8, m9, m10, m11, m12, m13, m14, m15, m16, m17, rfl, rfl, by have h0 := HI.out; exact fun e => by first | rfl | exact h0 e | exact absurd e (by simp), HM.out⟩
      ·cases ho
       simp at hun; subst hun
       clear hall hi
       have hbk := HTB.out W (HK2.out.trans HM.out.2)
       have t0 : W.cell? ⟨V.heap.size, 0, none⟩ = some (.int .i64 (q : Int)) := hbk.cell 0
       have t1 : W.cell? ⟨V.heap.size, 1, none⟩ = some (.slice A n c) := hbk.cell 1
       have t2 : W.cell? ⟨V.heap.size, 2, none⟩ = some (.slice B nf d) := hbk.cell 2
       clear hbk
       go_simp
       exact hK.out _ _ ⟨m0, m1, m2, m3, m4, m5, m6, m7, true, m9, m10, m11, m12, m13, m14, m15, m16, m17, rfl, rfl, by have h0 := HI.out; exact fun e => by first | rfl | exact h0 e | exact absurd e (by simp), HM.out⟩
      ·cases ho
       simp at hun; subst hun
       clear hall hi
       go_simp
       exact hK.out _ _ ⟨m0, m1, m2, m3, m4, m5, m6, m7, m8, true, m10, m11, m12, m13, m14, m15, m16, m17, rfl, rfl, by have h0 := HI.out; exact fun e => by first | rfl | exact h0 e | exact absurd e (by simp), HM.out⟩
      ·cases ho
       simp at hun; subst hun
       clear hall hi
       go_simp
       exact hK.out _ _ ⟨m0, m1, m2, m3, m4, m5, m6, m7, m8, m9, true, m11, m12, m13, m14, m15, m16, m17, rfl, rfl, by have h0 := HI.out; exact fun e => by first | rfl | exact h0 e | exact absurd e (by simp), HM.out⟩
      ·cases ho
       cases (getBX hall 10 rfl : m10 = true)
       simp at hun; subst hun
       clear hall hi
       go_simp
       exact hK.out _ _ ⟨m0, m1, m2, m3, m4, m5, m6, m7, m8, m9, true, true, m12, m13, m14, m15, m16, m17, rfl, rfl, by have h0 := HI.out; exact fun e => by first | rfl | exact h0 e | exact absurd e (by simp), HM.out⟩
      ·cases ho
       simp at hun; subst hun
       clear hall hi
       go_simp
       exact hK.out _ _ ⟨m0, m1, m2, m3, m4, m5, m6, m7, m8, m9, m10, m11, true, m13, m14, m15, m16, m17, rfl, rfl, by have h0 := HI.out; exact fun e => by first | rfl | exact h0 e | exact absurd e (by simp), HM.out⟩
      ·cases ho
       simp at hun; subst hun
       clear hall hi
       go_simp
       exact hK.out _ _ ⟨m0, m1, m2, m3, m4, m5, m6, m7, m8, m9, m10, m11, m12, true, m14, m15, m16, m17, rfl, rfl, by have h0 := HI.out; exact fun e => by first | rfl | exact h0 e | exact absurd e (by simp), HM.out⟩
      ·cases ho
       cases (getBX hall 6 rfl : m6 = true)
       cases (getBX hall 8 rfl : m8 = true)
       cases (getBX hall 9 rfl : m9 = true)
       cases (getBX hall 11 rfl : m11 = true)
       cases (getBX hall 12 rfl : m12 = true)
       cases (getBX hall 13 rfl : m13 = true)
       simp at hun; subst hun
       clear hall hi
       go_simp
       refine (HI2.out W HM.out.1).mono ?_
       rintro e W' ⟨rfl, hco3, hch3⟩
       have HN' := Lib.hid (And.intro hco3 (HM.out.2.trans hch3))
       exact hK.out _ _ ⟨m0, m1, m2, m3, m4, m5, true, m7, true, true, m10, true, true, true, true, m15, m16, m17, rfl, rfl, by have h0 := HI.out; exact fun e => by first | rfl | exact h0 e | exact absurd e (by simp), HN'.out⟩
      ·cases ho
       cases (getBX hall 7 rfl : m7 = true)
       cases (getBX hall 14 rfl : m14 = true)
       simp at hun; subst hun
       clear hall hi
       go_simp
       exact hK.out _ _ ⟨m0, m1, m2, m3, m4, m5, m6, true, m8, m9, m10, m11, m12, m13, true, true, m16, m17, rfl, rfl, by have h0 := HI.out; exact fun e => by first | rfl | exact h0 e | exact absurd e (by simp), HM.out⟩
      ·cases ho
       cases (getBX hall 0 rfl : m0 = true)
       cases (getBX hall 15 rfl : m15 = true)
       simp at hun; subst hun
       clear hall hi
       go_simp
       try rw [hmin]
       exact hK.out _ _ ⟨true, m1, m2, m3, m4, m5, m6, m7, m8, m9, m10, m11, m12, m13, m14, true, true, m17, rfl, rfl, by have h0 := HI.out; exact fun e => by first | rfl | exact h0 e | exact absurd e (by simp), HM.out⟩
      ·cases ho
       cases (getBX hall 0 rfl : m0 = true)
       cases (getBX hall 1 rfl : m1 = true)
       cases (getBX hall 2 rfl : m2 = true)
       cases (getBX hall 3 rfl : m3 = true)
       cases (getBX hall 4 rfl : m4 = true)
       cases (getBX hall 5 rfl : m5 = true)
       cases (getBX hall 6 rfl : m6 = true)
       cases (getBX hall 7 rfl : m7 = true)
       cases (getBX hall 8 rfl : m8 = true)
       cases (getBX hall 9 rfl : m9 = true)
       cases (getBX hall 10 rfl : m10 = true)
       cases (getBX hall 11 rfl : m11 = true)
       cases (getBX hall 12 rfl : m12 = true)
       cases (getBX hall 13 rfl : m13 = true)
       cases (getBX hall 14 rfl : m14 = true)
       cases (getBX hall 15 rfl : m15 = true)
       cases (getBX hall 16 rfl : m16 = true)
       simp at hun; subst hun
       clear hall hi
       go_simp
       exact hK.out _ _ ⟨true, true, true, true, true, true, true, true, true, true, true, true, true, true, true, true, true, true, rfl, rfl, by have h0 := HI.out; exact fun e => by first | rfl | exact h0 e | exact absurd e (by simp), HM.out⟩
     ·rintro ll aa W ⟨m0, m1, m2, m3, m4, m5, m6, m7, m8, m9, m10, m11, m12, m13, m14, m15, m16, m17, rfl, rfl, _, hm⟩ hall
      cases (hall 0 (by decide) : m0 = true)
      cases (hall 1 (by decide) : m1 = true)
      cases (hall 2 (by decide) : m2 = true)
      cases (hall 3 (by decide) : m3 = true)
      cases (hall 4 (by decide) : m4 = true)
      cases (hall 5 (by decide) : m5 = true)
      cases (hall 6 (by decide) : m6 = true)
      cases (hall 7 (by decide) : m7 = true)
      cases (hall 8 (by decide) : m8 = true)
      cases (hall 9 (by decide) : m9 = true)
      cases (hall 10 (by decide) : m10 = true)
      cases (hall 11 (by decide) : m11 = true)
      cases (hall 12 (by decide) : m12 = true)
      cases (hall 13 (by decide) : m13 = true)
      cases (hall 14 (by decide) : m14 = true)
      cases (hall 15 (by decide) : m15 = true)
      cases (hall 16 (by decide) : m16 = true)
      cases (hall 17 (by decide) : m17 = true)
      clear hall
      have HC3 := Lib.hid hm.1
      have HK3 := Lib.hid hm.2
      clear hm
      dsimp only [cwX, cond_true]
      obtain ⟨W', hput, hcp, hkp⟩ := HC3.out.put i rest
      rw [HCT.out] at hput
      have HC4 := Lib.hid hcp
      have HK4 := Lib.hid (HK1.out.trans (HK2.out.trans (HK3.out.trans hkp)))
      clear hcp hkp
      go_wp2_with fail
      exact bodyPost_ret (v := .int .i64 (nn : Int)) (by simp [results, Tryz.results18, go_sem]) rfl ⟨by rw [HCT.out], HC4.out, HK4.out⟩
end Go.Proofs.YtaegjpancbmppaaGreatDoor
