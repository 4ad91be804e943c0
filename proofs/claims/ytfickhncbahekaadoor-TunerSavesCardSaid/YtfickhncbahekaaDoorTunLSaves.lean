/- The law TunerSaves. Conditions: the plan's numbers are of 8 and of 16 bits; the library's table reads as its text lays it. Printed by gensaves.py. -/
import Derived.Test.YtfickhncbahekaaDoorTunAns
import Derived.Test.YtfickhncbahekaaDoorTunSaveNum
import Derived.Test.YtfickhncbahekaaDoorTunMake
import Derived.Test.YtfickhncbahekaaDoorTunKnown
import Derived.Test.YtfickhncbahekaaDoorTunFur
import Derived.Test.YtfickhncbahekaaDoorTunTuned
namespace Go.Proofs.YtfickhncbahekaaDoor
open Go.RowKit

theorem IntsOr.okS {w w' : World} {x : Int} {l : List Int} {e : Ending} (h : IntsOr w x l e w') (hx : x = 0) : ∃ (GA : Option Addr) (gc : Nat), e = .returned (.tuple #[.slice GA l.length gc, .int .i64 0]) ∧ Below w.heap.size w w' := by
  obtain ⟨hb, ⟨h0, _⟩ | ⟨_, GA, gc, h1, _, _, _⟩⟩ := h
  · exact absurd hx h0
  · exact ⟨GA, gc, h1, hb⟩
theorem listN_nodup (s : Nat × Nat) : (listN s).Nodup := (listN_sorted s).imp fun h e => by omega
theorem tun_len {lo hi f : Int} {l : List Int} {L : List (Int × Int)} (h0 : 0 ≤ lo) (h1 : hi ≤ 127) (hf : lo ≤ f ∧ f ≤ hi) (h : Planned lo hi f l L) (hm : ∀ n, n ∈ listN (tunV f L) ↔ n ∈ f :: L.map (·.2)) : (listN (tunV f L)).length = L.length + 1 := by
  rw [same_len (listN_nodup _) h.nodup hm, List.length_cons, List.length_map]
theorem tun_mem {lo hi f : Int} {l : List Int} {L : List (Int × Int)} (h0 : 0 ≤ lo) (h1 : hi ≤ 127) (hf : lo ≤ f ∧ f ≤ hi) (h : Planned lo hi f l L) (n : Int) : n ∈ listN (tunV f L) ↔ n ∈ f :: L.map (·.2) := by
  have hz : hasZ (0, 0) n = false := by unfold hasZ; rw [hasN_zero]; simp
  rw [mem_listZ]
  unfold tunV
  rw [hasZ_set, hz, Bool.false_or, Bool.and_eq_true, List.contains_iff_mem]
  constructor
  · exact fun e => e.2
  · intro e
    refine ⟨?_, e⟩
    have hn : lo ≤ n ∧ n ≤ hi := by
      rcases List.mem_cons.1 e with rfl | e
      · exact hf
      · obtain ⟨x, hx, rfl⟩ := List.mem_map.1 e
        obtain ⟨d, hd⟩ := h.fr x hx
        exact hd.1.1.range hf
    unfold nB
    exact decide_eq_true ⟨by omega, by omega⟩
/-- What the statement on the tuned set keeps. -/
abbrev SvH (w : World) (z4 : Nat) (f : Int) (OA : Option Addr) (on oc : Nat) (L : List (Int × Int)) (Bd : Nat) (z8 nu1 nu2 : Nat) (HL : List (Nat × TypeId × List Value)) (w' : World) : Prop :=
  w'.cell? ⟨z4, 0, none⟩ = some (.int .i64 f) ∧ w'.cell? ⟨z4, 1, none⟩ = some (.slice OA on oc) ∧ w'.cell? ⟨z8, 0, none⟩ = some (.int .u64 (nu1 : Int)) ∧ w'.cell? ⟨z8, 1, none⟩ = some (.int .u64 (nu2 : Int)) ∧ Hp w HL w' ∧ OArg w' Bd OA on oc L ∧ Bd ≤ w'.heap.size
theorem SvH.below {w : World} {z4 : Nat} {f : Int} {OA : Option Addr} {on oc : Nat} {L : List (Int × Int)} {Bd z8 nu1 nu2 z3 : Nat} {pl tk : List Value} {w1 w2 : World}
    (h : SvH w z4 f OA on oc L Bd z8 nu1 nu2 [(w.heap.size, 35, pl), (z3, 43, tk), (z4, 25, [.int .i64 f, .slice OA on oc]), (z8, 39, [.int .u64 (nu1 : Int), .int .u64 (nu2 : Int)])] w1) (hb : Below w1.heap.size w1 w2) :
    SvH w z4 f OA on oc L Bd z8 nu1 nu2 [(w.heap.size, 35, pl), (z3, 43, tk), (z4, 25, [.int .i64 f, .slice OA on oc]), (z8, 39, [.int .u64 (nu1 : Int), .int .u64 (nu2 : Int)])] w2 := by
  obtain ⟨_, _, _, _, h5, h6, h7⟩ := h
  have hm := h5.step hb
  exact ⟨(hm.at_ 2 rfl).cell 0, (hm.at_ 2 rfl).cell 1, (hm.at_ 3 rfl).cell 0, (hm.at_ 3 rfl).cell 1, hm, h6.below (hb.mono h7), Nat.le_trans h7 hb.size⟩

set_option maxRecDepth 1000000 in
set_option maxHeartbeats 16000000 in
theorem lsaves_any (a b c d g : Nat) (w : World) (ha : a ≤ 255) (hb : b ≤ 65535) (hc : c ≤ 255) (hd : d ≤ 255) (hg : g ≤ 255) (ht : DTab w) :
    Calls Tryd.prog 7 #[.agg #[.int .u8 (a : Int), .int .u16 (b : Int), .int .u8 (c : Int), .int .u8 (d : Int), .int .u8 (g : Int)]] w fun e w' => e = .returned (.bool true) ∧ Below w.heap.size w w' := by
  have HK := Lib.hid (fun W (h : DTab W) => known_any W h)
  have HMK := Lib.hid (fun W => lmake_any a b c d g W ha hb hc hd hg)
  have hm0 := (Hp.start w).new 35 [.int .u8 (a : Int), .int .u16 (b : Int), .int .u8 (c : Int), .int .u8 (d : Int), .int .u8 (g : Int)]
  simp only [List.nil_append] at hm0
  have HM0 := Lib.hid hm0
  have HT := Lib.hid (ht.below hm0.below)
  clear hm0 ht ha hb hc hd hg
  go_enter Tryd.func7, Tryd.ntmps7
  go_wp2_with fail
  refine (HK.out _ HT.out).mono ?_
  rintro e w1 ⟨rfl, hb1⟩
  have HM1 := Lib.hid (HM0.out.step hb1)
  have HT1 := Lib.hid (HT.out.below hb1)
  have j0 : w1.cell? ⟨w.heap.size, 0, none⟩ = some (.int .u8 (a : Int)) := (HM1.out.at_ 0 rfl).cell 0
  have j1 : w1.cell? ⟨w.heap.size, 1, none⟩ = some (.int .u16 (b : Int)) := (HM1.out.at_ 0 rfl).cell 1
  have j2 : w1.cell? ⟨w.heap.size, 2, none⟩ = some (.int .u8 (c : Int)) := (HM1.out.at_ 0 rfl).cell 2
  have j3 : w1.cell? ⟨w.heap.size, 3, none⟩ = some (.int .u8 (d : Int)) := (HM1.out.at_ 0 rfl).cell 3
  have j4 : w1.cell? ⟨w.heap.size, 4, none⟩ = some (.int .u8 (g : Int)) := (HM1.out.at_ 0 rfl).cell 4
  clear hb1
  go_wp2_with fail
  refine (HMK.out _).mono ?_
  rintro e w2 ⟨f, s, lo, hi, hs, hx0, rfl, hb2⟩
  obtain ⟨h0, h1, hf0, hf1, hls⟩ := tkE_zero hx0
  have HLS := Lib.hid hls
  have HL0 := Lib.hid (fun W => refList_any s W hs)
  have HPA := Lib.hid (fun W (h : DTab W) => plan_any f s lo hi W hs h)
  have HDP := Lib.hid (fun n W => depth_any f s lo hi n W hs)
  have hll := listK_len s 128
  rw [show listK s 128 = listN s from rfl] at hll
  obtain ⟨kl, hkl⟩ : ∃ kl, kl = listN s := ⟨_, rfl⟩
  rw [← hkl] at HL0 HLS hll
  obtain ⟨ln, hln⟩ : ∃ ln, ln = kl.length := ⟨_, rfl⟩
  rw [← hln] at hll
  have HLN := Lib.hid hln
  have HKL := Lib.hid hkl
  have HX0 := Lib.hid hx0
  obtain ⟨s1, s2⟩ := s
  unfold nv at HL0
  unfold tv at HPA HDP ⊢
  dsimp only at HL0 HPA HDP ⊢
  have hm2 := (HM1.out.step hb2).new 43 [.int .i64 f, .int .u64 (s1 : Int), .int .u64 (s2 : Int), .int .i64 lo, .int .i64 hi]
  simp only [List.nil_append, List.cons_append] at hm2
  have ht2 := (HT1.out.below hb2).below (Below.alloc (Below.refl _ w2) (Nat.le_refl _) (.cells #[.int .i64 f, .int .u64 (s1 : Int), .int .u64 (s2 : Int), .int .i64 lo, .int .i64 hi] 43))
  obtain ⟨z3, hz3⟩ : ∃ z, z = w2.heap.size := ⟨_, rfl⟩
  rw [← hz3] at hm2
  have hz3w : w2.heap.size = z3 := hz3.symm
  have HM2 := Lib.hid hm2
  have HT2 := Lib.hid ht2
  clear hb2 j0 j1 j2 j3 j4 hls hx0 hkl hln hz3 hm2 ht2 hs
  by_cases hr : ∀ n ∈ kl, ∃ d, Ds lo hi f n d
  · have HR := Lib.hid hr
    have hrr : ∀ n ∈ listN (s1, s2), ∃ d, Ds lo hi f n d := by rw [← HKL.out]; exact hr
    have HPO := Lib.hid (fun W (h : DTab W) => (HPA.out W h).mono fun e w' h => h.ok HX0.out hrr)
    have k0 : (w2.alloc (.cells #[.int .i64 f, .int .u64 (s1 : Int), .int .u64 (s2 : Int), .int .i64 lo, .int .i64 hi] 43)).cell? ⟨z3, 0, none⟩ = some (.int .i64 f) := (HM2.out.at_ 1 rfl).cell 0
    have k1 : (w2.alloc (.cells #[.int .i64 f, .int .u64 (s1 : Int), .int .u64 (s2 : Int), .int .i64 lo, .int .i64 hi] 43)).cell? ⟨z3, 1, none⟩ = some (.int .u64 (s1 : Int)) := (HM2.out.at_ 1 rfl).cell 1
    have k2 : (w2.alloc (.cells #[.int .i64 f, .int .u64 (s1 : Int), .int .u64 (s2 : Int), .int .i64 lo, .int .i64 hi] 43)).cell? ⟨z3, 2, none⟩ = some (.int .u64 (s2 : Int)) := (HM2.out.at_ 1 rfl).cell 2
    have k3 : (w2.alloc (.cells #[.int .i64 f, .int .u64 (s1 : Int), .int .u64 (s2 : Int), .int .i64 lo, .int .i64 hi] 43)).cell? ⟨z3, 3, none⟩ = some (.int .i64 lo) := (HM2.out.at_ 1 rfl).cell 3
    have k4 : (w2.alloc (.cells #[.int .i64 f, .int .u64 (s1 : Int), .int .u64 (s2 : Int), .int .i64 lo, .int .i64 hi] 43)).cell? ⟨z3, 4, none⟩ = some (.int .i64 hi) := (HM2.out.at_ 1 rfl).cell 4
    clear hr hrr
    go_wp2_with fail
    try rw [hz3w]
    refine (HPO.out _ HT2.out).mono ?_
    rintro e w3 ⟨OA, oc, L, rfl, hsr, hpl, hl128, hlc, hcm, hb3⟩
    obtain ⟨on, hon⟩ : ∃ on, on = L.length := ⟨_, rfl⟩
    rw [← hon] at hlc hl128 ⊢
    have hoa : OArg w3 w3.heap.size OA on oc L := ⟨hon.symm, hsr, hlc, hcm⟩
    have hpl2 : Planned lo hi f kl L := by rw [HKL.out]; exact hpl
    have hrun := hpl2.run h0 h1 ⟨hf0, hf1⟩ (by omega)
    have hord := hpl2.ord h0 h1 ⟨hf0, hf1⟩
    have hag : (stT f L on).again = [] := by rw [hon, (st_again hord L.length (Nat.le_refl _)).1, hpl2.red]; rfl
    have HRED := Lib.hid (fun W (hW : OArg W W.heap.size OA on oc L) => (redundant_any f OA on oc L W hW).mono fun e w' h => h.okS hrun)
    rw [hag] at HRED
    have HTUN := Lib.hid (fun W (hW : OArg W W.heap.size OA on oc L) => tuned_any f OA on oc L W hW)
    rw [hrun, show tunX f L = tunV f L by unfold tunX; rw [if_pos hrun]] at HTUN
    have HCHK := Lib.hid (fun W (hW : OArg W W.heap.size OA on oc L) => tcheck_any f OA on oc L W hW)
    rw [hrun] at HCHK
    have HCH := Lib.hid (fun n W (hW : OArg W W.heap.size OA on oc L) => tChain_any f n OA on oc L W hW)
    have HRE := Lib.hid (fun n W (hW : OArg W W.heap.size OA on oc L) => reached_any f n OA on oc L W hW)
    obtain ⟨u, hu⟩ : ∃ u, u = tunV f L := ⟨_, rfl⟩
    have huok : NOk u := by rw [hu]; exact setN_ok _ ⟨by decide, by decide⟩
    have hmem : ∀ n, n ∈ listN u ↔ n ∈ f :: L.map (·.2) := fun n => by rw [hu]; exact tun_mem h0 h1 ⟨hf0, hf1⟩ hpl2 n
    have hul : (listN u).length = on + 1 := by rw [hu, tun_len h0 h1 ⟨hf0, hf1⟩ hpl2 (by rw [← hu]; exact hmem), hon]
    have HLU := Lib.hid (fun W => refList_any u W huok)
    have HHS := Lib.hid (fun n W => refHas_any u n W huok)
    rw [← hu] at HTUN
    have HMEM := Lib.hid (show ∀ n, n = f ∨ n ∈ L.map (·.2) → hasZ u n = true from fun n h => mem_listZ.1 ((hmem n).2 (List.mem_cons.2 h)))
    have HUL := Lib.hid hul
    have HPL := Lib.hid hpl2
    have HORD := Lib.hid hord
    have HRUN := Lib.hid hrun
    have HON := Lib.hid hon
    obtain ⟨nu1, nu2⟩ := u
    unfold nv at HTUN HLU HHS
    dsimp only at HTUN HLU HHS
    have hm3 := (HM2.out.step hb3).new 25 [.int .i64 f, .slice OA on oc]
    simp only [List.nil_append, List.cons_append] at hm3
    obtain ⟨z4, hz4⟩ : ∃ z, z = w3.heap.size := ⟨_, rfl⟩
    have HOA3 := Lib.hid (hoa.step (bw_new (Below.refl _ w3) (.cells #[.int .i64 f, .slice OA on oc] 25)))
    rw [← hz4] at hm3
    have hz4w : w3.heap.size = z4 := hz4.symm
    have HM3 := Lib.hid hm3
    clear k0 k1 k2 k3 k4 hsr hpl hlc hcm hb3 hon hoa hpl2 hrun hord hag hu huok hmem hul hm3 hz4
    have o0 : (w3.alloc (.cells #[.int .i64 f, .slice OA on oc] 25)).cell? ⟨z4, 0, none⟩ = some (.int .i64 f) := (HM3.out.at_ 2 rfl).cell 0
    have o1 : (w3.alloc (.cells #[.int .i64 f, .slice OA on oc] 25)).cell? ⟨z4, 1, none⟩ = some (.slice OA on oc) := (HM3.out.at_ 2 rfl).cell 1
    go_wp2_with fail
    try rw [hz4w]
    refine (HRED.out _ HOA3.out).mono ?_
    rintro e w4 ⟨GA, gc, rfl, hb4⟩
    have HM4 := Lib.hid (HM3.out.step hb4)
    have HOA4 := Lib.hid (HOA3.out.step hb4)
    clear o0 o1 hb4
    have o0 : w4.cell? ⟨z4, 0, none⟩ = some (.int .i64 f) := (HM4.out.at_ 2 rfl).cell 0
    have o1 : w4.cell? ⟨z4, 1, none⟩ = some (.slice OA on oc) := (HM4.out.at_ 2 rfl).cell 1
    go_wp2_with fail
    refine (HTUN.out _ HOA4.out).mono ?_
    rintro e w5 ⟨rfl, hb5⟩
    have hm5 := (HM4.out.step hb5).new 39 [.int .u64 (nu1 : Int), .int .u64 (nu2 : Int)]
    simp only [List.nil_append, List.cons_append] at hm5
    have hoa5 := (HOA4.out.step hb5).step (bw_new (Below.refl _ w5) (.cells #[.int .u64 (nu1 : Int), .int .u64 (nu2 : Int)] 39))
    obtain ⟨z8, hz8⟩ : ∃ z, z = w5.heap.size := ⟨_, rfl⟩
    rw [← hz8] at hm5
    have hz8w : w5.heap.size = z8 := hz8.symm
    have HM5 := Lib.hid hm5
    have HOA5 := Lib.hid hoa5
    clear o0 o1 hb5 hm5 hoa5 hz8
    go_wp2_with fail
    try rw [hz8w]
    obtain ⟨W5, hW5⟩ : ∃ W, W = w5.alloc (Obj.cells #[.int .u64 (nu1 : Int), .int .u64 (nu2 : Int)] 39) := ⟨_, rfl⟩
    rw [← hW5] at HM5 HOA5 ⊢
    clear hW5
    have hl0 : W5.cell? ⟨z4, 0, none⟩ = some (.int .i64 f) := (HM5.out.at_ 2 rfl).cell 0
    obtain ⟨Bd, hBd⟩ : ∃ b, b = W5.heap.size := ⟨_, rfl⟩
    have hT : SvH w z4 f OA on oc L Bd z8 nu1 nu2 [(w.heap.size, 35, [.int .u8 (a : Int), .int .u16 (b : Int), .int .u8 (c : Int), .int .u8 (d : Int), .int .u8 (g : Int)]), (z3, 43, [.int .i64 f, .int .u64 (s1 : Int), .int .u64 (s2 : Int), .int .i64 lo, .int .i64 hi]), (z4, 25, [.int .i64 f, .slice OA on oc]), (z8, 39, [.int .u64 (nu1 : Int), .int .u64 (nu2 : Int)])] W5 := ⟨hl0, (HM5.out.at_ 2 rfl).cell 1, (HM5.out.at_ 3 rfl).cell 0, (HM5.out.at_ 3 rfl).cell 1, HM5.out, by rw [hBd]; exact HOA5.out, by rw [hBd]; exact Nat.le_refl _⟩
    have HCK := Lib.hid (fun W (h : SvH w z4 f OA on oc L Bd z8 nu1 nu2 [(w.heap.size, 35, [.int .u8 (a : Int), .int .u16 (b : Int), .int .u8 (c : Int), .int .u8 (d : Int), .int .u8 (g : Int)]), (z3, 43, [.int .i64 f, .int .u64 (s1 : Int), .int .u64 (s2 : Int), .int .i64 lo, .int .i64 hi]), (z4, 25, [.int .i64 f, .slice OA on oc]), (z8, 39, [.int .u64 (nu1 : Int), .int .u64 (nu2 : Int)])] W) => HCHK.out W (h.2.2.2.2.2.1.more h.2.2.2.2.2.2))
    obtain ⟨om, hom⟩ : ∃ om, om = on + 1 := ⟨_, rfl⟩
    have hoq : ((om : Int) != IntKind.i64.wrap ((on : Int) + 1)) = false := by rw [IntWalk.i64_in _ (by omega), bne_eq_false_iff_eq]; omega
    have HOM := Lib.hid hom
    clear hom
    have HLS2 := Lib.hid (fun W => (HLU.out W).mono fun e w' h => show ∃ A c, e = .returned (.slice A om c) ∧ Below W.heap.size W w' from by
      obtain ⟨A, c, he, _, hb⟩ := h
      rw [HUL.out, ← HOM.out] at he
      exact ⟨A, c, he, hb⟩)
    clear hl0 hBd
    go_region_held3 (fun w' => w'.cell? ⟨z4, 0, none⟩ = some (.int .i64 f) ∧ w'.cell? ⟨z4, 1, none⟩ = some (.slice OA on oc) ∧ w'.cell? ⟨z8, 0, none⟩ = some (.int .u64 (nu1 : Int)) ∧ w'.cell? ⟨z8, 1, none⟩ = some (.int .u64 (nu2 : Int)) ∧ Hp w [(w.heap.size, 35, [.int .u8 (a : Int), .int .u16 (b : Int), .int .u8 (c : Int), .int .u8 (d : Int), .int .u8 (g : Int)]), (z3, 43, [.int .i64 f, .int .u64 (s1 : Int), .int .u64 (s2 : Int), .int .i64 lo, .int .i64 hi]), (z4, 25, [.int .i64 f, .slice OA on oc]), (z8, 39, [.int .u64 (nu1 : Int), .int .u64 (nu2 : Int)])] w' ∧ OArg w' Bd OA on oc L ∧ Bd ≤ w'.heap.size) (first | assumption | exact SvH.below hT (bw_drew (Below.refl _ _)) | exact SvH.below (by assumption) hbel)
      (first
       | (go_at_call 11; refine (HCK.out _ (by assumption)).mono ?_; rintro e w' ⟨rfl, hbel⟩)
       | (go_at_call 23; refine (HLS2.out _).mono ?_; rintro e w' ⟨QA, qc, rfl, hbel⟩))
    have hf : SvH w z4 f OA on oc L Bd z8 nu1 nu2 [(w.heap.size, 35, [.int .u8 (a : Int), .int .u16 (b : Int), .int .u8 (c : Int), .int .u8 (d : Int), .int .u8 (g : Int)]), (z3, 43, [.int .i64 f, .int .u64 (s1 : Int), .int .u64 (s2 : Int), .int .i64 lo, .int .i64 hi]), (z4, 25, [.int .i64 f, .slice OA on oc]), (z8, 39, [.int .u64 (nu1 : Int), .int .u64 (nu2 : Int)])] w' := by assumption
    have HF := Lib.hid hf
    have HM6 := Lib.hid hf.2.2.2.2.1
    have k1 : w'.cell? ⟨z3, 1, none⟩ = some (.int .u64 (s1 : Int)) := (hf.2.2.2.2.1.at_ 1 rfl).cell 1
    have k2 : w'.cell? ⟨z3, 2, none⟩ = some (.int .u64 (s2 : Int)) := (hf.2.2.2.2.1.at_ 1 rfl).cell 2
    clear hf hT
    try rw [hoq]
    clear hoq
    go_wp2_with fail
    refine (HL0.out _).mono ?_
    rintro e w9 ⟨LA, lc, rfl, hown, hb9⟩
    rw [← HLN.out] at hown ⊢
    have HF9 := Lib.hid (HF.out.below hb9)
    have HOW := Lib.hid hown
    clear hown hb9 k1 k2
    go_wp2_with fail
    go_loopw [71] (fun v wx => ∃ i : Nat, v = .int .i64 (i : Int) ∧ i ≤ ln ∧ Below w9.heap.size w9 wx) (fun v _ => ln - (intOf v).toNat)
    case atStart => exact ⟨0, rfl, by omega, Below.refl _ _⟩
    case round =>
      obtain ⟨i, rfl, hi', hbw⟩ := hrel
      have HBW := Lib.hid hbw
      have HFR := Lib.hid (HF9.out.below hbw)
      by_cases hil : i < ln
      · obtain ⟨b0, off, rfl, hbl, hcs⟩ := (Rd.of_own HOW.out HLN.out).at_ (by rw [← HLN.out]; omega)
        have hiq : i < kl.length := by rw [← HLN.out]; exact hil
        have hx0 := (hbw.cell (p := ⟨b0, off + i, none⟩) hbl).trans (hcs i hiq)
        obtain ⟨y, hy⟩ : ∃ y, y = kl[i] := ⟨_, rfl⟩
        rw [← hy] at hx0
        have hyk : y ∈ kl := by rw [hy]; exact List.getElem_mem _
        have hym := HLS.out y hyk
        obtain ⟨dd, hdd⟩ := HR.out y hyk
        have hin : y = f ∨ y ∈ L.map (·.2) := by
          by_cases q : y = f
          · exact .inl q
          · exact .inr ((HPL.out.mem y).2 (.base hyk q))
        have hfz : fz f L y ≠ -2 := fz_mem.2 hin
        have hlen := HPL.out.len h0 h1 ⟨hf0, hf1⟩ dd y hdd hin
        have hce : chnE f L y = 0 := by unfold chnE; rw [if_neg (fun e => e HRUN.out), if_neg hfz]
        have hsemi := wyB_semi HORD.out 200 y (by have := fz_lt f L y; rw [← HON.out] at this; omega) hfz
        have hdl := hdd.le ⟨hf0, hf1⟩ h0 h1
        have HCC := Lib.hid (fun W (hW : OArg W W.heap.size OA on oc L) => (HCH.out y W hW).mono fun e w' h => show ∃ A c, e = .returned (.tuple #[.slice A dd c, .int .i64 0]) ∧ Below W.heap.size W w' from by
          obtain ⟨GA, gc, he, hb⟩ := h.okS hce
          rw [List.length_reverse, hlen] at he
          exact ⟨GA, gc, he, hb⟩)
        have HDD := Lib.hid (fun W => (HDP.out y W).mono fun e w' h => h.ok HX0.out hym.1 hym.2 hdd)
        have HRR := Lib.hid (fun W hW => HRE.out y W hW)
        rw [rchE_eq, hce, rchW_eq hce] at HRR
        obtain ⟨a1, ha1⟩ : ∃ z, z = (wyB f L y).1 := ⟨_, rfl⟩
        obtain ⟨a2, ha2⟩ : ∃ z, z = (wyB f L y).2 := ⟨_, rfl⟩
        rw [show wv (wyB f L y) = .agg #[.int .i64 (wyB f L y).1, .int .i64 (wyB f L y).2] from rfl, ← ha1, ← ha2] at HRR
        rw [← ha1, ← ha2] at hsemi
        have HHH := Lib.hid (fun W => HHS.out y W)
        rw [HMEM.out y hin] at HHH
        obtain ⟨m1, m2, m3, m4, m5⟩ := hsemi
        have hneq : (7 * a1 + 12 * a2 != y - f) = false := by rw [bne_eq_false_iff_eq]; exact m1
        have HNQ := Lib.hid hneq
        obtain ⟨y0, y1⟩ := hym
        have hf := HFR.out
        have o0 : wr.cell? ⟨z4, 0, none⟩ = some (.int .i64 f) := (hf.2.2.2.2.1.at_ 2 rfl).cell 0
        have o1 : wr.cell? ⟨z4, 1, none⟩ = some (.slice OA on oc) := (hf.2.2.2.2.1.at_ 2 rfl).cell 1
        clear hcs hy hyk hdd hin hfz hlen hce ha1 ha2 m1 hf hneq
        go_wp2_with fail
        refine (HCC.out _ (HFR.out.2.2.2.2.2.1.more HFR.out.2.2.2.2.2.2)).mono ?_
        rintro e w10 ⟨CA, cc, rfl, hb10⟩
        have HF10 := Lib.hid (HFR.out.below hb10)
        have HB10 := Lib.hid (HBW.out.trans (hb10.mono HBW.out.size))
        have hf := HF10.out
        clear o0 o1
        have k0 : w10.cell? ⟨z3, 0, none⟩ = some (.int .i64 f) := (hf.2.2.2.2.1.at_ 1 rfl).cell 0
        have k1 : w10.cell? ⟨z3, 1, none⟩ = some (.int .u64 (s1 : Int)) := (hf.2.2.2.2.1.at_ 1 rfl).cell 1
        have k2 : w10.cell? ⟨z3, 2, none⟩ = some (.int .u64 (s2 : Int)) := (hf.2.2.2.2.1.at_ 1 rfl).cell 2
        have k3 : w10.cell? ⟨z3, 3, none⟩ = some (.int .i64 lo) := (hf.2.2.2.2.1.at_ 1 rfl).cell 3
        have k4 : w10.cell? ⟨z3, 4, none⟩ = some (.int .i64 hi) := (hf.2.2.2.2.1.at_ 1 rfl).cell 4
        clear hb10 hf hx0
        go_wp2_with fail
        refine (HDD.out _).mono ?_
        rintro e w11 ⟨rfl, hb11⟩
        have HF11 := Lib.hid (HF10.out.below hb11)
        have HB11 := Lib.hid (HB10.out.trans (hb11.mono HB10.out.size))
        have hf := HF11.out
        clear k0 k1 k2 k3 k4
        have o0 : w11.cell? ⟨z4, 0, none⟩ = some (.int .i64 f) := (hf.2.2.2.2.1.at_ 2 rfl).cell 0
        have o1 : w11.cell? ⟨z4, 1, none⟩ = some (.slice OA on oc) := (hf.2.2.2.2.1.at_ 2 rfl).cell 1
        clear hb11 hf
        go_wp2_with fail
        refine (HRR.out _ (HF11.out.2.2.2.2.2.1.more HF11.out.2.2.2.2.2.2)).mono ?_
        rintro e w12 ⟨rfl, hb12⟩
        have hwn := bw_new (Below.refl w12.heap.size w12) (.cells #[.int .i64 a1, .int .i64 a2] 50)
        have hf12 := (HF11.out.below hb12).below hwn
        have HF12 := Lib.hid hf12
        have HB12 := Lib.hid (bw_new (HB11.out.trans (hb12.mono HB11.out.size)) (.cells #[.int .i64 a1, .int .i64 a2] 50))
        have hm12 := (hf12.2.2.2.2.1)
        have HMW := Lib.hid (((HF11.out.2.2.2.2.1).step hb12).new 50 [.int .i64 a1, .int .i64 a2])
        have n0 : (w12.alloc (.cells #[.int .i64 a1, .int .i64 a2] 50)).cell? ⟨z8, 0, none⟩ = some (.int .u64 (nu1 : Int)) := hf12.2.2.1
        have n1 : (w12.alloc (.cells #[.int .i64 a1, .int .i64 a2] 50)).cell? ⟨z8, 1, none⟩ = some (.int .u64 (nu2 : Int)) := hf12.2.2.2.1
        clear o0 o1 hb12 hwn hf12 hm12
        go_wp2_with fail
        refine (HHH.out _).mono ?_
        rintro e w13 ⟨rfl, hb13⟩
        have hmw := HMW.out.step hb13
        have HB13 := Lib.hid (HB12.out.trans (hb13.mono HB12.out.size))
        have p0 : w13.cell? ⟨w12.heap.size, 0, none⟩ = some (.int .i64 a1) := (hmw.at_ 4 rfl).cell 0
        have p1 : w13.cell? ⟨w12.heap.size, 1, none⟩ = some (.int .i64 a2) := (hmw.at_ 4 rfl).cell 1
        have p2 : w13.cell? ⟨z3, 0, none⟩ = some (.int .i64 f) := (hmw.at_ 1 rfl).cell 0
        have hneq := HNQ.out
        clear n0 n1 hb13 hmw
        go_wp2
        go_roundw
        case rel => exact ⟨i + 1, by go_num, by omega, HB13.out⟩
        case measure => simp [intOf]; omega
      · obtain rfl : i = ln := by omega
        have HBB := Lib.hid HFR.out.2.2.2.2.1.below
        clear hbw
        go_wp2
        go_ret
        exact ⟨rfl, HBB.out⟩
  · have hrr : ∃ n ∈ listN (s1, s2), ∀ d, ¬ Ds lo hi f n d := by
      rw [← HKL.out]
      exact Classical.byContradiction fun h => hr fun n hn => Classical.byContradiction fun h2 => h ⟨n, hn, fun d hd => h2 ⟨d, hd⟩⟩
    have HPO := Lib.hid (fun W (h : DTab W) => (HPA.out W h).mono fun e w' h => h.none HX0.out hrr)
    have k0 : (w2.alloc (.cells #[.int .i64 f, .int .u64 (s1 : Int), .int .u64 (s2 : Int), .int .i64 lo, .int .i64 hi] 43)).cell? ⟨z3, 0, none⟩ = some (.int .i64 f) := (HM2.out.at_ 1 rfl).cell 0
    have k1 : (w2.alloc (.cells #[.int .i64 f, .int .u64 (s1 : Int), .int .u64 (s2 : Int), .int .i64 lo, .int .i64 hi] 43)).cell? ⟨z3, 1, none⟩ = some (.int .u64 (s1 : Int)) := (HM2.out.at_ 1 rfl).cell 1
    have k2 : (w2.alloc (.cells #[.int .i64 f, .int .u64 (s1 : Int), .int .u64 (s2 : Int), .int .i64 lo, .int .i64 hi] 43)).cell? ⟨z3, 2, none⟩ = some (.int .u64 (s2 : Int)) := (HM2.out.at_ 1 rfl).cell 2
    have k3 : (w2.alloc (.cells #[.int .i64 f, .int .u64 (s1 : Int), .int .u64 (s2 : Int), .int .i64 lo, .int .i64 hi] 43)).cell? ⟨z3, 3, none⟩ = some (.int .i64 lo) := (HM2.out.at_ 1 rfl).cell 3
    have k4 : (w2.alloc (.cells #[.int .i64 f, .int .u64 (s1 : Int), .int .u64 (s2 : Int), .int .i64 lo, .int .i64 hi] 43)).cell? ⟨z3, 4, none⟩ = some (.int .i64 hi) := (HM2.out.at_ 1 rfl).cell 4
    clear hr hrr
    go_wp2_with fail
    refine (HPO.out _ HT2.out).mono ?_
    rintro e w3 ⟨rfl, hb3⟩
    have HB3 := Lib.hid (bw_new (HM2.out.step hb3).below (.cells #[.int .i64 0, .slice none 0 0] 25))
    clear hb3 k0 k1 k2 k3 k4
    go_wp2
    go_ret
    exact ⟨rfl, HB3.out⟩
end Go.Proofs.YtfickhncbahekaaDoor
