/- Package tuner, the law's part: the examples. Conditions: the library's table reads as its text lays it. -/
import Derived.Test.YtfickhncbahekaaDoorTunSteps
import Derived.Test.YtfickhncbahekaaDoorNsetF
import Derived.Test.YtfickhncbahekaaDoorTunCalls
namespace Go.Proofs.YtfickhncbahekaaDoor
open Go.RowKit

theorem own_blk {w : World} {g : Nat} {l : List Int} (h : Blk w g 3 (l.map i64v)) {base : Nat} (hb : base ≤ g) (hl : l.length ≤ maxLen) : w.ownsRow base 3 1 (.slice (some ⟨g, 0, none⟩) l.length l.length) l.length (l.map i64v) :=
  ⟨by simp, .inr ⟨g, l.length, (l.map i64v).toArray, rfl, hb, h, Nat.le_refl _, hl, by simp, by simp [List.take_of_length_le]⟩⟩
/-- A new slice of ints. -/
theorem rd_new (w : World) (l : List Int) (hl : l.length ≤ maxLen) : Rd i64v (w.alloc (.cells (l.map i64v).toArray 3)) (w.alloc (.cells (l.map i64v).toArray 3)).heap.size (some ⟨w.heap.size, 0, none⟩) l :=
  Rd.of_own (own_blk (base := 0) (heap_alloc_new w _) (by omega) hl) rfl
def exA : List Int := [69, 57, 64, 71, 66]
def exB : List Int := [60, 67, 62, 69, 64, 71, 66, 61, 68, 63, 70, 65, 60]
theorem exA_arr : (exA.map i64v).toArray = #[.int .i64 69, .int .i64 57, .int .i64 64, .int .i64 71, .int .i64 66] := rfl
theorem exB_arr : (exB.map i64v).toArray = #[.int .i64 60, .int .i64 67, .int .i64 62, .int .i64 69, .int .i64 64, .int .i64 71, .int .i64 66, .int .i64 61, .int .i64 68, .int .i64 63, .int .i64 70, .int .i64 65, .int .i64 60] := rfl
theorem exA_way : rchW 69 (stpL exA) 66 = (3, -2) ∧ rchE 69 (stpL exA) 66 = 0 := by decide +kernel
theorem exB_drift : runE 60 (stpL exB) = 0 ∧ (stT 60 (stpL exB) 12).drift = [(12, -7)] := by decide +kernel
theorem exS_ok : NOk (setN [62, 67] (0, 0)) := setN_ok _ (by unfold NOk; omega)
theorem exS_list : listN (setN [62, 67] (0, 0)) = [62, 67] := by decide +kernel
theorem exT : tkE 60 (setN [62, 67] (0, 0)) 60 72 = 0 := by
  unfold tkE
  rw [exS_list]
  decide +kernel
theorem wk0 {n : Int} (h : Wk 60 72 60 n 0) : n = 60 := by cases h; rfl
theorem wk1 {n : Int} (h : Wk 60 72 60 n 1) : n = 65 ∨ n = 67 ∨ n = 72 := by
  cases h with
  | next h1 h2 h3 h4 =>
    have := wk0 h1
    subst this
    simp only [bys, List.mem_cons, List.not_mem_nil, or_false] at h2
    omega
theorem ds67 : Ds 60 72 60 67 1 := ⟨.next .zero (by decide) (by decide) (by decide), fun e he h => by
  obtain rfl : e = 0 := by omega
  have := wk0 h
  omega⟩
theorem ds62 : Ds 60 72 60 62 2 := ⟨.next (.next .zero (by decide) (by decide) (by decide) : Wk 60 72 60 67 1) (by decide) (by decide) (by decide), fun e he h => by
  rcases (show e = 0 ∨ e = 1 by omega) with rfl | rfl
  · have := wk0 h
    omega
  · have := wk1 h
    omega⟩
theorem fr67 : IsFr 60 72 60 67 60 0 := ⟨ds67, ⟨.zero, fun e he => by omega⟩, by decide, fun m' h _ => by have := wk0 h.1; omega⟩
theorem fr62 : IsFr 60 72 60 62 67 1 := ⟨ds62, ds67, by decide, fun m' h hb => by
  have := wk1 h.1
  simp only [bys, List.mem_cons, List.not_mem_nil, or_false] at hb
  omega⟩
theorem exP : Planned 60 72 60 [62, 67] [(60, 67), (67, 62)] where
  fr := fun x hx => by
    simp only [List.mem_cons, List.not_mem_nil, or_false] at hx
    rcases hx with rfl | rfl
    · exact ⟨0, fr67⟩
    · exact ⟨1, fr62⟩
  mem := fun n => by
    simp only [List.map_cons, List.map_nil, List.mem_cons, List.not_mem_nil, or_false]
    constructor
    · rintro (rfl | rfl)
      · exact .base (by simp) (by decide)
      · exact .base (by simp) (by decide)
    · intro h
      induction h with
      | base h1 h2 => simp only [List.mem_cons, List.not_mem_nil, or_false] at h1; omega
      | step h1 h2 h3 ih =>
        rcases ih with rfl | rfl
        · exact absurd (h2.unique fr67).1 h3
        · exact .inl (h2.unique fr62).1
  srt := by
    rw [List.pairwise_pair]
    intro dx dy h1 h2
    have := h1.unique ds67
    have := h2.unique ds62
    omega

set_option maxRecDepth 1000000 in
set_option maxHeartbeats 8000000 in
theorem known_any (w : World) (ht : DTab w) :
    Calls Tryd.prog 10 #[] w fun e w' => e = .returned (.bool true) ∧ Below w.heap.size w w' := by
  have HT := Lib.hid ht
  have HS1 := (fun W : World => steps_any exA (some ⟨W.heap.size, 0, none⟩) 5 _ (rd_new W exA (by decide)) (by decide))
  have HS2 := (fun W : World => steps_any exB (some ⟨W.heap.size, 0, none⟩) 13 _ (rd_new W exB (by decide)) (by decide))
  have HS3 := Lib.hid (fun W => refOf_any (some ⟨W.heap.size, 0, none⟩) 2 2 [62, 67] _ rfl (by decide) (by decide) (rd_new W [62, 67] (by decide)))
  simp only [exA_arr, show exA.length = 5 from rfl] at HS1
  simp only [exB_arr, show exB.length = 13 from rfl] at HS2
  replace HS1 := Lib.hid HS1
  replace HS2 := Lib.hid HS2
  obtain ⟨s, hs⟩ : ∃ s, s = setN [62, 67] (0, 0) := ⟨_, rfl⟩
  have hs2 := exS_ok
  have hs3 := exS_list
  have hs4 := exT
  rw [← hs] at HS3 hs2 hs3 hs4
  have HSO := Lib.hid hs2
  have HSL := Lib.hid hs3
  have HST := Lib.hid hs4
  obtain ⟨s1, s2⟩ := s
  obtain ⟨n1, hn1⟩ : ∃ n1, n1 = (stpL exA).length := ⟨_, rfl⟩
  obtain ⟨n2, hn2⟩ : ∃ n2, n2 = (stpL exB).length := ⟨_, rfl⟩
  have HN1 := Lib.hid hn1
  have HN2 := Lib.hid hn2
  have HSZ := Lib.hid (show n2 = 12 by rw [hn2]; decide +kernel)
  have hb0 := bw_new (Below.refl _ w) (.cells #[.int .i64 69, .int .i64 57, .int .i64 64, .int .i64 71, .int .i64 66] 3)
  have HB0 := Lib.hid hb0
  clear hs hs2 hs3 hs4 hb0 ht hn1 hn2
  go_enter Tryd.func10, Tryd.ntmps10
  go_wp2_with fail
  refine (HS1.out _).mono ?_
  rintro e w2 ⟨A1, c1, rfl, hown1, hb2⟩
  rw [← HN1.out] at hown1 ⊢
  have hbW2 := HB0.out.trans (hb2.mono HB0.out.size)
  have hm3 := ((Hp.start w).step hbW2).new 25 [.int .i64 69, .slice A1 n1 c1]
  have ho3 : OArg (w2.alloc (.cells #[.int .i64 69, .slice A1 n1 c1] 25)) (w2.alloc (.cells #[.int .i64 69, .slice A1 n1 c1] 25)).heap.size A1 n1 c1 (stpL exA) := OArg.step ⟨HN1.out.symm, SRd.of_own hown1 (HN1.out), own_cap hown1, own_mxT hown1⟩ (bw_new (Below.refl _ w2) _)
  have HR1 := Lib.hid (reached_any 69 66 A1 n1 c1 (stpL exA) _ ho3)
  have HM3 := Lib.hid hm3
  clear hown1 hb2 hbW2 hm3 ho3
  go_wp2_with fail
  refine HR1.out.mono ?_
  rintro e w4 ⟨rfl, hb4⟩
  rw [exA_way.1, exA_way.2, show wv (3, -2) = .agg #[.int .i64 3, .int .i64 (-2)] from rfl]
  have hm4 := HM3.out.step hb4
  have hm5 := hm4.new 50 [.int .i64 3, .int .i64 (-2)]
  have HM5 := Lib.hid hm5
  clear hb4 hm4 hm5
  go_wp2_with fail
  have hq2 := HS2.out (w4.alloc (.cells #[.int .i64 3, .int .i64 (-2)] 50))
  rw [World.size_alloc] at hq2
  refine hq2.mono ?_
  rintro e w6 ⟨A2, c2, rfl, hown2, hb6⟩
  rw [← HN2.out] at hown2 ⊢
  have hm6 := (HM5.out.step (bw_new (Below.refl _ _) (.cells #[.int .i64 60, .int .i64 67, .int .i64 62, .int .i64 69, .int .i64 64, .int .i64 71, .int .i64 66, .int .i64 61, .int .i64 68, .int .i64 63, .int .i64 70, .int .i64 65, .int .i64 60] 3))).step hb6
  have hm7 := hm6.new 25 [.int .i64 60, .slice A2 n2 c2]
  have ho7 : OArg (w6.alloc (.cells #[.int .i64 60, .slice A2 n2 c2] 25)) (w6.alloc (.cells #[.int .i64 60, .slice A2 n2 c2] 25)).heap.size A2 n2 c2 (stpL exB) := OArg.step ⟨HN2.out.symm, SRd.of_own hown2 (HN2.out), own_cap hown2, own_mxT hown2⟩ (bw_new (Below.refl _ w6) _)
  have HR2 := Lib.hid (drifts_any 60 A2 n2 c2 (stpL exB) _ ho7)
  have HM7 := Lib.hid hm7
  clear hown2 hb6 hm6 hm7 ho7
  go_wp2_with fail
  refine HR2.out.mono ?_
  rintro e w8 ⟨hb8, ⟨hx, _⟩ | ⟨_, GA, gc, rfl, hsr, hgc, hgm⟩⟩
  · exact absurd exB_drift.1 hx
  rw [HSZ.out, exB_drift.2] at hsr hgc ⊢
  obtain ⟨gb, go, rfl, hgb, hgs⟩ := hsr.at_ (by decide)
  have hg0 := hgs 0 (by decide)
  have hm8 := HM7.out.step hb8
  have HM8 := Lib.hid hm8
  have HG0 := Lib.hid hg0
  have HGB := Lib.hid hgb
  clear hb8 hsr hgc hgm hgs hg0 hm8 hgb
  go_wp2_with fail
  refine (HS3.out w8).mono ?_
  rintro e w9 ⟨rfl, hb9⟩
  rw [show nv (s1, s2) = .agg #[.int .u64 (s1 : Int), .int .u64 (s2 : Int)] from rfl]
  have hbn := bw_new (Below.refl w8.heap.size w8) (.cells #[.int .i64 62, .int .i64 67] 3)
  have hm9 := (HM8.out.step hbn).step hb9
  have hm10 := hm9.new 43 [.int .i64 60, .int .u64 (s1 : Int), .int .u64 (s2 : Int), .int .i64 60, .int .i64 72]
  have ht10 : DTab (w9.alloc (.cells #[.int .i64 60, .int .u64 (s1 : Int), .int .u64 (s2 : Int), .int .i64 60, .int .i64 72] 43)) := HT.out.below hm10.below
  have HPL := Lib.hid (plan_any 60 (s1, s2) 60 72 _ HSO.out ht10)
  have hb10 := bw_new (hbn.trans (hb9.mono hbn.size)) (.cells #[.int .i64 60, .int .u64 (s1 : Int), .int .u64 (s2 : Int), .int .i64 60, .int .i64 72] 43)
  have HM10 := Lib.hid hm10
  have HB10 := Lib.hid hb10
  unfold tv at HPL
  clear hb9 hm9 hm10 ht10 hbn hb10
  go_wp2_with fail
  refine HPL.out.mono ?_
  rintro e w11 ⟨hb11, ⟨hx, _⟩ | ⟨_, ⟨⟨n, hn, hno⟩, _⟩ | ⟨_, PA, pc, L, rfl, hpr, hpl, _, hpc, hpm⟩⟩⟩
  · exact absurd HST.out hx
  · exfalso
    rw [HSL.out] at hn
    simp only [List.mem_cons, List.not_mem_nil, or_false] at hn
    rcases hn with rfl | rfl
    · exact hno 2 ds62
    · exact hno 1 ds67
  rw [HSL.out] at hpl
  obtain rfl := hpl.same exP
  obtain ⟨pb, po, rfl, hpb, hps⟩ := hpr.at_ (by decide)
  have hp1 := hps 1 (by decide)
  have hm11 := HM10.out.step hb11
  have hm12 := hm11.new 25 [.int .i64 60, .slice (some ⟨pb, po, none⟩) 2 pc]
  have hb12 := bw_new (HB10.out.trans (hb11.mono HB10.out.size)) (.cells #[.int .i64 60, .slice (some ⟨pb, po, none⟩) 2 pc] 25)
  have hg2 := HG0.out.keep (fun o => hb12.cell (p := ⟨gb, o, none⟩) HGB.out)
  have hp2 := hp1.keep (fun o => (bw_new (Below.refl _ w11) (.cells #[.int .i64 60, .slice (some ⟨pb, po, none⟩) 2 pc] 25)).cell (p := ⟨pb, o, none⟩) hpb)
  have g0 : (w11.alloc (.cells #[.int .i64 60, .slice (some ⟨pb, po, none⟩) 2 pc] 25)).cell? ⟨gb, go, none⟩ = some (.int .i64 12) := hg2.1
  have g1 : (w11.alloc (.cells #[.int .i64 60, .slice (some ⟨pb, po, none⟩) 2 pc] 25)).cell? ⟨gb, go + 1, none⟩ = some (.int .i64 (-7)) := hg2.2
  have p0 : (w11.alloc (.cells #[.int .i64 60, .slice (some ⟨pb, po, none⟩) 2 pc] 25)).cell? ⟨pb, po + 2, none⟩ = some (.int .i64 67) := hp2.1
  have p1 : (w11.alloc (.cells #[.int .i64 60, .slice (some ⟨pb, po, none⟩) 2 pc] 25)).cell? ⟨pb, po + 2 + 1, none⟩ = some (.int .i64 62) := hp2.2
  have y0 : (w11.alloc (.cells #[.int .i64 60, .slice (some ⟨pb, po, none⟩) 2 pc] 25)).cell? ⟨w4.heap.size, 0, none⟩ = some (.int .i64 3) := (hm12.at_ 1 rfl).cell 0
  have y1 : (w11.alloc (.cells #[.int .i64 60, .slice (some ⟨pb, po, none⟩) 2 pc] 25)).cell? ⟨w4.heap.size, 1, none⟩ = some (.int .i64 (-2)) := (hm12.at_ 1 rfl).cell 1
  have HB12 := Lib.hid hm12.below
  clear hb11 hpr hpl hpc hpm hps hp1 hm11 hm12 hb12 hg2 hp2
  go_wp2
  go_ret
  exact ⟨by simp, HB12.out⟩
end Go.Proofs.YtfickhncbahekaaDoor
