/- Part 31 of 33 of the proof of the law: contracts of the functions that it reaches, and plain facts. Conditions: those that each contract names. -/
import Derived.Test.YtaegjpancbmppaaGreatDoorTabB21
import Derived.Test.YtaegjpancbmppaaGreatDoorTabB15
import Derived.Test.YtaegjpancbmppaaGreatDoorTabB29
import Derived.Test.YtaegjpancbmppaaGreatDoorTabB28
import Derived.Test.YtaegjpancbmppaaGreatDoorTabB13
import Derived.Test.YtaegjpancbmppaaGreatDoorTabB07
set_option linter.unusedVariables false
set_option linter.unusedSimpArgs false
namespace Go.Proofs.YtaegjpancbmppaaGreatDoor
open Go.RowKit
theorem kn_p : tPr 2 [1, 2, 3] [] = [(1, 1), (2, 2)] := by decide +kernel
theorem kn_l : lsL 2 (mayM [1, 2, 3] []) (onR [1, 2, 3]) = [(1, 1), (2, 2)] := by decide +kernel
theorem kn_a : apL 2 (mayM [1, 2, 3] []) (onR [1, 2, 3]) = [1, 2] := by decide +kernel
theorem kn_s : (lsL 3 (mayM [1, 2, 3, 4, 5, 6] []) (onR [1, 2, 3, 4, 5, 6])).length = 3 := by decide +kernel
theorem kn_c : chkE 2 [1, 2, 3] [] = 0 ∧ smlE 2 [1, 2, 3] [] = 0 ∧ smlE 3 [1, 2, 3, 4, 5, 6] [] = 0 ∧ fmE 2 [(3, 1)] = 0 := by decide +kernel
def knT : Fm := .nd 4 0 [.nd 3 0 [.nd 1 0 [], .nd 2 0 [.nd 1 1 []]]]
theorem kn_f : [((3, 1) : Int × Int)].map (prodT (2 : Int).toNat) = knT.l := by
 show [prodT 2 (3, 1)] = [Fm.nd 3 0 [.nd 1 0 [], .nd 2 0 [.nd 1 1 []]]]
 unfold prodT
 rw [show ((3, 1) : Int × Int).1.toNat = 3 from rfl, show ((3, 1) : Int × Int).2.toNat = 1 from rfl]
 have : litsT 3 1 2 = [litT 1 0, litT 1 1] := by
  unfold litsT
  rw [show ((List.range 2).filter fun x => Nat.testBit 3 x) = [0, 1] by decide]; rfl
 rw [this]
 simp [litT, show Nat.testBit 1 1 = false by decide]
theorem kn_nodes : knT.nodes = [(4, 0, 1), (3, 0, 2), (1, 0, 0), (2, 0, 1), (1, 1, 0)] := by simp [knT, Fm.nodes, nodesL]
theorem kn_size : knT.size = 5 := by rw [← Fm.nodes_len, kn_nodes]; rfl
theorem kn_depth : knT.depth ≤ 100 := by simp [knT, Fm.depth, depthL]
theorem kn_node : knT.all nodeOK := fun x hx => by
 rw [kn_nodes] at hx
 simp only [List.mem_cons, List.not_mem_nil, or_false] at hx
 rcases hx with rfl | rfl | rfl | rfl | rfl <;> simp [nodeOK]
theorem kn_wr : knT.all wrOK := fun x hx => by
 rw [kn_nodes] at hx
 simp only [List.mem_cons, List.not_mem_nil, or_false] at hx
 rcases hx with rfl | rfl | rfl | rfl | rfl <;> simp [wrOK]
theorem kn_txt : knT.txt = [124, 40, 38, 40, 120, 48, 32, 33, 120, 49, 41, 41] := by
 have h0 : Lib.decDigits 0 = [48] := by rw [Lib.decDigits_one (by decide)]; rfl
 have h1 : Lib.decDigits 1 = [49] := by rw [Lib.decDigits_one (by decide)]; rfl
 simp [knT, Fm.txt, txtR, h0, h1]
theorem own_cells {W : World} {base n c sz : Nat} {t : TypeId} {A : Option Addr} {cs : List Value} (h : W.ownsRow base t sz (.slice A n c) n cs) (hn : 0 < n) :
  ∃ g, A = some ⟨g, 0, none⟩ ∧ g < W.heap.size ∧ ∀ j, j < n * sz → W.cell? ⟨g, j, none⟩ = cs[j]? := by
 rcases h.2 with ⟨hv, h0⟩ | ⟨g, cap, cur, hv, hb, hg, hnc, hmx, hs, ht⟩
 ·omega
 ·injection hv with e1 e2 e3
  subst e1
  refine ⟨g, rfl, (Array.getElem?_eq_some_iff.1 hg).1, fun j hj => ?_⟩
  have h2 : (cur.toList.take (n * sz))[j]? = cs[j]? := by rw [ht]
  rw [List.getElem?_take, if_pos hj] at h2
  rw [cell_of_row W g _ cur _ (0, 0) hg, ← Array.getElem?_toList, h2]
theorem tab_at {W : World} {g n : Nat} {L : List Int} (h : Blk W g 3 (L.map (Value.int .i64))) (hn : n = L.length) (h1 : n ≤ 1000) : TabAt W W.heap.size (some ⟨g, 0, none⟩) none n 0 L [] :=
 ⟨Blk.rd (enc := iz) h, fun h => absurd h (by simp), hn, rfl, h1, by decide⟩
def KnPost (W : World) (e : Ending) (W' : World) : Prop := e = .returned (.bool true) ∧ Below W.heap.size W W'
set_option maxRecDepth 1000000 in
set_option maxHeartbeats 8000000 in
theorem iknown_any (W : World) : Calls Tryz.prog 12 #[] W (KnPost W) := by
 go_enter Tryz.func12, Tryz.ntmps12
 have h0 : Blk ((W.alloc (.cells #[.int .i64 1, .int .i64 2, .int .i64 3] 3)).alloc (.cells #[.int .i64 2, .slice (some ⟨W.heap.size, 0, none⟩) 3 3, .slice none 0 0] 26)) W.heap.size 3 (([1, 2, 3] : List Int).map (Value.int .i64)) :=
  Blk.alloc (show Blk (W.alloc (.cells #[.int .i64 1, .int .i64 2, .int .i64 3] 3)) W.heap.size 3 (([1, 2, 3] : List Int).map (Value.int .i64)) from heap_alloc_new W _) _
 have h1 : Blk ((W.alloc (.cells #[.int .i64 1, .int .i64 2, .int .i64 3] 3)).alloc (.cells #[.int .i64 2, .slice (some ⟨W.heap.size, 0, none⟩) 3 3, .slice none 0 0] 26)) (W.heap.size + 1) 26 [.int .i64 2, .slice (some ⟨W.heap.size, 0, none⟩) 3 3, .slice none 0 0] := by
  have := heap_alloc_new (W.alloc (.cells #[.int .i64 1, .int .i64 2, .int .i64 3] 3)) (.cells #[.int .i64 2, .slice (some ⟨W.heap.size, 0, none⟩) 3 3, .slice none 0 0] 26)
  rwa [show (W.alloc (.cells #[.int .i64 1, .int .i64 2, .int .i64 3] 3)).heap.size = W.heap.size + 1 by simp] at this
 have hb0 : Below W.heap.size W ((W.alloc (.cells #[.int .i64 1, .int .i64 2, .int .i64 3] 3)).alloc (.cells #[.int .i64 2, .slice (some ⟨W.heap.size, 0, none⟩) 3 3, .slice none 0 0] 26)) := bw_new (bw_new (Below.refl _ _) _) _
 have hp := iPrimes_ok (some ⟨W.heap.size, 0, none⟩) none 3 0 3 0 2 [1, 2, 3] [] _ (tab_at h0 rfl (by decide)) kn_c.1
 rw [kn_p] at hp
 have HP := Lib.hid hp
 have H0 := Lib.hid h0
 have H1 := Lib.hid h1
 have HB := Lib.hid hb0
 clear hp h0 h1 hb0
 go_wp2_with fail
 refine HP.out.mono ?_
 rintro e W1 ⟨A1, c1, rfl, hr1, hb1⟩
 have H01 := Lib.hid ((hb1.block _ H0.out.lt).trans H0.out)
 have H11 := Lib.hid ((hb1.block _ H1.out.lt).trans H1.out)
 have HB1 := Lib.hid (HB.out.trans (hb1.mono HB.out.size))
 obtain ⟨g1, rfl, hg1, hc1⟩ := own_cells hr1 (by decide)
 have p2 : W1.cell? ⟨g1, 2, none⟩ = some (.int .i64 2) := hc1 2 (by decide)
 have p3 : W1.cell? ⟨g1, 3, none⟩ = some (.int .i64 2) := hc1 3 (by decide)
 have HG1 := Lib.hid (And.intro hg1 (And.intro p2 p3))
 clear hr1 hb1 hg1 hc1 p2 p3
 have t0 : W1.cell? ⟨W.heap.size + 1, 0, none⟩ = some (.int .i64 2) := Blk.cell H11.out 0
 have t1 : W1.cell? ⟨W.heap.size + 1, 1, none⟩ = some (.slice (some ⟨W.heap.size, 0, none⟩) 3 3) := Blk.cell H11.out 1
 have t2 : W1.cell? ⟨W.heap.size + 1, 2, none⟩ = some (.slice none 0 0) := Blk.cell H11.out 2
 have hl := iLeast_ok (some ⟨W.heap.size, 0, none⟩) none 3 0 3 0 2 [1, 2, 3] [] W1 (tab_at H01.out rfl (by decide)) kn_c.2.1
 rw [kn_l] at hl
 have HL := Lib.hid hl
 clear hl
 go_wp2_with fail
 refine HL.out.mono ?_
 rintro e W2 ⟨A2, c2, rfl, -, hb2⟩
 have H02 := Lib.hid ((hb2.block _ (Blk.lt H01.out)).trans H01.out)
 have H12 := Lib.hid ((hb2.block _ (Blk.lt H11.out)).trans H11.out)
 have HB2 := Lib.hid (HB1.out.trans (hb2.mono HB1.out.size))
 have HC2 := Lib.hid hb2
 clear hb2 t0 t1 t2
 have t0 : W2.cell? ⟨W.heap.size + 1, 0, none⟩ = some (.int .i64 2) := Blk.cell H12.out 0
 have t1 : W2.cell? ⟨W.heap.size + 1, 1, none⟩ = some (.slice (some ⟨W.heap.size, 0, none⟩) 3 3) := Blk.cell H12.out 1
 have t2 : W2.cell? ⟨W.heap.size + 1, 2, none⟩ = some (.slice none 0 0) := Blk.cell H12.out 2
 have ha := iApart_ok (some ⟨W.heap.size, 0, none⟩) none 3 0 3 0 2 [1, 2, 3] [] W2 (tab_at H02.out rfl (by decide)) kn_c.2.1 (by decide) (by decide)
 rw [kn_a] at ha
 have HA := Lib.hid ha
 clear ha
 go_wp2_with fail
 refine HA.out.mono ?_
 rintro e W3 ⟨A3, c3, rfl, hr3, hb3⟩
 have HB3 := Lib.hid (HB2.out.trans (hb3.mono HB2.out.size))
 have HC3 := Lib.hid (HC2.out.trans (hb3.mono HC2.out.size))
 obtain ⟨g3, o3, rfl, hg3, hc3⟩ := hr3 (by decide)
 have HG3 := Lib.hid (And.intro hg3 (show W3.cell? ⟨g3, o3 + 1, none⟩ = some (.int .i64 2) from hc3 1 (by decide)))
 clear hr3 hb3 hg3 hc3 t0 t1 t2
 have hs := iLeast_ok (some ⟨W3.heap.size, 0, none⟩) none 6 0 6 0 3 [1, 2, 3, 4, 5, 6] [] (W3.alloc (.cells #[.int .i64 1, .int .i64 2, .int .i64 3, .int .i64 4, .int .i64 5, .int .i64 6] 3)) (tab_at (heap_alloc_new W3 _) rfl (by decide)) kn_c.2.2.1
 rw [kn_s] at hs
 have HS := Lib.hid hs
 have HN3 := Lib.hid (bw_new (Below.refl W3.heap.size W3) (.cells #[.int .i64 1, .int .i64 2, .int .i64 3, .int .i64 4, .int .i64 5, .int .i64 6] 3))
 clear hs
 go_wp2_with fail
 refine HS.out.mono ?_
 rintro e W4 ⟨A4, c4, rfl, -, hb4⟩
 have HD4 := Lib.hid (HN3.out.trans (hb4.mono HN3.out.size))
 clear hb4
 have hcq : CqRd (W4.alloc (.cells #[.int .i64 3, .int .i64 1] 37)) (W4.alloc (.cells #[.int .i64 3, .int .i64 1] 37)).heap.size (some ⟨W4.heap.size, 0, none⟩) [(3, 1)] := fun _ => by
  have hn : Blk (W4.alloc (.cells #[.int .i64 3, .int .i64 1] 37)) W4.heap.size 37 [.int .i64 3, .int .i64 1] := heap_alloc_new W4 _
  refine ⟨W4.heap.size, 0, rfl, hn.lt, fun i hi => ?_⟩
  obtain rfl : i = 0 := by simp only [List.length_singleton] at hi; omega
  exact ⟨hn.cell 0, hn.cell 1⟩
 have hf := iFormula_any (some ⟨W4.heap.size, 0, none⟩) 1 1 2 [(3, 1)] _ (by decide) hcq rfl (by decide) (by intro x hx; rw [List.mem_singleton] at hx; subst hx; decide)
 have HF := Lib.hid hf
 have HN4 := Lib.hid (bw_new (Below.refl W4.heap.size W4) (.cells #[.int .i64 3, .int .i64 1] 37))
 clear hf hcq
 go_wp2_with fail
 refine HF.out.mono ?_
 rintro e W5 (⟨hne, -⟩ | ⟨-, A5, c5, rfl, -, hfs, hb5⟩)
 ·exact absurd kn_c.2.2.2 hne
 rw [show ([((3, 1) : Int × Int)].length) = 1 from rfl]
 have HD5 := Lib.hid (HD4.out.trans ((HN4.out.trans (hb5.mono HN4.out.size)).mono HD4.out.size))
 have hfs2 : FsR W5 (lowB W5.heap.size) A5 knT.l := by
  have := hfs.mono (S' := lowB W5.heap.size) (fun b hb => hb.2)
  rw [show (((2 : Nat) : Int)) = (2 : Int) from rfl, kn_f] at this
  exact this
 have hnew := bw_new (Below.refl W5.heap.size W5) (.cells #[.int .i64 4, .int .i64 0, .slice A5 1 c5] 53)
 have ht := iText_any knT A5 c5 (W5.alloc (.cells #[.int .i64 4, .int .i64 0, .slice A5 1 c5] 53)) (by rw [kn_size]; decide) kn_depth kn_node kn_wr (hfs2.step hnew)
 rw [kn_txt] at ht
 have HT := Lib.hid (show Calls Tryz.prog 40 #[.agg #[.int .i64 4, .int .i64 0, .slice A5 1 c5]] (W5.alloc (.cells #[.int .i64 4, .int .i64 0, .slice A5 1 c5] 53)) _ from ht)
 have HN5 := Lib.hid hnew
 clear hfs hb5 hfs2 hnew ht
 go_wp2_with fail
 refine HT.out.mono ?_
 rintro e W6 ⟨rfl, hb6⟩
 have HD6 := Lib.hid (HD5.out.trans ((HN5.out.trans (hb6.mono HN5.out.size)).mono HD5.out.size))
 have HB6 := Lib.hid (HB3.out.trans (HD6.out.mono HB3.out.size))
 have p2 : W6.cell? ⟨g1, 2, none⟩ = some (.int .i64 2) := by
  rw [HD6.out.cell (p := ⟨g1, 2, none⟩) (Nat.lt_of_lt_of_le HG1.out.1 HC3.out.size), HC3.out.cell (p := ⟨g1, 2, none⟩) HG1.out.1]; exact HG1.out.2.1
 have p3 : W6.cell? ⟨g1, 3, none⟩ = some (.int .i64 2) := by
  rw [HD6.out.cell (p := ⟨g1, 3, none⟩) (Nat.lt_of_lt_of_le HG1.out.1 HC3.out.size), HC3.out.cell (p := ⟨g1, 3, none⟩) HG1.out.1]; exact HG1.out.2.2
 have p4 : W6.cell? ⟨g3, o3 + 1, none⟩ = some (.int .i64 2) := by
  rw [HD6.out.cell (p := ⟨g3, o3 + 1, none⟩) HG3.out.1]; exact HG3.out.2
 clear hb6
 go_wp2_with fail
 go_ret
 exact ⟨rfl, HB6.out⟩
def pfR (c v r : Nat) : List Nat := (List.range r).filter fun x => x &&& c == v
def LwPost (W : World) (e : Ending) (W' : World) : Prop := e = .returned (.bool true) ∧ Below W.heap.size W W'
end Go.Proofs.YtaegjpancbmppaaGreatDoor
