/- The laws TunerTasks and TunerPlans. Conditions: the words of the set are of 64 bits, the plan's numbers of 8 and of 16; the library's table reads as its text lays it. -/
import Derived.Test.YtfickhncbahekaaDoorTunAns
import Derived.Test.YtfickhncbahekaaDoorTunMake
import Derived.Test.YtfickhncbahekaaDoorTunKnown
namespace Go.Proofs.YtfickhncbahekaaDoor
open Go.RowKit

set_option maxRecDepth 100000 in
set_option maxHeartbeats 2000000 in
theorem ltasks_any (f : Int) (s : Nat × Nat) (lo hi n : Int) (w : World) (hs : NOk s) (ht : DTab w) :
    Calls Tryd.prog 5 #[tv f s lo hi, .int .i64 n] w fun e w' => e = .returned (.bool true) ∧ Below w.heap.size w w' := by
  have HK := Lib.hid (fun W (h : DTab W) => known_any W h)
  have HAN := Lib.hid (fun W (h : DTab W) => lanswers_any f s lo hi n W hs h)
  obtain ⟨s1, s2⟩ := s
  unfold tv at HAN ⊢
  dsimp only at HAN ⊢
  have hm0 := (Hp.start w).new 43 (tkcs f (s1 : Int) (s2 : Int) lo hi)
  simp only [List.nil_append] at hm0
  have HM0 := Lib.hid hm0
  have HT := Lib.hid (ht.below hm0.below)
  clear hm0 ht hs
  go_enter Tryd.func5, Tryd.ntmps5
  go_wp2_with fail
  refine (HK.out _ HT.out).mono ?_
  rintro e w1 ⟨rfl, hb1⟩
  have HM1 := Lib.hid (HM0.out.step hb1)
  have HT1 := Lib.hid (HT.out.below hb1)
  have k0 : w1.cell? ⟨w.heap.size, 0, none⟩ = some (.int .i64 f) := (HM1.out.at_ 0 rfl).cell 0
  have k1 : w1.cell? ⟨w.heap.size, 1, none⟩ = some (.int .u64 (s1 : Int)) := (HM1.out.at_ 0 rfl).cell 1
  have k2 : w1.cell? ⟨w.heap.size, 2, none⟩ = some (.int .u64 (s2 : Int)) := (HM1.out.at_ 0 rfl).cell 2
  have k3 : w1.cell? ⟨w.heap.size, 3, none⟩ = some (.int .i64 lo) := (HM1.out.at_ 0 rfl).cell 3
  have k4 : w1.cell? ⟨w.heap.size, 4, none⟩ = some (.int .i64 hi) := (HM1.out.at_ 0 rfl).cell 4
  clear hb1
  go_wp2_with fail
  refine (HAN.out _ HT1.out).mono ?_
  rintro e w2 ⟨rfl, hb2⟩
  have HB := Lib.hid (HM1.out.step hb2).below
  clear hb2 k0 k1 k2 k3 k4
  go_wp2
  go_ret
  exact ⟨rfl, HB.out⟩

set_option maxRecDepth 100000 in
set_option maxHeartbeats 2000000 in
theorem lplans_any (a b c d g : Nat) (n : Int) (w : World) (ha : a ≤ 255) (hb : b ≤ 65535) (hc : c ≤ 255) (hd : d ≤ 255) (hg : g ≤ 255) (ht : DTab w) :
    Calls Tryd.prog 4 #[.agg #[.int .u8 (a : Int), .int .u16 (b : Int), .int .u8 (c : Int), .int .u8 (d : Int), .int .u8 (g : Int)], .int .i64 n] w fun e w' => e = .returned (.bool true) ∧ Below w.heap.size w w' := by
  have HK := Lib.hid (fun W (h : DTab W) => known_any W h)
  have HAN := Lib.hid (fun f s lo hi W hs (h : DTab W) => lanswers_any f s lo hi n W hs h)
  have HMK := Lib.hid (fun W => lmake_any a b c d g W ha hb hc hd hg)
  have hm0 := (Hp.start w).new 35 [.int .u8 (a : Int), .int .u16 (b : Int), .int .u8 (c : Int), .int .u8 (d : Int), .int .u8 (g : Int)]
  simp only [List.nil_append] at hm0
  have HM0 := Lib.hid hm0
  have HT := Lib.hid (ht.below hm0.below)
  clear hm0 ht ha hb hc hd hg
  go_enter Tryd.func4, Tryd.ntmps4
  go_wp2_with fail
  refine (HK.out _ HT.out).mono ?_
  rintro e w1 ⟨rfl, hb1⟩
  have HM1 := Lib.hid (HM0.out.step hb1)
  have HT1 := Lib.hid (HT.out.below hb1)
  have k0 : w1.cell? ⟨w.heap.size, 0, none⟩ = some (.int .u8 (a : Int)) := (HM1.out.at_ 0 rfl).cell 0
  have k1 : w1.cell? ⟨w.heap.size, 1, none⟩ = some (.int .u16 (b : Int)) := (HM1.out.at_ 0 rfl).cell 1
  have k2 : w1.cell? ⟨w.heap.size, 2, none⟩ = some (.int .u8 (c : Int)) := (HM1.out.at_ 0 rfl).cell 2
  have k3 : w1.cell? ⟨w.heap.size, 3, none⟩ = some (.int .u8 (d : Int)) := (HM1.out.at_ 0 rfl).cell 3
  have k4 : w1.cell? ⟨w.heap.size, 4, none⟩ = some (.int .u8 (g : Int)) := (HM1.out.at_ 0 rfl).cell 4
  clear hb1
  go_wp2_with fail
  refine (HMK.out _).mono ?_
  rintro e w2 ⟨f, s, lo, hi, hs, _, rfl, hb2⟩
  have HM2 := Lib.hid (HM1.out.step hb2)
  have HT2 := Lib.hid (HT1.out.below hb2)
  have HS := Lib.hid hs
  clear hb2 k0 k1 k2 k3 k4 hs
  go_wp2_with fail
  refine (HAN.out f s lo hi _ HS.out HT2.out).mono ?_
  rintro e w3 ⟨rfl, hb3⟩
  have HB := Lib.hid (HM2.out.step hb3).below
  clear hb3
  go_wp2
  go_ret
  exact ⟨rfl, HB.out⟩
end Go.Proofs.YtfickhncbahekaaDoor
