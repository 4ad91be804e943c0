/- The set of a plan of a set: some right set. Conditions: the plan's numbers are of 8 and of 16 bits. -/
import Derived.Test.YtfickhncbahekaaDoorNsetC
import Derived.Test.YtfickhncbahekaaDoorTunReg
import Derived.IntWalk
namespace Go.Proofs.YtfickhncbahekaaDoor
open Go.RowKit

set_option maxRecDepth 100000 in
set_option maxHeartbeats 4000000 in
theorem mk03_any (a b : Nat) (w : World) (ha : a ≤ 255) (hb : b ≤ 65535) :
    Calls Tryd.prog 38 #[.agg #[.int .u8 (a : Int), .int .u16 (b : Int)]] w fun e w' => ∃ s, NOk s ∧ e = .returned (nv s) ∧ Below w.heap.size w w' := by
  have HW := Lib.hid (fun (s : Nat × Nat) n W hs hn => refWith_any s n W hs hn)
  have hm0 := (((Hp.start w).new 33 [.int .u8 (a : Int), .int .u16 (b : Int)]).new 39 [.int .u64 0, .int .u64 0]).new 39 [.int .u64 0, .int .u64 0]
  simp only [World.size_alloc, List.nil_append, List.cons_append] at hm0
  have HM := Lib.hid hm0
  clear hm0
  go_enter Tryd.func38, Tryd.ntmps38
  go_wp2_with fail
  go_loopw [4] (fun u wx => ∃ (i : Nat) (s : Nat × Nat), u = .int .i64 (i : Int) ∧ i ≤ 16 ∧ NOk s ∧ Hp w [(w.heap.size, 33, [.int .u8 (a : Int), .int .u16 (b : Int)]), (w.heap.size + 1, 39, [.int .u64 0, .int .u64 0]), (w.heap.size + 2, 39, [.int .u64 (s.1 : Int), .int .u64 (s.2 : Int)])] wx) (fun u _ => 16 - (intOf u).toNat)
  case atStart => exact ⟨0, (0, 0), rfl, by omega, ⟨by decide, by decide⟩, HM.out⟩
  case round =>
    obtain ⟨i, s, rfl, hi, hs, hp⟩ := hrel
    obtain ⟨s1, s2⟩ := s
    dsimp only at hp
    have HP := Lib.hid hp
    have HS := Lib.hid hs
    have c0 : wr.cell? ⟨w.heap.size, 0, none⟩ = some (.int .u8 (a : Int)) := (hp.at_ 0 rfl).cell 0
    have c1 : wr.cell? ⟨w.heap.size, 1, none⟩ = some (.int .u16 (b : Int)) := (hp.at_ 0 rfl).cell 1
    have d0 : wr.cell? ⟨w.heap.size + 2, 0, none⟩ = some (.int .u64 (s1 : Int)) := (hp.at_ 2 rfl).cell 0
    have d1 : wr.cell? ⟨w.heap.size + 2, 1, none⟩ = some (.int .u64 (s2 : Int)) := (hp.at_ 2 rfl).cell 1
    have e0 : wr.cell? ⟨w.heap.size + 1, 0, none⟩ = some (.int .u64 0) := (hp.at_ 1 rfl).cell 0
    have e1 : wr.cell? ⟨w.heap.size + 1, 1, none⟩ = some (.int .u64 0) := (hp.at_ 1 rfl).cell 1
    have f0 := (hp.at_ 1 rfl).frozen 0
    have f1 := (hp.at_ 1 rfl).frozen 1
    clear hp hs
    by_cases hi2 : i < 16
    · cases hc : (Go.bits .and .u16 ((b : Int) / 2 ^ i) 1 == 1)
      · go_wp2
        go_roundw
        case rel => exact ⟨i + 1, (s1, s2), by go_num, by omega, HS.out, HP.out⟩
        case measure => simp [intOf]; omega
      · by_cases hl : (a : Int) % 128 + i ≤ 127
        · have HWW := Lib.hid (HW.out (s1, s2) (a % 128 + i) wr HS.out (by omega))
          unfold nv at HWW
          dsimp only at HWW
          rw [show ((a % 128 + i : Nat) : Int) = (a : Int) % 128 + i by omega] at HWW
          have HO := Lib.hid (withN_ok HS.out (n := a % 128 + i) (by omega))
          clear e0 e1 f0 f1
          go_wp2_with fail
          refine HWW.out.mono ?_
          rintro e w2 ⟨rfl, hb2⟩
          obtain ⟨t, ht⟩ : ∃ t, t = withN (s1, s2) (a % 128 + i) := ⟨_, rfl⟩
          rw [← ht] at HO ⊢
          obtain ⟨t1, t2⟩ := t
          have hp2 := HP.out.step hb2
          have d0' : w2.cell? ⟨w.heap.size + 2, 0, none⟩ = some (.int .u64 (s1 : Int)) := (hp2.at_ 2 rfl).cell 0
          have d1' : w2.cell? ⟨w.heap.size + 2, 1, none⟩ = some (.int .u64 (s2 : Int)) := (hp2.at_ 2 rfl).cell 1
          have g0 := (hp2.at_ 2 rfl).frozen 0
          have g1 := (hp2.at_ 2 rfl).frozen 1
          have hp3 := hp2.put2 2 rfl (.int .u64 (t1 : Int)) (.int .u64 (t2 : Int))
          simp only [List.set_cons_succ, List.set_cons_zero] at hp3
          have HP3 := Lib.hid hp3
          clear c0 c1 d0 d1 hb2 ht hp2 hp3
          go_wp2
          go_roundw
          case rel => exact ⟨i + 1, (t1, t2), by go_num, by omega, HO.out, HP3.out⟩
          case measure => simp [intOf]; omega
        · go_wp2
          go_roundw
          case rel => exact ⟨i + 1, (s1, s2), by go_num, by omega, HS.out, HP.out⟩
          case measure => simp [intOf]; omega
    · obtain rfl : i = 16 := by omega
      have HP2 := Lib.hid (HP.out.put2 1 rfl (.int .u64 (s1 : Int)) (.int .u64 (s2 : Int)))
      go_wp2
      refine bodyPost_ret (v := nv (s1, s2)) (by simp [results, Tryd.results38, go_sem, nv, e0, e1, f0, f1]) rfl ⟨(s1, s2), HS.out, rfl, HP2.out.below⟩
end Go.Proofs.YtfickhncbahekaaDoor
