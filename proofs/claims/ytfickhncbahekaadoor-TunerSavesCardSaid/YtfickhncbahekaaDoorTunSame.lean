/- The law's same: orders compared. Conditions: the steps lie in slices. -/
import Derived.Test.YtfickhncbahekaaDoorTunCalls
namespace Go.Proofs.YtfickhncbahekaaDoor
open Go.RowKit

set_option maxRecDepth 1000000 in
set_option maxHeartbeats 8000000 in
theorem same_any (f1 f2 : Int) (A1 A2 : Option Addr) (n1 n2 c1 c2 : Nat) (L1 L2 : List (Int × Int)) (w : World) (ha : OArg w w.heap.size A1 n1 c1 L1) (hb : OArg w w.heap.size A2 n2 c2 L2) :
    Calls Tryd.prog 35 #[.agg #[.int .i64 f1, .slice A1 n1 c1], .agg #[.int .i64 f2, .slice A2 n2 c2]] w fun e w' => e = .returned (.bool (decide (f1 = f2 ∧ L1 = L2))) ∧ Below w.heap.size w w' := by
  have hm0 := ((Hp.start w).new 25 [.int .i64 f1, .slice A1 n1 c1]).new 25 [.int .i64 f2, .slice A2 n2 c2]
  simp only [World.size_alloc, List.nil_append, List.cons_append] at hm0
  have HM := Lib.hid hm0
  have HA := Lib.hid ha
  have HB := Lib.hid hb
  by_cases hf : f1 = f2
  · by_cases hn : (n1 : Int) = n2
    · have hnn : n1 = n2 := by omega
      subst hf
      subst hnn
      clear hm0 ha hb
      go_enter Tryd.func35, Tryd.ntmps35
      go_wp2_with fail
      go_loopw [5] (fun u wx => ∃ i : Nat, u = .int .i64 (i : Int) ∧ i ≤ n1 ∧ Hp w [(w.heap.size, 25, [.int .i64 f1, .slice A1 n1 c1]), (w.heap.size + 1, 25, [.int .i64 f1, .slice A2 n1 c2])] wx ∧ ∀ k, k < i → L1.getD k (0, 0) = L2.getD k (0, 0)) (fun u _ => n1 - (intOf u).toNat)
      case atStart => exact ⟨0, rfl, by omega, HM.out, fun k hk => absurd hk (by omega)⟩
      case round =>
        obtain ⟨i, rfl, hi, hp, heq⟩ := hrel
        have HP := Lib.hid hp
        have HQ := Lib.hid heq
        have c1' : wr.cell? ⟨w.heap.size, 1, none⟩ = some (.slice A1 n1 c1) := (hp.at_ 0 rfl).cell 1
        have hmx : (n1 : Int) ≤ 9223372036854775807 := by have := HA.out.cp; have := HA.out.mx; unfold maxLen at this; omega
        by_cases hil : i < n1
        · obtain ⟨b1, o1, rfl, hb1, hs1⟩ := HA.out.rd.at_ (by rw [HA.out.len]; omega)
          obtain ⟨b2, o2, rfl, hb2, hs2⟩ := HB.out.rd.at_ (by rw [HB.out.len]; omega)
          have hx := (hs1 i (by rw [HA.out.len]; omega)).keep (fun o => (HP.out.below.cell (p := ⟨b1, o, none⟩) hb1))
          have hy := (hs2 i (by rw [HB.out.len]; omega)).keep (fun o => (HP.out.below.cell (p := ⟨b2, o, none⟩) hb2))
          obtain ⟨x, hxe⟩ : ∃ x, x = L1.getD i (0, 0) := ⟨_, rfl⟩
          obtain ⟨y, hye⟩ : ∃ y, y = L2.getD i (0, 0) := ⟨_, rfl⟩
          rw [← hxe] at hx
          rw [← hye] at hy
          have HX := Lib.hid hxe
          have HY := Lib.hid hye
          obtain ⟨xa, xb⟩ := x
          obtain ⟨ya, yb⟩ := y
          have d0 : wr.drew.cell? ⟨w.heap.size, 1, none⟩ = some (.slice (some ⟨b1, o1, none⟩) n1 c1) := c1'
          have d1 : wr.drew.cell? ⟨w.heap.size + 1, 1, none⟩ = some (.slice (some ⟨b2, o2, none⟩) n1 c2) := (hp.at_ 1 rfl).cell 1
          have x0 : wr.drew.cell? ⟨b1, o1 + i * 2, none⟩ = some (.int .i64 xa) := hx.1
          have x1 : wr.drew.cell? ⟨b1, o1 + i * 2 + 1, none⟩ = some (.int .i64 xb) := hx.2
          have y0 : wr.drew.cell? ⟨b2, o2 + i * 2, none⟩ = some (.int .i64 ya) := hy.1
          have y1 : wr.drew.cell? ⟨b2, o2 + i * 2 + 1, none⟩ = some (.int .i64 yb) := hy.2
          clear hs1 hs2 hx hy hxe hye hp heq
          by_cases hxy : xa = ya ∧ xb = yb
          · obtain ⟨rfl, rfl⟩ := hxy
            go_wp2_with fail
            go_region
            all_goals
              go_wp2
              go_roundw
              case rel => exact ⟨i + 1, by go_num, by omega, HP.out.drew, fun k hk => by
                by_cases q : k = i
                · rw [q, ← HX.out, ← HY.out]
                · exact HQ.out k (by omega)⟩
              case measure => simp [intOf]; omega
          · have HNE := Lib.hid (show L1 ≠ L2 from fun h => hxy (by
              have e1 := HX.out
              rw [h, ← HY.out] at e1
              exact ⟨by injection e1, by injection e1⟩))
            by_cases q : xa = ya
            · subst q
              have q2 : ¬ xb = yb := fun e => hxy ⟨rfl, e⟩
              clear hxy
              go_wp2_with fail
              go_region
              all_goals
                go_wp2
                go_ret
                exact ⟨by simp [HNE.out], HP.out.drew.below⟩
            · clear hxy
              go_wp2_with fail
              go_region
              all_goals
                go_wp2
                go_ret
                exact ⟨by simp [HNE.out], HP.out.drew.below⟩
        · obtain rfl : i = n1 := by omega
          have HE := Lib.hid (show L1 = L2 from List.ext_getElem (by rw [HA.out.len, HB.out.len]) fun k q1 q2 => by
            have := heq k (by rw [← HA.out.len]; exact q1)
            simpa [List.getD, q1, q2] using this)
          clear hp heq
          go_wp2
          go_ret
          exact ⟨by simp [HE.out], HP.out.below⟩
    · subst hf
      have HE := Lib.hid (show decide (f1 = f1 ∧ L1 = L2) = false from decide_eq_false (fun h => hn (by rw [← HA.out.len, ← HB.out.len, h.2])))
      rw [HE.out]
      have hnb : ((n1 : Int) == n2) = false := by simpa using hn
      have hnb2 : ((n1 : Int) != n2) = true := by simpa using hn
      clear hm0 ha hb
      go_enter Tryd.func35, Tryd.ntmps35
      go_wp2
      go_ret
      exact ⟨rfl, HM.out.below⟩
  · have HE := Lib.hid (show decide (f1 = f2 ∧ L1 = L2) = false from decide_eq_false (fun h => hf h.1))
    rw [HE.out]
    have hb0 := HM.out.below
    have HB0 := Lib.hid hb0
    have hnb : (f1 == f2) = false := by simpa using hf
    have hnb2 : (f1 != f2) = true := by simpa using hf
    clear hm0 ha hb hb0
    go_enter Tryd.func35, Tryd.ntmps35
    go_wp2
    go_ret
    exact ⟨rfl, HB0.out⟩
end Go.Proofs.YtfickhncbahekaaDoor
