/- Law IntervalMakes: the walk. Conditions: ints; the library's table of powers of ten reads as its text lays it. Printed by genmakes.py. -/
import Derived.Test.YtplonkeipdbchaaDoorIvTwo
import Derived.Test.YtplonkeipdbchaaDoorLaw05
import Derived.Test.YtplonkeipdbchaaDoorRegE
namespace Go.Proofs.YtplonkeipdbchaaDoor
open Go.RowKit

theorem run_max_int4 (ts : Array TypeId) (t : TypeId) (x y z u : Int) : ∃ m, (∀ w, (Builtin.max_ ts t #[.int .i64 x, .int .i64 y, .int .i64 z, .int .i64 u]).run Tryd.prog w = .ok (.int .i64 m) w) ∧ x ≤ m ∧ z ≤ m := by
  refine ⟨if u > (if z > (if y > x then y else x) then z else (if y > x then y else x)) then u else (if z > (if y > x then y else x) then z else (if y > x then y else x)), fun w => ?_, ?_, ?_⟩
  · simp [Builtin.max_, Builtin.max2]
  · repeat (first | omega | split)
  · repeat (first | omega | split)
/-- What the law's first loop carries. -/
def MaRel (w : World) (x0 x1 x2 r0 r1 : Int) (i : Value) (W : World) : Prop :=
  ∃ k : Nat, k ≤ 3 ∧ i = .int .i64 (k : Int) ∧ ((0 < k → -100000 ≤ x0 ∧ x0 ≤ 100000) ∧ (1 < k → -100000 ≤ x1 ∧ x1 ≤ 100000) ∧ (2 < k → -100000 ≤ x2 ∧ x2 ≤ 100000)) ∧ Hp w [(w.heap.size, 22, [.int .i64 x0, .int .i64 x1, .int .i64 x2]), (w.heap.size + 1, 23, [.int .i64 r0, .int .i64 r1])] W

set_option maxRecDepth 100000 in
set_option maxHeartbeats 16000000 in
theorem lmakes_any (x0 x1 x2 r0 r1 : Int) (name : ByteArray) (w : World) (ht : Tab w) (hr0 : I64 r0) (hr1 : I64 r1) :
    Calls Tryd.prog 3 #[.agg #[.int .i64 x0, .int .i64 x1, .int .i64 x2], .agg #[.int .i64 r0, .int .i64 r1], .string name] w fun e w' => e = .returned (.bool true) ∧ Below w.heap.size w w' := by
  have hM0 : Hp w [(w.heap.size, 22, [.int .i64 x0, .int .i64 x1, .int .i64 x2]), (w.heap.size + 1, 23, [.int .i64 r0, .int .i64 r1])] ((w.alloc (.cells #[.int .i64 x0, .int .i64 x1, .int .i64 x2] 22)).alloc (.cells #[.int .i64 r0, .int .i64 r1] 23)) := by
    have h := ((Hp.start w).new 22 [.int .i64 x0, .int .i64 x1, .int .i64 x2]).new 23 [.int .i64 r0, .int .i64 r1]
    simp only [World.size_alloc] at h
    exact h
  have HM0 := Lib.hid hM0
  have HT := Lib.hid ht
  clear hM0 ht
  by_cases hlen : 40 < name.size
  · go_enter Tryd.func3, Tryd.ntmps3
    go_wp2_with fail
    refine (lknown_any _ (HT.out.below HM0.out.below)).mono ?_
    rintro e w1 ⟨rfl, hb⟩
    have HM1 := Lib.hid (HM0.out.step hb)
    clear hb HM0
    go_wp2_with fail
    refine (lknown_any _ (HT.out.below HM1.out.below)).mono ?_
    rintro e w2 ⟨rfl, hb⟩
    have HM2 := Lib.hid (HM1.out.step hb)
    clear hb HM1
    go_wp2
    go_ret
    exact ⟨rfl, HM2.out.below⟩
  · have hlen2 : (name.size : Int) ≤ 40 := by omega
    clear hlen
    go_enter Tryd.func3, Tryd.ntmps3
    go_wp2_with fail
    refine (lknown_any _ (HT.out.below HM0.out.below)).mono ?_
    rintro e w1 ⟨rfl, hb⟩
    have HM1 := Lib.hid (HM0.out.step hb)
    clear hb HM0
    go_wp2_with fail
    go_loopw [7] (fun i wx => MaRel w x0 x1 x2 r0 r1 i wx) (fun i _ => 3 - (intOf i).toNat)
    case atStart => exact ⟨0, by omega, rfl, ⟨fun h => absurd h (by decide), fun h => absurd h (by decide), fun h => absurd h (by decide)⟩, HM1.out⟩
    case round =>
      clear HM1
      obtain ⟨k, hk, rfl, hg, hm⟩ := hrel
      have HM := Lib.hid hm
      have HG := Lib.hid hg
      clear hm hg
      obtain ⟨u0, u1, u2⟩ := three_of (HM.out.at_ 0 rfl)
      by_cases hlt : k < 3
      · rcases (show k = 0 ∨ k = 1 ∨ k = 2 by omega) with rfl | rfl | rfl
        · by_cases hb2 : x0 ≤ 100000
          · by_cases hb1 : -100000 ≤ x0
            · have HRL := Lib.hid (show MaRel w x0 x1 x2 r0 r1 (.int .i64 ((0 + 1 : Nat) : Int)) wr from ⟨0 + 1, by omega, rfl, ⟨fun _ => ⟨hb1, hb2⟩, fun h => absurd h (by decide), fun h => absurd h (by decide)⟩, HM.out⟩)
              go_wp2
              go_roundw
              case rel => first | exact HRL.out | ((repeat apply Exists.intro); exact ⟨HRL.out, rfl⟩)
              case measure => simp [intOf]
            · have hb3 : x0 < -100000 := by omega
              clear hb1
              go_wp2
              go_ret
              exact ⟨rfl, HM.out.below⟩
          · have hb3 : 100000 < x0 := by omega
            clear hb2
            go_wp2
            go_ret
            exact ⟨rfl, HM.out.below⟩
        · by_cases hb2 : x1 ≤ 100000
          · by_cases hb1 : -100000 ≤ x1
            · have HRL := Lib.hid (show MaRel w x0 x1 x2 r0 r1 (.int .i64 ((1 + 1 : Nat) : Int)) wr from ⟨1 + 1, by omega, rfl, ⟨fun _ => HG.out.1 (by decide), fun _ => ⟨hb1, hb2⟩, fun h => absurd h (by decide)⟩, HM.out⟩)
              go_wp2
              go_roundw
              case rel => first | exact HRL.out | ((repeat apply Exists.intro); exact ⟨HRL.out, rfl⟩)
              case measure => simp [intOf]
            · have hb3 : x1 < -100000 := by omega
              clear hb1
              go_wp2
              go_ret
              exact ⟨rfl, HM.out.below⟩
          · have hb3 : 100000 < x1 := by omega
            clear hb2
            go_wp2
            go_ret
            exact ⟨rfl, HM.out.below⟩
        · by_cases hb2 : x2 ≤ 100000
          · by_cases hb1 : -100000 ≤ x2
            · have HRL := Lib.hid (show MaRel w x0 x1 x2 r0 r1 (.int .i64 ((2 + 1 : Nat) : Int)) wr from ⟨2 + 1, by omega, rfl, ⟨fun _ => HG.out.1 (by decide), fun _ => HG.out.2.1 (by decide), fun _ => ⟨hb1, hb2⟩⟩, HM.out⟩)
              go_wp2
              go_roundw
              case rel => first | exact HRL.out | ((repeat apply Exists.intro); exact ⟨HRL.out, rfl⟩)
              case measure => simp [intOf]
            · have hb3 : x2 < -100000 := by omega
              clear hb1
              go_wp2
              go_ret
              exact ⟨rfl, HM.out.below⟩
          · have hb3 : 100000 < x2 := by omega
            clear hb2
            go_wp2
            go_ret
            exact ⟨rfl, HM.out.below⟩
      · obtain rfl : k = 3 := by omega
        obtain ⟨x00, x01⟩ := HG.out.1 (by decide)
        obtain ⟨x10, x11⟩ := HG.out.2.1 (by decide)
        obtain ⟨x20, x21⟩ := HG.out.2.2 (by decide)
        have hof := fun W => iof_any x0 x1 x2 W ⟨by omega, by omega⟩ ⟨by omega, by omega⟩ ⟨by omega, by omega⟩
        have hri := fun W => lright_any x0 x1 x2 1 W ⟨by omega, by omega⟩ ⟨by omega, by omega⟩ ⟨by omega, by omega⟩ (by omega) (by omega)
        rw [(low_one x0).1, (low_one x0).2, (low_one x1).1, (low_one x1).2, (low_one x2).1, (low_one x2).2] at hri
        obtain ⟨s0, s1, s2, s3, s4, s5, q, hrr⟩ : ∃ s0 s1 s2 s3 s4 s5 q, ivR x0 1 x1 1 x2 1 = .tuple #[szv s0 s1 s2 s3 s4 s5, .int .i64 q] := by
          unfold ivR; split
          · exact ⟨_, _, _, _, _, _, _, rfl⟩
          · exact ⟨_, _, _, _, _, _, _, rfl⟩
        rw [hrr] at hof hri
        have HOF := Lib.hid hof
        have HRI := Lib.hid hri
        clear hof hri hrr HG x00 x01 x10 x11 x20 x21 hlt hk
        have hneq := fun W => neq_size W s0 s1 s2 s3 s4 s5 s0 s1 s2 s3 s4 s5
        simp only [szB_self, Bool.not_true] at hneq
        go_wp2_with fail
        refine (HOF.out _).mono ?_
        rintro e w2 ⟨rfl, hb⟩
        have HM2 := Lib.hid (show Hp w [(w.heap.size, 22, [.int .i64 x0, .int .i64 x1, .int .i64 x2]), (w.heap.size + 1, 23, [.int .i64 r0, .int .i64 r1]), (w2.heap.size, 28, [.int .i64 s0, .int .i64 s1, .int .i64 s2, .int .i64 s3, .int .i64 s4, .int .i64 s5])] _ from (HM.out.step hb).new 28 [.int .i64 s0, .int .i64 s1, .int .i64 s2, .int .i64 s3, .int .i64 s4, .int .i64 s5])
        obtain ⟨u0, u1, u2⟩ := three_of ((HM.out.step hb).at_ 0 rfl)
        have hlt : w.heap.size < w2.heap.size := ((HM.out.step hb).at_ 0 rfl).lt
        clear hb HM
        go_wp2_with fail
        refine (HRI.out _).mono ?_
        rintro e w3 ⟨rfl, hb⟩
        have HM3 := Lib.hid (show Hp w [(w.heap.size, 22, [.int .i64 x0, .int .i64 x1, .int .i64 x2]), (w.heap.size + 1, 23, [.int .i64 r0, .int .i64 r1]), (w2.heap.size, 28, [.int .i64 s0, .int .i64 s1, .int .i64 s2, .int .i64 s3, .int .i64 s4, .int .i64 s5]), (w3.heap.size, 28, [.int .i64 s0, .int .i64 s1, .int .i64 s2, .int .i64 s3, .int .i64 s4, .int .i64 s5])] _ from (HM2.out.step hb).new 28 [.int .i64 s0, .int .i64 s1, .int .i64 s2, .int .i64 s3, .int .i64 s4, .int .i64 s5])
        obtain ⟨v0, v1, v2, v3, v4, v5⟩ := six_of ((HM2.out.step hb).at_ 2 rfl)
        have hlt3 : w2.heap.size < w3.heap.size := ((HM2.out.step hb).at_ 2 rfl).lt
        clear hb HM2 u0 u1 u2 hlt
        have HM4 := Lib.hid (HM3.out.sub (L' := [(w.heap.size, 22, [.int .i64 x0, .int .i64 x1, .int .i64 x2]), (w.heap.size + 1, 23, [.int .i64 r0, .int .i64 r1])]) (by simp))
        go_wp2_with fail
        clear v0 v1 v2 v3 v4 v5 hlt3 HM3 HOF HRI hneq
        rcases named_two name with ⟨hA, hB⟩ | ⟨x, y, z, ⟨⟨bx0, bx1⟩, ⟨by0, by1⟩, bz0, bz1⟩, hA, hB⟩
        · have HA := Lib.hid hA
          have HB := Lib.hid hB
          clear hA hB
          refine (HA.out _).mono ?_
          rintro e w4 ⟨rfl, hb⟩
          have HM5 := Lib.hid (show Hp w [(w.heap.size, 22, [.int .i64 x0, .int .i64 x1, .int .i64 x2]), (w.heap.size + 1, 23, [.int .i64 r0, .int .i64 r1]), (w4.heap.size, 28, [.int .i64 0, .int .i64 0, .int .i64 0, .int .i64 0, .int .i64 0, .int .i64 0])] _ from (HM4.out.step hb).new 28 [.int .i64 0, .int .i64 0, .int .i64 0, .int .i64 0, .int .i64 0, .int .i64 0])
          clear hb HM4
          go_wp2_with fail
          refine (HB.out _).mono ?_
          rintro e w5 ⟨rfl, hb⟩
          have HM6 := Lib.hid (show Hp w [(w.heap.size, 22, [.int .i64 x0, .int .i64 x1, .int .i64 x2]), (w.heap.size + 1, 23, [.int .i64 r0, .int .i64 r1]), (w4.heap.size, 28, [.int .i64 0, .int .i64 0, .int .i64 0, .int .i64 0, .int .i64 0, .int .i64 0]), (w5.heap.size, 34, [.int .i64 0, .int .i64 0, .int .i64 0, .int .i64 0])] _ from (HM5.out.step hb).new 34 [.int .i64 0, .int .i64 0, .int .i64 0, .int .i64 0])
          clear hb HM5 HA HB
          go_upto_region 14 with fail
          obtain ⟨W6, hW6⟩ : ∃ W6, W6 = w5.alloc (.cells #[.int .i64 0, .int .i64 0, .int .i64 0, .int .i64 0] 34) := ⟨_, rfl⟩
          rw [← hW6] at HM6 ⊢
          clear hW6
          obtain ⟨v0, v1, v2, v3, v4, v5⟩ := six_of (HM6.out.at_ 2 rfl)
          have hneq := fun W => neq_size W 0 0 0 0 0 0 0 0 0 0 0 0
          simp only [szB_self, Bool.not_true] at hneq
          go_quiet (fail)
          obtain ⟨g14, hg14⟩ : ∃ g, g = w5.heap.size := ⟨_, rfl⟩
          rw [← hg14] at HM6 ⊢
          clear hg14
          have HM7 := Lib.hid ((HM6.out.drewN nq).sub (L' := [(w.heap.size, 22, [.int .i64 x0, .int .i64 x1, .int .i64 x2]), (w.heap.size + 1, 23, [.int .i64 r0, .int .i64 r1]), (g14, 34, [.int .i64 0, .int .i64 0, .int .i64 0, .int .i64 0])]) (by simp))
          obtain ⟨W7, hW7⟩ : ∃ W7, W7 = W6.drewN nq := ⟨_, rfl⟩
          rw [← hW7] at HM7 ⊢
          clear hW7 HM6 v0 v1 v2 v3 v4 v5 hneq
          obtain ⟨o0, o1, o2, o3, ho⟩ : ∃ a b c d : Int, Hp w [(w.heap.size, 22, [.int .i64 x0, .int .i64 x1, .int .i64 x2]), (w.heap.size + 1, 23, [.int .i64 r0, .int .i64 r1]), (g14, 34, [.int .i64 a, .int .i64 b, .int .i64 c, .int .i64 d])] W7 := ⟨0, 0, 0, 0, HM7.out⟩
          replace HM7 := Lib.hid ho
          clear ho
          obtain ⟨u0, u1⟩ := (⟨(HM7.out.at_ 1 rfl).cell 0, (HM7.out.at_ 1 rfl).cell 1⟩ : _ ∧ _)
          obtain ⟨m, hmx, hm0, hm1⟩ := run_max_int4 #[3, 3, 3, 3] 3 r0 (wrap64 (-r0)) r1 (wrap64 (-r1))
          by_cases hmb : m ≤ 1000000000
          · have HB01 := Lib.hid (show r0 ≤ 1000000000 ∧ r1 ≤ 1000000000 by omega)
            clear hm0 hm1
            go_wp2_with fail
            clear hmx
            obtain ⟨b0, b1⟩ := HB01.out
            by_cases c0 : 1 ≤ r0
            · by_cases c1 : 1 ≤ r1
              · obtain ⟨n, hn⟩ : ∃ n : Nat, r0 = (n : Int) := ⟨r0.toNat, by omega⟩
                obtain ⟨d, hd⟩ : ∃ n : Nat, r1 = (n : Int) := ⟨r1.toNat, by omega⟩
                obtain ⟨x, y, z, ⟨⟨bx0, bx1⟩, ⟨by0, by1⟩, bz0, bz1⟩, hR⟩ := ratio_two n d (by omega) (by omega)
                rw [← hn, ← hd] at hR
                clear hn hd
                rcases hR with ⟨hA, hB⟩ | ⟨hA, hB⟩
                · have HA := Lib.hid hA
                  have HB := Lib.hid hB
                  clear hA hB
                  refine (HA.out _).mono ?_
                  rintro e w8 ⟨rfl, hb⟩
                  have HM8 := Lib.hid (show Hp w [(w.heap.size, 22, [.int .i64 x0, .int .i64 x1, .int .i64 x2]), (w.heap.size + 1, 23, [.int .i64 r0, .int .i64 r1]), (g14, 34, [.int .i64 o0, .int .i64 o1, .int .i64 o2, .int .i64 o3]), (w8.heap.size, 28, [.int .i64 x, .int .i64 1, .int .i64 y, .int .i64 1, .int .i64 z, .int .i64 1])] _ from (HM7.out.step hb).new 28 [.int .i64 x, .int .i64 1, .int .i64 y, .int .i64 1, .int .i64 z, .int .i64 1])
                  have hl8 : w.heap.size + 1 < w8.heap.size := ((HM7.out.step hb).at_ 1 rfl).lt
                  obtain ⟨u2, u3⟩ := (⟨((HM7.out.step hb).at_ 1 rfl).cell 0, ((HM7.out.step hb).at_ 1 rfl).cell 1⟩ : _ ∧ _)
                  clear hb HM7 u0 u1
                  go_wp2_with fail
                  refine (HB.out _).mono ?_
                  rintro e w9 ⟨rfl, hb⟩
                  have HM9 := Lib.hid (HM8.out.step hb)
                  clear hb HM8 u2 u3 hl8
                  obtain ⟨v0, v1, v2, v3⟩ := four_of (HM9.out.at_ 2 rfl)
                  obtain ⟨f0, f1, f2, f3⟩ := four_free (HM9.out.at_ 2 rfl)
                  go_upto_region 24 with fail
                  clear v0 v1 v2 v3 f0 f1 f2 f3
                  obtain ⟨WA, hWA⟩ : ∃ WA, WA = ((((w9.setCell ⟨g14, 0, none⟩ (.int .i64 x)).setCell ⟨g14, 1, none⟩ (.int .i64 y)).setCell ⟨g14, 2, none⟩ (.int .i64 z)).setCell ⟨g14, 3, none⟩ (.int .i64 1)) := ⟨_, rfl⟩
                  have hma := HM9.out.put4 2 rfl (.int .i64 x) (.int .i64 y) (.int .i64 z) (.int .i64 1)
                  rw [← hWA] at hma ⊢
                  have hmb' : Hp w [(w.heap.size, 22, [.int .i64 x0, .int .i64 x1, .int .i64 x2]), (w.heap.size + 1, 23, [.int .i64 r0, .int .i64 r1]), (g14, 34, [.int .i64 x, .int .i64 y, .int .i64 z, .int .i64 1]), (w8.heap.size, 28, [.int .i64 x, .int .i64 1, .int .i64 y, .int .i64 1, .int .i64 z, .int .i64 1])] WA := hma
                  clear hWA hma HM9 HA HB
                  have hsz := fun W => lsize_any x y z 1 W ⟨by omega, by omega⟩ ⟨by omega, by omega⟩ ⟨by omega, by omega⟩ (by omega) (by omega)
                  rw [(low_one x).1, (low_one x).2, (low_one y).1, (low_one y).2, (low_one z).1, (low_one z).2] at hsz
                  have HSZ := Lib.hid hsz
                  have HMA := Lib.hid hmb'
                  clear hsz hmb'
                  have heq := fun W => eql_size W x 1 y 1 z 1 x 1 y 1 z 1
                  simp only [szB_self] at heq
                  have HKB := Lib.hid (show ∀ W W', (W.cell? ⟨g14, 0, none⟩ = some (.int .i64 x) ∧ W.cell? ⟨g14, 1, none⟩ = some (.int .i64 y) ∧ W.cell? ⟨g14, 2, none⟩ = some (.int .i64 z) ∧ W.cell? ⟨g14, 3, none⟩ = some (.int .i64 1) ∧ W.cell? ⟨w8.heap.size, 0, none⟩ = some (.int .i64 x) ∧ W.cell? ⟨w8.heap.size, 1, none⟩ = some (.int .i64 1) ∧ W.cell? ⟨w8.heap.size, 2, none⟩ = some (.int .i64 y) ∧ W.cell? ⟨w8.heap.size, 3, none⟩ = some (.int .i64 1) ∧ W.cell? ⟨w8.heap.size, 4, none⟩ = some (.int .i64 z) ∧ W.cell? ⟨w8.heap.size, 5, none⟩ = some (.int .i64 1) ∧ Hp w [(w.heap.size, 22, [.int .i64 x0, .int .i64 x1, .int .i64 x2]), (w.heap.size + 1, 23, [.int .i64 r0, .int .i64 r1]), (g14, 34, [.int .i64 x, .int .i64 y, .int .i64 z, .int .i64 1]), (w8.heap.size, 28, [.int .i64 x, .int .i64 1, .int .i64 y, .int .i64 1, .int .i64 z, .int .i64 1])] W) → Below W.heap.size W W' → (W'.cell? ⟨g14, 0, none⟩ = some (.int .i64 x) ∧ W'.cell? ⟨g14, 1, none⟩ = some (.int .i64 y) ∧ W'.cell? ⟨g14, 2, none⟩ = some (.int .i64 z) ∧ W'.cell? ⟨g14, 3, none⟩ = some (.int .i64 1) ∧ W'.cell? ⟨w8.heap.size, 0, none⟩ = some (.int .i64 x) ∧ W'.cell? ⟨w8.heap.size, 1, none⟩ = some (.int .i64 1) ∧ W'.cell? ⟨w8.heap.size, 2, none⟩ = some (.int .i64 y) ∧ W'.cell? ⟨w8.heap.size, 3, none⟩ = some (.int .i64 1) ∧ W'.cell? ⟨w8.heap.size, 4, none⟩ = some (.int .i64 z) ∧ W'.cell? ⟨w8.heap.size, 5, none⟩ = some (.int .i64 1) ∧ Hp w [(w.heap.size, 22, [.int .i64 x0, .int .i64 x1, .int .i64 x2]), (w.heap.size + 1, 23, [.int .i64 r0, .int .i64 r1]), (g14, 34, [.int .i64 x, .int .i64 y, .int .i64 z, .int .i64 1]), (w8.heap.size, 28, [.int .i64 x, .int .i64 1, .int .i64 y, .int .i64 1, .int .i64 z, .int .i64 1])] W') from fun W W' h hb => have h' := h.2.2.2.2.2.2.2.2.2.2.step hb; ⟨(h'.at_ 2 rfl).cell 0, (h'.at_ 2 rfl).cell 1, (h'.at_ 2 rfl).cell 2, (h'.at_ 2 rfl).cell 3, (h'.at_ 3 rfl).cell 0, (h'.at_ 3 rfl).cell 1, (h'.at_ 3 rfl).cell 2, (h'.at_ 3 rfl).cell 3, (h'.at_ 3 rfl).cell 4, (h'.at_ 3 rfl).cell 5, h'⟩)
                  have hT : WA.cell? ⟨g14, 0, none⟩ = some (.int .i64 x) ∧ WA.cell? ⟨g14, 1, none⟩ = some (.int .i64 y) ∧ WA.cell? ⟨g14, 2, none⟩ = some (.int .i64 z) ∧ WA.cell? ⟨g14, 3, none⟩ = some (.int .i64 1) ∧ WA.cell? ⟨w8.heap.size, 0, none⟩ = some (.int .i64 x) ∧ WA.cell? ⟨w8.heap.size, 1, none⟩ = some (.int .i64 1) ∧ WA.cell? ⟨w8.heap.size, 2, none⟩ = some (.int .i64 y) ∧ WA.cell? ⟨w8.heap.size, 3, none⟩ = some (.int .i64 1) ∧ WA.cell? ⟨w8.heap.size, 4, none⟩ = some (.int .i64 z) ∧ WA.cell? ⟨w8.heap.size, 5, none⟩ = some (.int .i64 1) ∧ Hp w [(w.heap.size, 22, [.int .i64 x0, .int .i64 x1, .int .i64 x2]), (w.heap.size + 1, 23, [.int .i64 r0, .int .i64 r1]), (g14, 34, [.int .i64 x, .int .i64 y, .int .i64 z, .int .i64 1]), (w8.heap.size, 28, [.int .i64 x, .int .i64 1, .int .i64 y, .int .i64 1, .int .i64 z, .int .i64 1])] WA := ⟨(HMA.out.at_ 2 rfl).cell 0, (HMA.out.at_ 2 rfl).cell 1, (HMA.out.at_ 2 rfl).cell 2, (HMA.out.at_ 2 rfl).cell 3, (HMA.out.at_ 3 rfl).cell 0, (HMA.out.at_ 3 rfl).cell 1, (HMA.out.at_ 3 rfl).cell 2, (HMA.out.at_ 3 rfl).cell 3, (HMA.out.at_ 3 rfl).cell 4, (HMA.out.at_ 3 rfl).cell 5, HMA.out⟩
                  go_region_held3 (fun w' => w'.cell? ⟨g14, 0, none⟩ = some (.int .i64 x) ∧ w'.cell? ⟨g14, 1, none⟩ = some (.int .i64 y) ∧ w'.cell? ⟨g14, 2, none⟩ = some (.int .i64 z) ∧ w'.cell? ⟨g14, 3, none⟩ = some (.int .i64 1) ∧ w'.cell? ⟨w8.heap.size, 0, none⟩ = some (.int .i64 x) ∧ w'.cell? ⟨w8.heap.size, 1, none⟩ = some (.int .i64 1) ∧ w'.cell? ⟨w8.heap.size, 2, none⟩ = some (.int .i64 y) ∧ w'.cell? ⟨w8.heap.size, 3, none⟩ = some (.int .i64 1) ∧ w'.cell? ⟨w8.heap.size, 4, none⟩ = some (.int .i64 z) ∧ w'.cell? ⟨w8.heap.size, 5, none⟩ = some (.int .i64 1) ∧ Hp w [(w.heap.size, 22, [.int .i64 x0, .int .i64 x1, .int .i64 x2]), (w.heap.size + 1, 23, [.int .i64 r0, .int .i64 r1]), (g14, 34, [.int .i64 x, .int .i64 y, .int .i64 z, .int .i64 1]), (w8.heap.size, 28, [.int .i64 x, .int .i64 1, .int .i64 y, .int .i64 1, .int .i64 z, .int .i64 1])] w') (first | assumption | exact HKB.out _ _ hT (bw_drew (Below.refl _ _)) | exact HKB.out _ _ (by assumption) hbel)
                    (first | (go_at_call 14; refine (HSZ.out _).mono ?_; rintro e w' ⟨rfl, hbel⟩))
                  have hf : w'.cell? ⟨g14, 0, none⟩ = some (.int .i64 x) ∧ w'.cell? ⟨g14, 1, none⟩ = some (.int .i64 y) ∧ w'.cell? ⟨g14, 2, none⟩ = some (.int .i64 z) ∧ w'.cell? ⟨g14, 3, none⟩ = some (.int .i64 1) ∧ w'.cell? ⟨w8.heap.size, 0, none⟩ = some (.int .i64 x) ∧ w'.cell? ⟨w8.heap.size, 1, none⟩ = some (.int .i64 1) ∧ w'.cell? ⟨w8.heap.size, 2, none⟩ = some (.int .i64 y) ∧ w'.cell? ⟨w8.heap.size, 3, none⟩ = some (.int .i64 1) ∧ w'.cell? ⟨w8.heap.size, 4, none⟩ = some (.int .i64 z) ∧ w'.cell? ⟨w8.heap.size, 5, none⟩ = some (.int .i64 1) ∧ Hp w [(w.heap.size, 22, [.int .i64 x0, .int .i64 x1, .int .i64 x2]), (w.heap.size + 1, 23, [.int .i64 r0, .int .i64 r1]), (g14, 34, [.int .i64 x, .int .i64 y, .int .i64 z, .int .i64 1]), (w8.heap.size, 28, [.int .i64 x, .int .i64 1, .int .i64 y, .int .i64 1, .int .i64 z, .int .i64 1])] w' := by assumption
                  have HMB := Lib.hid hf.2.2.2.2.2.2.2.2.2.2
                  clear hf
                  go_wp2
                  go_ret
                  exact ⟨rfl, HMB.out.below⟩
                · have HA := Lib.hid hA
                  have HB := Lib.hid hB
                  clear hA hB
                  have heq := fun W => eql_size W 0 0 0 0 0 0 0 0 0 0 0 0
                  simp only [szB_self] at heq
                  refine (HA.out _).mono ?_
                  rintro e w8 ⟨rfl, hb⟩
                  have HM8 := Lib.hid (show Hp w [(w.heap.size, 22, [.int .i64 x0, .int .i64 x1, .int .i64 x2]), (w.heap.size + 1, 23, [.int .i64 r0, .int .i64 r1]), (g14, 34, [.int .i64 o0, .int .i64 o1, .int .i64 o2, .int .i64 o3]), (w8.heap.size, 28, [.int .i64 0, .int .i64 0, .int .i64 0, .int .i64 0, .int .i64 0, .int .i64 0])] _ from (HM7.out.step hb).new 28 [.int .i64 0, .int .i64 0, .int .i64 0, .int .i64 0, .int .i64 0, .int .i64 0])
                  have hl8 : w.heap.size + 1 < w8.heap.size := ((HM7.out.step hb).at_ 1 rfl).lt
                  obtain ⟨u2, u3⟩ := (⟨((HM7.out.step hb).at_ 1 rfl).cell 0, ((HM7.out.step hb).at_ 1 rfl).cell 1⟩ : _ ∧ _)
                  clear hb HM7 u0 u1
                  go_wp2_with fail
                  refine (HB.out _).mono ?_
                  rintro e w9 ⟨rfl, hb⟩
                  have HM9 := Lib.hid (HM8.out.step hb)
                  have hne : g14 ≠ w8.heap.size := HM9.out.ne 2 3 rfl rfl (by decide)
                  clear hb HM8 u2 u3 hl8
                  obtain ⟨v0, v1, v2, v3⟩ := four_of (HM9.out.at_ 2 rfl)
                  obtain ⟨f0, f1, f2, f3⟩ := four_free (HM9.out.at_ 2 rfl)
                  obtain ⟨WA, hWA⟩ : ∃ WA, WA = ((((w9.setCell ⟨g14, 0, none⟩ (.int .i64 x)).setCell ⟨g14, 1, none⟩ (.int .i64 y)).setCell ⟨g14, 2, none⟩ (.int .i64 z)).setCell ⟨g14, 3, none⟩ (.int .i64 1)) := ⟨_, rfl⟩
                  have hma := HM9.out.put4 2 rfl (.int .i64 x) (.int .i64 y) (.int .i64 z) (.int .i64 1)
                  rw [← hWA] at hma
                  have HMA := Lib.hid hma
                  have hk6 := six_of (hma.at_ 3 rfl)
                  rw [hWA] at hk6
                  have HWA := Lib.hid hWA
                  obtain ⟨t0, t1, t2, t3, t4, t5⟩ := hk6
                  clear hma HM9 HA HB hWA
                  go_wp2
                  go_ret
                  exact ⟨rfl, HWA.out ▸ HMA.out.below⟩
              · have c1' : r1 < 1 := by omega
                have HA := Lib.hid (fun W => ratio_low r0 r1 W (.inr c1'))
                have heq := fun W => eql_size W 0 0 0 0 0 0 0 0 0 0 0 0
                simp only [szB_self] at heq
                refine (HA.out _).mono ?_
                rintro e w8 ⟨rfl, hb⟩
                have HM8 := Lib.hid (HM7.out.step hb)
                obtain ⟨u2, u3⟩ := (⟨(HM8.out.at_ 1 rfl).cell 0, (HM8.out.at_ 1 rfl).cell 1⟩ : _ ∧ _)
                have hl8 : w.heap.size + 1 < w8.heap.size := (HM8.out.at_ 1 rfl).lt
                clear hb HM7 u0 u1 HA
                go_wp2
                go_ret
                exact ⟨rfl, bw_new HM8.out.below _⟩
            · have c1' : r0 < 1 := by omega
              have HA := Lib.hid (fun W => ratio_low r0 r1 W (.inl c1'))
              have heq := fun W => eql_size W 0 0 0 0 0 0 0 0 0 0 0 0
              simp only [szB_self] at heq
              refine (HA.out _).mono ?_
              rintro e w8 ⟨rfl, hb⟩
              have HM8 := Lib.hid (HM7.out.step hb)
              obtain ⟨u2, u3⟩ := (⟨(HM8.out.at_ 1 rfl).cell 0, (HM8.out.at_ 1 rfl).cell 1⟩ : _ ∧ _)
              have hl8 : w.heap.size + 1 < w8.heap.size := (HM8.out.at_ 1 rfl).lt
              clear hb HM7 u0 u1 HA
              go_wp2
              go_ret
              exact ⟨rfl, bw_new HM8.out.below _⟩
          · clear hm0 hm1
            have hmb' : 1000000000 < m := by omega
            clear hmb
            go_wp2
            go_ret
            exact ⟨rfl, HM7.out.below⟩
        · have HA := Lib.hid hA
          have HB := Lib.hid hB
          clear hA hB
          refine (HA.out _).mono ?_
          rintro e w4 ⟨rfl, hb⟩
          have HM5 := Lib.hid (show Hp w [(w.heap.size, 22, [.int .i64 x0, .int .i64 x1, .int .i64 x2]), (w.heap.size + 1, 23, [.int .i64 r0, .int .i64 r1]), (w4.heap.size, 28, [.int .i64 x, .int .i64 1, .int .i64 y, .int .i64 1, .int .i64 z, .int .i64 1])] _ from (HM4.out.step hb).new 28 [.int .i64 x, .int .i64 1, .int .i64 y, .int .i64 1, .int .i64 z, .int .i64 1])
          clear hb HM4
          go_wp2_with fail
          refine (HB.out _).mono ?_
          rintro e w5 ⟨rfl, hb⟩
          have HM6 := Lib.hid (show Hp w [(w.heap.size, 22, [.int .i64 x0, .int .i64 x1, .int .i64 x2]), (w.heap.size + 1, 23, [.int .i64 r0, .int .i64 r1]), (w4.heap.size, 28, [.int .i64 x, .int .i64 1, .int .i64 y, .int .i64 1, .int .i64 z, .int .i64 1]), (w5.heap.size, 34, [.int .i64 x, .int .i64 y, .int .i64 z, .int .i64 1])] _ from (HM5.out.step hb).new 34 [.int .i64 x, .int .i64 y, .int .i64 z, .int .i64 1])
          clear hb HM5 HA HB
          go_upto_region 14 with fail
          obtain ⟨W6, hW6⟩ : ∃ W6, W6 = w5.alloc (.cells #[.int .i64 x, .int .i64 y, .int .i64 z, .int .i64 1] 34) := ⟨_, rfl⟩
          rw [← hW6] at HM6 ⊢
          clear hW6
          have hsz := fun W => lsize_any x y z 1 W ⟨by omega, by omega⟩ ⟨by omega, by omega⟩ ⟨by omega, by omega⟩ (by omega) (by omega)
          rw [(low_one x).1, (low_one x).2, (low_one y).1, (low_one y).2, (low_one z).1, (low_one z).2] at hsz
          have HSZ := Lib.hid hsz
          clear hsz
          have hneq := fun W => neq_size W x 1 y 1 z 1 x 1 y 1 z 1
          simp only [szB_self, Bool.not_true] at hneq
          obtain ⟨g12, hg12⟩ : ∃ g, g = w4.heap.size := ⟨_, rfl⟩
          obtain ⟨g14, hg14⟩ : ∃ g, g = w5.heap.size := ⟨_, rfl⟩
          rw [← hg12, ← hg14] at HM6 ⊢
          clear hg12 hg14
          obtain ⟨WD, hWD⟩ : ∃ X, X = W6.drew := ⟨_, rfl⟩
          have HMD : Hid (Hp w [(w.heap.size, 22, [.int .i64 x0, .int .i64 x1, .int .i64 x2]), (w.heap.size + 1, 23, [.int .i64 r0, .int .i64 r1]), (g12, 28, [.int .i64 x, .int .i64 1, .int .i64 y, .int .i64 1, .int .i64 z, .int .i64 1]), (g14, 34, [.int .i64 x, .int .i64 y, .int .i64 z, .int .i64 1])] WD) := by rw [hWD]; exact HM6.out.drew
          have hS : W6.drew.cell? ⟨g14, 0, none⟩ = some (.int .i64 x) ∧ W6.drew.cell? ⟨g14, 1, none⟩ = some (.int .i64 y) ∧ W6.drew.cell? ⟨g14, 2, none⟩ = some (.int .i64 z) ∧ W6.drew.cell? ⟨g14, 3, none⟩ = some (.int .i64 1) ∧ W6.drew.cell? ⟨g12, 0, none⟩ = some (.int .i64 x) ∧ W6.drew.cell? ⟨g12, 1, none⟩ = some (.int .i64 1) ∧ W6.drew.cell? ⟨g12, 2, none⟩ = some (.int .i64 y) ∧ W6.drew.cell? ⟨g12, 3, none⟩ = some (.int .i64 1) ∧ W6.drew.cell? ⟨g12, 4, none⟩ = some (.int .i64 z) ∧ W6.drew.cell? ⟨g12, 5, none⟩ = some (.int .i64 1) ∧ Hp w [(w.heap.size, 22, [.int .i64 x0, .int .i64 x1, .int .i64 x2]), (w.heap.size + 1, 23, [.int .i64 r0, .int .i64 r1]), (g12, 28, [.int .i64 x, .int .i64 1, .int .i64 y, .int .i64 1, .int .i64 z, .int .i64 1]), (g14, 34, [.int .i64 x, .int .i64 y, .int .i64 z, .int .i64 1])] W6.drew := ⟨(HM6.out.drew.at_ 3 rfl).cell 0, (HM6.out.drew.at_ 3 rfl).cell 1, (HM6.out.drew.at_ 3 rfl).cell 2, (HM6.out.drew.at_ 3 rfl).cell 3, (HM6.out.drew.at_ 2 rfl).cell 0, (HM6.out.drew.at_ 2 rfl).cell 1, (HM6.out.drew.at_ 2 rfl).cell 2, (HM6.out.drew.at_ 2 rfl).cell 3, (HM6.out.drew.at_ 2 rfl).cell 4, (HM6.out.drew.at_ 2 rfl).cell 5, HM6.out.drew⟩
          clear HM6
          refine wp_regionE' 24 (fun w' => w'.cell? ⟨g14, 0, none⟩ = some (.int .i64 x) ∧ w'.cell? ⟨g14, 1, none⟩ = some (.int .i64 y) ∧ w'.cell? ⟨g14, 2, none⟩ = some (.int .i64 z) ∧ w'.cell? ⟨g14, 3, none⟩ = some (.int .i64 1) ∧ w'.cell? ⟨g12, 0, none⟩ = some (.int .i64 x) ∧ w'.cell? ⟨g12, 1, none⟩ = some (.int .i64 1) ∧ w'.cell? ⟨g12, 2, none⟩ = some (.int .i64 y) ∧ w'.cell? ⟨g12, 3, none⟩ = some (.int .i64 1) ∧ w'.cell? ⟨g12, 4, none⟩ = some (.int .i64 z) ∧ w'.cell? ⟨g12, 5, none⟩ = some (.int .i64 1) ∧ Hp w [(w.heap.size, 22, [.int .i64 x0, .int .i64 x1, .int .i64 x2]), (w.heap.size + 1, 23, [.int .i64 r0, .int .i64 r1]), (g12, 28, [.int .i64 x, .int .i64 1, .int .i64 y, .int .i64 1, .int .i64 z, .int .i64 1]), (g14, 34, [.int .i64 x, .int .i64 y, .int .i64 z, .int .i64 1])] w') 24 #[false, false, false, false, false, false, false, false, false, false, false, false, false, false, false, false, false, false, false, false, false, false, false, false] (by kernel_rfl) (by kernel_rfl) (by kernel_rfl) ?_
          refine wpAnyE_tk (i := 0) (v := ?_) #[true, false, false, false, false, false, false, false, false, false, false, false, false, false, false, false, false, false, false, false, false, false, false, false] (some 74) rfl rfl (by kernel_rfl) (by kernel_rfl) (by kernel_rfl) (by kernel_rfl) (by kernel_rfl) (fun _ _ _ h => h) (Or.inl ⟨by kernel_rfl, ?_⟩) hS ?_
          rotate_left
          · (intro w hSw; (try dsimp only at hSw); go_simp; all_goals with_reducible rfl)
          simp only [Act.put]
          refine wpAnyE_tk (i := 1) (v := ?_) #[true, true, false, false, false, false, false, false, false, false, false, false, false, false, false, false, false, false, false, false, false, false, false, false] (some 75) rfl rfl (by kernel_rfl) (by kernel_rfl) (by kernel_rfl) (by kernel_rfl) (by kernel_rfl) (fun _ _ _ h => h) (Or.inl ⟨by kernel_rfl, ?_⟩) hS ?_
          rotate_left
          · (intro w hSw; (try dsimp only at hSw); go_simp; all_goals with_reducible rfl)
          simp only [Act.put]
          refine wpAnyE_tk (i := 2) (v := ?_) #[true, true, true, false, false, false, false, false, false, false, false, false, false, false, false, false, false, false, false, false, false, false, false, false] (some 76) rfl rfl (by kernel_rfl) (by kernel_rfl) (by kernel_rfl) (by kernel_rfl) (by kernel_rfl) (fun _ _ _ h => h) (Or.inl ⟨by kernel_rfl, ?_⟩) hS ?_
          rotate_left
          · (intro w hSw; (try dsimp only at hSw); go_simp; all_goals with_reducible rfl)
          simp only [Act.put]
          refine wpAnyE_tk (i := 3) (v := undef) #[true, true, true, true, false, false, false, false, false, false, false, false, false, false, false, false, false, false, false, false, false, false, false, false] (some 77) rfl rfl (by kernel_rfl) (by kernel_rfl) (by kernel_rfl) (by kernel_rfl) (by kernel_rfl) (fun _ _ _ h => h) (Or.inr ⟨by kernel_rfl, rfl⟩) hS ?_
          simp only [Act.put]
          refine wpAnyE_tk (i := 4) (v := undef) #[true, true, true, true, true, false, false, false, false, false, false, false, false, false, false, false, false, false, false, false, false, false, false, false] (some 78) rfl rfl (by kernel_rfl) (by kernel_rfl) (by kernel_rfl) (by kernel_rfl) (by kernel_rfl) (fun _ _ _ h => h) (Or.inr ⟨by kernel_rfl, rfl⟩) hS ?_
          simp only [Act.put]
          refine wpAnyE_tk (i := 5) (v := undef) #[true, true, true, true, true, true, false, false, false, false, false, false, false, false, false, false, false, false, false, false, false, false, false, false] (some 79) rfl rfl (by kernel_rfl) (by kernel_rfl) (by kernel_rfl) (by kernel_rfl) (by kernel_rfl) (fun _ _ _ h => h) (Or.inr ⟨by kernel_rfl, rfl⟩) hS ?_
          simp only [Act.put]
          refine wpAnyE_tk (i := 6) (v := undef) #[true, true, true, true, true, true, true, false, false, false, false, false, false, false, false, false, false, false, false, false, false, false, false, false] (some 80) rfl rfl (by kernel_rfl) (by kernel_rfl) (by kernel_rfl) (by kernel_rfl) (by kernel_rfl) (fun _ _ _ h => h) (Or.inr ⟨by kernel_rfl, rfl⟩) hS ?_
          simp only [Act.put]
          refine wpAnyE_tk (i := 7) (v := undef) #[true, true, true, true, true, true, true, true, false, false, false, false, false, false, false, false, false, false, false, false, false, false, false, false] (some 81) rfl rfl (by kernel_rfl) (by kernel_rfl) (by kernel_rfl) (by kernel_rfl) (by kernel_rfl) (fun _ _ _ h => h) (Or.inr ⟨by kernel_rfl, rfl⟩) hS ?_
          simp only [Act.put]
          refine wpAnyE_tk (i := 8) (v := undef) #[true, true, true, true, true, true, true, true, true, false, false, false, false, false, false, false, false, false, false, false, false, false, false, false] (some 82) rfl rfl (by kernel_rfl) (by kernel_rfl) (by kernel_rfl) (by kernel_rfl) (by kernel_rfl) (fun _ _ _ h => h) (Or.inr ⟨by kernel_rfl, rfl⟩) hS ?_
          simp only [Act.put]
          refine wpAnyE_tk (i := 9) (v := undef) #[true, true, true, true, true, true, true, true, true, true, false, false, false, false, false, false, false, false, false, false, false, false, false, false] (some 83) rfl rfl (by kernel_rfl) (by kernel_rfl) (by kernel_rfl) (by kernel_rfl) (by kernel_rfl) (fun _ _ _ h => h) (Or.inr ⟨by kernel_rfl, rfl⟩) hS ?_
          simp only [Act.put]
          refine wpAnyE_tk (i := 10) (v := ?_) #[true, true, true, true, true, true, true, true, true, true, true, false, false, false, false, false, false, false, false, false, false, false, false, false] (some 84) rfl rfl (by kernel_rfl) (by kernel_rfl) (by kernel_rfl) (by kernel_rfl) (by kernel_rfl) (fun _ _ _ h => h) (Or.inl ⟨by kernel_rfl, ?_⟩) hS ?_
          rotate_left
          · (intro w hSw; (try dsimp only at hSw); go_simp; all_goals with_reducible rfl)
          simp only [Act.put]
          refine wpAnyE_tk (i := 11) (v := ?_) #[true, true, true, true, true, true, true, true, true, true, true, true, false, false, false, false, false, false, false, false, false, false, false, false] (some 85) rfl rfl (by kernel_rfl) (by kernel_rfl) (by kernel_rfl) (by kernel_rfl) (by kernel_rfl) (fun _ _ _ h => h) (Or.inl ⟨by kernel_rfl, ?_⟩) hS ?_
          rotate_left
          · (intro w hSw; (try dsimp only at hSw); go_simp; all_goals with_reducible rfl)
          simp only [Act.put]
          refine wpAnyE_tk (i := 12) (v := ?_) #[true, true, true, true, true, true, true, true, true, true, true, true, true, false, false, false, false, false, false, false, false, false, false, false] (some 86) rfl rfl (by kernel_rfl) (by kernel_rfl) (by kernel_rfl) (by kernel_rfl) (by kernel_rfl) (fun _ _ _ h => h) (Or.inl ⟨by kernel_rfl, ?_⟩) hS ?_
          rotate_left
          · (intro w hSw; (try dsimp only at hSw); go_simp; all_goals with_reducible rfl)
          simp only [Act.put]
          refine wpAnyE_tk (i := 13) (v := ?_) #[true, true, true, true, true, true, true, true, true, true, true, true, true, true, false, false, false, false, false, false, false, false, false, false] (some 87) rfl rfl (by kernel_rfl) (by kernel_rfl) (by kernel_rfl) (by kernel_rfl) (by kernel_rfl) (fun _ _ _ h => h) (Or.inl ⟨by kernel_rfl, ?_⟩) hS ?_
          rotate_left
          · (intro w hSw; (try dsimp only at hSw); go_simp; all_goals with_reducible rfl)
          simp only [Act.put]
          refine wpAnyE_tk (i := 14) (v := ?_) #[true, true, true, true, true, true, true, true, true, true, true, true, true, true, true, false, false, false, false, false, false, false, false, false] (some 88) rfl rfl (by kernel_rfl) (by kernel_rfl) (by kernel_rfl) (by kernel_rfl) (by kernel_rfl) (fun _ _ _ h => h) (Or.inl ⟨by kernel_rfl, ?_⟩) hS ?_
          rotate_left
          · (intro w hSw; (try dsimp only at hSw); go_simp; all_goals with_reducible rfl)
          simp only [Act.put]
          refine wpAnyE_tk (i := 15) (v := ?_) #[true, true, true, true, true, true, true, true, true, true, true, true, true, true, true, true, false, false, false, false, false, false, false, false] (some 89) rfl rfl (by kernel_rfl) (by kernel_rfl) (by kernel_rfl) (by kernel_rfl) (by kernel_rfl) (fun _ _ _ h => h) (Or.inl ⟨by kernel_rfl, ?_⟩) hS ?_
          rotate_left
          · (intro w hSw; (try dsimp only at hSw); go_simp; all_goals with_reducible rfl)
          simp only [Act.put]
          refine wpAnyE_tk (i := 16) (v := ?_) #[true, true, true, true, true, true, true, true, true, true, true, true, true, true, true, true, true, false, false, false, false, false, false, false] (some 90) rfl rfl (by kernel_rfl) (by kernel_rfl) (by kernel_rfl) (by kernel_rfl) (by kernel_rfl) (fun _ _ _ h => h) (Or.inl ⟨by kernel_rfl, ?_⟩) hS ?_
          rotate_left
          · (intro w hSw; (try dsimp only at hSw); go_simp; all_goals with_reducible rfl)
          simp only [Act.put]
          refine wpAnyE_tk (i := 17) (v := ?_) #[true, true, true, true, true, true, true, true, true, true, true, true, true, true, true, true, true, true, false, false, false, false, false, false] (some 91) rfl rfl (by kernel_rfl) (by kernel_rfl) (by kernel_rfl) (by kernel_rfl) (by kernel_rfl) (fun _ _ _ h => h) (Or.inl ⟨by kernel_rfl, ?_⟩) hS ?_
          rotate_left
          · (intro w hSw; (try dsimp only at hSw); go_simp; all_goals with_reducible rfl)
          simp only [Act.put]
          refine wpAnyE_tk (i := 18) (v := ?_) #[true, true, true, true, true, true, true, true, true, true, true, true, true, true, true, true, true, true, true, false, false, false, false, false] (some 92) rfl rfl (by kernel_rfl) (by kernel_rfl) (by kernel_rfl) (by kernel_rfl) (by kernel_rfl) (fun _ _ _ h => h) (Or.inl ⟨by kernel_rfl, ?_⟩) hS ?_
          rotate_left
          · (intro w hSw; (try dsimp only at hSw); go_simp; all_goals with_reducible rfl)
          simp only [Act.put]
          clear hS
          rw [← hWD]
          clear hWD
          refine wpAnyE_ready (rs := [19]) (by kernel_rfl) (by simp) ?_
          refine AllE.cons' (o := _) #[true, true, true, true, true, true, true, true, true, true, true, true, true, true, true, true, true, true, true, true, false, false, false, false] rfl (by kernel_rfl) (fun K hK => ?_) AllE.nil
          go_simp
          refine (HSZ.out _).mono ?_
          rintro e WE ⟨rfl, hb⟩
          dsimp only
          have HME := Lib.hid (HMD.out.step hb)
          have hS : WE.cell? ⟨g14, 0, none⟩ = some (.int .i64 x) ∧ WE.cell? ⟨g14, 1, none⟩ = some (.int .i64 y) ∧ WE.cell? ⟨g14, 2, none⟩ = some (.int .i64 z) ∧ WE.cell? ⟨g14, 3, none⟩ = some (.int .i64 1) ∧ WE.cell? ⟨g12, 0, none⟩ = some (.int .i64 x) ∧ WE.cell? ⟨g12, 1, none⟩ = some (.int .i64 1) ∧ WE.cell? ⟨g12, 2, none⟩ = some (.int .i64 y) ∧ WE.cell? ⟨g12, 3, none⟩ = some (.int .i64 1) ∧ WE.cell? ⟨g12, 4, none⟩ = some (.int .i64 z) ∧ WE.cell? ⟨g12, 5, none⟩ = some (.int .i64 1) ∧ Hp w [(w.heap.size, 22, [.int .i64 x0, .int .i64 x1, .int .i64 x2]), (w.heap.size + 1, 23, [.int .i64 r0, .int .i64 r1]), (g12, 28, [.int .i64 x, .int .i64 1, .int .i64 y, .int .i64 1, .int .i64 z, .int .i64 1]), (g14, 34, [.int .i64 x, .int .i64 y, .int .i64 z, .int .i64 1])] WE := ⟨(HME.out.at_ 3 rfl).cell 0, (HME.out.at_ 3 rfl).cell 1, (HME.out.at_ 3 rfl).cell 2, (HME.out.at_ 3 rfl).cell 3, (HME.out.at_ 2 rfl).cell 0, (HME.out.at_ 2 rfl).cell 1, (HME.out.at_ 2 rfl).cell 2, (HME.out.at_ 2 rfl).cell 3, (HME.out.at_ 2 rfl).cell 4, (HME.out.at_ 2 rfl).cell 5, HME.out⟩
          refine hK.out _ _ (fun _ => hS) ?_
          clear hK K hb HMD
          try simp only [Act.put]
          refine wpAnyE_tk (i := 20) (v := ?_) #[true, true, true, true, true, true, true, true, true, true, true, true, true, true, true, true, true, true, true, true, true, false, false, false] (some 94) rfl rfl (by kernel_rfl) (by kernel_rfl) (by kernel_rfl) (by kernel_rfl) (by kernel_rfl) (fun _ _ _ h => h) (Or.inl ⟨by kernel_rfl, ?_⟩) hS ?_
          rotate_left
          · (intro w hSw; (try dsimp only at hSw); go_simp; all_goals with_reducible rfl)
          simp only [Act.put]
          refine wpAnyE_tk (i := 21) (v := ?_) #[true, true, true, true, true, true, true, true, true, true, true, true, true, true, true, true, true, true, true, true, true, true, false, false] (some 95) rfl rfl (by kernel_rfl) (by kernel_rfl) (by kernel_rfl) (by kernel_rfl) (by kernel_rfl) (fun _ _ _ h => h) (Or.inl ⟨by kernel_rfl, ?_⟩) hS ?_
          rotate_left
          · (intro w hSw; (try dsimp only at hSw); go_simp; all_goals with_reducible rfl)
          simp only [Act.put]
          refine wpAnyE_tk (i := 22) (v := ?_) #[true, true, true, true, true, true, true, true, true, true, true, true, true, true, true, true, true, true, true, true, true, true, true, false] (some 96) rfl rfl (by kernel_rfl) (by kernel_rfl) (by kernel_rfl) (by kernel_rfl) (by kernel_rfl) (fun _ _ _ h => h) (Or.inl ⟨by kernel_rfl, ?_⟩) hS ?_
          rotate_left
          · (intro w hSw; (try dsimp only at hSw); go_simp; all_goals with_reducible rfl)
          simp only [Act.put]
          refine wpAnyE_tk (i := 23) (v := ?_) #[true, true, true, true, true, true, true, true, true, true, true, true, true, true, true, true, true, true, true, true, true, true, true, true] (some 97) rfl rfl (by kernel_rfl) (by kernel_rfl) (by kernel_rfl) (by kernel_rfl) (by kernel_rfl) (fun _ _ _ h => h) (Or.inl ⟨by kernel_rfl, ?_⟩) hS ?_
          rotate_left
          · (intro w hSw; (try dsimp only at hSw); go_simp; all_goals with_reducible rfl)
          simp only [Act.put]
          clear hS
          refine wpAnyE_done (by kernel_rfl) ?_ _
          have HM7 := Lib.hid (HME.out.sub (L' := [(w.heap.size, 22, [.int .i64 x0, .int .i64 x1, .int .i64 x2]), (w.heap.size + 1, 23, [.int .i64 r0, .int .i64 r1]), (g14, 34, [.int .i64 x, .int .i64 y, .int .i64 z, .int .i64 1])]) (by simp))
          clear HME hneq
          obtain ⟨W7, hW7⟩ : ∃ W7, W7 = WE := ⟨_, rfl⟩
          rw [← hW7] at HM7 ⊢
          clear hW7
          obtain ⟨o0, o1, o2, o3, ho⟩ : ∃ a b c d : Int, Hp w [(w.heap.size, 22, [.int .i64 x0, .int .i64 x1, .int .i64 x2]), (w.heap.size + 1, 23, [.int .i64 r0, .int .i64 r1]), (g14, 34, [.int .i64 a, .int .i64 b, .int .i64 c, .int .i64 d])] W7 := ⟨x, y, z, 1, HM7.out⟩
          replace HM7 := Lib.hid ho
          clear ho
          obtain ⟨u0, u1⟩ := (⟨(HM7.out.at_ 1 rfl).cell 0, (HM7.out.at_ 1 rfl).cell 1⟩ : _ ∧ _)
          obtain ⟨m, hmx, hm0, hm1⟩ := run_max_int4 #[3, 3, 3, 3] 3 r0 (wrap64 (-r0)) r1 (wrap64 (-r1))
          by_cases hmb : m ≤ 1000000000
          · have HB01 := Lib.hid (show r0 ≤ 1000000000 ∧ r1 ≤ 1000000000 by omega)
            clear hm0 hm1
            go_wp2_with fail
            clear hmx
            obtain ⟨b0, b1⟩ := HB01.out
            by_cases c0 : 1 ≤ r0
            · by_cases c1 : 1 ≤ r1
              · obtain ⟨n, hn⟩ : ∃ n : Nat, r0 = (n : Int) := ⟨r0.toNat, by omega⟩
                obtain ⟨d, hd⟩ : ∃ n : Nat, r1 = (n : Int) := ⟨r1.toNat, by omega⟩
                obtain ⟨x, y, z, ⟨⟨bx0, bx1⟩, ⟨by0, by1⟩, bz0, bz1⟩, hR⟩ := ratio_two n d (by omega) (by omega)
                rw [← hn, ← hd] at hR
                clear hn hd
                rcases hR with ⟨hA, hB⟩ | ⟨hA, hB⟩
                · have HA := Lib.hid hA
                  have HB := Lib.hid hB
                  clear hA hB
                  refine (HA.out _).mono ?_
                  rintro e w8 ⟨rfl, hb⟩
                  have HM8 := Lib.hid (show Hp w [(w.heap.size, 22, [.int .i64 x0, .int .i64 x1, .int .i64 x2]), (w.heap.size + 1, 23, [.int .i64 r0, .int .i64 r1]), (g14, 34, [.int .i64 o0, .int .i64 o1, .int .i64 o2, .int .i64 o3]), (w8.heap.size, 28, [.int .i64 x, .int .i64 1, .int .i64 y, .int .i64 1, .int .i64 z, .int .i64 1])] _ from (HM7.out.step hb).new 28 [.int .i64 x, .int .i64 1, .int .i64 y, .int .i64 1, .int .i64 z, .int .i64 1])
                  have hl8 : w.heap.size + 1 < w8.heap.size := ((HM7.out.step hb).at_ 1 rfl).lt
                  obtain ⟨u2, u3⟩ := (⟨((HM7.out.step hb).at_ 1 rfl).cell 0, ((HM7.out.step hb).at_ 1 rfl).cell 1⟩ : _ ∧ _)
                  clear hb HM7 u0 u1
                  go_wp2_with fail
                  refine (HB.out _).mono ?_
                  rintro e w9 ⟨rfl, hb⟩
                  have HM9 := Lib.hid (HM8.out.step hb)
                  clear hb HM8 u2 u3 hl8
                  obtain ⟨v0, v1, v2, v3⟩ := four_of (HM9.out.at_ 2 rfl)
                  obtain ⟨f0, f1, f2, f3⟩ := four_free (HM9.out.at_ 2 rfl)
                  go_upto_region 24 with fail
                  clear v0 v1 v2 v3 f0 f1 f2 f3
                  obtain ⟨WA, hWA⟩ : ∃ WA, WA = ((((w9.setCell ⟨g14, 0, none⟩ (.int .i64 x)).setCell ⟨g14, 1, none⟩ (.int .i64 y)).setCell ⟨g14, 2, none⟩ (.int .i64 z)).setCell ⟨g14, 3, none⟩ (.int .i64 1)) := ⟨_, rfl⟩
                  have hma := HM9.out.put4 2 rfl (.int .i64 x) (.int .i64 y) (.int .i64 z) (.int .i64 1)
                  rw [← hWA] at hma ⊢
                  have hmb' : Hp w [(w.heap.size, 22, [.int .i64 x0, .int .i64 x1, .int .i64 x2]), (w.heap.size + 1, 23, [.int .i64 r0, .int .i64 r1]), (g14, 34, [.int .i64 x, .int .i64 y, .int .i64 z, .int .i64 1]), (w8.heap.size, 28, [.int .i64 x, .int .i64 1, .int .i64 y, .int .i64 1, .int .i64 z, .int .i64 1])] WA := hma
                  clear hWA hma HM9 HA HB
                  have hsz := fun W => lsize_any x y z 1 W ⟨by omega, by omega⟩ ⟨by omega, by omega⟩ ⟨by omega, by omega⟩ (by omega) (by omega)
                  rw [(low_one x).1, (low_one x).2, (low_one y).1, (low_one y).2, (low_one z).1, (low_one z).2] at hsz
                  have HSZ := Lib.hid hsz
                  have HMA := Lib.hid hmb'
                  clear hsz hmb'
                  have heq := fun W => eql_size W x 1 y 1 z 1 x 1 y 1 z 1
                  simp only [szB_self] at heq
                  have HKB := Lib.hid (show ∀ W W', (W.cell? ⟨g14, 0, none⟩ = some (.int .i64 x) ∧ W.cell? ⟨g14, 1, none⟩ = some (.int .i64 y) ∧ W.cell? ⟨g14, 2, none⟩ = some (.int .i64 z) ∧ W.cell? ⟨g14, 3, none⟩ = some (.int .i64 1) ∧ W.cell? ⟨w8.heap.size, 0, none⟩ = some (.int .i64 x) ∧ W.cell? ⟨w8.heap.size, 1, none⟩ = some (.int .i64 1) ∧ W.cell? ⟨w8.heap.size, 2, none⟩ = some (.int .i64 y) ∧ W.cell? ⟨w8.heap.size, 3, none⟩ = some (.int .i64 1) ∧ W.cell? ⟨w8.heap.size, 4, none⟩ = some (.int .i64 z) ∧ W.cell? ⟨w8.heap.size, 5, none⟩ = some (.int .i64 1) ∧ Hp w [(w.heap.size, 22, [.int .i64 x0, .int .i64 x1, .int .i64 x2]), (w.heap.size + 1, 23, [.int .i64 r0, .int .i64 r1]), (g14, 34, [.int .i64 x, .int .i64 y, .int .i64 z, .int .i64 1]), (w8.heap.size, 28, [.int .i64 x, .int .i64 1, .int .i64 y, .int .i64 1, .int .i64 z, .int .i64 1])] W) → Below W.heap.size W W' → (W'.cell? ⟨g14, 0, none⟩ = some (.int .i64 x) ∧ W'.cell? ⟨g14, 1, none⟩ = some (.int .i64 y) ∧ W'.cell? ⟨g14, 2, none⟩ = some (.int .i64 z) ∧ W'.cell? ⟨g14, 3, none⟩ = some (.int .i64 1) ∧ W'.cell? ⟨w8.heap.size, 0, none⟩ = some (.int .i64 x) ∧ W'.cell? ⟨w8.heap.size, 1, none⟩ = some (.int .i64 1) ∧ W'.cell? ⟨w8.heap.size, 2, none⟩ = some (.int .i64 y) ∧ W'.cell? ⟨w8.heap.size, 3, none⟩ = some (.int .i64 1) ∧ W'.cell? ⟨w8.heap.size, 4, none⟩ = some (.int .i64 z) ∧ W'.cell? ⟨w8.heap.size, 5, none⟩ = some (.int .i64 1) ∧ Hp w [(w.heap.size, 22, [.int .i64 x0, .int .i64 x1, .int .i64 x2]), (w.heap.size + 1, 23, [.int .i64 r0, .int .i64 r1]), (g14, 34, [.int .i64 x, .int .i64 y, .int .i64 z, .int .i64 1]), (w8.heap.size, 28, [.int .i64 x, .int .i64 1, .int .i64 y, .int .i64 1, .int .i64 z, .int .i64 1])] W') from fun W W' h hb => have h' := h.2.2.2.2.2.2.2.2.2.2.step hb; ⟨(h'.at_ 2 rfl).cell 0, (h'.at_ 2 rfl).cell 1, (h'.at_ 2 rfl).cell 2, (h'.at_ 2 rfl).cell 3, (h'.at_ 3 rfl).cell 0, (h'.at_ 3 rfl).cell 1, (h'.at_ 3 rfl).cell 2, (h'.at_ 3 rfl).cell 3, (h'.at_ 3 rfl).cell 4, (h'.at_ 3 rfl).cell 5, h'⟩)
                  have hT : WA.cell? ⟨g14, 0, none⟩ = some (.int .i64 x) ∧ WA.cell? ⟨g14, 1, none⟩ = some (.int .i64 y) ∧ WA.cell? ⟨g14, 2, none⟩ = some (.int .i64 z) ∧ WA.cell? ⟨g14, 3, none⟩ = some (.int .i64 1) ∧ WA.cell? ⟨w8.heap.size, 0, none⟩ = some (.int .i64 x) ∧ WA.cell? ⟨w8.heap.size, 1, none⟩ = some (.int .i64 1) ∧ WA.cell? ⟨w8.heap.size, 2, none⟩ = some (.int .i64 y) ∧ WA.cell? ⟨w8.heap.size, 3, none⟩ = some (.int .i64 1) ∧ WA.cell? ⟨w8.heap.size, 4, none⟩ = some (.int .i64 z) ∧ WA.cell? ⟨w8.heap.size, 5, none⟩ = some (.int .i64 1) ∧ Hp w [(w.heap.size, 22, [.int .i64 x0, .int .i64 x1, .int .i64 x2]), (w.heap.size + 1, 23, [.int .i64 r0, .int .i64 r1]), (g14, 34, [.int .i64 x, .int .i64 y, .int .i64 z, .int .i64 1]), (w8.heap.size, 28, [.int .i64 x, .int .i64 1, .int .i64 y, .int .i64 1, .int .i64 z, .int .i64 1])] WA := ⟨(HMA.out.at_ 2 rfl).cell 0, (HMA.out.at_ 2 rfl).cell 1, (HMA.out.at_ 2 rfl).cell 2, (HMA.out.at_ 2 rfl).cell 3, (HMA.out.at_ 3 rfl).cell 0, (HMA.out.at_ 3 rfl).cell 1, (HMA.out.at_ 3 rfl).cell 2, (HMA.out.at_ 3 rfl).cell 3, (HMA.out.at_ 3 rfl).cell 4, (HMA.out.at_ 3 rfl).cell 5, HMA.out⟩
                  go_region_held3 (fun w' => w'.cell? ⟨g14, 0, none⟩ = some (.int .i64 x) ∧ w'.cell? ⟨g14, 1, none⟩ = some (.int .i64 y) ∧ w'.cell? ⟨g14, 2, none⟩ = some (.int .i64 z) ∧ w'.cell? ⟨g14, 3, none⟩ = some (.int .i64 1) ∧ w'.cell? ⟨w8.heap.size, 0, none⟩ = some (.int .i64 x) ∧ w'.cell? ⟨w8.heap.size, 1, none⟩ = some (.int .i64 1) ∧ w'.cell? ⟨w8.heap.size, 2, none⟩ = some (.int .i64 y) ∧ w'.cell? ⟨w8.heap.size, 3, none⟩ = some (.int .i64 1) ∧ w'.cell? ⟨w8.heap.size, 4, none⟩ = some (.int .i64 z) ∧ w'.cell? ⟨w8.heap.size, 5, none⟩ = some (.int .i64 1) ∧ Hp w [(w.heap.size, 22, [.int .i64 x0, .int .i64 x1, .int .i64 x2]), (w.heap.size + 1, 23, [.int .i64 r0, .int .i64 r1]), (g14, 34, [.int .i64 x, .int .i64 y, .int .i64 z, .int .i64 1]), (w8.heap.size, 28, [.int .i64 x, .int .i64 1, .int .i64 y, .int .i64 1, .int .i64 z, .int .i64 1])] w') (first | assumption | exact HKB.out _ _ hT (bw_drew (Below.refl _ _)) | exact HKB.out _ _ (by assumption) hbel)
                    (first | (go_at_call 14; refine (HSZ.out _).mono ?_; rintro e w' ⟨rfl, hbel⟩))
                  have hf : w'.cell? ⟨g14, 0, none⟩ = some (.int .i64 x) ∧ w'.cell? ⟨g14, 1, none⟩ = some (.int .i64 y) ∧ w'.cell? ⟨g14, 2, none⟩ = some (.int .i64 z) ∧ w'.cell? ⟨g14, 3, none⟩ = some (.int .i64 1) ∧ w'.cell? ⟨w8.heap.size, 0, none⟩ = some (.int .i64 x) ∧ w'.cell? ⟨w8.heap.size, 1, none⟩ = some (.int .i64 1) ∧ w'.cell? ⟨w8.heap.size, 2, none⟩ = some (.int .i64 y) ∧ w'.cell? ⟨w8.heap.size, 3, none⟩ = some (.int .i64 1) ∧ w'.cell? ⟨w8.heap.size, 4, none⟩ = some (.int .i64 z) ∧ w'.cell? ⟨w8.heap.size, 5, none⟩ = some (.int .i64 1) ∧ Hp w [(w.heap.size, 22, [.int .i64 x0, .int .i64 x1, .int .i64 x2]), (w.heap.size + 1, 23, [.int .i64 r0, .int .i64 r1]), (g14, 34, [.int .i64 x, .int .i64 y, .int .i64 z, .int .i64 1]), (w8.heap.size, 28, [.int .i64 x, .int .i64 1, .int .i64 y, .int .i64 1, .int .i64 z, .int .i64 1])] w' := by assumption
                  have HMB := Lib.hid hf.2.2.2.2.2.2.2.2.2.2
                  clear hf
                  go_wp2
                  go_ret
                  exact ⟨rfl, HMB.out.below⟩
                · have HA := Lib.hid hA
                  have HB := Lib.hid hB
                  clear hA hB
                  have heq := fun W => eql_size W 0 0 0 0 0 0 0 0 0 0 0 0
                  simp only [szB_self] at heq
                  refine (HA.out _).mono ?_
                  rintro e w8 ⟨rfl, hb⟩
                  have HM8 := Lib.hid (show Hp w [(w.heap.size, 22, [.int .i64 x0, .int .i64 x1, .int .i64 x2]), (w.heap.size + 1, 23, [.int .i64 r0, .int .i64 r1]), (g14, 34, [.int .i64 o0, .int .i64 o1, .int .i64 o2, .int .i64 o3]), (w8.heap.size, 28, [.int .i64 0, .int .i64 0, .int .i64 0, .int .i64 0, .int .i64 0, .int .i64 0])] _ from (HM7.out.step hb).new 28 [.int .i64 0, .int .i64 0, .int .i64 0, .int .i64 0, .int .i64 0, .int .i64 0])
                  have hl8 : w.heap.size + 1 < w8.heap.size := ((HM7.out.step hb).at_ 1 rfl).lt
                  obtain ⟨u2, u3⟩ := (⟨((HM7.out.step hb).at_ 1 rfl).cell 0, ((HM7.out.step hb).at_ 1 rfl).cell 1⟩ : _ ∧ _)
                  clear hb HM7 u0 u1
                  go_wp2_with fail
                  refine (HB.out _).mono ?_
                  rintro e w9 ⟨rfl, hb⟩
                  have HM9 := Lib.hid (HM8.out.step hb)
                  have hne : g14 ≠ w8.heap.size := HM9.out.ne 2 3 rfl rfl (by decide)
                  clear hb HM8 u2 u3 hl8
                  obtain ⟨v0, v1, v2, v3⟩ := four_of (HM9.out.at_ 2 rfl)
                  obtain ⟨f0, f1, f2, f3⟩ := four_free (HM9.out.at_ 2 rfl)
                  obtain ⟨WA, hWA⟩ : ∃ WA, WA = ((((w9.setCell ⟨g14, 0, none⟩ (.int .i64 x)).setCell ⟨g14, 1, none⟩ (.int .i64 y)).setCell ⟨g14, 2, none⟩ (.int .i64 z)).setCell ⟨g14, 3, none⟩ (.int .i64 1)) := ⟨_, rfl⟩
                  have hma := HM9.out.put4 2 rfl (.int .i64 x) (.int .i64 y) (.int .i64 z) (.int .i64 1)
                  rw [← hWA] at hma
                  have HMA := Lib.hid hma
                  have hk6 := six_of (hma.at_ 3 rfl)
                  rw [hWA] at hk6
                  have HWA := Lib.hid hWA
                  obtain ⟨t0, t1, t2, t3, t4, t5⟩ := hk6
                  clear hma HM9 HA HB hWA
                  go_wp2
                  go_ret
                  exact ⟨rfl, HWA.out ▸ HMA.out.below⟩
              · have c1' : r1 < 1 := by omega
                have HA := Lib.hid (fun W => ratio_low r0 r1 W (.inr c1'))
                have heq := fun W => eql_size W 0 0 0 0 0 0 0 0 0 0 0 0
                simp only [szB_self] at heq
                refine (HA.out _).mono ?_
                rintro e w8 ⟨rfl, hb⟩
                have HM8 := Lib.hid (HM7.out.step hb)
                obtain ⟨u2, u3⟩ := (⟨(HM8.out.at_ 1 rfl).cell 0, (HM8.out.at_ 1 rfl).cell 1⟩ : _ ∧ _)
                have hl8 : w.heap.size + 1 < w8.heap.size := (HM8.out.at_ 1 rfl).lt
                clear hb HM7 u0 u1 HA
                go_wp2
                go_ret
                exact ⟨rfl, bw_new HM8.out.below _⟩
            · have c1' : r0 < 1 := by omega
              have HA := Lib.hid (fun W => ratio_low r0 r1 W (.inl c1'))
              have heq := fun W => eql_size W 0 0 0 0 0 0 0 0 0 0 0 0
              simp only [szB_self] at heq
              refine (HA.out _).mono ?_
              rintro e w8 ⟨rfl, hb⟩
              have HM8 := Lib.hid (HM7.out.step hb)
              obtain ⟨u2, u3⟩ := (⟨(HM8.out.at_ 1 rfl).cell 0, (HM8.out.at_ 1 rfl).cell 1⟩ : _ ∧ _)
              have hl8 : w.heap.size + 1 < w8.heap.size := (HM8.out.at_ 1 rfl).lt
              clear hb HM7 u0 u1 HA
              go_wp2
              go_ret
              exact ⟨rfl, bw_new HM8.out.below _⟩
          · clear hm0 hm1
            have hmb' : 1000000000 < m := by omega
            clear hmb
            go_wp2
            go_ret
            exact ⟨rfl, HM7.out.below⟩
end Go.Proofs.YtplonkeipdbchaaDoor
