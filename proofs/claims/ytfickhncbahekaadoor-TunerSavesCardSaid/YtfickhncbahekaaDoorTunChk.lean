/- The law's first, check, redundant. Conditions: the steps lie in a slice. -/
import Derived.Test.YtfickhncbahekaaDoorTunLaw0
import Derived.Test.YtfickhncbahekaaDoorTunCalls
namespace Go.Proofs.YtfickhncbahekaaDoor
open Go.RowKit

theorem toIx_app (n : Int) : ∀ (l r : List (Int × Int)) (i : Nat), toIx n l i ≠ -2 → toIx n (l ++ r) i = toIx n l i
  | [], _, _, h => absurd rfl h
  | x :: l, r, i, h => by
    show (if x.2 = n then (i : Int) else toIx n (l ++ r) (i + 1)) = if x.2 = n then (i : Int) else toIx n l (i + 1)
    by_cases e : x.2 = n
    · rw [if_pos e, if_pos e]
    · have h2 : toIx n l (i + 1) ≠ -2 := fun q => h (by show (if x.2 = n then (i : Int) else toIx n l (i + 1)) = -2; rw [if_neg e]; exact q)
      rw [if_neg e, if_neg e, toIx_app n l r (i + 1) h2]
theorem firstZ_more {f : Int} {L : List (Int × Int)} {n : Int} {a b : Nat} (h : firstZ f L n a ≠ -2) (hab : a ≤ b) : firstZ f L n b = firstZ f L n a := by
  unfold firstZ at h ⊢
  by_cases e : n = f
  · rw [if_pos e, if_pos e]
  · rw [if_neg e] at h
    rw [if_neg e, if_neg e]
    have : L.take b = L.take a ++ (L.drop a).take (b - a) := by
      rw [show b = a + (b - a) by omega, List.take_add]
      simp
    rw [this]
    exact toIx_app n _ _ 0 h
theorem firstZ_long {f : Int} {L : List (Int × Int)} {n : Int} {b : Nat} (h : L.length ≤ b) : firstZ f L n b = firstZ f L n L.length := by
  unfold firstZ
  rw [List.take_of_length_le h, List.take_of_length_le (Nat.le_refl _)]

set_option maxRecDepth 1000000 in
set_option maxHeartbeats 8000000 in
theorem lfirst_any (f n : Int) (c : Nat) (A : Option Addr) (m cap : Nat) (L : List (Int × Int)) (w : World) (ha : OArg w w.heap.size A m cap L) (hc : (c : Int) ≤ 9223372036854775807) :
    Calls Tryd.prog 40 #[.agg #[.int .i64 f, .slice A m cap], .int .i64 n, .int .i64 (c : Int)] w fun e w' => e = .returned (.int .i64 (firstZ f L n c)) ∧ Below w.heap.size w w' := by
  have hm0 := (Hp.start w).new 25 [.int .i64 f, .slice A m cap]
  simp only [List.nil_append] at hm0
  have HM := Lib.hid hm0
  have HA := Lib.hid ha
  have hmx : (m : Int) ≤ 9223372036854775807 := by have := ha.cp; have := ha.mx; unfold maxLen at this; omega
  obtain ⟨x, hx⟩ : ∃ x, x = firstZ f L n c := ⟨_, rfl⟩
  rw [← hx]
  have HX := Lib.hid hx
  clear hx
  by_cases hn : n = f
  · have HE := Lib.hid (show x = -1 by rw [HX.out]; unfold firstZ; rw [if_pos hn])
    subst hn
    clear hm0 ha
    go_enter Tryd.func40, Tryd.ntmps40
    go_wp2
    go_ret
    exact ⟨by rw [HE.out]; rfl, HM.out.below⟩
  · have hnb : (n == f) = false := by simpa using hn
    have c1' : (w.alloc (.cells #[.int .i64 f, .slice A m cap] 25)).cell? ⟨w.heap.size, 1, none⟩ = some (.slice A m cap) := (hm0.at_ 0 rfl).cell 1
    have HNF := Lib.hid hn
    clear hm0 ha hn
    go_enter Tryd.func40, Tryd.ntmps40
    go_wp2_with fail
    go_loop [7] (fun u => ∃ i : Nat, u = .int .i64 (i : Int) ∧ i ≤ c ∧ i ≤ m ∧ firstZ f L n i = -2) (fun u => m - (intOf u).toNat)
    case atStart => exact ⟨0, rfl, by omega, by omega, by unfold firstZ; rw [if_neg HNF.out]; rfl⟩
    case round =>
      obtain ⟨i, rfl, hic, him, hno⟩ := hrel
      have HNO := Lib.hid hno
      clear hno
      by_cases h1 : i < c
      · by_cases h2 : i < m
        · obtain ⟨b, off, rfl, hb, hs⟩ := HA.out.rd.at_ (by rw [HA.out.len]; omega)
          have hq := (hs i (by rw [HA.out.len]; omega)).keep (fun o => (HM.out.below.cell (p := ⟨b, o, none⟩) hb))
          obtain ⟨y, hy⟩ : ∃ y, y = (L.getD i (0, 0)).2 := ⟨_, rfl⟩
          have hq1 : (w.alloc (.cells #[.int .i64 f, .slice (some ⟨b, off, none⟩) m cap] 25)).cell? ⟨b, off + i * 2 + 1, none⟩ = some (.int .i64 y) := by rw [hy]; exact hq.2
          have HY := Lib.hid hy
          have HSC := Lib.hid (firstZ_succ f L n i (by rw [HA.out.len]; exact h2))
          clear hs hq hy
          by_cases hyn : y = n
          · subst hyn
            have HE := Lib.hid (show x = (i : Int) by
              have e1 : firstZ f L y (i + 1) = (i : Int) := by rw [HSC.out, if_pos HNO.out, if_pos HY.out.symm]
              rw [HX.out, firstZ_more (a := i + 1) (by rw [e1]; omega) (by omega), e1])
            go_wp2
            go_ret
            exact ⟨by rw [HE.out]; rfl, HM.out.below⟩
          · have hyb : (y == n) = false := by simpa using hyn
            have HYN := Lib.hid hyn
            clear hyn
            go_wp2
            go_round
            case rel => exact ⟨i + 1, by go_num, by omega, by omega, by rw [HSC.out, if_pos HNO.out, if_neg (by rw [← HY.out]; exact HYN.out)]⟩
            case measure => simp [intOf]; omega
        · obtain rfl : i = m := by omega
          have HE := Lib.hid (show x = -2 by rw [HX.out, firstZ_long (b := c) (by rw [HA.out.len]; omega), HA.out.len]; exact HNO.out)
          go_wp2
          go_ret
          exact ⟨by rw [HE.out]; rfl, HM.out.below⟩
      · obtain rfl : i = c := by omega
        have HE := Lib.hid (show x = -2 by rw [HX.out]; exact HNO.out)
        go_wp2
        go_ret
        exact ⟨by rw [HE.out]; rfl, HM.out.below⟩

set_option maxRecDepth 1000000 in
set_option maxHeartbeats 8000000 in
theorem lcheck_any (f : Int) (A : Option Addr) (m cap : Nat) (L : List (Int × Int)) (w : World) (ha : OArg w w.heap.size A m cap L) :
    Calls Tryd.prog 14 #[.agg #[.int .i64 f, .slice A m cap]] w fun e w' => e = .returned (.int .i64 (runE f L)) ∧ Below w.heap.size w w' := by
  have HN := Lib.hid (fun n W => lnote_any n W)
  have HF := Lib.hid (fun (p : Int) (k : Nat) W (hW : OArg W W.heap.size A m cap L) (hk : (k : Int) ≤ 9223372036854775807) => lfirst_any f p k A m cap L W hW hk)
  have hm0 := (Hp.start w).new 25 [.int .i64 f, .slice A m cap]
  simp only [List.nil_append] at hm0
  have HM := Lib.hid hm0
  have HA := Lib.hid ha
  have hmx : (m : Int) ≤ 9223372036854775807 := by have := ha.cp; have := ha.mx; unfold maxLen at this; omega
  obtain ⟨x, hx⟩ : ∃ x, x = runE f L := ⟨_, rfl⟩
  rw [← hx]
  rw [runE_chk] at hx
  by_cases hf : isN f
  · rw [if_neg (by exact not_not_intro hf)] at hx
    have HNF := Lib.hid ((isNB_iff f).2 hf)
    by_cases hl : (200 : Int) < m
    · rw [if_pos (by rw [ha.len]; omega)] at hx
      have HX := Lib.hid hx
      clear hm0 ha hx hf
      go_enter Tryd.func14, Tryd.ntmps14
      go_wp2_with fail
      refine (HN.out _ _).mono ?_
      rintro e w1 ⟨rfl, rfl⟩
      rw [HNF.out]
      go_wp2_with fail
      go_ret
      exact ⟨by rw [HX.out]; rfl, HM.out.below⟩
    · rw [if_neg (by rw [ha.len]; omega), ha.len] at hx
      have HX := Lib.hid hx
      clear hm0 ha hx hf
      go_enter Tryd.func14, Tryd.ntmps14
      go_wp2_with fail
      refine (HN.out _ _).mono ?_
      rintro e w1 ⟨rfl, rfl⟩
      rw [HNF.out]
      go_wp2_with fail
      go_loopw [3] (fun u wx => ∃ i : Nat, u = .int .i64 (i : Int) ∧ i ≤ m ∧ (∀ j, j < i → chkE f L j = 0) ∧ Hp w [(w.heap.size, 25, [.int .i64 f, .slice A m cap])] wx) (fun u _ => m - (intOf u).toNat)
      case atStart => exact ⟨0, rfl, by omega, fun j h => absurd h (by omega), HM.out⟩
      case round =>
        obtain ⟨i, rfl, him, hz, hp⟩ := hrel
        have HZ := Lib.hid hz
        have HP := Lib.hid hp
        have c1' : wr.cell? ⟨w.heap.size, 1, none⟩ = some (.slice A m cap) := (hp.at_ 0 rfl).cell 1
        clear hz hp
        by_cases hil : i < m
        · obtain ⟨b, off, rfl, hb, hs⟩ := HA.out.rd.at_ (by rw [HA.out.len]; omega)
          have hq := (hs i (by rw [HA.out.len]; omega)).keep (fun o => (HP.out.below.cell (p := ⟨b, o, none⟩) hb))
          obtain ⟨x0, hx0⟩ : ∃ y, y = L.getD i (0, 0) := ⟨_, rfl⟩
          rw [← hx0] at hq
          obtain ⟨p, q⟩ := x0
          have hq0 : wr.cell? ⟨b, off + i * 2, none⟩ = some (.int .i64 p) := hq.1
          have hq1 : wr.cell? ⟨b, off + i * 2 + 1, none⟩ = some (.int .i64 q) := hq.2
          have HE := Lib.hid (show chkE f L i = if ¬ (isN p ∧ isN q) then 3 else if wayOf (q - p) = none then 7 else if firstZ f L p i = -2 then 19 else 0 by unfold chkE; rw [← hx0])
          have HH := Lib.hid (fun (h : chkE f L i ≠ 0) => scanE_hit HZ.out hil h)
          have hp2 := HP.out.new 27 [.int .i64 p, .int .i64 q]
          simp only [List.cons_append, List.nil_append] at hp2
          have HP2 := Lib.hid hp2
          clear hs hq hx0 hp2
          by_cases hpn : isN p
          · have HPN := Lib.hid ((isNB_iff p).2 hpn)
            by_cases hqn : isN q
            · have HQN := Lib.hid ((isNB_iff q).2 hqn)
              have HPQ := Lib.hid (And.intro hpn hqn)
              have HW := Lib.hid (lway_any p q (wr.alloc (.cells #[.int .i64 p, .int .i64 q] 27)) hpn hqn)
              obtain ⟨y, hy⟩ : ∃ y, y = (wayOf (q - p)).getD (0, 0) := ⟨_, rfl⟩
              obtain ⟨c, hc⟩ : ∃ c, c = (wayOf (q - p)).isSome := ⟨_, rfl⟩
              rw [← hy, ← hc] at HW
              unfold wv at HW
              have HC := Lib.hid hc
              obtain ⟨ya, yb⟩ := y
              dsimp only at HW
              clear hpn hqn hy hc
              go_wp2_with fail
              refine (HN.out _ _).mono ?_
              rintro e w1 ⟨rfl, rfl⟩
              rw [HPN.out]
              go_wp2_with fail
              refine (HN.out _ _).mono ?_
              rintro e w1 ⟨rfl, rfl⟩
              rw [HQN.out]
              go_wp2_with fail
              refine HW.out.mono ?_
              rintro e w2 ⟨rfl, hb2⟩
              have hp3 := (HP2.out.step hb2).alloc (.cells #[.int .i64 ya, .int .i64 yb] 50)
              have HP3 := Lib.hid hp3
              clear hb2 hp3 hq0 hq1 c1'
              cases c with
              | true =>
                have HE2 := Lib.hid (show chkE f L i = if firstZ f L p i = -2 then 19 else 0 by
                  rw [HE.out, if_neg (not_not_intro HPQ.out), if_neg (by intro h; have := HC.out; rw [h] at this; cases this)])
                obtain ⟨z, hz⟩ : ∃ z, z = firstZ f L p i := ⟨_, rfl⟩
                have hoa : OArg (w2.alloc (.cells #[.int .i64 ya, .int .i64 yb] 50)) (w2.alloc (.cells #[.int .i64 ya, .int .i64 yb] 50)).heap.size (some ⟨b, off, none⟩) m cap L := HA.out.step HP3.out.below
                have HFF := Lib.hid (HF.out p i _ hoa (by omega))
                rw [← hz] at HFF
                have HZ2 := Lib.hid hz
                have c0 : (w2.alloc (.cells #[.int .i64 ya, .int .i64 yb] 50)).cell? ⟨w.heap.size, 0, none⟩ = some (.int .i64 f) := (HP3.out.at_ 0 rfl).cell 0
                have c1 : (w2.alloc (.cells #[.int .i64 ya, .int .i64 yb] 50)).cell? ⟨w.heap.size, 1, none⟩ = some (.slice (some ⟨b, off, none⟩) m cap) := (HP3.out.at_ 0 rfl).cell 1
                have d0 : (w2.alloc (.cells #[.int .i64 ya, .int .i64 yb] 50)).cell? ⟨wr.heap.size, 0, none⟩ = some (.int .i64 p) := (HP3.out.at_ 1 rfl).cell 0
                clear hoa hz
                go_wp2_with fail
                refine HFF.out.mono ?_
                rintro e w4 ⟨rfl, hb4⟩
                have HP4 := Lib.hid (HP3.out.step hb4)
                clear hb4
                by_cases hz2 : z = -2
                · have HX2 := Lib.hid (show x = 19 by rw [HX.out, HH.out (by rw [HE2.out, if_pos (by rw [← HZ2.out]; exact hz2)]; decide), HE2.out, if_pos (by rw [← HZ2.out]; exact hz2)])
                  subst hz2
                  go_wp2
                  go_ret
                  exact ⟨by rw [HX2.out]; rfl, HP4.out.below⟩
                · have HZZ := Lib.hid (show chkE f L i = 0 by rw [HE2.out, if_neg (by rw [← HZ2.out]; exact hz2)])
                  have hzb : (z == -2) = false := by simpa using hz2
                  clear hz2
                  go_wp2
                  go_roundw
                  case rel => exact ⟨i + 1, by go_num, by omega, fun j hj => by
                    by_cases e : j = i
                    · rw [e]; exact HZZ.out
                    · exact HZ.out j (by omega), HP4.out.sub (by simp)⟩
                  case measure => simp [intOf]; omega
              | false =>
                have HX2 := Lib.hid (show x = 7 by
                  have e : chkE f L i = 7 := by
                    rw [HE.out, if_neg (not_not_intro HPQ.out), if_pos (by have := HC.out; cases h : wayOf (q - p) with | none => rfl | some v => rw [h] at this; cases this)]
                  rw [HX.out, HH.out (by rw [e]; decide), e])
                go_wp2
                go_ret
                exact ⟨by rw [HX2.out]; rfl, HP3.out.below⟩
            · have HQN := Lib.hid (show isNB q = false by rw [← Bool.not_eq_true, isNB_iff]; exact hqn)
              have HX2 := Lib.hid (show x = 3 by
                have e : chkE f L i = 3 := by rw [HE.out, if_pos (fun h => hqn h.2)]
                rw [HX.out, HH.out (by rw [e]; decide), e])
              clear hpn hqn
              go_wp2_with fail
              refine (HN.out _ _).mono ?_
              rintro e w1 ⟨rfl, rfl⟩
              rw [HPN.out]
              go_wp2_with fail
              refine (HN.out _ _).mono ?_
              rintro e w1 ⟨rfl, rfl⟩
              rw [HQN.out]
              go_wp2
              go_ret
              exact ⟨by rw [HX2.out]; rfl, HP2.out.below⟩
          · have HPN := Lib.hid (show isNB p = false by rw [← Bool.not_eq_true, isNB_iff]; exact hpn)
            have HX2 := Lib.hid (show x = 3 by
              have e : chkE f L i = 3 := by rw [HE.out, if_pos (fun h => hpn h.1)]
              rw [HX.out, HH.out (by rw [e]; decide), e])
            clear hpn
            go_wp2_with fail
            refine (HN.out _ _).mono ?_
            rintro e w1 ⟨rfl, rfl⟩
            rw [HPN.out]
            go_wp2
            go_ret
            exact ⟨by rw [HX2.out]; rfl, HP2.out.below⟩
        · obtain rfl : i = m := by omega
          have HX2 := Lib.hid (show x = 0 by rw [HX.out]; exact scanE_zero (fun j _ h => HZ.out j (by omega)))
          go_wp2
          go_ret
          exact ⟨by rw [HX2.out]; rfl, HP.out.below⟩
  · rw [if_pos hf] at hx
    have HNF := Lib.hid (show isNB f = false by rw [← Bool.not_eq_true, isNB_iff]; exact hf)
    have HX := Lib.hid hx
    clear hm0 ha hx hf
    go_enter Tryd.func14, Tryd.ntmps14
    go_wp2_with fail
    refine (HN.out _ _).mono ?_
    rintro e w1 ⟨rfl, rfl⟩
    rw [HNF.out]
    go_wp2
    go_ret
    exact ⟨by rw [HX.out]; rfl, HM.out.below⟩
end Go.Proofs.YtfickhncbahekaaDoor
