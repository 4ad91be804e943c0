/- The law's before. Conditions: the task is right and the way's lengths are known. -/
import Derived.Test.YtfickhncbahekaaDoorTunAwayW
import Derived.Test.YtfickhncbahekaaDoorTunLaw0
namespace Go.Proofs.YtfickhncbahekaaDoor
open Go.RowKit

set_option maxRecDepth 1000000 in
set_option maxHeartbeats 8000000 in
theorem before_any (f : Int) (s : Nat × Nat) (lo hi : Int) (D : List Int) (g : Nat) (n : Nat) (e0 : Nat) (w : World) (h0 : 0 ≤ lo) (h1 : hi ≤ 127) (hf : lo ≤ f ∧ f ≤ hi) (ha : Awd lo hi f D) (hn : Ds lo hi f n (e0 + 1)) (hg : Blk w g 3 (D.map i64v)) :
    Calls Tryd.prog 55 #[tv f s lo hi, .slice (some ⟨g, 0, none⟩) 128 128, .int .i64 (n : Int)] w fun e w' => ∃ m, e = .returned (.int .i64 m) ∧ IsFr lo hi f n m e0 ∧ Below w.heap.size w w' := by
  obtain ⟨s1, s2⟩ := s
  unfold tv
  dsimp only
  have hnr := hn.1.range hf
  have hm0 := (Hp.start w).new 43 (tkcs f (s1 : Int) (s2 : Int) lo hi)
  simp only [List.nil_append] at hm0
  have c3 : (w.alloc (.cells (tkcs f (s1 : Int) (s2 : Int) lo hi).toArray 43)).cell? ⟨w.heap.size, 3, none⟩ = some (.int .i64 lo) := (hm0.at_ 0 rfl).cell 3
  have HM := Lib.hid hm0
  have HA := Lib.hid ha
  have HN := Lib.hid hn
  have HG := Lib.hid hg
  have hdn : dz D n = ((e0 + 1 : Nat) : Int) := (ha.aw n (e0 + 1) (by unfold isN; omega)).2 hn
  have HDN := Lib.hid hdn
  have he0 := ha.le n (by unfold isN; omega)
  rw [hdn] at he0
  clear hm0 ha hn hg hdn
  go_enter Tryd.func55, Tryd.ntmps55
  go_wp2_with fail
  go_loopw [7] (fun u wx => ∃ k : Int, u = .int .i64 k ∧ lo ≤ k ∧ k ≤ hi + 1 ∧ Hp w [(w.heap.size, 43, tkcs f s1 s2 lo hi)] wx ∧ ∀ k', lo ≤ k' → k' < k → ¬ (n - k' ∈ bys ∧ dz D k' = e0)) (fun u _ => (hi + 1 - intOf u).toNat)
  case atStart => exact ⟨lo, rfl, by omega, by omega, HM.out, fun k' q1 q2 => absurd q2 (by omega)⟩
  case round =>
    obtain ⟨k, rfl, hk0, hk1, hp, hno⟩ := hrel
    have c4 : wr.cell? ⟨w.heap.size, 4, none⟩ = some (.int .i64 hi) := (hp.at_ 0 rfl).cell 4
    have HP := Lib.hid hp
    have HNO := Lib.hid hno
    clear c3 hp hno
    by_cases hkh : k ≤ hi
    · obtain ⟨kk, rfl⟩ : ∃ kk : Nat, k = kk := ⟨k.toNat, by omega⟩
      have HW := Lib.hid (lway_any (kk : Int) (n : Int) wr (by unfold isN; omega) (by unfold isN; omega))
      obtain ⟨x, hx⟩ : ∃ x, x = (wayOf ((n : Int) - kk)).getD (0, 0) := ⟨_, rfl⟩
      obtain ⟨c, hc⟩ : ∃ c, c = (wayOf ((n : Int) - kk)).isSome := ⟨_, rfl⟩
      rw [← hx, ← hc] at HW
      obtain ⟨xa, xb⟩ := x
      have HC := Lib.hid (show c = true ↔ (n : Int) - kk ∈ bys by rw [hc, bys_way, Option.isSome_iff_exists])
      unfold wv at HW
      dsimp only at HW
      clear hx hc
      go_wp2_with fail
      refine HW.out.mono ?_
      rintro e w2 ⟨rfl, hb2⟩
      have hp3 := (HP.out.step hb2).alloc (.cells #[.int .i64 xa, .int .i64 xb] 50)
      have hg3 := ((HG.out.below HP.out.below HG.out.lt).step hb2).alloc (.cells #[.int .i64 xa, .int .i64 xb] 50)
      have HP3 := Lib.hid hp3
      obtain ⟨dk, hdk⟩ : ∃ dk, dk = dz D kk := ⟨_, rfl⟩
      have HDK := Lib.hid hdk
      have hkl : (kk : Int) < 128 := by omega
      have hnl : (n : Int) < 128 := by omega
      have cn : ((w2.alloc (.cells #[.int .i64 xa, .int .i64 xb] 50)).drew).cell? ⟨g, n, none⟩ = some (.int .i64 ((e0 : Int) + 1)) := by
        have := hg3.cell n
        rw [dget HA.out.len (by omega), HDN.out] at this
        exact this
      have ck : ((w2.alloc (.cells #[.int .i64 xa, .int .i64 xb] 50)).drew).cell? ⟨g, kk, none⟩ = some (.int .i64 dk) := by
        have := hg3.cell kk
        rw [dget HA.out.len (by omega), ← hdk] at this
        exact this
      have hwe : IntKind.i64.wrap ((e0 : Int) + 1 - 1) = (e0 : Int) := by rw [show (e0 : Int) + 1 - 1 = e0 by omega]; exact IntWalk.i64_in _ (by omega)
      have hwe2 : (e0 : Int) + 1 - 1 = (e0 : Int) := by omega
      have HFR := Lib.hid (show c = true → dk = e0 → IsFr lo hi f n kk e0 from fun q1 q2 =>
        ⟨HN.out, (HA.out.aw kk e0 (by unfold isN; omega)).1 (by rw [← HDK.out]; exact q2), HC.out.1 q1, fun m' hd hb => by
          by_cases q : m' < kk
          · have hmr := hd.1.range hf
            exact absurd ⟨hb, (HA.out.aw m' e0 (by unfold isN; omega)).2 hd⟩ (HNO.out m' hmr.1 q)
          · omega⟩)
      clear hb2 hp3 hg3 hdk c4
      by_cases hcd : c = true
      · subst hcd
        by_cases hde : dk = (e0 : Int)
        · have HF := Lib.hid (HFR.out rfl hde)
          have hdb : (dk == (e0 : Int)) = true := by simpa using hde
          go_wp2_with fail
          go_region
          all_goals
            go_wp2
            go_ret
            exact ⟨_, rfl, HF.out, HP3.out.drew.below⟩
        · have hdb : (dk == (e0 : Int)) = false := by simpa using hde
          go_wp2_with fail
          go_region
          all_goals
            go_wp2
            go_roundw
            case rel => exact ⟨(kk : Int) + 1, rfl, by omega, by omega, HP3.out.drew, fun k' q1 q2 => by
              by_cases q : k' = kk
              · rw [q, ← HDK.out]; exact fun z => hde z.2
              · exact HNO.out k' q1 (by omega)⟩
            case measure => simp [intOf]; omega
      · have hcf : c = false := by simpa using hcd
        subst hcf
        go_wp2_with fail
        go_region
        all_goals
          go_wp2
          go_roundw
          case rel => exact ⟨(kk : Int) + 1, rfl, by omega, by omega, HP3.out.drew, fun k' q1 q2 => by
            by_cases q : k' = kk
            · rw [q]; exact fun z => absurd (HC.out.2 z.1) (by simp)
            · exact HNO.out k' q1 (by omega)⟩
          case measure => simp [intOf]; omega
    · exfalso
      obtain ⟨m, hm⟩ := HN.out.has_fr
      have hmr := hm.2.1.1.range hf
      exact HNO.out m hmr.1 (by omega) ⟨hm.2.2.1, (HA.out.aw m e0 (by unfold isN; omega)).2 hm.2.1⟩
end Go.Proofs.YtfickhncbahekaaDoor
