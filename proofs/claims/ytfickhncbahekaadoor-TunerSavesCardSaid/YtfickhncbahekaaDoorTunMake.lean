/- The set of a plan of a set: some right set. Conditions: the plan's numbers are of 8 and of 16 bits. The law's Make: a right task. Conditions: the plan's numbers are of 8 and of 16 bits. -/
import Derived.Test.YtfickhncbahekaaDoorNsetC
import Derived.Test.YtfickhncbahekaaDoorTunReg
import Derived.IntWalk
import Derived.Test.YtfickhncbahekaaDoorTunTask
import Derived.RegionTactic
import Derived.Deep.DeepCutAuto
namespace Go.Proofs.YtfickhncbahekaaDoor
section
open Go.RowKit

set_option maxRecDepth 100000 in
set_option maxHeartbeats 4000000 in
theorem mk03_any (a b : Nat) (w : World) (ha : a ≤ 255) (hb : b ≤ 65535) :
    Calls Tryd.prog 38 #[.agg #[.int .u8 (a : Int), .int .u16 (b : Int)]] w fun e w' => ∃ s, NOk s ∧ e = .returned (nv s) ∧ Below w.heap.size w w' := by
  have HW := Lib.hid (fun (s : Nat × Nat) n W hs hn => refWith_any s n W hs hn)
  have hm0 := (((Hp.start w).new 33 [.int .u8 (a : Int), .int .u16 (b : Int)]).new 39 [.int .u64 0, .int .u64 0]).new 39 [.int .u64 0, .int .u64 0]
  simp only [World.size_alloc, List.nil_append, List.cons_append] at hm0
  have HM := Lib.hid hm0
  clear hm0
  go_enter Tryd.func38, Tryd.ntmps38
  go_wp2_with fail
  go_loopw [4] (fun u wx => ∃ (i : Nat) (s : Nat × Nat), u = .int .i64 (i : Int) ∧ i ≤ 16 ∧ NOk s ∧ Hp w [(w.heap.size, 33, [.int .u8 (a : Int), .int .u16 (b : Int)]), (w.heap.size + 1, 39, [.int .u64 0, .int .u64 0]), (w.heap.size + 2, 39, [.int .u64 (s.1 : Int), .int .u64 (s.2 : Int)])] wx) (fun u _ => 16 - (intOf u).toNat)
  case atStart => exact ⟨0, (0, 0), rfl, by omega, ⟨by decide, by decide⟩, HM.out⟩
  case round =>
    obtain ⟨i, s, rfl, hi, hs, hp⟩ := hrel
    obtain ⟨s1, s2⟩ := s
    dsimp only at hp
    have HP := Lib.hid hp
    have HS := Lib.hid hs
    have c0 : wr.cell? ⟨w.heap.size, 0, none⟩ = some (.int .u8 (a : Int)) := (hp.at_ 0 rfl).cell 0
    have c1 : wr.cell? ⟨w.heap.size, 1, none⟩ = some (.int .u16 (b : Int)) := (hp.at_ 0 rfl).cell 1
    have d0 : wr.cell? ⟨w.heap.size + 2, 0, none⟩ = some (.int .u64 (s1 : Int)) := (hp.at_ 2 rfl).cell 0
    have d1 : wr.cell? ⟨w.heap.size + 2, 1, none⟩ = some (.int .u64 (s2 : Int)) := (hp.at_ 2 rfl).cell 1
    have e0 : wr.cell? ⟨w.heap.size + 1, 0, none⟩ = some (.int .u64 0) := (hp.at_ 1 rfl).cell 0
    have e1 : wr.cell? ⟨w.heap.size + 1, 1, none⟩ = some (.int .u64 0) := (hp.at_ 1 rfl).cell 1
    have f0 := (hp.at_ 1 rfl).frozen 0
    have f1 := (hp.at_ 1 rfl).frozen 1
    clear hp hs
    by_cases hi2 : i < 16
    · cases hc : (Go.bits .and .u16 ((b : Int) / 2 ^ i) 1 == 1)
      · go_wp2
        go_roundw
        case rel => exact ⟨i + 1, (s1, s2), by go_num, by omega, HS.out, HP.out⟩
        case measure => simp [intOf]; omega
      · by_cases hl : (a : Int) % 128 + i ≤ 127
        · have HWW := Lib.hid (HW.out (s1, s2) (a % 128 + i) wr HS.out (by omega))
          unfold nv at HWW
          dsimp only at HWW
          rw [show ((a % 128 + i : Nat) : Int) = (a : Int) % 128 + i by omega] at HWW
          have HO := Lib.hid (withN_ok HS.out (n := a % 128 + i) (by omega))
          clear e0 e1 f0 f1
          go_wp2_with fail
          refine HWW.out.mono ?_
          rintro e w2 ⟨rfl, hb2⟩
          obtain ⟨t, ht⟩ : ∃ t, t = withN (s1, s2) (a % 128 + i) := ⟨_, rfl⟩
          rw [← ht] at HO ⊢
          obtain ⟨t1, t2⟩ := t
          have hp2 := HP.out.step hb2
          have d0' : w2.cell? ⟨w.heap.size + 2, 0, none⟩ = some (.int .u64 (s1 : Int)) := (hp2.at_ 2 rfl).cell 0
          have d1' : w2.cell? ⟨w.heap.size + 2, 1, none⟩ = some (.int .u64 (s2 : Int)) := (hp2.at_ 2 rfl).cell 1
          have g0 := (hp2.at_ 2 rfl).frozen 0
          have g1 := (hp2.at_ 2 rfl).frozen 1
          have hp3 := hp2.put2 2 rfl (.int .u64 (t1 : Int)) (.int .u64 (t2 : Int))
          simp only [List.set_cons_succ, List.set_cons_zero] at hp3
          have HP3 := Lib.hid hp3
          clear c0 c1 d0 d1 hb2 ht hp2 hp3
          go_wp2
          go_roundw
          case rel => exact ⟨i + 1, (t1, t2), by go_num, by omega, HO.out, HP3.out⟩
          case measure => simp [intOf]; omega
        · go_wp2
          go_roundw
          case rel => exact ⟨i + 1, (s1, s2), by go_num, by omega, HS.out, HP.out⟩
          case measure => simp [intOf]; omega
    · obtain rfl : i = 16 := by omega
      have HP2 := Lib.hid (HP.out.put2 1 rfl (.int .u64 (s1 : Int)) (.int .u64 (s2 : Int)))
      go_wp2
      refine bodyPost_ret (v := nv (s1, s2)) (by simp [results, Tryd.results38, go_sem, nv, e0, e1, f0, f1]) rfl ⟨(s1, s2), HS.out, rfl, HP2.out.below⟩
end

section
open Go.RowKit

theorem sorted_first {l : List Int} (h : l.Pairwise (· < ·)) : ∀ x ∈ l, l.getD 0 0 ≤ x := by
  cases l with
  | nil => intro x hx; cases hx
  | cons a t =>
    intro x hx
    rcases List.mem_cons.1 hx with rfl | hx
    · exact Int.le_refl _
    · exact Int.le_of_lt (List.rel_of_pairwise_cons h hx)
theorem sorted_last {l : List Int} (h : l.Pairwise (· < ·)) : ∀ x ∈ l, x ≤ l.getD (l.length - 1) 0 := by
  intro x hx
  obtain ⟨i, hi, rfl⟩ := List.mem_iff_getElem.1 hx
  rw [List.getD_eq_getElem?_getD, List.getElem?_eq_getElem (show l.length - 1 < l.length by omega), Option.getD_some]
  by_cases e : i = l.length - 1
  · subst e; exact Int.le_refl _
  · exact Int.le_of_lt (List.pairwise_iff_getElem.1 h i (l.length - 1) hi (by omega) (by omega))
theorem tkE_make {f : Int} {s : Nat × Nat} {lo hi : Int} (h0 : 0 ≤ lo) (h1 : hi ≤ 127) (h2 : lo ≤ f) (h3 : f ≤ hi) (h : ∀ n ∈ listN s, lo ≤ n ∧ n ≤ hi) : tkE f s lo hi = 0 := by
  unfold tkE
  have hc : cpE lo hi = 0 := by
    rcases cpE_cases lo hi with ⟨_, k⟩ | ⟨_, _, k⟩ | ⟨_, _, _, k⟩ | ⟨_, _, _, k⟩ <;> omega
  rw [if_neg (fun e => e hc), if_pos ⟨⟨h2, h3⟩, h⟩]

set_option maxRecDepth 1000000 in
set_option maxHeartbeats 8000000 in
theorem lmake_any (a b c d g : Nat) (w : World) (ha : a ≤ 255) (hb : b ≤ 65535) (hc : c ≤ 255) (hd : d ≤ 255) (hg : g ≤ 255) :
    Calls Tryd.prog 13 #[.agg #[.int .u8 (a : Int), .int .u16 (b : Int), .int .u8 (c : Int), .int .u8 (d : Int), .int .u8 (g : Int)]] w fun e w' =>
      ∃ f s lo hi, NOk s ∧ tkE f s lo hi = 0 ∧ e = .returned (tv f s lo hi) ∧ Below w.heap.size w w' := by
  have HK := Lib.hid (fun W => mk03_any a b W ha hb)
  have HL := Lib.hid (fun s W hs => refList_any s W hs)
  have hm0 := ((Hp.start w).new 35 [.int .u8 (a : Int), .int .u16 (b : Int), .int .u8 (c : Int), .int .u8 (d : Int), .int .u8 (g : Int)]).new 43 [.int .i64 0, .int .u64 0, .int .u64 0, .int .i64 0, .int .i64 0]
  simp only [World.size_alloc, List.nil_append, List.cons_append] at hm0
  have HM := Lib.hid hm0
  clear hm0
  go_enter Tryd.func13, Tryd.ntmps13
  go_wp2_with fail
  refine (HK.out _).mono ?_
  rintro e w1 ⟨s, hs, rfl, hb1⟩
  obtain ⟨s1, s2⟩ := s
  unfold nv
  dsimp only
  have hm1 := (HM.out.step hb1).new 39 [.int .u64 (s1 : Int), .int .u64 (s2 : Int)]
  simp only [List.nil_append, List.cons_append] at hm1
  have HM1 := Lib.hid hm1
  have HLL := Lib.hid (fun W => HL.out (s1, s2) W hs)
  unfold nv at HLL
  dsimp only at HLL
  have HS := Lib.hid hs
  clear hb1 hm1 hs
  go_wp2_with fail
  refine (HLL.out _).mono ?_
  rintro e w2 ⟨LA, lc, rfl, hown, hb2⟩
  have hm2 := (HM1.out.step hb2).new 43 [.int .i64 60, .int .u64 (s1 : Int), .int .u64 (s2 : Int), .int .i64 0, .int .i64 0]
  simp only [List.nil_append, List.cons_append] at hm2
  have hwn := bw_new (Below.refl w2.heap.size w2) (.cells #[.int .i64 60, .int .u64 (s1 : Int), .int .u64 (s2 : Int), .int .i64 0, .int .i64 0] 43)
  have hrd := (Rd.of_own hown rfl).below hwn
  have HM2 := Lib.hid hm2
  have HSO := Lib.hid (listN_sorted (s1, s2))
  have hln := fun x (hx : x ∈ listN (s1, s2)) => mem_listN.1 hx
  obtain ⟨l, hl⟩ : ∃ l, l = listN (s1, s2) := ⟨_, rfl⟩
  rw [← hl] at hrd hln HSO ⊢
  have HL2 := Lib.hid hl
  have c0 : (w2.alloc (.cells #[.int .i64 60, .int .u64 (s1 : Int), .int .u64 (s2 : Int), .int .i64 0, .int .i64 0] 43)).cell? ⟨w.heap.size, 2, none⟩ = some (.int .u8 (c : Int)) := (hm2.at_ 0 rfl).cell 2
  have c1 : (w2.alloc (.cells #[.int .i64 60, .int .u64 (s1 : Int), .int .u64 (s2 : Int), .int .i64 0, .int .i64 0] 43)).cell? ⟨w1.heap.size, 0, none⟩ = some (.int .u64 (s1 : Int)) := (hm2.at_ 2 rfl).cell 0
  have c2 : w2.cell? ⟨w1.heap.size, 0, none⟩ = some (.int .u64 (s1 : Int)) := ((HM1.out.step hb2).at_ 2 rfl).cell 0
  have c3 : w2.cell? ⟨w1.heap.size, 1, none⟩ = some (.int .u64 (s2 : Int)) := ((HM1.out.step hb2).at_ 2 rfl).cell 1
  have HMB := Lib.hid (HM1.out.step hb2)
  clear hown hb2 hm2 hl hwn
  by_cases hn : 0 < l.length
  · obtain ⟨n, hnn⟩ : ∃ n, n = l.length := ⟨_, rfl⟩
    rw [← hnn] at hn ⊢
    obtain ⟨rb, ro, rfl, hrb, hrs⟩ := hrd.at_ (by omega)
    obtain ⟨k, hk⟩ : ∃ k, k = c % n := ⟨_, rfl⟩
    have hkn : k < n := by rw [hk]; exact Nat.mod_lt _ hn
    have hck : (c : Int) % (n : Int) = (k : Int) := by rw [hk]; exact (Int.natCast_emod c n).symm
    have hget : ∀ i, i < n → (l.getD i 0) ∈ l := fun i hi => by
      rw [List.getD_eq_getElem?_getD, List.getElem?_eq_getElem (by omega), Option.getD_some]; exact List.getElem_mem _
    have hat : ∀ i, i < n → (w2.alloc (.cells #[.int .i64 60, .int .u64 (s1 : Int), .int .u64 (s2 : Int), .int .i64 0, .int .i64 0] 43)).cell? ⟨rb, ro + i, none⟩ = some (.int .i64 (l.getD i 0)) := fun i hi => by
      rw [hrs i (by omega), List.getD_eq_getElem?_getD, List.getElem?_eq_getElem (by omega), Option.getD_some]
    obtain ⟨f, hf⟩ : ∃ f, f = l.getD k 0 := ⟨_, rfl⟩
    obtain ⟨p, hp⟩ : ∃ p, p = l.getD 0 0 := ⟨_, rfl⟩
    obtain ⟨q, hq⟩ : ∃ q, q = l.getD (n - 1) 0 := ⟨_, rfl⟩
    have r0 := hat k hkn
    have r1 := hat 0 hn
    have r2 := hat (n - 1) (by omega)
    rw [← hf] at r0
    rw [← hp] at r1
    rw [← hq] at r2
    have hpf : p ≤ f ∧ f ≤ q ∧ 0 ≤ p ∧ q ≤ 127 := by
      have h1 := sorted_first HSO.out _ (hget k hkn)
      have h2 := sorted_last HSO.out _ (hget k hkn)
      rw [← hnn] at h2
      obtain ⟨x, e1, e2, _⟩ := hln _ (hget 0 hn)
      obtain ⟨y, e3, e4, _⟩ := hln _ (hget (n - 1) (by omega))
      rw [hf, hp, hq]
      omega
    have hall : ∀ x ∈ l, p ≤ x ∧ x ≤ q := fun x hx => by
      have h2 := sorted_last HSO.out x hx
      rw [← hnn] at h2
      exact ⟨by rw [hp]; exact sorted_first HSO.out x hx, by rw [hq]; exact h2⟩
    have HALL := Lib.hid hall
    obtain ⟨p1, p2, p3, p4⟩ := hpf
    have hk0 : (0 : Int) ≤ (k : Int) := by omega
    have hkn2 : (k : Int) < (n : Int) := by omega
    have hn2 : (n : Int) ≠ 0 := by omega
    have HM7 := Lib.hid ((HMB.out).new 43 [.int .i64 f, .int .u64 (s1 : Int), .int .u64 (s2 : Int), .int .i64 0, .int .i64 0])
    have hw7 : ∀ o b', b' < w2.heap.size → (w2.alloc (.cells #[.int .i64 f, .int .u64 (s1 : Int), .int .u64 (s2 : Int), .int .i64 0, .int .i64 0] 43)).cell? ⟨b', o, none⟩ = (w2.alloc (.cells #[.int .i64 60, .int .u64 (s1 : Int), .int .u64 (s2 : Int), .int .i64 0, .int .i64 0] 43)).cell? ⟨b', o, none⟩ := fun o b' h =>
      ((bw_new (Below.refl w2.heap.size w2) _).cell (p := ⟨b', o, none⟩) h).trans ((bw_new (Below.refl w2.heap.size w2) _).cell (p := ⟨b', o, none⟩) h).symm
    have s1' := (hw7 ro rb hrb).trans r1
    have s2' := (hw7 (ro + (n - 1)) rb hrb).trans r2
    have d3 := (HM7.out.at_ 0 rfl).cell 3
    have d4 := (HM7.out.at_ 0 rfl).cell 4
    obtain ⟨j, hj⟩ : ∃ j, j = n - 1 := ⟨_, rfl⟩
    have hn128 : (n : Int) ≤ 128 := by
      have := listK_len (s1, s2) 128
      rw [show listK (s1, s2) 128 = listN (s1, s2) from rfl, ← HL2.out, ← hnn] at this
      omega
    obtain ⟨J, hJ⟩ : ∃ J : Int, J = (n : Int) - 1 := ⟨_, rfl⟩
    have hj0 : (0 : Int) ≤ J := by omega
    have hjl : J < (n : Int) := by omega
    have hj127 : J ≤ 127 := by omega
    have hjt : J.toNat = j := by omega
    have hjn : (n : Int) - 1 = J := hJ.symm
    have hn3 : (0 : Int) < (n : Int) := by omega
    rw [← hj] at s2'
    clear hnn hrs hrd hk hget hat hf hp hq hln hall hw7 hj hJ
    go_wp2_with fail
    clear r0 r1 r2 c0 c1 c2 c3 hck hk0 hkn2
    simp only [List.getElem?_cons_succ, List.getElem?_cons_zero] at d3 d4
    go_region
    clear s1' s2' d3 d4 hjn hjt
    obtain ⟨lo, hlo⟩ : ∃ x, x = max 0 (p - (d : Int) % 16) := ⟨_, rfl⟩
    obtain ⟨hi, hhi⟩ : ∃ x, x = min 127 (q + (g : Int) % 16) := ⟨_, rfl⟩
    rw [← hlo, ← hhi]
    have hm8 := (HMB.out.new 43 [.int .i64 f, .int .u64 (s1 : Int), .int .u64 (s2 : Int), .int .i64 lo, .int .i64 hi]).drew
    simp only [List.nil_append, List.cons_append] at hm8
    have HTK := Lib.hid (show tkE f (s1, s2) lo hi = 0 from tkE_make (by omega) (by omega) (by omega) (by omega) (fun x hx => by
      rw [← HL2.out] at hx
      have := HALL.out x hx; omega))
    clear hlo hhi
    obtain ⟨W8, hW8⟩ : ∃ W, W = (w2.alloc (Obj.cells #[.int .i64 f, .int .u64 (s1 : Int), .int .u64 (s2 : Int), .int .i64 lo, .int .i64 hi] 43)).drew := ⟨_, rfl⟩
    rw [← hW8] at hm8 ⊢
    clear hW8
    have a0 : W8.cell? ⟨w2.heap.size, 0, none⟩ = some (.int .i64 f) := (hm8.at_ 3 rfl).cell 0
    have a1 : W8.cell? ⟨w2.heap.size, 1, none⟩ = some (.int .u64 (s1 : Int)) := (hm8.at_ 3 rfl).cell 1
    have a2 : W8.cell? ⟨w2.heap.size, 2, none⟩ = some (.int .u64 (s2 : Int)) := (hm8.at_ 3 rfl).cell 2
    have a3 : W8.cell? ⟨w2.heap.size, 3, none⟩ = some (.int .i64 lo) := (hm8.at_ 3 rfl).cell 3
    have a4 : W8.cell? ⟨w2.heap.size, 4, none⟩ = some (.int .i64 hi) := (hm8.at_ 3 rfl).cell 4
    have b0 : W8.cell? ⟨w.heap.size + 1, 0, none⟩ = some (.int .i64 0) := (hm8.at_ 1 rfl).cell 0
    have b1 : W8.cell? ⟨w.heap.size + 1, 1, none⟩ = some (.int .u64 0) := (hm8.at_ 1 rfl).cell 1
    have b2 : W8.cell? ⟨w.heap.size + 1, 2, none⟩ = some (.int .u64 0) := (hm8.at_ 1 rfl).cell 2
    have b3 : W8.cell? ⟨w.heap.size + 1, 3, none⟩ = some (.int .i64 0) := (hm8.at_ 1 rfl).cell 3
    have b4 : W8.cell? ⟨w.heap.size + 1, 4, none⟩ = some (.int .i64 0) := (hm8.at_ 1 rfl).cell 4
    have g0 := (hm8.at_ 1 rfl).frozen 0
    have g1 := (hm8.at_ 1 rfl).frozen 1
    have g2 := (hm8.at_ 1 rfl).frozen 2
    have g3 := (hm8.at_ 1 rfl).frozen 3
    have g4 := (hm8.at_ 1 rfl).frozen 4
    have HM8 := Lib.hid hm8
    clear hm8
    go_wp2
    refine bodyPost_ret (v := .agg #[.int .i64 f, .int .u64 (s1 : Int), .int .u64 (s2 : Int), .int .i64 lo, .int .i64 hi]) (by simp [results, Tryd.results13, go_sem, b0, b1, b2, b3, b4, g0, g1, g2, g3, g4]) rfl ⟨f, (s1, s2), lo, hi, HS.out, HTK.out, rfl, ?_⟩
    exact bw_set (bw_set (bw_set (bw_set (bw_set HM8.out.below (by omega) _) (by omega) _) (by omega) _) (by omega) _) (by omega) _
  · obtain rfl : l = [] := List.eq_nil_of_length_eq_zero (by omega)
    have hmN := ((HMB.out.new 43 [.int .i64 60, .int .u64 (s1 : Int), .int .u64 (s2 : Int), .int .i64 0, .int .i64 0]).new 3 [.int .i64 60])
    simp only [List.nil_append, List.cons_append, World.size_alloc] at hmN
    have d3 := (hmN.at_ 0 rfl).cell 3
    have d4 := (hmN.at_ 0 rfl).cell 4
    have d5 := (hmN.at_ 4 rfl).cell 0
    simp only [List.getElem?_cons_succ, List.getElem?_cons_zero] at d3 d4 d5
    clear hrd hln hmN hn
    go_wp2_with fail
    clear c0 c1 c2 c3
    go_region
    clear d3 d4 d5
    obtain ⟨lo, hlo⟩ : ∃ x, x = max 0 (60 - (d : Int) % 16) := ⟨_, rfl⟩
    obtain ⟨hi, hhi⟩ : ∃ x, x = min 127 (60 + (g : Int) % 16) := ⟨_, rfl⟩
    rw [← hlo, ← hhi]
    have hm8 := (HMB.out.new 43 [.int .i64 60, .int .u64 (s1 : Int), .int .u64 (s2 : Int), .int .i64 lo, .int .i64 hi]).new 3 [.int .i64 60] |>.drew
    simp only [List.nil_append, List.cons_append, World.size_alloc] at hm8
    have HTK := Lib.hid (show tkE 60 (s1, s2) lo hi = 0 from tkE_make (by omega) (by omega) (by omega) (by omega) (fun x hx => by
      rw [← HL2.out] at hx
      cases hx))
    clear hlo hhi
    obtain ⟨W8, hW8⟩ : ∃ W, W = ((w2.alloc (Obj.cells #[.int .i64 60, .int .u64 (s1 : Int), .int .u64 (s2 : Int), .int .i64 lo, .int .i64 hi] 43)).alloc (Obj.cells #[.int .i64 60] 3)).drew := ⟨_, rfl⟩
    rw [← hW8] at hm8 ⊢
    clear hW8
    have a0 : W8.cell? ⟨w2.heap.size, 0, none⟩ = some (.int .i64 60) := (hm8.at_ 3 rfl).cell 0
    have a1 : W8.cell? ⟨w2.heap.size, 1, none⟩ = some (.int .u64 (s1 : Int)) := (hm8.at_ 3 rfl).cell 1
    have a2 : W8.cell? ⟨w2.heap.size, 2, none⟩ = some (.int .u64 (s2 : Int)) := (hm8.at_ 3 rfl).cell 2
    have a3 : W8.cell? ⟨w2.heap.size, 3, none⟩ = some (.int .i64 lo) := (hm8.at_ 3 rfl).cell 3
    have a4 : W8.cell? ⟨w2.heap.size, 4, none⟩ = some (.int .i64 hi) := (hm8.at_ 3 rfl).cell 4
    have b0 : W8.cell? ⟨w.heap.size + 1, 0, none⟩ = some (.int .i64 0) := (hm8.at_ 1 rfl).cell 0
    have b1 : W8.cell? ⟨w.heap.size + 1, 1, none⟩ = some (.int .u64 0) := (hm8.at_ 1 rfl).cell 1
    have b2 : W8.cell? ⟨w.heap.size + 1, 2, none⟩ = some (.int .u64 0) := (hm8.at_ 1 rfl).cell 2
    have b3 : W8.cell? ⟨w.heap.size + 1, 3, none⟩ = some (.int .i64 0) := (hm8.at_ 1 rfl).cell 3
    have b4 : W8.cell? ⟨w.heap.size + 1, 4, none⟩ = some (.int .i64 0) := (hm8.at_ 1 rfl).cell 4
    have g0 := (hm8.at_ 1 rfl).frozen 0
    have g1 := (hm8.at_ 1 rfl).frozen 1
    have g2 := (hm8.at_ 1 rfl).frozen 2
    have g3 := (hm8.at_ 1 rfl).frozen 3
    have g4 := (hm8.at_ 1 rfl).frozen 4
    have HM8 := Lib.hid hm8
    clear hm8
    go_wp2
    refine bodyPost_ret (v := .agg #[.int .i64 60, .int .u64 (s1 : Int), .int .u64 (s2 : Int), .int .i64 lo, .int .i64 hi]) (by simp [results, Tryd.results13, go_sem, b0, b1, b2, b3, b4, g0, g1, g2, g3, g4]) rfl ⟨60, (s1, s2), lo, hi, HS.out, HTK.out, rfl, ?_⟩
    exact bw_set (bw_set (bw_set (bw_set (bw_set HM8.out.below (by omega) _) (by omega) _) (by omega) _) (by omega) _) (by omega) _
end
end Go.Proofs.YtfickhncbahekaaDoor
