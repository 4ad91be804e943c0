/- The law's answers: Plan and Depth answer as the definition says. Conditions: the words of the set are of 64 bits; the library's table reads as its text lays it. Printed by genanswers.py. -/
import Derived.Test.YtfickhncbahekaaDoorTunTaskL
import Derived.Test.YtfickhncbahekaaDoorTunPlanned
import Derived.Test.YtfickhncbahekaaDoorTunSame
namespace Go.Proofs.YtfickhncbahekaaDoor
open Go.RowKit

section
variable {w w' : World} {f lo hi n : Int} {s : Nat × Nat} {e : Ending}
theorem PlanPost.err (h : PlanPost w f s lo hi e w') (hx : tkE f s lo hi ≠ 0) : e = .returned (.tuple #[.agg #[.int .i64 0, .slice none 0 0], .int .i64 (tkE f s lo hi)]) ∧ Below w.heap.size w w' := by
  obtain ⟨hb, ⟨_, he⟩ | ⟨h0, _⟩⟩ := h
  · exact ⟨he, hb⟩
  · exact absurd h0 hx
theorem PlanPost.none (h : PlanPost w f s lo hi e w') (hx : tkE f s lo hi = 0) (hn : ∃ n ∈ listN s, ∀ d, ¬ Ds lo hi f n d) : e = .returned (.tuple #[.agg #[.int .i64 0, .slice none 0 0], .int .i64 18]) ∧ Below w.heap.size w w' := by
  obtain ⟨hb, ⟨h0, _⟩ | ⟨_, ⟨_, he⟩ | ⟨hr, _⟩⟩⟩ := h
  · exact absurd hx h0
  · exact ⟨he, hb⟩
  · obtain ⟨n, hn, hd⟩ := hn
    obtain ⟨d, h⟩ := hr n hn
    exact absurd h (hd d)
theorem PlanPost.ok (h : PlanPost w f s lo hi e w') (hx : tkE f s lo hi = 0) (hr : ∀ n ∈ listN s, ∃ d, Ds lo hi f n d) : ∃ (A : Option Addr) (c : Nat) (L : List (Int × Int)), e = .returned (.tuple #[.agg #[.int .i64 f, .slice A L.length c], .int .i64 0]) ∧ SRd w' w'.heap.size A L ∧ Planned lo hi f (listN s) L ∧ L.length ≤ 128 ∧ L.length ≤ c ∧ c ≤ maxLen ∧ Below w.heap.size w w' := by
  obtain ⟨hb, ⟨h0, _⟩ | ⟨_, ⟨⟨n, hn, hd⟩, _⟩ | ⟨_, A, c, L, h1, h2, h3, h4, h5, h6⟩⟩⟩ := h
  · exact absurd hx h0
  · obtain ⟨d, h⟩ := hr n hn
    exact absurd h (hd d)
  · exact ⟨A, c, L, h1, h2, h3, h4, h5, h6, hb⟩
theorem DepthPost.err (h : DepthPost w f s lo hi n e w') (hx : tkE f s lo hi ≠ 0) : e = .returned (.tuple #[.int .i64 0, .int .i64 (tkE f s lo hi)]) ∧ Below w.heap.size w w' := by
  obtain ⟨hb, ⟨_, he⟩ | ⟨h0, _⟩⟩ := h
  · exact ⟨he, hb⟩
  · exact absurd h0 hx
theorem DepthPost.out (h : DepthPost w f s lo hi n e w') (hx : tkE f s lo hi = 0) (hn : ¬ (lo ≤ n ∧ n ≤ hi)) : e = .returned (.tuple #[.int .i64 0, .int .i64 23]) ∧ Below w.heap.size w w' := by
  obtain ⟨hb, ⟨h0, _⟩ | ⟨_, ⟨_, he⟩ | ⟨h1, h2, _⟩⟩⟩ := h
  · exact absurd hx h0
  · exact ⟨he, hb⟩
  · exact absurd ⟨h1, h2⟩ hn
theorem DepthPost.none (h : DepthPost w f s lo hi n e w') (hx : tkE f s lo hi = 0) (h1 : lo ≤ n) (h2 : n ≤ hi) (hd : ∀ d, ¬ Ds lo hi f n d) : e = .returned (.tuple #[.int .i64 0, .int .i64 18]) ∧ Below w.heap.size w w' := by
  obtain ⟨hb, ⟨h0, _⟩ | ⟨_, ⟨hn, _⟩ | ⟨_, _, ⟨_, he⟩ | ⟨d, h, _⟩⟩⟩⟩ := h
  · exact absurd hx h0
  · exact absurd ⟨h1, h2⟩ hn
  · exact ⟨he, hb⟩
  · exact absurd h (hd d)
theorem DepthPost.ok {d : Nat} (h : DepthPost w f s lo hi n e w') (hx : tkE f s lo hi = 0) (h1 : lo ≤ n) (h2 : n ≤ hi) (hd : Ds lo hi f n d) : e = .returned (.tuple #[.int .i64 (d : Int), .int .i64 0]) ∧ Below w.heap.size w w' := by
  obtain ⟨hb, ⟨h0, _⟩ | ⟨_, ⟨hn, _⟩ | ⟨_, _, ⟨hq, _⟩ | ⟨d', h, he⟩⟩⟩⟩ := h
  · exact absurd hx h0
  · exact absurd ⟨h1, h2⟩ hn
  · exact absurd hd (hq d)
  · obtain rfl := hd.unique h
    exact ⟨he, hb⟩
end
theorem noArg (W : World) : OArg W W.heap.size none 0 0 [] := ⟨rfl, SRd.nil, Nat.le_refl _, by unfold maxLen; decide⟩
/-- What the last statement keeps. -/
abbrev AnH (w : World) (f s1 s2 lo hi : Int) (z : Nat) (OA : Option Addr) (on oc : Nat) (L : List (Int × Int)) (Bd : Nat) (w' : World) : Prop :=
  w'.cell? ⟨z, 0, none⟩ = some (.int .i64 f) ∧ w'.cell? ⟨z, 1, none⟩ = some (.slice OA on oc) ∧ w'.cell? ⟨w.heap.size, 0, none⟩ = some (.int .i64 f) ∧ w'.cell? ⟨w.heap.size, 1, none⟩ = some (.int .u64 s1) ∧ w'.cell? ⟨w.heap.size, 2, none⟩ = some (.int .u64 s2) ∧ w'.cell? ⟨w.heap.size, 3, none⟩ = some (.int .i64 lo) ∧ w'.cell? ⟨w.heap.size, 4, none⟩ = some (.int .i64 hi) ∧
  Hp w [(w.heap.size, 43, tkcs f s1 s2 lo hi), (z, 25, [.int .i64 f, .slice OA on oc])] w' ∧ OArg w' Bd OA on oc L ∧ Bd ≤ w'.heap.size
theorem AnH.of {w : World} {f s1 s2 lo hi : Int} {z : Nat} {OA : Option Addr} {on oc : Nat} {L : List (Int × Int)} {Bd : Nat} {w' : World} (h : Hp w [(w.heap.size, 43, tkcs f s1 s2 lo hi), (z, 25, [.int .i64 f, .slice OA on oc])] w') (h2 : OArg w' Bd OA on oc L) (h3 : Bd ≤ w'.heap.size) : AnH w f s1 s2 lo hi z OA on oc L Bd w' :=
  ⟨(h.at_ 1 rfl).cell 0, (h.at_ 1 rfl).cell 1, (h.at_ 0 rfl).cell 0, (h.at_ 0 rfl).cell 1, (h.at_ 0 rfl).cell 2, (h.at_ 0 rfl).cell 3, (h.at_ 0 rfl).cell 4, h, h2, h3⟩
theorem AnH.below {w : World} {f s1 s2 lo hi : Int} {z : Nat} {OA : Option Addr} {on oc : Nat} {L : List (Int × Int)} {Bd : Nat} {w1 w2 : World} (h : AnH w f s1 s2 lo hi z OA on oc L Bd w1) (hb : Below w1.heap.size w1 w2) : AnH w f s1 s2 lo hi z OA on oc L Bd w2 := by
  obtain ⟨_, _, _, _, _, _, _, h5, h6, h7⟩ := h
  exact AnH.of (h5.step hb) (h6.below (hb.mono h7)) (Nat.le_trans h7 hb.size)

set_option maxRecDepth 1000000 in
set_option maxHeartbeats 16000000 in
/-- The task is not right. -/
theorem lanswers_err (f : Int) (s : Nat × Nat) (lo hi n : Int) (w : World) (hs : NOk s) (ht : DTab w) (hx : tkE f s lo hi ≠ 0) :
    Calls Tryd.prog 12 #[tv f s lo hi, .int .i64 n] w fun e w' => e = .returned (.bool true) ∧ Below w.heap.size w w' := by
  have HP := Lib.hid (fun W (h : DTab W) => (plan_any f s lo hi W hs h).mono fun e w' h => h.err hx)
  have HD := Lib.hid (fun W => (depth_any f s lo hi n W hs).mono fun e w' h => h.err hx)
  have HK := Lib.hid (fun W => ltask_any f s lo hi W hs)
  have HSE := Lib.hid (fun W => same_any 0 0 none none 0 0 0 0 [] [] W (noArg W) (noArg W))
  rw [show decide ((0 : Int) = 0 ∧ ([] : List (Int × Int)) = []) = true by decide] at HSE
  obtain ⟨x, hxx⟩ : ∃ x, x = tkE f s lo hi := ⟨_, rfl⟩
  rw [← hxx] at HP HD HK hx
  have hz : (x != 0) = true := by simpa using hx
  have hz2 : (x == 0) = false := by simpa using hx
  clear hxx hx
  obtain ⟨s1, s2⟩ := s
  unfold tv at HP HD HK ⊢
  dsimp only at HP HD HK ⊢
  have hm0 := (Hp.start w).new 43 (tkcs f (s1 : Int) (s2 : Int) lo hi)
  simp only [List.nil_append] at hm0
  have HM0 := Lib.hid hm0
  have HT := Lib.hid (ht.below hm0.below)
  clear hm0 ht
  go_enter Tryd.func12, Tryd.ntmps12
  go_wp2_with fail
  refine (HP.out _ HT.out).mono ?_
  rintro e w1 ⟨rfl, hb1⟩
  have hm1 := (HM0.out.step hb1).new 25 [.int .i64 0, .slice none 0 0]
  simp only [List.nil_append, List.cons_append] at hm1
  have HM1 := Lib.hid hm1
  have k0 : (w1.alloc (.cells #[.int .i64 0, .slice none 0 0] 25)).cell? ⟨w.heap.size, 0, none⟩ = some (.int .i64 f) := (HM1.out.at_ 0 rfl).cell 0
  have k1 : (w1.alloc (.cells #[.int .i64 0, .slice none 0 0] 25)).cell? ⟨w.heap.size, 1, none⟩ = some (.int .u64 (s1 : Int)) := (HM1.out.at_ 0 rfl).cell 1
  have k2 : (w1.alloc (.cells #[.int .i64 0, .slice none 0 0] 25)).cell? ⟨w.heap.size, 2, none⟩ = some (.int .u64 (s2 : Int)) := (HM1.out.at_ 0 rfl).cell 2
  have k3 : (w1.alloc (.cells #[.int .i64 0, .slice none 0 0] 25)).cell? ⟨w.heap.size, 3, none⟩ = some (.int .i64 lo) := (HM1.out.at_ 0 rfl).cell 3
  have k4 : (w1.alloc (.cells #[.int .i64 0, .slice none 0 0] 25)).cell? ⟨w.heap.size, 4, none⟩ = some (.int .i64 hi) := (HM1.out.at_ 0 rfl).cell 4
  clear hb1 hm1
  go_wp2_with fail
  refine (HD.out _).mono ?_
  rintro e w2 ⟨rfl, hb2⟩
  have HM2 := Lib.hid (HM1.out.step hb2)
  clear k0 k1 k2 k3 k4
  have k0 : w2.cell? ⟨w.heap.size, 0, none⟩ = some (.int .i64 f) := (HM2.out.at_ 0 rfl).cell 0
  have k1 : w2.cell? ⟨w.heap.size, 1, none⟩ = some (.int .u64 (s1 : Int)) := (HM2.out.at_ 0 rfl).cell 1
  have k2 : w2.cell? ⟨w.heap.size, 2, none⟩ = some (.int .u64 (s2 : Int)) := (HM2.out.at_ 0 rfl).cell 2
  have k3 : w2.cell? ⟨w.heap.size, 3, none⟩ = some (.int .i64 lo) := (HM2.out.at_ 0 rfl).cell 3
  have k4 : w2.cell? ⟨w.heap.size, 4, none⟩ = some (.int .i64 hi) := (HM2.out.at_ 0 rfl).cell 4
  clear hb2
  go_wp2_with fail
  refine (HK.out _).mono ?_
  rintro e w3 ⟨rfl, hb3⟩
  have HM3 := Lib.hid (HM2.out.step hb3)
  clear k0 k1 k2 k3 k4
  have k0 : w3.cell? ⟨w.heap.size, 0, none⟩ = some (.int .i64 f) := (HM3.out.at_ 0 rfl).cell 0
  have k1 : w3.cell? ⟨w.heap.size, 1, none⟩ = some (.int .u64 (s1 : Int)) := (HM3.out.at_ 0 rfl).cell 1
  have k2 : w3.cell? ⟨w.heap.size, 2, none⟩ = some (.int .u64 (s2 : Int)) := (HM3.out.at_ 0 rfl).cell 2
  have k3 : w3.cell? ⟨w.heap.size, 3, none⟩ = some (.int .i64 lo) := (HM3.out.at_ 0 rfl).cell 3
  have k4 : w3.cell? ⟨w.heap.size, 4, none⟩ = some (.int .i64 hi) := (HM3.out.at_ 0 rfl).cell 4
  clear hb3
  have d0 : w3.cell? ⟨w1.heap.size, 0, none⟩ = some (.int .i64 0) := (HM3.out.at_ 1 rfl).cell 0
  have d1 : w3.cell? ⟨w1.heap.size, 1, none⟩ = some (.slice none 0 0) := (HM3.out.at_ 1 rfl).cell 1
  go_wp2_with fail
  refine (HSE.out _).mono ?_
  rintro e w4 ⟨rfl, hb4⟩
  have HB4 := Lib.hid (HM3.out.step hb4).below
  clear hb4 k0 k1 k2 k3 k4 d0 d1
  go_wp2
  go_ret
  exact ⟨rfl, HB4.out⟩

set_option maxRecDepth 1000000 in
set_option maxHeartbeats 16000000 in
/-- The task is right; a note cannot be reached; the number lies below the compass. -/
theorem lanswers_none_lo (f : Int) (s : Nat × Nat) (lo hi n : Int) (w : World) (hs : NOk s) (ht : DTab w) (hx0 : tkE f s lo hi = 0) (hr : ∃ n ∈ listN s, ∀ d, ¬ Ds lo hi f n d) (hn : n < lo) :
    Calls Tryd.prog 12 #[tv f s lo hi, .int .i64 n] w fun e w' => e = .returned (.bool true) ∧ Below w.heap.size w w' := by
  have HP := Lib.hid (fun W (h : DTab W) => (plan_any f s lo hi W hs h).mono fun e w' h => h.none hx0 hr)
  have HD := Lib.hid (fun W => (depth_any f s lo hi n W hs).mono fun e w' h => h.out hx0 (by omega))
  have HRR := Lib.hid hr
  have HL0 := Lib.hid (fun W => refList_any s W hs)
  obtain ⟨h0, h1, hf0, hf1, hls⟩ := tkE_zero hx0
  have HLS := Lib.hid hls
  have HAW := Lib.hid (fun W => away_any f s lo hi W h0 h1 hf0 hf1)
  have HPN := Lib.hid (fun W (hr : ∀ n ∈ listN s, ∃ d, Ds lo hi f n d) => lplanned_any f s lo hi W hs h0 h1 ⟨hf0, hf1⟩ hr)
  have HK := Lib.hid (fun W => ltask_any f s lo hi W hs)
  have HSE := Lib.hid (fun W => same_any 0 0 none none 0 0 0 0 [] [] W (noArg W) (noArg W))
  rw [show decide ((0 : Int) = 0 ∧ ([] : List (Int × Int)) = []) = true by decide] at HSE
  rw [hx0] at HK
  obtain ⟨kl, hkl⟩ : ∃ kl, kl = listN s := ⟨_, rfl⟩
  rw [← hkl] at HL0 HRR HLS
  obtain ⟨ln, hln⟩ : ∃ ln, ln = kl.length := ⟨_, rfl⟩
  have HLN := Lib.hid hln
  have hll := listK_len s 128
  rw [show listK s 128 = listN s from rfl, ← hkl, ← hln] at hll
  have HKL := Lib.hid hkl
  obtain ⟨s1, s2⟩ := s
  unfold nv at HL0
  dsimp only at HL0
  unfold tv at HP HD HK HAW HPN ⊢
  dsimp only at HP HD HK HAW HPN ⊢
  have hm0 := (Hp.start w).new 43 (tkcs f (s1 : Int) (s2 : Int) lo hi)
  simp only [List.nil_append] at hm0
  have HM0 := Lib.hid hm0
  have HT := Lib.hid (ht.below hm0.below)
  clear hm0 ht hx0 hr hls hs hkl hln
  go_enter Tryd.func12, Tryd.ntmps12
  go_wp2_with fail
  refine (HP.out _ HT.out).mono ?_
  rintro e w1 ⟨rfl, hb1⟩
  have hm1 := (HM0.out.step hb1).new 25 [.int .i64 0, .slice none 0 0]
  simp only [List.nil_append, List.cons_append] at hm1
  have HM1 := Lib.hid hm1
  have k0 : (w1.alloc (.cells #[.int .i64 0, .slice none 0 0] 25)).cell? ⟨w.heap.size, 0, none⟩ = some (.int .i64 f) := (HM1.out.at_ 0 rfl).cell 0
  have k1 : (w1.alloc (.cells #[.int .i64 0, .slice none 0 0] 25)).cell? ⟨w.heap.size, 1, none⟩ = some (.int .u64 (s1 : Int)) := (HM1.out.at_ 0 rfl).cell 1
  have k2 : (w1.alloc (.cells #[.int .i64 0, .slice none 0 0] 25)).cell? ⟨w.heap.size, 2, none⟩ = some (.int .u64 (s2 : Int)) := (HM1.out.at_ 0 rfl).cell 2
  have k3 : (w1.alloc (.cells #[.int .i64 0, .slice none 0 0] 25)).cell? ⟨w.heap.size, 3, none⟩ = some (.int .i64 lo) := (HM1.out.at_ 0 rfl).cell 3
  have k4 : (w1.alloc (.cells #[.int .i64 0, .slice none 0 0] 25)).cell? ⟨w.heap.size, 4, none⟩ = some (.int .i64 hi) := (HM1.out.at_ 0 rfl).cell 4
  clear hb1 hm1
  go_wp2_with fail
  refine (HD.out _).mono ?_
  rintro e w2 ⟨rfl, hb2⟩
  have HM2 := Lib.hid (HM1.out.step hb2)
  clear k0 k1 k2 k3 k4
  have k0 : w2.cell? ⟨w.heap.size, 0, none⟩ = some (.int .i64 f) := (HM2.out.at_ 0 rfl).cell 0
  have k1 : w2.cell? ⟨w.heap.size, 1, none⟩ = some (.int .u64 (s1 : Int)) := (HM2.out.at_ 0 rfl).cell 1
  have k2 : w2.cell? ⟨w.heap.size, 2, none⟩ = some (.int .u64 (s2 : Int)) := (HM2.out.at_ 0 rfl).cell 2
  have k3 : w2.cell? ⟨w.heap.size, 3, none⟩ = some (.int .i64 lo) := (HM2.out.at_ 0 rfl).cell 3
  have k4 : w2.cell? ⟨w.heap.size, 4, none⟩ = some (.int .i64 hi) := (HM2.out.at_ 0 rfl).cell 4
  clear hb2
  go_wp2_with fail
  refine (HK.out _).mono ?_
  rintro e w3 ⟨rfl, hb3⟩
  have HM3 := Lib.hid (HM2.out.step hb3)
  clear k0 k1 k2 k3 k4
  have k0 : w3.cell? ⟨w.heap.size, 0, none⟩ = some (.int .i64 f) := (HM3.out.at_ 0 rfl).cell 0
  have k1 : w3.cell? ⟨w.heap.size, 1, none⟩ = some (.int .u64 (s1 : Int)) := (HM3.out.at_ 0 rfl).cell 1
  have k2 : w3.cell? ⟨w.heap.size, 2, none⟩ = some (.int .u64 (s2 : Int)) := (HM3.out.at_ 0 rfl).cell 2
  have k3 : w3.cell? ⟨w.heap.size, 3, none⟩ = some (.int .i64 lo) := (HM3.out.at_ 0 rfl).cell 3
  have k4 : w3.cell? ⟨w.heap.size, 4, none⟩ = some (.int .i64 hi) := (HM3.out.at_ 0 rfl).cell 4
  clear hb3
  go_wp2_with fail
  refine (HAW.out _).mono ?_
  rintro e w4 ⟨g, D, rfl, had, hgb, hgs, hb4⟩
  have HM4 := Lib.hid (HM3.out.step hb4)
  have HAD := Lib.hid had
  have HGB := Lib.hid hgb
  clear k0 k1 k2 k3 k4
  have k0 : w4.cell? ⟨w.heap.size, 0, none⟩ = some (.int .i64 f) := (HM4.out.at_ 0 rfl).cell 0
  have k1 : w4.cell? ⟨w.heap.size, 1, none⟩ = some (.int .u64 (s1 : Int)) := (HM4.out.at_ 0 rfl).cell 1
  have k2 : w4.cell? ⟨w.heap.size, 2, none⟩ = some (.int .u64 (s2 : Int)) := (HM4.out.at_ 0 rfl).cell 2
  have k3 : w4.cell? ⟨w.heap.size, 3, none⟩ = some (.int .i64 lo) := (HM4.out.at_ 0 rfl).cell 3
  have k4 : w4.cell? ⟨w.heap.size, 4, none⟩ = some (.int .i64 hi) := (HM4.out.at_ 0 rfl).cell 4
  clear had hgb hgs hb4
  go_wp2_with fail
  refine (HL0.out _).mono ?_
  rintro e w5 ⟨LA, lc, rfl, hown, hb5⟩
  rw [← HLN.out] at hown ⊢
  have HM5 := Lib.hid (HM4.out.step hb5)
  have HGB5 := Lib.hid (HGB.out.step hb5)
  have HOW := Lib.hid hown
  clear k0 k1 k2 k3 k4 hb5 hown
  go_wp2_with fail
  go_loopw [101] (fun v wx => ∃ i : Nat, v = .int .i64 (i : Int) ∧ i ≤ ln ∧ wx = w5 ∧ ∀ j (h : j < i) (h2 : j < kl.length), 0 ≤ dz D kl[j]) (fun v _ => ln - (intOf v).toNat)
  case atStart => exact ⟨0, rfl, by omega, rfl, fun j h => absurd h (by omega)⟩
  case round =>
    obtain ⟨i, rfl, hi', rfl, hall⟩ := hrel
    have HALL := Lib.hid hall
    by_cases hil : i < ln
    · obtain ⟨b, off, rfl, hbl, hcs⟩ := (Rd.of_own HOW.out HLN.out).at_ (by rw [← HLN.out]; omega)
      have hiq : i < kl.length := by rw [← HLN.out]; exact hil
      have hx0 := hcs i hiq
      obtain ⟨y, hy⟩ : ∃ y, y = kl[i] := ⟨_, rfl⟩
      rw [← hy] at hx0
      have hym := HLS.out y (by rw [hy]; exact List.getElem_mem _)
      have hyk : y ∈ kl := by rw [hy]; exact List.getElem_mem _
      obtain ⟨yn, rfl⟩ : ∃ yn : Nat, y = yn := ⟨y.toNat, by omega⟩
      have z0 : wr.cell? ⟨b, off + i, none⟩ = some (.int .i64 (yn : Int)) := hx0
      have hy0 : (0 : Int) ≤ (yn : Int) := by omega
      have hy1 : (yn : Int) < 128 := by omega
      obtain ⟨v, hv⟩ : ∃ v, v = dz D (yn : Int) := ⟨_, rfl⟩
      have z1 : wr.cell? ⟨g, yn, none⟩ = some (.int .i64 v) := by rw [HGB5.out.cell yn, hv]; exact dget HAD.out.len (by omega)
      by_cases hvn : v < 0
      · have d0' : wr.cell? ⟨w1.heap.size, 0, none⟩ = some (.int .i64 0) := (HM5.out.at_ 1 rfl).cell 0
        have d1' : wr.cell? ⟨w1.heap.size, 1, none⟩ = some (.slice none 0 0) := (HM5.out.at_ 1 rfl).cell 1
        clear hcs hx0 hy hall hiq hv hyk
        go_wp2_with fail
        refine (HSE.out _).mono ?_
        rintro e w6 ⟨rfl, hb6⟩
        have HB6 := Lib.hid (HM5.out.step hb6).below
        clear hb6 d0' d1' z0 z1
        go_wp2
        go_ret
        exact ⟨rfl, HB6.out⟩
      · have HIN := Lib.hid (show ∀ j (h : j < i + 1) (h2 : j < kl.length), 0 ≤ dz D kl[j] from fun j h h2 => by
          by_cases e : j = i
          · subst e; rw [← hy, ← hv]; omega
          · exact HALL.out j (by omega) h2)
        clear hcs hx0 hy hall hiq hv hyk
        go_wp2
        go_roundw
        case rel => exact ⟨i + 1, by go_num, by omega, by first | rfl | trivial, HIN.out⟩
        case measure => simp [intOf]; omega
    · exfalso
      obtain ⟨m, hm, hmd⟩ := HRR.out
      obtain ⟨j, hj, rfl⟩ := List.getElem_of_mem hm
      have h5 := hall j (by rw [← HLN.out] at hj; omega) hj
      have h6 := HLS.out _ hm
      obtain ⟨d, hd⟩ := Int.eq_ofNat_of_zero_le h5
      exact hmd d ((HAD.out.aw _ d (by unfold isN; omega)).1 hd)

set_option maxRecDepth 1000000 in
set_option maxHeartbeats 16000000 in
/-- The task is right; a note cannot be reached; the number lies above the compass. -/
theorem lanswers_none_hi (f : Int) (s : Nat × Nat) (lo hi n : Int) (w : World) (hs : NOk s) (ht : DTab w) (hx0 : tkE f s lo hi = 0) (hr : ∃ n ∈ listN s, ∀ d, ¬ Ds lo hi f n d) (hn0 : lo ≤ n) (hn : hi < n) :
    Calls Tryd.prog 12 #[tv f s lo hi, .int .i64 n] w fun e w' => e = .returned (.bool true) ∧ Below w.heap.size w w' := by
  have HP := Lib.hid (fun W (h : DTab W) => (plan_any f s lo hi W hs h).mono fun e w' h => h.none hx0 hr)
  have HD := Lib.hid (fun W => (depth_any f s lo hi n W hs).mono fun e w' h => h.out hx0 (by omega))
  have HRR := Lib.hid hr
  have HL0 := Lib.hid (fun W => refList_any s W hs)
  obtain ⟨h0, h1, hf0, hf1, hls⟩ := tkE_zero hx0
  have HLS := Lib.hid hls
  have HAW := Lib.hid (fun W => away_any f s lo hi W h0 h1 hf0 hf1)
  have HPN := Lib.hid (fun W (hr : ∀ n ∈ listN s, ∃ d, Ds lo hi f n d) => lplanned_any f s lo hi W hs h0 h1 ⟨hf0, hf1⟩ hr)
  have HK := Lib.hid (fun W => ltask_any f s lo hi W hs)
  have HSE := Lib.hid (fun W => same_any 0 0 none none 0 0 0 0 [] [] W (noArg W) (noArg W))
  rw [show decide ((0 : Int) = 0 ∧ ([] : List (Int × Int)) = []) = true by decide] at HSE
  rw [hx0] at HK
  obtain ⟨kl, hkl⟩ : ∃ kl, kl = listN s := ⟨_, rfl⟩
  rw [← hkl] at HL0 HRR HLS
  obtain ⟨ln, hln⟩ : ∃ ln, ln = kl.length := ⟨_, rfl⟩
  have HLN := Lib.hid hln
  have hll := listK_len s 128
  rw [show listK s 128 = listN s from rfl, ← hkl, ← hln] at hll
  have HKL := Lib.hid hkl
  obtain ⟨s1, s2⟩ := s
  unfold nv at HL0
  dsimp only at HL0
  unfold tv at HP HD HK HAW HPN ⊢
  dsimp only at HP HD HK HAW HPN ⊢
  have hm0 := (Hp.start w).new 43 (tkcs f (s1 : Int) (s2 : Int) lo hi)
  simp only [List.nil_append] at hm0
  have HM0 := Lib.hid hm0
  have HT := Lib.hid (ht.below hm0.below)
  clear hm0 ht hx0 hr hls hs hkl hln
  go_enter Tryd.func12, Tryd.ntmps12
  go_wp2_with fail
  refine (HP.out _ HT.out).mono ?_
  rintro e w1 ⟨rfl, hb1⟩
  have hm1 := (HM0.out.step hb1).new 25 [.int .i64 0, .slice none 0 0]
  simp only [List.nil_append, List.cons_append] at hm1
  have HM1 := Lib.hid hm1
  have k0 : (w1.alloc (.cells #[.int .i64 0, .slice none 0 0] 25)).cell? ⟨w.heap.size, 0, none⟩ = some (.int .i64 f) := (HM1.out.at_ 0 rfl).cell 0
  have k1 : (w1.alloc (.cells #[.int .i64 0, .slice none 0 0] 25)).cell? ⟨w.heap.size, 1, none⟩ = some (.int .u64 (s1 : Int)) := (HM1.out.at_ 0 rfl).cell 1
  have k2 : (w1.alloc (.cells #[.int .i64 0, .slice none 0 0] 25)).cell? ⟨w.heap.size, 2, none⟩ = some (.int .u64 (s2 : Int)) := (HM1.out.at_ 0 rfl).cell 2
  have k3 : (w1.alloc (.cells #[.int .i64 0, .slice none 0 0] 25)).cell? ⟨w.heap.size, 3, none⟩ = some (.int .i64 lo) := (HM1.out.at_ 0 rfl).cell 3
  have k4 : (w1.alloc (.cells #[.int .i64 0, .slice none 0 0] 25)).cell? ⟨w.heap.size, 4, none⟩ = some (.int .i64 hi) := (HM1.out.at_ 0 rfl).cell 4
  clear hb1 hm1
  go_wp2_with fail
  refine (HD.out _).mono ?_
  rintro e w2 ⟨rfl, hb2⟩
  have HM2 := Lib.hid (HM1.out.step hb2)
  clear k0 k1 k2 k3 k4
  have k0 : w2.cell? ⟨w.heap.size, 0, none⟩ = some (.int .i64 f) := (HM2.out.at_ 0 rfl).cell 0
  have k1 : w2.cell? ⟨w.heap.size, 1, none⟩ = some (.int .u64 (s1 : Int)) := (HM2.out.at_ 0 rfl).cell 1
  have k2 : w2.cell? ⟨w.heap.size, 2, none⟩ = some (.int .u64 (s2 : Int)) := (HM2.out.at_ 0 rfl).cell 2
  have k3 : w2.cell? ⟨w.heap.size, 3, none⟩ = some (.int .i64 lo) := (HM2.out.at_ 0 rfl).cell 3
  have k4 : w2.cell? ⟨w.heap.size, 4, none⟩ = some (.int .i64 hi) := (HM2.out.at_ 0 rfl).cell 4
  clear hb2
  go_wp2_with fail
  refine (HK.out _).mono ?_
  rintro e w3 ⟨rfl, hb3⟩
  have HM3 := Lib.hid (HM2.out.step hb3)
  clear k0 k1 k2 k3 k4
  have k0 : w3.cell? ⟨w.heap.size, 0, none⟩ = some (.int .i64 f) := (HM3.out.at_ 0 rfl).cell 0
  have k1 : w3.cell? ⟨w.heap.size, 1, none⟩ = some (.int .u64 (s1 : Int)) := (HM3.out.at_ 0 rfl).cell 1
  have k2 : w3.cell? ⟨w.heap.size, 2, none⟩ = some (.int .u64 (s2 : Int)) := (HM3.out.at_ 0 rfl).cell 2
  have k3 : w3.cell? ⟨w.heap.size, 3, none⟩ = some (.int .i64 lo) := (HM3.out.at_ 0 rfl).cell 3
  have k4 : w3.cell? ⟨w.heap.size, 4, none⟩ = some (.int .i64 hi) := (HM3.out.at_ 0 rfl).cell 4
  clear hb3
  go_wp2_with fail
  refine (HAW.out _).mono ?_
  rintro e w4 ⟨g, D, rfl, had, hgb, hgs, hb4⟩
  have HM4 := Lib.hid (HM3.out.step hb4)
  have HAD := Lib.hid had
  have HGB := Lib.hid hgb
  clear k0 k1 k2 k3 k4
  have k0 : w4.cell? ⟨w.heap.size, 0, none⟩ = some (.int .i64 f) := (HM4.out.at_ 0 rfl).cell 0
  have k1 : w4.cell? ⟨w.heap.size, 1, none⟩ = some (.int .u64 (s1 : Int)) := (HM4.out.at_ 0 rfl).cell 1
  have k2 : w4.cell? ⟨w.heap.size, 2, none⟩ = some (.int .u64 (s2 : Int)) := (HM4.out.at_ 0 rfl).cell 2
  have k3 : w4.cell? ⟨w.heap.size, 3, none⟩ = some (.int .i64 lo) := (HM4.out.at_ 0 rfl).cell 3
  have k4 : w4.cell? ⟨w.heap.size, 4, none⟩ = some (.int .i64 hi) := (HM4.out.at_ 0 rfl).cell 4
  clear had hgb hgs hb4
  go_wp2_with fail
  refine (HL0.out _).mono ?_
  rintro e w5 ⟨LA, lc, rfl, hown, hb5⟩
  rw [← HLN.out] at hown ⊢
  have HM5 := Lib.hid (HM4.out.step hb5)
  have HGB5 := Lib.hid (HGB.out.step hb5)
  have HOW := Lib.hid hown
  clear k0 k1 k2 k3 k4 hb5 hown
  go_wp2_with fail
  go_loopw [101] (fun v wx => ∃ i : Nat, v = .int .i64 (i : Int) ∧ i ≤ ln ∧ wx = w5 ∧ ∀ j (h : j < i) (h2 : j < kl.length), 0 ≤ dz D kl[j]) (fun v _ => ln - (intOf v).toNat)
  case atStart => exact ⟨0, rfl, by omega, rfl, fun j h => absurd h (by omega)⟩
  case round =>
    obtain ⟨i, rfl, hi', rfl, hall⟩ := hrel
    have HALL := Lib.hid hall
    by_cases hil : i < ln
    · obtain ⟨b, off, rfl, hbl, hcs⟩ := (Rd.of_own HOW.out HLN.out).at_ (by rw [← HLN.out]; omega)
      have hiq : i < kl.length := by rw [← HLN.out]; exact hil
      have hx0 := hcs i hiq
      obtain ⟨y, hy⟩ : ∃ y, y = kl[i] := ⟨_, rfl⟩
      rw [← hy] at hx0
      have hym := HLS.out y (by rw [hy]; exact List.getElem_mem _)
      have hyk : y ∈ kl := by rw [hy]; exact List.getElem_mem _
      obtain ⟨yn, rfl⟩ : ∃ yn : Nat, y = yn := ⟨y.toNat, by omega⟩
      have z0 : wr.cell? ⟨b, off + i, none⟩ = some (.int .i64 (yn : Int)) := hx0
      have hy0 : (0 : Int) ≤ (yn : Int) := by omega
      have hy1 : (yn : Int) < 128 := by omega
      obtain ⟨v, hv⟩ : ∃ v, v = dz D (yn : Int) := ⟨_, rfl⟩
      have z1 : wr.cell? ⟨g, yn, none⟩ = some (.int .i64 v) := by rw [HGB5.out.cell yn, hv]; exact dget HAD.out.len (by omega)
      by_cases hvn : v < 0
      · have d0' : wr.cell? ⟨w1.heap.size, 0, none⟩ = some (.int .i64 0) := (HM5.out.at_ 1 rfl).cell 0
        have d1' : wr.cell? ⟨w1.heap.size, 1, none⟩ = some (.slice none 0 0) := (HM5.out.at_ 1 rfl).cell 1
        clear hcs hx0 hy hall hiq hv hyk
        go_wp2_with fail
        refine (HSE.out _).mono ?_
        rintro e w6 ⟨rfl, hb6⟩
        have HB6 := Lib.hid (HM5.out.step hb6).below
        clear hb6 d0' d1' z0 z1
        go_wp2
        go_ret
        exact ⟨rfl, HB6.out⟩
      · have HIN := Lib.hid (show ∀ j (h : j < i + 1) (h2 : j < kl.length), 0 ≤ dz D kl[j] from fun j h h2 => by
          by_cases e : j = i
          · subst e; rw [← hy, ← hv]; omega
          · exact HALL.out j (by omega) h2)
        clear hcs hx0 hy hall hiq hv hyk
        go_wp2
        go_roundw
        case rel => exact ⟨i + 1, by go_num, by omega, by first | rfl | trivial, HIN.out⟩
        case measure => simp [intOf]; omega
    · exfalso
      obtain ⟨m, hm, hmd⟩ := HRR.out
      obtain ⟨j, hj, rfl⟩ := List.getElem_of_mem hm
      have h5 := hall j (by rw [← HLN.out] at hj; omega) hj
      have h6 := HLS.out _ hm
      obtain ⟨d, hd⟩ := Int.eq_ofNat_of_zero_le h5
      exact hmd d ((HAD.out.aw _ d (by unfold isN; omega)).1 hd)

set_option maxRecDepth 1000000 in
set_option maxHeartbeats 16000000 in
/-- The task is right; a note cannot be reached; the number cannot be reached. -/
theorem lanswers_none_none (f : Int) (s : Nat × Nat) (lo hi n : Int) (w : World) (hs : NOk s) (ht : DTab w) (hx0 : tkE f s lo hi = 0) (hr : ∃ n ∈ listN s, ∀ d, ¬ Ds lo hi f n d) (hn0 : lo ≤ n) (hn1 : n ≤ hi) (hd : ∀ d, ¬ Ds lo hi f n d) :
    Calls Tryd.prog 12 #[tv f s lo hi, .int .i64 n] w fun e w' => e = .returned (.bool true) ∧ Below w.heap.size w w' := by
  have HP := Lib.hid (fun W (h : DTab W) => (plan_any f s lo hi W hs h).mono fun e w' h => h.none hx0 hr)
  have HD := Lib.hid (fun W => (depth_any f s lo hi n W hs).mono fun e w' h => h.none hx0 hn0 hn1 hd)
  have HRR := Lib.hid hr
  have HL0 := Lib.hid (fun W => refList_any s W hs)
  obtain ⟨h0, h1, hf0, hf1, hls⟩ := tkE_zero hx0
  have HLS := Lib.hid hls
  have HAW := Lib.hid (fun W => away_any f s lo hi W h0 h1 hf0 hf1)
  have HPN := Lib.hid (fun W (hr : ∀ n ∈ listN s, ∃ d, Ds lo hi f n d) => lplanned_any f s lo hi W hs h0 h1 ⟨hf0, hf1⟩ hr)
  have HK := Lib.hid (fun W => ltask_any f s lo hi W hs)
  have HSE := Lib.hid (fun W => same_any 0 0 none none 0 0 0 0 [] [] W (noArg W) (noArg W))
  rw [show decide ((0 : Int) = 0 ∧ ([] : List (Int × Int)) = []) = true by decide] at HSE
  rw [hx0] at HK
  obtain ⟨kl, hkl⟩ : ∃ kl, kl = listN s := ⟨_, rfl⟩
  rw [← hkl] at HL0 HRR HLS
  obtain ⟨ln, hln⟩ : ∃ ln, ln = kl.length := ⟨_, rfl⟩
  have HLN := Lib.hid hln
  have hll := listK_len s 128
  rw [show listK s 128 = listN s from rfl, ← hkl, ← hln] at hll
  have HKL := Lib.hid hkl
  obtain ⟨s1, s2⟩ := s
  unfold nv at HL0
  dsimp only at HL0
  unfold tv at HP HD HK HAW HPN ⊢
  dsimp only at HP HD HK HAW HPN ⊢
  have HDD := Lib.hid hd
  clear hd
  obtain ⟨nn, rfl⟩ : ∃ nn : Nat, n = nn := ⟨n.toNat, by omega⟩
  have hnn0 : (0 : Int) ≤ (nn : Int) := by omega
  have hnn1 : (nn : Int) < 128 := by omega
  have hm0 := (Hp.start w).new 43 (tkcs f (s1 : Int) (s2 : Int) lo hi)
  simp only [List.nil_append] at hm0
  have HM0 := Lib.hid hm0
  have HT := Lib.hid (ht.below hm0.below)
  clear hm0 ht hx0 hr hls hs hkl hln
  go_enter Tryd.func12, Tryd.ntmps12
  go_wp2_with fail
  refine (HP.out _ HT.out).mono ?_
  rintro e w1 ⟨rfl, hb1⟩
  have hm1 := (HM0.out.step hb1).new 25 [.int .i64 0, .slice none 0 0]
  simp only [List.nil_append, List.cons_append] at hm1
  have HM1 := Lib.hid hm1
  have k0 : (w1.alloc (.cells #[.int .i64 0, .slice none 0 0] 25)).cell? ⟨w.heap.size, 0, none⟩ = some (.int .i64 f) := (HM1.out.at_ 0 rfl).cell 0
  have k1 : (w1.alloc (.cells #[.int .i64 0, .slice none 0 0] 25)).cell? ⟨w.heap.size, 1, none⟩ = some (.int .u64 (s1 : Int)) := (HM1.out.at_ 0 rfl).cell 1
  have k2 : (w1.alloc (.cells #[.int .i64 0, .slice none 0 0] 25)).cell? ⟨w.heap.size, 2, none⟩ = some (.int .u64 (s2 : Int)) := (HM1.out.at_ 0 rfl).cell 2
  have k3 : (w1.alloc (.cells #[.int .i64 0, .slice none 0 0] 25)).cell? ⟨w.heap.size, 3, none⟩ = some (.int .i64 lo) := (HM1.out.at_ 0 rfl).cell 3
  have k4 : (w1.alloc (.cells #[.int .i64 0, .slice none 0 0] 25)).cell? ⟨w.heap.size, 4, none⟩ = some (.int .i64 hi) := (HM1.out.at_ 0 rfl).cell 4
  clear hb1 hm1
  go_wp2_with fail
  refine (HD.out _).mono ?_
  rintro e w2 ⟨rfl, hb2⟩
  have HM2 := Lib.hid (HM1.out.step hb2)
  clear k0 k1 k2 k3 k4
  have k0 : w2.cell? ⟨w.heap.size, 0, none⟩ = some (.int .i64 f) := (HM2.out.at_ 0 rfl).cell 0
  have k1 : w2.cell? ⟨w.heap.size, 1, none⟩ = some (.int .u64 (s1 : Int)) := (HM2.out.at_ 0 rfl).cell 1
  have k2 : w2.cell? ⟨w.heap.size, 2, none⟩ = some (.int .u64 (s2 : Int)) := (HM2.out.at_ 0 rfl).cell 2
  have k3 : w2.cell? ⟨w.heap.size, 3, none⟩ = some (.int .i64 lo) := (HM2.out.at_ 0 rfl).cell 3
  have k4 : w2.cell? ⟨w.heap.size, 4, none⟩ = some (.int .i64 hi) := (HM2.out.at_ 0 rfl).cell 4
  clear hb2
  go_wp2_with fail
  refine (HK.out _).mono ?_
  rintro e w3 ⟨rfl, hb3⟩
  have HM3 := Lib.hid (HM2.out.step hb3)
  clear k0 k1 k2 k3 k4
  have k0 : w3.cell? ⟨w.heap.size, 0, none⟩ = some (.int .i64 f) := (HM3.out.at_ 0 rfl).cell 0
  have k1 : w3.cell? ⟨w.heap.size, 1, none⟩ = some (.int .u64 (s1 : Int)) := (HM3.out.at_ 0 rfl).cell 1
  have k2 : w3.cell? ⟨w.heap.size, 2, none⟩ = some (.int .u64 (s2 : Int)) := (HM3.out.at_ 0 rfl).cell 2
  have k3 : w3.cell? ⟨w.heap.size, 3, none⟩ = some (.int .i64 lo) := (HM3.out.at_ 0 rfl).cell 3
  have k4 : w3.cell? ⟨w.heap.size, 4, none⟩ = some (.int .i64 hi) := (HM3.out.at_ 0 rfl).cell 4
  clear hb3
  go_wp2_with fail
  refine (HAW.out _).mono ?_
  rintro e w4 ⟨g, D, rfl, had, hgb, hgs, hb4⟩
  have HM4 := Lib.hid (HM3.out.step hb4)
  have HAD := Lib.hid had
  have HGB := Lib.hid hgb
  clear k0 k1 k2 k3 k4
  have k0 : w4.cell? ⟨w.heap.size, 0, none⟩ = some (.int .i64 f) := (HM4.out.at_ 0 rfl).cell 0
  have k1 : w4.cell? ⟨w.heap.size, 1, none⟩ = some (.int .u64 (s1 : Int)) := (HM4.out.at_ 0 rfl).cell 1
  have k2 : w4.cell? ⟨w.heap.size, 2, none⟩ = some (.int .u64 (s2 : Int)) := (HM4.out.at_ 0 rfl).cell 2
  have k3 : w4.cell? ⟨w.heap.size, 3, none⟩ = some (.int .i64 lo) := (HM4.out.at_ 0 rfl).cell 3
  have k4 : w4.cell? ⟨w.heap.size, 4, none⟩ = some (.int .i64 hi) := (HM4.out.at_ 0 rfl).cell 4
  have hxd : w4.cell? ⟨g, nn, none⟩ = some (.int .i64 (dz D (nn : Int))) := by rw [hgb.cell nn]; exact dget had.len (by omega)
  obtain ⟨x, hx⟩ : ∃ x, x = dz D (nn : Int) := ⟨_, rfl⟩
  have hxn : x < 0 := by
    rw [hx]
    rcases Int.lt_or_le (dz D (nn : Int)) 0 with h | h
    · exact h
    · obtain ⟨d, hd⟩ := Int.eq_ofNat_of_zero_le h
      exact absurd ((had.aw nn d (by unfold isN; omega)).1 hd) (HDD.out d)
  rw [← hx] at hxd
  clear hx
  clear had hgb hgs hb4
  go_wp2_with fail
  refine (HL0.out _).mono ?_
  rintro e w5 ⟨LA, lc, rfl, hown, hb5⟩
  rw [← HLN.out] at hown ⊢
  have HM5 := Lib.hid (HM4.out.step hb5)
  have HGB5 := Lib.hid (HGB.out.step hb5)
  have HOW := Lib.hid hown
  clear k0 k1 k2 k3 k4 hxd hb5 hown
  go_wp2_with fail
  go_loopw [101] (fun v wx => ∃ i : Nat, v = .int .i64 (i : Int) ∧ i ≤ ln ∧ wx = w5 ∧ ∀ j (h : j < i) (h2 : j < kl.length), 0 ≤ dz D kl[j]) (fun v _ => ln - (intOf v).toNat)
  case atStart => exact ⟨0, rfl, by omega, rfl, fun j h => absurd h (by omega)⟩
  case round =>
    obtain ⟨i, rfl, hi', rfl, hall⟩ := hrel
    have HALL := Lib.hid hall
    by_cases hil : i < ln
    · obtain ⟨b, off, rfl, hbl, hcs⟩ := (Rd.of_own HOW.out HLN.out).at_ (by rw [← HLN.out]; omega)
      have hiq : i < kl.length := by rw [← HLN.out]; exact hil
      have hx0 := hcs i hiq
      obtain ⟨y, hy⟩ : ∃ y, y = kl[i] := ⟨_, rfl⟩
      rw [← hy] at hx0
      have hym := HLS.out y (by rw [hy]; exact List.getElem_mem _)
      have hyk : y ∈ kl := by rw [hy]; exact List.getElem_mem _
      obtain ⟨yn, rfl⟩ : ∃ yn : Nat, y = yn := ⟨y.toNat, by omega⟩
      have z0 : wr.cell? ⟨b, off + i, none⟩ = some (.int .i64 (yn : Int)) := hx0
      have hy0 : (0 : Int) ≤ (yn : Int) := by omega
      have hy1 : (yn : Int) < 128 := by omega
      obtain ⟨v, hv⟩ : ∃ v, v = dz D (yn : Int) := ⟨_, rfl⟩
      have z1 : wr.cell? ⟨g, yn, none⟩ = some (.int .i64 v) := by rw [HGB5.out.cell yn, hv]; exact dget HAD.out.len (by omega)
      by_cases hvn : v < 0
      · have d0' : wr.cell? ⟨w1.heap.size, 0, none⟩ = some (.int .i64 0) := (HM5.out.at_ 1 rfl).cell 0
        have d1' : wr.cell? ⟨w1.heap.size, 1, none⟩ = some (.slice none 0 0) := (HM5.out.at_ 1 rfl).cell 1
        clear hcs hx0 hy hall hiq hv hyk
        go_wp2_with fail
        refine (HSE.out _).mono ?_
        rintro e w6 ⟨rfl, hb6⟩
        have HB6 := Lib.hid (HM5.out.step hb6).below
        clear hb6 d0' d1' z0 z1
        go_wp2
        go_ret
        exact ⟨rfl, HB6.out⟩
      · have HIN := Lib.hid (show ∀ j (h : j < i + 1) (h2 : j < kl.length), 0 ≤ dz D kl[j] from fun j h h2 => by
          by_cases e : j = i
          · subst e; rw [← hy, ← hv]; omega
          · exact HALL.out j (by omega) h2)
        clear hcs hx0 hy hall hiq hv hyk
        go_wp2
        go_roundw
        case rel => exact ⟨i + 1, by go_num, by omega, by first | rfl | trivial, HIN.out⟩
        case measure => simp [intOf]; omega
    · exfalso
      obtain ⟨m, hm, hmd⟩ := HRR.out
      obtain ⟨j, hj, rfl⟩ := List.getElem_of_mem hm
      have h5 := hall j (by rw [← HLN.out] at hj; omega) hj
      have h6 := HLS.out _ hm
      obtain ⟨d, hd⟩ := Int.eq_ofNat_of_zero_le h5
      exact hmd d ((HAD.out.aw _ d (by unfold isN; omega)).1 hd)

set_option maxRecDepth 1000000 in
set_option maxHeartbeats 16000000 in
/-- The task is right; a note cannot be reached; the number can be reached. -/
theorem lanswers_none_ok (f : Int) (s : Nat × Nat) (lo hi n : Int) (w : World) (hs : NOk s) (ht : DTab w) (hx0 : tkE f s lo hi = 0) (hr : ∃ n ∈ listN s, ∀ d, ¬ Ds lo hi f n d) (d0 : Nat) (hn0 : lo ≤ n) (hn1 : n ≤ hi) (hd : Ds lo hi f n d0) :
    Calls Tryd.prog 12 #[tv f s lo hi, .int .i64 n] w fun e w' => e = .returned (.bool true) ∧ Below w.heap.size w w' := by
  have HP := Lib.hid (fun W (h : DTab W) => (plan_any f s lo hi W hs h).mono fun e w' h => h.none hx0 hr)
  have HD := Lib.hid (fun W => (depth_any f s lo hi n W hs).mono fun e w' h => h.ok hx0 hn0 hn1 hd)
  have HRR := Lib.hid hr
  have HL0 := Lib.hid (fun W => refList_any s W hs)
  obtain ⟨h0, h1, hf0, hf1, hls⟩ := tkE_zero hx0
  have HLS := Lib.hid hls
  have HAW := Lib.hid (fun W => away_any f s lo hi W h0 h1 hf0 hf1)
  have HPN := Lib.hid (fun W (hr : ∀ n ∈ listN s, ∃ d, Ds lo hi f n d) => lplanned_any f s lo hi W hs h0 h1 ⟨hf0, hf1⟩ hr)
  have HK := Lib.hid (fun W => ltask_any f s lo hi W hs)
  have HSE := Lib.hid (fun W => same_any 0 0 none none 0 0 0 0 [] [] W (noArg W) (noArg W))
  rw [show decide ((0 : Int) = 0 ∧ ([] : List (Int × Int)) = []) = true by decide] at HSE
  rw [hx0] at HK
  obtain ⟨kl, hkl⟩ : ∃ kl, kl = listN s := ⟨_, rfl⟩
  rw [← hkl] at HL0 HRR HLS
  obtain ⟨ln, hln⟩ : ∃ ln, ln = kl.length := ⟨_, rfl⟩
  have HLN := Lib.hid hln
  have hll := listK_len s 128
  rw [show listK s 128 = listN s from rfl, ← hkl, ← hln] at hll
  have HKL := Lib.hid hkl
  obtain ⟨s1, s2⟩ := s
  unfold nv at HL0
  dsimp only at HL0
  unfold tv at HP HD HK HAW HPN ⊢
  dsimp only at HP HD HK HAW HPN ⊢
  have HDD := Lib.hid hd
  clear hd
  obtain ⟨nn, rfl⟩ : ∃ nn : Nat, n = nn := ⟨n.toNat, by omega⟩
  have hnn0 : (0 : Int) ≤ (nn : Int) := by omega
  have hnn1 : (nn : Int) < 128 := by omega
  obtain ⟨x, hx⟩ : ∃ x : Int, x = (d0 : Int) := ⟨_, rfl⟩
  rw [← hx] at HD
  have HX := Lib.hid hx
  have hx0' : 0 ≤ x := by omega
  clear hx
  have hm0 := (Hp.start w).new 43 (tkcs f (s1 : Int) (s2 : Int) lo hi)
  simp only [List.nil_append] at hm0
  have HM0 := Lib.hid hm0
  have HT := Lib.hid (ht.below hm0.below)
  clear hm0 ht hx0 hr hls hs hkl hln
  go_enter Tryd.func12, Tryd.ntmps12
  go_wp2_with fail
  refine (HP.out _ HT.out).mono ?_
  rintro e w1 ⟨rfl, hb1⟩
  have hm1 := (HM0.out.step hb1).new 25 [.int .i64 0, .slice none 0 0]
  simp only [List.nil_append, List.cons_append] at hm1
  have HM1 := Lib.hid hm1
  have k0 : (w1.alloc (.cells #[.int .i64 0, .slice none 0 0] 25)).cell? ⟨w.heap.size, 0, none⟩ = some (.int .i64 f) := (HM1.out.at_ 0 rfl).cell 0
  have k1 : (w1.alloc (.cells #[.int .i64 0, .slice none 0 0] 25)).cell? ⟨w.heap.size, 1, none⟩ = some (.int .u64 (s1 : Int)) := (HM1.out.at_ 0 rfl).cell 1
  have k2 : (w1.alloc (.cells #[.int .i64 0, .slice none 0 0] 25)).cell? ⟨w.heap.size, 2, none⟩ = some (.int .u64 (s2 : Int)) := (HM1.out.at_ 0 rfl).cell 2
  have k3 : (w1.alloc (.cells #[.int .i64 0, .slice none 0 0] 25)).cell? ⟨w.heap.size, 3, none⟩ = some (.int .i64 lo) := (HM1.out.at_ 0 rfl).cell 3
  have k4 : (w1.alloc (.cells #[.int .i64 0, .slice none 0 0] 25)).cell? ⟨w.heap.size, 4, none⟩ = some (.int .i64 hi) := (HM1.out.at_ 0 rfl).cell 4
  clear hb1 hm1
  go_wp2_with fail
  refine (HD.out _).mono ?_
  rintro e w2 ⟨rfl, hb2⟩
  have HM2 := Lib.hid (HM1.out.step hb2)
  clear k0 k1 k2 k3 k4
  have k0 : w2.cell? ⟨w.heap.size, 0, none⟩ = some (.int .i64 f) := (HM2.out.at_ 0 rfl).cell 0
  have k1 : w2.cell? ⟨w.heap.size, 1, none⟩ = some (.int .u64 (s1 : Int)) := (HM2.out.at_ 0 rfl).cell 1
  have k2 : w2.cell? ⟨w.heap.size, 2, none⟩ = some (.int .u64 (s2 : Int)) := (HM2.out.at_ 0 rfl).cell 2
  have k3 : w2.cell? ⟨w.heap.size, 3, none⟩ = some (.int .i64 lo) := (HM2.out.at_ 0 rfl).cell 3
  have k4 : w2.cell? ⟨w.heap.size, 4, none⟩ = some (.int .i64 hi) := (HM2.out.at_ 0 rfl).cell 4
  clear hb2
  go_wp2_with fail
  refine (HK.out _).mono ?_
  rintro e w3 ⟨rfl, hb3⟩
  have HM3 := Lib.hid (HM2.out.step hb3)
  clear k0 k1 k2 k3 k4
  have k0 : w3.cell? ⟨w.heap.size, 0, none⟩ = some (.int .i64 f) := (HM3.out.at_ 0 rfl).cell 0
  have k1 : w3.cell? ⟨w.heap.size, 1, none⟩ = some (.int .u64 (s1 : Int)) := (HM3.out.at_ 0 rfl).cell 1
  have k2 : w3.cell? ⟨w.heap.size, 2, none⟩ = some (.int .u64 (s2 : Int)) := (HM3.out.at_ 0 rfl).cell 2
  have k3 : w3.cell? ⟨w.heap.size, 3, none⟩ = some (.int .i64 lo) := (HM3.out.at_ 0 rfl).cell 3
  have k4 : w3.cell? ⟨w.heap.size, 4, none⟩ = some (.int .i64 hi) := (HM3.out.at_ 0 rfl).cell 4
  clear hb3
  go_wp2_with fail
  refine (HAW.out _).mono ?_
  rintro e w4 ⟨g, D, rfl, had, hgb, hgs, hb4⟩
  have HM4 := Lib.hid (HM3.out.step hb4)
  have HAD := Lib.hid had
  have HGB := Lib.hid hgb
  clear k0 k1 k2 k3 k4
  have k0 : w4.cell? ⟨w.heap.size, 0, none⟩ = some (.int .i64 f) := (HM4.out.at_ 0 rfl).cell 0
  have k1 : w4.cell? ⟨w.heap.size, 1, none⟩ = some (.int .u64 (s1 : Int)) := (HM4.out.at_ 0 rfl).cell 1
  have k2 : w4.cell? ⟨w.heap.size, 2, none⟩ = some (.int .u64 (s2 : Int)) := (HM4.out.at_ 0 rfl).cell 2
  have k3 : w4.cell? ⟨w.heap.size, 3, none⟩ = some (.int .i64 lo) := (HM4.out.at_ 0 rfl).cell 3
  have k4 : w4.cell? ⟨w.heap.size, 4, none⟩ = some (.int .i64 hi) := (HM4.out.at_ 0 rfl).cell 4
  have hxd : w4.cell? ⟨g, nn, none⟩ = some (.int .i64 (dz D (nn : Int))) := by rw [hgb.cell nn]; exact dget had.len (by omega)
  rw [show dz D (nn : Int) = x by rw [HX.out]; exact (had.aw nn d0 (by unfold isN; omega)).2 HDD.out] at hxd
  clear had hgb hgs hb4
  go_wp2_with fail
  refine (HL0.out _).mono ?_
  rintro e w5 ⟨LA, lc, rfl, hown, hb5⟩
  rw [← HLN.out] at hown ⊢
  have HM5 := Lib.hid (HM4.out.step hb5)
  have HGB5 := Lib.hid (HGB.out.step hb5)
  have HOW := Lib.hid hown
  clear k0 k1 k2 k3 k4 hxd hb5 hown
  go_wp2_with fail
  go_loopw [101] (fun v wx => ∃ i : Nat, v = .int .i64 (i : Int) ∧ i ≤ ln ∧ wx = w5 ∧ ∀ j (h : j < i) (h2 : j < kl.length), 0 ≤ dz D kl[j]) (fun v _ => ln - (intOf v).toNat)
  case atStart => exact ⟨0, rfl, by omega, rfl, fun j h => absurd h (by omega)⟩
  case round =>
    obtain ⟨i, rfl, hi', rfl, hall⟩ := hrel
    have HALL := Lib.hid hall
    by_cases hil : i < ln
    · obtain ⟨b, off, rfl, hbl, hcs⟩ := (Rd.of_own HOW.out HLN.out).at_ (by rw [← HLN.out]; omega)
      have hiq : i < kl.length := by rw [← HLN.out]; exact hil
      have hx0 := hcs i hiq
      obtain ⟨y, hy⟩ : ∃ y, y = kl[i] := ⟨_, rfl⟩
      rw [← hy] at hx0
      have hym := HLS.out y (by rw [hy]; exact List.getElem_mem _)
      have hyk : y ∈ kl := by rw [hy]; exact List.getElem_mem _
      obtain ⟨yn, rfl⟩ : ∃ yn : Nat, y = yn := ⟨y.toNat, by omega⟩
      have z0 : wr.cell? ⟨b, off + i, none⟩ = some (.int .i64 (yn : Int)) := hx0
      have hy0 : (0 : Int) ≤ (yn : Int) := by omega
      have hy1 : (yn : Int) < 128 := by omega
      obtain ⟨v, hv⟩ : ∃ v, v = dz D (yn : Int) := ⟨_, rfl⟩
      have z1 : wr.cell? ⟨g, yn, none⟩ = some (.int .i64 v) := by rw [HGB5.out.cell yn, hv]; exact dget HAD.out.len (by omega)
      by_cases hvn : v < 0
      · have d0' : wr.cell? ⟨w1.heap.size, 0, none⟩ = some (.int .i64 0) := (HM5.out.at_ 1 rfl).cell 0
        have d1' : wr.cell? ⟨w1.heap.size, 1, none⟩ = some (.slice none 0 0) := (HM5.out.at_ 1 rfl).cell 1
        clear hcs hx0 hy hall hiq hv hyk
        go_wp2_with fail
        refine (HSE.out _).mono ?_
        rintro e w6 ⟨rfl, hb6⟩
        have HB6 := Lib.hid (HM5.out.step hb6).below
        clear hb6 d0' d1' z0 z1
        go_wp2
        go_ret
        exact ⟨rfl, HB6.out⟩
      · have HIN := Lib.hid (show ∀ j (h : j < i + 1) (h2 : j < kl.length), 0 ≤ dz D kl[j] from fun j h h2 => by
          by_cases e : j = i
          · subst e; rw [← hy, ← hv]; omega
          · exact HALL.out j (by omega) h2)
        clear hcs hx0 hy hall hiq hv hyk
        go_wp2
        go_roundw
        case rel => exact ⟨i + 1, by go_num, by omega, by first | rfl | trivial, HIN.out⟩
        case measure => simp [intOf]; omega
    · exfalso
      obtain ⟨m, hm, hmd⟩ := HRR.out
      obtain ⟨j, hj, rfl⟩ := List.getElem_of_mem hm
      have h5 := hall j (by rw [← HLN.out] at hj; omega) hj
      have h6 := HLS.out _ hm
      obtain ⟨d, hd⟩ := Int.eq_ofNat_of_zero_le h5
      exact hmd d ((HAD.out.aw _ d (by unfold isN; omega)).1 hd)

set_option maxRecDepth 1000000 in
set_option maxHeartbeats 16000000 in
/-- The task is right; all notes can be reached; the number lies below the compass. -/
theorem lanswers_ok_lo (f : Int) (s : Nat × Nat) (lo hi n : Int) (w : World) (hs : NOk s) (ht : DTab w) (hx0 : tkE f s lo hi = 0) (hr : ∀ n ∈ listN s, ∃ d, Ds lo hi f n d) (hn : n < lo) :
    Calls Tryd.prog 12 #[tv f s lo hi, .int .i64 n] w fun e w' => e = .returned (.bool true) ∧ Below w.heap.size w w' := by
  have HP := Lib.hid (fun W (h : DTab W) => (plan_any f s lo hi W hs h).mono fun e w' h => h.ok hx0 hr)
  have HD := Lib.hid (fun W => (depth_any f s lo hi n W hs).mono fun e w' h => h.out hx0 (by omega))
  have HRR := Lib.hid hr
  have HL0 := Lib.hid (fun W => refList_any s W hs)
  obtain ⟨h0, h1, hf0, hf1, hls⟩ := tkE_zero hx0
  have HLS := Lib.hid hls
  have HAW := Lib.hid (fun W => away_any f s lo hi W h0 h1 hf0 hf1)
  have HPN := Lib.hid (fun W (hr : ∀ n ∈ listN s, ∃ d, Ds lo hi f n d) => lplanned_any f s lo hi W hs h0 h1 ⟨hf0, hf1⟩ hr)
  have HK := Lib.hid (fun W => ltask_any f s lo hi W hs)
  have HSE := Lib.hid (fun W => same_any 0 0 none none 0 0 0 0 [] [] W (noArg W) (noArg W))
  rw [show decide ((0 : Int) = 0 ∧ ([] : List (Int × Int)) = []) = true by decide] at HSE
  rw [hx0] at HK
  obtain ⟨kl, hkl⟩ : ∃ kl, kl = listN s := ⟨_, rfl⟩
  rw [← hkl] at HL0 HRR HLS
  obtain ⟨ln, hln⟩ : ∃ ln, ln = kl.length := ⟨_, rfl⟩
  have HLN := Lib.hid hln
  have hll := listK_len s 128
  rw [show listK s 128 = listN s from rfl, ← hkl, ← hln] at hll
  have HKL := Lib.hid hkl
  obtain ⟨s1, s2⟩ := s
  unfold nv at HL0
  dsimp only at HL0
  unfold tv at HP HD HK HAW HPN ⊢
  dsimp only at HP HD HK HAW HPN ⊢
  have hm0 := (Hp.start w).new 43 (tkcs f (s1 : Int) (s2 : Int) lo hi)
  simp only [List.nil_append] at hm0
  have HM0 := Lib.hid hm0
  have HT := Lib.hid (ht.below hm0.below)
  clear hm0 ht hx0 hr hls hs hkl hln
  go_enter Tryd.func12, Tryd.ntmps12
  go_wp2_with fail
  refine (HP.out _ HT.out).mono ?_
  rintro e w1 ⟨OA, oc, L, rfl, hsr, hpl, hl128, hlc, hcm, hb1⟩
  obtain ⟨on, hon⟩ : ∃ on, on = L.length := ⟨_, rfl⟩
  rw [← hon] at hlc ⊢
  have hoa0 : OArg w1 w1.heap.size OA on oc L := ⟨hon.symm, hsr, hlc, hcm⟩
  have HPL0 := Lib.hid hpl
  clear hsr hpl hl128 hlc hcm hon
  have hm1 := (HM0.out.step hb1).new 25 [.int .i64 f, .slice OA on oc]
  simp only [List.nil_append, List.cons_append] at hm1
  have HM1 := Lib.hid hm1
  have k0 : (w1.alloc (.cells #[.int .i64 f, .slice OA on oc] 25)).cell? ⟨w.heap.size, 0, none⟩ = some (.int .i64 f) := (HM1.out.at_ 0 rfl).cell 0
  have k1 : (w1.alloc (.cells #[.int .i64 f, .slice OA on oc] 25)).cell? ⟨w.heap.size, 1, none⟩ = some (.int .u64 (s1 : Int)) := (HM1.out.at_ 0 rfl).cell 1
  have k2 : (w1.alloc (.cells #[.int .i64 f, .slice OA on oc] 25)).cell? ⟨w.heap.size, 2, none⟩ = some (.int .u64 (s2 : Int)) := (HM1.out.at_ 0 rfl).cell 2
  have k3 : (w1.alloc (.cells #[.int .i64 f, .slice OA on oc] 25)).cell? ⟨w.heap.size, 3, none⟩ = some (.int .i64 lo) := (HM1.out.at_ 0 rfl).cell 3
  have k4 : (w1.alloc (.cells #[.int .i64 f, .slice OA on oc] 25)).cell? ⟨w.heap.size, 4, none⟩ = some (.int .i64 hi) := (HM1.out.at_ 0 rfl).cell 4
  have HOA1 := Lib.hid (hoa0.below ((Below.refl w1.heap.size w1).alloc (Nat.le_refl _) (.cells #[.int .i64 f, .slice OA on oc] 25)))
  clear hoa0
  clear hb1 hm1
  go_wp2_with fail
  refine (HD.out _).mono ?_
  rintro e w2 ⟨rfl, hb2⟩
  have HM2 := Lib.hid (HM1.out.step hb2)
  clear k0 k1 k2 k3 k4
  have k0 : w2.cell? ⟨w.heap.size, 0, none⟩ = some (.int .i64 f) := (HM2.out.at_ 0 rfl).cell 0
  have k1 : w2.cell? ⟨w.heap.size, 1, none⟩ = some (.int .u64 (s1 : Int)) := (HM2.out.at_ 0 rfl).cell 1
  have k2 : w2.cell? ⟨w.heap.size, 2, none⟩ = some (.int .u64 (s2 : Int)) := (HM2.out.at_ 0 rfl).cell 2
  have k3 : w2.cell? ⟨w.heap.size, 3, none⟩ = some (.int .i64 lo) := (HM2.out.at_ 0 rfl).cell 3
  have k4 : w2.cell? ⟨w.heap.size, 4, none⟩ = some (.int .i64 hi) := (HM2.out.at_ 0 rfl).cell 4
  have hz2 := hb2.size
  rw [World.size_alloc] at hz2
  have HOA2 := Lib.hid (HOA1.out.below (hb2.mono (by rw [World.size_alloc]; omega)))
  clear hb2
  go_wp2_with fail
  refine (HK.out _).mono ?_
  rintro e w3 ⟨rfl, hb3⟩
  have HM3 := Lib.hid (HM2.out.step hb3)
  clear k0 k1 k2 k3 k4
  have k0 : w3.cell? ⟨w.heap.size, 0, none⟩ = some (.int .i64 f) := (HM3.out.at_ 0 rfl).cell 0
  have k1 : w3.cell? ⟨w.heap.size, 1, none⟩ = some (.int .u64 (s1 : Int)) := (HM3.out.at_ 0 rfl).cell 1
  have k2 : w3.cell? ⟨w.heap.size, 2, none⟩ = some (.int .u64 (s2 : Int)) := (HM3.out.at_ 0 rfl).cell 2
  have k3 : w3.cell? ⟨w.heap.size, 3, none⟩ = some (.int .i64 lo) := (HM3.out.at_ 0 rfl).cell 3
  have k4 : w3.cell? ⟨w.heap.size, 4, none⟩ = some (.int .i64 hi) := (HM3.out.at_ 0 rfl).cell 4
  have hz3 := hb3.size
  have HOA3 := Lib.hid (HOA2.out.below (hb3.mono (by omega)))
  clear hb3
  go_wp2_with fail
  refine (HAW.out _).mono ?_
  rintro e w4 ⟨g, D, rfl, had, hgb, hgs, hb4⟩
  have HM4 := Lib.hid (HM3.out.step hb4)
  have HAD := Lib.hid had
  have HGB := Lib.hid hgb
  clear k0 k1 k2 k3 k4
  have k0 : w4.cell? ⟨w.heap.size, 0, none⟩ = some (.int .i64 f) := (HM4.out.at_ 0 rfl).cell 0
  have k1 : w4.cell? ⟨w.heap.size, 1, none⟩ = some (.int .u64 (s1 : Int)) := (HM4.out.at_ 0 rfl).cell 1
  have k2 : w4.cell? ⟨w.heap.size, 2, none⟩ = some (.int .u64 (s2 : Int)) := (HM4.out.at_ 0 rfl).cell 2
  have k3 : w4.cell? ⟨w.heap.size, 3, none⟩ = some (.int .i64 lo) := (HM4.out.at_ 0 rfl).cell 3
  have k4 : w4.cell? ⟨w.heap.size, 4, none⟩ = some (.int .i64 hi) := (HM4.out.at_ 0 rfl).cell 4
  have hz4 := hb4.size
  have HOA4 := Lib.hid (HOA3.out.below (hb4.mono (by omega)))
  clear had hgb hgs hb4
  go_wp2_with fail
  refine (HL0.out _).mono ?_
  rintro e w5 ⟨LA, lc, rfl, hown, hb5⟩
  rw [← HLN.out] at hown ⊢
  have HM5 := Lib.hid (HM4.out.step hb5)
  have HGB5 := Lib.hid (HGB.out.step hb5)
  have HOW := Lib.hid hown
  have hz5 := hb5.size
  have HOA5 := Lib.hid (HOA4.out.below (hb5.mono (by omega)))
  clear k0 k1 k2 k3 k4 hb5 hown
  go_wp2_with fail
  go_loopw [101] (fun v wx => ∃ i : Nat, v = .int .i64 (i : Int) ∧ i ≤ ln ∧ wx = w5 ∧ ∀ j (h : j < i) (h2 : j < kl.length), 0 ≤ dz D kl[j]) (fun v _ => ln - (intOf v).toNat)
  case atStart => exact ⟨0, rfl, by omega, rfl, fun j h => absurd h (by omega)⟩
  case round =>
    obtain ⟨i, rfl, hi', rfl, hall⟩ := hrel
    have HALL := Lib.hid hall
    by_cases hil : i < ln
    · obtain ⟨b, off, rfl, hbl, hcs⟩ := (Rd.of_own HOW.out HLN.out).at_ (by rw [← HLN.out]; omega)
      have hiq : i < kl.length := by rw [← HLN.out]; exact hil
      have hx0 := hcs i hiq
      obtain ⟨y, hy⟩ : ∃ y, y = kl[i] := ⟨_, rfl⟩
      rw [← hy] at hx0
      have hym := HLS.out y (by rw [hy]; exact List.getElem_mem _)
      have hyk : y ∈ kl := by rw [hy]; exact List.getElem_mem _
      obtain ⟨yn, rfl⟩ : ∃ yn : Nat, y = yn := ⟨y.toNat, by omega⟩
      have z0 : wr.cell? ⟨b, off + i, none⟩ = some (.int .i64 (yn : Int)) := hx0
      have hy0 : (0 : Int) ≤ (yn : Int) := by omega
      have hy1 : (yn : Int) < 128 := by omega
      obtain ⟨v, hv⟩ : ∃ v, v = dz D (yn : Int) := ⟨_, rfl⟩
      have z1 : wr.cell? ⟨g, yn, none⟩ = some (.int .i64 v) := by rw [HGB5.out.cell yn, hv]; exact dget HAD.out.len (by omega)
      have hvn : 0 ≤ v := by
        obtain ⟨d, hd⟩ := HRR.out _ hyk
        rw [hv, (HAD.out.aw yn d (by unfold isN; omega)).2 hd]
        omega
      have HIN := Lib.hid (show ∀ j (h : j < i + 1) (h2 : j < kl.length), 0 ≤ dz D kl[j] from fun j h h2 => by
        by_cases e : j = i
        · subst e; rw [← hy, ← hv]; exact hvn
        · exact HALL.out j (by omega) h2)
      clear hcs hx0 hy hall hiq hv hyk
      go_wp2
      go_roundw
      case rel => exact ⟨i + 1, by go_num, by omega, by first | rfl | trivial, HIN.out⟩
      case measure => simp [intOf]; omega
    · obtain rfl : i = ln := by omega
      have hT : AnH w f (s1 : Int) (s2 : Int) lo hi w1.heap.size OA on oc L w1.heap.size wr := AnH.of HM5.out HOA5.out (by omega)
      have HPLN := Lib.hid (fun W => HPN.out W (by rw [← HKL.out]; exact HRR.out))
      have HSM := Lib.hid (fun W (h : AnH w f (s1 : Int) (s2 : Int) lo hi w1.heap.size OA on oc L w1.heap.size W) (R : List (Int × Int)) RA rc B (hp : Planned lo hi f (listN (s1, s2)) R) (hown : W.ownsRow B 27 2 (.slice RA R.length rc) R.length (pcs R)) =>
        (same_any f f OA RA on R.length oc rc L R W (h.2.2.2.2.2.2.2.2.1.more h.2.2.2.2.2.2.2.2.2) ⟨rfl, SRd.of_own hown rfl, own_cap hown, own_mxT hown⟩).mono fun e w' he => show e = .returned (.bool true) ∧ Below W.heap.size W w' from by
          rw [decide_eq_true (⟨rfl, HPL0.out.same hp⟩ : f = f ∧ L = R)] at he
          exact he)
      clear hall
      go_wp2_with fail
      go_region_held3 (fun w' => w'.cell? ⟨w1.heap.size, 0, none⟩ = some (.int .i64 f) ∧ w'.cell? ⟨w1.heap.size, 1, none⟩ = some (.slice OA on oc) ∧ w'.cell? ⟨w.heap.size, 0, none⟩ = some (.int .i64 f) ∧ w'.cell? ⟨w.heap.size, 1, none⟩ = some (.int .u64 (s1 : Int)) ∧ w'.cell? ⟨w.heap.size, 2, none⟩ = some (.int .u64 (s2 : Int)) ∧ w'.cell? ⟨w.heap.size, 3, none⟩ = some (.int .i64 lo) ∧ w'.cell? ⟨w.heap.size, 4, none⟩ = some (.int .i64 hi) ∧
  Hp w [(w.heap.size, 43, tkcs f (s1 : Int) (s2 : Int) lo hi), (w1.heap.size, 25, [.int .i64 f, .slice OA on oc])] w' ∧ OArg w' w1.heap.size OA on oc L ∧ w1.heap.size ≤ w'.heap.size) (first | assumption | exact AnH.below hT (bw_drew (Below.refl _ _)) | exact AnH.below (by assumption) hbel)
        (first
         | (go_at_call 37; refine (HPLN.out _).mono ?_; rintro e w' ⟨R, RA, rc, rfl, hpl, hown, hbel⟩)
         | (go_at_call 35; refine (HSM.out _ (by assumption) _ _ _ _ (by assumption) (by assumption)).mono ?_; rintro e w' ⟨rfl, hbel⟩))
      have hf : AnH w f (s1 : Int) (s2 : Int) lo hi w1.heap.size OA on oc L w1.heap.size w' := by assumption
      have HF := Lib.hid hf.2.2.2.2.2.2.2.1.below
      clear hf
      go_wp2
      go_ret
      exact ⟨rfl, HF.out⟩

set_option maxRecDepth 1000000 in
set_option maxHeartbeats 16000000 in
/-- The task is right; all notes can be reached; the number lies above the compass. -/
theorem lanswers_ok_hi (f : Int) (s : Nat × Nat) (lo hi n : Int) (w : World) (hs : NOk s) (ht : DTab w) (hx0 : tkE f s lo hi = 0) (hr : ∀ n ∈ listN s, ∃ d, Ds lo hi f n d) (hn0 : lo ≤ n) (hn : hi < n) :
    Calls Tryd.prog 12 #[tv f s lo hi, .int .i64 n] w fun e w' => e = .returned (.bool true) ∧ Below w.heap.size w w' := by
  have HP := Lib.hid (fun W (h : DTab W) => (plan_any f s lo hi W hs h).mono fun e w' h => h.ok hx0 hr)
  have HD := Lib.hid (fun W => (depth_any f s lo hi n W hs).mono fun e w' h => h.out hx0 (by omega))
  have HRR := Lib.hid hr
  have HL0 := Lib.hid (fun W => refList_any s W hs)
  obtain ⟨h0, h1, hf0, hf1, hls⟩ := tkE_zero hx0
  have HLS := Lib.hid hls
  have HAW := Lib.hid (fun W => away_any f s lo hi W h0 h1 hf0 hf1)
  have HPN := Lib.hid (fun W (hr : ∀ n ∈ listN s, ∃ d, Ds lo hi f n d) => lplanned_any f s lo hi W hs h0 h1 ⟨hf0, hf1⟩ hr)
  have HK := Lib.hid (fun W => ltask_any f s lo hi W hs)
  have HSE := Lib.hid (fun W => same_any 0 0 none none 0 0 0 0 [] [] W (noArg W) (noArg W))
  rw [show decide ((0 : Int) = 0 ∧ ([] : List (Int × Int)) = []) = true by decide] at HSE
  rw [hx0] at HK
  obtain ⟨kl, hkl⟩ : ∃ kl, kl = listN s := ⟨_, rfl⟩
  rw [← hkl] at HL0 HRR HLS
  obtain ⟨ln, hln⟩ : ∃ ln, ln = kl.length := ⟨_, rfl⟩
  have HLN := Lib.hid hln
  have hll := listK_len s 128
  rw [show listK s 128 = listN s from rfl, ← hkl, ← hln] at hll
  have HKL := Lib.hid hkl
  obtain ⟨s1, s2⟩ := s
  unfold nv at HL0
  dsimp only at HL0
  unfold tv at HP HD HK HAW HPN ⊢
  dsimp only at HP HD HK HAW HPN ⊢
  have hm0 := (Hp.start w).new 43 (tkcs f (s1 : Int) (s2 : Int) lo hi)
  simp only [List.nil_append] at hm0
  have HM0 := Lib.hid hm0
  have HT := Lib.hid (ht.below hm0.below)
  clear hm0 ht hx0 hr hls hs hkl hln
  go_enter Tryd.func12, Tryd.ntmps12
  go_wp2_with fail
  refine (HP.out _ HT.out).mono ?_
  rintro e w1 ⟨OA, oc, L, rfl, hsr, hpl, hl128, hlc, hcm, hb1⟩
  obtain ⟨on, hon⟩ : ∃ on, on = L.length := ⟨_, rfl⟩
  rw [← hon] at hlc ⊢
  have hoa0 : OArg w1 w1.heap.size OA on oc L := ⟨hon.symm, hsr, hlc, hcm⟩
  have HPL0 := Lib.hid hpl
  clear hsr hpl hl128 hlc hcm hon
  have hm1 := (HM0.out.step hb1).new 25 [.int .i64 f, .slice OA on oc]
  simp only [List.nil_append, List.cons_append] at hm1
  have HM1 := Lib.hid hm1
  have k0 : (w1.alloc (.cells #[.int .i64 f, .slice OA on oc] 25)).cell? ⟨w.heap.size, 0, none⟩ = some (.int .i64 f) := (HM1.out.at_ 0 rfl).cell 0
  have k1 : (w1.alloc (.cells #[.int .i64 f, .slice OA on oc] 25)).cell? ⟨w.heap.size, 1, none⟩ = some (.int .u64 (s1 : Int)) := (HM1.out.at_ 0 rfl).cell 1
  have k2 : (w1.alloc (.cells #[.int .i64 f, .slice OA on oc] 25)).cell? ⟨w.heap.size, 2, none⟩ = some (.int .u64 (s2 : Int)) := (HM1.out.at_ 0 rfl).cell 2
  have k3 : (w1.alloc (.cells #[.int .i64 f, .slice OA on oc] 25)).cell? ⟨w.heap.size, 3, none⟩ = some (.int .i64 lo) := (HM1.out.at_ 0 rfl).cell 3
  have k4 : (w1.alloc (.cells #[.int .i64 f, .slice OA on oc] 25)).cell? ⟨w.heap.size, 4, none⟩ = some (.int .i64 hi) := (HM1.out.at_ 0 rfl).cell 4
  have HOA1 := Lib.hid (hoa0.below ((Below.refl w1.heap.size w1).alloc (Nat.le_refl _) (.cells #[.int .i64 f, .slice OA on oc] 25)))
  clear hoa0
  clear hb1 hm1
  go_wp2_with fail
  refine (HD.out _).mono ?_
  rintro e w2 ⟨rfl, hb2⟩
  have HM2 := Lib.hid (HM1.out.step hb2)
  clear k0 k1 k2 k3 k4
  have k0 : w2.cell? ⟨w.heap.size, 0, none⟩ = some (.int .i64 f) := (HM2.out.at_ 0 rfl).cell 0
  have k1 : w2.cell? ⟨w.heap.size, 1, none⟩ = some (.int .u64 (s1 : Int)) := (HM2.out.at_ 0 rfl).cell 1
  have k2 : w2.cell? ⟨w.heap.size, 2, none⟩ = some (.int .u64 (s2 : Int)) := (HM2.out.at_ 0 rfl).cell 2
  have k3 : w2.cell? ⟨w.heap.size, 3, none⟩ = some (.int .i64 lo) := (HM2.out.at_ 0 rfl).cell 3
  have k4 : w2.cell? ⟨w.heap.size, 4, none⟩ = some (.int .i64 hi) := (HM2.out.at_ 0 rfl).cell 4
  have hz2 := hb2.size
  rw [World.size_alloc] at hz2
  have HOA2 := Lib.hid (HOA1.out.below (hb2.mono (by rw [World.size_alloc]; omega)))
  clear hb2
  go_wp2_with fail
  refine (HK.out _).mono ?_
  rintro e w3 ⟨rfl, hb3⟩
  have HM3 := Lib.hid (HM2.out.step hb3)
  clear k0 k1 k2 k3 k4
  have k0 : w3.cell? ⟨w.heap.size, 0, none⟩ = some (.int .i64 f) := (HM3.out.at_ 0 rfl).cell 0
  have k1 : w3.cell? ⟨w.heap.size, 1, none⟩ = some (.int .u64 (s1 : Int)) := (HM3.out.at_ 0 rfl).cell 1
  have k2 : w3.cell? ⟨w.heap.size, 2, none⟩ = some (.int .u64 (s2 : Int)) := (HM3.out.at_ 0 rfl).cell 2
  have k3 : w3.cell? ⟨w.heap.size, 3, none⟩ = some (.int .i64 lo) := (HM3.out.at_ 0 rfl).cell 3
  have k4 : w3.cell? ⟨w.heap.size, 4, none⟩ = some (.int .i64 hi) := (HM3.out.at_ 0 rfl).cell 4
  have hz3 := hb3.size
  have HOA3 := Lib.hid (HOA2.out.below (hb3.mono (by omega)))
  clear hb3
  go_wp2_with fail
  refine (HAW.out _).mono ?_
  rintro e w4 ⟨g, D, rfl, had, hgb, hgs, hb4⟩
  have HM4 := Lib.hid (HM3.out.step hb4)
  have HAD := Lib.hid had
  have HGB := Lib.hid hgb
  clear k0 k1 k2 k3 k4
  have k0 : w4.cell? ⟨w.heap.size, 0, none⟩ = some (.int .i64 f) := (HM4.out.at_ 0 rfl).cell 0
  have k1 : w4.cell? ⟨w.heap.size, 1, none⟩ = some (.int .u64 (s1 : Int)) := (HM4.out.at_ 0 rfl).cell 1
  have k2 : w4.cell? ⟨w.heap.size, 2, none⟩ = some (.int .u64 (s2 : Int)) := (HM4.out.at_ 0 rfl).cell 2
  have k3 : w4.cell? ⟨w.heap.size, 3, none⟩ = some (.int .i64 lo) := (HM4.out.at_ 0 rfl).cell 3
  have k4 : w4.cell? ⟨w.heap.size, 4, none⟩ = some (.int .i64 hi) := (HM4.out.at_ 0 rfl).cell 4
  have hz4 := hb4.size
  have HOA4 := Lib.hid (HOA3.out.below (hb4.mono (by omega)))
  clear had hgb hgs hb4
  go_wp2_with fail
  refine (HL0.out _).mono ?_
  rintro e w5 ⟨LA, lc, rfl, hown, hb5⟩
  rw [← HLN.out] at hown ⊢
  have HM5 := Lib.hid (HM4.out.step hb5)
  have HGB5 := Lib.hid (HGB.out.step hb5)
  have HOW := Lib.hid hown
  have hz5 := hb5.size
  have HOA5 := Lib.hid (HOA4.out.below (hb5.mono (by omega)))
  clear k0 k1 k2 k3 k4 hb5 hown
  go_wp2_with fail
  go_loopw [101] (fun v wx => ∃ i : Nat, v = .int .i64 (i : Int) ∧ i ≤ ln ∧ wx = w5 ∧ ∀ j (h : j < i) (h2 : j < kl.length), 0 ≤ dz D kl[j]) (fun v _ => ln - (intOf v).toNat)
  case atStart => exact ⟨0, rfl, by omega, rfl, fun j h => absurd h (by omega)⟩
  case round =>
    obtain ⟨i, rfl, hi', rfl, hall⟩ := hrel
    have HALL := Lib.hid hall
    by_cases hil : i < ln
    · obtain ⟨b, off, rfl, hbl, hcs⟩ := (Rd.of_own HOW.out HLN.out).at_ (by rw [← HLN.out]; omega)
      have hiq : i < kl.length := by rw [← HLN.out]; exact hil
      have hx0 := hcs i hiq
      obtain ⟨y, hy⟩ : ∃ y, y = kl[i] := ⟨_, rfl⟩
      rw [← hy] at hx0
      have hym := HLS.out y (by rw [hy]; exact List.getElem_mem _)
      have hyk : y ∈ kl := by rw [hy]; exact List.getElem_mem _
      obtain ⟨yn, rfl⟩ : ∃ yn : Nat, y = yn := ⟨y.toNat, by omega⟩
      have z0 : wr.cell? ⟨b, off + i, none⟩ = some (.int .i64 (yn : Int)) := hx0
      have hy0 : (0 : Int) ≤ (yn : Int) := by omega
      have hy1 : (yn : Int) < 128 := by omega
      obtain ⟨v, hv⟩ : ∃ v, v = dz D (yn : Int) := ⟨_, rfl⟩
      have z1 : wr.cell? ⟨g, yn, none⟩ = some (.int .i64 v) := by rw [HGB5.out.cell yn, hv]; exact dget HAD.out.len (by omega)
      have hvn : 0 ≤ v := by
        obtain ⟨d, hd⟩ := HRR.out _ hyk
        rw [hv, (HAD.out.aw yn d (by unfold isN; omega)).2 hd]
        omega
      have HIN := Lib.hid (show ∀ j (h : j < i + 1) (h2 : j < kl.length), 0 ≤ dz D kl[j] from fun j h h2 => by
        by_cases e : j = i
        · subst e; rw [← hy, ← hv]; exact hvn
        · exact HALL.out j (by omega) h2)
      clear hcs hx0 hy hall hiq hv hyk
      go_wp2
      go_roundw
      case rel => exact ⟨i + 1, by go_num, by omega, by first | rfl | trivial, HIN.out⟩
      case measure => simp [intOf]; omega
    · obtain rfl : i = ln := by omega
      have hT : AnH w f (s1 : Int) (s2 : Int) lo hi w1.heap.size OA on oc L w1.heap.size wr := AnH.of HM5.out HOA5.out (by omega)
      have HPLN := Lib.hid (fun W => HPN.out W (by rw [← HKL.out]; exact HRR.out))
      have HSM := Lib.hid (fun W (h : AnH w f (s1 : Int) (s2 : Int) lo hi w1.heap.size OA on oc L w1.heap.size W) (R : List (Int × Int)) RA rc B (hp : Planned lo hi f (listN (s1, s2)) R) (hown : W.ownsRow B 27 2 (.slice RA R.length rc) R.length (pcs R)) =>
        (same_any f f OA RA on R.length oc rc L R W (h.2.2.2.2.2.2.2.2.1.more h.2.2.2.2.2.2.2.2.2) ⟨rfl, SRd.of_own hown rfl, own_cap hown, own_mxT hown⟩).mono fun e w' he => show e = .returned (.bool true) ∧ Below W.heap.size W w' from by
          rw [decide_eq_true (⟨rfl, HPL0.out.same hp⟩ : f = f ∧ L = R)] at he
          exact he)
      clear hall
      go_wp2_with fail
      go_region_held3 (fun w' => w'.cell? ⟨w1.heap.size, 0, none⟩ = some (.int .i64 f) ∧ w'.cell? ⟨w1.heap.size, 1, none⟩ = some (.slice OA on oc) ∧ w'.cell? ⟨w.heap.size, 0, none⟩ = some (.int .i64 f) ∧ w'.cell? ⟨w.heap.size, 1, none⟩ = some (.int .u64 (s1 : Int)) ∧ w'.cell? ⟨w.heap.size, 2, none⟩ = some (.int .u64 (s2 : Int)) ∧ w'.cell? ⟨w.heap.size, 3, none⟩ = some (.int .i64 lo) ∧ w'.cell? ⟨w.heap.size, 4, none⟩ = some (.int .i64 hi) ∧
  Hp w [(w.heap.size, 43, tkcs f (s1 : Int) (s2 : Int) lo hi), (w1.heap.size, 25, [.int .i64 f, .slice OA on oc])] w' ∧ OArg w' w1.heap.size OA on oc L ∧ w1.heap.size ≤ w'.heap.size) (first | assumption | exact AnH.below hT (bw_drew (Below.refl _ _)) | exact AnH.below (by assumption) hbel)
        (first
         | (go_at_call 37; refine (HPLN.out _).mono ?_; rintro e w' ⟨R, RA, rc, rfl, hpl, hown, hbel⟩)
         | (go_at_call 35; refine (HSM.out _ (by assumption) _ _ _ _ (by assumption) (by assumption)).mono ?_; rintro e w' ⟨rfl, hbel⟩))
      have hf : AnH w f (s1 : Int) (s2 : Int) lo hi w1.heap.size OA on oc L w1.heap.size w' := by assumption
      have HF := Lib.hid hf.2.2.2.2.2.2.2.1.below
      clear hf
      go_wp2
      go_ret
      exact ⟨rfl, HF.out⟩

set_option maxRecDepth 1000000 in
set_option maxHeartbeats 16000000 in
/-- The task is right; all notes can be reached; the number cannot be reached. -/
theorem lanswers_ok_none (f : Int) (s : Nat × Nat) (lo hi n : Int) (w : World) (hs : NOk s) (ht : DTab w) (hx0 : tkE f s lo hi = 0) (hr : ∀ n ∈ listN s, ∃ d, Ds lo hi f n d) (hn0 : lo ≤ n) (hn1 : n ≤ hi) (hd : ∀ d, ¬ Ds lo hi f n d) :
    Calls Tryd.prog 12 #[tv f s lo hi, .int .i64 n] w fun e w' => e = .returned (.bool true) ∧ Below w.heap.size w w' := by
  have HP := Lib.hid (fun W (h : DTab W) => (plan_any f s lo hi W hs h).mono fun e w' h => h.ok hx0 hr)
  have HD := Lib.hid (fun W => (depth_any f s lo hi n W hs).mono fun e w' h => h.none hx0 hn0 hn1 hd)
  have HRR := Lib.hid hr
  have HL0 := Lib.hid (fun W => refList_any s W hs)
  obtain ⟨h0, h1, hf0, hf1, hls⟩ := tkE_zero hx0
  have HLS := Lib.hid hls
  have HAW := Lib.hid (fun W => away_any f s lo hi W h0 h1 hf0 hf1)
  have HPN := Lib.hid (fun W (hr : ∀ n ∈ listN s, ∃ d, Ds lo hi f n d) => lplanned_any f s lo hi W hs h0 h1 ⟨hf0, hf1⟩ hr)
  have HK := Lib.hid (fun W => ltask_any f s lo hi W hs)
  have HSE := Lib.hid (fun W => same_any 0 0 none none 0 0 0 0 [] [] W (noArg W) (noArg W))
  rw [show decide ((0 : Int) = 0 ∧ ([] : List (Int × Int)) = []) = true by decide] at HSE
  rw [hx0] at HK
  obtain ⟨kl, hkl⟩ : ∃ kl, kl = listN s := ⟨_, rfl⟩
  rw [← hkl] at HL0 HRR HLS
  obtain ⟨ln, hln⟩ : ∃ ln, ln = kl.length := ⟨_, rfl⟩
  have HLN := Lib.hid hln
  have hll := listK_len s 128
  rw [show listK s 128 = listN s from rfl, ← hkl, ← hln] at hll
  have HKL := Lib.hid hkl
  obtain ⟨s1, s2⟩ := s
  unfold nv at HL0
  dsimp only at HL0
  unfold tv at HP HD HK HAW HPN ⊢
  dsimp only at HP HD HK HAW HPN ⊢
  have HDD := Lib.hid hd
  clear hd
  obtain ⟨nn, rfl⟩ : ∃ nn : Nat, n = nn := ⟨n.toNat, by omega⟩
  have hnn0 : (0 : Int) ≤ (nn : Int) := by omega
  have hnn1 : (nn : Int) < 128 := by omega
  have hm0 := (Hp.start w).new 43 (tkcs f (s1 : Int) (s2 : Int) lo hi)
  simp only [List.nil_append] at hm0
  have HM0 := Lib.hid hm0
  have HT := Lib.hid (ht.below hm0.below)
  clear hm0 ht hx0 hr hls hs hkl hln
  go_enter Tryd.func12, Tryd.ntmps12
  go_wp2_with fail
  refine (HP.out _ HT.out).mono ?_
  rintro e w1 ⟨OA, oc, L, rfl, hsr, hpl, hl128, hlc, hcm, hb1⟩
  obtain ⟨on, hon⟩ : ∃ on, on = L.length := ⟨_, rfl⟩
  rw [← hon] at hlc ⊢
  have hoa0 : OArg w1 w1.heap.size OA on oc L := ⟨hon.symm, hsr, hlc, hcm⟩
  have HPL0 := Lib.hid hpl
  clear hsr hpl hl128 hlc hcm hon
  have hm1 := (HM0.out.step hb1).new 25 [.int .i64 f, .slice OA on oc]
  simp only [List.nil_append, List.cons_append] at hm1
  have HM1 := Lib.hid hm1
  have k0 : (w1.alloc (.cells #[.int .i64 f, .slice OA on oc] 25)).cell? ⟨w.heap.size, 0, none⟩ = some (.int .i64 f) := (HM1.out.at_ 0 rfl).cell 0
  have k1 : (w1.alloc (.cells #[.int .i64 f, .slice OA on oc] 25)).cell? ⟨w.heap.size, 1, none⟩ = some (.int .u64 (s1 : Int)) := (HM1.out.at_ 0 rfl).cell 1
  have k2 : (w1.alloc (.cells #[.int .i64 f, .slice OA on oc] 25)).cell? ⟨w.heap.size, 2, none⟩ = some (.int .u64 (s2 : Int)) := (HM1.out.at_ 0 rfl).cell 2
  have k3 : (w1.alloc (.cells #[.int .i64 f, .slice OA on oc] 25)).cell? ⟨w.heap.size, 3, none⟩ = some (.int .i64 lo) := (HM1.out.at_ 0 rfl).cell 3
  have k4 : (w1.alloc (.cells #[.int .i64 f, .slice OA on oc] 25)).cell? ⟨w.heap.size, 4, none⟩ = some (.int .i64 hi) := (HM1.out.at_ 0 rfl).cell 4
  have HOA1 := Lib.hid (hoa0.below ((Below.refl w1.heap.size w1).alloc (Nat.le_refl _) (.cells #[.int .i64 f, .slice OA on oc] 25)))
  clear hoa0
  clear hb1 hm1
  go_wp2_with fail
  refine (HD.out _).mono ?_
  rintro e w2 ⟨rfl, hb2⟩
  have HM2 := Lib.hid (HM1.out.step hb2)
  clear k0 k1 k2 k3 k4
  have k0 : w2.cell? ⟨w.heap.size, 0, none⟩ = some (.int .i64 f) := (HM2.out.at_ 0 rfl).cell 0
  have k1 : w2.cell? ⟨w.heap.size, 1, none⟩ = some (.int .u64 (s1 : Int)) := (HM2.out.at_ 0 rfl).cell 1
  have k2 : w2.cell? ⟨w.heap.size, 2, none⟩ = some (.int .u64 (s2 : Int)) := (HM2.out.at_ 0 rfl).cell 2
  have k3 : w2.cell? ⟨w.heap.size, 3, none⟩ = some (.int .i64 lo) := (HM2.out.at_ 0 rfl).cell 3
  have k4 : w2.cell? ⟨w.heap.size, 4, none⟩ = some (.int .i64 hi) := (HM2.out.at_ 0 rfl).cell 4
  have hz2 := hb2.size
  rw [World.size_alloc] at hz2
  have HOA2 := Lib.hid (HOA1.out.below (hb2.mono (by rw [World.size_alloc]; omega)))
  clear hb2
  go_wp2_with fail
  refine (HK.out _).mono ?_
  rintro e w3 ⟨rfl, hb3⟩
  have HM3 := Lib.hid (HM2.out.step hb3)
  clear k0 k1 k2 k3 k4
  have k0 : w3.cell? ⟨w.heap.size, 0, none⟩ = some (.int .i64 f) := (HM3.out.at_ 0 rfl).cell 0
  have k1 : w3.cell? ⟨w.heap.size, 1, none⟩ = some (.int .u64 (s1 : Int)) := (HM3.out.at_ 0 rfl).cell 1
  have k2 : w3.cell? ⟨w.heap.size, 2, none⟩ = some (.int .u64 (s2 : Int)) := (HM3.out.at_ 0 rfl).cell 2
  have k3 : w3.cell? ⟨w.heap.size, 3, none⟩ = some (.int .i64 lo) := (HM3.out.at_ 0 rfl).cell 3
  have k4 : w3.cell? ⟨w.heap.size, 4, none⟩ = some (.int .i64 hi) := (HM3.out.at_ 0 rfl).cell 4
  have hz3 := hb3.size
  have HOA3 := Lib.hid (HOA2.out.below (hb3.mono (by omega)))
  clear hb3
  go_wp2_with fail
  refine (HAW.out _).mono ?_
  rintro e w4 ⟨g, D, rfl, had, hgb, hgs, hb4⟩
  have HM4 := Lib.hid (HM3.out.step hb4)
  have HAD := Lib.hid had
  have HGB := Lib.hid hgb
  clear k0 k1 k2 k3 k4
  have k0 : w4.cell? ⟨w.heap.size, 0, none⟩ = some (.int .i64 f) := (HM4.out.at_ 0 rfl).cell 0
  have k1 : w4.cell? ⟨w.heap.size, 1, none⟩ = some (.int .u64 (s1 : Int)) := (HM4.out.at_ 0 rfl).cell 1
  have k2 : w4.cell? ⟨w.heap.size, 2, none⟩ = some (.int .u64 (s2 : Int)) := (HM4.out.at_ 0 rfl).cell 2
  have k3 : w4.cell? ⟨w.heap.size, 3, none⟩ = some (.int .i64 lo) := (HM4.out.at_ 0 rfl).cell 3
  have k4 : w4.cell? ⟨w.heap.size, 4, none⟩ = some (.int .i64 hi) := (HM4.out.at_ 0 rfl).cell 4
  have hz4 := hb4.size
  have HOA4 := Lib.hid (HOA3.out.below (hb4.mono (by omega)))
  have hxd : w4.cell? ⟨g, nn, none⟩ = some (.int .i64 (dz D (nn : Int))) := by rw [hgb.cell nn]; exact dget had.len (by omega)
  obtain ⟨x, hx⟩ : ∃ x, x = dz D (nn : Int) := ⟨_, rfl⟩
  have hxn : x < 0 := by
    rw [hx]
    rcases Int.lt_or_le (dz D (nn : Int)) 0 with h | h
    · exact h
    · obtain ⟨d, hd⟩ := Int.eq_ofNat_of_zero_le h
      exact absurd ((had.aw nn d (by unfold isN; omega)).1 hd) (HDD.out d)
  rw [← hx] at hxd
  clear hx
  clear had hgb hgs hb4
  go_wp2_with fail
  refine (HL0.out _).mono ?_
  rintro e w5 ⟨LA, lc, rfl, hown, hb5⟩
  rw [← HLN.out] at hown ⊢
  have HM5 := Lib.hid (HM4.out.step hb5)
  have HGB5 := Lib.hid (HGB.out.step hb5)
  have HOW := Lib.hid hown
  have hz5 := hb5.size
  have HOA5 := Lib.hid (HOA4.out.below (hb5.mono (by omega)))
  clear k0 k1 k2 k3 k4 hxd hb5 hown
  go_wp2_with fail
  go_loopw [101] (fun v wx => ∃ i : Nat, v = .int .i64 (i : Int) ∧ i ≤ ln ∧ wx = w5 ∧ ∀ j (h : j < i) (h2 : j < kl.length), 0 ≤ dz D kl[j]) (fun v _ => ln - (intOf v).toNat)
  case atStart => exact ⟨0, rfl, by omega, rfl, fun j h => absurd h (by omega)⟩
  case round =>
    obtain ⟨i, rfl, hi', rfl, hall⟩ := hrel
    have HALL := Lib.hid hall
    by_cases hil : i < ln
    · obtain ⟨b, off, rfl, hbl, hcs⟩ := (Rd.of_own HOW.out HLN.out).at_ (by rw [← HLN.out]; omega)
      have hiq : i < kl.length := by rw [← HLN.out]; exact hil
      have hx0 := hcs i hiq
      obtain ⟨y, hy⟩ : ∃ y, y = kl[i] := ⟨_, rfl⟩
      rw [← hy] at hx0
      have hym := HLS.out y (by rw [hy]; exact List.getElem_mem _)
      have hyk : y ∈ kl := by rw [hy]; exact List.getElem_mem _
      obtain ⟨yn, rfl⟩ : ∃ yn : Nat, y = yn := ⟨y.toNat, by omega⟩
      have z0 : wr.cell? ⟨b, off + i, none⟩ = some (.int .i64 (yn : Int)) := hx0
      have hy0 : (0 : Int) ≤ (yn : Int) := by omega
      have hy1 : (yn : Int) < 128 := by omega
      obtain ⟨v, hv⟩ : ∃ v, v = dz D (yn : Int) := ⟨_, rfl⟩
      have z1 : wr.cell? ⟨g, yn, none⟩ = some (.int .i64 v) := by rw [HGB5.out.cell yn, hv]; exact dget HAD.out.len (by omega)
      have hvn : 0 ≤ v := by
        obtain ⟨d, hd⟩ := HRR.out _ hyk
        rw [hv, (HAD.out.aw yn d (by unfold isN; omega)).2 hd]
        omega
      have HIN := Lib.hid (show ∀ j (h : j < i + 1) (h2 : j < kl.length), 0 ≤ dz D kl[j] from fun j h h2 => by
        by_cases e : j = i
        · subst e; rw [← hy, ← hv]; exact hvn
        · exact HALL.out j (by omega) h2)
      clear hcs hx0 hy hall hiq hv hyk
      go_wp2
      go_roundw
      case rel => exact ⟨i + 1, by go_num, by omega, by first | rfl | trivial, HIN.out⟩
      case measure => simp [intOf]; omega
    · obtain rfl : i = ln := by omega
      have hT : AnH w f (s1 : Int) (s2 : Int) lo hi w1.heap.size OA on oc L w1.heap.size wr := AnH.of HM5.out HOA5.out (by omega)
      have HPLN := Lib.hid (fun W => HPN.out W (by rw [← HKL.out]; exact HRR.out))
      have HSM := Lib.hid (fun W (h : AnH w f (s1 : Int) (s2 : Int) lo hi w1.heap.size OA on oc L w1.heap.size W) (R : List (Int × Int)) RA rc B (hp : Planned lo hi f (listN (s1, s2)) R) (hown : W.ownsRow B 27 2 (.slice RA R.length rc) R.length (pcs R)) =>
        (same_any f f OA RA on R.length oc rc L R W (h.2.2.2.2.2.2.2.2.1.more h.2.2.2.2.2.2.2.2.2) ⟨rfl, SRd.of_own hown rfl, own_cap hown, own_mxT hown⟩).mono fun e w' he => show e = .returned (.bool true) ∧ Below W.heap.size W w' from by
          rw [decide_eq_true (⟨rfl, HPL0.out.same hp⟩ : f = f ∧ L = R)] at he
          exact he)
      clear hall
      go_wp2_with fail
      go_region_held3 (fun w' => w'.cell? ⟨w1.heap.size, 0, none⟩ = some (.int .i64 f) ∧ w'.cell? ⟨w1.heap.size, 1, none⟩ = some (.slice OA on oc) ∧ w'.cell? ⟨w.heap.size, 0, none⟩ = some (.int .i64 f) ∧ w'.cell? ⟨w.heap.size, 1, none⟩ = some (.int .u64 (s1 : Int)) ∧ w'.cell? ⟨w.heap.size, 2, none⟩ = some (.int .u64 (s2 : Int)) ∧ w'.cell? ⟨w.heap.size, 3, none⟩ = some (.int .i64 lo) ∧ w'.cell? ⟨w.heap.size, 4, none⟩ = some (.int .i64 hi) ∧
  Hp w [(w.heap.size, 43, tkcs f (s1 : Int) (s2 : Int) lo hi), (w1.heap.size, 25, [.int .i64 f, .slice OA on oc])] w' ∧ OArg w' w1.heap.size OA on oc L ∧ w1.heap.size ≤ w'.heap.size) (first | assumption | exact AnH.below hT (bw_drew (Below.refl _ _)) | exact AnH.below (by assumption) hbel)
        (first
         | (go_at_call 37; refine (HPLN.out _).mono ?_; rintro e w' ⟨R, RA, rc, rfl, hpl, hown, hbel⟩)
         | (go_at_call 35; refine (HSM.out _ (by assumption) _ _ _ _ (by assumption) (by assumption)).mono ?_; rintro e w' ⟨rfl, hbel⟩))
      have hf : AnH w f (s1 : Int) (s2 : Int) lo hi w1.heap.size OA on oc L w1.heap.size w' := by assumption
      have HF := Lib.hid hf.2.2.2.2.2.2.2.1.below
      clear hf
      go_wp2
      go_ret
      exact ⟨rfl, HF.out⟩

set_option maxRecDepth 1000000 in
set_option maxHeartbeats 16000000 in
/-- The task is right; all notes can be reached; the number can be reached. -/
theorem lanswers_ok_ok (f : Int) (s : Nat × Nat) (lo hi n : Int) (w : World) (hs : NOk s) (ht : DTab w) (hx0 : tkE f s lo hi = 0) (hr : ∀ n ∈ listN s, ∃ d, Ds lo hi f n d) (d0 : Nat) (hn0 : lo ≤ n) (hn1 : n ≤ hi) (hd : Ds lo hi f n d0) :
    Calls Tryd.prog 12 #[tv f s lo hi, .int .i64 n] w fun e w' => e = .returned (.bool true) ∧ Below w.heap.size w w' := by
  have HP := Lib.hid (fun W (h : DTab W) => (plan_any f s lo hi W hs h).mono fun e w' h => h.ok hx0 hr)
  have HD := Lib.hid (fun W => (depth_any f s lo hi n W hs).mono fun e w' h => h.ok hx0 hn0 hn1 hd)
  have HRR := Lib.hid hr
  have HL0 := Lib.hid (fun W => refList_any s W hs)
  obtain ⟨h0, h1, hf0, hf1, hls⟩ := tkE_zero hx0
  have HLS := Lib.hid hls
  have HAW := Lib.hid (fun W => away_any f s lo hi W h0 h1 hf0 hf1)
  have HPN := Lib.hid (fun W (hr : ∀ n ∈ listN s, ∃ d, Ds lo hi f n d) => lplanned_any f s lo hi W hs h0 h1 ⟨hf0, hf1⟩ hr)
  have HK := Lib.hid (fun W => ltask_any f s lo hi W hs)
  have HSE := Lib.hid (fun W => same_any 0 0 none none 0 0 0 0 [] [] W (noArg W) (noArg W))
  rw [show decide ((0 : Int) = 0 ∧ ([] : List (Int × Int)) = []) = true by decide] at HSE
  rw [hx0] at HK
  obtain ⟨kl, hkl⟩ : ∃ kl, kl = listN s := ⟨_, rfl⟩
  rw [← hkl] at HL0 HRR HLS
  obtain ⟨ln, hln⟩ : ∃ ln, ln = kl.length := ⟨_, rfl⟩
  have HLN := Lib.hid hln
  have hll := listK_len s 128
  rw [show listK s 128 = listN s from rfl, ← hkl, ← hln] at hll
  have HKL := Lib.hid hkl
  obtain ⟨s1, s2⟩ := s
  unfold nv at HL0
  dsimp only at HL0
  unfold tv at HP HD HK HAW HPN ⊢
  dsimp only at HP HD HK HAW HPN ⊢
  have HDD := Lib.hid hd
  clear hd
  obtain ⟨nn, rfl⟩ : ∃ nn : Nat, n = nn := ⟨n.toNat, by omega⟩
  have hnn0 : (0 : Int) ≤ (nn : Int) := by omega
  have hnn1 : (nn : Int) < 128 := by omega
  obtain ⟨x, hx⟩ : ∃ x : Int, x = (d0 : Int) := ⟨_, rfl⟩
  rw [← hx] at HD
  have HX := Lib.hid hx
  have hx0' : 0 ≤ x := by omega
  clear hx
  have hm0 := (Hp.start w).new 43 (tkcs f (s1 : Int) (s2 : Int) lo hi)
  simp only [List.nil_append] at hm0
  have HM0 := Lib.hid hm0
  have HT := Lib.hid (ht.below hm0.below)
  clear hm0 ht hx0 hr hls hs hkl hln
  go_enter Tryd.func12, Tryd.ntmps12
  go_wp2_with fail
  refine (HP.out _ HT.out).mono ?_
  rintro e w1 ⟨OA, oc, L, rfl, hsr, hpl, hl128, hlc, hcm, hb1⟩
  obtain ⟨on, hon⟩ : ∃ on, on = L.length := ⟨_, rfl⟩
  rw [← hon] at hlc ⊢
  have hoa0 : OArg w1 w1.heap.size OA on oc L := ⟨hon.symm, hsr, hlc, hcm⟩
  have HPL0 := Lib.hid hpl
  clear hsr hpl hl128 hlc hcm hon
  have hm1 := (HM0.out.step hb1).new 25 [.int .i64 f, .slice OA on oc]
  simp only [List.nil_append, List.cons_append] at hm1
  have HM1 := Lib.hid hm1
  have k0 : (w1.alloc (.cells #[.int .i64 f, .slice OA on oc] 25)).cell? ⟨w.heap.size, 0, none⟩ = some (.int .i64 f) := (HM1.out.at_ 0 rfl).cell 0
  have k1 : (w1.alloc (.cells #[.int .i64 f, .slice OA on oc] 25)).cell? ⟨w.heap.size, 1, none⟩ = some (.int .u64 (s1 : Int)) := (HM1.out.at_ 0 rfl).cell 1
  have k2 : (w1.alloc (.cells #[.int .i64 f, .slice OA on oc] 25)).cell? ⟨w.heap.size, 2, none⟩ = some (.int .u64 (s2 : Int)) := (HM1.out.at_ 0 rfl).cell 2
  have k3 : (w1.alloc (.cells #[.int .i64 f, .slice OA on oc] 25)).cell? ⟨w.heap.size, 3, none⟩ = some (.int .i64 lo) := (HM1.out.at_ 0 rfl).cell 3
  have k4 : (w1.alloc (.cells #[.int .i64 f, .slice OA on oc] 25)).cell? ⟨w.heap.size, 4, none⟩ = some (.int .i64 hi) := (HM1.out.at_ 0 rfl).cell 4
  have HOA1 := Lib.hid (hoa0.below ((Below.refl w1.heap.size w1).alloc (Nat.le_refl _) (.cells #[.int .i64 f, .slice OA on oc] 25)))
  clear hoa0
  clear hb1 hm1
  go_wp2_with fail
  refine (HD.out _).mono ?_
  rintro e w2 ⟨rfl, hb2⟩
  have HM2 := Lib.hid (HM1.out.step hb2)
  clear k0 k1 k2 k3 k4
  have k0 : w2.cell? ⟨w.heap.size, 0, none⟩ = some (.int .i64 f) := (HM2.out.at_ 0 rfl).cell 0
  have k1 : w2.cell? ⟨w.heap.size, 1, none⟩ = some (.int .u64 (s1 : Int)) := (HM2.out.at_ 0 rfl).cell 1
  have k2 : w2.cell? ⟨w.heap.size, 2, none⟩ = some (.int .u64 (s2 : Int)) := (HM2.out.at_ 0 rfl).cell 2
  have k3 : w2.cell? ⟨w.heap.size, 3, none⟩ = some (.int .i64 lo) := (HM2.out.at_ 0 rfl).cell 3
  have k4 : w2.cell? ⟨w.heap.size, 4, none⟩ = some (.int .i64 hi) := (HM2.out.at_ 0 rfl).cell 4
  have hz2 := hb2.size
  rw [World.size_alloc] at hz2
  have HOA2 := Lib.hid (HOA1.out.below (hb2.mono (by rw [World.size_alloc]; omega)))
  clear hb2
  go_wp2_with fail
  refine (HK.out _).mono ?_
  rintro e w3 ⟨rfl, hb3⟩
  have HM3 := Lib.hid (HM2.out.step hb3)
  clear k0 k1 k2 k3 k4
  have k0 : w3.cell? ⟨w.heap.size, 0, none⟩ = some (.int .i64 f) := (HM3.out.at_ 0 rfl).cell 0
  have k1 : w3.cell? ⟨w.heap.size, 1, none⟩ = some (.int .u64 (s1 : Int)) := (HM3.out.at_ 0 rfl).cell 1
  have k2 : w3.cell? ⟨w.heap.size, 2, none⟩ = some (.int .u64 (s2 : Int)) := (HM3.out.at_ 0 rfl).cell 2
  have k3 : w3.cell? ⟨w.heap.size, 3, none⟩ = some (.int .i64 lo) := (HM3.out.at_ 0 rfl).cell 3
  have k4 : w3.cell? ⟨w.heap.size, 4, none⟩ = some (.int .i64 hi) := (HM3.out.at_ 0 rfl).cell 4
  have hz3 := hb3.size
  have HOA3 := Lib.hid (HOA2.out.below (hb3.mono (by omega)))
  clear hb3
  go_wp2_with fail
  refine (HAW.out _).mono ?_
  rintro e w4 ⟨g, D, rfl, had, hgb, hgs, hb4⟩
  have HM4 := Lib.hid (HM3.out.step hb4)
  have HAD := Lib.hid had
  have HGB := Lib.hid hgb
  clear k0 k1 k2 k3 k4
  have k0 : w4.cell? ⟨w.heap.size, 0, none⟩ = some (.int .i64 f) := (HM4.out.at_ 0 rfl).cell 0
  have k1 : w4.cell? ⟨w.heap.size, 1, none⟩ = some (.int .u64 (s1 : Int)) := (HM4.out.at_ 0 rfl).cell 1
  have k2 : w4.cell? ⟨w.heap.size, 2, none⟩ = some (.int .u64 (s2 : Int)) := (HM4.out.at_ 0 rfl).cell 2
  have k3 : w4.cell? ⟨w.heap.size, 3, none⟩ = some (.int .i64 lo) := (HM4.out.at_ 0 rfl).cell 3
  have k4 : w4.cell? ⟨w.heap.size, 4, none⟩ = some (.int .i64 hi) := (HM4.out.at_ 0 rfl).cell 4
  have hz4 := hb4.size
  have HOA4 := Lib.hid (HOA3.out.below (hb4.mono (by omega)))
  have hxd : w4.cell? ⟨g, nn, none⟩ = some (.int .i64 (dz D (nn : Int))) := by rw [hgb.cell nn]; exact dget had.len (by omega)
  rw [show dz D (nn : Int) = x by rw [HX.out]; exact (had.aw nn d0 (by unfold isN; omega)).2 HDD.out] at hxd
  clear had hgb hgs hb4
  go_wp2_with fail
  refine (HL0.out _).mono ?_
  rintro e w5 ⟨LA, lc, rfl, hown, hb5⟩
  rw [← HLN.out] at hown ⊢
  have HM5 := Lib.hid (HM4.out.step hb5)
  have HGB5 := Lib.hid (HGB.out.step hb5)
  have HOW := Lib.hid hown
  have hz5 := hb5.size
  have HOA5 := Lib.hid (HOA4.out.below (hb5.mono (by omega)))
  clear k0 k1 k2 k3 k4 hxd hb5 hown
  go_wp2_with fail
  go_loopw [101] (fun v wx => ∃ i : Nat, v = .int .i64 (i : Int) ∧ i ≤ ln ∧ wx = w5 ∧ ∀ j (h : j < i) (h2 : j < kl.length), 0 ≤ dz D kl[j]) (fun v _ => ln - (intOf v).toNat)
  case atStart => exact ⟨0, rfl, by omega, rfl, fun j h => absurd h (by omega)⟩
  case round =>
    obtain ⟨i, rfl, hi', rfl, hall⟩ := hrel
    have HALL := Lib.hid hall
    by_cases hil : i < ln
    · obtain ⟨b, off, rfl, hbl, hcs⟩ := (Rd.of_own HOW.out HLN.out).at_ (by rw [← HLN.out]; omega)
      have hiq : i < kl.length := by rw [← HLN.out]; exact hil
      have hx0 := hcs i hiq
      obtain ⟨y, hy⟩ : ∃ y, y = kl[i] := ⟨_, rfl⟩
      rw [← hy] at hx0
      have hym := HLS.out y (by rw [hy]; exact List.getElem_mem _)
      have hyk : y ∈ kl := by rw [hy]; exact List.getElem_mem _
      obtain ⟨yn, rfl⟩ : ∃ yn : Nat, y = yn := ⟨y.toNat, by omega⟩
      have z0 : wr.cell? ⟨b, off + i, none⟩ = some (.int .i64 (yn : Int)) := hx0
      have hy0 : (0 : Int) ≤ (yn : Int) := by omega
      have hy1 : (yn : Int) < 128 := by omega
      obtain ⟨v, hv⟩ : ∃ v, v = dz D (yn : Int) := ⟨_, rfl⟩
      have z1 : wr.cell? ⟨g, yn, none⟩ = some (.int .i64 v) := by rw [HGB5.out.cell yn, hv]; exact dget HAD.out.len (by omega)
      have hvn : 0 ≤ v := by
        obtain ⟨d, hd⟩ := HRR.out _ hyk
        rw [hv, (HAD.out.aw yn d (by unfold isN; omega)).2 hd]
        omega
      have HIN := Lib.hid (show ∀ j (h : j < i + 1) (h2 : j < kl.length), 0 ≤ dz D kl[j] from fun j h h2 => by
        by_cases e : j = i
        · subst e; rw [← hy, ← hv]; exact hvn
        · exact HALL.out j (by omega) h2)
      clear hcs hx0 hy hall hiq hv hyk
      go_wp2
      go_roundw
      case rel => exact ⟨i + 1, by go_num, by omega, by first | rfl | trivial, HIN.out⟩
      case measure => simp [intOf]; omega
    · obtain rfl : i = ln := by omega
      have hT : AnH w f (s1 : Int) (s2 : Int) lo hi w1.heap.size OA on oc L w1.heap.size wr := AnH.of HM5.out HOA5.out (by omega)
      have HPLN := Lib.hid (fun W => HPN.out W (by rw [← HKL.out]; exact HRR.out))
      have HSM := Lib.hid (fun W (h : AnH w f (s1 : Int) (s2 : Int) lo hi w1.heap.size OA on oc L w1.heap.size W) (R : List (Int × Int)) RA rc B (hp : Planned lo hi f (listN (s1, s2)) R) (hown : W.ownsRow B 27 2 (.slice RA R.length rc) R.length (pcs R)) =>
        (same_any f f OA RA on R.length oc rc L R W (h.2.2.2.2.2.2.2.2.1.more h.2.2.2.2.2.2.2.2.2) ⟨rfl, SRd.of_own hown rfl, own_cap hown, own_mxT hown⟩).mono fun e w' he => show e = .returned (.bool true) ∧ Below W.heap.size W w' from by
          rw [decide_eq_true (⟨rfl, HPL0.out.same hp⟩ : f = f ∧ L = R)] at he
          exact he)
      clear hall
      go_wp2_with fail
      go_region_held3 (fun w' => w'.cell? ⟨w1.heap.size, 0, none⟩ = some (.int .i64 f) ∧ w'.cell? ⟨w1.heap.size, 1, none⟩ = some (.slice OA on oc) ∧ w'.cell? ⟨w.heap.size, 0, none⟩ = some (.int .i64 f) ∧ w'.cell? ⟨w.heap.size, 1, none⟩ = some (.int .u64 (s1 : Int)) ∧ w'.cell? ⟨w.heap.size, 2, none⟩ = some (.int .u64 (s2 : Int)) ∧ w'.cell? ⟨w.heap.size, 3, none⟩ = some (.int .i64 lo) ∧ w'.cell? ⟨w.heap.size, 4, none⟩ = some (.int .i64 hi) ∧
  Hp w [(w.heap.size, 43, tkcs f (s1 : Int) (s2 : Int) lo hi), (w1.heap.size, 25, [.int .i64 f, .slice OA on oc])] w' ∧ OArg w' w1.heap.size OA on oc L ∧ w1.heap.size ≤ w'.heap.size) (first | assumption | exact AnH.below hT (bw_drew (Below.refl _ _)) | exact AnH.below (by assumption) hbel)
        (first
         | (go_at_call 37; refine (HPLN.out _).mono ?_; rintro e w' ⟨R, RA, rc, rfl, hpl, hown, hbel⟩)
         | (go_at_call 35; refine (HSM.out _ (by assumption) _ _ _ _ (by assumption) (by assumption)).mono ?_; rintro e w' ⟨rfl, hbel⟩))
      have hf : AnH w f (s1 : Int) (s2 : Int) lo hi w1.heap.size OA on oc L w1.heap.size w' := by assumption
      have HF := Lib.hid hf.2.2.2.2.2.2.2.1.below
      clear hf
      go_wp2
      go_ret
      exact ⟨rfl, HF.out⟩

theorem lanswers_any (f : Int) (s : Nat × Nat) (lo hi n : Int) (w : World) (hs : NOk s) (ht : DTab w) :
    Calls Tryd.prog 12 #[tv f s lo hi, .int .i64 n] w fun e w' => e = .returned (.bool true) ∧ Below w.heap.size w w' := by
  by_cases hx : tkE f s lo hi = 0
  · by_cases hr : ∀ n ∈ listN s, ∃ d, Ds lo hi f n d
    · by_cases h1 : n < lo
      · exact lanswers_ok_lo f s lo hi n w hs ht hx hr h1
      · by_cases h2 : hi < n
        · exact lanswers_ok_hi f s lo hi n w hs ht hx hr (by omega) h2
        · by_cases hd : ∃ d, Ds lo hi f n d
          · obtain ⟨d, hd⟩ := hd
            exact lanswers_ok_ok f s lo hi n w hs ht hx hr d (by omega) (by omega) hd
          · exact lanswers_ok_none f s lo hi n w hs ht hx hr (by omega) (by omega) (fun d h => hd ⟨d, h⟩)
    · have hr' : ∃ n ∈ listN s, ∀ d, ¬ Ds lo hi f n d := Classical.byContradiction fun h => hr fun n hn => Classical.byContradiction fun h2 => h ⟨n, hn, fun d hd => h2 ⟨d, hd⟩⟩
      by_cases h1 : n < lo
      · exact lanswers_none_lo f s lo hi n w hs ht hx hr' h1
      · by_cases h2 : hi < n
        · exact lanswers_none_hi f s lo hi n w hs ht hx hr' (by omega) h2
        · by_cases hd : ∃ d, Ds lo hi f n d
          · obtain ⟨d, hd⟩ := hd
            exact lanswers_none_ok f s lo hi n w hs ht hx hr' d (by omega) (by omega) hd
          · exact lanswers_none_none f s lo hi n w hs ht hx hr' (by omega) (by omega) (fun d h => hd ⟨d, h⟩)
  · exact lanswers_err f s lo hi n w hs ht hx
end Go.Proofs.YtfickhncbahekaaDoor
