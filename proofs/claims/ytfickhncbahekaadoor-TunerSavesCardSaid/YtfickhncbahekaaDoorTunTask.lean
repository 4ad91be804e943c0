/- Package tuner: check (of a task) and Depth. Conditions: the words of the set are of 64 bits. -/
import Derived.Test.YtfickhncbahekaaDoorTunSortF
import Derived.Test.YtfickhncbahekaaDoorTunMembers
namespace Go.Proofs.YtfickhncbahekaaDoor
open Go.RowKit

/-- The error of a task. -/
def tkE (f : Int) (s : Nat × Nat) (lo hi : Int) : Int := if cpE lo hi ≠ 0 then cpE lo hi else if (lo ≤ f ∧ f ≤ hi) ∧ ∀ n ∈ listN s, lo ≤ n ∧ n ≤ hi then 0 else 23
theorem cpE_zero {lo hi : Int} (h : cpE lo hi = 0) : 0 ≤ lo ∧ hi ≤ 127 ∧ lo ≤ hi := by
  rcases cpE_cases lo hi with ⟨_, k⟩ | ⟨_, _, k⟩ | ⟨_, _, _, k⟩ | ⟨h1, h2, h3, _⟩
  · omega
  · omega
  · omega
  · exact ⟨h1, h2, h3⟩
theorem tkE_by {f : Int} {s : Nat × Nat} {lo hi : Int} (hs : NOk s) (h : cpE lo hi = 0) : tkE f s lo hi = if hasZ (rangeZ lo hi) f = true ∧ withinB s (rangeZ lo hi) = true then 0 else 23 := by
  obtain ⟨h0, h1, h2⟩ := cpE_zero h
  unfold tkE
  rw [if_neg (fun e => e h)]
  have e1 : (hasZ (rangeZ lo hi) f = true) ↔ (lo ≤ f ∧ f ≤ hi) := by rw [hasZ_range h0 h1 h2, decide_eq_true_eq]
  have e2 : (withinB s (rangeZ lo hi) = true) ↔ ∀ n ∈ listN s, lo ≤ n ∧ n ≤ hi := by
    rw [withinB_iff hs (rangeZ_ok h0 h1 h2)]
    constructor
    · intro k n hn
      obtain ⟨q, rfl, q1, q2⟩ := mem_listN.1 hn
      have := k q q1 q2
      have h3 := hasZ_range h0 h1 h2 (q : Int)
      unfold hasZ nB at h3
      rw [decide_eq_true (by omega), Int.toNat_natCast, this] at h3
      exact of_decide_eq_true h3.symm
    · intro k n hn hh
      have := k (n : Int) (mem_listN.2 ⟨n, rfl, hn, hh⟩)
      have h3 := hasZ_range h0 h1 h2 (n : Int)
      unfold hasZ nB at h3
      rw [decide_eq_true (by omega), Int.toNat_natCast, decide_eq_true this] at h3
      exact h3
  by_cases q1 : (lo ≤ f ∧ f ≤ hi) ∧ ∀ n ∈ listN s, lo ≤ n ∧ n ≤ hi
  · rw [if_pos q1, if_pos ⟨e1.2 q1.1, e2.2 q1.2⟩]
  · rw [if_neg q1, if_neg (fun e => q1 ⟨e1.1 e.1, e2.1 e.2⟩)]
/-- A task by value. -/
def tv (f : Int) (s : Nat × Nat) (lo hi : Int) : Value := .agg #[.int .i64 f, .int .u64 (s.1 : Int), .int .u64 (s.2 : Int), .int .i64 lo, .int .i64 hi]
set_option maxRecDepth 100000 in
set_option maxHeartbeats 2000000 in
theorem tkcheck_any (f : Int) (s : Nat × Nat) (lo hi : Int) (w : World) (hs : NOk s) :
    Calls Tryd.prog 42 #[tv f s lo hi] w fun e w' => e = .returned (.int .i64 (tkE f s lo hi)) ∧ Below w.heap.size w w' := by
  have HR := Lib.hid (fun W => range_any lo hi W)
  have hm0 := (Hp.start w).new 43 (tkcs f (s.1 : Int) (s.2 : Int) lo hi)
  simp only [World.size_alloc, List.nil_append, List.cons_append] at hm0
  have HM := Lib.hid hm0
  obtain ⟨x, hx⟩ : ∃ x, x = cpE lo hi := ⟨_, rfl⟩
  clear hm0
  by_cases h0 : x = 0
  · subst h0
    obtain ⟨hl0, hl1, hl2⟩ := cpE_zero hx.symm
    have hrv : rngV lo hi = nv (rangeZ lo hi) := by unfold rngV; rw [if_neg (fun e => e hx.symm)]
    have hrok := rangeZ_ok hl0 hl1 hl2
    have hte := tkE_by (f := f) hs hx.symm
    rw [← hx, hrv] at HR
    generalize rangeZ lo hi = r at *
    have HH := Lib.hid (fun W => nhas_any r f W hrok)
    have HW := Lib.hid (fun W => within_any s r W hs hrok)
    have HT := Lib.hid hte
    generalize hasZ r f = b1 at *
    generalize withinB s r = b2 at *
    obtain ⟨r1, r2⟩ := r
    obtain ⟨s1, s2⟩ := s
    unfold nv at HR HH HW
    unfold tv
    dsimp only at HR HH HW HM ⊢
    clear hx hrv hrok hte hs hl0 hl1 hl2
    go_enter Tryd.func42, Tryd.ntmps42
    have c0 : (w.alloc (.cells (tkcs f (s1 : Int) (s2 : Int) lo hi).toArray 43)).cell? ⟨w.heap.size, 0, none⟩ = some (.int .i64 f) := (HM.out.at_ 0 rfl).cell 0
    clear c0
    go_wp2_with fail
    refine (HR.out _).mono ?_
    rintro e w1 ⟨rfl, hb1⟩
    have hm1 := (HM.out.step hb1).new 39 [.int .u64 (r1 : Int), .int .u64 (r2 : Int)]
    simp only [List.cons_append, List.nil_append] at hm1
    have HM1 := Lib.hid hm1
    have c0 : (w1.alloc (.cells #[.int .u64 (r1 : Int), .int .u64 (r2 : Int)] 39)).cell? ⟨w.heap.size, 0, none⟩ = some (.int .i64 f) := (hm1.at_ 0 rfl).cell 0
    clear hb1 hm1
    go_wp2_with fail
    refine (HH.out _).mono ?_
    rintro e w3 ⟨rfl, hb3⟩
    have hm3 := HM1.out.step hb3
    have HM3 := Lib.hid hm3
    have d1 : w3.cell? ⟨w.heap.size, 1, none⟩ = some (.int .u64 (s1 : Int)) := (hm3.at_ 0 rfl).cell 1
    have d2 : w3.cell? ⟨w.heap.size, 2, none⟩ = some (.int .u64 (s2 : Int)) := (hm3.at_ 0 rfl).cell 2
    have d3 : w3.cell? ⟨w1.heap.size, 0, none⟩ = some (.int .u64 (r1 : Int)) := (hm3.at_ 1 rfl).cell 0
    have d4 : w3.cell? ⟨w1.heap.size, 1, none⟩ = some (.int .u64 (r2 : Int)) := (hm3.at_ 1 rfl).cell 1
    clear hb3 hm3 c0
    cases b1 with
    | false =>
      have HE := Lib.hid (show tkE f (s1, s2) lo hi = 23 by rw [HT.out, if_neg (by simp)])
      go_wp2
      go_ret
      exact ⟨by rw [HE.out]; rfl, HM3.out.below⟩
    | true =>
      go_wp2_with fail
      refine (HW.out _).mono ?_
      rintro e w4 ⟨rfl, hb4⟩
      have HM4 := Lib.hid (HM3.out.step hb4)
      clear hb4
      cases b2 with
      | false =>
        have HE := Lib.hid (show tkE f (s1, s2) lo hi = 23 by rw [HT.out, if_neg (by simp)])
        go_wp2
        go_ret
        exact ⟨by rw [HE.out]; rfl, HM4.out.below⟩
      | true =>
        have HE := Lib.hid (show tkE f (s1, s2) lo hi = 0 by rw [HT.out, if_pos (by simp)])
        go_wp2
        go_ret
        exact ⟨by rw [HE.out]; rfl, HM4.out.below⟩
  · have HE := Lib.hid (show tkE f s lo hi = x by unfold tkE; rw [if_pos (by rw [← hx]; exact h0), hx])
    have hz : (x != 0) = true := by simpa using h0
    have hrv : rngV lo hi = nv (0, 0) := by unfold rngV; rw [if_pos (by rw [← hx]; exact h0)]
    rw [← hx, hrv] at HR
    obtain ⟨s1, s2⟩ := s
    unfold nv at HR
    unfold tv
    dsimp only at HR HM ⊢
    clear hx hrv hs h0
    go_enter Tryd.func42, Tryd.ntmps42
    go_wp2_with fail
    refine (HR.out _).mono ?_
    rintro e w1 ⟨rfl, hb1⟩
    have HM1 := Lib.hid (bw_new (HM.out.step hb1).below (.cells #[.int .u64 ((0 : Nat) : Int), .int .u64 ((0 : Nat) : Int)] 39))
    clear hb1
    go_wp2
    go_ret
    exact ⟨by rw [HE.out]; rfl, HM1.out⟩

theorem field_search (a b : Nat) (W : World) : (Instr.field 103 (.agg #[.map (some a), .map (some b)]) 0).run Tryd.prog W = .ok (.map (some a)) W := by
  have e : ∀ w, (Go.sizeOf 98).run Tryd.prog w = .ok 1 w := Tryd.sizeOf98
  simp [Instr.field, run_underlying Tryd.underlying103, go_sem, e, asAgg, Result.andThen]
/-- What Depth answers. -/
def DepthPost (w : World) (f : Int) (s : Nat × Nat) (lo hi n : Int) (e : Ending) (w' : World) : Prop :=
  Below w.heap.size w w' ∧ ((tkE f s lo hi ≠ 0 ∧ e = .returned (.tuple #[.int .i64 0, .int .i64 (tkE f s lo hi)])) ∨ (tkE f s lo hi = 0 ∧ ((¬ (lo ≤ n ∧ n ≤ hi) ∧ e = .returned (.tuple #[.int .i64 0, .int .i64 23])) ∨
    (lo ≤ n ∧ n ≤ hi ∧ (((∀ d, ¬ Ds lo hi f n d) ∧ e = .returned (.tuple #[.int .i64 0, .int .i64 18])) ∨ ∃ d : Nat, Ds lo hi f n d ∧ e = .returned (.tuple #[.int .i64 (d : Int), .int .i64 0]))))))
theorem tkE_zero {f : Int} {s : Nat × Nat} {lo hi : Int} (h : tkE f s lo hi = 0) : 0 ≤ lo ∧ hi ≤ 127 ∧ lo ≤ f ∧ f ≤ hi ∧ ∀ n ∈ listN s, lo ≤ n ∧ n ≤ hi := by
  unfold tkE at h
  by_cases h1 : cpE lo hi = 0
  · rw [if_neg (fun e => e h1)] at h
    obtain ⟨a, b, _⟩ := cpE_zero h1
    by_cases h2 : (lo ≤ f ∧ f ≤ hi) ∧ ∀ n ∈ listN s, lo ≤ n ∧ n ≤ hi
    · exact ⟨a, b, h2.1.1, h2.1.2, h2.2⟩
    · rw [if_neg h2] at h; omega
  · rw [if_pos h1] at h; exact absurd h h1
set_option maxRecDepth 100000 in
set_option maxHeartbeats 2000000 in
theorem depth_any (f : Int) (s : Nat × Nat) (lo hi n : Int) (w : World) (hs : NOk s) :
    Calls Tryd.prog 24 #[tv f s lo hi, .int .i64 n] w (DepthPost w f s lo hi n) := by
  have HC := Lib.hid (fun W => tkcheck_any f s lo hi W hs)
  have hm0 := (Hp.start w).new 43 (tkcs f (s.1 : Int) (s.2 : Int) lo hi)
  simp only [World.size_alloc, List.nil_append, List.cons_append] at hm0
  have HM := Lib.hid hm0
  obtain ⟨x, hx⟩ : ∃ x, x = tkE f s lo hi := ⟨_, rfl⟩
  rw [← hx] at HC
  have HX := Lib.hid hx
  clear hm0
  unfold tv at HC
  unfold tv
  by_cases h0 : x = 0
  · subst h0
    obtain ⟨hl0, hl1, hf0, hf1, _⟩ := tkE_zero hx.symm
    have HO := Lib.hid (fun W => open_any f (s.1 : Int) (s.2 : Int) lo hi W hl0 hl1 ⟨hf0, hf1⟩)
    obtain ⟨s1, s2⟩ := s
    dsimp only at HC HM HO ⊢
    clear hx hs
    go_enter Tryd.func24, Tryd.ntmps24
    go_wp2_with fail
    refine (HC.out _).mono ?_
    rintro e w1 ⟨rfl, hb1⟩
    have hm1 := HM.out.step hb1
    have HM1 := Lib.hid hm1
    have c0 : w1.cell? ⟨w.heap.size, 0, none⟩ = some (.int .i64 f) := (hm1.at_ 0 rfl).cell 0
    have c1 : w1.cell? ⟨w.heap.size, 1, none⟩ = some (.int .u64 (s1 : Int)) := (hm1.at_ 0 rfl).cell 1
    have c2 : w1.cell? ⟨w.heap.size, 2, none⟩ = some (.int .u64 (s2 : Int)) := (hm1.at_ 0 rfl).cell 2
    have c3 : w1.cell? ⟨w.heap.size, 3, none⟩ = some (.int .i64 lo) := (hm1.at_ 0 rfl).cell 3
    have c4 : w1.cell? ⟨w.heap.size, 4, none⟩ = some (.int .i64 hi) := (hm1.at_ 0 rfl).cell 4
    clear hb1 hm1
    by_cases hn0 : n < lo
    · go_wp2
      go_ret2
      exact ⟨HM1.out.below, .inr ⟨HX.out.symm, .inl ⟨by omega, rfl⟩⟩⟩
    · by_cases hn1 : hi < n
      · go_wp2
        go_ret2
        exact ⟨HM1.out.below, .inr ⟨HX.out.symm, .inl ⟨by omega, rfl⟩⟩⟩
      · go_wp2_with fail
        refine (HO.out _).mono ?_
        rintro e w2 ⟨t, rfl, hbf, ht1, ht2, hb2⟩
        have HB2 := Lib.hid (HM1.out.step hb2).below
        have hlk := (look_iv ht1 n).1
        have hfs := field_search (w1.heap.size + 2) (w1.heap.size + 3) w2
        have HBF := Lib.hid hbf
        clear hb2 hbf ht1 ht2 c0 c1 c2 c3 c4
        cases hq : lkz n t.away with
        | none =>
          rw [hq] at hlk
          simp only [Option.getD_none, Option.isSome_none] at hlk
          have HQ := Lib.hid hq
          clear hq
          go_wp2
          go_ret2
          refine ⟨HB2.out, .inr ⟨HX.out.symm, .inr ⟨by omega, by omega, .inl ⟨fun d hd => ?_, rfl⟩⟩⟩⟩
          have := (HBF.out.aw n d).2 ⟨d, rfl, hd⟩
          rw [HQ.out] at this
          cases this
        | some v =>
          rw [hq] at hlk
          simp only [Option.getD_some, Option.isSome_some] at hlk
          obtain ⟨d, rfl, hd⟩ := (HBF.out.aw n v).1 hq
          have HD := Lib.hid hd
          clear hq hd
          go_wp2
          go_ret2
          exact ⟨HB2.out, .inr ⟨HX.out.symm, .inr ⟨by omega, by omega, .inr ⟨d, HD.out, rfl⟩⟩⟩⟩
  · have hz : (x != 0) = true := by simpa using h0
    have H0 := Lib.hid h0
    obtain ⟨s1, s2⟩ := s
    dsimp only at HC HM ⊢
    clear hx hs h0
    go_enter Tryd.func24, Tryd.ntmps24
    go_wp2_with fail
    refine (HC.out _).mono ?_
    rintro e w1 ⟨rfl, hb1⟩
    have HM1 := Lib.hid (HM.out.step hb1).below
    clear hb1
    go_wp2
    go_ret2
    have hx := HX.out
    exact ⟨HM1.out, .inl ⟨by rw [← hx]; exact H0.out, by rw [← hx]; rfl⟩⟩

end Go.Proofs.YtfickhncbahekaaDoor
