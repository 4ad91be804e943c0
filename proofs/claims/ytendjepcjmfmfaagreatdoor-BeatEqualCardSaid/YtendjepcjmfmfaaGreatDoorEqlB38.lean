/- Part 38 of 39 of the proof of the law: contracts of the functions that it reaches, and plain facts. Conditions: those that each contract names. -/
import Derived.Test.YtendjepcjmfmfaaGreatDoorEqlB37
namespace Go.Proofs.YtendjepcjmfmfaaGreatDoor
open Go.RowKit
set_option maxRecDepth 100000 in
theorem whole8 (w : World) : Calls Tryz.prog 35 #[.int .i64 8] w fun e w' => e = .returned (.tuple #[.agg #[.int .i64 8, .int .i64 1], .int .i64 0]) ∧ Below w.heap.size w w' := by
 have hmk : ∀ W, Calls Tryz.prog 70 #[.int .i64 8, .int .i64 1] W fun e w' => e = .returned (.tuple #[.agg #[.int .i64 8, .int .i64 1], .int .i64 0]) ∧ Below W.heap.size W w' := fun W => by
  have := make_any 8 1 W ⟨by omega, by omega⟩ ⟨by omega, by omega⟩
  rw [show fRet (fMake 8 1) = .tuple #[.agg #[.int .i64 8, .int .i64 1], .int .i64 0] by rfl] at this
  exact this
 have HMK := Lib.hid hmk
 have hm0 := (Hp.start w).new 34 [.int .i64 0, .int .i64 0]
 simp only [World.size_alloc, List.nil_append, List.cons_append] at hm0
 have HM0 := Lib.hid hm0
 clear hm0 hmk
 go_enter Tryz.func35, Tryz.ntmps35
 go_wp2_with fail
 refine (HMK.out _).mono ?_
 rintro e w1 ⟨rfl, hb1⟩
 have hm1 := HM0.out.step hb1
 have f0 := (hm1.at_ 0 rfl).frozen 0
 have f1 := (hm1.at_ 0 rfl).frozen 1
 obtain ⟨y0, y1⟩ := two_of (hm1.at_ 0 rfl)
 have HZ := Lib.hid (hm1.put2 0 rfl (.int .i64 8) (.int .i64 1))
 clear hb1 HM0 hm1
 go_wp2_with fail
 obtain ⟨WZ, hWZ⟩ : ∃ WZ, WZ = (w1.setCell ⟨w.heap.size, 0, none⟩ (.int .i64 8)).setCell ⟨w.heap.size, 1, none⟩ (.int .i64 1) := ⟨_, rfl⟩
 rw [← hWZ] at HZ ⊢
 obtain ⟨j0, j1⟩ := two_of (HZ.out.at_ 0 rfl)
 exact bodyPost_ret (v := .tuple #[.agg #[.int .i64 8, .int .i64 1], .int .i64 0]) (by simp [results, Tryz.results35, go_sem, j0, j1]) rfl ⟨rfl, HZ.out.below⟩
theorem leq42_any (q t : Int) (w : World) (ht : Tab w) (hq : 0 ≤ q ∧ q < 65536) (ht0 : 0 ≤ t ∧ t < 256) :
  Calls Tryz.prog 8 #[.int .u16 q, .int .u8 t] w fun e w' => e = .returned (.bool true) ∧ Below w.heap.size w w' := by
 obtain ⟨p, hp⟩ : ∃ p, p = 100 + q % 901 := ⟨_, rfl⟩
 have hp1 : 1 ≤ p ∧ p ≤ 1000 := by omega
 obtain ⟨l, hl⟩ : ∃ l : Nat, (l : Int) = 24 + t % 73 := ⟨(24 + t % 73).toNat, by omega⟩
 have hl96 : l ≤ 96 := by omega
 have hdir : ∀ (s : Nat) (b : Int), (s : Int) = b → ptB b → ∀ W, Tab W → Calls Tryz.prog 26 #[.agg (tuL (cirP (nmD 0) (nmP 0) (nmQ 0)) p).toArray, .agg #[.int .i64 (l : Int), .int .i64 b]] W fun e w' => e = .returned (.tuple #[.int .i64 (drT (nmD 0) (nmP 0) (nmQ 0) l (l + s) b), .int .i64 0]) ∧ Below W.heap.size W w' := fun s b hb hpt W hT => by
  have hs12 : 3 ≤ b ∧ b ≤ 12 := by unfold ptB at hpt; omega
  have := bDirection_any (cirP (nmD 0) (nmP 0) (nmQ 0)) p l b 0 (drT (nmD 0) (nmP 0) (nmQ 0) l (l + s) b) W hT (plan_tm (nm_pln 0)) ⟨by omega, by omega⟩ ⟨by omega, by omega⟩ (by rw [eq_tuE p hp1 0, if_neg (by simp)]; unfold ivxE; rw [if_neg (fun h => h hpt), if_pos ⟨by dsimp only; omega, by dsimp only; omega, by dsimp only; omega⟩]) (fun _ W hT => bdir_pl (nm_pln 0) p b hpt (l := l) (n := l + s) (by omega) (by omega) W hT)
  exact this
 have hbts : ∀ (k : Nat) (m : Nat) (s : Nat) (b : Int), (s : Int) = b → ptB b → m + s ≤ 127 → ∀ W, Tab W → Calls Tryz.prog 27 #[.agg (tuL (cirP (nmD k) (nmP k) (nmQ k)) p).toArray, .agg #[.int .i64 (m : Int), .int .i64 b]] W fun e w' => e = .returned (.tuple #[.agg #[.int .i64 (bbT (nmD k) (nmP k) (nmQ k) p m (m + s) b).1, .int .i64 (bbT (nmD k) (nmP k) (nmQ k) p m (m + s) b).2.1], .int .i64 (bbT (nmD k) (nmP k) (nmQ k) p m (m + s) b).2.2]) ∧ Below W.heap.size W w' := fun k m s b hb hpt hms W hT => by
  have hs12 : 3 ≤ b ∧ b ≤ 12 := by unfold ptB at hpt; omega
  have hiv : ivxE ((m : Int), b) = 0 := by unfold ivxE; rw [if_neg (fun h => h hpt), if_pos ⟨by dsimp only; omega, by dsimp only; omega, by dsimp only; omega⟩]
  have := bBeats_any (cirP (nmD k) (nmP k) (nmQ k)) p m b 0 _ _ _ W hT (plan_tm (nm_pln k)) ⟨by omega, by omega⟩ ⟨by omega, by omega⟩ (by rw [eq_tuE p hp1 k, if_neg (by simp), hiv]) (fun _ W g hT hg => bsizes_pl (nm_pln k) p g 1 [((m : Int), b)] W hT hg (by simp) (fun x hx => by rw [List.mem_singleton] at hx; subst hx; exact hiv)) (fun _ W hT => bbeats_pl (nm_pln k) p b hp1 hpt (l := m) (n := m + s) (by omega) (by omega) W hT)
  exact this
 have hri : ∀ W, Tab W → Calls Tryz.prog 32 #[.agg (tuL (cirP (nmD 0) (nmP 0) (nmQ 0)) p).toArray, .int .i64 7, .agg #[.int .i64 48, .int .i64 60]] W fun e w' => e = .returned (.tuple #[.int .i64 0, .bool true, .int .i64 0]) ∧ Below W.heap.size W w' := fun W hT => by
  have h := brising_ok (cirP (nmD 0) (nmP 0) (nmQ 0)) p 7 48 60 13 (fun k => (bbT (nmD 0) (nmP 0) (nmQ 0) p (48 + k) (48 + k + 7) 7).1) (fun k => (bbT (nmD 0) (nmP 0) (nmQ 0) p (48 + k) (48 + k + 7) 7).2.1) W hT (by decide) (by decide) (fun W hT => by
   refine babove_ok (cirP (nmD 0) (nmP 0) (nmQ 0)) p 7 48 60 13 _ _ W hT (plan_tm (nm_pln 0)) (eq_tuE p hp1 0) (by decide) (by decide) (by decide) (by decide) (by decide) (fun W g c L hT hg hl hi => bsizes_pl (nm_pln 0) p g c L W hT hg hl hi) (fun k hk W hT => ?_)
   have := bbeats_pl (nm_pln 0) p 7 hp1 (by decide) (l := 48 + k) (n := 48 + k + 7) (by omega) (by omega) W hT
   rw [show (bbT (nmD 0) (nmP 0) (nmQ 0) p (48 + k) (48 + k + 7) 7).2.2 = 0 by rw [eq_bt p k hk]] at this
   rw [show ((48 + k : Nat) : Int) = 48 + (k : Int) by omega] at this
   exact this)
  rw [eq_rise p 48 (by omega) _ _ (fun k hk => by rw [eq_bt p k hk]) (fun k hk => by rw [eq_bt p k hk]) 12 0 (by decide)] at h
  exact h
 have hb12 := hbts 0 l 12 12 rfl (by decide) (by omega)
 rw [eq_octv p l (by omega)] at hb12
 have hd7 := hdir 7 7 rfl (by decide)
 rw [eq_five] at hd7
 have hd4 := hdir 4 4 rfl (by decide)
 rw [eq_three] at hd4
 have hd12 := hdir 12 12 rfl (by decide)
 rw [eq_eight] at hd12
 refine leq42_gen q t p l 0 (cirP (nmD 0) (nmP 0) (nmQ 0)) (cirP (nmD 2) (nmP 2) (nmQ 2)) w ht hq ht0 hp hl (fun W => tNamed_at 0 (by decide) W) (fun W => tNamed_at 2 (by decide) W) hd7 hd4 hd12 hb12 hri (fun W => nm_third W) (fun W hT => mn_pure W hT) (fun x hx W hT => ?_) (fun W => whole8 W)
 obtain ⟨n, rfl⟩ : ∃ n : Nat, x = (n : Int) := ⟨x.toNat, by simp only [mtL, List.mem_cons, List.not_mem_nil, or_false] at hx; omega⟩
 have hn : n ∈ [0, 2, 3, 4, 5, 7, 9, 10] := by
  simp only [mtL, List.mem_cons, List.not_mem_nil, or_false] at hx ⊢
  omega
 have hn10 : n ≤ 10 := by
  simp only [List.mem_cons, List.not_mem_nil, or_false] at hn
  omega
 have hb := hbts 2 (60 + n) 4 4 rfl (by decide) (by omega) W hT
 rw [mt_zero p n hn, show ((60 + n : Nat) : Int) = 60 + (n : Int) by omega] at hb
 exact hb
end Go.Proofs.YtendjepcjmfmfaaGreatDoor
