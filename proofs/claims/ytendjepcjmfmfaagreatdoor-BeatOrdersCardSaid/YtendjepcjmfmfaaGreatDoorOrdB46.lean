/- Part 46 of 47 of the proof of the law: contracts of the functions that it reaches, and plain facts. Conditions: those that each contract names. -/
import Derived.Test.YtendjepcjmfmfaaGreatDoorOrdB45
namespace Go.Proofs.YtendjepcjmfmfaaGreatDoor
open Go.RowKit
theorem lord_any (m d q ra rb rc : Int) (X : Nat → Int × Int) (w : World) (ht : Tab w) (hm : 0 ≤ m ∧ m < 256) (hd : 0 ≤ d ∧ d < 256) (hX : ∀ i, i < 12 → (-128 ≤ (X i).1 ∧ (X i).1 ≤ 127) ∧ (-128 ≤ (X i).2 ∧ (X i).2 ≤ 127)) (hq : 0 ≤ q ∧ q < 65536)
  (ha : 0 ≤ ra ∧ ra < 256) (hb : 0 ≤ rb ∧ rb < 256) (hc : 0 ≤ rc ∧ rc < 256) :
  Calls Tryz.prog 9 #[.agg (plC m X d).toArray, .int .u16 q, .agg #[.int .u8 ra, .int .u8 rb, .int .u8 rc]] w fun e w' => e = .returned (.bool true) ∧ Below w.heap.size w w' := by
 have hpl := pl_pln m d X
 have hp : 1 ≤ 1 + q % 1000 ∧ 1 + q % 1000 ≤ 1000 := by omega
 obtain ⟨p, hpp⟩ : ∃ p, p = 1 + q % 1000 := ⟨_, rfl⟩
 have htu : tuE (cirP (plD m d) (plP m X) (plQ m X)) p = 0 := by
  unfold tuE
  rw [ckE_pl hpl, if_neg (by simp), if_neg (by omega)]
 have hC := fun W => bCheck_any (cirP (plD m d) (plP m X) (plQ m X)) p W (plan_tm hpl)
 rw [htu] at hC
 obtain ⟨s, hs⟩ : ∃ s, s = smT (ra % 7).toNat := ⟨_, rfl⟩
 have hpt : ptB s := by rw [hs]; exact sm_ptB _
 have hs12 : 3 ≤ s ∧ s ≤ 12 := by unfold ptB at hpt; omega
 obtain ⟨sn, hsn⟩ : ∃ k : Nat, s = (k : Int) := ⟨s.toNat, by omega⟩
 obtain ⟨l, hl⟩ : ∃ l : Nat, (l : Int) = 24 + rb % 60 := ⟨(24 + rb % 60).toNat, by omega⟩
 obtain ⟨n, hn⟩ : ∃ n : Nat, (n : Int) = rc % 13 + 1 := ⟨(rc % 13 + 1).toNat, by omega⟩
 obtain ⟨hi, hhi⟩ : ∃ h, h = (l : Int) + rc % 13 := ⟨_, rfl⟩
 have hpr : 1 ≤ p ∧ p ≤ 1000 := by omega
 have hM := fun W => lTun_any m d q X W hm hd hX hq
 rw [← hpp] at hM
 have hlb : ∀ k : Nat, k < n → ∀ W, Tab W → Calls Tryz.prog 29 #[.agg (tuL (cirP (plD m d) (plP m X) (plQ m X)) p).toArray, .agg #[.int .i64 ((l : Int) + k), .int .i64 s]] W fun e w' => e = .returned (.tuple #[.agg #[.int .i64 (bbT (plD m d) (plP m X) (plQ m X) p (l + k) (l + k + sn) s).1, .int .i64 (bbT (plD m d) (plP m X) (plQ m X) p (l + k) (l + k + sn) s).2.1], .int .i64 (bbT (plD m d) (plP m X) (plQ m X) p (l + k) (l + k + sn) s).2.2]) ∧ Below W.heap.size W w' := fun k hk W hT => by
  have := lbeats_pl hpl p s hpr hpt (l := l + k) (n := l + k + sn) (by omega) (by omega) W hT
  rw [show ((l + k : Nat) : Int) = (l : Int) + k by omega] at this
  exact this
 have hab : (∀ k : Nat, k < n → (bbT (plD m d) (plP m X) (plQ m X) p (l + k) (l + k + sn) s).2.2 = 0) → ∀ W, Tab W → Calls Tryz.prog 67 #[.agg (tuL (cirP (plD m d) (plP m X) (plQ m X)) p).toArray, .int .i64 s, .agg #[.int .i64 (l : Int), .int .i64 hi]] W fun e w' => ∃ (A : Option Addr) (c : Nat), e = .returned (.tuple #[.slice A n c, .int .i64 0]) ∧ w'.ownsRow W.heap.size 53 2 (.slice A n c) n (prs42 (bdL (fun k => (bbT (plD m d) (plP m X) (plQ m X) p (l + k) (l + k + sn) s).1) (fun k => (bbT (plD m d) (plP m X) (plQ m X) p (l + k) (l + k + sn) s).2.1) n)) ∧ Below W.heap.size W w' := fun h0 W hT => by
  refine babove_ok (cirP (plD m d) (plP m X) (plQ m X)) p s l hi n _ _ W hT (plan_tm hpl) htu hpt (by omega) (by omega) (by omega) (by omega) (fun W g c L hT hg hll hi => bsizes_pl hpl p g c L W hT hg hll hi) (fun k hk W hT => ?_)
  have := bbeats_pl hpl p s hpr hpt (l := l + k) (n := l + k + sn) (by omega) (by omega) W hT
  rw [h0 k hk, show ((l + k : Nat) : Int) = (l : Int) + k by omega] at this
  exact this
 refine lord_gen m d q ra rb rc p s l hi n _ _ (fun k => (bbT (plD m d) (plP m X) (plQ m X) p (l + k) (l + k + sn) s).2.2) X _ w ht ha hb hc hs (by omega) hhi hn hM hC hlb (fun h0 W hT => ?_) (fun h0 W hT => ?_)
 ·exact border_ok _ p s l hi n _ _ W hT (by omega) (by omega) (hab h0)
 ·exact brising_ok _ p s l hi n _ _ W hT (by omega) (by omega) (hab h0)
end Go.Proofs.YtendjepcjmfmfaaGreatDoor
