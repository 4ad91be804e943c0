/- Package tuner: what a run left behind. Conditions: the steps lie in a slice of at most maxLen cells. -/
import Derived.Test.YtfickhncbahekaaDoorTunChain
namespace Go.Proofs.YtfickhncbahekaaDoor
open Go.RowKit

theorem runE_ord {f : Int} {L : List (Int × Int)} (h : runE f L = 0) : isN f ∧ L.length ≤ 200 ∧ Ord f L := by
  rw [runE_chk] at h
  by_cases h1 : isN f
  · rw [if_neg (not_not_intro h1)] at h
    by_cases h2 : 200 < L.length
    · rw [if_pos h2] at h; cases h
    · rw [if_neg h2] at h
      exact ⟨h1, by omega, fun k hk => scanE_all h k (Nat.zero_le _) (by omega)⟩
  · rw [if_pos h1] at h; cases h
theorem ord_runE {f : Int} {L : List (Int × Int)} (h1 : isN f) (h2 : L.length ≤ 200) (h3 : Ord f L) : runE f L = 0 := by
  rw [runE_chk, if_neg (not_not_intro h1), if_neg (by omega)]
  exact scanE_zero fun j _ hj => h3 j (by omega)
theorem ways_some (f : Int) (L : List (Int × Int)) (n : Int) : (lkz n (stT f L L.length).ways).isSome = decide (fz f L n ≠ -2) := by
  have := (st_fst f L L.length (Nat.le_refl _) n).2
  unfold fz
  cases h : lkz n (stT f L L.length).ways with
  | none => rw [this.1 h]; rfl
  | some x =>
    have : firstZ f L n L.length ≠ -2 := fun e => by have := this.2 e; rw [h] at this; cases this
    simp [this]
/-- The error of a question about a note. -/
def chnE (f : Int) (L : List (Int × Int)) (n : Int) : Int := if runE f L ≠ 0 then runE f L else if fz f L n = -2 then 11 else 0
theorem rchE_eq (f : Int) (L : List (Int × Int)) (n : Int) : rchE f L n = chnE f L n := by
  unfold rchE chnE
  rw [ways_some]
  by_cases h : runE f L ≠ 0
  · rw [if_pos h, if_pos h]
  · rw [if_neg h, if_neg h]
    by_cases h2 : fz f L n = -2
    · rw [if_pos h2, if_neg (by simp [h2])]
    · rw [if_neg h2, if_pos (by simp [h2])]
theorem rchW_eq {f : Int} {L : List (Int × Int)} {n : Int} (h : chnE f L n = 0) : rchW f L n = wyB f L n := by
  unfold chnE at h
  unfold rchW
  by_cases h0 : runE f L ≠ 0
  · rw [if_pos h0] at h; exact absurd h h0
  · rw [if_neg h0] at h
    rw [if_neg h0]
    by_cases h2 : fz f L n = -2
    · rw [if_pos h2] at h; cases h
    · have := st_ways (runE_ord (f := f) (L := L) (by omega)).2.2 L.length (Nat.le_refl _) n
      rw [this, if_neg (show ¬ firstZ f L n L.length = -2 from h2)]; rfl
theorem rchW_err {f : Int} {L : List (Int × Int)} {n : Int} (h : chnE f L n ≠ 0) : rchW f L n = (0, 0) := by
  unfold chnE at h
  unfold rchW
  by_cases h0 : runE f L ≠ 0
  · rw [if_pos h0]
  · rw [if_neg h0] at h
    rw [if_neg h0]
    by_cases h2 : fz f L n = -2
    · have := (st_fst f L L.length (Nat.le_refl _) n).2.2 h2
      rw [this]; rfl
    · rw [if_neg h2] at h; exact absurd rfl h
/-- What a run left behind, and goes on lying. -/
structure TnAt (w : World) (f : Int) (L : List (Int × Int)) (A : Option Addr) (n cap : Nat) (W : World) : Prop where
  hp : Hp w [(w.heap.size, 25, [.int .i64 f, .slice A n cap])] W
  t0 : W.cell? ⟨w.heap.size + 1 + 3, 0, none⟩ = some (.map (some (w.heap.size + 1 + 1)))
  t1 : W.cell? ⟨w.heap.size + 1 + 3, 1, none⟩ = some (.map (some (w.heap.size + 1 + 2)))
  m1 : MapC iK W (w.heap.size + 1 + 1) (ents wv (stT f L n).ways)
  m2 : MapC iK W (w.heap.size + 1 + 2) (ents i64v (stT f L n).fst)
  lt : w.heap.size + 1 + 3 < W.heap.size
theorem TnAt.step {w W W' : World} {f : Int} {L : List (Int × Int)} {A : Option Addr} {n cap : Nat} (h : TnAt w f L A n cap W) (hb : Below W.heap.size W W') : TnAt w f L A n cap W' where
  hp := h.hp.step hb
  t0 := (hb.cell (p := ⟨w.heap.size + 1 + 3, 0, none⟩) h.lt).trans h.t0
  t1 := (hb.cell (p := ⟨w.heap.size + 1 + 3, 1, none⟩) h.lt).trans h.t1
  m1 := h.m1.step hb
  m2 := h.m2.step hb
  lt := Nat.lt_of_lt_of_le h.lt hb.size
theorem TnAt.of {w w1 : World} {f : Int} {L : List (Int × Int)} {A : Option Addr} {n cap : Nat} {GA : Option Addr} {gn gc : Nat} {DA : Option Addr} {dn dc : Nat}
    (hb : Below (w.alloc (.cells #[.int .i64 f, .slice A n cap] 25)).heap.size (w.alloc (.cells #[.int .i64 f, .slice A n cap] 25)) w1)
    (hp : RPack (w.alloc (.cells #[.int .i64 f, .slice A n cap] 25)) f L A n cap (w.alloc (.cells #[.int .i64 f, .slice A n cap] 25)).heap.size n GA gn gc DA dn dc w1) : TnAt w f L A n cap w1 := by
  have hm := ((Hp.start w).new 25 [.int .i64 f, .slice A n cap]).step hb
  rw [World.size_alloc] at hp
  exact ⟨hm, hp.t.cell 0, hp.t.cell 1, hp.m1, hp.m2, hp.t.lt⟩

end Go.Proofs.YtfickhncbahekaaDoor
