/- Orders of tuning, in plain numbers: the chain of a note and its way, the redundant steps and their drifts. No function of the program is named in this text. Conditions: those that each lemma names. -/
import Derived.Test.YtfickhncbahekaaDoorTunNum
namespace Go.Proofs.YtfickhncbahekaaDoor
open Go.RowKit

/-- Every step is right. -/
def Ord (f : Int) (L : List (Int × Int)) : Prop := ∀ k, k < L.length → chkE f L k = 0
theorem chkE_zero {f : Int} {L : List (Int × Int)} {k : Nat} (h : chkE f L k = 0) : isN (L.getD k (0, 0)).1 ∧ isN (L.getD k (0, 0)).2 ∧ (∃ x, wayOf ((L.getD k (0, 0)).2 - (L.getD k (0, 0)).1) = some x) ∧ firstZ f L (L.getD k (0, 0)).1 k ≠ -2 := by
  unfold chkE at h
  by_cases h1 : isN (L.getD k (0, 0)).1 ∧ isN (L.getD k (0, 0)).2
  · rw [if_neg (fun e => e h1)] at h
    cases hw : wayOf ((L.getD k (0, 0)).2 - (L.getD k (0, 0)).1) with
    | none => rw [hw, if_pos rfl] at h; omega
    | some x =>
      rw [hw, if_neg (by simp)] at h
      by_cases h3 : firstZ f L (L.getD k (0, 0)).1 k = -2
      · rw [if_pos h3] at h; omega
      · exact ⟨h1.1, h1.2, ⟨x, rfl⟩, h3⟩
  · rw [if_pos h1] at h; omega
theorem firstZ_stay {f : Int} {L : List (Int × Int)} {n : Int} {c : Nat} (h : firstZ f L n c ≠ -2) : ∀ {d : Nat}, c ≤ d → d ≤ L.length → firstZ f L n d = firstZ f L n c
  | 0, hc, _ => by rw [show c = 0 by omega]
  | d + 1, hc, hd => by
    by_cases e : c = d + 1
    · rw [e]
    · have := firstZ_stay h (d := d) (by omega) (by omega)
      rw [firstZ_succ f L n d (by omega), this, if_neg h]
theorem firstZ_lt (f : Int) (L : List (Int × Int)) (n : Int) (c : Nat) : -2 ≤ firstZ f L n c ∧ firstZ f L n c < c := by
  rcases firstZ_cases f L n c with ⟨_, h⟩ | ⟨_, h⟩ | ⟨_, k, h1, _, h, _⟩ <;> rw [h] <;> omega
/-- The first step to a note of the whole order. -/
def fz (f : Int) (L : List (Int × Int)) (n : Int) : Int := firstZ f L n L.length
theorem fz_lt (f : Int) (L : List (Int × Int)) (n : Int) : -2 ≤ fz f L n ∧ fz f L n < L.length := firstZ_lt f L n _
theorem fz_back {f : Int} {L : List (Int × Int)} (ho : Ord f L) {n : Int} {i : Nat} (h : fz f L n = i) : i < L.length ∧ (L.getD i (0, 0)).2 = n ∧ n ≠ f ∧ -1 ≤ fz f L (L.getD i (0, 0)).1 ∧ fz f L (L.getD i (0, 0)).1 < i ∧ fz f L (L.getD i (0, 0)).1 = firstZ f L (L.getD i (0, 0)).1 i ∧ isN n := by
  rcases firstZ_cases f L n L.length with ⟨_, e⟩ | ⟨_, e⟩ | ⟨hn, k, h1, _, e, h2⟩
  · unfold fz at h; omega
  · unfold fz at h; omega
  · have hk : k = i := by unfold fz at h; omega
    subst hk
    have hc := chkE_zero (ho k h1)
    have hs := firstZ_stay hc.2.2.2 (Nat.le_of_lt h1) (Nat.le_refl _)
    have hl := firstZ_lt f L (L.getD k (0, 0)).1 k
    refine ⟨h1, h2, hn, ?_, ?_, hs, by rw [← h2]; exact hc.2.1⟩
    · unfold fz; rw [hs]; have := hc.2.2.2; omega
    · unfold fz; rw [hs]; omega
/-- The indices of the chain of a note, the last one first. -/
def backZ (f : Int) (L : List (Int × Int)) : Nat → Int → List Int
  | 0, _ => []
  | b + 1, n => if 0 ≤ fz f L n then fz f L n :: backZ f L b (L.getD (fz f L n).toNat (0, 0)).1 else []
/-- The way to a note. -/
def wayB (f : Int) (L : List (Int × Int)) : Nat → Int → Int × Int
  | 0, _ => (0, 0)
  | b + 1, n => if 0 ≤ fz f L n then addW ((wayOf ((L.getD (fz f L n).toNat (0, 0)).2 - (L.getD (fz f L n).toNat (0, 0)).1)).getD (0, 0)) (wayB f L b (L.getD (fz f L n).toNat (0, 0)).1) else (0, 0)
theorem back_fuel {f : Int} {L : List (Int × Int)} (ho : Ord f L) : ∀ (b c : Nat) (n : Int), fz f L n < b → fz f L n < c → backZ f L b n = backZ f L c n ∧ wayB f L b n = wayB f L c n
  | 0, 0, _, _, _ => ⟨rfl, rfl⟩
  | 0, c + 1, n, h, _ => by
    unfold backZ wayB
    rw [if_neg (by omega), if_neg (by omega)]; exact ⟨rfl, rfl⟩
  | b + 1, 0, n, _, h => by
    unfold backZ wayB
    rw [if_neg (by omega), if_neg (by omega)]; exact ⟨rfl, rfl⟩
  | b + 1, c + 1, n, h1, h2 => by
    unfold backZ wayB
    by_cases e : 0 ≤ fz f L n
    · obtain ⟨i, hi⟩ := Int.eq_ofNat_of_zero_le e
      obtain ⟨_, _, _, _, hlt, _⟩ := fz_back ho hi
      rw [if_pos e, if_pos e, if_pos e, if_pos e, hi, Int.toNat_natCast]
      obtain ⟨a1, a2⟩ := back_fuel ho b c (L.getD i (0, 0)).1 (by omega) (by omega)
      rw [a1, a2]; exact ⟨rfl, rfl⟩
    · rw [if_neg e, if_neg e, if_neg e, if_neg e]; exact ⟨rfl, rfl⟩
def chB (f : Int) (L : List (Int × Int)) (n : Int) : List Int := backZ f L L.length n
def wyB (f : Int) (L : List (Int × Int)) (n : Int) : Int × Int := wayB f L L.length n
theorem chB_stop {f : Int} {L : List (Int × Int)} {n : Int} (h : fz f L n < 0) : chB f L n = [] ∧ wyB f L n = (0, 0) := by
  unfold chB wyB
  cases L.length with
  | zero => exact ⟨rfl, rfl⟩
  | succ b => unfold backZ wayB; rw [if_neg (by omega), if_neg (by omega)]; exact ⟨rfl, rfl⟩
theorem chB_go {f : Int} {L : List (Int × Int)} (ho : Ord f L) {n : Int} {i : Nat} (h : fz f L n = i) :
    chB f L n = (i : Int) :: chB f L (L.getD i (0, 0)).1 ∧ wyB f L n = addW ((wayOf ((L.getD i (0, 0)).2 - (L.getD i (0, 0)).1)).getD (0, 0)) (wyB f L (L.getD i (0, 0)).1) := by
  obtain ⟨hi, _, _, _, hlt, _⟩ := fz_back ho h
  unfold chB wyB
  obtain ⟨b, hb⟩ : ∃ b, L.length = b + 1 := ⟨L.length - 1, by omega⟩
  obtain ⟨a1, a2⟩ := back_fuel ho b (b + 1) (L.getD i (0, 0)).1 (by omega) (by omega)
  rw [hb]
  rw [← a1, ← a2]
  constructor
  · rw [show backZ f L (b + 1) n = if 0 ≤ fz f L n then fz f L n :: backZ f L b (L.getD (fz f L n).toNat (0, 0)).1 else [] from rfl, if_pos (by omega), h, Int.toNat_natCast]
  · rw [show wayB f L (b + 1) n = if 0 ≤ fz f L n then addW ((wayOf ((L.getD (fz f L n).toNat (0, 0)).2 - (L.getD (fz f L n).toNat (0, 0)).1)).getD (0, 0)) (wayB f L b (L.getD (fz f L n).toNat (0, 0)).1) else (0, 0) from rfl, if_pos (by omega), h, Int.toNat_natCast]
theorem chB_len {f : Int} {L : List (Int × Int)} (ho : Ord f L) : ∀ (b : Nat) (n : Int), fz f L n < b → ((chB f L n).length : Int) ≤ fz f L n + 1 ∨ (chB f L n).length = 0
  | 0, n, h => .inr (by rw [(chB_stop h).1]; rfl)
  | b + 1, n, h => by
    by_cases e : fz f L n < 0
    · exact .inr (by rw [(chB_stop e).1]; rfl)
    · obtain ⟨i, hi⟩ := Int.eq_ofNat_of_zero_le (show 0 ≤ fz f L n by omega)
      obtain ⟨_, _, _, _, hlt, _⟩ := fz_back ho hi
      rw [(chB_go ho hi).1, List.length_cons]
      rcases chB_len ho b (L.getD i (0, 0)).1 (by omega) with k | k <;> (left; omega)
/-- The way has the right semitones, and is at most as long as the order. -/
theorem wyB_semi {f : Int} {L : List (Int × Int)} (ho : Ord f L) : ∀ (b : Nat) (n : Int), fz f L n < b → fz f L n ≠ -2 → 7 * (wyB f L n).1 + 12 * (wyB f L n).2 = n - f ∧ -(b : Int) ≤ (wyB f L n).1 ∧ (wyB f L n).1 ≤ b ∧ -(b : Int) ≤ (wyB f L n).2 ∧ (wyB f L n).2 ≤ b
  | 0, n, h, h2 => by
    rw [(chB_stop h).2]
    rcases firstZ_cases f L n L.length with ⟨e, _⟩ | ⟨_, e⟩ | ⟨_, k, _, _, e, _⟩
    · simp only; omega
    · exact absurd e h2
    · unfold fz at h; omega
  | b + 1, n, h, h2 => by
    by_cases e : fz f L n < 0
    · rw [(chB_stop e).2]
      rcases firstZ_cases f L n L.length with ⟨e2, _⟩ | ⟨_, e2⟩ | ⟨_, k, _, _, e2, _⟩
      · simp only; omega
      · exact absurd e2 h2
      · unfold fz at e; omega
    · obtain ⟨i, hi⟩ := Int.eq_ofNat_of_zero_le (show 0 ≤ fz f L n by omega)
      obtain ⟨h1, h3, _, h4, hlt, _⟩ := fz_back ho hi
      obtain ⟨_, _, ⟨x, hx⟩, _⟩ := chkE_zero (ho i h1)
      rw [(chB_go ho hi).2, hx, Option.getD_some]
      obtain ⟨w1, w2, w3, w4, w5⟩ := wayOf_semi hx
      obtain ⟨q1, q2, q3, q4, q5⟩ := wyB_semi ho b (L.getD i (0, 0)).1 (by omega) (by omega)
      unfold addW
      simp only
      omega
/-- The ways that lie in the map behind k steps. -/
theorem st_ways {f : Int} {L : List (Int × Int)} (ho : Ord f L) : ∀ k, k ≤ L.length → ∀ n, lkz n (stT f L k).ways = if firstZ f L n k = -2 then none else some (wyB f L n)
  | 0, _, n => by
    show lkz n [(f, ((0, 0) : Int × Int))] = _
    unfold firstZ lkz
    by_cases e : n = f
    · rw [if_pos e, if_pos e, if_neg (by omega)]
      rw [(chB_stop (f := f) (L := L) (n := n) (by unfold fz firstZ; rw [if_pos e]; omega)).2]
    · rw [if_neg e, if_neg e, List.take_zero]
      simp [lkz, toIx]
  | k + 1, h, n => by
    have hk : k < L.length := by omega
    have a1 := st_ways ho k (by omega) n
    have b1 := st_ways ho k (by omega) (L.getD k (0, 0)).2
    have c1 := st_ways ho k (by omega) (L.getD k (0, 0)).1
    obtain ⟨_, _, ⟨x, hx⟩, hfr⟩ := chkE_zero (ho k hk)
    rw [if_neg hfr] at c1
    rw [firstZ_succ f L n k hk]
    rw [show stT f L (k + 1) = stepT (stT f L k) k (L.getD k (0, 0)) from rfl]
    have hgo := fun (e : fz f L (L.getD k (0, 0)).2 = k) => (chB_go ho e).2
    have hto : firstZ f L (L.getD k (0, 0)).2 k = -2 → fz f L (L.getD k (0, 0)).2 = k := fun e => by
      have : firstZ f L (L.getD k (0, 0)).2 (k + 1) = k := by rw [firstZ_succ f L _ k hk, if_pos e, if_pos rfl]
      unfold fz
      rw [firstZ_stay (c := k + 1) (by rw [this]; omega) (by omega) (Nat.le_refl _), this]
    generalize stT f L k = s at *
    generalize L.getD k (0, 0) = p at *
    unfold stepT
    by_cases hp : firstZ f L p.2 k = -2
    · rw [if_pos hp] at b1
      simp only [b1]
      rw [lkz_snoc, a1]
      have hw : toW s p = wyB f L p.2 := by
        rw [hgo (hto hp)]
        unfold toW
        rw [c1]; rfl
      by_cases e : firstZ f L n k = -2
      · rw [if_pos e, if_pos e]
        by_cases e2 : p.2 = n
        · have e4 : ¬ ((k : Int) = -2) := by omega
          have e5 : n = p.2 := e2.symm
          simp only [if_pos e2, if_neg e4, if_pos e5]
          rw [hw, e2]
        · have e5 : ¬ n = p.2 := fun h => e2 h.symm
          simp only [if_neg e2, if_neg e5]
          rw [if_pos trivial]
      · rw [if_neg e, if_neg e, if_neg e]
    · rw [if_neg hp] at b1
      simp only [b1]
      rw [a1]
      by_cases e : firstZ f L n k = -2
      · have hpn : p.2 ≠ n := fun e2 => hp (by rw [e2]; exact e)
        rw [if_pos e, if_pos e, if_neg hpn, if_pos rfl]
      · rw [if_neg e, if_neg e, if_neg e]
/-- The redundant steps among the first k. -/
def redN (f : Int) (L : List (Int × Int)) (k : Nat) : List Nat := (List.range k).filter fun i => decide (firstZ f L (L.getD i (0, 0)).2 i ≠ -2)
theorem redN_succ (f : Int) (L : List (Int × Int)) (k : Nat) : redN f L (k + 1) = redN f L k ++ if firstZ f L (L.getD k (0, 0)).2 k ≠ -2 then [k] else [] := by
  unfold redN
  rw [List.range_succ, List.filter_append]
  by_cases h : firstZ f L (L.getD k (0, 0)).2 k ≠ -2
  · rw [if_pos h, List.filter_cons, if_pos (by simpa using h)]; rfl
  · rw [if_neg h, List.filter_cons, if_neg (by simpa using h)]; rfl
theorem redN_lt {f : Int} {L : List (Int × Int)} {k i : Nat} (h : i ∈ redN f L k) : i < k ∧ firstZ f L (L.getD i (0, 0)).2 i ≠ -2 := by
  unfold redN at h
  rw [List.mem_filter, List.mem_range] at h
  exact ⟨h.1, by simpa using h.2⟩
/-- The drift of a step. -/
def driftZ (f : Int) (L : List (Int × Int)) (i : Nat) : Int × Int :=
  subW (addW ((wayOf ((L.getD i (0, 0)).2 - (L.getD i (0, 0)).1)).getD (0, 0)) (wyB f L (L.getD i (0, 0)).1)) (wyB f L (L.getD i (0, 0)).2)
theorem st_again {f : Int} {L : List (Int × Int)} (ho : Ord f L) : ∀ k, k ≤ L.length → (stT f L k).again = (redN f L k).map (fun i : Nat => (i : Int)) ∧ (stT f L k).drift = (redN f L k).map (driftZ f L)
  | 0, _ => ⟨rfl, rfl⟩
  | k + 1, h => by
    have hk : k < L.length := by omega
    obtain ⟨a1, a2⟩ := st_again ho k (by omega)
    have b1 := st_ways ho k (by omega) (L.getD k (0, 0)).2
    have c1 := st_ways ho k (by omega) (L.getD k (0, 0)).1
    obtain ⟨_, _, ⟨x, hx⟩, hfr⟩ := chkE_zero (ho k hk)
    rw [if_neg hfr] at c1
    rw [show stT f L (k + 1) = stepT (stT f L k) k (L.getD k (0, 0)) from rfl, redN_succ]
    have hd : ∀ s : Tn, lkz (L.getD k (0, 0)).1 s.ways = some (wyB f L (L.getD k (0, 0)).1) → driftZ f L k = subW (toW s (L.getD k (0, 0))) (wyB f L (L.getD k (0, 0)).2) := fun s e => by
      unfold driftZ toW; rw [e]; rfl
    have hd := hd _ c1
    generalize stT f L k = s at *
    unfold stepT
    by_cases hp : firstZ f L (L.getD k (0, 0)).2 k = -2
    · rw [if_pos hp] at b1
      simp only [b1]
      rw [if_neg (by simpa using hp), List.append_nil]
      exact ⟨a1, a2⟩
    · rw [if_neg hp] at b1
      simp only [b1]
      rw [if_pos hp, List.map_append, List.map_append, ← a1, ← a2, ← hd]
      exact ⟨rfl, rfl⟩
theorem wayOf_okE {f : Int} {L : List (Int × Int)} (ho : Ord f L) {k : Nat} (h : k < L.length) : ∃ x, wayOf ((L.getD k (0, 0)).2 - (L.getD k (0, 0)).1) = some x := (chkE_zero (ho k h)).2.2.1
theorem fz_of_first {f : Int} {L : List (Int × Int)} {n : Int} {k : Nat} (hk : k ≤ L.length) (h : firstZ f L n k ≠ -2) : fz f L n ≠ -2 := by
  unfold fz; rw [firstZ_stay h hk (Nat.le_refl _)]; exact h
theorem drift_semi {f : Int} {L : List (Int × Int)} (ho : Ord f L) {k : Nat} (hk : k < L.length) (h : firstZ f L (L.getD k (0, 0)).2 k ≠ -2) :
    7 * (driftZ f L k).1 + 12 * (driftZ f L k).2 = 0 ∧ -(2 * L.length + 1 : Int) ≤ (driftZ f L k).1 ∧ (driftZ f L k).1 ≤ 2 * L.length + 1 ∧ -(2 * L.length + 1 : Int) ≤ (driftZ f L k).2 ∧ (driftZ f L k).2 ≤ 2 * L.length + 1 := by
  obtain ⟨_, _, ⟨x, hx⟩, hfr⟩ := chkE_zero (ho k hk)
  have w := wayOf_semi hx
  have a := wyB_semi ho L.length (L.getD k (0, 0)).1 (fz_lt f L _).2 (fz_of_first (by omega) hfr)
  have b := wyB_semi ho L.length (L.getD k (0, 0)).2 (fz_lt f L _).2 (fz_of_first (by omega) h)
  unfold driftZ subW addW
  rw [hx]
  simp only [Option.getD_some]
  omega
theorem drift_k {a b : Int} (h : 7 * a + 12 * b = 0) : a = 12 * (a.tdiv 12) ∧ b = -7 * (a.tdiv 12) := by
  have h1 : (12 : Int) ∣ a := by omega
  have h2 := Int.tdiv_mul_cancel h1
  constructor <;> omega

end Go.Proofs.YtfickhncbahekaaDoor
