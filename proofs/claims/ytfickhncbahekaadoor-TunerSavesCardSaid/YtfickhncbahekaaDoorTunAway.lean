/- How many steps each note is away, found by rounds over all notes and intervals, in plain numbers. No function of the program is named in this text. Conditions: the compass lies among the notes, the first note within it. -/
import Derived.Test.YtfickhncbahekaaDoorTunNeed
namespace Go.Proofs.YtfickhncbahekaaDoor
open Go.RowKit

def sumG (g : Int → Nat) : List Int → Nat
  | [] => 0
  | x :: r => g x + sumG g r
theorem sumG_set (g : Int → Nat) (v : Int) : ∀ (D : List Int) (i : Nat), i < D.length → sumG g (D.set i v) + g (D.getD i 0) = sumG g D + g v
  | [], _, h => absurd h (by simp)
  | x :: r, 0, _ => by simp [sumG]; omega
  | x :: r, i + 1, h => by
    have := sumG_set g v r i (by simpa using h)
    simp [sumG] at this ⊢
    omega
theorem sumG_le (g : Int → Nat) (D : List Int) (i : Nat) (h : i < D.length) : g (D.getD i 0) ≤ sumG g D := by
  induction D generalizing i with
  | nil => exact absurd h (by simp)
  | cons x r ih =>
    cases i with
    | zero => simp [sumG]
    | succ i =>
      have := ih i (by simpa using h)
      simp [sumG] at this ⊢
      omega
theorem sumG_rep (g : Int → Nat) (x : Int) : ∀ n, sumG g (List.replicate n x) = n * g x
  | 0 => by simp [sumG]
  | n + 1 => by rw [List.replicate_succ, sumG, sumG_rep g x n, Nat.add_mul]; omega
/-- Not reached yet. -/
def unsN (x : Int) : Nat := if x < 0 then 1 else 0
/-- What a round makes smaller. -/
def msrN (x : Int) : Nat := if x < 0 then 200 else x.toNat
def dz (D : List Int) (k : Int) : Int := D.getD k.toNat 0
/-- What the rounds keep. -/
structure Aw (lo hi f : Int) (D : List Int) : Prop where
  len : D.length = 128
  ge : ∀ k : Int, isN k → -1 ≤ dz D k
  wk : ∀ k : Int, isN k → 0 ≤ dz D k → Wk lo hi f k (dz D k).toNat
  at0 : dz D f = 0
  bd : ∀ k : Int, isN k → dz D k + sumG unsN D ≤ 127
theorem dz_set (D : List Int) (i k v : Int) (hi : isN i) (hk : isN k) (hl : D.length = 128) : dz (D.set i.toNat v) k = if k = i then v else dz D k := by
  unfold dz isN at *
  rw [List.getD_eq_getElem?_getD, List.getElem?_set]
  by_cases h : k = i
  · rw [if_pos h, h, if_pos rfl, if_pos (by omega)]; rfl
  · rw [if_neg h, if_neg (by omega), ← List.getD_eq_getElem?_getD]
section
variable {lo hi f : Int} {D : List Int}
theorem aw_start (h0 : 0 ≤ lo) (h1 : hi ≤ 127) (hf : lo ≤ f ∧ f ≤ hi) : Aw lo hi f ((List.replicate 128 (-1)).set f.toNat 0) := by
  have hN : isN f := by unfold isN; omega
  have hd : ∀ k, isN k → dz ((List.replicate 128 (-1)).set f.toNat 0) k = if k = f then 0 else -1 := fun k hk => by
    rw [dz_set _ f k 0 hN hk (by simp)]
    by_cases h : k = f
    · rw [if_pos h, if_pos h]
    · rw [if_neg h, if_neg h]
      unfold dz isN at *
      rw [List.getD_eq_getElem?_getD, List.getElem?_replicate, if_pos (by omega)]; rfl
  refine ⟨by simp, fun k hk => ?_, fun k hk h => ?_, ?_, fun k hk => ?_⟩
  · rw [hd k hk]; split <;> omega
  · rw [hd k hk] at h ⊢
    by_cases e : k = f
    · rw [if_pos e, e]; exact .zero
    · rw [if_neg e] at h; omega
  · rw [hd f hN, if_pos rfl]
  · have hs := sumG_set unsN 0 (List.replicate 128 (-1)) f.toNat (by unfold isN at hN; simp; omega)
    rw [sumG_rep] at hs
    have e1 : unsN (-1) = 1 := by decide
    have e2 : unsN 0 = 0 := by decide
    have e3 : (List.replicate 128 (-1 : Int)).getD f.toNat 0 = -1 := by
      unfold isN at hN
      rw [List.getD_eq_getElem?_getD, List.getElem?_replicate, if_pos (by omega)]; rfl
    rw [e3, e1, e2] at hs
    rw [hd k hk]
    split <;> omega
/-- One note comes nearer. -/
theorem Aw.near (h0 : 0 ≤ lo) (h1 : hi ≤ 127) (hf : lo ≤ f ∧ f ≤ hi) (h : Aw lo hi f D) {n b : Int} (hn : lo ≤ n ∧ n ≤ hi) (hb : b ∈ bys) (hk : lo ≤ n + b ∧ n + b ≤ hi) (hp : 0 ≤ dz D n) (hq : dz D (n + b) < 0 ∨ dz D n + 1 < dz D (n + b)) :
    Aw lo hi f (D.set (n + b).toNat (dz D n + 1)) ∧ sumG msrN (D.set (n + b).toNat (dz D n + 1)) < sumG msrN D := by
  have hnN : isN n := by unfold isN; omega
  have hkN : isN (n + b) := by unfold isN; omega
  have hl := h.len
  have hix : (n + b).toNat < D.length := by unfold isN at hkN; omega
  have hdz := fun k hk => dz_set D (n + b) k (dz D n + 1) hkN hk h.len
  have hun := sumG_set unsN (dz D n + 1) D (n + b).toNat hix
  have hms := sumG_set msrN (dz D n + 1) D (n + b).toNat hix
  have hbn := h.bd n hnN
  have hbk := h.bd (n + b) hkN
  have hgk := h.ge (n + b) hkN
  have e1 : unsN (dz D n + 1) = 0 := by unfold unsN; rw [if_neg (by omega)]
  have e2 : msrN (dz D n + 1) = (dz D n + 1).toNat := by unfold msrN; rw [if_neg (by omega)]
  rw [e1] at hun
  rw [e2] at hms
  rw [show D.getD (n + b).toNat 0 = dz D (n + b) from rfl] at hun hms
  have hle := sumG_le unsN D (n + b).toNat hix
  rw [show D.getD (n + b).toNat 0 = dz D (n + b) from rfl] at hle
  have hu2 : unsN (dz D (n + b)) = if dz D (n + b) < 0 then 1 else 0 := rfl
  have hm2 : msrN (dz D (n + b)) = if dz D (n + b) < 0 then 200 else (dz D (n + b)).toNat := rfl
  refine ⟨⟨by rw [List.length_set]; exact hl, fun k hkk => ?_, fun k hkk hz => ?_, ?_, fun k hkk => ?_⟩, ?_⟩
  · rw [hdz k hkk]
    split
    · omega
    · exact h.ge k hkk
  · rw [hdz k hkk] at hz ⊢
    by_cases e : k = n + b
    · rw [if_pos e, e, show (dz D n + 1).toNat = (dz D n).toNat + 1 by omega]
      exact .next (h.wk n hnN hp) (by rw [show n + b - n = b by omega]; exact hb) hk.1 hk.2
    · rw [if_neg e] at hz ⊢
      exact h.wk k hkk hz
  · have hfN : isN f := by unfold isN; omega
    rw [hdz f hfN]
    split
    · next e => have := h.at0; rw [e] at this; omega
    · exact h.at0
  · rw [hdz k hkk]
    have hbk' := h.bd k hkk
    split
    · split at hu2 <;> omega
    · split at hu2 <;> omega
  · split at hm2 <;> omega
/-- Nothing comes nearer from a note by an interval. -/
def Cl (lo hi : Int) (D : List Int) (n b : Int) : Prop := 0 ≤ dz D n → lo ≤ n + b → n + b ≤ hi → 0 ≤ dz D (n + b) ∧ dz D (n + b) ≤ dz D n + 1
/-- What the rounds end with. -/
structure Awd (lo hi f : Int) (D : List Int) : Prop where
  len : D.length = 128
  aw : ∀ (k : Int) (d : Nat), isN k → (dz D k = d ↔ Ds lo hi f k d)
  ge : ∀ k : Int, isN k → -1 ≤ dz D k
  le : ∀ k : Int, isN k → dz D k ≤ 127
theorem Aw.done (h0 : 0 ≤ lo) (h1 : hi ≤ 127) (hf : lo ≤ f ∧ f ≤ hi) (h : Aw lo hi f D) (hc : ∀ n, lo ≤ n → n ≤ hi → ∀ b ∈ bys, Cl lo hi D n b) : Awd lo hi f D := by
  have hw : ∀ {k : Int} {d : Nat}, Wk lo hi f k d → 0 ≤ dz D k ∧ dz D k ≤ d := by
    intro k d hw
    induction hw with
    | zero => rw [h.at0]; omega
    | @next n k d hw hb hlo hhi ih =>
      obtain ⟨r1, r2⟩ := hw.range hf
      have := hc n r1 r2 (k - n) hb ih.1 (by omega) (by omega)
      rw [show n + (k - n) = k by omega] at this
      omega
  refine ⟨h.len, fun k d hk => ⟨fun e => ⟨?_, fun e' he hw' => ?_⟩, fun hd => ?_⟩, h.ge, fun k hk => by have := h.bd k hk; omega⟩
  · have := h.wk k hk (by omega)
    rw [e] at this
    simpa using this
  · have := hw hw'
    omega
  · have h2 := hw hd.1
    have h3 := h.wk k hk h2.1
    by_cases e : (dz D k).toNat < d
    · exact absurd h3 (hd.2 _ e)
    · omega
end
end Go.Proofs.YtfickhncbahekaaDoor
