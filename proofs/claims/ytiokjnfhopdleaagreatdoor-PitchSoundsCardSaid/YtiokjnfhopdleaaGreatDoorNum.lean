/- Plain laws on limbs and decimal digits: a list of limbs below 1000000000, the lowest one first, and the number that it writes. No program in this text. Conditions: none beyond those that each lemma names. -/
import Derived.Lib.ItoaMem
namespace Go.Proofs.YtiokjnfhopdleaaGreatDoor

/-- The number that limbs write, the lowest one first. -/
def lv : List Nat → Nat
  | [] => 0
  | x :: xs => x + 1000000000 * lv xs

/-- All limbs are below the base. -/
def Small (L : List Nat) : Prop := ∀ x, x ∈ L → x < 1000000000

/-- The limbs of a number, none for 0. -/
def limbs (n : Nat) : List Nat := if h : n = 0 then [] else n % 1000000000 :: limbs (n / 1000000000)
termination_by n
decreasing_by omega

theorem limbs_zero : limbs 0 = [] := by rw [limbs, dif_pos rfl]
theorem limbs_pos {n : Nat} (h : n ≠ 0) : limbs n = n % 1000000000 :: limbs (n / 1000000000) := by rw [limbs, dif_neg h]
theorem limbs_eq_nil {n : Nat} : limbs n = [] ↔ n = 0 := by
  constructor
  · intro h
    by_cases h0 : n = 0
    · exact h0
    · rw [limbs_pos h0] at h; cases h
  · rintro rfl; exact limbs_zero
theorem limbs_len_pos {n : Nat} (h : n ≠ 0) : 0 < (limbs n).length := by rw [limbs_pos h]; simp

theorem lv_limbs (n : Nat) : lv (limbs n) = n := by
  induction n using Nat.strongRecOn with
  | _ n ih =>
    by_cases h : n = 0
    · subst h; rw [limbs_zero]; rfl
    · rw [limbs_pos h, lv, ih (n / 1000000000) (by omega)]; omega

theorem limbs_small (n : Nat) : Small (limbs n) := by
  induction n using Nat.strongRecOn with
  | _ n ih =>
    by_cases h : n = 0
    · subst h; rw [limbs_zero]; intro x hx; cases hx
    · rw [limbs_pos h]
      intro x hx
      rcases List.mem_cons.1 hx with rfl | hx
      · omega
      · exact ih (n / 1000000000) (by omega) x hx

theorem Small.tail {x : Nat} {L : List Nat} (h : Small (x :: L)) : Small L := fun y hy => h y (List.mem_cons_of_mem _ hy)
theorem Small.head {x : Nat} {L : List Nat} (h : Small (x :: L)) : x < 1000000000 := h x (List.mem_cons_self ..)
theorem Small.nil : Small [] := fun _ h => by cases h
theorem Small.take {L : List Nat} (h : Small L) (k : Nat) : Small (L.take k) := fun x hx => h x (List.mem_of_mem_take hx)
theorem Small.append {L M : List Nat} (h : Small L) (k : Small M) : Small (L ++ M) := fun x hx => (List.mem_append.1 hx).elim (h x) (k x)
theorem Small.one {x : Nat} (h : x < 1000000000) : Small [x] := fun y hy => by rw [List.mem_singleton.1 hy]; exact h
theorem Small.get {L : List Nat} (h : Small L) (i : Nat) (hi : i < L.length) : L[i] < 1000000000 := h _ (List.getElem_mem hi)
theorem Small.set {L : List Nat} (h : Small L) (i x : Nat) (hx : x < 1000000000) : Small (L.set i x) := fun y hy => by
  rcases List.mem_or_eq_of_mem_set hy with hy | rfl
  · exact h y hy
  · exact hx
theorem Small.zeros (n : Nat) : Small (List.replicate n 0) := fun x hx => by rw [(List.mem_replicate.1 hx).2]; omega

theorem lv_append (L M : List Nat) : lv (L ++ M) = lv L + 1000000000 ^ L.length * lv M := by
  induction L with
  | nil => simp [lv]
  | cons x L ih =>
    simp only [List.cons_append, lv, ih, List.length_cons, Nat.pow_succ, Nat.mul_add]
    rw [Nat.mul_comm (1000000000 ^ L.length) 1000000000, Nat.mul_assoc, Nat.add_assoc]
theorem lv_one (x : Nat) : lv [x] = x := by simp [lv]
theorem lv_zeros (n : Nat) : lv (List.replicate n 0) = 0 := by
  induction n with
  | zero => rfl
  | succ n ih => simp [List.replicate_succ, lv, ih]
theorem lv_take_succ (L : List Nat) (k : Nat) (h : k < L.length) : lv (L.take (k + 1)) = lv (L.take k) + 1000000000 ^ k * L[k] := by
  rw [List.take_succ_eq_append_getElem h, lv_append, lv_one, List.length_take, Nat.min_eq_left (Nat.le_of_lt h)]
theorem lv_set (L : List Nat) (i x : Nat) (h : i < L.length) : lv (L.set i x) + 1000000000 ^ i * L[i] = lv L + 1000000000 ^ i * x := by
  induction L generalizing i with
  | nil => simp at h
  | cons y L ih =>
    cases i with
    | zero => simp [lv]; omega
    | succ i =>
      have hi : i < L.length := by simpa using h
      have := ih i hi
      simp only [List.set_cons_succ, lv, List.getElem_cons_succ, Nat.pow_succ]
      have e1 : 1000000000 ^ i * 1000000000 * L[i] = 1000000000 * (1000000000 ^ i * L[i]) := by rw [Nat.mul_comm (1000000000 ^ i), Nat.mul_assoc]
      have e2 : 1000000000 ^ i * 1000000000 * x = 1000000000 * (1000000000 ^ i * x) := by rw [Nat.mul_comm (1000000000 ^ i), Nat.mul_assoc]
      rw [e1, e2]; omega
theorem lv_lt (L : List Nat) (h : Small L) : lv L < 1000000000 ^ L.length := by
  induction L with
  | nil => simp [lv]
  | cons x L ih =>
    have := ih h.tail
    have hx := h.head
    simp only [lv, List.length_cons, Nat.pow_succ]
    omega

/-- Without a zero at its end a list is the limbs of its number. -/
theorem limbs_lv (L : List Nat) (h : Small L) (hz : ∀ hl : 0 < L.length, L[L.length - 1] ≠ 0) : limbs (lv L) = L := by
  induction L with
  | nil => exact limbs_zero
  | cons x L ih =>
    have hx := h.head
    have hne : lv (x :: L) ≠ 0 := by
      intro h0
      simp only [lv] at h0
      have hx0 : x = 0 := by omega
      have hl0 : lv L = 0 := by omega
      have e := ih h.tail (fun hl => by have := hz (by simp); simp only [List.length_cons, Nat.add_sub_cancel] at this; rw [List.getElem_cons] at this; rw [dif_neg (by omega)] at this; exact this)
      rw [hl0, limbs_zero] at e
      subst e
      exact hz (by simp) (by simpa using hx0)
    rw [limbs_pos hne]
    have e1 : lv (x :: L) % 1000000000 = x := by simp only [lv]; omega
    have e2 : lv (x :: L) / 1000000000 = lv L := by simp only [lv]; omega
    rw [e1, e2, ih h.tail (fun hl => by have := hz (by simp); simp only [List.length_cons, Nat.add_sub_cancel] at this; rw [List.getElem_cons] at this; rw [dif_neg (by omega)] at this; exact this)]

theorem limbs_last {n : Nat} (h : n ≠ 0) : (limbs n)[(limbs n).length - 1]'(by have := limbs_len_pos h; omega) ≠ 0 := by
  induction n using Nat.strongRecOn with
  | _ n ih =>
    by_cases h2 : n / 1000000000 = 0
    · have e : limbs n = [n % 1000000000] := by rw [limbs_pos h, h2, limbs_zero]
      have e3 : ∀ (M : List Nat) (k : Nat) (hk : k < M.length), M = [n % 1000000000] → M[k] = n % 1000000000 := by
        intro M k hk hM; subst hM; simp
      rw [e3 _ _ _ e]
      omega
    · have := ih (n / 1000000000) (by omega) h2
      have hp := limbs_len_pos h2
      have e : limbs n = n % 1000000000 :: limbs (n / 1000000000) := limbs_pos h
      simp only [e, List.length_cons, Nat.add_sub_cancel]
      rw [List.getElem_cons, dif_neg (by omega)]
      exact this

/-- What 'trim' comes to: so much of the list as its number has limbs. -/
theorem limbs_take (L : List Nat) (h : Small L) (k : Nat) (hk : k ≤ L.length) (he : lv (L.take k) = lv L) (hz : ∀ hl : 0 < k, L[k - 1]'(by omega) ≠ 0) :
    limbs (lv L) = L.take k := by
  rw [← he]
  refine limbs_lv _ (h.take k) fun hl => ?_
  rw [List.length_take, Nat.min_eq_left hk] at hl
  have := hz hl
  simp only [List.length_take, Nat.min_eq_left hk, List.getElem_take]
  exact this
theorem limbs_len_of (L : List Nat) (h : Small L) (k : Nat) (hk : k ≤ L.length) (he : lv (L.take k) = lv L) (hz : ∀ hl : 0 < k, L[k - 1]'(by omega) ≠ 0) :
    (limbs (lv L)).length = k := by rw [limbs_take L h k hk he hz, List.length_take, Nat.min_eq_left hk]

theorem limbs_len_le (n k : Nat) (h : n < 1000000000 ^ k) : (limbs n).length ≤ k := by
  induction k generalizing n with
  | zero => have : n = 0 := by simp at h; exact h
            subst this; simp [limbs_zero]
  | succ k ih =>
    by_cases h0 : n = 0
    · subst h0; simp [limbs_zero]
    · rw [limbs_pos h0, List.length_cons]
      have := ih (n / 1000000000) (by rw [Nat.pow_succ] at h; omega)
      omega
theorem limbs_len_lt (n : Nat) : n < 1000000000 ^ (limbs n).length := by
  have := lv_lt _ (limbs_small n)
  rwa [lv_limbs] at this
theorem limbs_len_mono {m n : Nat} (h : m ≤ n) : (limbs m).length ≤ (limbs n).length := limbs_len_le _ _ (Nat.lt_of_le_of_lt h (limbs_len_lt n))
theorem limbs_len_mul (m n : Nat) : (limbs (m * n)).length ≤ (limbs m).length + (limbs n).length := by
  refine limbs_len_le _ _ ?_
  rw [Nat.pow_add]
  exact Nat.mul_lt_mul'' (limbs_len_lt m) (limbs_len_lt n)
theorem limbs_eq_take (L : List Nat) (h : Small L) : limbs (lv L) = L.take (limbs (lv L)).length := by
  -- the longest beginning without a zero at its end
  have key : ∀ k, k ≤ L.length → lv (L.take k) = lv L → limbs (lv L) = L.take (limbs (lv L)).length := by
    intro k
    induction k with
    | zero => intro _ he; rw [← he]; simp [lv, limbs_zero]
    | succ k ih =>
      intro hk he
      by_cases hz : L[k] = 0
      · exact ih (by omega) (by rw [← he, lv_take_succ L k (by omega), hz]; simp)
      · have e := limbs_take L h (k + 1) hk he (fun _ => by simpa using hz)
        rw [e, List.length_take, Nat.min_eq_left hk]
  exact key L.length (Nat.le_refl _) (by rw [List.take_length])
theorem limbs_len_le_len (L : List Nat) (h : Small L) : (limbs (lv L)).length ≤ L.length := by
  have := congrArg List.length (limbs_eq_take L h)
  rw [List.length_take] at this
  omega

end Go.Proofs.YtiokjnfhopdleaaGreatDoor
