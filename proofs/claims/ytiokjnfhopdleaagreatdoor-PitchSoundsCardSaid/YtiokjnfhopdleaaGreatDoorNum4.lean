/- Plain laws on grps and decimal digits: a list of grps below 10000, the lowest one first, and the number that it writes. No program in this text. Conditions: none beyond those that each lemma names. -/
import Derived.Lib.ItoaMem
namespace Go.Proofs.YtiokjnfhopdleaaGreatDoor

/-- The number that grps write, the lowest one first. -/
def gv : List Nat → Nat
  | [] => 0
  | x :: xs => x + 10000 * gv xs

/-- All grps are below the base. -/
def Small4 (L : List Nat) : Prop := ∀ x, x ∈ L → x < 10000

/-- The grps of a number, none for 0. -/
def grps (n : Nat) : List Nat := if h : n = 0 then [] else n % 10000 :: grps (n / 10000)
termination_by n
decreasing_by omega

theorem grps_zero : grps 0 = [] := by rw [grps, dif_pos rfl]
theorem grps_pos {n : Nat} (h : n ≠ 0) : grps n = n % 10000 :: grps (n / 10000) := by rw [grps, dif_neg h]
theorem grps_eq_nil {n : Nat} : grps n = [] ↔ n = 0 := by
  constructor
  · intro h
    by_cases h0 : n = 0
    · exact h0
    · rw [grps_pos h0] at h; cases h
  · rintro rfl; exact grps_zero
theorem grps_len_pos {n : Nat} (h : n ≠ 0) : 0 < (grps n).length := by rw [grps_pos h]; simp

theorem gv_grps (n : Nat) : gv (grps n) = n := by
  induction n using Nat.strongRecOn with
  | _ n ih =>
    by_cases h : n = 0
    · subst h; rw [grps_zero]; rfl
    · rw [grps_pos h, gv, ih (n / 10000) (by omega)]; omega

theorem grps_small (n : Nat) : Small4 (grps n) := by
  induction n using Nat.strongRecOn with
  | _ n ih =>
    by_cases h : n = 0
    · subst h; rw [grps_zero]; intro x hx; cases hx
    · rw [grps_pos h]
      intro x hx
      rcases List.mem_cons.1 hx with rfl | hx
      · omega
      · exact ih (n / 10000) (by omega) x hx

theorem Small4.tail {x : Nat} {L : List Nat} (h : Small4 (x :: L)) : Small4 L := fun y hy => h y (List.mem_cons_of_mem _ hy)
theorem Small4.head {x : Nat} {L : List Nat} (h : Small4 (x :: L)) : x < 10000 := h x (List.mem_cons_self ..)
theorem Small4.nil : Small4 [] := fun _ h => by cases h
theorem Small4.take {L : List Nat} (h : Small4 L) (k : Nat) : Small4 (L.take k) := fun x hx => h x (List.mem_of_mem_take hx)
theorem Small4.append {L M : List Nat} (h : Small4 L) (k : Small4 M) : Small4 (L ++ M) := fun x hx => (List.mem_append.1 hx).elim (h x) (k x)
theorem Small4.one {x : Nat} (h : x < 10000) : Small4 [x] := fun y hy => by rw [List.mem_singleton.1 hy]; exact h
theorem Small4.get {L : List Nat} (h : Small4 L) (i : Nat) (hi : i < L.length) : L[i] < 10000 := h _ (List.getElem_mem hi)
theorem Small4.set {L : List Nat} (h : Small4 L) (i x : Nat) (hx : x < 10000) : Small4 (L.set i x) := fun y hy => by
  rcases List.mem_or_eq_of_mem_set hy with hy | rfl
  · exact h y hy
  · exact hx
theorem Small4.zeros (n : Nat) : Small4 (List.replicate n 0) := fun x hx => by rw [(List.mem_replicate.1 hx).2]; omega

theorem gv_append (L M : List Nat) : gv (L ++ M) = gv L + 10000 ^ L.length * gv M := by
  induction L with
  | nil => simp [gv]
  | cons x L ih =>
    simp only [List.cons_append, gv, ih, List.length_cons, Nat.pow_succ, Nat.mul_add]
    rw [Nat.mul_comm (10000 ^ L.length) 10000, Nat.mul_assoc, Nat.add_assoc]
theorem gv_one (x : Nat) : gv [x] = x := by simp [gv]
theorem gv_zeros (n : Nat) : gv (List.replicate n 0) = 0 := by
  induction n with
  | zero => rfl
  | succ n ih => simp [List.replicate_succ, gv, ih]
theorem gv_take_succ (L : List Nat) (k : Nat) (h : k < L.length) : gv (L.take (k + 1)) = gv (L.take k) + 10000 ^ k * L[k] := by
  rw [List.take_succ_eq_append_getElem h, gv_append, gv_one, List.length_take, Nat.min_eq_left (Nat.le_of_lt h)]
theorem gv_set (L : List Nat) (i x : Nat) (h : i < L.length) : gv (L.set i x) + 10000 ^ i * L[i] = gv L + 10000 ^ i * x := by
  induction L generalizing i with
  | nil => simp at h
  | cons y L ih =>
    cases i with
    | zero => simp [gv]; omega
    | succ i =>
      have hi : i < L.length := by simpa using h
      have := ih i hi
      simp only [List.set_cons_succ, gv, List.getElem_cons_succ, Nat.pow_succ]
      have e1 : 10000 ^ i * 10000 * L[i] = 10000 * (10000 ^ i * L[i]) := by rw [Nat.mul_comm (10000 ^ i), Nat.mul_assoc]
      have e2 : 10000 ^ i * 10000 * x = 10000 * (10000 ^ i * x) := by rw [Nat.mul_comm (10000 ^ i), Nat.mul_assoc]
      rw [e1, e2]; omega
theorem gv_lt (L : List Nat) (h : Small4 L) : gv L < 10000 ^ L.length := by
  induction L with
  | nil => simp [gv]
  | cons x L ih =>
    have := ih h.tail
    have hx := h.head
    simp only [gv, List.length_cons, Nat.pow_succ]
    omega

/-- Without a zero at its end a list is the grps of its number. -/
theorem grps_gv (L : List Nat) (h : Small4 L) (hz : ∀ hl : 0 < L.length, L[L.length - 1] ≠ 0) : grps (gv L) = L := by
  induction L with
  | nil => exact grps_zero
  | cons x L ih =>
    have hx := h.head
    have hne : gv (x :: L) ≠ 0 := by
      intro h0
      simp only [gv] at h0
      have hx0 : x = 0 := by omega
      have hl0 : gv L = 0 := by omega
      have e := ih h.tail (fun hl => by have := hz (by simp); simp only [List.length_cons, Nat.add_sub_cancel] at this; rw [List.getElem_cons] at this; rw [dif_neg (by omega)] at this; exact this)
      rw [hl0, grps_zero] at e
      subst e
      exact hz (by simp) (by simpa using hx0)
    rw [grps_pos hne]
    have e1 : gv (x :: L) % 10000 = x := by simp only [gv]; omega
    have e2 : gv (x :: L) / 10000 = gv L := by simp only [gv]; omega
    rw [e1, e2, ih h.tail (fun hl => by have := hz (by simp); simp only [List.length_cons, Nat.add_sub_cancel] at this; rw [List.getElem_cons] at this; rw [dif_neg (by omega)] at this; exact this)]

theorem grps_last {n : Nat} (h : n ≠ 0) : (grps n)[(grps n).length - 1]'(by have := grps_len_pos h; omega) ≠ 0 := by
  induction n using Nat.strongRecOn with
  | _ n ih =>
    by_cases h2 : n / 10000 = 0
    · have e : grps n = [n % 10000] := by rw [grps_pos h, h2, grps_zero]
      have e3 : ∀ (M : List Nat) (k : Nat) (hk : k < M.length), M = [n % 10000] → M[k] = n % 10000 := by
        intro M k hk hM; subst hM; simp
      rw [e3 _ _ _ e]
      omega
    · have := ih (n / 10000) (by omega) h2
      have hp := grps_len_pos h2
      have e : grps n = n % 10000 :: grps (n / 10000) := grps_pos h
      simp only [e, List.length_cons, Nat.add_sub_cancel]
      rw [List.getElem_cons, dif_neg (by omega)]
      exact this

/-- What 'trim' comes to: so much of the list as its number has grps. -/
theorem grps_take (L : List Nat) (h : Small4 L) (k : Nat) (hk : k ≤ L.length) (he : gv (L.take k) = gv L) (hz : ∀ hl : 0 < k, L[k - 1]'(by omega) ≠ 0) :
    grps (gv L) = L.take k := by
  rw [← he]
  refine grps_gv _ (h.take k) fun hl => ?_
  rw [List.length_take, Nat.min_eq_left hk] at hl
  have := hz hl
  simp only [List.length_take, Nat.min_eq_left hk, List.getElem_take]
  exact this
theorem grps_len_of (L : List Nat) (h : Small4 L) (k : Nat) (hk : k ≤ L.length) (he : gv (L.take k) = gv L) (hz : ∀ hl : 0 < k, L[k - 1]'(by omega) ≠ 0) :
    (grps (gv L)).length = k := by rw [grps_take L h k hk he hz, List.length_take, Nat.min_eq_left hk]

theorem grps_len_le (n k : Nat) (h : n < 10000 ^ k) : (grps n).length ≤ k := by
  induction k generalizing n with
  | zero => have : n = 0 := by simp at h; exact h
            subst this; simp [grps_zero]
  | succ k ih =>
    by_cases h0 : n = 0
    · subst h0; simp [grps_zero]
    · rw [grps_pos h0, List.length_cons]
      have := ih (n / 10000) (by rw [Nat.pow_succ] at h; omega)
      omega
theorem grps_len_lt (n : Nat) : n < 10000 ^ (grps n).length := by
  have := gv_lt _ (grps_small n)
  rwa [gv_grps] at this
theorem grps_len_mono {m n : Nat} (h : m ≤ n) : (grps m).length ≤ (grps n).length := grps_len_le _ _ (Nat.lt_of_le_of_lt h (grps_len_lt n))
theorem grps_len_mul (m n : Nat) : (grps (m * n)).length ≤ (grps m).length + (grps n).length := by
  refine grps_len_le _ _ ?_
  rw [Nat.pow_add]
  exact Nat.mul_lt_mul'' (grps_len_lt m) (grps_len_lt n)
theorem grps_eq_take (L : List Nat) (h : Small4 L) : grps (gv L) = L.take (grps (gv L)).length := by
  -- the longest beginning without a zero at its end
  have key : ∀ k, k ≤ L.length → gv (L.take k) = gv L → grps (gv L) = L.take (grps (gv L)).length := by
    intro k
    induction k with
    | zero => intro _ he; rw [← he]; simp [gv, grps_zero]
    | succ k ih =>
      intro hk he
      by_cases hz : L[k] = 0
      · exact ih (by omega) (by rw [← he, gv_take_succ L k (by omega), hz]; simp)
      · have e := grps_take L h (k + 1) hk he (fun _ => by simpa using hz)
        rw [e, List.length_take, Nat.min_eq_left hk]
  exact key L.length (Nat.le_refl _) (by rw [List.take_length])
theorem grps_len_le_len (L : List Nat) (h : Small4 L) : (grps (gv L)).length ≤ L.length := by
  have := congrArg List.length (grps_eq_take L h)
  rw [List.length_take] at this
  omega

end Go.Proofs.YtiokjnfhopdleaaGreatDoor
