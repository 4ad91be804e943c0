/- Part 3 of 22 of the proof of the law: contracts of the functions that it reaches, and plain facts. Conditions: those that each contract names. -/
import Derived.Lib.ItoaMem
namespace Go.Proofs.YtkamepalomkpbaaDoor
def lv : List Nat → Nat
  | [] => 0
  | x :: xs => x + 1000000000 * lv xs
def Small (L : List Nat) : Prop := ∀ x, x ∈ L → x < 1000000000
def limbs (n : Nat) : List Nat := if h : n = 0 then [] else n % 1000000000 :: limbs (n / 1000000000)
termination_by n
decreasing_by omega
theorem limbs_zero : limbs 0 = [] := by rw [limbs, dif_pos rfl]
theorem limbs_pos {n : Nat} (h : n ≠ 0) : limbs n = n % 1000000000 :: limbs (n / 1000000000) := by rw [limbs, dif_neg h]
theorem limbs_eq_nil {n : Nat} : limbs n = [] ↔ n = 0 := by
  constructor
  · intro h
    by_cases h0 : n = 0
    · exact h0
    · rw [limbs_pos h0] at h; cases h
  · rintro rfl; exact limbs_zero
theorem limbs_len_pos {n : Nat} (h : n ≠ 0) : 0 < (limbs n).length := by rw [limbs_pos h]; simp
theorem lv_limbs (n : Nat) : lv (limbs n) = n := by
  induction n using Nat.strongRecOn with
  | _ n ih =>
    by_cases h : n = 0
    · subst h; rw [limbs_zero]; rfl
    · rw [limbs_pos h, lv, ih (n / 1000000000) (by omega)]; omega
theorem limbs_small (n : Nat) : Small (limbs n) := by
  induction n using Nat.strongRecOn with
  | _ n ih =>
    by_cases h : n = 0
    · subst h; rw [limbs_zero]; intro x hx; cases hx
    · rw [limbs_pos h]
      intro x hx
      rcases List.mem_cons.1 hx with rfl | hx
      · omega
      · exact ih (n / 1000000000) (by omega) x hx
theorem Small.tail {x : Nat} {L : List Nat} (h : Small (x :: L)) : Small L := fun y hy => h y (List.mem_cons_of_mem _ hy)
theorem Small.head {x : Nat} {L : List Nat} (h : Small (x :: L)) : x < 1000000000 := h x (List.mem_cons_self ..)
theorem Small.nil : Small [] := fun _ h => by cases h
theorem Small.take {L : List Nat} (h : Small L) (k : Nat) : Small (L.take k) := fun x hx => h x (List.mem_of_mem_take hx)
theorem Small.append {L M : List Nat} (h : Small L) (k : Small M) : Small (L ++ M) := fun x hx => (List.mem_append.1 hx).elim (h x) (k x)
theorem Small.one {x : Nat} (h : x < 1000000000) : Small [x] := fun y hy => by rw [List.mem_singleton.1 hy]; exact h
theorem Small.get {L : List Nat} (h : Small L) (i : Nat) (hi : i < L.length) : L[i] < 1000000000 := h _ (List.getElem_mem hi)
theorem Small.set {L : List Nat} (h : Small L) (i x : Nat) (hx : x < 1000000000) : Small (L.set i x) := fun y hy => by
  rcases List.mem_or_eq_of_mem_set hy with hy | rfl
  · exact h y hy
  · exact hx
theorem Small.zeros (n : Nat) : Small (List.replicate n 0) := fun x hx => by rw [(List.mem_replicate.1 hx).2]; omega
theorem lv_append (L M : List Nat) : lv (L ++ M) = lv L + 1000000000 ^ L.length * lv M := by
  induction L with
  | nil => simp [lv]
  | cons x L ih =>
    simp only [List.cons_append, lv, ih, List.length_cons, Nat.pow_succ, Nat.mul_add]
    rw [Nat.mul_comm (1000000000 ^ L.length) 1000000000, Nat.mul_assoc, Nat.add_assoc]
theorem lv_one (x : Nat) : lv [x] = x := by simp [lv]
theorem lv_zeros (n : Nat) : lv (List.replicate n 0) = 0 := by
  induction n with
  | zero => rfl
  | succ n ih => simp [List.replicate_succ, lv, ih]
theorem lv_take_succ (L : List Nat) (k : Nat) (h : k < L.length) : lv (L.take (k + 1)) = lv (L.take k) + 1000000000 ^ k * L[k] := by
  rw [List.take_succ_eq_append_getElem h, lv_append, lv_one, List.length_take, Nat.min_eq_left (Nat.le_of_lt h)]
theorem lv_set (L : List Nat) (i x : Nat) (h : i < L.length) : lv (L.set i x) + 1000000000 ^ i * L[i] = lv L + 1000000000 ^ i * x := by
  induction L generalizing i with
  | nil => simp at h
  | cons y L ih =>
    cases i with
    | zero => simp [lv]; omega
    | succ i =>
      have hi : i < L.length := by simpa using h
      have := ih i hi
      simp only [List.set_cons_succ, lv, List.getElem_cons_succ, Nat.pow_succ]
      have e1 : 1000000000 ^ i * 1000000000 * L[i] = 1000000000 * (1000000000 ^ i * L[i]) := by rw [Nat.mul_comm (1000000000 ^ i), Nat.mul_assoc]
      have e2 : 1000000000 ^ i * 1000000000 * x = 1000000000 * (1000000000 ^ i * x) := by rw [Nat.mul_comm (1000000000 ^ i), Nat.mul_assoc]
      rw [e1, e2]; omega
theorem lv_lt (L : List Nat) (h : Small L) : lv L < 1000000000 ^ L.length := by
  induction L with
  | nil => simp [lv]
  | cons x L ih =>
    have := ih h.tail
    have hx := h.head
    simp only [lv, List.length_cons, Nat.pow_succ]
    omega
theorem limbs_lv (L : List Nat) (h : Small L) (hz : ∀ hl : 0 < L.length, L[L.length - 1] ≠ 0) : limbs (lv L) = L := by
  induction L with
  | nil => exact limbs_zero
  | cons x L ih =>
    have hx := h.head
    have hne : lv (x :: L) ≠ 0 := by
      intro h0
      simp only [lv] at h0
      have hx0 : x = 0 := by omega
      have hl0 : lv L = 0 := by omega
      have e := ih h.tail (fun hl => by have := hz (by simp); simp only [List.length_cons, Nat.add_sub_cancel] at this; rw [List.getElem_cons] at this; rw [dif_neg (by omega)] at this; exact this)
      rw [hl0, limbs_zero] at e
      subst e
      exact hz (by simp) (by simpa using hx0)
    rw [limbs_pos hne]
    have e1 : lv (x :: L) % 1000000000 = x := by simp only [lv]; omega
    have e2 : lv (x :: L) / 1000000000 = lv L := by simp only [lv]; omega
    rw [e1, e2, ih h.tail (fun hl => by have := hz (by simp); simp only [List.length_cons, Nat.add_sub_cancel] at this; rw [List.getElem_cons] at this; rw [dif_neg (by omega)] at this; exact this)]
theorem limbs_take (L : List Nat) (h : Small L) (k : Nat) (hk : k ≤ L.length) (he : lv (L.take k) = lv L) (hz : ∀ hl : 0 < k, L[k - 1]'(by omega) ≠ 0) :
    limbs (lv L) = L.take k := by
  rw [← he]
  refine limbs_lv _ (h.take k) fun hl => ?_
  rw [List.length_take, Nat.min_eq_left hk] at hl
  have := hz hl
  simp only [List.length_take, Nat.min_eq_left hk, List.getElem_take]
  exact this
theorem limbs_len_of (L : List Nat) (h : Small L) (k : Nat) (hk : k ≤ L.length) (he : lv (L.take k) = lv L) (hz : ∀ hl : 0 < k, L[k - 1]'(by omega) ≠ 0) :
    (limbs (lv L)).length = k := by rw [limbs_take L h k hk he hz, List.length_take, Nat.min_eq_left hk]
theorem limbs_len_le (n k : Nat) (h : n < 1000000000 ^ k) : (limbs n).length ≤ k := by
  induction k generalizing n with
  | zero => have : n = 0 := by simp at h; exact h
            subst this; simp [limbs_zero]
  | succ k ih =>
    by_cases h0 : n = 0
    · subst h0; simp [limbs_zero]
    · rw [limbs_pos h0, List.length_cons]
      have := ih (n / 1000000000) (by rw [Nat.pow_succ] at h; omega)
      omega
theorem limbs_len_lt (n : Nat) : n < 1000000000 ^ (limbs n).length := by
  have := lv_lt _ (limbs_small n)
  rwa [lv_limbs] at this
theorem limbs_len_mul (m n : Nat) : (limbs (m * n)).length ≤ (limbs m).length + (limbs n).length := by
  refine limbs_len_le _ _ ?_
  rw [Nat.pow_add]
  exact Nat.mul_lt_mul'' (limbs_len_lt m) (limbs_len_lt n)
theorem limbs_eq_take (L : List Nat) (h : Small L) : limbs (lv L) = L.take (limbs (lv L)).length := by
  -- the longest beginning without a zero at its end
  have key : ∀ k, k ≤ L.length → lv (L.take k) = lv L → limbs (lv L) = L.take (limbs (lv L)).length := by
    intro k
    induction k with
    | zero => intro _ he; rw [← he]; simp [lv, limbs_zero]
    | succ k ih =>
      intro hk he
      by_cases hz : L[k] = 0
      · exact ih (by omega) (by rw [← he, lv_take_succ L k (by omega), hz]; simp)
      · have e := limbs_take L h (k + 1) hk he (fun _ => by simpa using hz)
        rw [e, List.length_take, Nat.min_eq_left hk]
  exact key L.length (Nat.le_refl _) (by rw [List.take_length])
theorem limbs_len_le_len (L : List Nat) (h : Small L) : (limbs (lv L)).length ≤ L.length := by
  have := congrArg List.length (limbs_eq_take L h)
  rw [List.length_take] at this
  omega
end Go.Proofs.YtkamepalomkpbaaDoor
namespace Go.Proofs.YtkamepalomkpbaaDoor
def TimesIn (M N : List Nat) (i k a : Nat) (O : List Nat) (c : Nat) : Prop :=
  O.length = M.length + N.length + 1 ∧ Small O ∧ c < 1000000000 ∧
    lv O + 1000000000 ^ (i + k) * c = lv (M.take i) * lv N + 1000000000 ^ i * (a * lv (N.take k))
def TimesOut (M N : List Nat) (i : Nat) (O : List Nat) : Prop :=
  O.length = M.length + N.length + 1 ∧ Small O ∧ lv O = lv (M.take i) * lv N
theorem TimesOut.start (M N : List Nat) : TimesOut M N 0 (List.replicate (M.length + N.length + 1) 0) :=
  ⟨by simp, Small.zeros _, by simp [lv_zeros, lv]⟩
theorem TimesOut.toIn {M N : List Nat} {i : Nat} {O : List Nat} (h : TimesOut M N i O) (a : Nat) : TimesIn M N i 0 a O 0 :=
  ⟨h.1, h.2.1, by omega, by rw [h.2.2]; simp [lv]⟩
theorem TimesIn.step {M N : List Nat} {i k a : Nat} {O : List Nat} {c : Nat} (h : TimesIn M N i k a O c) (hi : i < M.length) (hk : k < N.length)
    (ha : a < 1000000000) (hN : Small N) (x : Nat) (hx : x = O[i + k]'(by have := h.1; omega) + a * N[k] + c) :
    TimesIn M N i (k + 1) a (O.set (i + k) (x % 1000000000)) (x / 1000000000) := by
  obtain ⟨hl, hs, hc, he⟩ := h
  have hik : i + k < O.length := by omega
  refine ⟨by simpa using hl, hs.set _ _ (by omega), ?_, ?_⟩
  · have h1 := hs.get (i + k) hik
    have h2 := hN.get k hk
    have h3 : a * N[k] ≤ 999999999 * 999999999 := Nat.mul_le_mul (by omega) (by omega)
    omega
  · have e1 := lv_set O (i + k) (x % 1000000000) hik
    have e2 := lv_take_succ N k hk
    rw [e2, show i + (k + 1) = (i + k) + 1 from rfl, Nat.pow_succ]
    generalize O[i + k] = o at *
    generalize N[k] = b at *
    have e3 : x = 1000000000 * (x / 1000000000) + x % 1000000000 := by omega
    generalize x / 1000000000 = q at *
    generalize x % 1000000000 = r at *
    generalize lv (O.set (i + k) r) = V' at *
    have hp : (1000000000 : Nat) ^ (i + k) = 1000000000 ^ i * 1000000000 ^ k := Nat.pow_add ..
    generalize (1000000000 : Nat) ^ (i + k) = P at *
    have t1 : P * x = P * o + P * (a * b) + P * c := by rw [hx, Nat.mul_add, Nat.mul_add]
    have t2 : P * x = P * 1000000000 * q + P * r := by rw [e3, Nat.mul_add, Nat.mul_assoc]
    have t3 : 1000000000 ^ i * (a * (lv (N.take k) + 1000000000 ^ k * b)) = 1000000000 ^ i * (a * lv (N.take k)) + P * (a * b) := by
      rw [Nat.mul_add, Nat.mul_add, hp, Nat.mul_left_comm a, Nat.mul_assoc]
    rw [t3]
    generalize P * 1000000000 * q = U at *
    generalize P * r = R at *
    generalize P * o = Oo at *
    generalize P * c = Cc at *
    generalize P * (a * b) = AB at *
    omega
theorem TimesIn.top {M N : List Nat} {i a : Nat} {O : List Nat} {c : Nat} (h : TimesIn M N i N.length a O c) (hi : i < M.length) (ha : a = M[i]) (hM : Small M) (hN : Small N) :
    O[i + N.length]'(by have := h.1; omega) + c < 1000000000 := by
  obtain ⟨hl, hs, hc, he⟩ := h
  have hik : i + N.length < O.length := by omega
  rw [List.take_length] at he
  have e1 := lv_take_succ M i hi
  have e2 : lv (M.take (i + 1)) * lv N = lv (M.take i) * lv N + 1000000000 ^ i * (a * lv N) := by rw [e1, ha, Nat.add_mul, Nat.mul_assoc]
  have l1 := lv_lt (M.take (i + 1)) (hM.take _)
  rw [List.length_take, Nat.min_eq_left (by omega)] at l1
  have l2 := lv_lt N hN
  have l3 : lv (M.take (i + 1)) * lv N < 1000000000 ^ (i + 1) * 1000000000 ^ N.length := Nat.mul_lt_mul'' l1 l2
  have p1 : (1000000000 : Nat) ^ (i + 1) * 1000000000 ^ N.length = 1000000000 ^ (i + N.length) * 1000000000 := by rw [Nat.pow_succ, Nat.pow_add, Nat.mul_right_comm]
  -- the limb at that place is part of the value
  have e3 := lv_set O (i + N.length) 0 hik
  have l4 : 1000000000 ^ (i + N.length) * O[i + N.length] ≤ lv O := by omega
  rw [p1, e2, ← he] at l3
  have l5 : 1000000000 ^ (i + N.length) * (O[i + N.length] + c) < 1000000000 ^ (i + N.length) * 1000000000 := by
    rw [Nat.mul_add]; omega
  exact Nat.lt_of_mul_lt_mul_left l5
theorem TimesIn.done {M N : List Nat} {i a : Nat} {O : List Nat} {c : Nat} (h : TimesIn M N i N.length a O c) (hi : i < M.length) (ha : a = M[i]) (hM : Small M) (hN : Small N) :
    TimesOut M N (i + 1) (O.set (i + N.length) (O[i + N.length]'(by have := h.1; omega) + c)) := by
  have ht := h.top hi ha hM hN
  obtain ⟨hl, hs, hc, he⟩ := h
  have hik : i + N.length < O.length := by omega
  refine ⟨by simpa using hl, hs.set _ _ ht, ?_⟩
  have e3 := lv_set O (i + N.length) (O[i + N.length] + c) hik
  rw [List.take_length] at he
  rw [lv_take_succ M i hi, ← ha, Nat.add_mul, Nat.mul_assoc, ← he]
  rw [Nat.mul_add] at e3
  omega
theorem TimesOut.all {M N : List Nat} {O : List Nat} (h : TimesOut M N M.length O) : lv O = lv M * lv N := by
  have := h.2.2; rwa [List.take_length] at this
end Go.Proofs.YtkamepalomkpbaaDoor
namespace Go.Proofs.YtkamepalomkpbaaDoor
def IsShift (num den : Nat) (s : Int) : Prop := ∀ a b : Nat, (a : Int) - b = s → den ^ 24 * 4 ^ a < 2 * (num ^ 24 * 4 ^ b) ∧ num ^ 24 * 4 ^ b < 2 * (den ^ 24 * 4 ^ a)
theorem pow4_pos (k : Nat) : 0 < 4 ^ k := Nat.pow_pos (by decide)
theorem IsShift.mk {num den : Nat} {s : Int} (a b : Nat) (hs : (a : Int) - b = s) (h1 : den ^ 24 * 4 ^ a < 2 * (num ^ 24 * 4 ^ b)) (h2 : num ^ 24 * 4 ^ b < 2 * (den ^ 24 * 4 ^ a)) : IsShift num den s := by
  intro a' b' hs'
  generalize num ^ 24 = N at *
  generalize den ^ 24 = D at *
  rcases Nat.le_total a a' with h | h
  · obtain ⟨k, rfl⟩ : ∃ k, a' = a + k := ⟨a' - a, by omega⟩
    obtain rfl : b' = b + k := by omega
    have hp := pow4_pos k
    rw [Nat.pow_add, Nat.pow_add]
    generalize (4 : Nat) ^ a = A at *
    generalize (4 : Nat) ^ b = B at *
    generalize (4 : Nat) ^ k = K at *
    have q1 := Nat.mul_lt_mul_of_pos_right h1 hp
    have q2 := Nat.mul_lt_mul_of_pos_right h2 hp
    rw [show D * (A * K) = D * A * K by ac_rfl, show 2 * (N * (B * K)) = 2 * (N * B) * K by ac_rfl, show N * (B * K) = N * B * K by ac_rfl, show 2 * (D * A * K) = 2 * (D * A) * K by ac_rfl]
    exact ⟨q1, q2⟩
  · obtain ⟨k, rfl⟩ : ∃ k, a = a' + k := ⟨a - a', by omega⟩
    obtain rfl : b = b' + k := by omega
    rw [Nat.pow_add, Nat.pow_add, ← Nat.mul_assoc, ← Nat.mul_assoc, ← Nat.mul_assoc] at h1 h2
    rw [← Nat.mul_assoc, ← Nat.mul_assoc]
    exact ⟨Nat.lt_of_mul_lt_mul_right h1, Nat.lt_of_mul_lt_mul_right h2⟩
theorem IsShift.unique {num den : Nat} {s t : Int} (h : IsShift num den s) (k : IsShift num den t) : s = t := by
  have key : ∀ {s t : Int}, IsShift num den s → IsShift num den t → ¬ s < t := by
    intro s t h k hlt
    obtain ⟨b, hb⟩ : ∃ b : Nat, b = s.natAbs := ⟨_, rfl⟩
    obtain ⟨a, ha⟩ : ∃ a : Nat, (a : Int) = s + b := ⟨(s + b).toNat, by omega⟩
    obtain ⟨d, hd⟩ : ∃ d : Nat, (d : Int) = t - s - 1 := ⟨(t - s - 1).toNat, by omega⟩
    have h1 := (h a b (by omega)).2
    have h2 := (k (a + d + 1) b (by omega)).1
    generalize num ^ 24 * 4 ^ b = N at *
    generalize den ^ 24 = D at *
    have h3 : D * 4 ^ a ≤ D * (4 ^ a * 4 ^ d) := Nat.mul_le_mul_left _ (Nat.le_mul_of_pos_right _ (pow4_pos d))
    have e : D * 4 ^ (a + d + 1) = D * (4 ^ a * 4 ^ d) * 4 := by rw [Nat.pow_succ, Nat.pow_add]; ac_rfl
    rw [e] at h2
    generalize D * 4 ^ a = X at *
    generalize D * (4 ^ a * 4 ^ d) = Y at *
    omega
  have := key h k
  have := key k h
  omega
theorem IsShift.symm {num den : Nat} {s : Int} (h : IsShift num den s) : IsShift den num (-s) := fun a b hs => by
  have := h b a (by omega)
  exact ⟨this.2, this.1⟩
theorem p24 (n : Nat) : (2 * n) ^ 24 = n ^ 24 * 4 ^ 12 := by
  rw [Nat.mul_pow, Nat.mul_comm]
theorem IsShift.num2 {num den : Nat} {s : Int} (h : IsShift (2 * num) den s) : IsShift num den (s - 12) := fun a b hs => by
  have := h (a + 12) b (by omega)
  rw [p24, Nat.pow_add 4 a 12, ← Nat.mul_assoc, Nat.mul_right_comm (num ^ 24)] at this
  have hp := pow4_pos 12
  generalize (4 : Nat) ^ 12 = P at *
  rw [← Nat.mul_assoc, ← Nat.mul_assoc 2 (den ^ 24 * 4 ^ a)] at this
  exact ⟨Nat.lt_of_mul_lt_mul_right this.1, Nat.lt_of_mul_lt_mul_right this.2⟩
theorem IsShift.den2 {num den : Nat} {s : Int} (h : IsShift num (2 * den) s) : IsShift num den (s + 12) := by
  have := h.symm.num2.symm
  rwa [show -(-s - 12) = s + 12 by omega] at this
theorem sqrt2 : ∀ n a b : Nat, a ≤ n → a * a = 2 * (b * b) → a = 0
  | 0, a, b, h, _ => by omega
  | n + 1, a, b, h, e => by
    have h1 : a % 2 = 0 := by
      rcases Nat.mod_two_eq_zero_or_one a with h | h
      · exact h
      · have := Nat.mul_mod a a 2
        rw [h, e] at this
        omega
    obtain ⟨c, rfl⟩ : ∃ c, a = 2 * c := ⟨a / 2, by omega⟩
    have e2 : b * b = 2 * (c * c) := by
      have : 2 * c * (2 * c) = 2 * (2 * (c * c)) := by ac_rfl
      omega
    have h2 : b % 2 = 0 := by
      rcases Nat.mod_two_eq_zero_or_one b with h | h
      · exact h
      · have := Nat.mul_mod b b 2
        rw [h, e2] at this
        omega
    obtain ⟨d, rfl⟩ : ∃ d, b = 2 * d := ⟨b / 2, by omega⟩
    have e3 : c * c = 2 * (d * d) := by
      have : 2 * d * (2 * d) = 2 * (2 * (d * d)) := by ac_rfl
      omega
    have := sqrt2 n c d (by omega) e3
    omega
theorem no_tie (x y j : Nat) (hx : 0 < x) : x ^ 24 ≠ 2 * (y ^ 24 * 4 ^ j) := fun e => by
  have e1 : x ^ 24 = x ^ 12 * x ^ 12 := by rw [← Nat.pow_add]
  have e2 : y ^ 24 * 4 ^ j = (y ^ 12 * 2 ^ j) * (y ^ 12 * 2 ^ j) := by
    rw [show (24 : Nat) = 12 + 12 from rfl, Nat.pow_add, show (4 : Nat) = 2 * 2 from rfl, Nat.mul_pow]; ac_rfl
  rw [e1, e2] at e
  have := sqrt2 _ _ _ (Nat.le_refl _) e
  have hp : 0 < x ^ 12 := Nat.pow_pos hx
  omega
def ShiftInv (N D num den : Nat) (n : Int) : Prop := ∀ t, IsShift num den t → IsShift N D (t + n)
theorem ShiftInv.start (N D : Nat) : ShiftInv N D N D 0 := fun t h => by rwa [Int.add_zero]
theorem ShiftInv.up {N D num den : Nat} {n : Int} (h : ShiftInv N D num den n) : ShiftInv N D (2 * num) den (n - 12) := fun t k => by
  have := h _ k.num2
  rwa [show t + (n - 12) = t - 12 + n by omega]
theorem ShiftInv.down {N D num den : Nat} {n : Int} (h : ShiftInv N D num den n) : ShiftInv N D num (2 * den) (n + 12) := fun t k => by
  have := h _ k.den2
  rwa [show t + (n + 12) = t + 12 + n by omega]
theorem count_end {num den j : Nat} (hd : 0 < den) (h1 : den ≤ num) (hj : j = 0 ∨ 2 * (den ^ 24 * 4 ^ (j - 1)) < num ^ 24) (he : num ^ 24 ≤ 2 * (den ^ 24 * 4 ^ j)) : IsShift num den j := by
  have hnt := no_tie num den j (by omega)
  refine .mk j 0 (by omega) ?_ (by rw [Nat.pow_zero, Nat.mul_one]; omega)
  rw [Nat.pow_zero, Nat.mul_one]
  rcases hj with rfl | hj
  · have : den ^ 24 ≤ num ^ 24 := Nat.pow_le_pow_left h1 24
    have hp : 0 < den ^ 24 := Nat.pow_pos hd
    rw [Nat.pow_zero, Nat.mul_one]; omega
  · rcases Nat.eq_zero_or_pos j with rfl | hj0
    · have : den ^ 24 ≤ num ^ 24 := Nat.pow_le_pow_left h1 24
      have hp : 0 < den ^ 24 := Nat.pow_pos hd
      rw [Nat.pow_zero, Nat.mul_one]; omega
    · obtain ⟨i, rfl⟩ : ∃ i, j = i + 1 := ⟨j - 1, by omega⟩
      rw [Nat.add_sub_cancel] at hj
      have e : den ^ 24 * 4 ^ (i + 1) = den ^ 24 * 4 ^ i * 4 := by rw [show (4 : Nat) ^ (i + 1) = 4 ^ i * 4 from Nat.pow_succ ..]; ac_rfl
      rw [e]; omega
theorem count_bound {num den : Nat} (h : num < 2 * den) : num ^ 24 ≤ 2 * (den ^ 24 * 4 ^ 12) := by
  have h1 : num ^ 24 ≤ (2 * den) ^ 24 := Nat.pow_le_pow_left (Nat.le_of_lt h) 24
  rw [p24] at h1
  omega
end Go.Proofs.YtkamepalomkpbaaDoor
namespace Go.Proofs.YtkamepalomkpbaaDoor
def dval (l : List UInt8) : Nat := l.foldl (fun a c => 10 * a + (c.toNat - 48)) 0
def Digs (l : List UInt8) : Prop := ∀ c, c ∈ l → 48 ≤ c.toNat ∧ c.toNat ≤ 57
theorem foldl_dval (l : List UInt8) (a : Nat) : l.foldl (fun a c => 10 * a + (c.toNat - 48)) a = a * 10 ^ l.length + dval l := by
  induction l generalizing a with
  | nil => simp [dval]
  | cons c l ih =>
    have h0 := ih (10 * 0 + (c.toNat - 48))
    have h1 := ih (10 * a + (c.toNat - 48))
    unfold dval at *
    simp only [List.foldl_cons, List.length_cons, Nat.pow_succ]
    rw [h1, h0, Nat.add_mul, Nat.add_mul, Nat.mul_zero, Nat.zero_mul, Nat.zero_add]
    rw [Nat.mul_comm 10 a, Nat.mul_assoc, Nat.mul_comm 10 (10 ^ l.length), Nat.add_assoc]
theorem dval_append (a b : List UInt8) : dval (a ++ b) = dval a * 10 ^ b.length + dval b := by
  unfold dval; rw [List.foldl_append, foldl_dval]; rfl
theorem dval_snoc (a : List UInt8) (c : UInt8) : dval (a ++ [c]) = 10 * dval a + (c.toNat - 48) := by
  unfold dval; rw [List.foldl_append]; rfl
theorem dval_nil : dval [] = 0 := rfl
theorem Digs.take {l : List UInt8} (h : Digs l) (k : Nat) : Digs (l.take k) := fun c hc => h c (List.mem_of_mem_take hc)
theorem Digs.drop {l : List UInt8} (h : Digs l) (k : Nat) : Digs (l.drop k) := fun c hc => h c (List.mem_of_mem_drop hc)
theorem Digs.append {a b : List UInt8} (h : Digs a) (k : Digs b) : Digs (a ++ b) := fun c hc => (List.mem_append.1 hc).elim (h c) (k c)
theorem Digs.get {l : List UInt8} (h : Digs l) (i : Nat) (hi : i < l.length) : 48 ≤ l[i].toNat ∧ l[i].toNat ≤ 57 := h _ (List.getElem_mem hi)
theorem dval_lt (l : List UInt8) (h : Digs l) : dval l < 10 ^ l.length := by
  induction l with
  | nil => simp [dval]
  | cons c l ih =>
    have h1 := ih (fun x hx => h x (List.mem_cons_of_mem _ hx))
    have h2 := h c (List.mem_cons_self ..)
    have e : dval (c :: l) = (c.toNat - 48) * 10 ^ l.length + dval l := by
      have := dval_append [c] l
      simpa [dval] using this
    rw [e, List.length_cons, Nat.pow_succ]
    have h3 : (c.toNat - 48) * 10 ^ l.length ≤ 9 * 10 ^ l.length := Nat.mul_le_mul_right _ (by omega)
    omega
theorem dval_take_succ (l : List UInt8) (k : Nat) (h : k < l.length) : dval (l.take (k + 1)) = 10 * dval (l.take k) + (l[k].toNat - 48) := by
  rw [List.take_succ_eq_append_getElem h, dval_snoc]
theorem pow9 (j : Nat) : (10 : Nat) ^ (9 * j) = 1000000000 ^ j := by rw [Nat.pow_mul]
theorem chunk_step (ds : List UInt8) (j : Nat) (hj : 9 * j < ds.length) (L : List Nat) (hl : L.length = j) (he : lv L = dval (ds.drop (ds.length - 9 * j))) :
    lv (L ++ [dval ((ds.drop (ds.length - 9 * (j + 1))).take (ds.length - 9 * j - (ds.length - 9 * (j + 1))))]) = dval (ds.drop (ds.length - 9 * (j + 1))) := by
  rw [lv_append, lv_one, hl, he]
  have e : ds.drop (ds.length - 9 * (j + 1)) = (ds.drop (ds.length - 9 * (j + 1))).take (ds.length - 9 * j - (ds.length - 9 * (j + 1))) ++ ds.drop (ds.length - 9 * j) := by
    have := List.take_append_drop (ds.length - 9 * j - (ds.length - 9 * (j + 1))) (ds.drop (ds.length - 9 * (j + 1)))
    rw [List.drop_drop] at this
    rw [show ds.length - 9 * (j + 1) + (ds.length - 9 * j - (ds.length - 9 * (j + 1))) = ds.length - 9 * j by omega] at this
    exact this.symm
  generalize hc : (ds.drop (ds.length - 9 * (j + 1))).take (ds.length - 9 * j - (ds.length - 9 * (j + 1))) = ch at *
  rw [e, dval_append, List.length_drop, show ds.length - (ds.length - 9 * j) = 9 * j by omega, pow9, Nat.mul_comm (dval ch), Nat.add_comm]
theorem chunk_small (ds : List UInt8) (h : Digs ds) (j : Nat) :
    dval ((ds.drop (ds.length - 9 * (j + 1))).take (ds.length - 9 * j - (ds.length - 9 * (j + 1)))) < 1000000000 := by
  have h1 := dval_lt _ ((h.drop (ds.length - 9 * (j + 1))).take (ds.length - 9 * j - (ds.length - 9 * (j + 1))))
  refine Nat.lt_of_lt_of_le h1 ?_
  have : (10 : Nat) ^ ((ds.drop (ds.length - 9 * (j + 1))).take (ds.length - 9 * j - (ds.length - 9 * (j + 1)))).length ≤ 10 ^ 9 :=
    Nat.pow_le_pow_right (by decide) (by rw [List.length_take]; omega)
  exact this
theorem u8_digit (d : Nat) (h : d < 10) : (UInt8.ofNat (48 + d)).toNat = 48 + d := by
  rw [UInt8.toNat_ofNat']; omega
theorem digs_dec (u : Nat) : Digs (Lib.decDigits u) := by
  induction u using Nat.strongRecOn with
  | _ u ih =>
    rw [Lib.decDigits]
    split
    · rename_i h
      intro c hc
      rw [List.mem_singleton.1 hc, u8_digit u h]; omega
    · rename_i h
      refine (ih (u / 10) (by omega)).append fun c hc => ?_
      rw [List.mem_singleton.1 hc, u8_digit _ (by omega)]; omega
theorem dval_dec (u : Nat) : dval (Lib.decDigits u) = u := by
  induction u using Nat.strongRecOn with
  | _ u ih =>
    rw [Lib.decDigits]
    split
    · rename_i h
      have := dval_snoc [] (UInt8.ofNat (48 + u))
      rw [List.nil_append] at this
      rw [this, u8_digit u h, dval_nil]; omega
    · rename_i h
      rw [dval_snoc, ih (u / 10) (by omega), u8_digit _ (by omega)]; omega
theorem dec_ne_nil (u : Nat) : Lib.decDigits u ≠ [] := by
  intro h
  have := congrArg List.length h
  rw [Lib.decDigits_length] at this
  have := Lib.nDigits_pos u
  simp at *
  omega
def padk : Nat → Nat → List UInt8
  | 0, _ => []
  | k + 1, u => padk k (u / 10) ++ [UInt8.ofNat (48 + u % 10)]
theorem dec_join (m : Nat) (hm : m ≠ 0) (k x : Nat) (hx : x < 10 ^ k) : Lib.decDigits (m * 10 ^ k + x) = Lib.decDigits m ++ padk k x := by
  induction k generalizing x with
  | zero => have : x = 0 := by simpa using hx
            subst this; simp [padk]
  | succ k ih =>
    have hp : 0 < 10 ^ k := Nat.pow_pos (by decide)
    have e1 : (m * 10 ^ (k + 1) + x) / 10 = m * 10 ^ k + x / 10 := by rw [Nat.pow_succ, ← Nat.mul_assoc]; omega
    have e2 : (m * 10 ^ (k + 1) + x) % 10 = x % 10 := by rw [Nat.pow_succ, ← Nat.mul_assoc]; omega
    have hge : ¬ m * 10 ^ (k + 1) + x < 10 := by
      have : 10 ^ k * 10 ≤ m * (10 ^ k * 10) := Nat.le_mul_of_pos_left _ (by omega)
      rw [Nat.pow_succ]; omega
    rw [Lib.decDigits, dif_neg hge, e1, e2, ih (x / 10) (by rw [Nat.pow_succ] at hx; omega), padk, List.append_assoc]
theorem padk_zeros (k : Nat) : padk k 0 = List.replicate k 48 := by
  induction k with
  | zero => rfl
  | succ k ih =>
    rw [padk, Nat.zero_div, ih, List.replicate_succ']
    rfl
theorem padk_eq (k u : Nat) (hk : Lib.nDigits u ≤ k) : padk k u = List.replicate (k - Lib.nDigits u) 48 ++ Lib.decDigits u := by
  induction u using Nat.strongRecOn generalizing k with
  | _ u ih =>
    have hp := Lib.nDigits_pos u
    obtain ⟨k, rfl⟩ : ∃ j, k = j + 1 := ⟨k - 1, by omega⟩
    by_cases h : u < 10
    · rw [padk, Nat.div_eq_of_lt h, padk_zeros, Lib.nDigits_small h, Lib.decDigits_one h, Nat.mod_eq_of_lt h, Nat.add_sub_cancel]
    · have e := Lib.nDigits_big h
      rw [padk, ih (u / 10) (by omega) k (by omega), e, show Lib.decDigits u = Lib.decDigits (u / 10) ++ [UInt8.ofNat (48 + u % 10)] by rw [Lib.decDigits, dif_neg h], ← List.append_assoc]
      congr 3
      omega
theorem nDigits_le (u k : Nat) (hk : 1 ≤ k) (h : u < 10 ^ k) : Lib.nDigits u ≤ k := by
  induction k generalizing u with
  | zero => omega
  | succ k ih =>
    by_cases hs : u < 10
    · rw [Lib.nDigits_small hs]; omega
    · rw [Lib.nDigits_big hs]
      rcases Nat.eq_zero_or_pos k with rfl | hk'
      · simp at h; omega
      · have := ih (u / 10) hk' (by rw [Nat.pow_succ] at h; omega)
        omega
def txt (L : List Nat) (i : Nat) : List UInt8 := Lib.decDigits (lv (L.drop i))
theorem txt_step (L : List Nat) (hs : Small L) (i : Nat) (hi : i < L.length) (hne : lv (L.drop (i + 1)) ≠ 0) :
    txt L i = txt L (i + 1) ++ (List.replicate (9 - Lib.nDigits L[i]) 48 ++ Lib.decDigits L[i]) := by
  have hx := hs.get i hi
  unfold txt
  rw [List.drop_eq_getElem_cons hi, lv, Nat.add_comm, Nat.mul_comm, show (1000000000 : Nat) = 10 ^ 9 from rfl, dec_join _ hne 9 _ hx, padk_eq 9 _ (nDigits_le _ 9 (by decide) hx)]
theorem txt_top (L : List Nat) (i : Nat) (hi : i + 1 = L.length) : txt L i = Lib.decDigits (L[i]'(by omega)) := by
  unfold txt
  rw [List.drop_eq_getElem_cons (by omega), List.drop_of_length_le (by omega), lv_one]
theorem limbs_drop_ne {n i : Nat} (hi : i < (limbs n).length) : lv ((limbs n).drop i) ≠ 0 := by
  intro h0
  have hn : n ≠ 0 := by rintro rfl; rw [limbs_zero] at hi; simp at hi
  have e := lv_append ((limbs n).take i) ((limbs n).drop i)
  rw [List.take_append_drop, lv_limbs, h0, Nat.mul_zero, Nat.add_zero] at e
  have h1 := lv_lt _ ((limbs_small n).take i)
  rw [← e] at h1
  have h2 := limbs_len_le n _ h1
  rw [List.length_take] at h2
  omega
end Go.Proofs.YtkamepalomkpbaaDoor
