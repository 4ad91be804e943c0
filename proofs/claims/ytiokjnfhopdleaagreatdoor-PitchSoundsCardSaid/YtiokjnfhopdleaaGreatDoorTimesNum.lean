/- Plain laws for the product of limbs: what a step of the inner loop and what the end of a round of the outer loop do to the value. No program in this text. Conditions: all limbs are below the base. -/
import Derived.Test.YtiokjnfhopdleaaGreatDoorNum
namespace Go.Proofs.YtiokjnfhopdleaaGreatDoor

/-- The inner loop after k rounds: O is the row, c the carry. -/
def TimesIn (M N : List Nat) (i k a : Nat) (O : List Nat) (c : Nat) : Prop :=
  O.length = M.length + N.length + 1 ∧ Small O ∧ c < 1000000000 ∧
    lv O + 1000000000 ^ (i + k) * c = lv (M.take i) * lv N + 1000000000 ^ i * (a * lv (N.take k))
/-- The outer loop after i rounds. -/
def TimesOut (M N : List Nat) (i : Nat) (O : List Nat) : Prop :=
  O.length = M.length + N.length + 1 ∧ Small O ∧ lv O = lv (M.take i) * lv N

theorem TimesOut.start (M N : List Nat) : TimesOut M N 0 (List.replicate (M.length + N.length + 1) 0) :=
  ⟨by simp, Small.zeros _, by simp [lv_zeros, lv]⟩
theorem TimesOut.toIn {M N : List Nat} {i : Nat} {O : List Nat} (h : TimesOut M N i O) (a : Nat) : TimesIn M N i 0 a O 0 :=
  ⟨h.1, h.2.1, by omega, by rw [h.2.2]; simp [lv]⟩

theorem TimesIn.step {M N : List Nat} {i k a : Nat} {O : List Nat} {c : Nat} (h : TimesIn M N i k a O c) (hi : i < M.length) (hk : k < N.length)
    (ha : a < 1000000000) (hN : Small N) (x : Nat) (hx : x = O[i + k]'(by have := h.1; omega) + a * N[k] + c) :
    TimesIn M N i (k + 1) a (O.set (i + k) (x % 1000000000)) (x / 1000000000) := by
  obtain ⟨hl, hs, hc, he⟩ := h
  have hik : i + k < O.length := by omega
  refine ⟨by simpa using hl, hs.set _ _ (by omega), ?_, ?_⟩
  · have h1 := hs.get (i + k) hik
    have h2 := hN.get k hk
    have h3 : a * N[k] ≤ 999999999 * 999999999 := Nat.mul_le_mul (by omega) (by omega)
    omega
  · have e1 := lv_set O (i + k) (x % 1000000000) hik
    have e2 := lv_take_succ N k hk
    rw [e2, show i + (k + 1) = (i + k) + 1 from rfl, Nat.pow_succ]
    generalize O[i + k] = o at *
    generalize N[k] = b at *
    have e3 : x = 1000000000 * (x / 1000000000) + x % 1000000000 := by omega
    generalize x / 1000000000 = q at *
    generalize x % 1000000000 = r at *
    generalize lv (O.set (i + k) r) = V' at *
    have hp : (1000000000 : Nat) ^ (i + k) = 1000000000 ^ i * 1000000000 ^ k := Nat.pow_add ..
    generalize (1000000000 : Nat) ^ (i + k) = P at *
    have t1 : P * x = P * o + P * (a * b) + P * c := by rw [hx, Nat.mul_add, Nat.mul_add]
    have t2 : P * x = P * 1000000000 * q + P * r := by rw [e3, Nat.mul_add, Nat.mul_assoc]
    have t3 : 1000000000 ^ i * (a * (lv (N.take k) + 1000000000 ^ k * b)) = 1000000000 ^ i * (a * lv (N.take k)) + P * (a * b) := by
      rw [Nat.mul_add, Nat.mul_add, hp, Nat.mul_left_comm a, Nat.mul_assoc]
    rw [t3]
    generalize P * 1000000000 * q = U at *
    generalize P * r = R at *
    generalize P * o = Oo at *
    generalize P * c = Cc at *
    generalize P * (a * b) = AB at *
    omega

theorem TimesIn.top {M N : List Nat} {i a : Nat} {O : List Nat} {c : Nat} (h : TimesIn M N i N.length a O c) (hi : i < M.length) (ha : a = M[i]) (hM : Small M) (hN : Small N) :
    O[i + N.length]'(by have := h.1; omega) + c < 1000000000 := by
  obtain ⟨hl, hs, hc, he⟩ := h
  have hik : i + N.length < O.length := by omega
  rw [List.take_length] at he
  have e1 := lv_take_succ M i hi
  have e2 : lv (M.take (i + 1)) * lv N = lv (M.take i) * lv N + 1000000000 ^ i * (a * lv N) := by rw [e1, ha, Nat.add_mul, Nat.mul_assoc]
  have l1 := lv_lt (M.take (i + 1)) (hM.take _)
  rw [List.length_take, Nat.min_eq_left (by omega)] at l1
  have l2 := lv_lt N hN
  have l3 : lv (M.take (i + 1)) * lv N < 1000000000 ^ (i + 1) * 1000000000 ^ N.length := Nat.mul_lt_mul'' l1 l2
  have p1 : (1000000000 : Nat) ^ (i + 1) * 1000000000 ^ N.length = 1000000000 ^ (i + N.length) * 1000000000 := by rw [Nat.pow_succ, Nat.pow_add, Nat.mul_right_comm]
  -- the limb at that place is part of the value
  have e3 := lv_set O (i + N.length) 0 hik
  have l4 : 1000000000 ^ (i + N.length) * O[i + N.length] ≤ lv O := by omega
  rw [p1, e2, ← he] at l3
  have l5 : 1000000000 ^ (i + N.length) * (O[i + N.length] + c) < 1000000000 ^ (i + N.length) * 1000000000 := by
    rw [Nat.mul_add]; omega
  exact Nat.lt_of_mul_lt_mul_left l5

theorem TimesIn.done {M N : List Nat} {i a : Nat} {O : List Nat} {c : Nat} (h : TimesIn M N i N.length a O c) (hi : i < M.length) (ha : a = M[i]) (hM : Small M) (hN : Small N) :
    TimesOut M N (i + 1) (O.set (i + N.length) (O[i + N.length]'(by have := h.1; omega) + c)) := by
  have ht := h.top hi ha hM hN
  obtain ⟨hl, hs, hc, he⟩ := h
  have hik : i + N.length < O.length := by omega
  refine ⟨by simpa using hl, hs.set _ _ ht, ?_⟩
  have e3 := lv_set O (i + N.length) (O[i + N.length] + c) hik
  rw [List.take_length] at he
  rw [lv_take_succ M i hi, ← ha, Nat.add_mul, Nat.mul_assoc, ← he]
  rw [Nat.mul_add] at e3
  omega

theorem TimesOut.all {M N : List Nat} {O : List Nat} (h : TimesOut M N M.length O) : lv O = lv M * lv N := by
  have := h.2.2; rwa [List.take_length] at this

end Go.Proofs.YtiokjnfhopdleaaGreatDoor
