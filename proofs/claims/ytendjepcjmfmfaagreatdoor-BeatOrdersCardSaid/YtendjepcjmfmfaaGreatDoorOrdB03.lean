/- Part 3 of 47 of the proof of the law: contracts of the functions that it reaches, and plain facts. Conditions: those that each contract names. -/
import Derived.Lib.ItoaMem
namespace Go.Proofs.YtendjepcjmfmfaaGreatDoor
def lv : List Nat → Nat
 | [] => 0
 | x :: xs => x + 1000000000 * lv xs
def Small (L : List Nat) : Prop := ∀ x, x ∈ L → x < 1000000000
def limbs (n : Nat) : List Nat := if h : n = 0 then [] else n % 1000000000 :: limbs (n / 1000000000)
termination_by n
decreasing_by omega
theorem limbs_zero : limbs 0 = [] := by rw [limbs, dif_pos rfl]
theorem limbs_pos {n : Nat} (h : n ≠ 0) : limbs n = n % 1000000000 :: limbs (n / 1000000000) := by rw [limbs, dif_neg h]
theorem limbs_eq_nil {n : Nat} : limbs n = [] ↔ n = 0 := by
 constructor
 ·intro h
  by_cases h0 : n = 0
  ·exact h0
  ·rw [limbs_pos h0] at h; cases h
 ·rintro rfl; exact limbs_zero
theorem limbs_len_pos {n : Nat} (h : n ≠ 0) : 0 < (limbs n).length := by rw [limbs_pos h]; simp
theorem lv_limbs (n : Nat) : lv (limbs n) = n := by
 induction n using Nat.strongRecOn with
 | _ n ih =>
  by_cases h : n = 0
  ·subst h; rw [limbs_zero]; rfl
  ·rw [limbs_pos h, lv, ih (n / 1000000000) (by omega)]; omega
theorem limbs_small (n : Nat) : Small (limbs n) := by
 induction n using Nat.strongRecOn with
 | _ n ih =>
  by_cases h : n = 0
  ·subst h; rw [limbs_zero]; intro x hx; cases hx
  ·rw [limbs_pos h]
   intro x hx
   rcases List.mem_cons.1 hx with rfl | hx
   ·omega
   ·exact ih (n / 1000000000) (by omega) x hx
theorem Small.tail {x : Nat} {L : List Nat} (h : Small (x :: L)) : Small L := fun y hy => h y (List.mem_cons_of_mem _ hy)
theorem Small.head {x : Nat} {L : List Nat} (h : Small (x :: L)) : x < 1000000000 := h x (List.mem_cons_self ..)
theorem Small.nil : Small [] := fun _ h => by cases h
theorem Small.take {L : List Nat} (h : Small L) (k : Nat) : Small (L.take k) := fun x hx => h x (List.mem_of_mem_take hx)
theorem Small.append {L M : List Nat} (h : Small L) (k : Small M) : Small (L ++ M) := fun x hx => (List.mem_append.1 hx).elim (h x) (k x)
theorem Small.one {x : Nat} (h : x < 1000000000) : Small [x] := fun y hy => by rw [List.mem_singleton.1 hy]; exact h
theorem Small.get {L : List Nat} (h : Small L) (i : Nat) (hi : i < L.length) : L[i] < 1000000000 := h _ (List.getElem_mem hi)
theorem Small.set {L : List Nat} (h : Small L) (i x : Nat) (hx : x < 1000000000) : Small (L.set i x) := fun y hy => by
 rcases List.mem_or_eq_of_mem_set hy with hy | rfl
 ·exact h y hy
 ·exact hx
theorem Small.zeros (n : Nat) : Small (List.replicate n 0) := fun x hx => by rw [(List.mem_replicate.1 hx).2]; omega
theorem lv_append (L M : List Nat) : lv (L ++ M) = lv L + 1000000000 ^ L.length * lv M := by
 induction L with
 | nil => simp [lv]
 | cons x L ih =>
  simp only [List.cons_append, lv, ih, List.length_cons, Nat.pow_succ, Nat.mul_add]
  rw [Nat.mul_comm (1000000000 ^ L.length) 1000000000, Nat.mul_assoc, Nat.add_assoc]
theorem lv_one (x : Nat) : lv [x] = x := by simp [lv]
theorem lv_zeros (n : Nat) : lv (List.replicate n 0) = 0 := by
 induction n with
 | zero => rfl
 | succ n ih => simp [List.replicate_succ, lv, ih]
theorem lv_take_succ (L : List Nat) (k : Nat) (h : k < L.length) : lv (L.take (k + 1)) = lv (L.take k) + 1000000000 ^ k * L[k] := by
 rw [List.take_succ_eq_append_getElem h, lv_append, lv_one, List.length_take, Nat.min_eq_left (Nat.le_of_lt h)]
theorem lv_set (L : List Nat) (i x : Nat) (h : i < L.length) : lv (L.set i x) + 1000000000 ^ i * L[i] = lv L + 1000000000 ^ i * x := by
 induction L generalizing i with
 | nil => simp at h
 | cons y L ih =>
  cases i with
  | zero => simp [lv]; omega
  | succ i =>
   have hi : i < L.length := by simpa using h
   have := ih i hi
   simp only [List.set_cons_succ, lv, List.getElem_cons_succ, Nat.pow_succ]
   have e1 : 1000000000 ^ i * 1000000000 * L[i] = 1000000000 * (1000000000 ^ i * L[i]) := by rw [Nat.mul_comm (1000000000 ^ i), Nat.mul_assoc]
   have e2 : 1000000000 ^ i * 1000000000 * x = 1000000000 * (1000000000 ^ i * x) := by rw [Nat.mul_comm (1000000000 ^ i), Nat.mul_assoc]
   rw [e1, e2]; omega
theorem lv_lt (L : List Nat) (h : Small L) : lv L < 1000000000 ^ L.length := by
 induction L with
 | nil => simp [lv]
 | cons x L ih =>
  have := ih h.tail
  have hx := h.head
  simp only [lv, List.length_cons, Nat.pow_succ]
  omega
theorem limbs_lv (L : List Nat) (h : Small L) (hz : ∀ hl : 0 < L.length, L[L.length - 1] ≠ 0) : limbs (lv L) = L := by
 induction L with
 | nil => exact limbs_zero
 | cons x L ih =>
  have hx := h.head
  have hne : lv (x :: L) ≠ 0 := by
   intro h0
   simp only [lv] at h0
   have hx0 : x = 0 := by omega
   have hl0 : lv L = 0 := by omega
   have e := ih h.tail (fun hl => by have := hz (by simp); simp only [List.length_cons, Nat.add_sub_cancel] at this; rw [List.getElem_cons] at this; rw [dif_neg (by omega)] at this; exact this)
   rw [hl0, limbs_zero] at e
   subst e
   exact hz (by simp) (by simpa using hx0)
  rw [limbs_pos hne]
  have e1 : lv (x :: L) % 1000000000 = x := by simp only [lv]; omega
  have e2 : lv (x :: L) / 1000000000 = lv L := by simp only [lv]; omega
  rw [e1, e2, ih h.tail (fun hl => by have := hz (by simp); simp only [List.length_cons, Nat.add_sub_cancel] at this; rw [List.getElem_cons] at this; rw [dif_neg (by omega)] at this; exact this)]
theorem limbs_last {n : Nat} (h : n ≠ 0) : (limbs n)[(limbs n).length - 1]'(by have := limbs_len_pos h; omega) ≠ 0 := by
 induction n using Nat.strongRecOn with
 | _ n ih =>
  by_cases h2 : n / 1000000000 = 0
  ·have e : limbs n = [n % 1000000000] := by rw [limbs_pos h, h2, limbs_zero]
   have e3 : ∀ (M : List Nat) (k : Nat) (hk : k < M.length), M = [n % 1000000000] → M[k] = n % 1000000000 := by
    intro M k hk hM; subst hM; simp
   rw [e3 _ _ _ e]
   omega
  ·have := ih (n / 1000000000) (by omega) h2
   have hp := limbs_len_pos h2
   have e : limbs n = n % 1000000000 :: limbs (n / 1000000000) := limbs_pos h
   simp only [e, List.length_cons, Nat.add_sub_cancel]
   rw [List.getElem_cons, dif_neg (by omega)]
   exact this
theorem limbs_take (L : List Nat) (h : Small L) (k : Nat) (hk : k ≤ L.length) (he : lv (L.take k) = lv L) (hz : ∀ hl : 0 < k, L[k - 1]'(by omega) ≠ 0) :
  limbs (lv L) = L.take k := by
 rw [← he]
 refine limbs_lv _ (h.take k) fun hl => ?_
 rw [List.length_take, Nat.min_eq_left hk] at hl
 have := hz hl
 simp only [List.length_take, Nat.min_eq_left hk, List.getElem_take]
 exact this
theorem limbs_len_of (L : List Nat) (h : Small L) (k : Nat) (hk : k ≤ L.length) (he : lv (L.take k) = lv L) (hz : ∀ hl : 0 < k, L[k - 1]'(by omega) ≠ 0) :
  (limbs (lv L)).length = k := by rw [limbs_take L h k hk he hz, List.length_take, Nat.min_eq_left hk]
theorem limbs_len_le (n k : Nat) (h : n < 1000000000 ^ k) : (limbs n).length ≤ k := by
 induction k generalizing n with
 | zero => have : n = 0 := by simp at h; exact h
           subst this; simp [limbs_zero]
 | succ k ih =>
  by_cases h0 : n = 0
  ·subst h0; simp [limbs_zero]
  ·rw [limbs_pos h0, List.length_cons]
   have := ih (n / 1000000000) (by rw [Nat.pow_succ] at h; omega)
   omega
theorem limbs_len_lt (n : Nat) : n < 1000000000 ^ (limbs n).length := by
 have := lv_lt _ (limbs_small n)
 rwa [lv_limbs] at this
theorem limbs_len_mono {m n : Nat} (h : m ≤ n) : (limbs m).length ≤ (limbs n).length := limbs_len_le _ _ (Nat.lt_of_le_of_lt h (limbs_len_lt n))
theorem limbs_len_mul (m n : Nat) : (limbs (m * n)).length ≤ (limbs m).length + (limbs n).length := by
 refine limbs_len_le _ _ ?_
 rw [Nat.pow_add]
 exact Nat.mul_lt_mul'' (limbs_len_lt m) (limbs_len_lt n)
theorem limbs_eq_take (L : List Nat) (h : Small L) : limbs (lv L) = L.take (limbs (lv L)).length := by
 -- the longest beginning without a zero at its end
 have key : ∀ k, k ≤ L.length → lv (L.take k) = lv L → limbs (lv L) = L.take (limbs (lv L)).length := by
  intro k
  induction k with
  | zero => intro _ he; rw [← he]; simp [lv, limbs_zero]
  | succ k ih =>
   intro hk he
   by_cases hz : L[k] = 0
   ·exact ih (by omega) (by rw [← he, lv_take_succ L k (by omega), hz]; simp)
   ·have e := limbs_take L h (k + 1) hk he (fun _ => by simpa using hz)
    rw [e, List.length_take, Nat.min_eq_left hk]
 exact key L.length (Nat.le_refl _) (by rw [List.take_length])
theorem limbs_len_le_len (L : List Nat) (h : Small L) : (limbs (lv L)).length ≤ L.length := by
 have := congrArg List.length (limbs_eq_take L h)
 rw [List.length_take] at this
 omega
end Go.Proofs.YtendjepcjmfmfaaGreatDoor
namespace Go.Proofs.YtendjepcjmfmfaaGreatDoor
def TimesIn (M N : List Nat) (i k a : Nat) (O : List Nat) (c : Nat) : Prop :=
 O.length = M.length + N.length + 1 ∧ Small O ∧ c < 1000000000 ∧
  lv O + 1000000000 ^ (i + k) * c = lv (M.take i) * lv N + 1000000000 ^ i * (a * lv (N.take k))
def TimesOut (M N : List Nat) (i : Nat) (O : List Nat) : Prop :=
 O.length = M.length + N.length + 1 ∧ Small O ∧ lv O = lv (M.take i) * lv N
theorem TimesOut.start (M N : List Nat) : TimesOut M N 0 (List.replicate (M.length + N.length + 1) 0) :=
 ⟨by simp, Small.zeros _, by simp [lv_zeros, lv]⟩
theorem TimesOut.toIn {M N : List Nat} {i : Nat} {O : List Nat} (h : TimesOut M N i O) (a : Nat) : TimesIn M N i 0 a O 0 :=
 ⟨h.1, h.2.1, by omega, by rw [h.2.2]; simp [lv]⟩
theorem TimesIn.step {M N : List Nat} {i k a : Nat} {O : List Nat} {c : Nat} (h : TimesIn M N i k a O c) (hi : i < M.length) (hk : k < N.length)
  (ha : a < 1000000000) (hN : Small N) (x : Nat) (hx : x = O[i + k]'(by have := h.1; omega) + a * N[k] + c) :
  TimesIn M N i (k + 1) a (O.set (i + k) (x % 1000000000)) (x / 1000000000) := by
 obtain ⟨hl, hs, hc, he⟩ := h
 have hik : i + k < O.length := by omega
 refine ⟨by simpa using hl, hs.set _ _ (by omega), ?_, ?_⟩
 ·have h1 := hs.get (i + k) hik
  have h2 := hN.get k hk
  have h3 : a * N[k] ≤ 999999999 * 999999999 := Nat.mul_le_mul (by omega) (by omega)
  omega
 ·have e1 := lv_set O (i + k) (x % 1000000000) hik
  have e2 := lv_take_succ N k hk
  rw [e2, show i + (k + 1) = (i + k) + 1 from rfl, Nat.pow_succ]
  generalize O[i + k] = o at *
  generalize N[k] = b at *
  have e3 : x = 1000000000 * (x / 1000000000) + x % 1000000000 := by omega
  generalize x / 1000000000 = q at *
  generalize x % 1000000000 = r at *
  generalize lv (O.set (i + k) r) = V' at *
  have hp : (1000000000 : Nat) ^ (i + k) = 1000000000 ^ i * 1000000000 ^ k := Nat.pow_add ..
  generalize (1000000000 : Nat) ^ (i + k) = P at *
  have t1 : P * x = P * o + P * (a * b) + P * c := by rw [hx, Nat.mul_add, Nat.mul_add]
  have t2 : P * x = P * 1000000000 * q + P * r := by rw [e3, Nat.mul_add, Nat.mul_assoc]
  have t3 : 1000000000 ^ i * (a * (lv (N.take k) + 1000000000 ^ k * b)) = 1000000000 ^ i * (a * lv (N.take k)) + P * (a * b) := by
   rw [Nat.mul_add, Nat.mul_add, hp, Nat.mul_left_comm a, Nat.mul_assoc]
  rw [t3]
  generalize P * 1000000000 * q = U at *
  generalize P * r = R at *
  generalize P * o = Oo at *
  generalize P * c = Cc at *
  generalize P * (a * b) = AB at *
  omega
theorem TimesIn.top {M N : List Nat} {i a : Nat} {O : List Nat} {c : Nat} (h : TimesIn M N i N.length a O c) (hi : i < M.length) (ha : a = M[i]) (hM : Small M) (hN : Small N) :
  O[i + N.length]'(by have := h.1; omega) + c < 1000000000 := by
 obtain ⟨hl, hs, hc, he⟩ := h
 have hik : i + N.length < O.length := by omega
 rw [List.take_length] at he
 have e1 := lv_take_succ M i hi
 have e2 : lv (M.take (i + 1)) * lv N = lv (M.take i) * lv N + 1000000000 ^ i * (a * lv N) := by rw [e1, ha, Nat.add_mul, Nat.mul_assoc]
 have l1 := lv_lt (M.take (i + 1)) (hM.take _)
 rw [List.length_take, Nat.min_eq_left (by omega)] at l1
 have l2 := lv_lt N hN
 have l3 : lv (M.take (i + 1)) * lv N < 1000000000 ^ (i + 1) * 1000000000 ^ N.length := Nat.mul_lt_mul'' l1 l2
 have p1 : (1000000000 : Nat) ^ (i + 1) * 1000000000 ^ N.length = 1000000000 ^ (i + N.length) * 1000000000 := by rw [Nat.pow_succ, Nat.pow_add, Nat.mul_right_comm]
 -- the limb at that place is part of the value
 have e3 := lv_set O (i + N.length) 0 hik
 have l4 : 1000000000 ^ (i + N.length) * O[i + N.length] ≤ lv O := by omega
 rw [p1, e2, ← he] at l3
 have l5 : 1000000000 ^ (i + N.length) * (O[i + N.length] + c) < 1000000000 ^ (i + N.length) * 1000000000 := by
  rw [Nat.mul_add]; omega
 exact Nat.lt_of_mul_lt_mul_left l5
theorem TimesIn.done {M N : List Nat} {i a : Nat} {O : List Nat} {c : Nat} (h : TimesIn M N i N.length a O c) (hi : i < M.length) (ha : a = M[i]) (hM : Small M) (hN : Small N) :
  TimesOut M N (i + 1) (O.set (i + N.length) (O[i + N.length]'(by have := h.1; omega) + c)) := by
 have ht := h.top hi ha hM hN
 obtain ⟨hl, hs, hc, he⟩ := h
 have hik : i + N.length < O.length := by omega
 refine ⟨by simpa using hl, hs.set _ _ ht, ?_⟩
 have e3 := lv_set O (i + N.length) (O[i + N.length] + c) hik
 rw [List.take_length] at he
 rw [lv_take_succ M i hi, ← ha, Nat.add_mul, Nat.mul_assoc, ← he]
 rw [Nat.mul_add] at e3
 omega
theorem TimesOut.all {M N : List Nat} {O : List Nat} (h : TimesOut M N M.length O) : lv O = lv M * lv N := by
 have := h.2.2; rwa [List.take_length] at this
end Go.Proofs.YtendjepcjmfmfaaGreatDoor
namespace Go.Proofs.YtendjepcjmfmfaaGreatDoor
def IsShift (num den : Nat) (s : Int) : Prop := ∀ a b : Nat, (a : Int) - b = s → den ^ 24 * 4 ^ a < 2 * (num ^ 24 * 4 ^ b) ∧ num ^ 24 * 4 ^ b < 2 * (den ^ 24 * 4 ^ a)
def ShiftInv (N D num den : Nat) (n : Int) : Prop := ∀ t, IsShift num den t → IsShift N D (t + n)
end Go.Proofs.YtendjepcjmfmfaaGreatDoor
namespace Go.Proofs.YtendjepcjmfmfaaGreatDoor
def dval (l : List UInt8) : Nat := l.foldl (fun a c => 10 * a + (c.toNat - 48)) 0
def Digs (l : List UInt8) : Prop := ∀ c, c ∈ l → 48 ≤ c.toNat ∧ c.toNat ≤ 57
theorem foldl_dval (l : List UInt8) (a : Nat) : l.foldl (fun a c => 10 * a + (c.toNat - 48)) a = a * 10 ^ l.length + dval l := by
 induction l generalizing a with
 | nil => simp [dval]
 | cons c l ih =>
  have h0 := ih (10 * 0 + (c.toNat - 48))
  have h1 := ih (10 * a + (c.toNat - 48))
  unfold dval at *
  simp only [List.foldl_cons, List.length_cons, Nat.pow_succ]
  rw [h1, h0, Nat.add_mul, Nat.add_mul, Nat.mul_zero, Nat.zero_mul, Nat.zero_add]
  rw [Nat.mul_comm 10 a, Nat.mul_assoc, Nat.mul_comm 10 (10 ^ l.length), Nat.add_assoc]
theorem dval_append (a b : List UInt8) : dval (a ++ b) = dval a * 10 ^ b.length + dval b := by
 unfold dval; rw [List.foldl_append, foldl_dval]; rfl
theorem dval_snoc (a : List UInt8) (c : UInt8) : dval (a ++ [c]) = 10 * dval a + (c.toNat - 48) := by
 unfold dval; rw [List.foldl_append]; rfl
theorem dval_nil : dval [] = 0 := rfl
theorem Digs.take {l : List UInt8} (h : Digs l) (k : Nat) : Digs (l.take k) := fun c hc => h c (List.mem_of_mem_take hc)
theorem Digs.drop {l : List UInt8} (h : Digs l) (k : Nat) : Digs (l.drop k) := fun c hc => h c (List.mem_of_mem_drop hc)
theorem Digs.append {a b : List UInt8} (h : Digs a) (k : Digs b) : Digs (a ++ b) := fun c hc => (List.mem_append.1 hc).elim (h c) (k c)
theorem Digs.get {l : List UInt8} (h : Digs l) (i : Nat) (hi : i < l.length) : 48 ≤ l[i].toNat ∧ l[i].toNat ≤ 57 := h _ (List.getElem_mem hi)
theorem dval_lt (l : List UInt8) (h : Digs l) : dval l < 10 ^ l.length := by
 induction l with
 | nil => simp [dval]
 | cons c l ih =>
  have h1 := ih (fun x hx => h x (List.mem_cons_of_mem _ hx))
  have h2 := h c (List.mem_cons_self ..)
  have e : dval (c :: l) = (c.toNat - 48) * 10 ^ l.length + dval l := by
   have := dval_append [c] l
   simpa [dval] using this
  rw [e, List.length_cons, Nat.pow_succ]
  have h3 : (c.toNat - 48) * 10 ^ l.length ≤ 9 * 10 ^ l.length := Nat.mul_le_mul_right _ (by omega)
  omega
theorem dval_take_succ (l : List UInt8) (k : Nat) (h : k < l.length) : dval (l.take (k + 1)) = 10 * dval (l.take k) + (l[k].toNat - 48) := by
 rw [List.take_succ_eq_append_getElem h, dval_snoc]
theorem pow9 (j : Nat) : (10 : Nat) ^ (9 * j) = 1000000000 ^ j := by rw [Nat.pow_mul]
theorem chunk_step (ds : List UInt8) (j : Nat) (hj : 9 * j < ds.length) (L : List Nat) (hl : L.length = j) (he : lv L = dval (ds.drop (ds.length - 9 * j))) :
  lv (L ++ [dval ((ds.drop (ds.length - 9 * (j + 1))).take (ds.length - 9 * j - (ds.length - 9 * (j + 1))))]) = dval (ds.drop (ds.length - 9 * (j + 1))) := by
 rw [lv_append, lv_one, hl, he]
 have e : ds.drop (ds.length - 9 * (j + 1)) = (ds.drop (ds.length - 9 * (j + 1))).take (ds.length - 9 * j - (ds.length - 9 * (j + 1))) ++ ds.drop (ds.length - 9 * j) := by
  have := List.take_append_drop (ds.length - 9 * j - (ds.length - 9 * (j + 1))) (ds.drop (ds.length - 9 * (j + 1)))
  rw [List.drop_drop] at this
  rw [show ds.length - 9 * (j + 1) + (ds.length - 9 * j - (ds.length - 9 * (j + 1))) = ds.length - 9 * j by omega] at this
  exact this.symm
 generalize hc : (ds.drop (ds.length - 9 * (j + 1))).take (ds.length - 9 * j - (ds.length - 9 * (j + 1))) = ch at *
 rw [e, dval_append, List.length_drop, show ds.length - (ds.length - 9 * j) = 9 * j by omega, pow9, Nat.mul_comm (dval ch), Nat.add_comm]
theorem chunk_small (ds : List UInt8) (h : Digs ds) (j : Nat) :
  dval ((ds.drop (ds.length - 9 * (j + 1))).take (ds.length - 9 * j - (ds.length - 9 * (j + 1)))) < 1000000000 := by
 have h1 := dval_lt _ ((h.drop (ds.length - 9 * (j + 1))).take (ds.length - 9 * j - (ds.length - 9 * (j + 1))))
 refine Nat.lt_of_lt_of_le h1 ?_
 have : (10 : Nat) ^ ((ds.drop (ds.length - 9 * (j + 1))).take (ds.length - 9 * j - (ds.length - 9 * (j + 1)))).length ≤ 10 ^ 9 :=
  Nat.pow_le_pow_right (by decide) (by rw [List.length_take]; omega)
 exact this
theorem u8_digit (d : Nat) (h : d < 10) : (UInt8.ofNat (48 + d)).toNat = 48 + d := by
 rw [UInt8.toNat_ofNat']; omega
theorem digs_dec (u : Nat) : Digs (Lib.decDigits u) := by
 induction u using Nat.strongRecOn with
 | _ u ih =>
  rw [Lib.decDigits]
  split
  ·rename_i h
   intro c hc
   rw [List.mem_singleton.1 hc, u8_digit u h]; omega
  ·rename_i h
   refine (ih (u / 10) (by omega)).append fun c hc => ?_
   rw [List.mem_singleton.1 hc, u8_digit _ (by omega)]; omega
theorem dval_dec (u : Nat) : dval (Lib.decDigits u) = u := by
 induction u using Nat.strongRecOn with
 | _ u ih =>
  rw [Lib.decDigits]
  split
  ·rename_i h
   have := dval_snoc [] (UInt8.ofNat (48 + u))
   rw [List.nil_append] at this
   rw [this, u8_digit u h, dval_nil]; omega
  ·rename_i h
   rw [dval_snoc, ih (u / 10) (by omega), u8_digit _ (by omega)]; omega
theorem dec_ne_nil (u : Nat) : Lib.decDigits u ≠ [] := by
 intro h
 have := congrArg List.length h
 rw [Lib.decDigits_length] at this
 have := Lib.nDigits_pos u
 simp at *
 omega
def padk : Nat → Nat → List UInt8
 | 0, _ => []
 | k + 1, u => padk k (u / 10) ++ [UInt8.ofNat (48 + u % 10)]
theorem dec_join (m : Nat) (hm : m ≠ 0) (k x : Nat) (hx : x < 10 ^ k) : Lib.decDigits (m * 10 ^ k + x) = Lib.decDigits m ++ padk k x := by
 induction k generalizing x with
 | zero => have : x = 0 := by simpa using hx
           subst this; simp [padk]
 | succ k ih =>
  have hp : 0 < 10 ^ k := Nat.pow_pos (by decide)
  have e1 : (m * 10 ^ (k + 1) + x) / 10 = m * 10 ^ k + x / 10 := by rw [Nat.pow_succ, ← Nat.mul_assoc]; omega
  have e2 : (m * 10 ^ (k + 1) + x) % 10 = x % 10 := by rw [Nat.pow_succ, ← Nat.mul_assoc]; omega
  have hge : ¬ m * 10 ^ (k + 1) + x < 10 := by
   have : 10 ^ k * 10 ≤ m * (10 ^ k * 10) := Nat.le_mul_of_pos_left _ (by omega)
   rw [Nat.pow_succ]; omega
  rw [Lib.decDigits, dif_neg hge, e1, e2, ih (x / 10) (by rw [Nat.pow_succ] at hx; omega), padk, List.append_assoc]
theorem padk_zeros (k : Nat) : padk k 0 = List.replicate k 48 := by
 induction k with
 | zero => rfl
 | succ k ih =>
  rw [padk, Nat.zero_div, ih, List.replicate_succ']
  rfl
theorem padk_eq (k u : Nat) (hk : Lib.nDigits u ≤ k) : padk k u = List.replicate (k - Lib.nDigits u) 48 ++ Lib.decDigits u := by
 induction u using Nat.strongRecOn generalizing k with
 | _ u ih =>
  have hp := Lib.nDigits_pos u
  obtain ⟨k, rfl⟩ : ∃ j, k = j + 1 := ⟨k - 1, by omega⟩
  by_cases h : u < 10
  ·rw [padk, Nat.div_eq_of_lt h, padk_zeros, Lib.nDigits_small h, Lib.decDigits_one h, Nat.mod_eq_of_lt h, Nat.add_sub_cancel]
  ·have e := Lib.nDigits_big h
   rw [padk, ih (u / 10) (by omega) k (by omega), e, show Lib.decDigits u = Lib.decDigits (u / 10) ++ [UInt8.ofNat (48 + u % 10)] by rw [Lib.decDigits, dif_neg h], ← List.append_assoc]
   congr 3
   omega
theorem nDigits_le (u k : Nat) (hk : 1 ≤ k) (h : u < 10 ^ k) : Lib.nDigits u ≤ k := by
 induction k generalizing u with
 | zero => omega
 | succ k ih =>
  by_cases hs : u < 10
  ·rw [Lib.nDigits_small hs]; omega
  ·rw [Lib.nDigits_big hs]
   rcases Nat.eq_zero_or_pos k with rfl | hk'
   ·simp at h; omega
   ·have := ih (u / 10) hk' (by rw [Nat.pow_succ] at h; omega)
    omega
def txt (L : List Nat) (i : Nat) : List UInt8 := Lib.decDigits (lv (L.drop i))
theorem txt_step (L : List Nat) (hs : Small L) (i : Nat) (hi : i < L.length) (hne : lv (L.drop (i + 1)) ≠ 0) :
  txt L i = txt L (i + 1) ++ (List.replicate (9 - Lib.nDigits L[i]) 48 ++ Lib.decDigits L[i]) := by
 have hx := hs.get i hi
 unfold txt
 rw [List.drop_eq_getElem_cons hi, lv, Nat.add_comm, Nat.mul_comm, show (1000000000 : Nat) = 10 ^ 9 from rfl, dec_join _ hne 9 _ hx, padk_eq 9 _ (nDigits_le _ 9 (by decide) hx)]
theorem txt_top (L : List Nat) (i : Nat) (hi : i + 1 = L.length) : txt L i = Lib.decDigits (L[i]'(by omega)) := by
 unfold txt
 rw [List.drop_eq_getElem_cons (by omega), List.drop_of_length_le (by omega), lv_one]
theorem limbs_drop_ne {n i : Nat} (hi : i < (limbs n).length) : lv ((limbs n).drop i) ≠ 0 := by
 intro h0
 have hn : n ≠ 0 := by rintro rfl; rw [limbs_zero] at hi; simp at hi
 have e := lv_append ((limbs n).take i) ((limbs n).drop i)
 rw [List.take_append_drop, lv_limbs, h0, Nat.mul_zero, Nat.add_zero] at e
 have h1 := lv_lt _ ((limbs_small n).take i)
 rw [← e] at h1
 have h2 := limbs_len_le n _ h1
 rw [List.length_take] at h2
 omega
end Go.Proofs.YtendjepcjmfmfaaGreatDoor
namespace Go.Proofs.YtendjepcjmfmfaaGreatDoor
theorem Small.getD {L : List Nat} (h : Small L) (i : Nat) : L[i]?.getD 0 < 1000000000 := by
 by_cases hi : i < L.length
 ·rw [List.getElem?_eq_getElem hi]; exact h.get i hi
 ·rw [List.getElem?_eq_none (by omega)]; simp
theorem lv_take_any (L : List Nat) (i : Nat) : lv (L.take (i + 1)) = lv (L.take i) + 1000000000 ^ i * (L[i]?.getD 0) := by
 by_cases h : i < L.length
 ·rw [lv_take_succ L i h, List.getElem?_eq_getElem h]; rfl
 ·rw [List.take_of_length_le (by omega), List.take_of_length_le (by omega), List.getElem?_eq_none (by omega)]; simp
theorem lv_drop {L : List Nat} (i : Nat) (hi : i < L.length) : lv (L.drop i) = L[i] + 1000000000 * lv (L.drop (i + 1)) := by
 rw [List.drop_eq_getElem_cons hi]; rfl
def PlusInv (M N O : List Nat) (i c : Nat) : Prop :=
 O.length = i ∧ Small O ∧ lv O + 1000000000 ^ i * c = lv (M.take i) + lv (N.take i) ∧ c ≤ 1
theorem PlusInv.start (M N : List Nat) : PlusInv M N [] 0 0 := ⟨rfl, Small.nil, by simp [lv], by omega⟩
theorem PlusInv.step {M N O : List Nat} {i c x y t : Nat} (h : PlusInv M N O i c) (hM : Small M) (hN : Small N) (hx : x = M[i]?.getD 0) (hy : y = N[i]?.getD 0) (ht : t = x + c + y) :
  PlusInv M N (O ++ [t % 1000000000]) (i + 1) (t / 1000000000) := by
 obtain ⟨hl, hs, he, hc⟩ := h
 have hx9 : x < 1000000000 := by rw [hx]; exact hM.getD i
 have hy9 : y < 1000000000 := by rw [hy]; exact hN.getD i
 refine ⟨by rw [List.length_append, hl]; rfl, hs.append (Small.one (by omega)), ?_, by omega⟩
 rw [lv_append, lv_one, hl, lv_take_any M i, lv_take_any N i, ← hx, ← hy, Nat.pow_succ]
 have e1 : 1000000000 ^ i * (t % 1000000000) + 1000000000 ^ i * 1000000000 * (t / 1000000000) = 1000000000 ^ i * t := by
  rw [Nat.mul_assoc, ← Nat.mul_add, Nat.mod_add_div]
 have e2 : 1000000000 ^ i * t = 1000000000 ^ i * x + 1000000000 ^ i * c + 1000000000 ^ i * y := by rw [ht, Nat.mul_add, Nat.mul_add]
 omega
theorem PlusInv.done {M N O : List Nat} {i c : Nat} (h : PlusInv M N O i c) (h1 : M.length ≤ i) (h2 : N.length ≤ i) : lv (O ++ [c]) = lv M + lv N := by
 have := h.2.2.1
 rwa [List.take_of_length_le h1, List.take_of_length_le h2, ← lv_one c, ← h.1, ← lv_append] at this
def LessInv (M N O : List Nat) (i c : Nat) : Prop :=
 O.length = i ∧ Small O ∧ lv O + lv (N.take i) = lv (M.take i) + 1000000000 ^ i * c ∧ c ≤ 1
theorem LessInv.start (M N : List Nat) : LessInv M N [] 0 0 := ⟨rfl, Small.nil, by simp [lv], by omega⟩
theorem LessInv.step0 {M N O : List Nat} {i c x y : Nat} (h : LessInv M N O i c) (hM : Small M) (hx : x = M[i]?.getD 0) (hy : y = N[i]?.getD 0) (ht : c + y ≤ x) :
  LessInv M N (O ++ [x - (c + y)]) (i + 1) 0 := by
 obtain ⟨hl, hs, he, hc⟩ := h
 have hx9 : x < 1000000000 := by rw [hx]; exact hM.getD i
 refine ⟨by rw [List.length_append, hl]; rfl, hs.append (Small.one (by omega)), ?_, by omega⟩
 rw [lv_append, lv_one, hl, lv_take_any M i, lv_take_any N i, ← hx, ← hy]
 obtain ⟨d, rfl⟩ : ∃ d, x = c + y + d := ⟨x - (c + y), by omega⟩
 rw [Nat.add_sub_cancel_left, Nat.mul_add, Nat.mul_add]
 omega
theorem LessInv.step1 {M N O : List Nat} {i c x y : Nat} (h : LessInv M N O i c) (hN : Small N) (hx : x = M[i]?.getD 0) (hy : y = N[i]?.getD 0) (ht : x < c + y) :
  LessInv M N (O ++ [x + 1000000000 - (c + y)]) (i + 1) 1 := by
 obtain ⟨hl, hs, he, hc⟩ := h
 have hy9 : y < 1000000000 := by rw [hy]; exact hN.getD i
 refine ⟨by rw [List.length_append, hl]; rfl, hs.append (Small.one (by omega)), ?_, by omega⟩
 rw [lv_append, lv_one, hl, lv_take_any M i, lv_take_any N i, ← hx, ← hy, Nat.pow_succ]
 obtain ⟨d, hd⟩ : ∃ d, x + 1000000000 = c + y + d := ⟨x + 1000000000 - (c + y), by omega⟩
 have e : 1000000000 ^ i * x + 1000000000 ^ i * 1000000000 = 1000000000 ^ i * c + 1000000000 ^ i * y + 1000000000 ^ i * d := by
  rw [← Nat.mul_add, hd, Nat.mul_add, Nat.mul_add]
 rw [show x + 1000000000 - (c + y) = d by omega]
 omega
theorem LessInv.done {M N O : List Nat} {i c : Nat} (h : LessInv M N O i c) (h1 : M.length ≤ i) (h2 : N.length ≤ i) (hle : lv N ≤ lv M) : lv O = lv M - lv N := by
 obtain ⟨hl, hs, he, hc⟩ := h
 rw [List.take_of_length_le h1, List.take_of_length_le h2] at he
 have hlt := lv_lt O hs
 rw [hl] at hlt
 have : c = 0 ∨ c = 1 := by omega
 rcases this with rfl | rfl
 ·omega
 ·omega
def ByInv (M O : List Nat) (d j r : Nat) : Prop := O.length = M.length ∧ Small O ∧ lv (O.drop j) * d + r = lv (M.drop j) ∧ r < d
theorem ByInv.start (M : List Nat) (d : Nat) (hd : 0 < d) : ByInv M (List.replicate M.length 0) d M.length 0 :=
 ⟨by simp, Small.zeros _, by rw [List.drop_of_length_le (by simp), List.drop_length]; simp [lv], hd⟩
theorem ByInv.step {M O : List Nat} {d j r x : Nat} (h : ByInv M O d (j + 1) r) (hM : Small M) (hj : j < M.length) (hx : x = r * 1000000000 + M[j]) :
  ByInv M (O.set j (x / d)) d j (x % d) := by
 obtain ⟨hl, hs, he, hr⟩ := h
 have hm := hM.get j hj
 have hd : 0 < d := by omega
 have hxd : x < d * 1000000000 := by
  rw [hx]
  have h1 : (r + 1) * 1000000000 ≤ d * 1000000000 := Nat.mul_le_mul_right _ hr
  rw [Nat.add_mul] at h1
  omega
 have hq : x / d < 1000000000 := Nat.div_lt_of_lt_mul hxd
 refine ⟨by rw [List.length_set]; exact hl, hs.set j _ hq, ?_, Nat.mod_lt _ hd⟩
 rw [lv_drop j (by rw [List.length_set]; omega), List.getElem_set_self, List.drop_set_of_lt (by omega), lv_drop j hj, ← he]
 have e := Nat.div_add_mod x d
 have e2 : d * (x / d) = x / d * d := Nat.mul_comm _ _
 have e3 : (x / d + 1000000000 * lv (O.drop (j + 1))) * d = x / d * d + 1000000000 * (lv (O.drop (j + 1)) * d) := by rw [Nat.add_mul, Nat.mul_assoc]
 rw [e3]
 omega
theorem ByInv.done {M O : List Nat} {d r : Nat} (h : ByInv M O d 0 r) : lv O = lv M / d ∧ r = lv M % d := by
 obtain ⟨_, _, he, hr⟩ := h
 simp only [List.drop_zero] at he
 have hd : 0 < d := by omega
 rw [← he]
 constructor
 ·rw [Nat.add_comm, Nat.add_mul_div_right _ _ hd, Nat.div_eq_of_lt hr, Nat.zero_add]
 ·rw [Nat.add_comm, Nat.add_mul_mod_self_right, Nat.mod_eq_of_lt hr]
def GuessInv (W V top v1 g r : Nat) : Prop := g * v1 + r = top ∧ W / V ≤ g
section
variable {W V top u3 ul v1 v2 vl E g r : Nat}
theorem guess_lt {a b c : Nat} (h : a * c < b * c) : a < b := Nat.lt_of_mul_lt_mul_right h
theorem GuessInv.start (hW : W = (top * 1000000000 + u3) * E + ul) (hV : V = (v1 * 1000000000 + v2) * E + vl) (hu3 : u3 < 1000000000) (hul : ul < E) (hv1 : 0 < v1) :
  GuessInv W V top v1 (top / v1) (top % v1) := by
 refine ⟨Nat.div_add_mod' top v1, ?_⟩
 rw [Nat.le_div_iff_mul_le hv1]
 have hq : W / V * V ≤ W := Nat.div_mul_le_self W V
 have h1 : W / V * v1 * (1000000000 * E) ≤ W / V * V := by
  rw [Nat.mul_assoc]
  refine Nat.mul_le_mul_left _ ?_
  rw [hV, Nat.add_mul, ← Nat.mul_assoc]
  omega
 have h2 : W < (top + 1) * (1000000000 * E) := by
  have e : (top + 1) * (1000000000 * E) = (top * 1000000000) * E + 1000000000 * E := by rw [Nat.add_mul, Nat.one_mul, Nat.mul_assoc]
  have h3 : (u3 + 1) * E ≤ 1000000000 * E := Nat.mul_le_mul_right _ hu3
  rw [Nat.add_mul, Nat.one_mul] at h3
  rw [e, hW, Nat.add_mul]
  omega
 have := guess_lt (Nat.lt_of_le_of_lt (Nat.le_trans h1 hq) h2)
 omega
theorem GuessInv.great (h : GuessInv W V top v1 g r) (hq : W / V < 1000000000) (hg : 1000000000 ≤ g) : GuessInv W V top v1 (g - 1) (r + v1) := by
 obtain ⟨h1, h2⟩ := h
 refine ⟨?_, by omega⟩
 obtain ⟨k, rfl⟩ : ∃ k, g = k + 1 := ⟨g - 1, by omega⟩
 rw [Nat.add_sub_cancel]
 rw [Nat.add_mul, Nat.one_mul] at h1
 omega
theorem GuessInv.down (h : GuessInv W V top v1 g r) (hW : W = (top * 1000000000 + u3) * E + ul) (hV : V = (v1 * 1000000000 + v2) * E + vl) (hul : ul < E) (hc : r * 1000000000 + u3 < g * v2) :
  GuessInv W V top v1 (g - 1) (r + v1) := by
 obtain ⟨h1, h2⟩ := h
 have hg : g ≠ 0 := by rintro rfl; omega
 have hne : W / V ≠ g := by
  intro e
  have hq : W / V * V ≤ W := Nat.div_mul_le_self W V
  rw [e] at hq
  have h3 : g * (v1 * 1000000000 + v2) * E ≤ g * V := by
   rw [Nat.mul_assoc]; exact Nat.mul_le_mul_left _ (by rw [hV]; omega)
  have h4 : W < (top * 1000000000 + u3 + 1) * E := by rw [hW, Nat.add_mul _ 1, Nat.one_mul]; omega
  have h5 := guess_lt (Nat.lt_of_le_of_lt (Nat.le_trans h3 hq) h4)
  rw [← h1, Nat.mul_add, ← Nat.mul_assoc, Nat.add_mul] at h5
  omega
 refine ⟨?_, by omega⟩
 obtain ⟨k, rfl⟩ : ∃ k, g = k + 1 := ⟨g - 1, by omega⟩
 rw [Nat.add_sub_cancel]
 rw [Nat.add_mul, Nat.one_mul] at h1
 omega
theorem GuessInv.brk (h : GuessInv W V top v1 g r) (ht : top ≤ v1 * 1000000000 + 999999999) (hr : 1000000000 ≤ r) (hv2 : v2 < 1000000000) : g < 1000000000 ∧ g * v2 ≤ r * 1000000000 + u3 := by
 obtain ⟨h1, _⟩ := h
 have hg : g < 1000000000 := by
  refine guess_lt (c := v1) ?_
  rw [Nat.mul_comm 1000000000]; omega
 refine ⟨hg, ?_⟩
 have a1 : g * v2 ≤ 1000000000 * 1000000000 := Nat.mul_le_mul (Nat.le_of_lt hg) (Nat.le_of_lt hv2)
 have a2 : 1000000000 * 1000000000 ≤ r * 1000000000 := Nat.mul_le_mul_right _ hr
 omega
theorem GuessInv.done (h : GuessInv W V top v1 g r) (hW : W = (top * 1000000000 + u3) * E + ul) (hV : V = (v1 * 1000000000 + v2) * E + vl) (hvl : vl < E) (hv1 : 0 < v1) (hg : g < 1000000000)
  (hc : g * v2 ≤ r * 1000000000 + u3) : W / V ≤ g ∧ g ≤ W / V + 1 := by
 obtain ⟨h1, h2⟩ := h
 refine ⟨h2, ?_⟩
 have hE : 0 < E := by omega
 have h3 : g * V ≤ (top * 1000000000 + u3) * E + g * vl := by
  rw [hV, Nat.mul_add, ← Nat.mul_assoc]
  refine Nat.add_le_add_right (Nat.mul_le_mul_right _ ?_) _
  rw [Nat.mul_add, ← Nat.mul_assoc, ← h1, Nat.add_mul]
  omega
 have h4 : g * vl < V := by
  have a1 : g * vl ≤ g * E := Nat.mul_le_mul_left _ (Nat.le_of_lt hvl)
  have a2 : g * E < 1000000000 * E := Nat.mul_lt_mul_of_pos_right hg hE
  have a3 : 1000000000 * E ≤ v1 * 1000000000 * E := Nat.mul_le_mul_right _ (by omega)
  rw [hV, Nat.add_mul]
  omega
 have h5 : g * V < W + V := by rw [hW]; omega
 have hV0 : 0 < V := by omega
 have h6 : W < (W / V + 1) * V := by
  have := Nat.div_add_mod W V
  have := Nat.mod_lt W hV0
  rw [Nat.add_mul, Nat.one_mul, Nat.mul_comm]
  omega
 have h7 : g * V < (W / V + 1 + 1) * V := by rw [Nat.add_mul _ 1, Nat.one_mul]; omega
 have := guess_lt h7
 omega
end
theorem lv_split (L : List Nat) (i : Nat) (hi : i ≤ L.length) : lv L = lv (L.take i) + 1000000000 ^ i * lv (L.drop i) := by
 have := lv_append (L.take i) (L.drop i)
 rwa [List.take_append_drop, List.length_take, Nat.min_eq_left hi] at this
theorem lv_top3 (P : List Nat) (n : Nat) (h : P.length = n + 3) : lv P = ((P[n + 2] * 1000000000 + P[n + 1]) * 1000000000 + P[n]) * 1000000000 ^ n + lv (P.take n) := by
 rw [lv_split P n (by omega), lv_drop n (by omega), lv_drop (n + 1) (by omega), lv_drop (n + 2) (by omega), List.drop_of_length_le (by omega)]
 generalize P[n] = x
 generalize P[n + 1] = y
 generalize P[n + 2] = z
 simp only [lv]
 rw [show x + 1000000000 * (y + 1000000000 * (z + 1000000000 * 0)) = (z * 1000000000 + y) * 1000000000 + x by omega, Nat.add_comm, Nat.mul_comm (1000000000 ^ n)]
theorem lv_top2 (P : List Nat) (n : Nat) (h : P.length = n + 2) : lv P = (P[n + 1] * 1000000000 + P[n]) * 1000000000 ^ n + lv (P.take n) := by
 rw [lv_split P n (by omega), lv_drop n (by omega), lv_drop (n + 1) (by omega), List.drop_of_length_le (by omega)]
 generalize P[n] = x
 generalize P[n + 1] = y
 simp only [lv]
 rw [show x + 1000000000 * (y + 1000000000 * 0) = y * 1000000000 + x by omega, Nat.add_comm, Nat.mul_comm (1000000000 ^ n)]
def DivInv (U Q : List Nat) (V u0 n k j : Nat) : Prop :=
 U.length = n ∧ Small U ∧ Q.length = n - k ∧ Small Q ∧ lv U + 1000000000 ^ j * (lv (Q.drop j) * V) = u0 ∧ lv (U.drop j) < V
theorem DivInv.window {U Q : List Nat} {V u0 n k i : Nat} (h : DivInv U Q V u0 n k (i + 1)) (hV : V < 1000000000 ^ k) (hi : i + k < n) :
  lv (U.drop i) < V * 1000000000 ∧ lv (U.drop (i + k + 1)) = 0 ∧ lv ((U.drop i).take (k + 1)) = lv (U.drop i) := by
 obtain ⟨hl, hs, _, _, _, hlt⟩ := h
 have e1 := lv_drop (L := U) i (by omega)
 have hu := hs.get i (by omega)
 have h0 : lv (U.drop (i + k + 1)) = 0 := by
  have e2 := lv_split (U.drop (i + 1)) k (by rw [List.length_drop]; omega)
  rw [List.drop_drop, show i + 1 + k = i + k + 1 by omega] at e2
  rcases Nat.eq_zero_or_pos (lv (U.drop (i + k + 1))) with h | h
  ·exact h
  ·have := Nat.mul_le_mul_left (1000000000 ^ k) h
   omega
 refine ⟨by omega, h0, ?_⟩
 have e3 := lv_split (U.drop i) (k + 1) (by rw [List.length_drop]; omega)
 rw [List.drop_drop, show i + (k + 1) = i + k + 1 by omega, h0, Nat.mul_zero, Nat.add_zero] at e3
 exact e3.symm
def upd (U R : List Nat) (i k : Nat) : List Nat := U.take i ++ R ++ List.replicate (k + 1 - R.length) 0 ++ U.drop (i + k + 1)
theorem upd_len {U R : List Nat} {i k : Nat} (hi : i + k < U.length) (hR : R.length ≤ k) : (upd U R i k).length = U.length := by
 unfold upd
 simp only [List.length_append, List.length_take, List.length_replicate, List.length_drop]
 omega
theorem upd_drop {U R : List Nat} {i k : Nat} (hi : i + k < U.length) : (upd U R i k).drop i = R ++ List.replicate (k + 1 - R.length) 0 ++ U.drop (i + k + 1) := by
 unfold upd
 rw [List.append_assoc, List.append_assoc, List.drop_append_of_le_length (by rw [List.length_take]; omega), List.drop_of_length_le (by rw [List.length_take]; omega), List.nil_append, List.append_assoc]
theorem upd_take {U R : List Nat} {i k : Nat} (hi : i + k < U.length) : (upd U R i k).take i = U.take i := by
 unfold upd
 rw [List.append_assoc, List.append_assoc, List.take_append_of_le_length (by rw [List.length_take]; omega), List.take_of_length_le (by rw [List.length_take]; omega)]
theorem DivInv.step {U Q : List Nat} {V u0 n k i q : Nat} (h : DivInv U Q V u0 n k (i + 1)) (hV0 : 0 < V) (hV : V < 1000000000 ^ k) (hi : i + k < n) (hq : q = lv (U.drop i) / V) :
  DivInv (upd U (limbs (lv (U.drop i) % V)) i k) (Q.set i q) V u0 n k i ∧ q < 1000000000 ∧ (limbs (lv (U.drop i) % V)).length ≤ k := by
 obtain ⟨hw1, hw0, hw2⟩ := h.window hV hi
 obtain ⟨hl, hs, hql, hqs, he, hlt⟩ := h
 obtain ⟨W, hW⟩ : ∃ W, W = lv (U.drop i) := ⟨_, rfl⟩
 rw [← hW] at hq hw1 ⊢
 have hm : W % V < V := Nat.mod_lt _ hV0
 have hRl : (limbs (W % V)).length ≤ k := limbs_len_le _ _ (Nat.lt_trans hm hV)
 have hq9 : q < 1000000000 := by rw [hq]; exact Nat.div_lt_of_lt_mul (by rw [Nat.mul_comm] at hw1; rw [Nat.mul_comm]; exact hw1)
 have hud := upd_drop (R := limbs (W % V)) (show i + k < U.length by omega)
 have hlu : lv ((upd U (limbs (W % V)) i k).drop i) = W % V := by
  rw [hud, lv_append, lv_append, lv_zeros, hw0, lv_limbs]; simp
 refine ⟨⟨by rw [upd_len (by omega) hRl, hl], ?_, by rw [List.length_set]; exact hql, hqs.set i q hq9, ?_, by rw [hlu]; exact hm⟩, hq9, hRl⟩
 ·unfold upd
  exact (((hs.take i).append (limbs_small _)).append (Small.zeros _)).append (fun x hx => hs x (List.mem_of_mem_drop hx))
 ·rw [lv_split (upd U (limbs (W % V)) i k) i (by rw [upd_len (by omega) hRl]; omega), upd_take (by omega), hlu, ← he, lv_split U i (by omega), ← hW]
  rw [lv_drop (L := Q.set i q) i (by rw [List.length_set]; omega), List.getElem_set_self, List.drop_set_of_lt (by omega)]
  have e1 : V * q + W % V = W := by rw [hq]; exact Nat.div_add_mod W V
  have e2 : 1000000000 ^ i * W = 1000000000 ^ i * (q * V) + 1000000000 ^ i * (W % V) := by rw [← Nat.mul_add, Nat.mul_comm q, e1]
  have e3 : 1000000000 ^ i * ((q + 1000000000 * lv (Q.drop (i + 1))) * V) = 1000000000 ^ i * (q * V) + 1000000000 ^ (i + 1) * (lv (Q.drop (i + 1)) * V) := by
   rw [Nat.add_mul, Nat.mul_add, Nat.pow_succ, Nat.mul_assoc (1000000000 ^ i), Nat.mul_assoc 1000000000]
  rw [e2, e3]
  omega
theorem top3 (P : List Nat) (n : Nat) (h : P.length = n + 3) : ∃ a b c, P[n + 2]? = some a ∧ P[n + 1]? = some b ∧ P[n]? = some c ∧ lv P = ((a * 1000000000 + b) * 1000000000 + c) * 1000000000 ^ n + lv (P.take n) :=
 ⟨P[n + 2], P[n + 1], P[n], List.getElem?_eq_getElem _, List.getElem?_eq_getElem _, List.getElem?_eq_getElem _, lv_top3 P n h⟩
theorem top2 (P : List Nat) (n : Nat) (h : P.length = n + 2) : ∃ a b, P[n + 1]? = some a ∧ P[n]? = some b ∧ lv P = (a * 1000000000 + b) * 1000000000 ^ n + lv (P.take n) :=
 ⟨P[n + 1], P[n], List.getElem?_eq_getElem _, List.getElem?_eq_getElem _, lv_top2 P n h⟩
theorem Small.of_get {L : List Nat} (h : Small L) {i x : Nat} (hx : L[i]? = some x) : x < 1000000000 := by
 rcases Nat.lt_or_ge i L.length with hi | hi
 ·rw [List.getElem?_eq_getElem hi] at hx
  rw [← Option.some.inj hx]; exact h.get i hi
 ·rw [List.getElem?_eq_none hi] at hx; cases hx
theorem DivInv.round {U Q O2 : List Nat} {V u0 n k i : Nat} (h : DivInv U Q V u0 n (k + 2) (i + 1)) (hi : i + (k + 2) < n) (ho2 : O2.length = k + 4) (hs2 : Small O2) (hv2 : lv O2 = V) (hvl : (limbs V).length = k + 2) :
  ∃ u1 u2 u3 ul v1 v2 vl W : Nat, U[i + (k + 2)]? = some u1 ∧ U[i + (k + 1)]? = some u2 ∧ U[i + k]? = some u3 ∧ O2[k + 1]? = some v1 ∧ O2[k]? = some v2 ∧ W = lv (U.drop i) ∧
   W = ((u1 * 1000000000 + u2) * 1000000000 + u3) * 1000000000 ^ k + ul ∧ V = (v1 * 1000000000 + v2) * 1000000000 ^ k + vl ∧
   u1 < 1000000000 ∧ u2 < 1000000000 ∧ u3 < 1000000000 ∧ v1 < 1000000000 ∧ v2 < 1000000000 ∧ ul < 1000000000 ^ k ∧ vl < 1000000000 ^ k ∧ 0 < v1 ∧ u1 ≤ v1 ∧ W / V < 1000000000 ∧ 0 < V ∧ V < 1000000000 ^ (k + 2) := by
 have hV : V < 1000000000 ^ (k + 2) := by have := limbs_len_lt V; rwa [hvl] at this
 have hV0 : V ≠ 0 := by rintro rfl; rw [limbs_zero] at hvl; simp at hvl
 obtain ⟨hw1, hw0, hw2⟩ := h.window hV hi
 have hUl := h.1
 have hUs := h.2.1
 have hPl : ((U.drop i).take (k + 2 + 1)).length = k + 3 := by rw [List.length_take, List.length_drop]; omega
 have hPs : Small ((U.drop i).take (k + 2 + 1)) := Small.take (fun x hx => hUs x (List.mem_of_mem_drop hx)) _
 obtain ⟨u1, u2, u3, a1, a2, a3, e1⟩ := top3 _ k hPl
 rw [hw2] at e1
 have b1 := hPs.of_get a1
 have b2 := hPs.of_get a2
 have b3 := hPs.of_get a3
 have hg : ∀ j x, ((U.drop i).take (k + 2 + 1))[j]? = some x → j < k + 3 → U[i + j]? = some x := fun j x hx hj => by
  rwa [List.getElem?_take, if_pos (by omega), List.getElem?_drop] at hx
 have hT : limbs V = O2.take (k + 2) := by
  have := limbs_eq_take O2 hs2
  rwa [hv2, hvl] at this
 obtain ⟨v1, v2, c1, c2, e2⟩ := top2 (limbs V) k hvl
 rw [lv_limbs] at e2
 have d1 := (limbs_small V).of_get c1
 have d2 := (limbs_small V).of_get c2
 have hv0 : v1 ≠ 0 := by
  have hlast := limbs_last hV0
  rw [List.getElem?_eq_getElem (by omega)] at c1
  simp only [hvl, show k + 2 - 1 = k + 1 by omega] at hlast
  rw [← Option.some.inj c1]; exact hlast
 have hul := lv_lt _ (hPs.take k)
 rw [List.length_take, Nat.min_eq_left (by omega)] at hul
 have hvll := lv_lt _ ((limbs_small V).take k)
 rw [List.length_take, Nat.min_eq_left (by omega)] at hvll
 have hT2 : ∀ j x, (limbs V)[j]? = some x → j < k + 2 → O2[j]? = some x := fun j x hx hj => by
  rwa [hT, List.getElem?_take, if_pos hj] at hx
 refine ⟨u1, u2, u3, _, v1, v2, _, lv (U.drop i), hg _ _ a1 (by omega), hg _ _ a2 (by omega), hg _ _ a3 (by omega), hT2 _ _ c1 (by omega), hT2 _ _ c2 (by omega), rfl, e1, e2, b1, b2, b3, d1, d2, hul, hvll, by omega, ?_, ?_, by omega, hV⟩
 ·have f1 : u1 * (1000000000 * 1000000000 * 1000000000 ^ k) ≤ lv (U.drop i) := by
   rw [e1]
   have : u1 * (1000000000 * 1000000000 * 1000000000 ^ k) = u1 * 1000000000 * 1000000000 * 1000000000 ^ k := by ac_rfl
   rw [this, Nat.add_mul, Nat.add_mul, Nat.add_mul]
   omega
  have f2 : V * 1000000000 ≤ (v1 + 1) * (1000000000 * 1000000000 * 1000000000 ^ k) := by
   have g1 : V ≤ (v1 + 1) * 1000000000 * 1000000000 ^ k := by
    rw [e2, Nat.add_mul v1 1, Nat.one_mul, Nat.add_mul, Nat.add_mul]
    have : (v2 + 1) * 1000000000 ^ k ≤ 1000000000 * 1000000000 ^ k := Nat.mul_le_mul_right _ d2
    rw [Nat.add_mul, Nat.one_mul] at this
    omega
   have g2 := Nat.mul_le_mul_right 1000000000 g1
   refine Nat.le_trans g2 (Nat.le_of_eq ?_)
   ac_rfl
  have f3 := guess_lt (Nat.lt_of_le_of_lt f1 (Nat.lt_of_lt_of_le hw1 f2))
  omega
 ·exact Nat.div_lt_of_lt_mul hw1
theorem DivInv.done {U Q : List Nat} {p q d n k : Nat} (h : DivInv U Q (q * d) (p * d) n k 0) (hd : 0 < d) : lv Q = p / q ∧ lv U / d = p % q := by
 obtain ⟨_, _, _, _, he, hlt⟩ := h
 simp only [List.drop_zero, Nat.pow_zero, Nat.one_mul] at he hlt
 have hq : 0 < q := by
  rcases Nat.eq_zero_or_pos q with h | h
  ·subst h; simp at hlt
  ·exact h
 have hdv : d ∣ lv U := by
  have h1 : d ∣ p * d := Nat.dvd_mul_left _ _
  have h2 : d ∣ lv Q * (q * d) := Nat.dvd_trans (Nat.dvd_mul_left _ _) (Nat.dvd_mul_left _ _)
  rw [← he] at h1
  exact (Nat.dvd_add_left h2).1 h1
 obtain ⟨r, hr⟩ := hdv
 rw [hr, Nat.mul_comm d r] at he hlt
 have h3 : r + lv Q * q = p := by
  have : (r + lv Q * q) * d = p * d := by rw [Nat.add_mul, Nat.mul_assoc]; exact he
  exact Nat.eq_of_mul_eq_mul_right hd this
 have h4 : r < q := Nat.lt_of_mul_lt_mul_right hlt
 rw [hr, Nat.mul_div_cancel_left _ hd, ← h3]
 constructor
 ·rw [Nat.add_mul_div_right _ _ hq, Nat.div_eq_of_lt h4, Nat.zero_add]
 ·rw [Nat.add_mul_mod_self_right, Nat.mod_eq_of_lt h4]
theorem DivInv.start {M N U : List Nat} {d : Nat} (hM : Small M) (hU : Small U) (hn : 0 < N.length) (htop : N[N.length - 1] ≠ 0) (hd0 : 0 < d) (hUl : U.length = M.length + 1) (hUv : lv U = lv M * d) (hle : N.length ≤ M.length) :
  DivInv U (List.replicate (M.length + 1 - N.length) 0) (lv N * d) (lv M * d) (M.length + 1) N.length (M.length + 1 - N.length) := by
 refine ⟨hUl, hU, by simp, Small.zeros _, by rw [List.drop_of_length_le (by simp)]; simp [lv, hUv], ?_⟩
 obtain ⟨k, hk⟩ : ∃ k, N.length = k + 1 := ⟨N.length - 1, by omega⟩
 have hN1 : 1000000000 ^ k ≤ lv N := by
  rw [lv_split N k (by omega), lv_drop k (by omega)]
  have : N[k] ≠ 0 := by simpa [hk] using htop
  have h1 : 1000000000 ^ k * 1 ≤ 1000000000 ^ k * (N[k] + 1000000000 * lv (N.drop (k + 1))) := Nat.mul_le_mul_left _ (by omega)
  omega
 have hM1 := lv_lt M hM
 have hlu := lv_split U (M.length + 1 - N.length) (by omega)
 rw [hUv] at hlu
 have h2 : 1000000000 ^ (M.length + 1 - N.length) * lv (U.drop (M.length + 1 - N.length)) < 1000000000 ^ (M.length + 1 - N.length) * (1000000000 ^ k * d) := by
  have e : 1000000000 ^ (M.length + 1 - N.length) * (1000000000 ^ k * d) = 1000000000 ^ M.length * d := by
   rw [← Nat.mul_assoc, ← Nat.pow_add]; congr 2; omega
  rw [e]
  have := Nat.mul_lt_mul_of_pos_right hM1 hd0
  omega
 exact Nat.lt_of_lt_of_le (Nat.lt_of_mul_lt_mul_left h2) (Nat.mul_le_mul_right _ hN1)
end Go.Proofs.YtendjepcjmfmfaaGreatDoor
namespace Go.Proofs.YtendjepcjmfmfaaGreatDoor
def gv : List Nat → Nat
 | [] => 0
 | x :: xs => x + 10000 * gv xs
def Small4 (L : List Nat) : Prop := ∀ x, x ∈ L → x < 10000
def grps (n : Nat) : List Nat := if h : n = 0 then [] else n % 10000 :: grps (n / 10000)
termination_by n
decreasing_by omega
end Go.Proofs.YtendjepcjmfmfaaGreatDoor
namespace Go.Proofs.YtendjepcjmfmfaaGreatDoor
def BothInv (G H O : List Nat) (i : Nat) (c sg : Int) : Prop :=
 O.length = i ∧ Small4 O ∧ (gv O : Int) + 10000 ^ i * c = gv (G.take i) + sg * gv (H.take i) ∧ ((sg = 1 ∧ 0 ≤ c ∧ c ≤ 1) ∨ (sg = -1 ∧ -1 ≤ c ∧ c ≤ 0))
end Go.Proofs.YtendjepcjmfmfaaGreatDoor
namespace Go.Proofs.YtendjepcjmfmfaaGreatDoor
def InRow (H : List Nat) (x k : Nat) (O : List Nat) (c : Nat) : Prop :=
 O.length = k ∧ Small4 O ∧ gv O + 10000 ^ k * c = x * gv (H.take k) ∧ c < 10000 ∧ (H.length < k → c = 0)
end Go.Proofs.YtendjepcjmfmfaaGreatDoor
