/- Plain laws on decimal texts: the number that digits write; nine digits a limb; the text of limbs. No program in this text. Conditions: the bytes are digits where a lemma says so. -/
import Derived.Test.YtplonkeipdbchaaGreatDoorNum
namespace Go.Proofs.YtplonkeipdbchaaGreatDoor

/-- The number that decimal digits write. -/
def dval (l : List UInt8) : Nat := l.foldl (fun a c => 10 * a + (c.toNat - 48)) 0
/-- All bytes are digits. -/
def Digs (l : List UInt8) : Prop := ∀ c, c ∈ l → 48 ≤ c.toNat ∧ c.toNat ≤ 57

theorem foldl_dval (l : List UInt8) (a : Nat) : l.foldl (fun a c => 10 * a + (c.toNat - 48)) a = a * 10 ^ l.length + dval l := by
  induction l generalizing a with
  | nil => simp [dval]
  | cons c l ih =>
    have h0 := ih (10 * 0 + (c.toNat - 48))
    have h1 := ih (10 * a + (c.toNat - 48))
    unfold dval at *
    simp only [List.foldl_cons, List.length_cons, Nat.pow_succ]
    rw [h1, h0, Nat.add_mul, Nat.add_mul, Nat.mul_zero, Nat.zero_mul, Nat.zero_add]
    rw [Nat.mul_comm 10 a, Nat.mul_assoc, Nat.mul_comm 10 (10 ^ l.length), Nat.add_assoc]
theorem dval_append (a b : List UInt8) : dval (a ++ b) = dval a * 10 ^ b.length + dval b := by
  unfold dval; rw [List.foldl_append, foldl_dval]; rfl
theorem dval_snoc (a : List UInt8) (c : UInt8) : dval (a ++ [c]) = 10 * dval a + (c.toNat - 48) := by
  unfold dval; rw [List.foldl_append]; rfl
theorem dval_nil : dval [] = 0 := rfl
theorem Digs.take {l : List UInt8} (h : Digs l) (k : Nat) : Digs (l.take k) := fun c hc => h c (List.mem_of_mem_take hc)
theorem Digs.drop {l : List UInt8} (h : Digs l) (k : Nat) : Digs (l.drop k) := fun c hc => h c (List.mem_of_mem_drop hc)
theorem Digs.append {a b : List UInt8} (h : Digs a) (k : Digs b) : Digs (a ++ b) := fun c hc => (List.mem_append.1 hc).elim (h c) (k c)
theorem Digs.get {l : List UInt8} (h : Digs l) (i : Nat) (hi : i < l.length) : 48 ≤ l[i].toNat ∧ l[i].toNat ≤ 57 := h _ (List.getElem_mem hi)
theorem dval_lt (l : List UInt8) (h : Digs l) : dval l < 10 ^ l.length := by
  induction l with
  | nil => simp [dval]
  | cons c l ih =>
    have h1 := ih (fun x hx => h x (List.mem_cons_of_mem _ hx))
    have h2 := h c (List.mem_cons_self ..)
    have e : dval (c :: l) = (c.toNat - 48) * 10 ^ l.length + dval l := by
      have := dval_append [c] l
      simpa [dval] using this
    rw [e, List.length_cons, Nat.pow_succ]
    have h3 : (c.toNat - 48) * 10 ^ l.length ≤ 9 * 10 ^ l.length := Nat.mul_le_mul_right _ (by omega)
    omega
theorem dval_take_succ (l : List UInt8) (k : Nat) (h : k < l.length) : dval (l.take (k + 1)) = 10 * dval (l.take k) + (l[k].toNat - 48) := by
  rw [List.take_succ_eq_append_getElem h, dval_snoc]

theorem pow9 (j : Nat) : (10 : Nat) ^ (9 * j) = 1000000000 ^ j := by rw [Nat.pow_mul]
/-- One limb more, taken from the end. -/
theorem chunk_step (ds : List UInt8) (j : Nat) (hj : 9 * j < ds.length) (L : List Nat) (hl : L.length = j) (he : lv L = dval (ds.drop (ds.length - 9 * j))) :
    lv (L ++ [dval ((ds.drop (ds.length - 9 * (j + 1))).take (ds.length - 9 * j - (ds.length - 9 * (j + 1))))]) = dval (ds.drop (ds.length - 9 * (j + 1))) := by
  rw [lv_append, lv_one, hl, he]
  have e : ds.drop (ds.length - 9 * (j + 1)) = (ds.drop (ds.length - 9 * (j + 1))).take (ds.length - 9 * j - (ds.length - 9 * (j + 1))) ++ ds.drop (ds.length - 9 * j) := by
    have := List.take_append_drop (ds.length - 9 * j - (ds.length - 9 * (j + 1))) (ds.drop (ds.length - 9 * (j + 1)))
    rw [List.drop_drop] at this
    rw [show ds.length - 9 * (j + 1) + (ds.length - 9 * j - (ds.length - 9 * (j + 1))) = ds.length - 9 * j by omega] at this
    exact this.symm
  generalize hc : (ds.drop (ds.length - 9 * (j + 1))).take (ds.length - 9 * j - (ds.length - 9 * (j + 1))) = ch at *
  rw [e, dval_append, List.length_drop, show ds.length - (ds.length - 9 * j) = 9 * j by omega, pow9, Nat.mul_comm (dval ch), Nat.add_comm]
theorem chunk_small (ds : List UInt8) (h : Digs ds) (j : Nat) :
    dval ((ds.drop (ds.length - 9 * (j + 1))).take (ds.length - 9 * j - (ds.length - 9 * (j + 1)))) < 1000000000 := by
  have h1 := dval_lt _ ((h.drop (ds.length - 9 * (j + 1))).take (ds.length - 9 * j - (ds.length - 9 * (j + 1))))
  refine Nat.lt_of_lt_of_le h1 ?_
  have : (10 : Nat) ^ ((ds.drop (ds.length - 9 * (j + 1))).take (ds.length - 9 * j - (ds.length - 9 * (j + 1)))).length ≤ 10 ^ 9 :=
    Nat.pow_le_pow_right (by decide) (by rw [List.length_take]; omega)
  exact this

theorem u8_digit (d : Nat) (h : d < 10) : (UInt8.ofNat (48 + d)).toNat = 48 + d := by
  rw [UInt8.toNat_ofNat']; omega
theorem digs_dec (u : Nat) : Digs (Lib.decDigits u) := by
  induction u using Nat.strongRecOn with
  | _ u ih =>
    rw [Lib.decDigits]
    split
    · rename_i h
      intro c hc
      rw [List.mem_singleton.1 hc, u8_digit u h]; omega
    · rename_i h
      refine (ih (u / 10) (by omega)).append fun c hc => ?_
      rw [List.mem_singleton.1 hc, u8_digit _ (by omega)]; omega
theorem dval_dec (u : Nat) : dval (Lib.decDigits u) = u := by
  induction u using Nat.strongRecOn with
  | _ u ih =>
    rw [Lib.decDigits]
    split
    · rename_i h
      have := dval_snoc [] (UInt8.ofNat (48 + u))
      rw [List.nil_append] at this
      rw [this, u8_digit u h, dval_nil]; omega
    · rename_i h
      rw [dval_snoc, ih (u / 10) (by omega), u8_digit _ (by omega)]; omega
theorem dec_ne_nil (u : Nat) : Lib.decDigits u ≠ [] := by
  intro h
  have := congrArg List.length h
  rw [Lib.decDigits_length] at this
  have := Lib.nDigits_pos u
  simp at *
  omega

/-- The digits of u, filled up to k places with zeros. -/
def padk : Nat → Nat → List UInt8
  | 0, _ => []
  | k + 1, u => padk k (u / 10) ++ [UInt8.ofNat (48 + u % 10)]
theorem dec_join (m : Nat) (hm : m ≠ 0) (k x : Nat) (hx : x < 10 ^ k) : Lib.decDigits (m * 10 ^ k + x) = Lib.decDigits m ++ padk k x := by
  induction k generalizing x with
  | zero => have : x = 0 := by simpa using hx
            subst this; simp [padk]
  | succ k ih =>
    have hp : 0 < 10 ^ k := Nat.pow_pos (by decide)
    have e1 : (m * 10 ^ (k + 1) + x) / 10 = m * 10 ^ k + x / 10 := by rw [Nat.pow_succ, ← Nat.mul_assoc]; omega
    have e2 : (m * 10 ^ (k + 1) + x) % 10 = x % 10 := by rw [Nat.pow_succ, ← Nat.mul_assoc]; omega
    have hge : ¬ m * 10 ^ (k + 1) + x < 10 := by
      have : 10 ^ k * 10 ≤ m * (10 ^ k * 10) := Nat.le_mul_of_pos_left _ (by omega)
      rw [Nat.pow_succ]; omega
    rw [Lib.decDigits, dif_neg hge, e1, e2, ih (x / 10) (by rw [Nat.pow_succ] at hx; omega), padk, List.append_assoc]
theorem padk_zeros (k : Nat) : padk k 0 = List.replicate k 48 := by
  induction k with
  | zero => rfl
  | succ k ih =>
    rw [padk, Nat.zero_div, ih, List.replicate_succ']
    rfl
theorem padk_eq (k u : Nat) (hk : Lib.nDigits u ≤ k) : padk k u = List.replicate (k - Lib.nDigits u) 48 ++ Lib.decDigits u := by
  induction u using Nat.strongRecOn generalizing k with
  | _ u ih =>
    have hp := Lib.nDigits_pos u
    obtain ⟨k, rfl⟩ : ∃ j, k = j + 1 := ⟨k - 1, by omega⟩
    by_cases h : u < 10
    · rw [padk, Nat.div_eq_of_lt h, padk_zeros, Lib.nDigits_small h, Lib.decDigits_one h, Nat.mod_eq_of_lt h, Nat.add_sub_cancel]
    · have e := Lib.nDigits_big h
      rw [padk, ih (u / 10) (by omega) k (by omega), e, show Lib.decDigits u = Lib.decDigits (u / 10) ++ [UInt8.ofNat (48 + u % 10)] by rw [Lib.decDigits, dif_neg h], ← List.append_assoc]
      congr 3
      omega
theorem nDigits_le (u k : Nat) (hk : 1 ≤ k) (h : u < 10 ^ k) : Lib.nDigits u ≤ k := by
  induction k generalizing u with
  | zero => omega
  | succ k ih =>
    by_cases hs : u < 10
    · rw [Lib.nDigits_small hs]; omega
    · rw [Lib.nDigits_big hs]
      rcases Nat.eq_zero_or_pos k with rfl | hk'
      · simp at h; omega
      · have := ih (u / 10) hk' (by rw [Nat.pow_succ] at h; omega)
        omega
/-- The text of limbs, the highest ones first: what is written when the limbs from i on are written. -/
def txt (L : List Nat) (i : Nat) : List UInt8 := Lib.decDigits (lv (L.drop i))
theorem txt_step (L : List Nat) (hs : Small L) (i : Nat) (hi : i < L.length) (hne : lv (L.drop (i + 1)) ≠ 0) :
    txt L i = txt L (i + 1) ++ (List.replicate (9 - Lib.nDigits L[i]) 48 ++ Lib.decDigits L[i]) := by
  have hx := hs.get i hi
  unfold txt
  rw [List.drop_eq_getElem_cons hi, lv, Nat.add_comm, Nat.mul_comm, show (1000000000 : Nat) = 10 ^ 9 from rfl, dec_join _ hne 9 _ hx, padk_eq 9 _ (nDigits_le _ 9 (by decide) hx)]
theorem txt_top (L : List Nat) (i : Nat) (hi : i + 1 = L.length) : txt L i = Lib.decDigits (L[i]'(by omega)) := by
  unfold txt
  rw [List.drop_eq_getElem_cons (by omega), List.drop_of_length_le (by omega), lv_one]
theorem limbs_drop_ne {n i : Nat} (hi : i < (limbs n).length) : lv ((limbs n).drop i) ≠ 0 := by
  intro h0
  have hn : n ≠ 0 := by rintro rfl; rw [limbs_zero] at hi; simp at hi
  have e := lv_append ((limbs n).take i) ((limbs n).drop i)
  rw [List.take_append_drop, lv_limbs, h0, Nat.mul_zero, Nat.add_zero] at e
  have h1 := lv_lt _ ((limbs_small n).take i)
  rw [← e] at h1
  have h2 := limbs_len_le n _ h1
  rw [List.length_take] at h2
  omega
end Go.Proofs.YtplonkeipdbchaaGreatDoor
