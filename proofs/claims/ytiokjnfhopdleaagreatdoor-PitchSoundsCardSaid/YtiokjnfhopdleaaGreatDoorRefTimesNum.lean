/- Plain law of multiplying groups row by row. Conditions: none beyond those that each lemma names. -/
import Derived.Test.YtiokjnfhopdleaaGreatDoorBothNum
namespace Go.Proofs.YtiokjnfhopdleaaGreatDoor

/-- What holds after k rounds of a row: the groups that are written, and the carry. -/
def InRow (H : List Nat) (x k : Nat) (O : List Nat) (c : Nat) : Prop :=
  O.length = k ∧ Small4 O ∧ gv O + 10000 ^ k * c = x * gv (H.take k) ∧ c < 10000 ∧ (H.length < k → c = 0)

theorem InRow.start (H : List Nat) (x : Nat) : InRow H x 0 [] 0 := ⟨rfl, Small4.nil, by simp [gv], by omega, fun _ => rfl⟩

theorem mul_lt4 {c x y : Nat} (hc : c < 10000) (hx : x < 10000) (hy : y < 10000) : c + x * y < 100000000 := by
  have : x * y ≤ 9999 * 9999 := Nat.mul_le_mul (by omega) (by omega)
  omega

theorem InRow.step {H O : List Nat} {x k c y t : Nat} (h : InRow H x k O c) (hx : x < 10000) (hH : Small4 H) (hy : y = H[k]?.getD 0) (ht : t = c + x * y) :
    InRow H x (k + 1) (O ++ [t % 10000]) (t / 10000) := by
  obtain ⟨hl, hs, he, hc, h0⟩ := h
  have hy4 : y < 10000 := by rw [hy]; exact hH.getD k
  have htb := mul_lt4 hc hx hy4
  rw [← ht] at htb
  refine ⟨by rw [List.length_append, hl]; rfl, hs.append (Small4.one (by omega)), ?_, by omega, ?_⟩
  · rw [gv_append, gv_one, hl, gv_take_any H k, ← hy, Nat.mul_add x, ← he, Nat.pow_succ]
    have e1 : 10000 ^ k * (t % 10000) + 10000 ^ k * 10000 * (t / 10000) = 10000 ^ k * t := by
      rw [Nat.mul_assoc, ← Nat.mul_add, Nat.mod_add_div]
    have e2 : 10000 ^ k * t = 10000 ^ k * c + x * (10000 ^ k * y) := by rw [ht, Nat.mul_add, Nat.mul_left_comm x]
    omega
  · intro hk
    by_cases hk2 : H.length < k
    · have hc0 := h0 hk2
      have : y = 0 := by rw [hy, List.getElem?_eq_none (by omega)]; rfl
      rw [ht, hc0, this]; simp
    · have : y = 0 := by rw [hy, List.getElem?_eq_none (by omega)]; rfl
      rw [ht, this, Nat.mul_zero, Nat.add_zero]
      exact Nat.div_eq_of_lt hc

theorem InRow.done {H O : List Nat} {x k : Nat} (h : InRow H x k O 0) (hk : H.length ≤ k) : gv O = x * gv H := by
  have := h.2.2.1
  rwa [List.take_of_length_le hk, Nat.mul_zero, Nat.add_zero] at this

/-- A row shifted by i groups. -/
theorem gv_shift (i : Nat) (O : List Nat) : gv (List.replicate i 0 ++ O) = 10000 ^ i * gv O := by
  rw [gv_append, gv_zeros, List.length_replicate, Nat.zero_add]
theorem times_row {G H O : List Nat} {x k i : Nat} (h : InRow H x k O 0) (hk : H.length ≤ k) (hi : i < G.length) (hx : x = G[i]) :
    gv (G.take i) * gv H + gv (List.replicate i 0 ++ O) = gv (G.take (i + 1)) * gv H := by
  rw [gv_shift, h.done hk, gv_take_succ G i hi, ← hx, Nat.add_mul, Nat.mul_assoc]
theorem Small4.row {O : List Nat} (h : Small4 O) (i : Nat) : Small4 (List.replicate i 0 ++ O) := (Small4.zeros i).append h
theorem grps_mul_len {G H : List Nat} (hG : Small4 G) (hH : Small4 H) (i : Nat) : (grps (gv (G.take i) * gv H)).length ≤ G.length + H.length := by
  apply grps_len_le
  have h1 := gv_lt _ (hG.take i)
  have h2 := gv_lt _ hH
  have h3 : 10000 ^ (G.take i).length ≤ 10000 ^ G.length := Nat.pow_le_pow_right (by decide) (by rw [List.length_take]; omega)
  rw [Nat.pow_add]
  exact Nat.mul_lt_mul_of_lt_of_lt (Nat.lt_of_lt_of_le h1 h3) h2

end Go.Proofs.YtiokjnfhopdleaaGreatDoor
