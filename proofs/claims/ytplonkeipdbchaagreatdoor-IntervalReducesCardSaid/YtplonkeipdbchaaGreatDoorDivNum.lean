/- Plain laws of adding, taking away and dividing limbs: what the loops keep; the guess of one limb of a quotient is at most one too great. No program in this text. Conditions: none beyond those that each lemma names. -/
import Derived.Test.YtplonkeipdbchaaGreatDoorNum
namespace Go.Proofs.YtplonkeipdbchaaGreatDoor

theorem Small.getD {L : List Nat} (h : Small L) (i : Nat) : L[i]?.getD 0 < 1000000000 := by
  by_cases hi : i < L.length
  · rw [List.getElem?_eq_getElem hi]; exact h.get i hi
  · rw [List.getElem?_eq_none (by omega)]; simp
theorem lv_take_any (L : List Nat) (i : Nat) : lv (L.take (i + 1)) = lv (L.take i) + 1000000000 ^ i * (L[i]?.getD 0) := by
  by_cases h : i < L.length
  · rw [lv_take_succ L i h, List.getElem?_eq_getElem h]; rfl
  · rw [List.take_of_length_le (by omega), List.take_of_length_le (by omega), List.getElem?_eq_none (by omega)]; simp
theorem lv_drop {L : List Nat} (i : Nat) (hi : i < L.length) : lv (L.drop i) = L[i] + 1000000000 * lv (L.drop (i + 1)) := by
  rw [List.drop_eq_getElem_cons hi]; rfl

/-- Adding: the limbs that are written, and the carry. -/
def PlusInv (M N O : List Nat) (i c : Nat) : Prop :=
  O.length = i ∧ Small O ∧ lv O + 1000000000 ^ i * c = lv (M.take i) + lv (N.take i) ∧ c ≤ 1
theorem PlusInv.start (M N : List Nat) : PlusInv M N [] 0 0 := ⟨rfl, Small.nil, by simp [lv], by omega⟩
theorem PlusInv.step {M N O : List Nat} {i c x y t : Nat} (h : PlusInv M N O i c) (hM : Small M) (hN : Small N) (hx : x = M[i]?.getD 0) (hy : y = N[i]?.getD 0) (ht : t = x + c + y) :
    PlusInv M N (O ++ [t % 1000000000]) (i + 1) (t / 1000000000) := by
  obtain ⟨hl, hs, he, hc⟩ := h
  have hx9 : x < 1000000000 := by rw [hx]; exact hM.getD i
  have hy9 : y < 1000000000 := by rw [hy]; exact hN.getD i
  refine ⟨by rw [List.length_append, hl]; rfl, hs.append (Small.one (by omega)), ?_, by omega⟩
  rw [lv_append, lv_one, hl, lv_take_any M i, lv_take_any N i, ← hx, ← hy, Nat.pow_succ]
  have e1 : 1000000000 ^ i * (t % 1000000000) + 1000000000 ^ i * 1000000000 * (t / 1000000000) = 1000000000 ^ i * t := by
    rw [Nat.mul_assoc, ← Nat.mul_add, Nat.mod_add_div]
  have e2 : 1000000000 ^ i * t = 1000000000 ^ i * x + 1000000000 ^ i * c + 1000000000 ^ i * y := by rw [ht, Nat.mul_add, Nat.mul_add]
  omega
theorem PlusInv.done {M N O : List Nat} {i c : Nat} (h : PlusInv M N O i c) (h1 : M.length ≤ i) (h2 : N.length ≤ i) : lv (O ++ [c]) = lv M + lv N := by
  have := h.2.2.1
  rwa [List.take_of_length_le h1, List.take_of_length_le h2, ← lv_one c, ← h.1, ← lv_append] at this

/-- Taking away: the limbs that are written, and what is borrowed. -/
def LessInv (M N O : List Nat) (i c : Nat) : Prop :=
  O.length = i ∧ Small O ∧ lv O + lv (N.take i) = lv (M.take i) + 1000000000 ^ i * c ∧ c ≤ 1
theorem LessInv.start (M N : List Nat) : LessInv M N [] 0 0 := ⟨rfl, Small.nil, by simp [lv], by omega⟩
theorem LessInv.step0 {M N O : List Nat} {i c x y : Nat} (h : LessInv M N O i c) (hM : Small M) (hx : x = M[i]?.getD 0) (hy : y = N[i]?.getD 0) (ht : c + y ≤ x) :
    LessInv M N (O ++ [x - (c + y)]) (i + 1) 0 := by
  obtain ⟨hl, hs, he, hc⟩ := h
  have hx9 : x < 1000000000 := by rw [hx]; exact hM.getD i
  refine ⟨by rw [List.length_append, hl]; rfl, hs.append (Small.one (by omega)), ?_, by omega⟩
  rw [lv_append, lv_one, hl, lv_take_any M i, lv_take_any N i, ← hx, ← hy]
  obtain ⟨d, rfl⟩ : ∃ d, x = c + y + d := ⟨x - (c + y), by omega⟩
  rw [Nat.add_sub_cancel_left, Nat.mul_add, Nat.mul_add]
  omega
theorem LessInv.step1 {M N O : List Nat} {i c x y : Nat} (h : LessInv M N O i c) (hN : Small N) (hx : x = M[i]?.getD 0) (hy : y = N[i]?.getD 0) (ht : x < c + y) :
    LessInv M N (O ++ [x + 1000000000 - (c + y)]) (i + 1) 1 := by
  obtain ⟨hl, hs, he, hc⟩ := h
  have hy9 : y < 1000000000 := by rw [hy]; exact hN.getD i
  refine ⟨by rw [List.length_append, hl]; rfl, hs.append (Small.one (by omega)), ?_, by omega⟩
  rw [lv_append, lv_one, hl, lv_take_any M i, lv_take_any N i, ← hx, ← hy, Nat.pow_succ]
  obtain ⟨d, hd⟩ : ∃ d, x + 1000000000 = c + y + d := ⟨x + 1000000000 - (c + y), by omega⟩
  have e : 1000000000 ^ i * x + 1000000000 ^ i * 1000000000 = 1000000000 ^ i * c + 1000000000 ^ i * y + 1000000000 ^ i * d := by
    rw [← Nat.mul_add, hd, Nat.mul_add, Nat.mul_add]
  rw [show x + 1000000000 - (c + y) = d by omega]
  omega
theorem LessInv.done {M N O : List Nat} {i c : Nat} (h : LessInv M N O i c) (h1 : M.length ≤ i) (h2 : N.length ≤ i) (hle : lv N ≤ lv M) : lv O = lv M - lv N := by
  obtain ⟨hl, hs, he, hc⟩ := h
  rw [List.take_of_length_le h1, List.take_of_length_le h2] at he
  have hlt := lv_lt O hs
  rw [hl] at hlt
  have : c = 0 ∨ c = 1 := by omega
  rcases this with rfl | rfl
  · omega
  · omega

/-- Dividing by one limb, from the highest limb down: what is written from j on, and the rest. -/
def ByInv (M O : List Nat) (d j r : Nat) : Prop := O.length = M.length ∧ Small O ∧ lv (O.drop j) * d + r = lv (M.drop j) ∧ r < d
theorem ByInv.start (M : List Nat) (d : Nat) (hd : 0 < d) : ByInv M (List.replicate M.length 0) d M.length 0 :=
  ⟨by simp, Small.zeros _, by rw [List.drop_of_length_le (by simp), List.drop_length]; simp [lv], hd⟩
theorem ByInv.step {M O : List Nat} {d j r x : Nat} (h : ByInv M O d (j + 1) r) (hM : Small M) (hj : j < M.length) (hx : x = r * 1000000000 + M[j]) :
    ByInv M (O.set j (x / d)) d j (x % d) := by
  obtain ⟨hl, hs, he, hr⟩ := h
  have hm := hM.get j hj
  have hd : 0 < d := by omega
  have hxd : x < d * 1000000000 := by
    rw [hx]
    have h1 : (r + 1) * 1000000000 ≤ d * 1000000000 := Nat.mul_le_mul_right _ hr
    rw [Nat.add_mul] at h1
    omega
  have hq : x / d < 1000000000 := Nat.div_lt_of_lt_mul hxd
  refine ⟨by rw [List.length_set]; exact hl, hs.set j _ hq, ?_, Nat.mod_lt _ hd⟩
  rw [lv_drop j (by rw [List.length_set]; omega), List.getElem_set_self, List.drop_set_of_lt (by omega), lv_drop j hj, ← he]
  have e := Nat.div_add_mod x d
  have e2 : d * (x / d) = x / d * d := Nat.mul_comm _ _
  have e3 : (x / d + 1000000000 * lv (O.drop (j + 1))) * d = x / d * d + 1000000000 * (lv (O.drop (j + 1)) * d) := by rw [Nat.add_mul, Nat.mul_assoc]
  rw [e3]
  omega
theorem ByInv.done {M O : List Nat} {d r : Nat} (h : ByInv M O d 0 r) : lv O = lv M / d ∧ r = lv M % d := by
  obtain ⟨_, _, he, hr⟩ := h
  simp only [List.drop_zero] at he
  have hd : 0 < d := by omega
  rw [← he]
  constructor
  · rw [Nat.add_comm, Nat.add_mul_div_right _ _ hd, Nat.div_eq_of_lt hr, Nat.zero_add]
  · rw [Nat.add_comm, Nat.add_mul_mod_self_right, Nat.mod_eq_of_lt hr]

/-- The guess of a limb: g times the divisor's highest limb, and the rest, are the two highest limbs; the limb asked for is no greater. -/
def GuessInv (W V top v1 g r : Nat) : Prop := g * v1 + r = top ∧ W / V ≤ g

section
variable {W V top u3 ul v1 v2 vl E g r : Nat}
theorem guess_lt {a b c : Nat} (h : a * c < b * c) : a < b := Nat.lt_of_mul_lt_mul_right h
theorem GuessInv.start (hW : W = (top * 1000000000 + u3) * E + ul) (hV : V = (v1 * 1000000000 + v2) * E + vl) (hu3 : u3 < 1000000000) (hul : ul < E) (hv1 : 0 < v1) :
    GuessInv W V top v1 (top / v1) (top % v1) := by
  refine ⟨Nat.div_add_mod' top v1, ?_⟩
  rw [Nat.le_div_iff_mul_le hv1]
  have hq : W / V * V ≤ W := Nat.div_mul_le_self W V
  have h1 : W / V * v1 * (1000000000 * E) ≤ W / V * V := by
    rw [Nat.mul_assoc]
    refine Nat.mul_le_mul_left _ ?_
    rw [hV, Nat.add_mul, ← Nat.mul_assoc]
    omega
  have h2 : W < (top + 1) * (1000000000 * E) := by
    have e : (top + 1) * (1000000000 * E) = (top * 1000000000) * E + 1000000000 * E := by rw [Nat.add_mul, Nat.one_mul, Nat.mul_assoc]
    have h3 : (u3 + 1) * E ≤ 1000000000 * E := Nat.mul_le_mul_right _ hu3
    rw [Nat.add_mul, Nat.one_mul] at h3
    rw [e, hW, Nat.add_mul]
    omega
  have := guess_lt (Nat.lt_of_le_of_lt (Nat.le_trans h1 hq) h2)
  omega
theorem GuessInv.great (h : GuessInv W V top v1 g r) (hq : W / V < 1000000000) (hg : 1000000000 ≤ g) : GuessInv W V top v1 (g - 1) (r + v1) := by
  obtain ⟨h1, h2⟩ := h
  refine ⟨?_, by omega⟩
  obtain ⟨k, rfl⟩ : ∃ k, g = k + 1 := ⟨g - 1, by omega⟩
  rw [Nat.add_sub_cancel]
  rw [Nat.add_mul, Nat.one_mul] at h1
  omega
theorem GuessInv.down (h : GuessInv W V top v1 g r) (hW : W = (top * 1000000000 + u3) * E + ul) (hV : V = (v1 * 1000000000 + v2) * E + vl) (hul : ul < E) (hc : r * 1000000000 + u3 < g * v2) :
    GuessInv W V top v1 (g - 1) (r + v1) := by
  obtain ⟨h1, h2⟩ := h
  have hg : g ≠ 0 := by rintro rfl; omega
  have hne : W / V ≠ g := by
    intro e
    have hq : W / V * V ≤ W := Nat.div_mul_le_self W V
    rw [e] at hq
    have h3 : g * (v1 * 1000000000 + v2) * E ≤ g * V := by
      rw [Nat.mul_assoc]; exact Nat.mul_le_mul_left _ (by rw [hV]; omega)
    have h4 : W < (top * 1000000000 + u3 + 1) * E := by rw [hW, Nat.add_mul _ 1, Nat.one_mul]; omega
    have h5 := guess_lt (Nat.lt_of_le_of_lt (Nat.le_trans h3 hq) h4)
    rw [← h1, Nat.mul_add, ← Nat.mul_assoc, Nat.add_mul] at h5
    omega
  refine ⟨?_, by omega⟩
  obtain ⟨k, rfl⟩ : ∃ k, g = k + 1 := ⟨g - 1, by omega⟩
  rw [Nat.add_sub_cancel]
  rw [Nat.add_mul, Nat.one_mul] at h1
  omega
theorem GuessInv.brk (h : GuessInv W V top v1 g r) (ht : top ≤ v1 * 1000000000 + 999999999) (hr : 1000000000 ≤ r) (hv2 : v2 < 1000000000) : g < 1000000000 ∧ g * v2 ≤ r * 1000000000 + u3 := by
  obtain ⟨h1, _⟩ := h
  have hg : g < 1000000000 := by
    refine guess_lt (c := v1) ?_
    rw [Nat.mul_comm 1000000000]; omega
  refine ⟨hg, ?_⟩
  have a1 : g * v2 ≤ 1000000000 * 1000000000 := Nat.mul_le_mul (Nat.le_of_lt hg) (Nat.le_of_lt hv2)
  have a2 : 1000000000 * 1000000000 ≤ r * 1000000000 := Nat.mul_le_mul_right _ hr
  omega
theorem GuessInv.done (h : GuessInv W V top v1 g r) (hW : W = (top * 1000000000 + u3) * E + ul) (hV : V = (v1 * 1000000000 + v2) * E + vl) (hvl : vl < E) (hv1 : 0 < v1) (hg : g < 1000000000)
    (hc : g * v2 ≤ r * 1000000000 + u3) : W / V ≤ g ∧ g ≤ W / V + 1 := by
  obtain ⟨h1, h2⟩ := h
  refine ⟨h2, ?_⟩
  have hE : 0 < E := by omega
  have h3 : g * V ≤ (top * 1000000000 + u3) * E + g * vl := by
    rw [hV, Nat.mul_add, ← Nat.mul_assoc]
    refine Nat.add_le_add_right (Nat.mul_le_mul_right _ ?_) _
    rw [Nat.mul_add, ← Nat.mul_assoc, ← h1, Nat.add_mul]
    omega
  have h4 : g * vl < V := by
    have a1 : g * vl ≤ g * E := Nat.mul_le_mul_left _ (Nat.le_of_lt hvl)
    have a2 : g * E < 1000000000 * E := Nat.mul_lt_mul_of_pos_right hg hE
    have a3 : 1000000000 * E ≤ v1 * 1000000000 * E := Nat.mul_le_mul_right _ (by omega)
    rw [hV, Nat.add_mul]
    omega
  have h5 : g * V < W + V := by rw [hW]; omega
  have hV0 : 0 < V := by omega
  have h6 : W < (W / V + 1) * V := by
    have := Nat.div_add_mod W V
    have := Nat.mod_lt W hV0
    rw [Nat.add_mul, Nat.one_mul, Nat.mul_comm]
    omega
  have h7 : g * V < (W / V + 1 + 1) * V := by rw [Nat.add_mul _ 1, Nat.one_mul]; omega
  have := guess_lt h7
  omega
end

theorem lv_split (L : List Nat) (i : Nat) (hi : i ≤ L.length) : lv L = lv (L.take i) + 1000000000 ^ i * lv (L.drop i) := by
  have := lv_append (L.take i) (L.drop i)
  rwa [List.take_append_drop, List.length_take, Nat.min_eq_left hi] at this
/-- The three highest limbs of a list. -/
theorem lv_top3 (P : List Nat) (n : Nat) (h : P.length = n + 3) : lv P = ((P[n + 2] * 1000000000 + P[n + 1]) * 1000000000 + P[n]) * 1000000000 ^ n + lv (P.take n) := by
  rw [lv_split P n (by omega), lv_drop n (by omega), lv_drop (n + 1) (by omega), lv_drop (n + 2) (by omega), List.drop_of_length_le (by omega)]
  generalize P[n] = x
  generalize P[n + 1] = y
  generalize P[n + 2] = z
  simp only [lv]
  rw [show x + 1000000000 * (y + 1000000000 * (z + 1000000000 * 0)) = (z * 1000000000 + y) * 1000000000 + x by omega, Nat.add_comm, Nat.mul_comm (1000000000 ^ n)]
theorem lv_top2 (P : List Nat) (n : Nat) (h : P.length = n + 2) : lv P = (P[n + 1] * 1000000000 + P[n]) * 1000000000 ^ n + lv (P.take n) := by
  rw [lv_split P n (by omega), lv_drop n (by omega), lv_drop (n + 1) (by omega), List.drop_of_length_le (by omega)]
  generalize P[n] = x
  generalize P[n + 1] = y
  simp only [lv]
  rw [show x + 1000000000 * (y + 1000000000 * 0) = y * 1000000000 + x by omega, Nat.add_comm, Nat.mul_comm (1000000000 ^ n)]

/-- Long division, from the highest limb down: what is left of the dividend, and the quotient's limbs from j on. -/
def DivInv (U Q : List Nat) (V u0 n k j : Nat) : Prop :=
  U.length = n ∧ Small U ∧ Q.length = n - k ∧ Small Q ∧ lv U + 1000000000 ^ j * (lv (Q.drop j) * V) = u0 ∧ lv (U.drop j) < V

/-- What the window of a round holds. -/
theorem DivInv.window {U Q : List Nat} {V u0 n k i : Nat} (h : DivInv U Q V u0 n k (i + 1)) (hV : V < 1000000000 ^ k) (hi : i + k < n) :
    lv (U.drop i) < V * 1000000000 ∧ lv (U.drop (i + k + 1)) = 0 ∧ lv ((U.drop i).take (k + 1)) = lv (U.drop i) := by
  obtain ⟨hl, hs, _, _, _, hlt⟩ := h
  have e1 := lv_drop (L := U) i (by omega)
  have hu := hs.get i (by omega)
  have h0 : lv (U.drop (i + k + 1)) = 0 := by
    have e2 := lv_split (U.drop (i + 1)) k (by rw [List.length_drop]; omega)
    rw [List.drop_drop, show i + 1 + k = i + k + 1 by omega] at e2
    rcases Nat.eq_zero_or_pos (lv (U.drop (i + k + 1))) with h | h
    · exact h
    · have := Nat.mul_le_mul_left (1000000000 ^ k) h
      omega
  refine ⟨by omega, h0, ?_⟩
  have e3 := lv_split (U.drop i) (k + 1) (by rw [List.length_drop]; omega)
  rw [List.drop_drop, show i + (k + 1) = i + k + 1 by omega, h0, Nat.mul_zero, Nat.add_zero] at e3
  exact e3.symm

/-- The dividend with a window replaced by what is left of it. -/
def upd (U R : List Nat) (i k : Nat) : List Nat := U.take i ++ R ++ List.replicate (k + 1 - R.length) 0 ++ U.drop (i + k + 1)
theorem upd_len {U R : List Nat} {i k : Nat} (hi : i + k < U.length) (hR : R.length ≤ k) : (upd U R i k).length = U.length := by
  unfold upd
  simp only [List.length_append, List.length_take, List.length_replicate, List.length_drop]
  omega
theorem upd_drop {U R : List Nat} {i k : Nat} (hi : i + k < U.length) : (upd U R i k).drop i = R ++ List.replicate (k + 1 - R.length) 0 ++ U.drop (i + k + 1) := by
  unfold upd
  rw [List.append_assoc, List.append_assoc, List.drop_append_of_le_length (by rw [List.length_take]; omega), List.drop_of_length_le (by rw [List.length_take]; omega), List.nil_append, List.append_assoc]
theorem upd_take {U R : List Nat} {i k : Nat} (hi : i + k < U.length) : (upd U R i k).take i = U.take i := by
  unfold upd
  rw [List.append_assoc, List.append_assoc, List.take_append_of_le_length (by rw [List.length_take]; omega), List.take_of_length_le (by rw [List.length_take]; omega)]

theorem DivInv.step {U Q : List Nat} {V u0 n k i q : Nat} (h : DivInv U Q V u0 n k (i + 1)) (hV0 : 0 < V) (hV : V < 1000000000 ^ k) (hi : i + k < n) (hq : q = lv (U.drop i) / V) :
    DivInv (upd U (limbs (lv (U.drop i) % V)) i k) (Q.set i q) V u0 n k i ∧ q < 1000000000 ∧ (limbs (lv (U.drop i) % V)).length ≤ k := by
  obtain ⟨hw1, hw0, hw2⟩ := h.window hV hi
  obtain ⟨hl, hs, hql, hqs, he, hlt⟩ := h
  obtain ⟨W, hW⟩ : ∃ W, W = lv (U.drop i) := ⟨_, rfl⟩
  rw [← hW] at hq hw1 ⊢
  have hm : W % V < V := Nat.mod_lt _ hV0
  have hRl : (limbs (W % V)).length ≤ k := limbs_len_le _ _ (Nat.lt_trans hm hV)
  have hq9 : q < 1000000000 := by rw [hq]; exact Nat.div_lt_of_lt_mul (by rw [Nat.mul_comm] at hw1; rw [Nat.mul_comm]; exact hw1)
  have hud := upd_drop (R := limbs (W % V)) (show i + k < U.length by omega)
  have hlu : lv ((upd U (limbs (W % V)) i k).drop i) = W % V := by
    rw [hud, lv_append, lv_append, lv_zeros, hw0, lv_limbs]; simp
  refine ⟨⟨by rw [upd_len (by omega) hRl, hl], ?_, by rw [List.length_set]; exact hql, hqs.set i q hq9, ?_, by rw [hlu]; exact hm⟩, hq9, hRl⟩
  · unfold upd
    exact (((hs.take i).append (limbs_small _)).append (Small.zeros _)).append (fun x hx => hs x (List.mem_of_mem_drop hx))
  · rw [lv_split (upd U (limbs (W % V)) i k) i (by rw [upd_len (by omega) hRl]; omega), upd_take (by omega), hlu, ← he, lv_split U i (by omega), ← hW]
    rw [lv_drop (L := Q.set i q) i (by rw [List.length_set]; omega), List.getElem_set_self, List.drop_set_of_lt (by omega)]
    have e1 : V * q + W % V = W := by rw [hq]; exact Nat.div_add_mod W V
    have e2 : 1000000000 ^ i * W = 1000000000 ^ i * (q * V) + 1000000000 ^ i * (W % V) := by rw [← Nat.mul_add, Nat.mul_comm q, e1]
    have e3 : 1000000000 ^ i * ((q + 1000000000 * lv (Q.drop (i + 1))) * V) = 1000000000 ^ i * (q * V) + 1000000000 ^ (i + 1) * (lv (Q.drop (i + 1)) * V) := by
      rw [Nat.add_mul, Nat.mul_add, Nat.pow_succ, Nat.mul_assoc (1000000000 ^ i), Nat.mul_assoc 1000000000]
    rw [e2, e3]
    omega

theorem top3 (P : List Nat) (n : Nat) (h : P.length = n + 3) : ∃ a b c, P[n + 2]? = some a ∧ P[n + 1]? = some b ∧ P[n]? = some c ∧ lv P = ((a * 1000000000 + b) * 1000000000 + c) * 1000000000 ^ n + lv (P.take n) :=
  ⟨P[n + 2], P[n + 1], P[n], List.getElem?_eq_getElem _, List.getElem?_eq_getElem _, List.getElem?_eq_getElem _, lv_top3 P n h⟩
theorem top2 (P : List Nat) (n : Nat) (h : P.length = n + 2) : ∃ a b, P[n + 1]? = some a ∧ P[n]? = some b ∧ lv P = (a * 1000000000 + b) * 1000000000 ^ n + lv (P.take n) :=
  ⟨P[n + 1], P[n], List.getElem?_eq_getElem _, List.getElem?_eq_getElem _, lv_top2 P n h⟩
theorem Small.of_get {L : List Nat} (h : Small L) {i x : Nat} (hx : L[i]? = some x) : x < 1000000000 := by
  rcases Nat.lt_or_ge i L.length with hi | hi
  · rw [List.getElem?_eq_getElem hi] at hx
    rw [← Option.some.inj hx]; exact h.get i hi
  · rw [List.getElem?_eq_none hi] at hx; cases hx

/-- The limbs that a round looks at. -/
theorem DivInv.round {U Q O2 : List Nat} {V u0 n k i : Nat} (h : DivInv U Q V u0 n (k + 2) (i + 1)) (hi : i + (k + 2) < n) (ho2 : O2.length = k + 4) (hs2 : Small O2) (hv2 : lv O2 = V) (hvl : (limbs V).length = k + 2) :
    ∃ u1 u2 u3 ul v1 v2 vl W : Nat, U[i + (k + 2)]? = some u1 ∧ U[i + (k + 1)]? = some u2 ∧ U[i + k]? = some u3 ∧ O2[k + 1]? = some v1 ∧ O2[k]? = some v2 ∧ W = lv (U.drop i) ∧
      W = ((u1 * 1000000000 + u2) * 1000000000 + u3) * 1000000000 ^ k + ul ∧ V = (v1 * 1000000000 + v2) * 1000000000 ^ k + vl ∧
      u1 < 1000000000 ∧ u2 < 1000000000 ∧ u3 < 1000000000 ∧ v1 < 1000000000 ∧ v2 < 1000000000 ∧ ul < 1000000000 ^ k ∧ vl < 1000000000 ^ k ∧ 0 < v1 ∧ u1 ≤ v1 ∧ W / V < 1000000000 ∧ 0 < V ∧ V < 1000000000 ^ (k + 2) := by
  have hV : V < 1000000000 ^ (k + 2) := by have := limbs_len_lt V; rwa [hvl] at this
  have hV0 : V ≠ 0 := by rintro rfl; rw [limbs_zero] at hvl; simp at hvl
  obtain ⟨hw1, hw0, hw2⟩ := h.window hV hi
  have hUl := h.1
  have hUs := h.2.1
  have hPl : ((U.drop i).take (k + 2 + 1)).length = k + 3 := by rw [List.length_take, List.length_drop]; omega
  have hPs : Small ((U.drop i).take (k + 2 + 1)) := Small.take (fun x hx => hUs x (List.mem_of_mem_drop hx)) _
  obtain ⟨u1, u2, u3, a1, a2, a3, e1⟩ := top3 _ k hPl
  rw [hw2] at e1
  have b1 := hPs.of_get a1
  have b2 := hPs.of_get a2
  have b3 := hPs.of_get a3
  have hg : ∀ j x, ((U.drop i).take (k + 2 + 1))[j]? = some x → j < k + 3 → U[i + j]? = some x := fun j x hx hj => by
    rwa [List.getElem?_take, if_pos (by omega), List.getElem?_drop] at hx
  have hT : limbs V = O2.take (k + 2) := by
    have := limbs_eq_take O2 hs2
    rwa [hv2, hvl] at this
  obtain ⟨v1, v2, c1, c2, e2⟩ := top2 (limbs V) k hvl
  rw [lv_limbs] at e2
  have d1 := (limbs_small V).of_get c1
  have d2 := (limbs_small V).of_get c2
  have hv0 : v1 ≠ 0 := by
    have hlast := limbs_last hV0
    rw [List.getElem?_eq_getElem (by omega)] at c1
    simp only [hvl, show k + 2 - 1 = k + 1 by omega] at hlast
    rw [← Option.some.inj c1]; exact hlast
  have hul := lv_lt _ (hPs.take k)
  rw [List.length_take, Nat.min_eq_left (by omega)] at hul
  have hvll := lv_lt _ ((limbs_small V).take k)
  rw [List.length_take, Nat.min_eq_left (by omega)] at hvll
  have hT2 : ∀ j x, (limbs V)[j]? = some x → j < k + 2 → O2[j]? = some x := fun j x hx hj => by
    rwa [hT, List.getElem?_take, if_pos hj] at hx
  refine ⟨u1, u2, u3, _, v1, v2, _, lv (U.drop i), hg _ _ a1 (by omega), hg _ _ a2 (by omega), hg _ _ a3 (by omega), hT2 _ _ c1 (by omega), hT2 _ _ c2 (by omega), rfl, e1, e2, b1, b2, b3, d1, d2, hul, hvll, by omega, ?_, ?_, by omega, hV⟩
  · have f1 : u1 * (1000000000 * 1000000000 * 1000000000 ^ k) ≤ lv (U.drop i) := by
      rw [e1]
      have : u1 * (1000000000 * 1000000000 * 1000000000 ^ k) = u1 * 1000000000 * 1000000000 * 1000000000 ^ k := by ac_rfl
      rw [this, Nat.add_mul, Nat.add_mul, Nat.add_mul]
      omega
    have f2 : V * 1000000000 ≤ (v1 + 1) * (1000000000 * 1000000000 * 1000000000 ^ k) := by
      have g1 : V ≤ (v1 + 1) * 1000000000 * 1000000000 ^ k := by
        rw [e2, Nat.add_mul v1 1, Nat.one_mul, Nat.add_mul, Nat.add_mul]
        have : (v2 + 1) * 1000000000 ^ k ≤ 1000000000 * 1000000000 ^ k := Nat.mul_le_mul_right _ d2
        rw [Nat.add_mul, Nat.one_mul] at this
        omega
      have g2 := Nat.mul_le_mul_right 1000000000 g1
      refine Nat.le_trans g2 (Nat.le_of_eq ?_)
      ac_rfl
    have f3 := guess_lt (Nat.lt_of_le_of_lt f1 (Nat.lt_of_lt_of_le hw1 f2))
    omega
  · exact Nat.div_lt_of_lt_mul hw1

/-- At the end: quotient and remainder. -/
theorem DivInv.done {U Q : List Nat} {p q d n k : Nat} (h : DivInv U Q (q * d) (p * d) n k 0) (hd : 0 < d) : lv Q = p / q ∧ lv U / d = p % q := by
  obtain ⟨_, _, _, _, he, hlt⟩ := h
  simp only [List.drop_zero, Nat.pow_zero, Nat.one_mul] at he hlt
  have hq : 0 < q := by
    rcases Nat.eq_zero_or_pos q with h | h
    · subst h; simp at hlt
    · exact h
  have hdv : d ∣ lv U := by
    have h1 : d ∣ p * d := Nat.dvd_mul_left _ _
    have h2 : d ∣ lv Q * (q * d) := Nat.dvd_trans (Nat.dvd_mul_left _ _) (Nat.dvd_mul_left _ _)
    rw [← he] at h1
    exact (Nat.dvd_add_left h2).1 h1
  obtain ⟨r, hr⟩ := hdv
  rw [hr, Nat.mul_comm d r] at he hlt
  have h3 : r + lv Q * q = p := by
    have : (r + lv Q * q) * d = p * d := by rw [Nat.add_mul, Nat.mul_assoc]; exact he
    exact Nat.eq_of_mul_eq_mul_right hd this
  have h4 : r < q := Nat.lt_of_mul_lt_mul_right hlt
  rw [hr, Nat.mul_div_cancel_left _ hd, ← h3]
  constructor
  · rw [Nat.add_mul_div_right _ _ hq, Nat.div_eq_of_lt h4, Nat.zero_add]
  · rw [Nat.add_mul_mod_self_right, Nat.mod_eq_of_lt h4]
/-- At the start. -/
theorem DivInv.start {M N U : List Nat} {d : Nat} (hM : Small M) (hU : Small U) (hn : 0 < N.length) (htop : N[N.length - 1] ≠ 0) (hd0 : 0 < d) (hUl : U.length = M.length + 1) (hUv : lv U = lv M * d) (hle : N.length ≤ M.length) :
    DivInv U (List.replicate (M.length + 1 - N.length) 0) (lv N * d) (lv M * d) (M.length + 1) N.length (M.length + 1 - N.length) := by
  refine ⟨hUl, hU, by simp, Small.zeros _, by rw [List.drop_of_length_le (by simp)]; simp [lv, hUv], ?_⟩
  obtain ⟨k, hk⟩ : ∃ k, N.length = k + 1 := ⟨N.length - 1, by omega⟩
  have hN1 : 1000000000 ^ k ≤ lv N := by
    rw [lv_split N k (by omega), lv_drop k (by omega)]
    have : N[k] ≠ 0 := by simpa [hk] using htop
    have h1 : 1000000000 ^ k * 1 ≤ 1000000000 ^ k * (N[k] + 1000000000 * lv (N.drop (k + 1))) := Nat.mul_le_mul_left _ (by omega)
    omega
  have hM1 := lv_lt M hM
  have hlu := lv_split U (M.length + 1 - N.length) (by omega)
  rw [hUv] at hlu
  have h2 : 1000000000 ^ (M.length + 1 - N.length) * lv (U.drop (M.length + 1 - N.length)) < 1000000000 ^ (M.length + 1 - N.length) * (1000000000 ^ k * d) := by
    have e : 1000000000 ^ (M.length + 1 - N.length) * (1000000000 ^ k * d) = 1000000000 ^ M.length * d := by
      rw [← Nat.mul_assoc, ← Nat.pow_add]; congr 2; omega
    rw [e]
    have := Nat.mul_lt_mul_of_pos_right hM1 hd0
    omega
  exact Nat.lt_of_lt_of_le (Nat.lt_of_mul_lt_mul_left h2) (Nat.mul_le_mul_right _ hN1)

end Go.Proofs.YtplonkeipdbchaaGreatDoor
