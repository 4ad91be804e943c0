/- Plain laws on grps and decimal digits: a list of grps below 10000, the lowest one first, and the number that it writes. No program in this text. Conditions: none beyond those that each lemma names.
Plain law of adding and taking away groups with a carry. Conditions: none beyond those that each lemma names.
Plain law of multiplying groups row by row. Conditions: none beyond those that each lemma names. -/
import Derived.Lib.ItoaMem
namespace Go.Proofs.YtplonkeipdbchaaGreatDoor

/-- The number that grps write, the lowest one first. -/
def gv : List Nat → Nat
  | [] => 0
  | x :: xs => x + 10000 * gv xs

/-- All grps are below the base. -/
def Small4 (L : List Nat) : Prop := ∀ x, x ∈ L → x < 10000

/-- The grps of a number, none for 0. -/
def grps (n : Nat) : List Nat := if h : n = 0 then [] else n % 10000 :: grps (n / 10000)
termination_by n
decreasing_by omega

theorem grps_zero : grps 0 = [] := by rw [grps, dif_pos rfl]
theorem grps_pos {n : Nat} (h : n ≠ 0) : grps n = n % 10000 :: grps (n / 10000) := by rw [grps, dif_neg h]
theorem grps_eq_nil {n : Nat} : grps n = [] ↔ n = 0 := by
  constructor
  · intro h
    by_cases h0 : n = 0
    · exact h0
    · rw [grps_pos h0] at h; cases h
  · rintro rfl; exact grps_zero
theorem grps_len_pos {n : Nat} (h : n ≠ 0) : 0 < (grps n).length := by rw [grps_pos h]; simp

theorem gv_grps (n : Nat) : gv (grps n) = n := by
  induction n using Nat.strongRecOn with
  | _ n ih =>
    by_cases h : n = 0
    · subst h; rw [grps_zero]; rfl
    · rw [grps_pos h, gv, ih (n / 10000) (by omega)]; omega

theorem grps_small (n : Nat) : Small4 (grps n) := by
  induction n using Nat.strongRecOn with
  | _ n ih =>
    by_cases h : n = 0
    · subst h; rw [grps_zero]; intro x hx; cases hx
    · rw [grps_pos h]
      intro x hx
      rcases List.mem_cons.1 hx with rfl | hx
      · omega
      · exact ih (n / 10000) (by omega) x hx

theorem Small4.tail {x : Nat} {L : List Nat} (h : Small4 (x :: L)) : Small4 L := fun y hy => h y (List.mem_cons_of_mem _ hy)
theorem Small4.head {x : Nat} {L : List Nat} (h : Small4 (x :: L)) : x < 10000 := h x (List.mem_cons_self ..)
theorem Small4.nil : Small4 [] := fun _ h => by cases h
theorem Small4.take {L : List Nat} (h : Small4 L) (k : Nat) : Small4 (L.take k) := fun x hx => h x (List.mem_of_mem_take hx)
theorem Small4.append {L M : List Nat} (h : Small4 L) (k : Small4 M) : Small4 (L ++ M) := fun x hx => (List.mem_append.1 hx).elim (h x) (k x)
theorem Small4.one {x : Nat} (h : x < 10000) : Small4 [x] := fun y hy => by rw [List.mem_singleton.1 hy]; exact h
theorem Small4.get {L : List Nat} (h : Small4 L) (i : Nat) (hi : i < L.length) : L[i] < 10000 := h _ (List.getElem_mem hi)
theorem Small4.set {L : List Nat} (h : Small4 L) (i x : Nat) (hx : x < 10000) : Small4 (L.set i x) := fun y hy => by
  rcases List.mem_or_eq_of_mem_set hy with hy | rfl
  · exact h y hy
  · exact hx
theorem Small4.zeros (n : Nat) : Small4 (List.replicate n 0) := fun x hx => by rw [(List.mem_replicate.1 hx).2]; omega

theorem gv_append (L M : List Nat) : gv (L ++ M) = gv L + 10000 ^ L.length * gv M := by
  induction L with
  | nil => simp [gv]
  | cons x L ih =>
    simp only [List.cons_append, gv, ih, List.length_cons, Nat.pow_succ, Nat.mul_add]
    rw [Nat.mul_comm (10000 ^ L.length) 10000, Nat.mul_assoc, Nat.add_assoc]
theorem gv_one (x : Nat) : gv [x] = x := by simp [gv]
theorem gv_zeros (n : Nat) : gv (List.replicate n 0) = 0 := by
  induction n with
  | zero => rfl
  | succ n ih => simp [List.replicate_succ, gv, ih]
theorem gv_take_succ (L : List Nat) (k : Nat) (h : k < L.length) : gv (L.take (k + 1)) = gv (L.take k) + 10000 ^ k * L[k] := by
  rw [List.take_succ_eq_append_getElem h, gv_append, gv_one, List.length_take, Nat.min_eq_left (Nat.le_of_lt h)]
theorem gv_set (L : List Nat) (i x : Nat) (h : i < L.length) : gv (L.set i x) + 10000 ^ i * L[i] = gv L + 10000 ^ i * x := by
  induction L generalizing i with
  | nil => simp at h
  | cons y L ih =>
    cases i with
    | zero => simp [gv]; omega
    | succ i =>
      have hi : i < L.length := by simpa using h
      have := ih i hi
      simp only [List.set_cons_succ, gv, List.getElem_cons_succ, Nat.pow_succ]
      have e1 : 10000 ^ i * 10000 * L[i] = 10000 * (10000 ^ i * L[i]) := by rw [Nat.mul_comm (10000 ^ i), Nat.mul_assoc]
      have e2 : 10000 ^ i * 10000 * x = 10000 * (10000 ^ i * x) := by rw [Nat.mul_comm (10000 ^ i), Nat.mul_assoc]
      rw [e1, e2]; omega
theorem gv_lt (L : List Nat) (h : Small4 L) : gv L < 10000 ^ L.length := by
  induction L with
  | nil => simp [gv]
  | cons x L ih =>
    have := ih h.tail
    have hx := h.head
    simp only [gv, List.length_cons, Nat.pow_succ]
    omega

/-- Without a zero at its end a list is the grps of its number. -/
theorem grps_gv (L : List Nat) (h : Small4 L) (hz : ∀ hl : 0 < L.length, L[L.length - 1] ≠ 0) : grps (gv L) = L := by
  induction L with
  | nil => exact grps_zero
  | cons x L ih =>
    have hx := h.head
    have hne : gv (x :: L) ≠ 0 := by
      intro h0
      simp only [gv] at h0
      have hx0 : x = 0 := by omega
      have hl0 : gv L = 0 := by omega
      have e := ih h.tail (fun hl => by have := hz (by simp); simp only [List.length_cons, Nat.add_sub_cancel] at this; rw [List.getElem_cons] at this; rw [dif_neg (by omega)] at this; exact this)
      rw [hl0, grps_zero] at e
      subst e
      exact hz (by simp) (by simpa using hx0)
    rw [grps_pos hne]
    have e1 : gv (x :: L) % 10000 = x := by simp only [gv]; omega
    have e2 : gv (x :: L) / 10000 = gv L := by simp only [gv]; omega
    rw [e1, e2, ih h.tail (fun hl => by have := hz (by simp); simp only [List.length_cons, Nat.add_sub_cancel] at this; rw [List.getElem_cons] at this; rw [dif_neg (by omega)] at this; exact this)]

theorem grps_last {n : Nat} (h : n ≠ 0) : (grps n)[(grps n).length - 1]'(by have := grps_len_pos h; omega) ≠ 0 := by
  induction n using Nat.strongRecOn with
  | _ n ih =>
    by_cases h2 : n / 10000 = 0
    · have e : grps n = [n % 10000] := by rw [grps_pos h, h2, grps_zero]
      have e3 : ∀ (M : List Nat) (k : Nat) (hk : k < M.length), M = [n % 10000] → M[k] = n % 10000 := by
        intro M k hk hM; subst hM; simp
      rw [e3 _ _ _ e]
      omega
    · have := ih (n / 10000) (by omega) h2
      have hp := grps_len_pos h2
      have e : grps n = n % 10000 :: grps (n / 10000) := grps_pos h
      simp only [e, List.length_cons, Nat.add_sub_cancel]
      rw [List.getElem_cons, dif_neg (by omega)]
      exact this

/-- What 'trim' comes to: so much of the list as its number has grps. -/
theorem grps_take (L : List Nat) (h : Small4 L) (k : Nat) (hk : k ≤ L.length) (he : gv (L.take k) = gv L) (hz : ∀ hl : 0 < k, L[k - 1]'(by omega) ≠ 0) :
    grps (gv L) = L.take k := by
  rw [← he]
  refine grps_gv _ (h.take k) fun hl => ?_
  rw [List.length_take, Nat.min_eq_left hk] at hl
  have := hz hl
  simp only [List.length_take, Nat.min_eq_left hk, List.getElem_take]
  exact this
theorem grps_len_of (L : List Nat) (h : Small4 L) (k : Nat) (hk : k ≤ L.length) (he : gv (L.take k) = gv L) (hz : ∀ hl : 0 < k, L[k - 1]'(by omega) ≠ 0) :
    (grps (gv L)).length = k := by rw [grps_take L h k hk he hz, List.length_take, Nat.min_eq_left hk]

theorem grps_len_le (n k : Nat) (h : n < 10000 ^ k) : (grps n).length ≤ k := by
  induction k generalizing n with
  | zero => have : n = 0 := by simp at h; exact h
            subst this; simp [grps_zero]
  | succ k ih =>
    by_cases h0 : n = 0
    · subst h0; simp [grps_zero]
    · rw [grps_pos h0, List.length_cons]
      have := ih (n / 10000) (by rw [Nat.pow_succ] at h; omega)
      omega
theorem grps_len_lt (n : Nat) : n < 10000 ^ (grps n).length := by
  have := gv_lt _ (grps_small n)
  rwa [gv_grps] at this
theorem grps_len_mono {m n : Nat} (h : m ≤ n) : (grps m).length ≤ (grps n).length := grps_len_le _ _ (Nat.lt_of_le_of_lt h (grps_len_lt n))
theorem grps_len_mul (m n : Nat) : (grps (m * n)).length ≤ (grps m).length + (grps n).length := by
  refine grps_len_le _ _ ?_
  rw [Nat.pow_add]
  exact Nat.mul_lt_mul'' (grps_len_lt m) (grps_len_lt n)
theorem grps_eq_take (L : List Nat) (h : Small4 L) : grps (gv L) = L.take (grps (gv L)).length := by
  -- the longest beginning without a zero at its end
  have key : ∀ k, k ≤ L.length → gv (L.take k) = gv L → grps (gv L) = L.take (grps (gv L)).length := by
    intro k
    induction k with
    | zero => intro _ he; rw [← he]; simp [gv, grps_zero]
    | succ k ih =>
      intro hk he
      by_cases hz : L[k] = 0
      · exact ih (by omega) (by rw [← he, gv_take_succ L k (by omega), hz]; simp)
      · have e := grps_take L h (k + 1) hk he (fun _ => by simpa using hz)
        rw [e, List.length_take, Nat.min_eq_left hk]
  exact key L.length (Nat.le_refl _) (by rw [List.take_length])
theorem grps_len_le_len (L : List Nat) (h : Small4 L) : (grps (gv L)).length ≤ L.length := by
  have := congrArg List.length (grps_eq_take L h)
  rw [List.length_take] at this
  omega

end Go.Proofs.YtplonkeipdbchaaGreatDoor

namespace Go.Proofs.YtplonkeipdbchaaGreatDoor

theorem gv_take_any (L : List Nat) (i : Nat) : gv (L.take (i + 1)) = gv (L.take i) + 10000 ^ i * (L[i]?.getD 0) := by
  by_cases h : i < L.length
  · rw [gv_take_succ L i h, List.getElem?_eq_getElem h]; rfl
  · rw [List.take_of_length_le (by omega), List.take_of_length_le (by omega), List.getElem?_eq_none (by omega)]; simp

/-- What holds after i rounds: the groups that are written, and the carry. -/
def BothInv (G H O : List Nat) (i : Nat) (c sg : Int) : Prop :=
  O.length = i ∧ Small4 O ∧ (gv O : Int) + 10000 ^ i * c = gv (G.take i) + sg * gv (H.take i) ∧ ((sg = 1 ∧ 0 ≤ c ∧ c ≤ 1) ∨ (sg = -1 ∧ -1 ≤ c ∧ c ≤ 0))

theorem BothInv.start (G H : List Nat) (sg : Int) (h : sg = 1 ∨ sg = -1) : BothInv G H [] 0 0 sg :=
  ⟨rfl, Small4.nil, by simp [gv], by omega⟩

theorem Small4.getD {L : List Nat} (h : Small4 L) (i : Nat) : L[i]?.getD 0 < 10000 := by
  by_cases hi : i < L.length
  · rw [List.getElem?_eq_getElem hi]; exact h.get i hi
  · rw [List.getElem?_eq_none (by omega)]; simp

/-- One round. -/
theorem BothInv.step {G H O : List Nat} {i : Nat} {c sg t c' : Int} {d x y : Nat} (h : BothInv G H O i c sg) (hG : Small4 G) (hH : Small4 H) (hx : x = G[i]?.getD 0) (hy : y = H[i]?.getD 0)
    (ht : t = c + x + sg * y) (hd : (d : Int) = t % 10000) (hc : c' = t / 10000) : BothInv G H (O ++ [d]) (i + 1) c' sg := by
  obtain ⟨hl, hs, he, hsg⟩ := h
  have hx4 : x < 10000 := by rw [hx]; exact hG.getD i
  have hy4 : y < 10000 := by rw [hy]; exact hH.getD i
  refine ⟨by rw [List.length_append, hl]; rfl, hs.append (Small4.one (by omega)), ?_, ?_⟩
  · rw [gv_append, gv_one, hl, gv_take_any G i, gv_take_any H i, ← hx, ← hy]
    have hp : (10000 : Int) ^ (i + 1) = 10000 ^ i * 10000 := by rw [Int.pow_succ]
    have htt : t = d + 10000 * c' := by rw [hd, hc]; exact (Int.emod_add_mul_ediv t 10000).symm
    have cast (a b : Nat) : ((a + 10000 ^ i * b : Nat) : Int) = a + 10000 ^ i * b := by rw [Int.natCast_add, Int.natCast_mul, Int.natCast_pow]; rfl
    rw [cast, cast, cast, hp, Int.mul_assoc, Int.mul_add sg, ← Int.add_assoc]
    have e1 : (10000 : Int) ^ i * d + 10000 ^ i * (10000 * c') = 10000 ^ i * t := by rw [← Int.mul_add, htt]
    have e2 : (10000 : Int) ^ i * t = 10000 ^ i * c + 10000 ^ i * x + sg * (10000 ^ i * y) := by
      rw [ht, Int.mul_add, Int.mul_add, Int.mul_left_comm sg]
    omega
  · rcases hsg with ⟨rfl, h1, h2⟩ | ⟨rfl, h1, h2⟩
    · left; refine ⟨rfl, ?_, ?_⟩ <;> omega
    · right; refine ⟨rfl, ?_, ?_⟩ <;> omega

/-- At the end. -/
theorem BothInv.done {G H O : List Nat} {i : Nat} {sg : Int} (h : BothInv G H O i 0 sg) (h1 : G.length ≤ i) (h2 : H.length ≤ i) : (gv O : Int) = gv G + sg * gv H := by
  have := h.2.2.1
  rwa [List.take_of_length_le h1, List.take_of_length_le h2, Int.mul_zero, Int.add_zero] at this

/-- Behind both there is no debt. -/
theorem BothInv.noDebt {G H O : List Nat} {i : Nat} {c : Int} (h : BothInv G H O i c (-1)) (h1 : G.length ≤ i) (h2 : H.length ≤ i) (hle : gv H ≤ gv G) : c = 0 := by
  obtain ⟨hl, hs, he, hsg⟩ := h
  rw [List.take_of_length_le h1, List.take_of_length_le h2] at he
  have hlt := gv_lt O hs
  rw [hl] at hlt
  have hlt' : (gv O : Int) < 10000 ^ i := by
    have := Int.ofNat_lt.2 hlt
    rwa [Int.natCast_pow] at this
  rcases hsg with ⟨h, _⟩ | ⟨_, h3, h4⟩
  · omega
  · by_cases hc : c = 0
    · exact hc
    · have : c = -1 := by omega
      subst this
      omega

end Go.Proofs.YtplonkeipdbchaaGreatDoor

namespace Go.Proofs.YtplonkeipdbchaaGreatDoor

/-- What holds after k rounds of a row: the groups that are written, and the carry. -/
def InRow (H : List Nat) (x k : Nat) (O : List Nat) (c : Nat) : Prop :=
  O.length = k ∧ Small4 O ∧ gv O + 10000 ^ k * c = x * gv (H.take k) ∧ c < 10000 ∧ (H.length < k → c = 0)

theorem InRow.start (H : List Nat) (x : Nat) : InRow H x 0 [] 0 := ⟨rfl, Small4.nil, by simp [gv], by omega, fun _ => rfl⟩

theorem mul_lt4 {c x y : Nat} (hc : c < 10000) (hx : x < 10000) (hy : y < 10000) : c + x * y < 100000000 := by
  have : x * y ≤ 9999 * 9999 := Nat.mul_le_mul (by omega) (by omega)
  omega

theorem InRow.step {H O : List Nat} {x k c y t : Nat} (h : InRow H x k O c) (hx : x < 10000) (hH : Small4 H) (hy : y = H[k]?.getD 0) (ht : t = c + x * y) :
    InRow H x (k + 1) (O ++ [t % 10000]) (t / 10000) := by
  obtain ⟨hl, hs, he, hc, h0⟩ := h
  have hy4 : y < 10000 := by rw [hy]; exact hH.getD k
  have htb := mul_lt4 hc hx hy4
  rw [← ht] at htb
  refine ⟨by rw [List.length_append, hl]; rfl, hs.append (Small4.one (by omega)), ?_, by omega, ?_⟩
  · rw [gv_append, gv_one, hl, gv_take_any H k, ← hy, Nat.mul_add x, ← he, Nat.pow_succ]
    have e1 : 10000 ^ k * (t % 10000) + 10000 ^ k * 10000 * (t / 10000) = 10000 ^ k * t := by
      rw [Nat.mul_assoc, ← Nat.mul_add, Nat.mod_add_div]
    have e2 : 10000 ^ k * t = 10000 ^ k * c + x * (10000 ^ k * y) := by rw [ht, Nat.mul_add, Nat.mul_left_comm x]
    omega
  · intro hk
    by_cases hk2 : H.length < k
    · have hc0 := h0 hk2
      have : y = 0 := by rw [hy, List.getElem?_eq_none (by omega)]; rfl
      rw [ht, hc0, this]; simp
    · have : y = 0 := by rw [hy, List.getElem?_eq_none (by omega)]; rfl
      rw [ht, this, Nat.mul_zero, Nat.add_zero]
      exact Nat.div_eq_of_lt hc

theorem InRow.done {H O : List Nat} {x k : Nat} (h : InRow H x k O 0) (hk : H.length ≤ k) : gv O = x * gv H := by
  have := h.2.2.1
  rwa [List.take_of_length_le hk, Nat.mul_zero, Nat.add_zero] at this

/-- A row shifted by i groups. -/
theorem gv_shift (i : Nat) (O : List Nat) : gv (List.replicate i 0 ++ O) = 10000 ^ i * gv O := by
  rw [gv_append, gv_zeros, List.length_replicate, Nat.zero_add]
theorem times_row {G H O : List Nat} {x k i : Nat} (h : InRow H x k O 0) (hk : H.length ≤ k) (hi : i < G.length) (hx : x = G[i]) :
    gv (G.take i) * gv H + gv (List.replicate i 0 ++ O) = gv (G.take (i + 1)) * gv H := by
  rw [gv_shift, h.done hk, gv_take_succ G i hi, ← hx, Nat.add_mul, Nat.mul_assoc]
theorem Small4.row {O : List Nat} (h : Small4 O) (i : Nat) : Small4 (List.replicate i 0 ++ O) := (Small4.zeros i).append h
theorem grps_mul_len {G H : List Nat} (hG : Small4 G) (hH : Small4 H) (i : Nat) : (grps (gv (G.take i) * gv H)).length ≤ G.length + H.length := by
  apply grps_len_le
  have h1 := gv_lt _ (hG.take i)
  have h2 := gv_lt _ hH
  have h3 : 10000 ^ (G.take i).length ≤ 10000 ^ G.length := Nat.pow_le_pow_right (by decide) (by rw [List.length_take]; omega)
  rw [Nat.pow_add]
  exact Nat.mul_lt_mul_of_lt_of_lt (Nat.lt_of_lt_of_le h1 h3) h2

end Go.Proofs.YtplonkeipdbchaaGreatDoor
