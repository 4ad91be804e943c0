/- Plain law of adding and taking away groups with a carry. Conditions: none beyond those that each lemma names. -/
import Derived.Test.YtiokjnfhopdleaaGreatDoorNum4
namespace Go.Proofs.YtiokjnfhopdleaaGreatDoor

theorem gv_take_any (L : List Nat) (i : Nat) : gv (L.take (i + 1)) = gv (L.take i) + 10000 ^ i * (L[i]?.getD 0) := by
  by_cases h : i < L.length
  · rw [gv_take_succ L i h, List.getElem?_eq_getElem h]; rfl
  · rw [List.take_of_length_le (by omega), List.take_of_length_le (by omega), List.getElem?_eq_none (by omega)]; simp

/-- What holds after i rounds: the groups that are written, and the carry. -/
def BothInv (G H O : List Nat) (i : Nat) (c sg : Int) : Prop :=
  O.length = i ∧ Small4 O ∧ (gv O : Int) + 10000 ^ i * c = gv (G.take i) + sg * gv (H.take i) ∧ ((sg = 1 ∧ 0 ≤ c ∧ c ≤ 1) ∨ (sg = -1 ∧ -1 ≤ c ∧ c ≤ 0))

theorem BothInv.start (G H : List Nat) (sg : Int) (h : sg = 1 ∨ sg = -1) : BothInv G H [] 0 0 sg :=
  ⟨rfl, Small4.nil, by simp [gv], by omega⟩

theorem Small4.getD {L : List Nat} (h : Small4 L) (i : Nat) : L[i]?.getD 0 < 10000 := by
  by_cases hi : i < L.length
  · rw [List.getElem?_eq_getElem hi]; exact h.get i hi
  · rw [List.getElem?_eq_none (by omega)]; simp

/-- One round. -/
theorem BothInv.step {G H O : List Nat} {i : Nat} {c sg t c' : Int} {d x y : Nat} (h : BothInv G H O i c sg) (hG : Small4 G) (hH : Small4 H) (hx : x = G[i]?.getD 0) (hy : y = H[i]?.getD 0)
    (ht : t = c + x + sg * y) (hd : (d : Int) = t % 10000) (hc : c' = t / 10000) : BothInv G H (O ++ [d]) (i + 1) c' sg := by
  obtain ⟨hl, hs, he, hsg⟩ := h
  have hx4 : x < 10000 := by rw [hx]; exact hG.getD i
  have hy4 : y < 10000 := by rw [hy]; exact hH.getD i
  refine ⟨by rw [List.length_append, hl]; rfl, hs.append (Small4.one (by omega)), ?_, ?_⟩
  · rw [gv_append, gv_one, hl, gv_take_any G i, gv_take_any H i, ← hx, ← hy]
    have hp : (10000 : Int) ^ (i + 1) = 10000 ^ i * 10000 := by rw [Int.pow_succ]
    have htt : t = d + 10000 * c' := by rw [hd, hc]; exact (Int.emod_add_mul_ediv t 10000).symm
    have cast (a b : Nat) : ((a + 10000 ^ i * b : Nat) : Int) = a + 10000 ^ i * b := by rw [Int.natCast_add, Int.natCast_mul, Int.natCast_pow]; rfl
    rw [cast, cast, cast, hp, Int.mul_assoc, Int.mul_add sg, ← Int.add_assoc]
    have e1 : (10000 : Int) ^ i * d + 10000 ^ i * (10000 * c') = 10000 ^ i * t := by rw [← Int.mul_add, htt]
    have e2 : (10000 : Int) ^ i * t = 10000 ^ i * c + 10000 ^ i * x + sg * (10000 ^ i * y) := by
      rw [ht, Int.mul_add, Int.mul_add, Int.mul_left_comm sg]
    omega
  · rcases hsg with ⟨rfl, h1, h2⟩ | ⟨rfl, h1, h2⟩
    · left; refine ⟨rfl, ?_, ?_⟩ <;> omega
    · right; refine ⟨rfl, ?_, ?_⟩ <;> omega

/-- At the end. -/
theorem BothInv.done {G H O : List Nat} {i : Nat} {sg : Int} (h : BothInv G H O i 0 sg) (h1 : G.length ≤ i) (h2 : H.length ≤ i) : (gv O : Int) = gv G + sg * gv H := by
  have := h.2.2.1
  rwa [List.take_of_length_le h1, List.take_of_length_le h2, Int.mul_zero, Int.add_zero] at this

/-- Behind both there is no debt. -/
theorem BothInv.noDebt {G H O : List Nat} {i : Nat} {c : Int} (h : BothInv G H O i c (-1)) (h1 : G.length ≤ i) (h2 : H.length ≤ i) (hle : gv H ≤ gv G) : c = 0 := by
  obtain ⟨hl, hs, he, hsg⟩ := h
  rw [List.take_of_length_le h1, List.take_of_length_le h2] at he
  have hlt := gv_lt O hs
  rw [hl] at hlt
  have hlt' : (gv O : Int) < 10000 ^ i := by
    have := Int.ofNat_lt.2 hlt
    rwa [Int.natCast_pow] at this
  rcases hsg with ⟨h, _⟩ | ⟨_, h3, h4⟩
  · omega
  · by_cases hc : c = 0
    · exact hc
    · have : c = -1 := by omega
      subst this
      omega

end Go.Proofs.YtiokjnfhopdleaaGreatDoor
