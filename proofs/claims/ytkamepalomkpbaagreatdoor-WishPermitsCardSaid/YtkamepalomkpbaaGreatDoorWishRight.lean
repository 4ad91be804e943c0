/- Made problems are right; the plain law of WishParts; a part of a group. No function is walked here. Conditions: those that each lemma names. -/
import Derived.Test.YtkamepalomkpbaaGreatDoorWishMake
namespace Go.Proofs.YtkamepalomkpbaaGreatDoor
open Go.RowKit

instance (n d : Int) : Decidable (PR n d) := by unfold PR; infer_instance
theorem pit_pr : ∀ k, k < 6 → PR (pitN k : Nat) (pitD k : Nat) := by
  intro k hk
  match k, hk with
  | 0, _ => decide +kernel
  | 1, _ => decide +kernel
  | 2, _ => decide +kernel
  | 3, _ => decide +kernel
  | 4, _ => decide +kernel
  | 5, _ => decide +kernel
theorem tone_name (r : Nat) : nameB (toneOf r) = true := by
  unfold toneOf
  split <;> decide +kernel
theorem mkW_err (i : Nat) (x : Wnt) : wE (mkW i x) = 0 := by
  have h6 := pit_pr (x.ft % 6) (Nat.mod_lt _ (by decide))
  unfold wE mkW
  dsimp only
  rw [if_neg (by omega), if_neg (by rw [tone_name]; decide), if_neg (by rw [pErr_ok h6]; decide)]
  unfold cmE
  rw [if_neg (by omega), if_neg (by omega)]
theorem wName_name : ∀ i, i < 5 → nameB (wName i) = true := by decide +kernel
theorem wName_ne : ∀ i, i < 5 → ∀ j, j < 5 → wName i = wName j → i = j := by decide +kernel
/-- The names of made wishes are right, and differ. -/
theorem mk_wsE (L : List Wnt) : ∀ i, i + L.length ≤ 5 → ∀ seen : List ByteArray, (∀ q ∈ seen, ∃ j, j < i ∧ q = wName j) → wsE seen (mkWs i L) = 0 := by
  induction L with
  | nil => intro i _ seen _; rfl
  | cons x r ih =>
    intro i hi seen hs
    rw [List.length_cons] at hi
    have e : mkWs i (x :: r) = mkW i x :: mkWs (i + 1) r := rfl
    have hn : (mkW i x).nm = wName i := rfl
    rw [e, wsE_cons, hn, wName_name i (by omega), mkW_err]
    have hsn : seenB seen (wName i) = false := by
      unfold seenB
      rw [List.any_eq_false]
      intro q hq
      obtain ⟨j, hj, rfl⟩ := hs q hq
      simp only [decide_eq_true_eq]
      intro h
      have := wName_ne j (by omega) i (by omega) h
      omega
    rw [hsn]
    simp only [reduceCtorEq, if_false, ne_eq, not_true_eq_false, Bool.false_eq_true]
    refine ih (i + 1) (by omega) _ (fun q hq => ?_)
    rcases List.mem_append.1 hq with h | h
    · obtain ⟨j, hj, rfl⟩ := hs q h
      exact ⟨j, by omega, rfl⟩
    · rw [List.mem_singleton] at h
      exact ⟨i, by omega, h⟩
theorem ruP_right (n : Nat) : sqE 128 3 none (ruP n 5) = 0 := by
  have e : ruP n 5 = ((((([] ++ if bitB n 0 then [0] else []) ++ if bitB n 1 then [7] else []) ++ if bitB n 2 then [12] else []) ++ if bitB n 3 then [24] else []) ++ if bitB n 4 then [28] else []) := rfl
  rw [e]
  cases bitB n 0 <;> cases bitB n 1 <;> cases bitB n 2 <;> cases bitB n 3 <;> cases bitB n 4 <;> decide
/-- A made problem is right. -/
theorem mk_right {L : List Wnt} (h : L.length ≤ 5) (n : Nat) : pbE (mkWs 0 L) (ruP n 5) = 0 := by
  have h1 := mk_wsE L 0 (by omega) [] (fun q hq => by cases hq)
  have h2 := ruP_len n 5
  unfold pbE
  rw [mkWs_length, if_neg (by omega), if_neg (by omega), if_neg (by omega)]
  exact ruP_right n
theorem mk_both {L : List Wnt} (h : L.length ≤ 5) (n : Nat) {g : List Int} (hg : gpE L.length g = 0) : bothE (mkWs 0 L) (ruP n 5) g = 0 := by
  have := mk_right h n
  unfold bothE
  rw [if_neg (by omega), mkWs_length]
  exact hg

/-- The indices whose bits are set. -/
def gP (n : Nat) : Nat → List Int
  | 0 => []
  | j + 1 => gP n j ++ if bitB n j then [(j : Int)] else []
theorem gP_yes {n j : Nat} (h : bitB n j = true) : gP n (j + 1) = gP n j ++ [(j : Int)] := by
  show gP n j ++ (if bitB n j then [(j : Int)] else []) = _
  rw [h]; rfl
theorem gP_no {n j : Nat} (h : bitB n j = false) : gP n (j + 1) = gP n j := by
  show gP n j ++ (if bitB n j then [(j : Int)] else []) = _
  rw [h]; simp
theorem gP_len (n j : Nat) : (gP n j).length ≤ j := by
  induction j with
  | zero => simp [gP]
  | succ j ih =>
    show (gP n j ++ (if bitB n j then [(j : Int)] else [])).length ≤ j + 1
    rw [List.length_append]
    split <;> simp <;> omega
theorem gP_lt (n j : Nat) : (∀ x ∈ gP n j, 0 ≤ x ∧ x < (j : Int)) ∧ (gP n j).Pairwise (· < ·) := by
  induction j with
  | zero => simp [gP]
  | succ j ih =>
    cases h : bitB n j with
    | true =>
      rw [gP_yes h]
      refine ⟨fun x hx => ?_, ?_⟩
      · rcases List.mem_append.1 hx with h1 | h1
        · have := ih.1 x h1; omega
        · rw [List.mem_singleton] at h1; omega
      · rw [List.pairwise_append]
        refine ⟨ih.2, by simp, fun a ha b hb => ?_⟩
        rw [List.mem_singleton] at hb
        have := ih.1 a ha
        omega
    | false =>
      rw [gP_no h]
      exact ⟨fun x hx => by have := ih.1 x hx; omega, ih.2⟩
theorem sq_of {top e : Int} : ∀ {l : List Int} {p : Option Int}, (∀ x ∈ l, 0 ≤ x ∧ x < top) → l.Pairwise (· < ·) → (∀ q, p = some q → ∀ x ∈ l, q < x) → sqE top e p l = 0
  | [], _, _, _, _ => rfl
  | x :: r, p, h1, h2, h3 => by
    have hx := h1 x List.mem_cons_self
    rw [List.pairwise_cons] at h2
    have hl : lastLe p x = false := by
      cases p with
      | none => rfl
      | some q =>
        have := h3 q rfl x List.mem_cons_self
        exact decide_eq_false (by omega)
    rw [sqE_cons, if_neg (by omega), hl]
    exact sq_of (fun y hy => h1 y (List.mem_cons_of_mem _ hy)) h2.2 (fun q hq y hy => by injection hq with hq; rw [← hq]; exact h2.1 y hy)
theorem gp_of {n : Nat} {l : List Int} (h0 : l ≠ []) (h1 : ∀ x ∈ l, 0 ≤ x ∧ x < (n : Int)) (h2 : l.Pairwise (· < ·)) : gpE n l = 0 := by
  unfold gpE
  rw [if_neg (fun h => h0 (List.eq_nil_of_length_eq_zero h))]
  exact sq_of h1 h2 (fun q hq => by cases hq)
theorem part_sub (g : List Int) (i : Nat) : (g.take i ++ g.drop (i + 1)).Sublist g := by
  have h : (g.drop (i + 1)).Sublist (g.drop i) := by
    rw [show g.drop (i + 1) = (g.drop i).drop 1 by rw [List.drop_drop]]
    exact List.drop_sublist _ _
  have := (List.Sublist.refl (g.take i)).append h
  rwa [List.take_append_drop] at this

/-- Whether a right group is permitted, as Permitted tells it. -/
theorem perm_form {ws : List Wsh} {rules g : List Int} (h : bothE ws rules g = 0) : ∃ (a b : Int) (is : Bool), permVal ws rules g = .tuple #[.int .i64 a, .int .i64 b, .bool is, .int .i64 0] ∧ (is = true ↔ fstP ws rules g = none ∧ costZ ws g ≤ 128) := by
  cases hq : fstP ws rules g with
  | some p => exact ⟨p.1, p.2, false, perm_pair h hq, by simp⟩
  | none => exact ⟨0, 0, decide (costZ ws g ≤ 128), perm_none h hq, by simp⟩
/-- Without one of its wishes a group costs no more, and is permitted if the group is. -/
theorem parts_law {ws : List Wsh} {rules g p : List Int} {is1 is2 : Bool} (hs : p.Sublist g) (hp : p ≠ []) (h1 : is1 = true ↔ fstP ws rules g = none ∧ costZ ws g ≤ 128) (h2 : is2 = true ↔ fstP ws rules p = none ∧ costZ ws p ≤ 128) :
    costZ ws p ≤ costZ ws g ∧ (is1 = false ∨ is2 = true) := by
  have hc := cost_sub (ws := ws) hp (fun x hx => hs.subset hx)
  refine ⟨hc, ?_⟩
  cases hq : is1 with
  | false => exact .inl rfl
  | true =>
    right
    rw [hq] at h1
    obtain ⟨e1, e2⟩ := h1.1 rfl
    exact h2.2 ⟨fstP_sub hs e1, by omega⟩

end Go.Proofs.YtkamepalomkpbaaGreatDoor
