/- Made problems are right; the plain law of WishParts; a part of a group. Conditions: those that each lemma names. -/
import Derived.Test.YtkamepalomkpbaaDoorWishMake
namespace Go.Proofs.YtkamepalomkpbaaDoor
open Go.RowKit

instance (n d : Int) : Decidable (PR n d) := by unfold PR; infer_instance
theorem pit_pr : ∀ k, k < 6 → PR (pitN k : Nat) (pitD k : Nat) := by
  intro k hk
  match k, hk with
  | 0, _ => decide +kernel
  | 1, _ => decide +kernel
  | 2, _ => decide +kernel
  | 3, _ => decide +kernel
  | 4, _ => decide +kernel
  | 5, _ => decide +kernel
theorem tone_name (r : Nat) : nameB (toneOf r) = true := by
  unfold toneOf
  split <;> decide +kernel
theorem mkW_err (i : Nat) (x : Wnt) : wE (mkW i x) = 0 := by
  have h6 := pit_pr (x.ft % 6) (Nat.mod_lt _ (by decide))
  unfold wE mkW
  dsimp only
  rw [if_neg (by omega), if_neg (by rw [tone_name]; decide), if_neg (by rw [pErr_ok h6]; decide)]
  unfold cmE
  rw [if_neg (by omega), if_neg (by omega)]
theorem wName_name : ∀ i, i < 5 → nameB (wName i) = true := by decide +kernel
theorem wName_ne : ∀ i, i < 5 → ∀ j, j < 5 → wName i = wName j → i = j := by decide +kernel
/-- The names of made wishes are right, and differ. -/
theorem mk_wsE (L : List Wnt) : ∀ i, i + L.length ≤ 5 → ∀ seen : List ByteArray, (∀ q ∈ seen, ∃ j, j < i ∧ q = wName j) → wsE seen (mkWs i L) = 0 := by
  induction L with
  | nil => intro i _ seen _; rfl
  | cons x r ih =>
    intro i hi seen hs
    rw [List.length_cons] at hi
    have e : mkWs i (x :: r) = mkW i x :: mkWs (i + 1) r := rfl
    have hn : (mkW i x).nm = wName i := rfl
    rw [e, wsE_cons, hn, wName_name i (by omega), mkW_err]
    have hsn : seenB seen (wName i) = false := by
      unfold seenB
      rw [List.any_eq_false]
      intro q hq
      obtain ⟨j, hj, rfl⟩ := hs q hq
      simp only [decide_eq_true_eq]
      intro h
      have := wName_ne j (by omega) i (by omega) h
      omega
    rw [hsn]
    simp only [reduceCtorEq, if_false, ne_eq, not_true_eq_false, Bool.false_eq_true]
    refine ih (i + 1) (by omega) _ (fun q hq => ?_)
    rcases List.mem_append.1 hq with h | h
    · obtain ⟨j, hj, rfl⟩ := hs q h
      exact ⟨j, by omega, rfl⟩
    · rw [List.mem_singleton] at h
      exact ⟨i, by omega, h⟩
theorem ruP_right (n : Nat) : sqE 128 3 none (ruP n 5) = 0 := by
  have e : ruP n 5 = ((((([] ++ if bitB n 0 then [0] else []) ++ if bitB n 1 then [7] else []) ++ if bitB n 2 then [12] else []) ++ if bitB n 3 then [24] else []) ++ if bitB n 4 then [28] else []) := rfl
  rw [e]
  cases bitB n 0 <;> cases bitB n 1 <;> cases bitB n 2 <;> cases bitB n 3 <;> cases bitB n 4 <;> decide
/-- A made problem is right. -/
theorem mk_right {L : List Wnt} (h : L.length ≤ 5) (n : Nat) : pbE (mkWs 0 L) (ruP n 5) = 0 := by
  have h1 := mk_wsE L 0 (by omega) [] (fun q hq => by cases hq)
  have h2 := ruP_len n 5
  unfold pbE
  rw [mkWs_length, if_neg (by omega), if_neg (by omega), if_neg (by omega)]
  exact ruP_right n
theorem mk_both {L : List Wnt} (h : L.length ≤ 5) (n : Nat) {g : List Int} (hg : gpE L.length g = 0) : bothE (mkWs 0 L) (ruP n 5) g = 0 := by
  have := mk_right h n
  unfold bothE
  rw [if_neg (by omega), mkWs_length]
  exact hg

/-- The indices whose bits are set. -/
def gP (n : Nat) : Nat → List Int
  | 0 => []
  | j + 1 => gP n j ++ if bitB n j then [(j : Int)] else []
theorem gP_yes {n j : Nat} (h : bitB n j = true) : gP n (j + 1) = gP n j ++ [(j : Int)] := by
  show gP n j ++ (if bitB n j then [(j : Int)] else []) = _
  rw [h]; rfl
theorem gP_no {n j : Nat} (h : bitB n j = false) : gP n (j + 1) = gP n j := by
  show gP n j ++ (if bitB n j then [(j : Int)] else []) = _
  rw [h]; simp
theorem gP_len (n j : Nat) : (gP n j).length ≤ j := by
  induction j with
  | zero => simp [gP]
  | succ j ih =>
    show (gP n j ++ (if bitB n j then [(j : Int)] else [])).length ≤ j + 1
    rw [List.length_append]
    split <;> simp <;> omega
theorem gP_lt (n j : Nat) : (∀ x ∈ gP n j, 0 ≤ x ∧ x < (j : Int)) ∧ (gP n j).Pairwise (· < ·) := by
  induction j with
  | zero => simp [gP]
  | succ j ih =>
    cases h : bitB n j with
    | true =>
      rw [gP_yes h]
      refine ⟨fun x hx => ?_, ?_⟩
      · rcases List.mem_append.1 hx with h1 | h1
        · have := ih.1 x h1; omega
        · rw [List.mem_singleton] at h1; omega
      · rw [List.pairwise_append]
        refine ⟨ih.2, by simp, fun a ha b hb => ?_⟩
        rw [List.mem_singleton] at hb
        have := ih.1 a ha
        omega
    | false =>
      rw [gP_no h]
      exact ⟨fun x hx => by have := ih.1 x hx; omega, ih.2⟩
theorem sq_of {top e : Int} : ∀ {l : List Int} {p : Option Int}, (∀ x ∈ l, 0 ≤ x ∧ x < top) → l.Pairwise (· < ·) → (∀ q, p = some q → ∀ x ∈ l, q < x) → sqE top e p l = 0
  | [], _, _, _, _ => rfl
  | x :: r, p, h1, h2, h3 => by
    have hx := h1 x List.mem_cons_self
    rw [List.pairwise_cons] at h2
    have hl : lastLe p x = false := by
      cases p with
      | none => rfl
      | some q =>
        have := h3 q rfl x List.mem_cons_self
        exact decide_eq_false (by omega)
    rw [sqE_cons, if_neg (by omega), hl]
    exact sq_of (fun y hy => h1 y (List.mem_cons_of_mem _ hy)) h2.2 (fun q hq y hy => by injection hq with hq; rw [← hq]; exact h2.1 y hy)
theorem gp_of {n : Nat} {l : List Int} (h0 : l ≠ []) (h1 : ∀ x ∈ l, 0 ≤ x ∧ x < (n : Int)) (h2 : l.Pairwise (· < ·)) : gpE n l = 0 := by
  unfold gpE
  rw [if_neg (fun h => h0 (List.eq_nil_of_length_eq_zero h))]
  exact sq_of h1 h2 (fun q hq => by cases hq)
theorem part_sub (g : List Int) (i : Nat) : (g.take i ++ g.drop (i + 1)).Sublist g := by
  have h : (g.drop (i + 1)).Sublist (g.drop i) := by
    rw [show g.drop (i + 1) = (g.drop i).drop 1 by rw [List.drop_drop]]
    exact List.drop_sublist _ _
  have := (List.Sublist.refl (g.take i)).append h
  rwa [List.take_append_drop] at this

/-- Whether a right group is permitted, as Permitted tells it. -/
theorem perm_form {ws : List Wsh} {rules g : List Int} (h : bothE ws rules g = 0) : ∃ (a b : Int) (is : Bool), permVal ws rules g = .tuple #[.int .i64 a, .int .i64 b, .bool is, .int .i64 0] ∧ (is = true ↔ fstP ws rules g = none ∧ costZ ws g ≤ 128) := by
  cases hq : fstP ws rules g with
  | some p => exact ⟨p.1, p.2, false, perm_pair h hq, by simp⟩
  | none => exact ⟨0, 0, decide (costZ ws g ≤ 128), perm_none h hq, by simp⟩
/-- Without one of its wishes a group costs no more, and is permitted if the group is. -/
theorem parts_law {ws : List Wsh} {rules g p : List Int} {is1 is2 : Bool} (hs : p.Sublist g) (hp : p ≠ []) (h1 : is1 = true ↔ fstP ws rules g = none ∧ costZ ws g ≤ 128) (h2 : is2 = true ↔ fstP ws rules p = none ∧ costZ ws p ≤ 128) :
    costZ ws p ≤ costZ ws g ∧ (is1 = false ∨ is2 = true) := by
  have hc := cost_sub (ws := ws) hp (fun x hx => hs.subset hx)
  refine ⟨hc, ?_⟩
  cases hq : is1 with
  | false => exact .inl rfl
  | true =>
    right
    rw [hq] at h1
    obtain ⟨e1, e2⟩ := h1.1 rfl
    exact h2.2 ⟨fstP_sub hs e1, by omega⟩

/-- slices.Delete of one number, out of a row of the call's own. -/
theorem below_cells (b : Nat) {B : Nat} (hb : B ≤ b) : ∀ (vs : List Value) (o : Nat) {a w : World}, Below B a w → Below B a (w.setCells b o vs)
  | [], _, _, _, h => h
  | v :: vs, o, _, _, h => below_cells b hb vs (o + 1) (bw_set h hb v)
theorem delete_ct (B : Nat) (A : Option Addr) (cap gn i : Nat) (g : List Int) (W : World) (hown : W.ownsRow B 3 1 (.slice A gn cap) gn (g.map i64v)) (hi : i < gn) :
    Calls Tryd.prog 8 #[.slice A gn cap, .int .i64 (i : Int), .int .i64 ((i : Int) + 1)] W fun e w' => e = .returned (.slice A (gn - 1) cap) ∧ Rd i64v w' w'.heap.size A (g.take i ++ g.drop (i + 1)) ∧ Below B W w' := by
  obtain ⟨b, c2, hv, hc2⟩ := own_form hown (by omega)
  injection hv with e1 e2 e3
  subst e1; subst e3
  have hg : g.length = gn := by have := hown.1; rw [List.length_map] at this; omega
  have hlt := hown.lt b rfl
  have hm : cap ≤ maxLen := by
    rcases hown.2 with ⟨hv, _⟩ | ⟨g', c', cur, hv, _, _, _, hm, _⟩
    · cases hv
    · injection hv with _ _ h3; subst h3; exact hm
  unfold maxLen at hm
  have hcell : ∀ j, j < g.length → W.cell? ⟨b, 0 + j, none⟩ = some (.int .i64 (g.getD j 0)) := fun j hj => by
    rw [Nat.zero_add, hown.cellAt j (by omega), List.getElem?_map, List.getElem?_eq_getElem hj]
    simp [hj]
  have htk : g.take gn = g := List.take_of_length_le (by omega)
  have h := Tryd.slices_Delete_int_cells b 0 gn cap i (i + 1) g W (by omega) hc2 (by omega) (by omega) (by omega) hcell (fun j _ => hown.frozenAt _)
  rw [show ((i + 1 : Nat) : Int) = (i : Int) + 1 by omega] at h
  refine h.mono fun e w' ⟨he, q, hw⟩ => ⟨by rw [he]; congr 2; omega, ?_, ?_⟩
  · have hl : (((g.take gn).take i ++ (g.take gn).drop (i + 1) ++ List.replicate (i + 1 - i) 0).map (Value.int .i64)).length = gn := by
      rw [htk, List.length_map, List.length_append, List.length_append, List.length_take, List.length_drop, List.length_replicate]
      omega
    have hb' : b < w'.heap.size := by
      rw [hw]
      exact Nat.lt_of_lt_of_le hlt.2 (below_cells b (Nat.zero_le _) _ 0 (below_drewN 0 W q)).size
    refine fun _ => ⟨b, 0, rfl, hb', fun j hj => ?_⟩
    rw [hw, World.cell?_setCells_in b _ 0 (W.drewN q) (fun j hj => by
      have : (W.drewN q).cell? ⟨b, 0 + j, none⟩ = W.cell? ⟨b, 0 + j, none⟩ := (below_drewN (b + 1) W q).cell (p := ⟨b, 0 + j, none⟩) (by show b < b + 1; omega)
      rw [this, hcell j (by omega)]; rfl) j (by rw [hl]; rw [List.length_append, List.length_take, List.length_drop] at hj; omega)]
    rw [List.getElem_map]
    congr 2
    rw [List.getElem_append_left (by rw [htk]; exact hj)]
    simp only [htk]
  · rw [hw]; exact below_cells b hlt.1 _ 0 (below_drewN B W q)
theorem clone_ct (B : Nat) (A : Option Addr) (cap gn : Nat) (g : List Int) (W : World) (hown : W.ownsRow B 3 1 (.slice A gn cap) gn (g.map i64v)) (h0 : 0 < gn) (h1 : gn ≤ 1000) :
    Calls Tryd.prog 9 #[.slice A gn cap] W fun e w' => ∃ A2 c2, e = .returned (.slice A2 gn c2) ∧ w'.ownsRow W.heap.size 3 1 (.slice A2 gn c2) gn (g.map i64v) ∧ Below W.heap.size W w' := by
  obtain ⟨b, c2, hv, hc2⟩ := own_form hown h0
  injection hv with e1 e2 e3
  subst e1; subst e3
  have hg : g.length = gn := by have := hown.1; rw [List.length_map] at this; omega
  have hcell : ∀ j, j < g.length → W.cell? ⟨b, 0 + j, none⟩ = some (.int .i64 (g.getD j 0)) := fun j hj => by
    rw [Nat.zero_add, hown.cellAt j (by omega), List.getElem?_map, List.getElem?_eq_getElem hj]
    simp [hj]
  refine (Tryd.slices_Clone_int b 0 gn cap g W (by omega) (by omega) hcell).mono fun e w' ⟨v', he, ho, _, hb⟩ => ?_
  rw [List.take_of_length_le (by omega)] at ho
  obtain ⟨b2, c3, hv, hc3⟩ := own_form ho h0
  subst hv
  exact ⟨_, c3, he, ho, hb⟩
end Go.Proofs.YtkamepalomkpbaaDoor
