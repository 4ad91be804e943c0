/- slices.Equal of two rows of the same pairs. Conditions: both rows read as the list. -/
import Derived.Test.YtkamepalomkpbaaGreatDoorWishConf
import Derived.Deep.QuietTactic
import Derived.BigQuiet
namespace Go.Proofs.YtkamepalomkpbaaGreatDoor
open Go.RowKit

theorem neq_two (w : World) (a b : Int) : (binOp .neq 35 (.agg #[.int .i64 a, .int .i64 b]) (.agg #[.int .i64 a, .int .i64 b])).run Tryz.prog w = .ok (.bool false) w := by
  rw [run_neq_struct]
  rw [eqlIn_two w a b a b 9998]
  simp
/-- The slice whose address is A reads as the pairs. -/
def PRd (w : World) (A : Option Addr) (L : List (Int × Int)) : Prop :=
  0 < L.length → ∃ b, A = some ⟨b, 0, none⟩ ∧ b < w.heap.size ∧ ∀ i (h : i < L.length), w.cell? ⟨b, i * 2, none⟩ = some (.int .i64 L[i].1) ∧ w.cell? ⟨b, i * 2 + 1, none⟩ = some (.int .i64 L[i].2)
theorem PRd.below {w w' : World} {A : Option Addr} {L : List (Int × Int)} (h : PRd w A L) (hb : Below w.heap.size w w') : PRd w' A L := fun hl => by
  obtain ⟨b, rfl, hlt, hc⟩ := h hl
  exact ⟨b, rfl, Nat.lt_of_lt_of_le hlt hb.size, fun i hi => ⟨(hb.cell (p := ⟨b, i * 2, none⟩) hlt).trans (hc i hi).1, (hb.cell (p := ⟨b, i * 2 + 1, none⟩) hlt).trans (hc i hi).2⟩⟩
theorem prs_get (L : List (Int × Int)) : ∀ i (h : i < L.length), (prs L)[i * 2]? = some (.int .i64 L[i].1) ∧ (prs L)[i * 2 + 1]? = some (.int .i64 L[i].2) := by
  induction L with
  | nil => intro i h; cases h
  | cons p r ih =>
    intro i h
    have e : prs (p :: r) = .int .i64 p.1 :: .int .i64 p.2 :: prs r := rfl
    cases i with
    | zero => rw [e]; exact ⟨rfl, rfl⟩
    | succ i =>
      have := ih i (by simpa using h)
      rw [e, show (i + 1) * 2 = i * 2 + 1 + 1 by omega]
      simpa using this
theorem own_prd {w : World} {base c : Nat} {A : Option Addr} {L : List (Int × Int)} (h : w.ownsRow base 35 2 (.slice A L.length c) L.length (prs L)) : PRd w A L := fun hl => by
  obtain ⟨g, c3, hv, hc3⟩ := own_form h hl
  injection hv with e1 e2 e3
  subst e1 e3
  refine ⟨g, rfl, (h.lt g rfl).2, fun i hi => ?_⟩
  have h2 := prs_get L i hi
  exact ⟨(h.cellAt (i * 2) (by omega)).trans h2.1, (h.cellAt (i * 2 + 1) (by omega)).trans h2.2⟩
set_option maxRecDepth 100000 in
set_option maxHeartbeats 4000000 in
theorem eqp_any (A B : Option Addr) (n c1 c2 : Nat) (L : List (Int × Int)) (w : World) (hn : L.length = n) (h1 : PRd w A L) (h2 : PRd w B L) (hc1 : n ≤ c1) (hc2 : n ≤ c2) (hm1 : c1 ≤ maxLen) (hm2 : c2 ≤ maxLen) :
    Calls Tryz.prog 20 #[.slice A n c1, .slice B n c2] w fun e w' => e = .returned (.bool true) ∧ Below w.heap.size w w' := by
  unfold maxLen at hm1 hm2
  have H1 := Lib.hid h1
  have H2 := Lib.hid h2
  have HN := Lib.hid hn
  clear h1 h2 hn
  go_enter Tryz.func20, Tryz.ntmps20
  go_wp2
  go_loopw [13] (fun i wr => ∃ k j : Nat, k ≤ n ∧ i = .int .i64 k ∧ wr = w.drewN j) (fun i _ => n - (intOf i).toNat)
  case atStart => exact ⟨0, 0, by omega, rfl, rfl⟩
  case round =>
    obtain ⟨k, j, hk, rfl, rfl⟩ := hrel
    by_cases hlt : k < n
    · have hkl : k < L.length := by rw [HN.out]; exact hlt
      obtain ⟨b, rfl, hb, hc⟩ := (H1.out.below (below_drewN _ _ j)) (by omega)
      obtain ⟨d, rfl, hd, hcd⟩ := (H2.out.below (below_drewN _ _ j)) (by omega)
      obtain ⟨x0, x1⟩ := hc k hkl
      obtain ⟨y0, y1⟩ := hcd k hkl
      obtain ⟨W, hW⟩ : ∃ W, W = w.drewN j := ⟨_, rfl⟩
      rw [← hW] at x0 x1 y0 y1 ⊢
      obtain ⟨x, hx⟩ : ∃ x, x = L[k].1 := ⟨_, rfl⟩
      obtain ⟨y, hy⟩ : ∃ y, y = L[k].2 := ⟨_, rfl⟩
      rw [← hx] at x0 y0
      rw [← hy] at x1 y1
      have HW := Lib.hid hW
      have hki : (k : Int) < (n : Int) := by omega
      have hk0 : (0 : Int) ≤ (k : Int) := by omega
      have hneq := fun W => neq_two W x y
      clear hx hy hW hc hcd hb hd
      go_wp2
      go_quiet (fail)
      go_wp2
      go_roundw
      case rel => exact ⟨k + 1, j + nq, by omega, by go_num, by rw [HW.out, World.drewN_drewN]⟩
      case measure => simp [intOf]; omega
    · go_wp2
      go_ret
      exact ⟨rfl, below_drewN _ _ _⟩
end Go.Proofs.YtkamepalomkpbaaGreatDoor
