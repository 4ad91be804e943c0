/- Package bombarderef05: Divisor, RightFraction and Lowest. Conditions: the ints are at most 2 to the 62 (Divisor, Lowest). Package bombarderef05: RightFraction. Conditions: none. -/
import Derived.Test.YtplonkeipdbchaaGreatDoorFrac2
namespace Go.Proofs.YtplonkeipdbchaaGreatDoor
section
open Go.RowKit

set_option maxRecDepth 100000 in
set_option maxHeartbeats 1000000 in
theorem divisor_any (a b : Int) (w : World) (ha : -4611686018427387904 ≤ a) (ha' : a ≤ 4611686018427387904) (hb : -4611686018427387904 ≤ b) (hb' : b ≤ 4611686018427387904) :
    Calls Tryz.prog 39 #[.int .i64 a, .int .i64 b] w fun e w' => e = .returned (.int .i64 (Nat.gcd a.natAbs b.natAbs : Int)) ∧ ∃ k, w' = w.drewN k := by
  go_enter Tryz.func39, Tryz.ntmps39
  go_wp2
  go_loopw [0, 1] (fun u v wr => ∃ (x y : Int) (k : Nat), -4611686018427387904 ≤ x ∧ x ≤ 4611686018427387904 ∧ -4611686018427387904 ≤ y ∧ y ≤ 4611686018427387904 ∧ u = .int .i64 x ∧ v = .int .i64 y ∧ Nat.gcd x.natAbs y.natAbs = Nat.gcd a.natAbs b.natAbs ∧ wr = w.drewN k) (fun _ v _ => (intOf v).natAbs)
  case atStart => exact ⟨a, b, 0, ha, ha', hb, hb', rfl, rfl, rfl, rfl⟩
  case round =>
    obtain ⟨x, y, k, hx0, hx1, hy0, hy1, rfl, rfl, hg, rfl⟩ := hrel
    have HG := Lib.hid hg
    clear hg
    by_cases h0 : y = 0
    · subst h0
      have hG := HG.out
      rw [Int.natAbs_zero, Nat.gcd_zero_right] at hG
      have hm : max x (-x) = (Nat.gcd a.natAbs b.natAbs : Int) := by rw [← hG]; omega
      have HM := Lib.hid hm
      clear hG hm
      by_cases hneg : x < -x
      · go_wp2
        go_ret
        exact ⟨ret_int (by rw [← HM.out]; omega), k, rfl⟩
      · go_wp2
        go_ret
        exact ⟨ret_int (by rw [← HM.out]; omega), k, rfl⟩
    · have hyz : (y == 0) = false := by simpa using h0
      have hyz2 : (y != 0) = true := by simpa using h0
      obtain ⟨r, hr⟩ : ∃ r, r = x.tmod y := ⟨_, rfl⟩
      have hrn : r.natAbs = x.natAbs % y.natAbs := by rw [hr, Int.natAbs_tmod]
      have hrl : r.natAbs < y.natAbs := by rw [hrn]; exact Nat.mod_lt _ (by omega)
      have HN := Lib.hid hrn
      have HL := Lib.hid hrl
      have HR := Lib.hid hr
      clear hr hrn hrl
      go_wp2
      go_quiet (fail)
      go_wp2
      rw [← HR.out]
      go_roundw
      case rel => exact ⟨y, r, k + nq, hy0, hy1, by have := HL.out; omega, by have := HL.out; omega, rfl, rfl, by rw [← HG.out, HN.out, Nat.gcd_comm y.natAbs, ← Nat.gcd_rec, Nat.gcd_comm], by rw [World.drewN_drewN]⟩
      case measure => simp only [intOf]; exact HL.out

/-- A quotient in lowest terms. -/
def lowN (n d : Int) : Int := n.tdiv (Nat.gcd n.natAbs d.natAbs : Int)
def lowD (n d : Int) : Int := d.tdiv (Nat.gcd n.natAbs d.natAbs : Int)

set_option maxRecDepth 100000 in
set_option maxHeartbeats 1000000 in
theorem lowest_any (n d : Int) (w : World) (hn0 : -4611686018427387904 ≤ n) (hn1 : n ≤ 4611686018427387904) (hd0 : 0 < d) (hd1 : d ≤ 4611686018427387904) :
    Calls Tryz.prog 40 #[.int .i64 n, .int .i64 d] w fun e w' => e = .returned (.agg #[.int .i64 (lowN n d), .int .i64 (lowD n d)]) ∧ Below w.heap.size w w' := by
  obtain ⟨g, hg0⟩ : ∃ g, g = Nat.gcd n.natAbs d.natAbs := ⟨_, rfl⟩
  have hgp : 0 < g := by rw [hg0]; exact Nat.gcd_pos_of_pos_right _ (by omega)
  have hg := fun W => divisor_any n d W (by omega) (by omega) (by omega) (by omega)
  rw [← hg0] at hg
  have hgz : ((g : Int) == 0) = false := by rw [beq_eq_false_iff_ne]; omega
  have hx : n.tdiv (g : Int) = lowN n d := by unfold lowN; rw [hg0]
  have hy : d.tdiv (g : Int) = lowD n d := by unfold lowD; rw [hg0]
  have hy2 : d / (g : Int) = lowD n d := by rw [← hy, Int.tdiv_eq_ediv_of_nonneg (by omega)]
  have HG := Lib.hid hg
  have HX := Lib.hid hx
  have HY := Lib.hid hy2
  clear hg hg0 hx hy hy2
  go_enter Tryz.func40, Tryz.ntmps40
  go_wp2_with fail
  refine (HG.out _).mono ?_
  rintro e w1 ⟨rfl, k, rfl⟩
  go_wp2
  go_region
  all_goals go_wp2
  refine bodyPost_ret (v := .agg #[.int .i64 (n.tdiv (g : Int)), .int .i64 (d / (g : Int))]) (by simp [results, Tryz.results40, go_sem]) rfl ⟨by rw [HX.out, HY.out], ?_⟩
  (repeat (first | exact Below.refl _ _ | refine bw_new ?_ _ | refine bw_set ?_ (by first | omega | simp) _ | refine bw_drewN ?_ _ | refine bw_drew ?_))
end

section
open Go.RowKit

/-- Whether a fraction is right, as a Bool. -/
def rightB (n d : Int) : Bool := decide (Right n d)
theorem rightB_no {n d : Int} (h : ¬ Right n d) : rightB n d = false := decide_eq_false h
theorem rightB_ok {n d : Int} (h : Right n d) : rightB n d = true := decide_eq_true h

set_option maxRecDepth 100000 in
set_option maxHeartbeats 1000000 in
theorem rightFraction_any (n d : Int) (w : World) :
    Calls Tryz.prog 38 #[.agg #[.int .i64 n, .int .i64 d]] w fun e w' => e = .returned (.bool (rightB n d)) ∧ Below w.heap.size w w' := by
  by_cases h1 : 1 ≤ d
  · by_cases h2 : d ≤ 1000000
    · by_cases h3 : -1000000 ≤ n
      · by_cases h4 : n ≤ 1000000
        · obtain ⟨g, hg0⟩ : ∃ g, g = Nat.gcd n.natAbs d.natAbs := ⟨_, rfl⟩
          have hg := fun W => divisor_any n d W (by omega) (by omega) (by omega) (by omega)
          rw [← hg0] at hg
          have HG := Lib.hid hg
          have H0 := Lib.hid hg0
          clear hg hg0
          by_cases h5 : g = 1
          · have h5' : ((g : Int) == 1) = true := by subst h5; rfl
            have HE := Lib.hid (rightB_ok (n := n) (d := d) ⟨by omega, by omega, by omega, by omega, by rw [← H0.out]; exact h5⟩)
            clear h5
            go_enter Tryz.func38, Tryz.ntmps38
            go_wp2_with fail
            refine (HG.out _).mono ?_
            rintro e w1 ⟨rfl, k, rfl⟩
            go_wp2
            go_ret
            exact ⟨by rw [HE.out]; rfl, bw_drewN (bw_new (Below.refl _ _) _) _⟩
          · have h5' : ((g : Int) == 1) = false := by rw [beq_eq_false_iff_ne]; omega
            have HE := Lib.hid (rightB_no (n := n) (d := d) (fun h => h5 (by rw [H0.out]; exact h.2.2.2.2)))
            clear h5
            go_enter Tryz.func38, Tryz.ntmps38
            go_wp2_with fail
            refine (HG.out _).mono ?_
            rintro e w1 ⟨rfl, k, rfl⟩
            go_wp2
            go_ret
            exact ⟨by rw [HE.out]; rfl, bw_drewN (bw_new (Below.refl _ _) _) _⟩
        · have HE := Lib.hid (rightB_no (n := n) (d := d) (fun h => by have := h.2.2.2.1; omega))
          go_enter Tryz.func38, Tryz.ntmps38
          go_wp2
          go_ret
          exact ⟨by rw [HE.out]; rfl, bw_new (Below.refl _ _) _⟩
      · have HE := Lib.hid (rightB_no (n := n) (d := d) (fun h => by have := h.2.2.1; omega))
        go_enter Tryz.func38, Tryz.ntmps38
        go_wp2
        go_ret
        exact ⟨by rw [HE.out]; rfl, bw_new (Below.refl _ _) _⟩
    · have HE := Lib.hid (rightB_no (n := n) (d := d) (fun h => by have := h.2.1; omega))
      go_enter Tryz.func38, Tryz.ntmps38
      go_wp2
      go_ret
      exact ⟨by rw [HE.out]; rfl, bw_new (Below.refl _ _) _⟩
  · have HE := Lib.hid (rightB_no (n := n) (d := d) (fun h => by have := h.1; omega))
    go_enter Tryz.func38, Tryz.ntmps38
    go_wp2
    go_ret
    exact ⟨by rw [HE.out]; rfl, bw_new (Below.refl _ _) _⟩
end
end Go.Proofs.YtplonkeipdbchaaGreatDoor
