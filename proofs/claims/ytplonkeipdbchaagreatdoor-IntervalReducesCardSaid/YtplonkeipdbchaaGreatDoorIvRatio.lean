/- Package interval: strip and Ratio. Conditions: ints from 1 to 2 to the 62 (strip); ints (Ratio). Plain law: how often 2, 3 and 5 are in a number is told by the number. Conditions: those that each lemma names. -/
import Derived.Test.YtplonkeipdbchaaGreatDoorIvCheck
namespace Go.Proofs.YtplonkeipdbchaaGreatDoor
section
open Go.RowKit

/-- How often a prime divides a number, and what is left. -/
def RetStrip (n p : Nat) (w : World) (e : Ending) (w' : World) : Prop :=
  ∃ c r : Nat, e = .returned (.tuple #[.int .i64 (c : Int), .int .i64 (r : Int)]) ∧ n = p ^ c * r ∧ r % p ≠ 0 ∧ w = w'
theorem strip_bd {n p c r : Nat} (h : n = p ^ c * r) (hn : 1 ≤ n) (hn2 : n ≤ 4611686018427387904) (hp : 2 ≤ p) : c ≤ 62 ∧ 1 ≤ r ∧ r ≤ n := by
  have hr : 1 ≤ r := by
    rcases Nat.eq_zero_or_pos r with h0 | h0
    · subst h0; omega
    · exact h0
  refine ⟨?_, hr, ?_⟩
  · have h1 : 2 ^ c ≤ p ^ c := Nat.pow_le_pow_left hp c
    have h2 : p ^ c ≤ n := by rw [h]; exact Nat.le_mul_of_pos_right _ hr
    rcases Nat.lt_or_ge c 63 with h3 | h3
    · omega
    · have h4 : 2 ^ 63 ≤ 2 ^ c := Nat.pow_le_pow_right (by decide) h3
      omega
  · rw [h]; exact Nat.le_mul_of_pos_left _ (Nat.pow_pos (by omega))
set_option maxHeartbeats 1000000 in
theorem strip_any (n p : Nat) (w : World) (hn : 1 ≤ n) (hn2 : n ≤ 4611686018427387904) (hp : 2 ≤ p) (hp2 : p ≤ 5) :
    Calls Tryz.prog 50 #[.int .i64 (n : Int), .int .i64 (p : Int)] w (RetStrip n p w) := by
  have hpz : ((p : Int) == 0) = false := by rw [beq_eq_false_iff_ne]; omega
  go_enter Tryz.func50, Tryz.ntmps50
  go_wp2
  go_loop [0, 4] (fun u c => ∃ k r : Nat, u = .int .i64 (r : Int) ∧ c = .int .i64 (k : Int) ∧ Lib.Kept (n = p ^ k * r)) (fun u _ => (intOf u).toNat)
  case atStart => exact ⟨0, n, rfl, rfl, (by rw [Nat.pow_zero, Nat.one_mul] : n = p ^ 0 * n)⟩
  case round =>
    obtain ⟨k, r, rfl, rfl, he⟩ := hrel
    have HE := Lib.hid he
    obtain ⟨hk, hr1, hr2⟩ := strip_bd he hn hn2 hp
    clear he
    by_cases h0 : r % p = 0
    · have hm : (((r : Int) % (p : Int)) == 0) = true := by rw [beq_iff_eq]; omega
      obtain ⟨q, hq⟩ : ∃ q : Nat, q = r / p := ⟨_, rfl⟩
      have hqi : (r : Int) / (p : Int) = (q : Int) := by rw [hq]; exact (Int.natCast_ediv r p).symm
      have hqr : q < r := by rw [hq]; exact Nat.div_lt_self (by omega) (by omega)
      have HN := Lib.hid (show n = p ^ (k + 1) * q by
        have h1 : r = p * q := by rw [hq]; exact (Nat.mul_div_cancel' (Nat.dvd_of_mod_eq_zero h0)).symm
        rw [HE.out, h1, Nat.pow_succ, Nat.mul_assoc])
      clear hq h0
      go_wp2
      go_round
      case rel => exact ⟨k + 1, q, rfl, by go_num, HN.out⟩
      case measure => simp [intOf]; omega
    · have hm : (((r : Int) % (p : Int)) == 0) = false := by
        rw [beq_eq_false_iff_ne]
        intro e
        exact h0 (by have h : ((r % p : Nat) : Int) = 0 := by rw [Int.natCast_emod]; exact e
                     omega)
      have H0 := Lib.hid h0
      clear h0
      go_wp2
      go_ret2
      exact ⟨k, r, rfl, HE.out, H0.out, rfl⟩
/-- What is left of two numbers without 2, 3 and 5, and how often these are in. -/
structure Fac (n : Nat) (a b c r : Nat) : Prop where
  eq : n = 2 ^ a * 3 ^ b * 5 ^ c * r
/-- What the loop of Ratio carries. -/
def RaMem (w : World) (x y z : Int) (W : World) : Prop :=
  Blk W w.heap.size 25 [.int .i64 0, .int .i64 0, .int .i64 0, .int .i64 0, .int .i64 0, .int .i64 0] ∧ Blk W (w.heap.size + 1) 26 [.int .i64 x, .int .i64 y, .int .i64 z] ∧ Blk W (w.heap.size + 1 + 1) 3 [.int .i64 2, .int .i64 3, .int .i64 5] ∧ Below w.heap.size w W
theorem RaMem.below {w W W' : World} {x y z : Int} (h : RaMem w x y z W) (hb : Below W.heap.size W W') : RaMem w x y z W' := ⟨h.1.below hb h.1.lt, h.2.1.below hb h.2.1.lt, h.2.2.1.below hb h.2.2.1.lt, h.2.2.2.trans (hb.mono h.2.2.2.size)⟩
theorem RaMem.put {w W : World} {x y z : Int} (h : RaMem w x y z W) (u : Int) : RaMem w u y z (W.setCell ⟨w.heap.size + 1, 0, none⟩ (.int .i64 u)) ∧ RaMem w x u z (W.setCell ⟨w.heap.size + 1, 1, none⟩ (.int .i64 u)) ∧ RaMem w x y u (W.setCell ⟨w.heap.size + 1, 2, none⟩ (.int .i64 u)) := by
  have e1 : w.heap.size ≠ w.heap.size + 1 := by omega
  have e2 : w.heap.size + 1 + 1 ≠ w.heap.size + 1 := by omega
  refine ⟨⟨h.1.far e1 _, h.2.1.put 0 _, h.2.2.1.far e2 _, bw_set h.2.2.2 (by omega) _⟩, ⟨h.1.far e1 _, h.2.1.put 1 _, h.2.2.1.far e2 _, bw_set h.2.2.2 (by omega) _⟩, ⟨h.1.far e1 _, h.2.1.put 2 _, h.2.2.1.far e2 _, bw_set h.2.2.2 (by omega) _⟩⟩
def RaRel (w : World) (n d : Nat) (u v i : Value) (wr : World) : Prop :=
  ∃ k rn rd a0 b0 a1 b1 a2 b2 : Nat, k ≤ 3 ∧ i = .int .i64 (k : Int) ∧ u = .int .i64 (rn : Int) ∧ v = .int .i64 (rd : Int) ∧ (Fac n a0 a1 a2 rn ∧ Fac d b0 b1 b2 rd) ∧ ((k = 0 → a0 = 0 ∧ b0 = 0) ∧ (k ≤ 1 → a1 = 0 ∧ b1 = 0) ∧ (k ≤ 2 → a2 = 0 ∧ b2 = 0)) ∧
    ((0 < k → rn % 2 ≠ 0 ∧ rd % 2 ≠ 0) ∧ (1 < k → rn % 3 ≠ 0 ∧ rd % 3 ≠ 0) ∧ (2 < k → rn % 5 ≠ 0 ∧ rd % 5 ≠ 0)) ∧ RaMem w ((a0 : Int) - b0) ((a1 : Int) - b1) ((a2 : Int) - b2) wr
theorem fac_le {n a b c r : Nat} (h : Fac n a b c r) (hn : 1 ≤ n) : 1 ≤ r ∧ r ≤ n := by
  have he := h.eq
  have hr : 1 ≤ r := by
    rcases Nat.eq_zero_or_pos r with h0 | h0
    · subst h0; rw [Nat.mul_zero] at he; omega
    · exact h0
  refine ⟨hr, ?_⟩
  rw [he]
  exact Nat.le_mul_of_pos_left _ (Nat.mul_pos (Nat.mul_pos (Nat.pow_pos (by decide)) (Nat.pow_pos (by decide))) (Nat.pow_pos (by decide)))
theorem fac_bd {n a b c r : Nat} (h : Fac n a b c r) (hn : 1 ≤ n) (hn2 : n ≤ 4611686018427387904) : a ≤ 62 ∧ b ≤ 62 ∧ c ≤ 62 := by
  have he := h.eq
  refine ⟨(strip_bd (p := 2) (c := a) (r := 3 ^ b * 5 ^ c * r) (by rw [he]; simp [Nat.mul_assoc]) hn hn2 (by decide)).1, (strip_bd (p := 3) (c := b) (r := 2 ^ a * 5 ^ c * r) (by rw [he]; simp [Nat.mul_assoc, Nat.mul_left_comm]) hn hn2 (by decide)).1, (strip_bd (p := 5) (c := c) (r := 2 ^ a * 3 ^ b * r) (by rw [he, Nat.mul_comm (2 ^ a * 3 ^ b) (5 ^ c), Nat.mul_assoc (5 ^ c)]) hn hn2 (by decide)).1⟩
theorem mod_keep {p q c r x : Nat} (h : x = q ^ c * r) (hx : x % p ≠ 0) : r % p ≠ 0 := fun e => hx (by rw [h]; exact Nat.mod_eq_zero_of_dvd (Nat.dvd_trans (Nat.dvd_of_mod_eq_zero e) (Nat.dvd_mul_left _ _)))
/-- What Ratio returns. -/
def RetRatio (n d : Nat) (w : World) (e : Ending) (w' : World) : Prop :=
  (∃ rn rd a0 b0 a1 b1 a2 b2 : Nat, (Fac n a0 a1 a2 rn ∧ Fac d b0 b1 b2 rd) ∧ (rn % 2 ≠ 0 ∧ rd % 2 ≠ 0) ∧ (rn % 3 ≠ 0 ∧ rd % 3 ≠ 0) ∧ (rn % 5 ≠ 0 ∧ rd % 5 ≠ 0) ∧
    e = .returned (if rn = rd then ivR ((a0 : Int) - b0) 1 ((a1 : Int) - b1) 1 ((a2 : Int) - b2) 1 else .tuple #[szv 0 0 0 0 0 0, .int .i64 7])) ∧ Below w.heap.size w w'

theorem ratio_low (n d : Int) (w : World) (h : n < 1 ∨ d < 1) :
    Calls Tryz.prog 21 #[.int .i64 n, .int .i64 d] w fun e w' => e = .returned (.tuple #[szv 0 0 0 0 0 0, .int .i64 3]) ∧ Below w.heap.size w w' := by
  have hy0 : Blk (w.alloc (.cells #[.int .i64 0, .int .i64 0, .int .i64 0, .int .i64 0, .int .i64 0, .int .i64 0] 25)) w.heap.size 25 [.int .i64 0, .int .i64 0, .int .i64 0, .int .i64 0, .int .i64 0, .int .i64 0] := heap_alloc_new w _
  have HY := Lib.hid hy0
  have HB0 := Lib.hid (bw_new (Below.refl w.heap.size w) (.cells #[.int .i64 0, .int .i64 0, .int .i64 0, .int .i64 0, .int .i64 0, .int .i64 0] 25))
  clear hy0
  by_cases h1 : n < 1
  · clear h
    go_enter Tryz.func21, Tryz.ntmps21
    go_wp2
    refine bodyPost_ret (v := .tuple #[szv 0 0 0 0 0 0, .int .i64 3]) (by simp [results, Tryz.results21, go_sem]) rfl ⟨rfl, ?_⟩
    (repeat (first | exact Below.refl _ _ | refine bw_new ?_ _ | refine bw_set ?_ (by first | omega | simp) _))
  · have h2 : d < 1 := by omega
    have h3 : 1 ≤ n := by omega
    clear h h1
    go_enter Tryz.func21, Tryz.ntmps21
    go_wp2
    refine bodyPost_ret (v := .tuple #[szv 0 0 0 0 0 0, .int .i64 3]) (by simp [results, Tryz.results21, go_sem]) rfl ⟨rfl, ?_⟩
    (repeat (first | exact Below.refl _ _ | refine bw_new ?_ _ | refine bw_set ?_ (by first | omega | simp) _))

set_option maxRecDepth 100000 in
set_option maxHeartbeats 8000000 in
theorem ratio_any (n d : Nat) (w : World) (hn : 1 ≤ n) (hn2 : n ≤ 4611686018427387904) (hd : 1 ≤ d) (hd2 : d ≤ 4611686018427387904) :
    Calls Tryz.prog 21 #[.int .i64 (n : Int), .int .i64 (d : Int)] w (RetRatio n d w) := by
  have hM0 : RaMem w 0 0 0 (((w.alloc (.cells #[.int .i64 0, .int .i64 0, .int .i64 0, .int .i64 0, .int .i64 0, .int .i64 0] 25)).alloc (.cells #[.int .i64 0, .int .i64 0, .int .i64 0] 26)).alloc (.cells #[.int .i64 2, .int .i64 3, .int .i64 5] 3)) := by
    refine ⟨?_, ?_, ?_, bw_new (bw_new (bw_new (Below.refl _ _) _) _) _⟩
    · exact Blk.alloc (t := 25) (cs := [.int .i64 0, .int .i64 0, .int .i64 0, .int .i64 0, .int .i64 0, .int .i64 0]) (Blk.alloc (t := 25) (cs := [.int .i64 0, .int .i64 0, .int .i64 0, .int .i64 0, .int .i64 0, .int .i64 0]) (heap_alloc_new w _) _) _
    · have := heap_alloc_new (w.alloc (.cells #[.int .i64 0, .int .i64 0, .int .i64 0, .int .i64 0, .int .i64 0, .int .i64 0] 25)) (.cells #[.int .i64 0, .int .i64 0, .int .i64 0] 26)
      rw [World.size_alloc] at this
      exact Blk.alloc (t := 26) (cs := [.int .i64 0, .int .i64 0, .int .i64 0]) this _
    · have := heap_alloc_new ((w.alloc (.cells #[.int .i64 0, .int .i64 0, .int .i64 0, .int .i64 0, .int .i64 0, .int .i64 0] 25)).alloc (.cells #[.int .i64 0, .int .i64 0, .int .i64 0] 26)) (.cells #[.int .i64 2, .int .i64 3, .int .i64 5] 3)
      rw [World.size_alloc, World.size_alloc] at this
      exact this
  have HM0 := Lib.hid hM0
  have HST := Lib.hid (fun (x q : Nat) (W : World) (h1 : 1 ≤ x) (h2 : x ≤ 4611686018427387904) (h3 : 2 ≤ q) (h4 : q ≤ 5) => strip_any x q W h1 h2 h3 h4)
  clear hM0
  go_enter Tryz.func21, Tryz.ntmps21
  go_wp2_with fail
  go_loopw [0, 1, 20] (fun u v i wr => RaRel w n d u v i wr) (fun _ _ i _ => 3 - (intOf i).toNat)
  case atStart => exact ⟨0, n, d, 0, 0, 0, 0, 0, 0, by omega, rfl, rfl, rfl, ⟨⟨by simp⟩, ⟨by simp⟩⟩, ⟨fun _ => ⟨rfl, rfl⟩, fun _ => ⟨rfl, rfl⟩, fun _ => ⟨rfl, rfl⟩⟩, ⟨fun h => absurd h (by decide), fun h => absurd h (by decide), fun h => absurd h (by decide)⟩, HM0.out⟩
  case round =>
    clear HM0
    obtain ⟨k, rn, rd, a0, b0, a1, b1, a2, b2, hk, rfl, rfl, rfl, ⟨hfn, hfd⟩, hz, hmod, hmem⟩ := hrel
    obtain ⟨rn1, rn2⟩ := fac_le hfn hn
    obtain ⟨rd1, rd2⟩ := fac_le hfd hd
    have HF := Lib.hid (And.intro hfn hfd)
    have HMD := Lib.hid hmod
    have HZ := Lib.hid hz
    have HM := Lib.hid hmem
    have hsz : w.heap.size + 1 + 1 < wr.heap.size := hmem.2.2.1.lt
    clear hfn hfd hmod hmem hz
    by_cases hlt : k < 3
    · rcases (show k = 0 ∨ k = 1 ∨ k = 2 by omega) with rfl | rfl | rfl
      · obtain ⟨rfl, rfl⟩ := HZ.out.1 rfl
        have c0 := HM.out.2.2.1.cell 0
        have e0 := HM.out.2.1.cell 0
        have f0 := HM.out.2.1.frozen 0
        have hs1 := HST.out rn 2 wr rn1 (by omega) (by decide) (by decide)
        have HS1 := Lib.hid hs1
        clear hs1
        go_wp2_with fail
        refine (HS1.out).mono ?_
        rintro e w1 ⟨ca, ra, rfl, hea, hma, rfl⟩
        have HA := Lib.hid (And.intro hea hma)
        obtain ⟨ka, ra1, ra2⟩ := strip_bd hea rn1 (by omega) (by decide)
        have hs2 := HST.out rd 2 wr rd1 (by omega) (by decide) (by decide)
        have HS2 := Lib.hid hs2
        clear hs2 hea hma
        go_wp2_with fail
        refine (HS2.out).mono ?_
        rintro e w1 ⟨cb, rb, rfl, heb, hmb, rfl⟩
        have HBB := Lib.hid (And.intro heb hmb)
        obtain ⟨kb, rb1, rb2⟩ := strip_bd heb rd1 (by omega) (by decide)
        clear heb hmb
        have HM2 := Lib.hid ((HM.out.put ((ca : Int) - cb)).1)
        go_wp2
        go_roundw
        case rel =>
          refine (show RaRel w n d (.int .i64 (ra : Int)) (.int .i64 (rb : Int)) (.int .i64 ((0 + 1 : Nat) : Int)) _ from ⟨0 + 1, ra, rb, ca, cb, a1, b1, a2, b2, by omega, rfl, rfl, rfl, ⟨⟨?_⟩, ⟨?_⟩⟩, ⟨fun h => absurd h (by decide), fun _ => HZ.out.2.1 (by decide), fun _ => HZ.out.2.2 (by decide)⟩, ⟨fun _ => ⟨HA.out.2, HBB.out.2⟩, fun h => absurd h (by decide), fun h => absurd h (by decide)⟩, HM2.out⟩)
          · rw [HF.out.1.eq, HA.out.1]; simp only [Nat.pow_zero, Nat.one_mul, Nat.mul_assoc, Nat.mul_left_comm]
          · rw [HF.out.2.eq, HBB.out.1]; simp only [Nat.pow_zero, Nat.one_mul, Nat.mul_assoc, Nat.mul_left_comm]
        case measure => simp [intOf]
      · obtain ⟨rfl, rfl⟩ := HZ.out.2.1 (by decide)
        have c0 := HM.out.2.2.1.cell 1
        have e0 := HM.out.2.1.cell 1
        have f0 := HM.out.2.1.frozen 1
        have hs1 := HST.out rn 3 wr rn1 (by omega) (by decide) (by decide)
        have HS1 := Lib.hid hs1
        clear hs1
        go_wp2_with fail
        refine (HS1.out).mono ?_
        rintro e w1 ⟨ca, ra, rfl, hea, hma, rfl⟩
        have HA := Lib.hid (And.intro hea hma)
        obtain ⟨ka, ra1, ra2⟩ := strip_bd hea rn1 (by omega) (by decide)
        have hs2 := HST.out rd 3 wr rd1 (by omega) (by decide) (by decide)
        have HS2 := Lib.hid hs2
        clear hs2 hea hma
        go_wp2_with fail
        refine (HS2.out).mono ?_
        rintro e w1 ⟨cb, rb, rfl, heb, hmb, rfl⟩
        have HBB := Lib.hid (And.intro heb hmb)
        obtain ⟨kb, rb1, rb2⟩ := strip_bd heb rd1 (by omega) (by decide)
        clear heb hmb
        have HM2 := Lib.hid ((HM.out.put ((ca : Int) - cb)).2.1)
        go_wp2
        go_roundw
        case rel =>
          refine (show RaRel w n d (.int .i64 (ra : Int)) (.int .i64 (rb : Int)) (.int .i64 ((1 + 1 : Nat) : Int)) _ from ⟨1 + 1, ra, rb, a0, b0, ca, cb, a2, b2, by omega, rfl, rfl, rfl, ⟨⟨?_⟩, ⟨?_⟩⟩, ⟨fun h => absurd h (by decide), fun h => absurd h (by decide), fun _ => HZ.out.2.2 (by decide)⟩, ⟨fun _ => ⟨mod_keep HA.out.1 (HMD.out.1 (by decide)).1, mod_keep HBB.out.1 (HMD.out.1 (by decide)).2⟩, fun _ => ⟨HA.out.2, HBB.out.2⟩, fun h => absurd h (by decide)⟩, HM2.out⟩)
          · rw [HF.out.1.eq, HA.out.1]; simp only [Nat.pow_zero, Nat.mul_one, Nat.mul_assoc, Nat.mul_left_comm]
          · rw [HF.out.2.eq, HBB.out.1]; simp only [Nat.pow_zero, Nat.mul_one, Nat.mul_assoc, Nat.mul_left_comm]
        case measure => simp [intOf]
      · obtain ⟨rfl, rfl⟩ := HZ.out.2.2 (by decide)
        have c0 := HM.out.2.2.1.cell 2
        have e0 := HM.out.2.1.cell 2
        have f0 := HM.out.2.1.frozen 2
        have hs1 := HST.out rn 5 wr rn1 (by omega) (by decide) (by decide)
        have HS1 := Lib.hid hs1
        clear hs1
        go_wp2_with fail
        refine (HS1.out).mono ?_
        rintro e w1 ⟨ca, ra, rfl, hea, hma, rfl⟩
        have HA := Lib.hid (And.intro hea hma)
        obtain ⟨ka, ra1, ra2⟩ := strip_bd hea rn1 (by omega) (by decide)
        have hs2 := HST.out rd 5 wr rd1 (by omega) (by decide) (by decide)
        have HS2 := Lib.hid hs2
        clear hs2 hea hma
        go_wp2_with fail
        refine (HS2.out).mono ?_
        rintro e w1 ⟨cb, rb, rfl, heb, hmb, rfl⟩
        have HBB := Lib.hid (And.intro heb hmb)
        obtain ⟨kb, rb1, rb2⟩ := strip_bd heb rd1 (by omega) (by decide)
        clear heb hmb
        have HM2 := Lib.hid ((HM.out.put ((ca : Int) - cb)).2.2)
        go_wp2
        go_roundw
        case rel =>
          refine (show RaRel w n d (.int .i64 (ra : Int)) (.int .i64 (rb : Int)) (.int .i64 ((2 + 1 : Nat) : Int)) _ from ⟨2 + 1, ra, rb, a0, b0, a1, b1, ca, cb, by omega, rfl, rfl, rfl, ⟨⟨?_⟩, ⟨?_⟩⟩, ⟨fun h => absurd h (by decide), fun h => absurd h (by decide), fun h => absurd h (by decide)⟩, ⟨fun _ => ⟨mod_keep HA.out.1 (HMD.out.1 (by decide)).1, mod_keep HBB.out.1 (HMD.out.1 (by decide)).2⟩, fun _ => ⟨mod_keep HA.out.1 (HMD.out.2.1 (by decide)).1, mod_keep HBB.out.1 (HMD.out.2.1 (by decide)).2⟩, fun _ => ⟨HA.out.2, HBB.out.2⟩⟩, HM2.out⟩)
          · rw [HF.out.1.eq, HA.out.1]; simp only [Nat.pow_zero, Nat.mul_one, Nat.mul_assoc]
          · rw [HF.out.2.eq, HBB.out.1]; simp only [Nat.pow_zero, Nat.mul_one, Nat.mul_assoc]
        case measure => simp [intOf]
    · obtain rfl : k = 3 := by omega
      obtain ⟨ba0, ba1, ba2⟩ := fac_bd HF.out.1 hn hn2
      obtain ⟨bb0, bb1, bb2⟩ := fac_bd HF.out.2 hd hd2
      have HMD2 := Lib.hid (And.intro (HMD.out.1 (by decide)) (And.intro (HMD.out.2.1 (by decide)) (HMD.out.2.2 (by decide))))
      obtain ⟨c0, c1, c2⟩ := three_of HM.out.2.1
      obtain ⟨e0, e1, e2, e3, e4, e5⟩ := six_of HM.out.1
      obtain ⟨f0, f1, f2, f3, f4, f5⟩ := six_free HM.out.1
      by_cases hrr : rn = rd
      · subst hrr
        have hi := fun W => iof_any ((a0 : Int) - b0) ((a1 : Int) - b1) ((a2 : Int) - b2) W ⟨by omega, by omega⟩ ⟨by omega, by omega⟩ ⟨by omega, by omega⟩
        obtain ⟨r0, r1, r2, r3, r4, r5, q, hrr⟩ : ∃ r0 r1 r2 r3 r4 r5 q, ivR ((a0 : Int) - b0) 1 ((a1 : Int) - b1) 1 ((a2 : Int) - b2) 1 = .tuple #[szv r0 r1 r2 r3 r4 r5, .int .i64 q] := by
          unfold ivR; split
          · exact ⟨_, _, _, _, _, _, _, rfl⟩
          · exact ⟨_, _, _, _, _, _, _, rfl⟩
        rw [hrr] at hi
        have HI := Lib.hid hi
        have HRR := Lib.hid hrr
        clear hi hrr
        go_wp2_with fail
        refine (HI.out _).mono ?_
        rintro e w1 ⟨rfl, hb⟩
        have HM2 := Lib.hid (HM.out.below hb)
        clear hb c0 c1 c2 e0 e1 e2 e3 e4 e5 f0 f1 f2 f3 f4 f5
        obtain ⟨e0, e1, e2, e3, e4, e5⟩ := six_of HM2.out.1
        obtain ⟨f0, f1, f2, f3, f4, f5⟩ := six_free HM2.out.1
        go_wp2
        obtain ⟨WZ, hWZ⟩ : ∃ WZ, WZ = ((((((w1.setCell ⟨w.heap.size, 0, none⟩ (.int .i64 r0)).setCell ⟨w.heap.size, 1, none⟩ (.int .i64 r1)).setCell ⟨w.heap.size, 2, none⟩ (.int .i64 r2)).setCell ⟨w.heap.size, 3, none⟩ (.int .i64 r3)).setCell ⟨w.heap.size, 4, none⟩ (.int .i64 r4)).setCell ⟨w.heap.size, 5, none⟩ (.int .i64 r5)) := ⟨_, rfl⟩
        obtain ⟨g0, g1, g2, g3, g4, g5⟩ := six_of (show Blk WZ _ _ _ by rw [hWZ]; exact six_put HM2.out.1 _ _ _ _ _ _)
        have hww : Below w.heap.size w WZ := by rw [hWZ]; exact six_below HM2.out.2.2.2 (Nat.le_refl _) _ _ _ _ _ _
        rw [← hWZ]
        exact bodyPost_ret (v := .tuple #[szv r0 r1 r2 r3 r4 r5, .int .i64 q]) (by simp [g0, g1, g2, g3, g4, g5, results, Tryz.results21, go_sem]) rfl ⟨⟨rn, rn, a0, b0, a1, b1, a2, b2, HF.out, HMD2.out.1, HMD2.out.2.1, HMD2.out.2.2, by rw [if_pos rfl, HRR.out]⟩, hww⟩
      · have hne : ((rn : Int) != (rd : Int)) = true := by rw [bne_iff_ne]; omega
        have hne2 : ((rn : Int) == (rd : Int)) = false := by rw [beq_eq_false_iff_ne]; omega
        have HRR := Lib.hid hrr
        clear hrr
        go_wp2
        obtain ⟨WZ, hWZ⟩ : ∃ WZ, WZ = ((((((wr.setCell ⟨w.heap.size, 0, none⟩ (.int .i64 0)).setCell ⟨w.heap.size, 1, none⟩ (.int .i64 0)).setCell ⟨w.heap.size, 2, none⟩ (.int .i64 0)).setCell ⟨w.heap.size, 3, none⟩ (.int .i64 0)).setCell ⟨w.heap.size, 4, none⟩ (.int .i64 0)).setCell ⟨w.heap.size, 5, none⟩ (.int .i64 0)) := ⟨_, rfl⟩
        obtain ⟨g0, g1, g2, g3, g4, g5⟩ := six_of (show Blk WZ _ _ _ by rw [hWZ]; exact six_put HM.out.1 _ _ _ _ _ _)
        have hww : Below w.heap.size w WZ := by rw [hWZ]; exact six_below HM.out.2.2.2 (Nat.le_refl _) _ _ _ _ _ _
        rw [← hWZ]
        exact bodyPost_ret (v := .tuple #[szv 0 0 0 0 0 0, .int .i64 7]) (by simp [g0, g1, g2, g3, g4, g5, results, Tryz.results21, go_sem]) rfl ⟨⟨rn, rd, a0, b0, a1, b1, a2, b2, HF.out, HMD2.out.1, HMD2.out.2.1, HMD2.out.2.2, by rw [if_neg HRR.out]⟩, hww⟩
end

section
theorem pow_uniq {p : Nat} (hp : 2 ≤ p) : ∀ {a b x y : Nat}, p ^ a * x = p ^ b * y → x % p ≠ 0 → y % p ≠ 0 → a = b ∧ x = y
  | 0, 0, x, y, h, _, _ => by simpa using h
  | 0, b + 1, x, y, h, hx, _ => by
    exfalso
    apply hx
    rw [Nat.pow_zero, Nat.one_mul, Nat.pow_succ, Nat.mul_comm (p ^ b) p, Nat.mul_assoc] at h
    rw [h]
    exact Nat.mul_mod_right _ _
  | a + 1, 0, x, y, h, _, hy => by
    exfalso
    apply hy
    rw [Nat.pow_zero, Nat.one_mul, Nat.pow_succ, Nat.mul_comm (p ^ a) p, Nat.mul_assoc] at h
    rw [← h]
    exact Nat.mul_mod_right _ _
  | a + 1, b + 1, x, y, h, hx, hy => by
    rw [Nat.pow_succ, Nat.pow_succ, Nat.mul_comm (p ^ a) p, Nat.mul_comm (p ^ b) p, Nat.mul_assoc, Nat.mul_assoc] at h
    obtain ⟨h1, h2⟩ := pow_uniq hp (Nat.eq_of_mul_eq_mul_left (by omega) h) hx hy
    exact ⟨by omega, h2⟩
/-- A product has the prime only if one of the factors has it. -/
def Pr (p : Nat) : Prop := 2 ≤ p ∧ ∀ u < p, ∀ v < p, u ≠ 0 → v ≠ 0 → (u * v) % p ≠ 0
theorem pr_two : Pr 2 := ⟨by decide, by decide⟩
theorem pr_three : Pr 3 := ⟨by decide, by decide⟩
theorem pr_five : Pr 5 := ⟨by decide, by decide⟩
theorem Pr.mul {p x y : Nat} (h : Pr p) (hx : x % p ≠ 0) (hy : y % p ≠ 0) : (x * y) % p ≠ 0 := by
  have hp : 0 < p := by have := h.1; omega
  rw [Nat.mul_mod]
  exact h.2 _ (Nat.mod_lt _ hp) _ (Nat.mod_lt _ hp) hx hy
theorem Pr.pow {p x : Nat} (h : Pr p) (hx : x % p ≠ 0) : ∀ n, (x ^ n) % p ≠ 0
  | 0 => by rw [Nat.pow_zero, Nat.mod_eq_of_lt (by have := h.1; omega)]; decide
  | n + 1 => by rw [Nat.pow_succ]; exact h.mul (Pr.pow h hx n) hx
theorem fac_uniq {n a b c r a' b' c' r' : Nat} (h : Fac n a b c r) (h' : Fac n a' b' c' r') (h2 : r % 2 ≠ 0) (h3 : r % 3 ≠ 0) (h5 : r % 5 ≠ 0) (k2 : r' % 2 ≠ 0) (k3 : r' % 3 ≠ 0) (k5 : r' % 5 ≠ 0) : a = a' ∧ b = b' ∧ c = c' ∧ r = r' := by
  have e : 2 ^ a * (3 ^ b * (5 ^ c * r)) = 2 ^ a' * (3 ^ b' * (5 ^ c' * r')) := by
    have h1 := h.eq.symm.trans h'.eq
    simpa only [Nat.mul_assoc] using h1
  have p2 : ∀ {b c r : Nat}, r % 2 ≠ 0 → (3 ^ b * (5 ^ c * r)) % 2 ≠ 0 := fun hr => pr_two.mul (pr_two.pow (by decide) _) (pr_two.mul (pr_two.pow (by decide) _) hr)
  obtain ⟨e1, e⟩ := pow_uniq (by decide) e (p2 h2) (p2 k2)
  have p3 : ∀ {c r : Nat}, r % 3 ≠ 0 → (5 ^ c * r) % 3 ≠ 0 := fun hr => pr_three.mul (pr_three.pow (by decide) _) hr
  obtain ⟨e2, e⟩ := pow_uniq (by decide) e (p3 h3) (p3 k3)
  obtain ⟨e3, e4⟩ := pow_uniq (by decide) e h5 k5
  exact ⟨e1, e2, e3, e4⟩
theorem fac_mul {n d a b c r a' b' c' r' : Nat} (h : Fac n a b c r) (h' : Fac d a' b' c' r') : Fac (n * d) (a + a') (b + b') (c + c') (r * r') := ⟨by
  rw [h.eq, h'.eq, Nat.pow_add, Nat.pow_add, Nat.pow_add]
  simp only [Nat.mul_assoc, Nat.mul_left_comm, Nat.mul_comm]⟩
/-- Two ways to take the primes out of a quotient come to the same. -/
theorem fac_match {n d n' d' g rn rd a0 b0 a1 b1 a2 b2 sn sd c0 e0 c1 e1 c2 e2 : Nat} (hn : n = g * n') (hd : d = g * d') (hg : Nat.gcd n' d' = 1) (_hp : 1 ≤ n) (_hd : 1 ≤ d)
    (f1 : Fac n a0 a1 a2 rn) (f2 : Fac d b0 b1 b2 rd) (m2 : rn % 2 ≠ 0 ∧ rd % 2 ≠ 0) (m3 : rn % 3 ≠ 0 ∧ rd % 3 ≠ 0) (m5 : rn % 5 ≠ 0 ∧ rd % 5 ≠ 0)
    (g1 : Fac n' c0 c1 c2 sn) (g2 : Fac d' e0 e1 e2 sd) (l2 : sn % 2 ≠ 0 ∧ sd % 2 ≠ 0) (l3 : sn % 3 ≠ 0 ∧ sd % 3 ≠ 0) (l5 : sn % 5 ≠ 0 ∧ sd % 5 ≠ 0) :
    (a0 : Int) - b0 = (c0 : Int) - e0 ∧ (a1 : Int) - b1 = (c1 : Int) - e1 ∧ (a2 : Int) - b2 = (c2 : Int) - e2 ∧ (rn = rd ↔ sn = 1 ∧ sd = 1) := by
  have hx : n * d' = n' * d := by rw [hn, hd]; simp only [Nat.mul_comm, Nat.mul_left_comm]
  have A := fac_mul f1 g2
  have B := fac_mul g1 f2
  rw [hx] at A
  obtain ⟨q0, q1, q2, q3⟩ := fac_uniq A B (pr_two.mul m2.1 l2.2) (pr_three.mul m3.1 l3.2) (pr_five.mul m5.1 l5.2) (pr_two.mul l2.1 m2.2) (pr_three.mul l3.1 m3.2) (pr_five.mul l5.1 m5.2)
  refine ⟨by omega, by omega, by omega, ?_⟩
  constructor
  · intro h
    subst h
    have hr : 0 < rn := by have := m2.1; omega
    rw [Nat.mul_comm rn sd] at q3
    have hs : sd = sn := Nat.eq_of_mul_eq_mul_right hr q3
    subst hs
    have d1 : sd ∣ n' := by rw [g1.eq]; exact Nat.dvd_mul_left _ _
    have d2 : sd ∣ d' := by rw [g2.eq]; exact Nat.dvd_mul_left _ _
    have h1 := Nat.dvd_gcd d1 d2
    rw [hg] at h1
    have := Nat.dvd_one.1 h1
    exact ⟨this, this⟩
  · rintro ⟨rfl, rfl⟩
    simpa using q3
end
end Go.Proofs.YtplonkeipdbchaaGreatDoor
