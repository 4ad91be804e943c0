/- Package interval: bounds, the numbers between which a logarithm lies. Conditions: exponents at most 10 to the power 12; the library's table of powers of ten reads as its text lays it. -/
import Derived.Test.YtplonkeipdbchaaGreatDoorAddInt
import Derived.Test.YtplonkeipdbchaaGreatDoorIvParts
import Derived.Deep.RegionHeld3
namespace Go.Proofs.YtplonkeipdbchaaGreatDoor
open Go.RowKit

/-- The unit, and the logarithms of 3 and 5, as the code has them. -/
def lgU : Int := 1000000000000000000000000000000
def lgT : Int := 1584962500721156181453738943947
def lgF : Int := 2321928094887362347870319429489
abbrev sUnit : ByteArray := ⟨#[49, 48, 48, 48, 48, 48, 48, 48, 48, 48, 48, 48, 48, 48, 48, 48, 48, 48, 48, 48, 48, 48, 48, 48, 48, 48, 48, 48, 48, 48, 48]⟩
abbrev sThree : ByteArray := ⟨#[49, 53, 56, 52, 57, 54, 50, 53, 48, 48, 55, 50, 49, 49, 53, 54, 49, 56, 49, 52, 53, 51, 55, 51, 56, 57, 52, 51, 57, 52, 55]⟩
abbrev sFive : ByteArray := ⟨#[50, 51, 50, 49, 57, 50, 56, 48, 57, 52, 56, 56, 55, 51, 54, 50, 51, 52, 55, 56, 55, 48, 51, 49, 57, 52, 50, 57, 52, 56, 57]⟩
theorem dec_unit : dec lgU = sUnit := by kernel_rfl
theorem dec_three : dec lgT = sThree := by kernel_rfl
theorem dec_five : dec lgF = sFive := by kernel_rfl
theorem lg_bd : (0 < lgU ∧ lgU < 10000000000000000000000000000000) ∧ (0 < lgT ∧ lgT < 10000000000000000000000000000000) ∧ (0 < lgF ∧ lgF < 10000000000000000000000000000000) := by decide
/-- A logarithm, rounded. -/
def lgZ (x y z : Int) : Int := [x * lgU, y * lgT, z * lgF].sum
def loZ (x y z : Int) : Int := lgZ x y z + (if 0 < y then 0 else y) + (if 0 < z then 0 else z)
def hiZ (x y z : Int) : Int := lgZ x y z + (if 0 < y then y else 0) + (if 0 < z then z else 0)
/-- An int that is not great. -/
def M12 (x : Int) : Prop := -1000000000000 ≤ x ∧ x ≤ 1000000000000
theorem mul_lg {x c : Int} (hx : M12 x) (hc : 0 < c ∧ c < 10000000000000000000000000000000) : (x * c).natAbs < 10 ^ 44 := by
  rw [Int.natAbs_mul]
  have h1 : x.natAbs ≤ 1000000000000 := by have := hx.1; have := hx.2; omega
  have h2 : c.natAbs < 10000000000000000000000000000000 := by omega
  calc x.natAbs * c.natAbs ≤ 1000000000000 * c.natAbs := Nat.mul_le_mul_right _ h1
    _ < 1000000000000 * 10000000000000000000000000000000 := Nat.mul_lt_mul_of_pos_left h2 (by decide)
    _ ≤ 10 ^ 44 := by decide
theorem lgZ_bd {x y z : Int} (hx : M12 x) (hy : M12 y) (hz : M12 z) : (lgZ x y z).natAbs < 10 ^ 45 := by
  obtain ⟨hu, ht, hf⟩ := lg_bd
  have h1 := mul_lg hx hu
  have h2 := mul_lg hy ht
  have h3 := mul_lg hz hf
  unfold lgZ
  simp only [List.sum_cons, List.sum_nil]
  omega
theorem lo_bd {x y z : Int} (hx : M12 x) (hy : M12 y) (hz : M12 z) : (loZ x y z).natAbs < 10 ^ 46 := by
  have h := lgZ_bd hx hy hz
  have := hy.1; have := hy.2; have := hz.1; have := hz.2
  unfold loZ
  split <;> split <;> omega
theorem hi_bd {x y z : Int} (hx : M12 x) (hy : M12 y) (hz : M12 z) : (hiZ x y z).natAbs < 10 ^ 46 := by
  have h := lgZ_bd hx hy hz
  have := hy.1; have := hy.2; have := hz.1; have := hz.2
  unfold hiZ
  split <;> split <;> omega
theorem m12_digits {x : Int} (hx : M12 x) : Lib.nDigits x.natAbs ≤ 13 := nDigits_pow (by decide) (by have := hx.1; have := hx.2; omega)
theorem of12 (x : Int) (w : World) (ht : Tab w) (hx : M12 x) : Calls Tryz.prog 28 #[.int .i64 x] w fun e w' => e = .returned (.string (dec x)) ∧ Below w.heap.size w w' := of_any x (by have := hx.1; omega) (by have := hx.2; omega) w ht
theorem mul_unit (x : Int) (w : World) (ht : Tab w) (hx : M12 x) : Calls Tryz.prog 27 #[.string (dec x), .string sUnit] w fun e w' => e = .returned (.string (dec (x * lgU))) ∧ Below w.heap.size w w' := by
  rw [← dec_unit]
  exact mul_any x lgU w ht (Nat.le_trans (m12_digits hx) (by decide)) (Nat.le_trans (nDigits_pow (k := 32) (by decide) (by decide)) (by decide))
theorem mul_three (x : Int) (w : World) (ht : Tab w) (hx : M12 x) : Calls Tryz.prog 27 #[.string (dec x), .string sThree] w fun e w' => e = .returned (.string (dec (x * lgT))) ∧ Below w.heap.size w w' := by
  rw [← dec_three]
  exact mul_any x lgT w ht (Nat.le_trans (m12_digits hx) (by decide)) (Nat.le_trans (nDigits_pow (k := 32) (by decide) (by decide)) (by decide))
theorem mul_five (x : Int) (w : World) (ht : Tab w) (hx : M12 x) : Calls Tryz.prog 27 #[.string (dec x), .string sFive] w fun e w' => e = .returned (.string (dec (x * lgF))) ∧ Below w.heap.size w w' := by
  rw [← dec_five]
  exact mul_any x lgF w ht (Nat.le_trans (m12_digits hx) (by decide)) (Nat.le_trans (nDigits_pow (k := 32) (by decide) (by decide)) (by decide))
theorem sum_lg (x y z : Int) (g : Nat) (w : World) (ht : Tab w) (hx : M12 x) (hy : M12 y) (hz : M12 z) (hr : Rd decv w w.heap.size (some ⟨g, 0, none⟩) [x * lgU, y * lgT, z * lgF]) :
    Calls Tryz.prog 52 #[.slice (some ⟨g, 0, none⟩) 3 3] w fun e w' => e = .returned (.string (dec (lgZ x y z))) ∧ Below w.heap.size w w' := by
  obtain ⟨hu, ht', hf⟩ := lg_bd
  refine sum_any _ _ 3 3 w.heap.size w ht rfl (by decide) hr (Nat.le_refl _) (by decide) (by decide) (fun v hv => ?_)
  have h44 : (10 : Nat) ^ 44 < 10 ^ 100 := by decide
  simp only [List.mem_cons, List.not_mem_nil, or_false] at hv
  rcases hv with rfl | rfl | rfl
  · exact Nat.lt_trans (mul_lg hx hu) h44
  · exact Nat.lt_trans (mul_lg hy ht') h44
  · exact Nat.lt_trans (mul_lg hz hf) h44
theorem add12 (a x : Int) (w : World) (ht : Tab w) (ha : a.natAbs < 10 ^ 60) (hx : M12 x) : Calls Tryz.prog 29 #[.string (dec a), .string (dec x)] w fun e w' => e = .returned (.string (dec (a + x))) ∧ Below w.heap.size w w' :=
  add_any a x w ht (Nat.le_trans (nDigits_pow (k := 60) (by decide) ha) (by decide)) (Nat.le_trans (m12_digits hx) (by decide))

/-- The box of the exponents, and below the call's heap nothing has changed. -/
def BoMem (w : World) (x y z : Int) (W : World) : Prop := Blk W w.heap.size 26 [.int .i64 x, .int .i64 y, .int .i64 z] ∧ Tab W ∧ Below w.heap.size w W
theorem BoMem.below {w W W' : World} {x y z : Int} (h : BoMem w x y z W) (hb : Below W.heap.size W W') : BoMem w x y z W' := ⟨h.1.below hb h.1.lt, h.2.1.below hb, h.2.2.trans (hb.mono h.2.2.size)⟩
def BoHeld (w : World) (x y z : Int) (W : World) : Prop := W.cell? ⟨w.heap.size, 0, none⟩ = some (.int .i64 x) ∧ W.cell? ⟨w.heap.size, 1, none⟩ = some (.int .i64 y) ∧ W.cell? ⟨w.heap.size, 2, none⟩ = some (.int .i64 z) ∧ BoMem w x y z W
theorem BoMem.held {w W : World} {x y z : Int} (h : BoMem w x y z W) : BoHeld w x y z W := ⟨h.1.cell 0, h.1.cell 1, h.1.cell 2, h⟩
theorem BoHeld.below {w W W' : World} {x y z : Int} (h : BoHeld w x y z W) (hb : Below W.heap.size W W') : BoHeld w x y z W' := (h.2.2.2.below hb).held
theorem BoHeld.drew {w W : World} {x y z : Int} (h : BoHeld w x y z W) : BoHeld w x y z W.drew := h.below (bw_drew (Below.refl _ _))
theorem BoHeld.new {w W : World} {x y z : Int} (h : BoHeld w x y z W) (o : Obj) : BoHeld w x y z (W.alloc o) := h.below (bw_new (Below.refl _ _) o)
theorem BoHeld.tab {w W : World} {x y z : Int} (h : BoHeld w x y z W) : Tab W := h.2.2.2.2.1
theorem rd_three (W : World) (a b c : Int) (t : TypeId) : Rd decv (W.alloc (.cells #[.string (dec a), .string (dec b), .string (dec c)] t)) (W.alloc (.cells #[.string (dec a), .string (dec b), .string (dec c)] t)).heap.size (some ⟨W.heap.size, 0, none⟩) [a, b, c] :=
  Blk.rd (t := t) (heap_alloc_new W _)

def loK (x y z : Int) : Nat → Int
  | 0 => lgZ x y z
  | 1 => lgZ x y z + (if 0 < y then 0 else y)
  | _ => loZ x y z
def hiK (x y z : Int) : Nat → Int
  | 0 => lgZ x y z
  | 1 => lgZ x y z + (if 0 < y then y else 0)
  | _ => hiZ x y z
theorem loK_bd {x y z : Int} (hx : M12 x) (hy : M12 y) (hz : M12 z) (k : Nat) : (loK x y z k).natAbs < 10 ^ 60 ∧ (hiK x y z k).natAbs < 10 ^ 60 := by
  have h := lgZ_bd hx hy hz
  have h1 := lo_bd hx hy hz
  have h2 := hi_bd hx hy hz
  have := hy.1; have := hy.2
  match k with
  | 0 => exact ⟨by show (lgZ x y z).natAbs < _; omega, by show (lgZ x y z).natAbs < _; omega⟩
  | 1 => exact ⟨by show (lgZ x y z + _).natAbs < _; split <;> omega, by show (lgZ x y z + _).natAbs < _; split <;> omega⟩
  | _ + 2 => exact ⟨by show (loZ x y z).natAbs < _; omega, by show (hiZ x y z).natAbs < _; omega⟩
/-- What the loop of bounds carries. -/
def BoRel (w : World) (x y z : Int) (a b v : Value) (W : World) : Prop :=
  ∃ k : Nat, k ≤ 2 ∧ v = .int .i64 (k : Int) ∧ a = .string (dec (loK x y z k)) ∧ b = .string (dec (hiK x y z k)) ∧ BoMem w x y z W

set_option maxRecDepth 100000 in
set_option maxHeartbeats 8000000 in
theorem bounds_any (x y z : Int) (w : World) (ht : Tab w) (hx : M12 x) (hy : M12 y) (hz : M12 z) :
    Calls Tryz.prog 26 #[.agg #[.int .i64 x, .int .i64 y, .int .i64 z]] w fun e w' => e = .returned (.tuple #[.string (dec (loZ x y z)), .string (dec (hiZ x y z))]) ∧ Below w.heap.size w w' := by
  have hM0 : BoHeld w x y z (w.alloc (.cells #[.int .i64 x, .int .i64 y, .int .i64 z] 26)) :=
    BoMem.held ⟨heap_alloc_new w _, ht.below (bw_new (Below.refl _ _) _), bw_new (Below.refl _ _) _⟩
  have hlg := lgZ_bd hx hy hz
  have HX := Lib.hid hx
  have HY := Lib.hid hy
  have HZ := Lib.hid hz
  have HLG := Lib.hid hlg
  clear hx hy hz hlg ht
  go_enter Tryz.func26, Tryz.ntmps26
  go_wp2_with fail
  obtain ⟨W, hW⟩ : ∃ W, W = w.alloc (.cells #[.int .i64 x, .int .i64 y, .int .i64 z] 26) := ⟨_, rfl⟩
  rw [← hW] at hM0 ⊢
  clear hW
  go_region_held3 (fun w' => w'.cell? ⟨w.heap.size, 0, none⟩ = some (.int .i64 x) ∧ w'.cell? ⟨w.heap.size, 1, none⟩ = some (.int .i64 y) ∧ w'.cell? ⟨w.heap.size, 2, none⟩ = some (.int .i64 z) ∧ BoMem w x y z w') (first | assumption | exact BoHeld.drew hM0 | exact BoHeld.below (by assumption) hbel | exact BoHeld.new (by assumption) _)
    (first
     | (go_at_call 28; refine (of12 _ _ (BoHeld.tab (by assumption)) (by first | exact HX.out | exact HY.out | exact HZ.out)).mono ?_; rintro e w' ⟨rfl, hbel⟩)
     | (go_at_call_of 27 (dec x); refine (mul_unit x _ (BoHeld.tab (by assumption)) HX.out).mono ?_; rintro e w' ⟨rfl, hbel⟩)
     | (go_at_call_of 27 (dec y); refine (mul_three y _ (BoHeld.tab (by assumption)) HY.out).mono ?_; rintro e w' ⟨rfl, hbel⟩)
     | (go_at_call_of 27 (dec z); refine (mul_five z _ (BoHeld.tab (by assumption)) HZ.out).mono ?_; rintro e w' ⟨rfl, hbel⟩)
     | (go_at_call 52; refine (sum_lg x y z _ _ (BoHeld.tab (by assumption)) HX.out HY.out HZ.out (rd_three _ _ _ _ _)).mono ?_; rintro e w' ⟨rfl, hbel⟩))
  have hB : BoHeld w x y z w' := by assumption
  have HB := Lib.hid hB.2.2.2
  rename_i hHeld
  clear hHeld hB hbel hM0
  obtain ⟨W1, hW1⟩ : ∃ W1, W1 = w' := ⟨_, rfl⟩
  rw [← hW1] at HB ⊢
  clear hW1
  go_wp2_with fail
  go_loopw [2, 3, 23] (fun a b v wr => BoRel w x y z a b v wr) (fun _ _ v _ => 2 - (intOf v).toNat)
  case atStart => exact ⟨0, by omega, rfl, rfl, rfl, HB.out⟩
  case round =>
    obtain ⟨k, hk, rfl, rfl, rfl, hmem⟩ := hrel
    have HM := Lib.hid hmem
    have hsz : w.heap.size < wr.heap.size := hmem.1.lt
    clear hmem HB
    have hbd := loK_bd HX.out HY.out HZ.out k
    by_cases hlt : k < 2
    · rcases (show k = 0 ∨ k = 1 by omega) with rfl | rfl
      · have c0 := HM.out.1.cell 1
        obtain ⟨la, hla⟩ : ∃ a, a = loK x y z 0 := ⟨_, rfl⟩
        obtain ⟨ha, hha⟩ : ∃ a, a = hiK x y z 0 := ⟨_, rfl⟩
        rw [← hla, ← hha] at hbd
        rw [← hla, ← hha]
        by_cases hp : 0 < y
        · have hadd := fun W h => add12 ha y W h hbd.2 HY.out
          have e1 := Lib.hid (show loK x y z (0 + 1) = la by rw [hla]; show _ + (if 0 < y then 0 else y) = _; rw [if_pos hp, Int.add_zero]; rfl)
          have e2 := Lib.hid (show hiK x y z (0 + 1) = ha + y by rw [hha]; show _ + (if 0 < y then y else 0) = _; rw [if_pos hp]; rfl)
          have HADD := Lib.hid hadd
          have HOF := Lib.hid (fun W h => of12 y W h HY.out)
          clear hadd hla hha hbd
          go_wp2_with fail
          refine (HOF.out _ HM.out.2.1).mono ?_
          rintro e w2 ⟨rfl, hb⟩
          have HM2 := Lib.hid (HM.out.below hb)
          clear hb
          go_wp2_with fail
          refine (HADD.out _ HM2.out.2.1).mono ?_
          rintro e w3 ⟨rfl, hb⟩
          have HM3 := Lib.hid (HM2.out.below hb)
          clear hb c0
          go_wp2
          go_roundw
          case rel =>
            have hrl : BoRel w x y z (.string (dec la)) (.string (dec (ha + y))) (.int .i64 ((0 + 1 : Nat) : Int)) w3 := ⟨0 + 1, by omega, rfl, by rw [e1.out], by rw [e2.out], HM3.out⟩
            exact hrl
          case measure => simp [intOf]
        · have hadd := fun W h => add12 la y W h hbd.1 HY.out
          have e1 := Lib.hid (show loK x y z (0 + 1) = la + y by rw [hla]; show _ + (if 0 < y then 0 else y) = _; rw [if_neg hp]; rfl)
          have e2 := Lib.hid (show hiK x y z (0 + 1) = ha by rw [hha]; show _ + (if 0 < y then y else 0) = _; rw [if_neg hp, Int.add_zero]; rfl)
          have HADD := Lib.hid hadd
          have HOF := Lib.hid (fun W h => of12 y W h HY.out)
          clear hadd hla hha hbd
          go_wp2_with fail
          refine (HOF.out _ HM.out.2.1).mono ?_
          rintro e w2 ⟨rfl, hb⟩
          have HM2 := Lib.hid (HM.out.below hb)
          clear hb
          go_wp2_with fail
          refine (HADD.out _ HM2.out.2.1).mono ?_
          rintro e w3 ⟨rfl, hb⟩
          have HM3 := Lib.hid (HM2.out.below hb)
          clear hb c0
          go_wp2
          go_roundw
          case rel =>
            have hrl : BoRel w x y z (.string (dec (la + y))) (.string (dec ha)) (.int .i64 ((0 + 1 : Nat) : Int)) w3 := ⟨0 + 1, by omega, rfl, by rw [e1.out], by rw [e2.out], HM3.out⟩
            exact hrl
          case measure => simp [intOf]
      · have c0 := HM.out.1.cell 2
        obtain ⟨la, hla⟩ : ∃ a, a = loK x y z 1 := ⟨_, rfl⟩
        obtain ⟨ha, hha⟩ : ∃ a, a = hiK x y z 1 := ⟨_, rfl⟩
        rw [← hla, ← hha] at hbd
        rw [← hla, ← hha]
        by_cases hp : 0 < z
        · have hadd := fun W h => add12 ha z W h hbd.2 HZ.out
          have e1 := Lib.hid (show loK x y z (1 + 1) = la by rw [hla]; show _ + (if 0 < z then 0 else z) = _; rw [if_pos hp, Int.add_zero]; rfl)
          have e2 := Lib.hid (show hiK x y z (1 + 1) = ha + z by rw [hha]; show _ + (if 0 < z then z else 0) = _; rw [if_pos hp]; rfl)
          have HADD := Lib.hid hadd
          have HOF := Lib.hid (fun W h => of12 z W h HZ.out)
          clear hadd hla hha hbd
          go_wp2_with fail
          refine (HOF.out _ HM.out.2.1).mono ?_
          rintro e w2 ⟨rfl, hb⟩
          have HM2 := Lib.hid (HM.out.below hb)
          clear hb
          go_wp2_with fail
          refine (HADD.out _ HM2.out.2.1).mono ?_
          rintro e w3 ⟨rfl, hb⟩
          have HM3 := Lib.hid (HM2.out.below hb)
          clear hb c0
          go_wp2
          go_roundw
          case rel =>
            have hrl : BoRel w x y z (.string (dec la)) (.string (dec (ha + z))) (.int .i64 ((1 + 1 : Nat) : Int)) w3 := ⟨1 + 1, by omega, rfl, by rw [e1.out], by rw [e2.out], HM3.out⟩
            exact hrl
          case measure => simp [intOf]
        · have hadd := fun W h => add12 la z W h hbd.1 HZ.out
          have e1 := Lib.hid (show loK x y z (1 + 1) = la + z by rw [hla]; show _ + (if 0 < z then 0 else z) = _; rw [if_neg hp]; rfl)
          have e2 := Lib.hid (show hiK x y z (1 + 1) = ha by rw [hha]; show _ + (if 0 < z then z else 0) = _; rw [if_neg hp, Int.add_zero]; rfl)
          have HADD := Lib.hid hadd
          have HOF := Lib.hid (fun W h => of12 z W h HZ.out)
          clear hadd hla hha hbd
          go_wp2_with fail
          refine (HOF.out _ HM.out.2.1).mono ?_
          rintro e w2 ⟨rfl, hb⟩
          have HM2 := Lib.hid (HM.out.below hb)
          clear hb
          go_wp2_with fail
          refine (HADD.out _ HM2.out.2.1).mono ?_
          rintro e w3 ⟨rfl, hb⟩
          have HM3 := Lib.hid (HM2.out.below hb)
          clear hb c0
          go_wp2
          go_roundw
          case rel =>
            have hrl : BoRel w x y z (.string (dec (la + z))) (.string (dec ha)) (.int .i64 ((1 + 1 : Nat) : Int)) w3 := ⟨1 + 1, by omega, rfl, by rw [e1.out], by rw [e2.out], HM3.out⟩
            exact hrl
          case measure => simp [intOf]
    · obtain rfl : k = 2 := by omega
      go_wp2
      go_ret2
      exact ⟨rfl, HM.out.2.2⟩
end Go.Proofs.YtplonkeipdbchaaGreatDoor
