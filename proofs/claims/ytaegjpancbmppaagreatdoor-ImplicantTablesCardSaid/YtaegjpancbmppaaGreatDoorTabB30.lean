/- Part 30 of 33 of the proof of the law: contracts of the functions that it reaches, and plain facts. Conditions: those that each contract names. -/
import Derived.Test.YtaegjpancbmppaaGreatDoorTabB29
import Derived.Test.YtaegjpancbmppaaGreatDoorTabB18
import Derived.Test.YtaegjpancbmppaaGreatDoorTabB24
import Derived.Test.YtaegjpancbmppaaGreatDoorTabB07
import Derived.Deep.OwnRows
set_option linter.unusedVariables false
set_option linter.unusedSimpArgs false
namespace Go.Proofs.YtaegjpancbmppaaGreatDoor
open Go.RowKit Go.Shelf
abbrev tzL : List Value := [.int .i64 0, .slice none 0 0, .slice none 0 0]
theorem infoBo : (Tryz.prog.info? 4).map (fun i => (i.zero, i.size, i.bytes)) = some (some (.bool false), 1, 1) := by kernel_rfl
structure OfS (W w1 : World) (k a : Int) (A : Option Addr) (n c q : Nat) (Ao : Option Addr) (no co : Nat) (bs : List Bool) (Y : List Value) (X : World) : Prop where
 hp : Hp W [(W.heap.size, 53, fcL k a A n c), (W.heap.size + 1, 26, tzL), (w1.heap.size, 26, [.int .i64 (q : Int), .slice Ao no co, .slice none 0 0]), (w1.heap.size + 1, 4, bs.map bz)] X
 o : X.ownsRow (w1.heap.size + 2) 3 1 (.slice Ao no co) no Y
theorem OfS.step {W w1 X X' : World} {k a : Int} {A : Option Addr} {n c q : Nat} {Ao : Option Addr} {no co : Nat} {bs : List Bool} {Y : List Value} (h : OfS W w1 k a A n c q Ao no co bs Y X) (hb : Below X.heap.size X X') : OfS W w1 k a A n c q Ao no co bs Y X' := ⟨h.hp.step hb, own_blI h.o hb⟩
theorem OfS.setB {W w1 X : World} {k a : Int} {A : Option Addr} {n c q : Nat} {Ao : Option Addr} {no co : Nat} {bs : List Bool} {Y : List Value} (h : OfS W w1 k a A n c q Ao no co bs Y X) (i : Nat) (b : Bool) : OfS W w1 k a A n c q Ao no co (bs.set i b) Y (X.setCell ⟨w1.heap.size + 1, i, none⟩ (bz b)) := by
 have h1 := h.hp.put 3 rfl i (bz b)
 refine ⟨?_, own_keep h.o fun g e => Below.heap_setCell X ⟨w1.heap.size + 1, i, none⟩ _ g (by have := (h.o.lt g e).1; show g ≠ w1.heap.size + 1; omega)⟩
 rw [List.map_set]
 exact h1
theorem OfS.app {W w1 X Xb w4 : World} {k a : Int} {A : Option Addr} {n c q : Nat} {Ao : Option Addr} {no co g4 c4 : Nat} {bs : List Bool} {Y Y' : List Value} (h : OfS W w1 k a A n c q Ao no co bs Y X) (hw : W.heap.size + 2 ≤ w1.heap.size) (hb : Below X.heap.size X Xb)
  (ho : w4.ownsRow (w1.heap.size + 2) 3 1 (.slice (some ⟨g4, 0, none⟩) (no + 1) c4) (no + 1) Y') (hg : Xb.grownBy w4 (Value.slice Ao no co).ownBlock) :
  OfS W w1 k a A n c q (some ⟨g4, 0, none⟩) (no + 1) c4 bs Y' (w4.setCell ⟨w1.heap.size, 1, none⟩ (.slice (some ⟨g4, 0, none⟩) (no + 1) c4)) :=
 ⟨(hp_grown h.hp (by intro p hp; simp only [List.mem_cons, List.not_mem_nil, or_false] at hp; rcases hp with rfl | rfl | rfl | rfl <;> (dsimp only; omega)) (by omega) hb h.o hg).put 2 rfl 1 (.slice (some ⟨g4, 0, none⟩) (no + 1) c4),
  own_keep ho fun g e => Below.heap_setCell w4 ⟨w1.heap.size, 1, none⟩ _ g (by have := (ho.lt g e).1; show g ≠ w1.heap.size; omega)⟩
theorem rowV_succ (i r : Nat) : rowV (i + 1) r = rowV i r ++ [r.testBit i] := by unfold rowV; rw [List.range_succ, List.map_append]; rfl
theorem rowV_set {i r : Nat} {bs : List Bool} (hi : i < bs.length) : (rowV i r ++ bs.drop i).set i (r.testBit i) = rowV (i + 1) r ++ bs.drop (i + 1) := by
 rw [List.drop_eq_getElem_cons hi, rowV_succ, List.append_assoc, List.set_append, if_neg (by rw [rowV_len]; exact Nat.lt_irrefl _), rowV_len, Nat.sub_self]
 rfl
theorem rowV_at {i r : Nat} {bs : List Bool} (hi : i < bs.length) : ((rowV i r ++ bs.drop i).map bz)[i]? = some (bz bs[i]) := by
 rw [List.getElem?_map, List.getElem?_append_right (by rw [rowV_len]; exact Nat.le_refl _), rowV_len, Nat.sub_self, List.drop_eq_getElem_cons hi]
 rfl
def ofE (n : Int) (t : Fm) : Int := if n < 0 ∨ 8 < n then 3 else if t.vars.all (fun x => decide (x < n)) = true then 0 else 5
def OfPost (n : Int) (t : Fm) (W : World) (e : Ending) (W' : World) : Prop :=
 (ofE n t ≠ 0 ∧ e = .returned (.tuple #[.agg #[.int .i64 0, .slice none 0 0, .slice none 0 0], .int .i64 (ofE n t)]) ∧ Below W.heap.size W W') ∨
 (ofE n t = 0 ∧ ∃ (A' : Option Addr) (c' : Nat), e = .returned (.tuple #[.agg #[.int .i64 n, .slice A' (tabF n.toNat t).length c', .slice none 0 0], .int .i64 0]) ∧ Rd iz W' W'.heap.size A' (zR (tabF n.toNat t)) ∧ Below W.heap.size W W')
set_option maxRecDepth 1000000 in
set_option maxHeartbeats 8000000 in
theorem iTable_any (t : Fm) (A : Option Addr) (c : Nat) (v : Int) (W : World) (h : FmOK t) (hA : FsR W (lowB W.heap.size) A t.l) :
  Calls Tryz.prog 35 #[.agg (fcL t.k t.a A t.l.length c).toArray, .int .i64 v] W (OfPost v t W) := by
 obtain ⟨k, hk⟩ : ∃ k, k = t.k := ⟨_, rfl⟩
 obtain ⟨a, ha⟩ : ∃ k, k = t.a := ⟨_, rfl⟩
 obtain ⟨n, hn⟩ : ∃ n, n = t.l.length := ⟨_, rfl⟩
 rw [← hk, ← ha, ← hn]
 have HSU := Lib.hid (show ∀ X, Below W.heap.size W X → Calls Tryz.prog 61 #[.agg #[.int .i64 k, .int .i64 a, .slice A n c]] X (FspPost t.vars X) from fun X hb => by
  rw [hk, ha, hn]; exact fsupport_any t A c X h (hA.step hb))
 have HVL := Lib.hid (show ∀ X, Below W.heap.size W X → ∀ (vals : List Bool) Av mv cv, (∀ x ∈ t.vars, x < (vals.length : Int)) → mv = vals.length → Rd bz X X.heap.size Av vals → Calls Tryz.prog 62 #[.agg #[.int .i64 k, .int .i64 a, .slice A n c], .slice Av mv cv] X (FvlPost (t.val (vf vals)) X) from fun X hb vals Av mv cv h1 h2 h3 => by
  rw [hk, ha, hn]; exact fvalue_any t vals A Av c mv cv X h h1 h2 (varIn_of h.2.2 h1) (hA.step hb) h3)
 have hm0 := ((Hp.start W).new 53 (fcL k a A n c)).new 26 tzL
 simp only [World.size_alloc, List.nil_append, List.cons_append] at hm0
 have HM0 := Lib.hid hm0
 clear hk ha hn h hA hm0
 show Calls Tryz.prog 35 #[.agg #[.int .i64 k, .int .i64 a, .slice A n c], .int .i64 v] W _
 go_enter Tryz.func35, Tryz.ntmps35
 go_wp2_with fail
 refine (HSU.out _ HM0.out.below).mono ?_
 rintro e w1 ⟨A1, c1, L, rfl, hR, hP, hM, hL, hb⟩
 have HP1 := Lib.hid (HM0.out.step hb)
 have hw2 : W.heap.size + 2 ≤ w1.heap.size := by have := (HP1.out.at_ 1 rfl).lt; omega
 have q0 : w1.cell? ⟨W.heap.size, 0, none⟩ = some (.int .i64 k) := (HP1.out.at_ 0 rfl).cell 0
 have q1 : w1.cell? ⟨W.heap.size, 1, none⟩ = some (.int .i64 a) := (HP1.out.at_ 0 rfl).cell 1
 have q2 : w1.cell? ⟨W.heap.size, 2, none⟩ = some (.slice A n c) := (HP1.out.at_ 0 rfl).cell 2
 have t0 : w1.cell? ⟨W.heap.size + 1, 0, none⟩ = some (.int .i64 0) := (HP1.out.at_ 1 rfl).cell 0
 have t1 : w1.cell? ⟨W.heap.size + 1, 1, none⟩ = some (.slice none 0 0) := (HP1.out.at_ 1 rfl).cell 1
 have t2 : w1.cell? ⟨W.heap.size + 1, 2, none⟩ = some (.slice none 0 0) := (HP1.out.at_ 1 rfl).cell 2
 have u0 : w1.frozen? ⟨W.heap.size + 1, 0, none⟩ = false := (HP1.out.at_ 1 rfl).frozen 0
 have u1 : w1.frozen? ⟨W.heap.size + 1, 1, none⟩ = false := (HP1.out.at_ 1 rfl).frozen 1
 have u2 : w1.frozen? ⟨W.heap.size + 1, 2, none⟩ = false := (HP1.out.at_ 1 rfl).frozen 2
 obtain ⟨m, hm⟩ : ∃ m, m = L.length := ⟨_, rfl⟩
 rw [← hm]
 by_cases hv : v < 0 ∨ 8 < v
 ·have HE := Lib.hid (show ofE v t = 3 by unfold ofE; rw [if_pos hv])
  clear hR hP hM hL hb hm
  have hpf := HP1.out.put3 1 rfl (.int .i64 0) (.slice none 0 0) (.slice none 0 0)
  have HPF := Lib.hid hpf
  clear hpf
  rcases hv with hv | hv
  ·go_wp2_with fail
   have bF := HPF.out.at_ 1 rfl
   have r0 := bF.cell 0
   have r1 := bF.cell 1
   have r2 := bF.cell 2
   simp only [List.getElem?_cons_zero, List.getElem?_cons_succ] at r0 r1 r2
   exact bodyPost_ret (v := .tuple #[.agg #[.int .i64 0, .slice none 0 0, .slice none 0 0], .int .i64 3]) (by simp [results, Tryz.results35, go_sem, r0, r1, r2]) rfl (.inl ⟨by rw [HE.out]; decide, by rw [HE.out], HPF.out.below⟩)
  ·have hv0 : ¬ v < 0 := by omega
   go_wp2_with fail
   have bF := HPF.out.at_ 1 rfl
   have r0 := bF.cell 0
   have r1 := bF.cell 1
   have r2 := bF.cell 2
   simp only [List.getElem?_cons_zero, List.getElem?_cons_succ] at r0 r1 r2
   exact bodyPost_ret (v := .tuple #[.agg #[.int .i64 0, .slice none 0 0, .slice none 0 0], .int .i64 3]) (by simp [results, Tryz.results35, go_sem, r0, r1, r2]) rfl (.inl ⟨by rw [HE.out]; decide, by rw [HE.out], HPF.out.below⟩)
 ·have hv0 : ¬ v < 0 := by omega
  have hv8 : ¬ 8 < v := by omega
  obtain ⟨q, rfl⟩ : ∃ q : Nat, v = (q : Int) := ⟨v.toNat, by omega⟩
  have hq8 : q ≤ 8 := by omega
  have hd0 : decide ((q : Int) < 0) = false := decide_eq_false hv0
  have hd8 : decide (8 < (q : Int)) = false := decide_eq_false hv8
  clear hv hv0 hv8
  have hlast := inc_last hP (q : Int)
  have hall : (∀ x ∈ t.vars, x < (q : Int)) ↔ ∀ x ∈ L, x < (q : Int) := ⟨fun h x hx => h x ((hM x).1 hx), fun h x hx => h x ((hM x).2 hx)⟩
  by_cases hbd : ∀ x ∈ t.vars, x < (q : Int)
  ·have HE := Lib.hid (show ofE (q : Int) t = 0 by unfold ofE; rw [if_neg (by omega), if_pos (List.all_eq_true.2 fun x hx => decide_eq_true (hbd x hx))])
   have hl2 := hlast.1 (hall.1 hbd)
   have HBD := Lib.hid hbd
   have hmz : m = 0 ∨ ∃ g off z, A1 = some ⟨g, off, none⟩ ∧ g < w1.heap.size ∧ 0 < m ∧ IntKind.i64.wrap ((m : Int) - 1) = ((m - 1 : Nat) : Int) ∧ w1.cell? ⟨g, off + (m - 1), none⟩ = some (.int .i64 z) ∧ decide ((q : Int) ≤ z) = false := by
    by_cases h0 : m = 0
    ·exact .inl h0
    ·obtain ⟨g, off, hA1, hlt, hc⟩ := hR (by omega)
     refine .inr ⟨g, off, L[L.length - 1]'(by omega), hA1, hlt, by omega, by rw [IntWalk.i64_in _ (by omega)]; omega, ?_, decide_eq_false (by have := hl2 (by omega); omega)⟩
     subst hm
     exact hc (L.length - 1) (by omega)
   clear hR hP hM hL hb hlast hall hbd hl2 hm
   obtain ⟨N, hN⟩ : ∃ N, N = 2 ^ q := ⟨_, rfl⟩
   have hN8 : N ≤ 256 := by rw [hN]; exact pow_le8 hq8
   have hsh : wrap64 (2 ^ q) = (N : Int) := by
    have e : ((2 : Int) ^ q) = (N : Int) := by rw [hN, Int.natCast_pow]; rfl
    rw [e]; unfold wrap64; omega
   have HN := Lib.hid hN
   obtain ⟨j0, hj0, hy0, hy1, hy2⟩ := info_parts infoIntI
   have HJ0 := Lib.hid hj0
   have HY0 := Lib.hid hy0
   have HY1 := Lib.hid hy1
   have HY2 := Lib.hid hy2
   have HW2 := Lib.hid hw2
   obtain ⟨B0, hB0⟩ : ∃ B0, B0 = List.replicate q false := ⟨_, rfl⟩
   have hB0l : B0.length = q := by rw [hB0, List.length_replicate]
   have hmk : ∀ X, (Instr.makeSlice 104 (.int .i64 (q : Int)) (.int .i64 (q : Int))).run Tryz.prog X = .ok (.slice (some ⟨X.heap.size, 0, none⟩) q q) (X.alloc (.cells (B0.map bz).toArray 4)) := fun X => by
    rw [hB0]
    have := run_make_row' (P := Tryz.prog) 104 4 (.bool false) 1 Tryz.underlying104 infoBo rfl .i64 .i64 q (by omega) (by omega) X
    rw [show madeCells #[.bool false] q = ((List.replicate q false).map bz).toArray by apply Array.toList_inj.1; rw [toList_madeCells_one, List.map_replicate]] at this
    exact this
   clear hN hj0 hy0 hy1 hy2 hw2
   have hm3 := (HP1.out.new 26 [.int .i64 (q : Int), .slice none 0 0, .slice none 0 0]).new 4 (B0.map bz)
   simp only [World.size_alloc, List.nil_append, List.cons_append] at hm3
   have HM3 := Lib.hid hm3
   have HBL := Lib.hid hB0l
   clear hm3 hB0 hB0l
   rcases hmz with rfl | ⟨g, off, z, rfl, hlt, hm0, hmw, hc, hz⟩
   ·go_wp2_with fail
    rw [hsh]
    clear hsh
    go_loopw [50] (fun x wr => ∃ (r : Nat) (Ao : Option Addr) (no co : Nat) (bs : List Bool), r ≤ N ∧ x = .int .i64 (r : Int) ∧ bs.length = q ∧ no = (tabK q t r).length ∧ OfS W w1 k a A n c q Ao no co bs ((tabK q t r).map nv) wr) (fun x _ => N - (intOf x).toNat)
    case atStart => exact ⟨0, none, 0, 0, B0, Nat.zero_le _, rfl, HBL.out, rfl, HM3.out, World.ownsRow_nil _ _ _ _⟩
    case round =>
     obtain ⟨wo, rfl⟩ : ∃ W, W = wr := ⟨_, rfl⟩
     obtain ⟨r, Ao, no, co, bs, hr, rfl, hbs, hno, hS⟩ := hrel
     have HS := Lib.hid hS
     have HBS := Lib.hid hbs
     have HNO := Lib.hid hno
     have hno2 : no ≤ 256 := by have := tabK_len q t r; omega
     clear hS hbs hno HM3
     by_cases hlt : r < N
     ·have hrz : (r : Int) < (N : Int) := by omega
      have HLT := Lib.hid hlt
      obtain ⟨r2, hr2⟩ : ∃ z : Int, z = (r : Int) + 1 := ⟨_, rfl⟩
      have hwr : IntKind.i64.wrap ((r : Int) + 1) = r2 := by rw [hr2]; exact IntWalk.i64_in _ (by omega)
      have HR2 := Lib.hid hr2
      have hr256 : r < 256 := by omega
      clear hr2 hlt hr
      go_wp2_with fail
      go_loopw [55] (fun x wx => ∃ i : Nat, i ≤ q ∧ x = .int .i64 (i : Int) ∧ OfS W w1 k a A n c q Ao no co (rowV i r ++ bs.drop i) ((tabK q t r).map nv) wx) (fun x _ => q - (intOf x).toNat)
      case atStart => exact ⟨0, Nat.zero_le _, rfl, HS.out⟩
      case round =>
       obtain ⟨wi, rfl⟩ : ∃ W, W = wr := ⟨_, rfl⟩
       obtain ⟨i, hi, rfl, hS⟩ := hrel
       have HSI := Lib.hid hS
       have hwl : w1.heap.size + 1 < wi.heap.size := (hS.hp.at_ 3 rfl).lt
       clear hS
       by_cases hil : i < q
       ·have hiz : (i : Int) < (q : Int) := by omega
        have hi64 : (i : Int) < 64 := by omega
        have hib : i < bs.length := by rw [HBS.out]; exact hil
        have hab := bit_and1 (x := i) (show r < 9223372036854775808 by omega)
        have HIL := Lib.hid hil
        obtain ⟨i2, hi2⟩ : ∃ z : Int, z = (i : Int) + 1 := ⟨_, rfl⟩
        have hwi : IntKind.i64.wrap ((i : Int) + 1) = i2 := by rw [hi2]; exact IntWalk.i64_in _ (by omega)
        have HI2 := Lib.hid hi2
        have q5 : wi.cell? ⟨w1.heap.size + 1, i, none⟩ = some (bz bs[i]) := ((HSI.out.hp.at_ 3 rfl).cell i).trans (rowV_at hib)
        have f5 : wi.frozen? ⟨w1.heap.size + 1, i, none⟩ = false := (HSI.out.hp.at_ 3 rfl).frozen i
        have HST := Lib.hid (rowV_set (r := r) hib)
        clear hi2 hil hi
        cases hb : r.testBit i with
        | true =>
         rw [hb] at hab HST
         have hab2 : bits .and .i64 ((r : Int) / 2 ^ i) 1 = 1 := hab
         clear hab hb
         go_wp2_with fail
         go_roundw
         case rel => exact ⟨i + 1, HIL.out, by rw [HI2.out]; rfl, by rw [← HST.out]; exact HSI.out.setB i true⟩
         case measure => have := HIL.out; have := HI2.out; simp only [intOf]; omega
        | false =>
         rw [hb] at hab HST
         have hab2 : bits .and .i64 ((r : Int) / 2 ^ i) 1 = 0 := hab
         clear hab hb
         go_wp2_with fail
         go_roundw
         case rel => exact ⟨i + 1, HIL.out, by rw [HI2.out]; rfl, by rw [← HST.out]; exact HSI.out.setB i false⟩
         case measure => have := HIL.out; have := HI2.out; simp only [intOf]; omega
       ·obtain rfl : q = i := by omega
        have hiz : ¬ (q : Int) < (q : Int) := by omega
        have hrv : rowV q r ++ bs.drop q = rowV q r := by rw [List.drop_of_length_le (by rw [HBS.out]; exact Nat.le_refl _), List.append_nil]
        have hs := HSI.out
        rw [hrv] at hs
        have HSQ := Lib.hid hs
        have q0 : wi.cell? ⟨W.heap.size, 0, none⟩ = some (.int .i64 k) := (hs.hp.at_ 0 rfl).cell 0
        have q1 : wi.cell? ⟨W.heap.size, 1, none⟩ = some (.int .i64 a) := (hs.hp.at_ 0 rfl).cell 1
        have q2 : wi.cell? ⟨W.heap.size, 2, none⟩ = some (.slice A n c) := (hs.hp.at_ 0 rfl).cell 2
        have hwf : W.heap.size < wi.heap.size := (hs.hp.at_ 0 rfl).lt
        have HCV := Lib.hid (HVL.out wi hs.hp.below (rowV q r) (some ⟨w1.heap.size + 1, 0, none⟩) q q (by rw [rowV_len]; exact HBD.out) (rowV_len q r).symm (fun hl => ⟨w1.heap.size + 1, 0, rfl, hwl, fun j hj => by
         rw [Nat.zero_add, (hs.hp.at_ 3 rfl).cell j, List.getElem?_map, List.getElem?_eq_getElem hj]; rfl⟩))
        have HTK := Lib.hid (tabK_succ q t r)
        clear hi hil hrv hs HSI
        obtain ⟨b, hb⟩ : ∃ b, b = t.val (vf (rowV q r)) := ⟨_, rfl⟩
        rw [← hb] at HCV HTK
        clear hb
        go_wp2_with fail
        refine HCV.out.mono ?_
        rintro e w5 ⟨rfl, hb5⟩
        have HS5 := Lib.hid (HSQ.out.step hb5)
        clear hb5 q0 q1 q2 hwf hwl
        cases b with
        | false =>
         go_wp2_with fail
         go_roundw
         case rel => exact ⟨r + 1, Ao, no, co, rowV q r, HLT.out, by rw [HR2.out]; rfl, rowV_len _ _, by rw [HTK.out, if_neg (by simp)]; exact HNO.out, by rw [HTK.out, if_neg (by simp)]; exact HS5.out⟩
         case measure => have := HLT.out; have := HR2.out; simp only [intOf]; omega
        | true =>
         have t1 : w5.cell? ⟨w1.heap.size, 1, none⟩ = some (.slice Ao no co) := (HS5.out.hp.at_ 2 rfl).cell 1
         have hwl : w1.heap.size < w5.heap.size := (HS5.out.hp.at_ 2 rfl).lt
         go_wp2_with (at_builtin; refine wpList_append_lies _ rfl _ _ 24 rfl (w1.heap.size + 2) 3 j0 (.int .i64 0) 1 8 Tryz.underlying24 HJ0.out HY0.out HY1.out HY2.out rfl (by decide) _ _ _ rfl (own_blI HS5.out.o (bw_new (Below.refl _ _) _)) ⟨w5.heap.size, 0, none⟩ 1 1 [.int .i64 (r : Int)] rfl rfl (World.news_of_block (cs := #[.int .i64 (r : Int)]) (t := 3) (fr := (0, 0)) (heap_alloc_new w5 _)) (by simp [Value.oneCell']) (by decide) (by unfold maxLen; omega) (by omega) (by simp; omega) _ rfl ?_)
         intro g4 c4 w4 hown4 hgrow4 hor4 hlt4
         have HST := Lib.hid (HS5.out.app HW2.out (bw_new (Below.refl _ _) (.cells #[.int .i64 (r : Int)] 3)) hown4 hgrow4)
         have hpg := hp_grown HS5.out.hp (base := w1.heap.size + 2) (by intro p hp; have := HW2.out; simp only [List.mem_cons, List.not_mem_nil, or_false] at hp; rcases hp with rfl | rfl | rfl | rfl <;> (dsimp only; omega)) (by have := HW2.out; omega) (bw_new (Below.refl _ _) (.cells #[.int .i64 (r : Int)] 3)) HS5.out.o hgrow4
         have u1 : w4.cell? ⟨w1.heap.size, 1, none⟩ = some (.slice Ao no co) := (hpg.at_ 2 rfl).cell 1
         have v1 : w4.frozen? ⟨w1.heap.size, 1, none⟩ = false := (hpg.at_ 2 rfl).frozen 1
         clear hown4 hgrow4 hor4 hlt4 t1 hpg
         go_wp2_with fail
         go_roundw
         case rel => exact ⟨r + 1, some ⟨g4, 0, none⟩, no + 1, c4, rowV q r, HLT.out, by rw [HR2.out]; rfl, rowV_len _ _, by rw [HTK.out, if_pos (by trivial), List.length_append, ← HNO.out]; rfl, by rw [HTK.out, if_pos (by trivial), List.map_append]; exact HST.out⟩
         case measure => have := HLT.out; have := HR2.out; simp only [intOf]; omega
     ·obtain rfl : N = r := by omega
      have hrz : ¬ (N : Int) < (N : Int) := by omega
      have hTF : tabK q t N = tabF q t := by rw [HN.out]; rfl
      have hs := HS.out
      have hno := HNO.out
      rw [hTF] at hs hno
      have HSQ := Lib.hid hs
      have HNQ := Lib.hid hno
      have t0 : wo.cell? ⟨w1.heap.size, 0, none⟩ = some (.int .i64 (q : Int)) := (hs.hp.at_ 2 rfl).cell 0
      have t1 : wo.cell? ⟨w1.heap.size, 1, none⟩ = some (.slice Ao no co) := (hs.hp.at_ 2 rfl).cell 1
      have t2 : wo.cell? ⟨w1.heap.size, 2, none⟩ = some (.slice none 0 0) := (hs.hp.at_ 2 rfl).cell 2
      have hwl : w1.heap.size < wo.heap.size := (hs.hp.at_ 2 rfl).lt
      have v0 : wo.frozen? ⟨W.heap.size + 1, 0, none⟩ = false := (hs.hp.at_ 1 rfl).frozen 0
      have v1 : wo.frozen? ⟨W.heap.size + 1, 1, none⟩ = false := (hs.hp.at_ 1 rfl).frozen 1
      have v2 : wo.frozen? ⟨W.heap.size + 1, 2, none⟩ = false := (hs.hp.at_ 1 rfl).frozen 2
      have s0 : wo.cell? ⟨W.heap.size + 1, 0, none⟩ = some (.int .i64 0) := (hs.hp.at_ 1 rfl).cell 0
      have s1 : wo.cell? ⟨W.heap.size + 1, 1, none⟩ = some (.slice none 0 0) := (hs.hp.at_ 1 rfl).cell 1
      have s2 : wo.cell? ⟨W.heap.size + 1, 2, none⟩ = some (.slice none 0 0) := (hs.hp.at_ 1 rfl).cell 2
      have hwm : W.heap.size + 1 < wo.heap.size := (hs.hp.at_ 1 rfl).lt
      have hpf := hs.hp.put3 1 rfl (.int .i64 (q : Int)) (.slice Ao no co) (.slice none 0 0)
      have HPF := Lib.hid hpf
      have HOF := Lib.hid (own_keep (own_keep (own_keep hs.o (fun g e => Below.heap_setCell wo ⟨W.heap.size + 1, 0, none⟩ (.int .i64 (q : Int)) g (by have := (hs.o.lt g e).1; have := HW2.out; show g ≠ W.heap.size + 1; omega))) (fun g e => Below.heap_setCell _ ⟨W.heap.size + 1, 1, none⟩ (.slice Ao no co) g (by have := (hs.o.lt g e).1; have := HW2.out; show g ≠ W.heap.size + 1; omega))) (fun g e => Below.heap_setCell _ ⟨W.heap.size + 1, 2, none⟩ (.slice none 0 0) g (by have := (hs.o.lt g e).1; have := HW2.out; show g ≠ W.heap.size + 1; omega)))
      clear hr hlt hTF hs hno hpf
      go_wp2_with fail
      have bF := HPF.out.at_ 1 rfl
      have r0 := bF.cell 0
      have r1 := bF.cell 1
      have r2 := bF.cell 2
      simp only [List.getElem?_cons_zero, List.getElem?_cons_succ] at r0 r1 r2
      exact bodyPost_ret (v := .tuple #[.agg #[.int .i64 (q : Int), .slice Ao no co, .slice none 0 0], .int .i64 0]) (by simp [results, Tryz.results35, go_sem, r0, r1, r2]) rfl (.inr ⟨HE.out, Ao, co, by rw [Int.toNat_natCast, ← HNQ.out], own_rd HOF.out (by rw [Int.toNat_natCast]; exact HNQ.out), HPF.out.below⟩)
   ·have hm1 : (0 : Int) < (m : Int) := by omega
    go_wp2_with fail
    clear hlt hm0 hmw hc hz hm1
    rw [hsh]
    clear hsh
    go_loopw [50] (fun x wr => ∃ (r : Nat) (Ao : Option Addr) (no co : Nat) (bs : List Bool), r ≤ N ∧ x = .int .i64 (r : Int) ∧ bs.length = q ∧ no = (tabK q t r).length ∧ OfS W w1 k a A n c q Ao no co bs ((tabK q t r).map nv) wr) (fun x _ => N - (intOf x).toNat)
    case atStart => exact ⟨0, none, 0, 0, B0, Nat.zero_le _, rfl, HBL.out, rfl, HM3.out, World.ownsRow_nil _ _ _ _⟩
    case round =>
     obtain ⟨wo, rfl⟩ : ∃ W, W = wr := ⟨_, rfl⟩
     obtain ⟨r, Ao, no, co, bs, hr, rfl, hbs, hno, hS⟩ := hrel
     have HS := Lib.hid hS
     have HBS := Lib.hid hbs
     have HNO := Lib.hid hno
     have hno2 : no ≤ 256 := by have := tabK_len q t r; omega
     clear hS hbs hno HM3
     by_cases hlt : r < N
     ·have hrz : (r : Int) < (N : Int) := by omega
      have HLT := Lib.hid hlt
      obtain ⟨r2, hr2⟩ : ∃ z : Int, z = (r : Int) + 1 := ⟨_, rfl⟩
      have hwr : IntKind.i64.wrap ((r : Int) + 1) = r2 := by rw [hr2]; exact IntWalk.i64_in _ (by omega)
      have HR2 := Lib.hid hr2
      have hr256 : r < 256 := by omega
      clear hr2 hlt hr
      go_wp2_with fail
      go_loopw [55] (fun x wx => ∃ i : Nat, i ≤ q ∧ x = .int .i64 (i : Int) ∧ OfS W w1 k a A n c q Ao no co (rowV i r ++ bs.drop i) ((tabK q t r).map nv) wx) (fun x _ => q - (intOf x).toNat)
      case atStart => exact ⟨0, Nat.zero_le _, rfl, HS.out⟩
      case round =>
       obtain ⟨wi, rfl⟩ : ∃ W, W = wr := ⟨_, rfl⟩
       obtain ⟨i, hi, rfl, hS⟩ := hrel
       have HSI := Lib.hid hS
       have hwl : w1.heap.size + 1 < wi.heap.size := (hS.hp.at_ 3 rfl).lt
       clear hS
       by_cases hil : i < q
       ·have hiz : (i : Int) < (q : Int) := by omega
        have hi64 : (i : Int) < 64 := by omega
        have hib : i < bs.length := by rw [HBS.out]; exact hil
        have hab := bit_and1 (x := i) (show r < 9223372036854775808 by omega)
        have HIL := Lib.hid hil
        obtain ⟨i2, hi2⟩ : ∃ z : Int, z = (i : Int) + 1 := ⟨_, rfl⟩
        have hwi : IntKind.i64.wrap ((i : Int) + 1) = i2 := by rw [hi2]; exact IntWalk.i64_in _ (by omega)
        have HI2 := Lib.hid hi2
        have q5 : wi.cell? ⟨w1.heap.size + 1, i, none⟩ = some (bz bs[i]) := ((HSI.out.hp.at_ 3 rfl).cell i).trans (rowV_at hib)
        have f5 : wi.frozen? ⟨w1.heap.size + 1, i, none⟩ = false := (HSI.out.hp.at_ 3 rfl).frozen i
        have HST := Lib.hid (rowV_set (r := r) hib)
        clear hi2 hil hi
        cases hb : r.testBit i with
        | true =>
         rw [hb] at hab HST
         have hab2 : bits .and .i64 ((r : Int) / 2 ^ i) 1 = 1 := hab
         clear hab hb
         go_wp2_with fail
         go_roundw
         case rel => exact ⟨i + 1, HIL.out, by rw [HI2.out]; rfl, by rw [← HST.out]; exact HSI.out.setB i true⟩
         case measure => have := HIL.out; have := HI2.out; simp only [intOf]; omega
        | false =>
         rw [hb] at hab HST
         have hab2 : bits .and .i64 ((r : Int) / 2 ^ i) 1 = 0 := hab
         clear hab hb
         go_wp2_with fail
         go_roundw
         case rel => exact ⟨i + 1, HIL.out, by rw [HI2.out]; rfl, by rw [← HST.out]; exact HSI.out.setB i false⟩
         case measure => have := HIL.out; have := HI2.out; simp only [intOf]; omega
       ·obtain rfl : q = i := by omega
        have hiz : ¬ (q : Int) < (q : Int) := by omega
        have hrv : rowV q r ++ bs.drop q = rowV q r := by rw [List.drop_of_length_le (by rw [HBS.out]; exact Nat.le_refl _), List.append_nil]
        have hs := HSI.out
        rw [hrv] at hs
        have HSQ := Lib.hid hs
        have q0 : wi.cell? ⟨W.heap.size, 0, none⟩ = some (.int .i64 k) := (hs.hp.at_ 0 rfl).cell 0
        have q1 : wi.cell? ⟨W.heap.size, 1, none⟩ = some (.int .i64 a) := (hs.hp.at_ 0 rfl).cell 1
        have q2 : wi.cell? ⟨W.heap.size, 2, none⟩ = some (.slice A n c) := (hs.hp.at_ 0 rfl).cell 2
        have hwf : W.heap.size < wi.heap.size := (hs.hp.at_ 0 rfl).lt
        have HCV := Lib.hid (HVL.out wi hs.hp.below (rowV q r) (some ⟨w1.heap.size + 1, 0, none⟩) q q (by rw [rowV_len]; exact HBD.out) (rowV_len q r).symm (fun hl => ⟨w1.heap.size + 1, 0, rfl, hwl, fun j hj => by
         rw [Nat.zero_add, (hs.hp.at_ 3 rfl).cell j, List.getElem?_map, List.getElem?_eq_getElem hj]; rfl⟩))
        have HTK := Lib.hid (tabK_succ q t r)
        clear hi hil hrv hs HSI
        obtain ⟨b, hb⟩ : ∃ b, b = t.val (vf (rowV q r)) := ⟨_, rfl⟩
        rw [← hb] at HCV HTK
        clear hb
        go_wp2_with fail
        refine HCV.out.mono ?_
        rintro e w5 ⟨rfl, hb5⟩
        have HS5 := Lib.hid (HSQ.out.step hb5)
        clear hb5 q0 q1 q2 hwf hwl
        cases b with
        | false =>
         go_wp2_with fail
         go_roundw
         case rel => exact ⟨r + 1, Ao, no, co, rowV q r, HLT.out, by rw [HR2.out]; rfl, rowV_len _ _, by rw [HTK.out, if_neg (by simp)]; exact HNO.out, by rw [HTK.out, if_neg (by simp)]; exact HS5.out⟩
         case measure => have := HLT.out; have := HR2.out; simp only [intOf]; omega
        | true =>
         have t1 : w5.cell? ⟨w1.heap.size, 1, none⟩ = some (.slice Ao no co) := (HS5.out.hp.at_ 2 rfl).cell 1
         have hwl : w1.heap.size < w5.heap.size := (HS5.out.hp.at_ 2 rfl).lt
         go_wp2_with (at_builtin; refine wpList_append_lies _ rfl _ _ 24 rfl (w1.heap.size + 2) 3 j0 (.int .i64 0) 1 8 Tryz.underlying24 HJ0.out HY0.out HY1.out HY2.out rfl (by decide) _ _ _ rfl (own_blI HS5.out.o (bw_new (Below.refl _ _) _)) ⟨w5.heap.size, 0, none⟩ 1 1 [.int .i64 (r : Int)] rfl rfl (World.news_of_block (cs := #[.int .i64 (r : Int)]) (t := 3) (fr := (0, 0)) (heap_alloc_new w5 _)) (by simp [Value.oneCell']) (by decide) (by unfold maxLen; omega) (by omega) (by simp; omega) _ rfl ?_)
         intro g4 c4 w4 hown4 hgrow4 hor4 hlt4
         have HST := Lib.hid (HS5.out.app HW2.out (bw_new (Below.refl _ _) (.cells #[.int .i64 (r : Int)] 3)) hown4 hgrow4)
         have hpg := hp_grown HS5.out.hp (base := w1.heap.size + 2) (by intro p hp; have := HW2.out; simp only [List.mem_cons, List.not_mem_nil, or_false] at hp; rcases hp with rfl | rfl | rfl | rfl <;> (dsimp only; omega)) (by have := HW2.out; omega) (bw_new (Below.refl _ _) (.cells #[.int .i64 (r : Int)] 3)) HS5.out.o hgrow4
         have u1 : w4.cell? ⟨w1.heap.size, 1, none⟩ = some (.slice Ao no co) := (hpg.at_ 2 rfl).cell 1
         have v1 : w4.frozen? ⟨w1.heap.size, 1, none⟩ = false := (hpg.at_ 2 rfl).frozen 1
         clear hown4 hgrow4 hor4 hlt4 t1 hpg
         go_wp2_with fail
         go_roundw
         case rel => exact ⟨r + 1, some ⟨g4, 0, none⟩, no + 1, c4, rowV q r, HLT.out, by rw [HR2.out]; rfl, rowV_len _ _, by rw [HTK.out, if_pos (by trivial), List.length_append, ← HNO.out]; rfl, by rw [HTK.out, if_pos (by trivial), List.map_append]; exact HST.out⟩
         case measure => have := HLT.out; have := HR2.out; simp only [intOf]; omega
     ·obtain rfl : N = r := by omega
      have hrz : ¬ (N : Int) < (N : Int) := by omega
      have hTF : tabK q t N = tabF q t := by rw [HN.out]; rfl
      have hs := HS.out
      have hno := HNO.out
      rw [hTF] at hs hno
      have HSQ := Lib.hid hs
      have HNQ := Lib.hid hno
      have t0 : wo.cell? ⟨w1.heap.size, 0, none⟩ = some (.int .i64 (q : Int)) := (hs.hp.at_ 2 rfl).cell 0
      have t1 : wo.cell? ⟨w1.heap.size, 1, none⟩ = some (.slice Ao no co) := (hs.hp.at_ 2 rfl).cell 1
      have t2 : wo.cell? ⟨w1.heap.size, 2, none⟩ = some (.slice none 0 0) := (hs.hp.at_ 2 rfl).cell 2
      have hwl : w1.heap.size < wo.heap.size := (hs.hp.at_ 2 rfl).lt
      have v0 : wo.frozen? ⟨W.heap.size + 1, 0, none⟩ = false := (hs.hp.at_ 1 rfl).frozen 0
      have v1 : wo.frozen? ⟨W.heap.size + 1, 1, none⟩ = false := (hs.hp.at_ 1 rfl).frozen 1
      have v2 : wo.frozen? ⟨W.heap.size + 1, 2, none⟩ = false := (hs.hp.at_ 1 rfl).frozen 2
      have s0 : wo.cell? ⟨W.heap.size + 1, 0, none⟩ = some (.int .i64 0) := (hs.hp.at_ 1 rfl).cell 0
      have s1 : wo.cell? ⟨W.heap.size + 1, 1, none⟩ = some (.slice none 0 0) := (hs.hp.at_ 1 rfl).cell 1
      have s2 : wo.cell? ⟨W.heap.size + 1, 2, none⟩ = some (.slice none 0 0) := (hs.hp.at_ 1 rfl).cell 2
      have hwm : W.heap.size + 1 < wo.heap.size := (hs.hp.at_ 1 rfl).lt
      have hpf := hs.hp.put3 1 rfl (.int .i64 (q : Int)) (.slice Ao no co) (.slice none 0 0)
      have HPF := Lib.hid hpf
      have HOF := Lib.hid (own_keep (own_keep (own_keep hs.o (fun g e => Below.heap_setCell wo ⟨W.heap.size + 1, 0, none⟩ (.int .i64 (q : Int)) g (by have := (hs.o.lt g e).1; have := HW2.out; show g ≠ W.heap.size + 1; omega))) (fun g e => Below.heap_setCell _ ⟨W.heap.size + 1, 1, none⟩ (.slice Ao no co) g (by have := (hs.o.lt g e).1; have := HW2.out; show g ≠ W.heap.size + 1; omega))) (fun g e => Below.heap_setCell _ ⟨W.heap.size + 1, 2, none⟩ (.slice none 0 0) g (by have := (hs.o.lt g e).1; have := HW2.out; show g ≠ W.heap.size + 1; omega)))
      clear hr hlt hTF hs hno hpf
      go_wp2_with fail
      have bF := HPF.out.at_ 1 rfl
      have r0 := bF.cell 0
      have r1 := bF.cell 1
      have r2 := bF.cell 2
      simp only [List.getElem?_cons_zero, List.getElem?_cons_succ] at r0 r1 r2
      exact bodyPost_ret (v := .tuple #[.agg #[.int .i64 (q : Int), .slice Ao no co, .slice none 0 0], .int .i64 0]) (by simp [results, Tryz.results35, go_sem, r0, r1, r2]) rfl (.inr ⟨HE.out, Ao, co, by rw [Int.toNat_natCast, ← HNQ.out], own_rd HOF.out (by rw [Int.toNat_natCast]; exact HNQ.out), HPF.out.below⟩)
  ·have HE := Lib.hid (show ofE (q : Int) t = 5 by
    unfold ofE
    rw [if_neg (by omega), if_neg]
    intro h
    exact hbd fun x hx => of_decide_eq_true (List.all_eq_true.1 h x hx))
   have hl2 : ∃ h : 0 < L.length, ¬ L[L.length - 1] < (q : Int) := Classical.byContradiction fun h => hbd (hall.2 (hlast.2 fun h1 => Classical.byContradiction fun h2 => h ⟨h1, h2⟩))
   obtain ⟨h0, hl2⟩ := hl2
   obtain ⟨g, off, rfl, hlt, hc⟩ := hR h0
   have hcn := hc (L.length - 1) (by omega)
   obtain ⟨z, hz⟩ : ∃ z, z = L[L.length - 1]'(by omega) := ⟨_, rfl⟩
   rw [← hz] at hl2 hcn
   rw [← hm] at hcn hL h0
   have hm1 : (0 : Int) < (m : Int) := by omega
   have hmw : IntKind.i64.wrap ((m : Int) - 1) = ((m - 1 : Nat) : Int) := by rw [IntWalk.i64_in _ (by omega)]; omega
   have hzl : decide ((q : Int) ≤ z) = true := decide_eq_true (by omega)
   replace hcn : w1.cell? ⟨g, off + (m - 1), none⟩ = some (.int .i64 z) := hcn
   have hpf := HP1.out.put3 1 rfl (.int .i64 0) (.slice none 0 0) (.slice none 0 0)
   have HPF := Lib.hid hpf
   clear hR hP hM hL hb hlast hall hbd hl2 hm hz hc hpf
   go_wp2_with fail
   have bF := HPF.out.at_ 1 rfl
   have r0 := bF.cell 0
   have r1 := bF.cell 1
   have r2 := bF.cell 2
   simp only [List.getElem?_cons_zero, List.getElem?_cons_succ] at r0 r1 r2
   exact bodyPost_ret (v := .tuple #[.agg #[.int .i64 0, .slice none 0 0, .slice none 0 0], .int .i64 5]) (by simp [results, Tryz.results35, go_sem, r0, r1, r2]) rfl (.inl ⟨by rw [HE.out]; decide, by rw [HE.out], HPF.out.below⟩)
end Go.Proofs.YtaegjpancbmppaaGreatDoor
namespace Go.Proofs.YtaegjpancbmppaaGreatDoor
open Go.RowKit Go.Shelf
attribute [local go_sem] Oper.semAt_some
def kind7 (k _a : Int) (_m : Nat) : Prop := k = 7
set_option maxRecDepth 1000000 in
set_option maxHeartbeats 4000000 in
theorem fcheck7_in (t : Fm) (A : Option Addr) (c : Nat) (W : World) (hs : t.size ≤ 10000) (hd : t.depth ≤ 100) (hall : t.all kind7) (hA : FsR W (lowB W.heap.size) A t.l) :
  CallsIn Fence.wide 8 Tryz.prog 63 #[.agg (fcL t.k t.a A t.l.length c).toArray] W (SgPost 12 W) := by
 have HS := Lib.hid (And.intro hs (And.intro hd (And.intro hall hA)))
 obtain ⟨nl, hnl⟩ : ∃ n, n = t.l.length := ⟨_, rfl⟩
 obtain ⟨k, hk⟩ : ∃ n, n = t.k := ⟨_, rfl⟩
 obtain ⟨a, ha⟩ : ∃ n, n = t.a := ⟨_, rfl⟩
 rw [← hk, ← ha, ← hnl]
 have HE := Lib.hid (And.intro hk (And.intro ha hnl))
 have hX := ckX_facts k a A nl c W
 obtain ⟨X, hXe⟩ : ∃ X, X = ckX k a A nl c W := ⟨_, rfl⟩
 rw [← hXe] at hX
 have HX := Lib.hid hX
 have hm := imeasure_any (W.heap.size + 2) 10000 t A c 0 1 X hs ((hA.lowK hX.1).mono fun b hb => ⟨by rw [hX.2.1]; show b < _; have : b < W.heap.size := hb; omega, by have : b < W.heap.size := hb; omega⟩) hX.2.2.2.2 (by omega) (by omega)
 rw [← hk, ← ha, ← hnl] at hm
 have HM := Lib.hid (show Calls Tryz.prog 78 #[.agg #[.int .i64 k, .int .i64 a, .slice A nl c], .int .i64 1, .pointer (some ⟨W.heap.size + 1 + 1, 0, none⟩)] (((W.alloc (.cells #[.int .i64 k, .int .i64 a, .slice A nl c] 53)).alloc (.cells #[.int .i64 0] 29)).alloc (.cells #[.int .i64 0, .int .i64 0] 126)) (MsPost (W.heap.size + 2) (0 + t.size) X) from by subst hXe; exact hm)
 have HXE := Lib.hid hXe
 clear hs hd hall hA hk ha hnl hX hm hXe
 show CallsIn Fence.wide 8 Tryz.prog 63 #[.agg #[.int .i64 k, .int .i64 a, .slice A nl c]] W _
 refine callsIn_of_wp_marks Tryz.func63 rfl trivial ?_ rfl
 simp only [Tryz.ntmps63, List.size_toArray, List.length_cons, List.length_nil, Nat.reduceAdd, Nat.reduceSub, Array.replicate_succ, Array.replicate_zero, List.push_toArray, List.append_toArray, List.nil_append, List.cons_append]
 gi_wp2_with fail
 refine ⟨trivial, ?_⟩
 refine (callsIn_wide.2 HM.out).mono ?_
 rintro e W1 ⟨rfl, hch, -⟩
 have HF1 := Lib.hid (show Blk W1 W.heap.size 53 (fcL k a A nl c) from (hch.block _ (by rw [HX.out.2.1]; omega) (by omega)).trans HX.out.2.2.1)
 have HR1 := Lib.hid (show Blk W1 (W.heap.size + 1) 29 [.int .i64 0] from (hch.block _ (by rw [HX.out.2.1]; omega) (by omega)).trans HX.out.2.2.2.1)
 have HB1 := Lib.hid (HX.out.1.trans (hch.below (by omega) (by rw [HX.out.2.1]; omega)))
 have HN := Lib.hid (inodes_any k a A nl c W1)
 have q0 := HF1.out.cell 0
 have q1 := HF1.out.cell 1
 have q2 := HF1.out.cell 2
 clear hch
 gi_wp2_with fail
 refine ⟨trivial, ?_⟩
 refine (callsIn_wide.2 HN.out).mono ?_
 rintro e W2 ⟨tb, fb, rfl, hb, hT, hF⟩
 have HB2 := Lib.hid hb
 have HR2 := Lib.hid ((hb.block _ HR1.out.lt).trans HR1.out)
 have HT := Lib.hid hT
 have HF := Lib.hid hF
 clear hb hT hF q0 q1 q2
 gi_wp2_with fail
 have hall : t.all kind7 := HS.out.2.2.1
 have hFs : FsR W2 (lowB W.heap.size) A t.l := HS.out.2.2.2.lowK (HB1.out.trans (HB2.out.mono HB1.out.size))
 have hn2 : W.heap.size ≤ W2.heap.size := Nat.le_trans HB1.out.size HB2.out.size
 refine wpIn_rangeFunc_ownH rfl (by omega) (gf := 96) (lb := #[.pointer (some ⟨tb, 0, none⟩), .pointer (some ⟨fb, 0, none⟩)]) rfl trivial (enters_of Tryz.func96 (by kernel_rfl) rfl)
  (nodes_stops kind7 7 (by omega) W.heap.size tb fb t A c W2 HS.out.1 hall hFs hn2 HT.out (by have := HF.out; rw [HE.out.1, HE.out.2.1, HE.out.2.2] at this; exact this)) KpF.trans (kpF_putObj hn2) (Below.refl _ _) (fun _ => rfl)
  (fun pre Wr => pre = [] ∧ Below W.heap.size W Wr ∧ Blk Wr (W.heap.size + 1) 29 [.int .i64 0]) (fun c _ Wr => c = Code.ret ∧ Below W.heap.size W Wr ∧ Blk Wr (W.heap.size + 1) 29 [.int .i64 12])
  (fun pre X Y row hs hg hrow => ⟨hs.1, (OwnFrom.and (ownFrom_below (Nat.le_refl _) hn2) (Own.from (blk_own _ _ _) _)) () X Y row hs.2 hg hrow⟩) (fun c pre X Y row hs hg hrow => ⟨hs.1, (OwnFrom.and (ownFrom_below (Nat.le_refl _) hn2) (Own.from (blk_own _ _ _) _)) () X Y row hs.2 hg hrow⟩)
  ⟨rfl, HB1.out.trans (HB2.out.mono HB1.out.size), HR2.out⟩
  (fun x a' Wr => ∃ b, Blk Wr b 53 (fcL x.1.k x.1.a x.1.A x.1.n x.1.c) ∧ a' = { tmps := #[.agg #[.int .i64 k, .int .i64 a, .slice A nl c], .pointer (some ⟨W.heap.size, 0, none⟩), .pointer (some ⟨W.heap.size + 1, 0, none⟩), .pointer (some ⟨b, 0, none⟩), undef, .agg #[.int .i64 k, .int .i64 a, .slice A nl c], .agg #[.int .i64 0, .int .i64 0], .pointer (some ⟨W.heap.size + 1 + 1, 0, none⟩), .bool true, .bool false, .agg #[.int .i64 k, .int .i64 a, .slice A nl c], .func (.func 96) #[] #[.pointer (some ⟨tb, 0, none⟩), .pointer (some ⟨fb, 0, none⟩)], .agg #[.int .i64 x.1.k, .int .i64 x.1.a, .slice x.1.A x.1.n x.1.c], undef, undef, undef, undef, undef], defers := [] })
  (fun x a' _ X Y row hs hg hrow => by obtain ⟨b, hb, e⟩ := hs; exact ⟨b, (Own.from (blk_own b _ _) W2.heap.size) () X Y row hb hg hrow, e⟩) ?assign ?body ?done ?stop
 case assign =>
  rintro l pre ⟨⟨xk, xa, xA, xn, xc⟩, hx⟩ Wr K hI hK
  have HI := Lib.hid hI
  have HK := Lib.hid hK
  clear hI hK
  simp only [Fz.v]
  gi_wp2_with fail
  have hbn := bw_new (Below.refl Wr.heap.size Wr) (.cells #[.int .i64 xk, .int .i64 xa, .slice xA xn xc] 53)
  have hnw : W.heap.size ≤ Wr.heap.size := HI.out.2.1.size
  exact HK.out _ _ (kf_below hbn) (KpF.below hbn hnw) ⟨HI.out.1, HI.out.2.1.trans (hbn.mono hnw), (hbn.block _ HI.out.2.2.lt).trans HI.out.2.2⟩ ⟨Wr.heap.size, heap_alloc_new Wr _, rfl⟩
 case body =>
  rintro l pre ⟨⟨xk, xa, xA, xn, xc⟩, hx⟩ a' Wr - - hI ⟨b, hb, rfl⟩ -
  have HI := Lib.hid hI
  have h7 : xk = 7 := hx
  subst h7
  have HSG := Lib.hid (isingle_bad xa xA xn xc Wr)
  have q0 : Wr.cell? ⟨b, 0, none⟩ = some (.int .i64 7) := hb.cell 0
  have q1 : Wr.cell? ⟨b, 1, none⟩ = some (.int .i64 xa) := hb.cell 1
  have q2 : Wr.cell? ⟨b, 2, none⟩ = some (.slice xA xn xc) := hb.cell 2
  clear hI hb
  gi_wp2_with fail
  refine ⟨trivial, ?_⟩
  refine (CallsIn.inRound l (callsIn_wide.2 HSG.out)).mono ?_
  rintro e W3 ⟨rfl, hb3⟩
  have hnw : W.heap.size ≤ Wr.heap.size := HI.out.2.1.size
  have HB3 := Lib.hid hb3
  have hr3 : Blk W3 (W.heap.size + 1) 29 [.int .i64 0] := (hb3.block _ HI.out.2.2.lt).trans HI.out.2.2
  have v0 : W3.cell? ⟨W.heap.size + 1, 0, none⟩ = some (.int .i64 0) := hr3.cell 0
  have v1 : W3.frozen? ⟨W.heap.size + 1, 0, none⟩ = false := hr3.frozen 0
  have HR3 := Lib.hid hr3
  have hlt : W.heap.size + 1 < W2.heap.size := Blk.lt HR2.out
  clear hb3 q0 q1 q2 hr3
  gi_wp2_with fail
  have hsz : Wr.heap.size ≤ (W3.setCell ⟨W.heap.size + 1, 0, none⟩ (.int .i64 12)).heap.size := by have := HB3.out.size; simpa using this
  exact ⟨⟨hsz, fun k o hB hk _ => (Below.heap_setCell W3 ⟨W.heap.size + 1, 0, none⟩ _ k (by show k ≠ W.heap.size + 1; omega)).trans ((HB3.out.block k (Array.getElem?_eq_some_iff.1 hk).1).trans hk)⟩, rfl, (HI.out.2.1.trans (HB3.out.mono hnw)).setCell (by show W.heap.size ≤ W.heap.size + 1; omega) _, HR3.out.put 0 _⟩
 case done =>
  rintro D ys Wr hD hys ⟨hnil, -⟩ hK
  have hys' : ys.map FzQ.sh = t.nodes := hys
  rw [hnil, t.nodes_eq] at hys'
  cases hys'
 case stop =>
  rintro D c pre Wr hD _ ⟨rfl, hB, hR⟩ hK
  have hlt : W.heap.size + 1 < W2.heap.size := Blk.lt HR2.out
  have HR := Lib.hid hR
  have HB := Lib.hid hB
  clear hB hR
  gi_wp2_with fail
  have q' : (Wr.putObj D (.deferred none)).cell? ⟨W.heap.size + 1, 0, none⟩ = some (.int .i64 12) := by
   have : Blk (Wr.putObj D (.deferred none)) (W.heap.size + 1) 29 [.int .i64 12] := ((grownBy_putObj' _ D _).block _ HR.out.lt (fun e => by cases e; omega)).trans HR.out
   exact this.cell 0
  refine ⟨by simp, .inl ⟨_, Wr.putObj D (.deferred none), rfl, run_takeDeferred hK, ?_⟩⟩
  have hz : Below W.heap.size W (Wr.putObj D (.deferred none)) := HB.out.grown (grownBy_putObj' _ D _) (by have := HB.out.size; simpa using this) (fun k e => by cases e; omega)
  exact ⟨.int .i64 12, by simp [results, Tryz.results63, go_sem, q'], rfl, hz⟩
abbrev t7 : Fm := .nd 7 0 []
theorem fcheck7 (W : World) : Calls Tryz.prog 63 #[.agg #[.int .i64 7, .int .i64 0, .slice none 0 0]] W (SgPost 12 W) :=
 callsIn_wide.1 (fcheck7_in t7 none 0 W (by rw [Fm.size, sizeL]; omega) (by rw [Fm.depth, depthL]; omega) (fun x hx => by
  rw [Fm.nodes, nodesL] at hx
  rw [List.mem_singleton] at hx
  subst hx
  rfl) (.nil _))
set_option maxRecDepth 1000000 in
set_option maxHeartbeats 4000000 in
theorem fsupport7 (W : World) : Calls Tryz.prog 61 #[.agg #[.int .i64 7, .int .i64 0, .slice none 0 0]] W fun e w' => e = .returned (.tuple #[.slice none 0 0, .int .i64 12]) ∧ Below W.heap.size W w' := by
 have HCK := Lib.hid (fun X => fcheck7 X)
 have HX := Lib.hid (bw_new (Below.refl W.heap.size W) (.cells #[.int .i64 7, .int .i64 0, .slice none 0 0] 53))
 go_enter Tryz.func61, Tryz.ntmps61
 go_wp2_with fail
 refine (HCK.out _).mono ?_
 rintro e w1 ⟨rfl, hb⟩
 have HB := Lib.hid (HX.out.trans (hb.mono HX.out.size))
 clear hb
 go_wp2_with fail
 go_ret2
 exact ⟨rfl, HB.out⟩
set_option maxRecDepth 1000000 in
set_option maxHeartbeats 4000000 in
theorem iTable7 (v : Int) (W : World) : Calls Tryz.prog 35 #[.agg #[.int .i64 7, .int .i64 0, .slice none 0 0], .int .i64 v] W fun e w' => e = .returned (.tuple #[.agg #[.int .i64 0, .slice none 0 0, .slice none 0 0], .int .i64 12]) ∧ Below W.heap.size W w' := by
 have HSU := Lib.hid (fun X => fsupport7 X)
 have hm0 := ((Hp.start W).new 53 (fcL 7 0 none 0 0)).new 26 tzL
 simp only [World.size_alloc, List.nil_append, List.cons_append] at hm0
 have HM0 := Lib.hid hm0
 clear hm0
 go_enter Tryz.func35, Tryz.ntmps35
 go_wp2_with fail
 refine (HSU.out _).mono ?_
 rintro e w1 ⟨rfl, hb⟩
 have HP1 := Lib.hid (HM0.out.step hb)
 have t0 : w1.cell? ⟨W.heap.size + 1, 0, none⟩ = some (.int .i64 0) := (HP1.out.at_ 1 rfl).cell 0
 have t1 : w1.cell? ⟨W.heap.size + 1, 1, none⟩ = some (.slice none 0 0) := (HP1.out.at_ 1 rfl).cell 1
 have t2 : w1.cell? ⟨W.heap.size + 1, 2, none⟩ = some (.slice none 0 0) := (HP1.out.at_ 1 rfl).cell 2
 have u0 : w1.frozen? ⟨W.heap.size + 1, 0, none⟩ = false := (HP1.out.at_ 1 rfl).frozen 0
 have u1 : w1.frozen? ⟨W.heap.size + 1, 1, none⟩ = false := (HP1.out.at_ 1 rfl).frozen 1
 have u2 : w1.frozen? ⟨W.heap.size + 1, 2, none⟩ = false := (HP1.out.at_ 1 rfl).frozen 2
 have hpf := HP1.out.put3 1 rfl (.int .i64 0) (.slice none 0 0) (.slice none 0 0)
 have HPF := Lib.hid hpf
 clear hb hpf
 go_wp2_with fail
 have bF := HPF.out.at_ 1 rfl
 have r0 := bF.cell 0
 have r1 := bF.cell 1
 have r2 := bF.cell 2
 simp only [List.getElem?_cons_zero, List.getElem?_cons_succ] at r0 r1 r2
 exact bodyPost_ret (v := .tuple #[.agg #[.int .i64 0, .slice none 0 0, .slice none 0 0], .int .i64 12]) (by simp [results, Tryz.results35, go_sem, r0, r1, r2]) rfl ⟨rfl, HPF.out.below⟩
end Go.Proofs.YtaegjpancbmppaaGreatDoor
