/- Part 6 of 33 of the proof of the law: contracts of the functions that it reaches, and plain facts. Conditions: those that each contract names. -/
import Derived.Test.YtaegjpancbmppaaGreatDoorTabB05
import Derived.Test.YtaegjpancbmppaaGreatDoorTabB03
import Derived.Deep.DeepCutAuto
set_option linter.unusedVariables false
set_option linter.unusedSimpArgs false
namespace Go.Proofs.YtaegjpancbmppaaGreatDoor
open Go.RowKit
theorem setL_zero : setL 0 = [.int .u64 0, .int .u64 0, .int .u64 0, .int .u64 0] := by unfold setL; rw [wd_zero, wd_zero, wd_zero, wd_zero]; rfl
theorem setL_set (M r : Nat) (hr : r < 256) : (setL M).set (r / 64) (.int .u64 (wd (M ||| 2 ^ r) (r / 64) : Nat)) = setL (M ||| 2 ^ r) := by
 have h := wd_add M r
 unfold setL
 rcases (show r / 64 = 0 ∨ r / 64 = 1 ∨ r / 64 = 2 ∨ r / 64 = 3 by omega) with e | e | e | e <;> (rw [e] at h ⊢; rw [h 0, h 1, h 2, h 3]; rfl)
theorem take_succ_nat (L : List Nat) (k : Nat) (h : k < L.length) : L.take (k + 1) = L.take k ++ [L[k]] := by rw [List.take_succ_eq_append_getElem h]
set_option maxRecDepth 1000000 in
set_option maxHeartbeats 4000000 in
theorem iof_any (A : Option Addr) (c n : Nat) (L : List Nat) (w : World) (h : Rd nv w w.heap.size A L) (hr : ∀ r ∈ L, r < 256) (hn : n = L.length) (hm : n ≤ 1000) :
  Calls Tryz.prog 46 #[.slice A n c] w fun e w' => e = .returned (.agg (setL (rowM L)).toArray) ∧ Below w.heap.size w w' := by
 have HR := Lib.hid h
 have HLR := Lib.hid hr
 have HN := Lib.hid hn
 have HX := Lib.hid hm
 have hm0 := ((Hp.start w).new 84 [.int .u64 0, .int .u64 0, .int .u64 0, .int .u64 0]).new 84 [.int .u64 0, .int .u64 0, .int .u64 0, .int .u64 0]
 simp only [World.size_alloc, List.nil_append, List.cons_append] at hm0
 rw [← setL_zero] at hm0
 have HM0 := Lib.hid hm0
 clear h hr hn hm hm0
 go_enter Tryz.func46, Tryz.ntmps46
 go_wp2_with fail
 go_loopw [5, 8] (fun u x wr => ∃ k : Nat, k ≤ n ∧ x = .int .i64 (k : Int) ∧ Hp w [(w.heap.size, 84, setL 0), (w.heap.size + 1, 84, setL (rowM (L.take k)))] wr) (fun _ x _ => n - (intOf x).toNat)
 case atStart => exact ⟨0, by omega, rfl, HM0.out⟩
 case round =>
  obtain ⟨k, hk, rfl, hm⟩ := hrel
  have HM := Lib.hid hm
  clear hm HM0
  by_cases hlt : k < n
  ·obtain ⟨b, off, hA, hb, hc⟩ := HR.out.at_ (by rw [← HN.out]; omega)
   subst hA
   obtain ⟨r, hrr⟩ : ∃ r, r = L[k]'(by rw [← HN.out]; exact hlt) := ⟨_, rfl⟩
   have hc0 := (HM.out.below.cell (p := ⟨b, off + k, none⟩) hb).trans (hc k (by rw [← HN.out]; exact hlt))
   rw [← hrr] at hc0
   have hr256 : r < 256 := HLR.out r (by rw [hrr]; exact List.getElem_mem _)
   have HST := Lib.hid (show L.take (k + 1) = L.take k ++ [r] by rw [hrr]; exact take_succ_nat L k (by rw [← HN.out]; exact hlt))
   have hlk : (k : Int) < (n : Int) := by omega
   obtain ⟨k2, hk2⟩ : ∃ z : Int, z = (k : Int) + 1 := ⟨_, rfl⟩
   have hwk : IntKind.i64.wrap ((k : Int) + 1) = k2 := by rw [hk2]; exact IntWalk.i64_in _ (by have := HX.out; omega)
   have HK2 := Lib.hid hk2
   have HLT := Lib.hid hlt
   have HR256 := Lib.hid hr256
   clear hk hlt hk2 hrr hc hb hr256
   go_wp2_with fail
   refine (iadd_any _ r _ _ _ (HM.out.at_ 1 rfl) HR256.out).mono ?_
   rintro e w1 ⟨rfl, rfl⟩
   have hq := (HM.out.drew).put 1 rfl (r / 64) (.int .u64 (wd (rowM (L.take k) ||| 2 ^ r) (r / 64) : Nat))
   rw [setL_set _ _ HR256.out] at hq
   have HQ := Lib.hid hq
   clear hq hc0
   go_wp2_with fail
   go_roundw
   case rel => exact ⟨k + 1, by have := HLT.out; omega, by rw [HK2.out]; rfl, by rw [show rowM (L.take (k + 1)) = rowM (L.take k) ||| 2 ^ r by rw [HST.out, rowM_append]]; exact HQ.out⟩
   case measure => have := HLT.out; have := HK2.out; simp only [intOf]; omega
  ·obtain rfl : k = n := by omega
   have hm := HM.out
   rw [HN.out, List.take_length] at hm
   have HF := Lib.hid hm
   clear hlt hk hm HM
   obtain ⟨c0, c1, c2, c3⟩ := set_of (HF.out.at_ 1 rfl)
   obtain ⟨d0, d1, d2, d3⟩ := set_of (HF.out.at_ 0 rfl)
   have f0 := (HF.out.at_ 0 rfl).frozen 0
   have f1 := (HF.out.at_ 0 rfl).frozen 1
   have f2 := (HF.out.at_ 0 rfl).frozen 2
   have f3 := (HF.out.at_ 0 rfl).frozen 3
   have HZ := Lib.hid (HF.out.put4 0 rfl (.int .u64 (wd (rowM L) 0 : Nat)) (.int .u64 (wd (rowM L) 1 : Nat)) (.int .u64 (wd (rowM L) 2 : Nat)) (.int .u64 (wd (rowM L) 3 : Nat)))
   clear HF
   go_wp2_with fail
   exact bodyPost_ret (v := .agg (setL (rowM L)).toArray) (by simp [results, Tryz.results46, go_sem, d0, d1, d2, d3, f0, f1, f2, f3, setL]) rfl ⟨rfl, HZ.out.below⟩
def eiL (M N k : Nat) : List Value := (List.range 4).map fun j => .int .u64 (if j < k then wd (M ||| N) j else wd M j : Nat)
theorem eiL_at {W : World} {g : Nat} {t : TypeId} {M N k : Nat} (h : Blk W g t (eiL M N k)) (hk : k < 4) : W.cell? ⟨g, k, none⟩ = some (.int .u64 (wd M k : Nat)) := by
 rw [h.cell k]
 unfold eiL
 rw [List.getElem?_map, List.getElem?_range hk, Option.map_some, if_neg (Nat.lt_irrefl k)]
theorem eiL_succ (M N k : Nat) (hk : k < 4) : (eiL M N k).set k (.int .u64 (wd (M ||| N) k : Nat)) = eiL M N (k + 1) := by
 rcases (show k = 0 ∨ k = 1 ∨ k = 2 ∨ k = 3 by omega) with rfl | rfl | rfl | rfl <;> rfl
def EiRel (w : World) (M N : Nat) (x : Value) (W : World) : Prop := ∃ k : Nat, k ≤ 4 ∧ x = .int .i64 (k : Int) ∧ Hp w [(w.heap.size, 84, eiL M N k), (w.heap.size + 1, 84, setL N), (w.heap.size + 1 + 1, 84, setL 0)] W
set_option maxRecDepth 1000000 in
set_option maxHeartbeats 4000000 in
theorem ieither_any (M N : Nat) (w : World) :
  Calls Tryz.prog 45 #[.agg (setL M).toArray, .agg (setL N).toArray] w fun e w' => e = .returned (.agg (setL (M ||| N)).toArray) ∧ Below w.heap.size w w' := by
 have hm0 := (((Hp.start w).new 84 (setL M)).new 84 (setL N)).new 84 [.int .u64 0, .int .u64 0, .int .u64 0, .int .u64 0]
 simp only [World.size_alloc, List.nil_append, List.cons_append] at hm0
 rw [← setL_zero] at hm0
 have HM0 := Lib.hid hm0
 clear hm0
 go_enter Tryz.func45, Tryz.ntmps45
 go_wp2_with fail
 go_loopw [5, 6] (fun u x wr => EiRel w M N x wr) (fun _ x _ => 4 - (intOf x).toNat)
 case atStart => exact ⟨0, by omega, rfl, HM0.out⟩
 case round =>
  obtain ⟨k, hk, rfl, hm⟩ := hrel
  have HM := Lib.hid hm
  clear hm HM0
  by_cases hlt : k < 4
  ·have hlk : (k : Int) < 4 := by omega
   obtain ⟨k2, hk2⟩ : ∃ z : Int, z = (k : Int) + 1 := ⟨_, rfl⟩
   have hwk : IntKind.i64.wrap ((k : Int) + 1) = k2 := by rw [hk2]; exact IntWalk.i64_in _ (by omega)
   have HK2 := Lib.hid hk2
   have HLT := Lib.hid hlt
   have HOR := Lib.hid (show bits .or .u64 (wd M k : Nat) (wd N k : Nat) = ((wd (M ||| N) k : Nat) : Int) by rw [or_u64 (wd_lt _ _) (wd_lt _ _), wd_or])
   clear hk hlt hk2
   go_upto_region 4 with fail
   refine wp_regionJ 9 #[false, false, false, false, false, false, false, false, false] (fun l a W => ∃ (m0 m1 m2 m3 m4 m5 m6 m7 m8 : Bool), l = #[m0, m1, m2, m3, m4, m5, m6, m7, m8] ∧ a = ({ tmps := #[Value.agg (setL M).toArray, Value.agg (setL N).toArray, Value.pointer (some { block := w.heap.size, off := 0 }), Value.pointer (some { block := w.heap.size + 1, off := 0 }), Value.pointer (some { block := w.heap.size + 1 + 1, off := 0 }), Value.int IntKind.i64 (k : Int), Value.int IntKind.i64 (k : Int), Value.bool true, Value.int IntKind.i64 (k : Int), cwX m0 (.int .i64 (k : Int)) (u9), cwX m1 (.pointer (some ⟨w.heap.size, k, none⟩)) (u10), cwX m2 (.int .u64 (wd M k : Nat)) (u11), cwX m3 (.int .i64 (k : Int)) (u12), cwX m4 (.pointer (some ⟨w.heap.size + 1, k, none⟩)) (u13), cwX m5 (.int .u64 (wd N k : Nat)) (u14), cwX m6 (.int .u64 (wd (M ||| N) k : Nat)) (u15), cwX m7 (.pointer (some ⟨w.heap.size, k, none⟩)) (u16), u17, undef], defers := [] } : Act) ∧ (m8 = true → m2 = true) ∧ Hp w [(w.heap.size, 84, bif m8 then eiL M N (k + 1) else eiL M N k), (w.heap.size + 1, 84, setL N), (w.heap.size + 1 + 1, 84, setL 0)] W) (by kernel_rfl) (by kernel_rfl) (by kernel_rfl) (by kernel_rfl) ?_ ?_ ?_ ?_
   ·rintro l a W ⟨m0, m1, m2, m3, m4, m5, m6, m7, m8, rfl, _⟩
    rfl
   ·exact ⟨false, false, false, false, false, false, false, false, false, rfl, rfl, fun h => absurd h (by simp), HM.out.drew⟩
   ·rintro l a W i o ⟨m0, m1, m2, m3, m4, m5, m6, m7, m8, rfl, rfl, hi0, hm⟩ ho hun hall K hK
    have hi : i < 9 := (Array.getElem?_eq_some_iff.1 ho).1
    have HM := Lib.hid hm
    have HI := Lib.hid hi0
    clear hm hi0
    rcases (show i = 0 ∨ i = 1 ∨ i = 2 ∨ i = 3 ∨ i = 4 ∨ i = 5 ∨ i = 6 ∨ i = 7 ∨ i = 8 by omega) with rfl | rfl | rfl | rfl | rfl | rfl | rfl | rfl | rfl
    ·cases ho
     simp at hun; subst hun
     clear hall hi
     go_simp
     exact hK.out _ _ ⟨true, m1, m2, m3, m4, m5, m6, m7, m8, rfl, rfl, by have h0 := HI.out; exact fun e => by first | rfl | exact h0 e, HM.out⟩
    ·cases ho
     cases (getBX hall 0 rfl : m0 = true)
     simp at hun; subst hun
     clear hall hi
     go_simp
     exact hK.out _ _ ⟨true, true, m2, m3, m4, m5, m6, m7, m8, rfl, rfl, by have h0 := HI.out; exact fun e => by first | rfl | exact h0 e, HM.out⟩
    ·cases ho
     cases (getBX hall 1 rfl : m1 = true)
     simp at hun; subst hun
     clear hall hi
     obtain rfl : m8 = false := by
      cases m8
      ·rfl
      ·exact absurd (HI.out rfl) (by simp)
     have c0 := eiL_at (HM.out.at_ 0 rfl) HLT.out
     go_simp
     exact hK.out _ _ ⟨m0, true, true, m3, m4, m5, m6, m7, false, rfl, rfl, by have h0 := HI.out; exact fun e => by first | rfl | exact h0 e, HM.out⟩
    ·cases ho
     simp at hun; subst hun
     clear hall hi
     go_simp
     exact hK.out _ _ ⟨m0, m1, m2, true, m4, m5, m6, m7, m8, rfl, rfl, by have h0 := HI.out; exact fun e => by first | rfl | exact h0 e, HM.out⟩
    ·cases ho
     cases (getBX hall 3 rfl : m3 = true)
     simp at hun; subst hun
     clear hall hi
     go_simp
     exact hK.out _ _ ⟨m0, m1, m2, true, true, m5, m6, m7, m8, rfl, rfl, by have h0 := HI.out; exact fun e => by first | rfl | exact h0 e, HM.out⟩
    ·cases ho
     cases (getBX hall 4 rfl : m4 = true)
     simp at hun; subst hun
     clear hall hi
     have c0 := set_at (HM.out.at_ 1 rfl) HLT.out
     go_simp
     exact hK.out _ _ ⟨m0, m1, m2, m3, true, true, m6, m7, m8, rfl, rfl, by have h0 := HI.out; exact fun e => by first | rfl | exact h0 e, HM.out⟩
    ·cases ho
     cases (getBX hall 2 rfl : m2 = true)
     cases (getBX hall 5 rfl : m5 = true)
     simp at hun; subst hun
     clear hall hi
     have hor := HOR.out
     go_simp
     exact hK.out _ _ ⟨m0, m1, true, m3, m4, true, true, m7, m8, rfl, rfl, by have h0 := HI.out; exact fun e => by first | rfl | exact h0 e, HM.out⟩
    ·cases ho
     cases (getBX hall 0 rfl : m0 = true)
     simp at hun; subst hun
     clear hall hi
     go_simp
     exact hK.out _ _ ⟨true, m1, m2, m3, m4, m5, m6, true, m8, rfl, rfl, by have h0 := HI.out; exact fun e => by first | rfl | exact h0 e, HM.out⟩
    ·cases ho
     cases (getBX hall 2 rfl : m2 = true)
     cases (getBX hall 6 rfl : m6 = true)
     cases (getBX hall 7 rfl : m7 = true)
     simp at hun; subst hun
     clear hall hi
     have c0 := eiL_at (HM.out.at_ 0 rfl) HLT.out
     have f0 := (HM.out.at_ 0 rfl).frozen k
     have hq := HM.out.put 0 rfl k (.int .u64 (wd (M ||| N) k : Nat))
     dsimp only [cond_false] at hq
     rw [eiL_succ M N k HLT.out] at hq
     have HQ := Lib.hid hq
     clear hq
     go_simp
     exact hK.out _ _ ⟨m0, m1, true, m3, m4, m5, true, true, true, rfl, rfl, by have h0 := HI.out; exact fun e => by first | rfl | exact h0 e, HQ.out⟩
   ·rintro l a W ⟨m0, m1, m2, m3, m4, m5, m6, m7, m8, rfl, rfl, _, hm⟩ hall
    cases (hall 0 (by decide) : m0 = true)
    cases (hall 1 (by decide) : m1 = true)
    cases (hall 2 (by decide) : m2 = true)
    cases (hall 3 (by decide) : m3 = true)
    cases (hall 4 (by decide) : m4 = true)
    cases (hall 5 (by decide) : m5 = true)
    cases (hall 6 (by decide) : m6 = true)
    cases (hall 7 (by decide) : m7 = true)
    cases (hall 8 (by decide) : m8 = true)
    clear hall
    dsimp only [cond_true] at hm
    have HQ := Lib.hid hm
    clear hm HM
    dsimp only [cwX, cond_true]
    go_wp2_with fail
    go_roundw
    case rel => exact ⟨k + 1, by have := HLT.out; omega, by rw [HK2.out]; rfl, HQ.out⟩
    case measure => have := HLT.out; have := HK2.out; simp only [intOf]; omega
  ·obtain rfl : k = 4 := by omega
   have HF := Lib.hid HM.out
   clear hlt hk HM
   obtain ⟨c0, c1, c2, c3⟩ := set_of (M := M ||| N) (HF.out.at_ 0 rfl)
   obtain ⟨d0, d1, d2, d3⟩ := set_of (HF.out.at_ 2 rfl)
   have f0 := (HF.out.at_ 2 rfl).frozen 0
   have f1 := (HF.out.at_ 2 rfl).frozen 1
   have f2 := (HF.out.at_ 2 rfl).frozen 2
   have f3 := (HF.out.at_ 2 rfl).frozen 3
   have HZ := Lib.hid (HF.out.put4 2 rfl (.int .u64 (wd (M ||| N) 0 : Nat)) (.int .u64 (wd (M ||| N) 1 : Nat)) (.int .u64 (wd (M ||| N) 2 : Nat)) (.int .u64 (wd (M ||| N) 3 : Nat)))
   clear HF
   go_wp2_with fail
   exact bodyPost_ret (v := .agg (setL (M ||| N)).toArray) (by simp [results, Tryz.results45, go_sem, d0, d1, d2, d3, f0, f1, f2, f3, setL]) rfl ⟨rfl, HZ.out.below⟩
abbrev iz (x : Int) : Value := .int .i64 x
def leB : Option Int → Int → Bool
 | none, _ => false
 | some y, x => decide (x ≤ y)
def ordE (N : Int) : Option Int → List Int → Int
 | _, [] => 0
 | p, x :: r => if x < 0 ∨ N ≤ x then 3 else if leB p x = true then 6 else ordE N (some x) r
def pvO (L : List Int) : Nat → Option Int
 | 0 => none
 | k + 1 => L[k]?
def OdR (w : World) (N : Int) (L : List Int) (x : Value) (W : World) : Prop := ∃ k : Nat, k ≤ L.length ∧ x = .int .i64 (k : Int) ∧ ordE N none L = ordE N (pvO L k) (L.drop k) ∧ W = w
set_option maxRecDepth 1000000 in
set_option maxHeartbeats 4000000 in
theorem iordered_any (A : Option Addr) (c n v : Nat) (L : List Int) (w : World) (h : Rd iz w w.heap.size A L) (hn : n = L.length) (hm : n ≤ 1000) (hv : v ≤ 8) :
  Calls Tryz.prog 60 #[.slice A n c, .int .i64 (v : Int)] w fun e w' => e = .returned (.int .i64 (ordE ((2 ^ v : Nat) : Int) none L)) ∧ w = w' := by
 obtain ⟨N, hN⟩ : ∃ N, N = 2 ^ v := ⟨_, rfl⟩
 have hN8 : N ≤ 256 := by rw [hN]; exact pow_le8 hv
 rw [← hN]
 have hsh : wrap64 (2 ^ v) = (N : Int) := by
  have e : ((2 : Int) ^ v) = (N : Int) := by rw [hN, Int.natCast_pow]; rfl
  rw [e]; unfold wrap64; omega
 have HSH := Lib.hid hsh
 have HR := Lib.hid h
 have HN := Lib.hid hn
 have HX := Lib.hid hm
 obtain ⟨E, hE⟩ : ∃ E, E = ordE (N : Int) none L := ⟨_, rfl⟩
 have HE := Lib.hid hE
 rw [← hE]
 have HVV := Lib.hid hv
 clear h hn hm hN hN8 hsh hE hv
 go_enter Tryz.func60, Tryz.ntmps60
 go_wp2_with fail
 go_loopw [5, 6, 9] (fun a b x wr => OdR w (N : Int) L x wr) (fun _ _ x _ => n - (intOf x).toNat)
 case atStart => exact ⟨0, by omega, rfl, rfl, rfl⟩
 case round =>
  obtain ⟨k, hk, rfl, hrd, rfl⟩ := hrel
  have HD := Lib.hid hrd
  rw [← HN.out] at hk
  clear hrd
  by_cases hlt : k < n
  ·obtain ⟨b, off, hA, hb, hc⟩ := HR.out.at_ (by rw [← HN.out]; omega)
   subst hA
   have hkl : k < L.length := by rw [← HN.out]; exact hlt
   obtain ⟨x, hx⟩ : ∃ x, x = L[k] := ⟨_, rfl⟩
   have hc0 := hc k hkl
   rw [← hx] at hc0
   have hlk : (k : Int) < (n : Int) := by omega
   obtain ⟨k2, hk2⟩ : ∃ z : Int, z = (k : Int) + 1 := ⟨_, rfl⟩
   have hwk : IntKind.i64.wrap ((k : Int) + 1) = k2 := by rw [hk2]; exact IntWalk.i64_in _ (by have := HX.out; omega)
   have HK2 := Lib.hid hk2
   have HLT := Lib.hid hlt
   have hdr : L.drop k = x :: L.drop (k + 1) := by rw [hx]; exact List.drop_eq_getElem_cons hkl
   have hst := HD.out
   rw [hdr] at hst
   have HST := Lib.hid (show E = (if x < 0 ∨ (N : Int) ≤ x then 3 else if leB (pvO L k) x = true then 6 else ordE (N : Int) (some x) (L.drop (k + 1))) from HE.out.trans hst)
   have HPV := Lib.hid (show pvO L (k + 1) = some x by show L[k]? = some x; rw [hx]; exact List.getElem?_eq_getElem hkl)
   have hsh := HSH.out
   have hv2 : (v : Int) < 64 := by have := HVV.out; omega
   have HC := Lib.hid hc
   clear hk hlt hk2 hdr hst hx hb
   by_cases h1 : x < 0
   ·have HEE := Lib.hid (show E = 3 by rw [HST.out, if_pos (.inl h1)])
    have d1 : decide (x < 0) = true := decide_eq_true h1
    clear hc
    go_wp2_with fail
    exact bodyPost_ret (v := .int .i64 3) (by simp [results, Tryz.results60, go_sem]) rfl ⟨by rw [HEE.out], rfl⟩
   ·have d1 : decide (x < 0) = false := decide_eq_false h1
    by_cases h2 : (N : Int) ≤ x
    ·have HEE := Lib.hid (show E = 3 by rw [HST.out, if_pos (.inr h2)])
     clear hc
     go_wp2_with fail
     exact bodyPost_ret (v := .int .i64 3) (by simp [results, Tryz.results60, go_sem]) rfl ⟨by rw [HEE.out], rfl⟩
    ·have hn2 : ¬ (x < 0 ∨ (N : Int) ≤ x) := by omega
     by_cases hz : k = 0
     ·subst hz
      have HRE := Lib.hid (show E = ordE (N : Int) (some x) (L.drop 1) by rw [HST.out, if_neg hn2, if_neg (by simp [pvO, leB])])
      rw [Nat.add_zero] at hc0
      clear hc hn2
      go_wp2_with fail
      go_roundw
      case rel => exact ⟨1, by have := HLT.out; have := HN.out; omega, rfl, by rw [← HE.out, HRE.out, HPV.out], rfl⟩
      case measure => have := HLT.out; have := HK2.out; simp only [intOf]; omega
     ·obtain ⟨j, hjk⟩ : ∃ j, k = j + 1 := ⟨k - 1, by omega⟩
      obtain ⟨y, hy⟩ : ∃ y, y = L[j]'(by omega) := ⟨_, rfl⟩
      obtain ⟨jz, hjz⟩ : ∃ z : Int, z = (k : Int) - 1 := ⟨_, rfl⟩
      have hcj := hc j (by omega)
      rw [← hy, show j = jz.toNat by omega] at hcj
      have hpv : pvO L k = some y := by rw [hjk]; show L[j]? = some y; rw [hy]; exact List.getElem?_eq_getElem (by omega)
      have hwj : IntKind.i64.wrap ((k : Int) - 1) = jz := by rw [hjz]; exact IntWalk.i64_in _ (by have := HX.out; have := HLT.out; omega)
      have hjp : (0 : Int) < (k : Int) := by omega
      have hj0 : (0 : Int) ≤ jz := by omega
      have hj1 : jz < (n : Int) := by have := HLT.out; omega
      have hst := HST.out
      rw [hpv, if_neg hn2] at hst
      have HST2 := Lib.hid (show E = if x ≤ y then 6 else ordE (N : Int) (some x) (L.drop (k + 1)) by rw [hst]; simp only [leB, decide_eq_true_eq])
      clear hc hn2 hz hy hpv hst hkl hjk hjz
      by_cases h3 : x ≤ y
      ·have HEE := Lib.hid (show E = 6 by rw [HST2.out, if_pos h3])
       go_wp2_with fail
       exact bodyPost_ret (v := .int .i64 6) (by simp [results, Tryz.results60, go_sem]) rfl ⟨by rw [HEE.out], rfl⟩
      ·have HRE := Lib.hid (show E = ordE (N : Int) (some x) (L.drop (k + 1)) by rw [HST2.out, if_neg h3])
       go_wp2_with fail
       go_roundw
       case rel => exact ⟨k + 1, by have := HLT.out; have := HN.out; omega, by rw [HK2.out]; rfl, by rw [← HE.out, HRE.out, HPV.out], rfl⟩
       case measure => have := HLT.out; have := HK2.out; simp only [intOf]; omega
  ·obtain rfl : k = n := by omega
   have HEE := Lib.hid (show E = 0 by
    have h := HE.out.trans HD.out
    rw [HN.out, List.drop_length] at h
    exact h)
   clear hlt hk
   go_wp2_with fail
   exact bodyPost_ret (v := .int .i64 0) (by simp [results, Tryz.results60, go_sem]) rfl ⟨by rw [HEE.out], rfl⟩
theorem ordE_zero {N : Int} : ∀ (L : List Int) (p : Option Int), ordE N p L = 0 → (∀ x ∈ L, 0 ≤ x ∧ x < N) ∧ L.Pairwise (· < ·) ∧ (∀ y, p = some y → ∀ x ∈ L, y < x)
 | [], _, _ => ⟨fun _ h => absurd h (by simp), List.Pairwise.nil, fun _ _ _ h => absurd h (by simp)⟩
 | x :: r, p, h => by
  rw [ordE] at h
  split at h
  ·cases h
  ·rename_i h1
   split at h
   ·cases h
   ·rename_i h2
    obtain ⟨k1, k2, k3⟩ := ordE_zero r (some x) h
    refine ⟨fun z hz => ?_, List.pairwise_cons.2 ⟨k3 x rfl, k2⟩, fun y hy z hz => ?_⟩
    ·rcases List.mem_cons.1 hz with rfl | hz
     ·omega
     ·exact k1 z hz
    ·subst hy
     have hyx : y < x := by
      simp only [leB, decide_eq_true_eq] at h2
      omega
     rcases List.mem_cons.1 hz with rfl | hz
     ·exact hyx
     ·exact Int.lt_trans hyx (k3 x rfl z hz)
def chkE (v : Int) (L K : List Int) : Int := if v < 0 ∨ 8 < v then 3 else if ordE ((2 ^ v.toNat : Nat) : Int) none L ≠ 0 then ordE ((2 ^ v.toNat : Nat) : Int) none L else if ordE ((2 ^ v.toNat : Nat) : Int) none K ≠ 0 then ordE ((2 ^ v.toNat : Nat) : Int) none K else if rowM (L.map Int.toNat) &&& rowM (K.map Int.toNat) = 0 then 0 else 14
theorem rd_nat {w : World} {Bd : Nat} {A : Option Addr} {L : List Int} (h : Rd iz w Bd A L) (h0 : ∀ x ∈ L, 0 ≤ x) : Rd nv w Bd A (L.map Int.toNat) := fun hl => by
 rw [List.length_map] at hl
 obtain ⟨b, off, e, hb, hc⟩ := h hl
 refine ⟨b, off, e, hb, fun i hi => ?_⟩
 rw [List.length_map] at hi
 rw [hc i hi, List.getElem_map]
 have := h0 _ (List.getElem_mem hi)
 show some (Value.int .i64 L[i]) = some (Value.int .i64 (L[i].toNat : Int))
 rw [Int.toNat_of_nonneg this]
set_option maxRecDepth 1000000 in
set_option maxHeartbeats 4000000 in
theorem icheck_any (A B : Option Addr) (c d n m : Nat) (v : Int) (L K : List Int) (w : World) (hL : Rd iz w w.heap.size A L) (hK : Rd iz w w.heap.size B K) (hn : n = L.length) (hm : m = K.length) (hn1 : n ≤ 1000) (hm1 : m ≤ 1000) :
  Calls Tryz.prog 33 #[.agg #[.int .i64 v, .slice A n c, .slice B m d]] w fun e w' => e = .returned (.int .i64 (chkE v L K)) ∧ Below w.heap.size w w' := by
 obtain ⟨E, hE⟩ : ∃ E, E = chkE v L K := ⟨_, rfl⟩
 rw [← hE]
 have HE := Lib.hid hE
 have HL := Lib.hid hL
 have HK := Lib.hid hK
 have HN := Lib.hid (And.intro hn (And.intro hm (And.intro hn1 hm1)))
 have hm0 := (Hp.start w).new 26 [.int .i64 v, .slice A n c, .slice B m d]
 simp only [List.nil_append] at hm0
 have HM0 := Lib.hid hm0
 have c0 : (w.alloc (.cells #[.int .i64 v, .slice A n c, .slice B m d] 26)).cell? ⟨w.heap.size, 0, none⟩ = some (.int .i64 v) := (hm0.at_ 0 rfl).cell 0
 have c1 : (w.alloc (.cells #[.int .i64 v, .slice A n c, .slice B m d] 26)).cell? ⟨w.heap.size, 1, none⟩ = some (.slice A n c) := (hm0.at_ 0 rfl).cell 1
 have c2 : (w.alloc (.cells #[.int .i64 v, .slice A n c, .slice B m d] 26)).cell? ⟨w.heap.size, 2, none⟩ = some (.slice B m d) := (hm0.at_ 0 rfl).cell 2
 have HC := Lib.hid (And.intro c0 (And.intro c1 c2))
 clear hE hL hK hn hm hn1 hm1 hm0
 by_cases hv0 : v < 0
 ·have HEE := Lib.hid (show E = 3 by rw [HE.out]; unfold chkE; rw [if_pos (.inl hv0)])
  clear HC c1 c2
  go_enter Tryz.func33, Tryz.ntmps33
  go_wp2_with fail
  exact bodyPost_ret (v := .int .i64 3) (by simp [results, Tryz.results33, go_sem]) rfl ⟨by rw [HEE.out], HM0.out.below⟩
 by_cases hv8 : 8 < v
 ·have HEE := Lib.hid (show E = 3 by rw [HE.out]; unfold chkE; rw [if_pos (.inr hv8)])
  clear HC c1 c2
  go_enter Tryz.func33, Tryz.ntmps33
  go_wp2_with fail
  exact bodyPost_ret (v := .int .i64 3) (by simp [results, Tryz.results33, go_sem]) rfl ⟨by rw [HEE.out], HM0.out.below⟩
 have HV := Lib.hid (And.intro hv0 hv8)
 obtain ⟨vn, hvn⟩ : ∃ vn : Nat, v = (vn : Int) := ⟨v.toNat, by omega⟩
 have hE2 := HE.out
 unfold chkE at hE2
 rw [if_neg (by omega), show v.toNat = vn by omega] at hE2
 have HE2 := Lib.hid hE2
 have H1 := Lib.hid (fun W h => iordered_any A c n vn L W h HN.out.1 HN.out.2.2.1 (by omega))
 have H2 := Lib.hid (fun W h => iordered_any B d m vn K W h HN.out.2.1 HN.out.2.2.2 (by omega))
 rw [← hvn] at H1 H2
 obtain ⟨e1, he1⟩ : ∃ e, e = ordE ((2 ^ vn : Nat) : Int) none L := ⟨_, rfl⟩
 obtain ⟨e2, he2⟩ : ∃ e, e = ordE ((2 ^ vn : Nat) : Int) none K := ⟨_, rfl⟩
 rw [← he1] at H1 HE2
 rw [← he2] at H2 HE2
 have HO1 := Lib.hid he1
 have HO2 := Lib.hid he2
 have HPW := Lib.hid (show (2 : Nat) ^ vn ≤ 256 from pow_le8 (by omega))
 have HRL := Lib.hid ((HL.out.below (w' := w.alloc (.cells #[.int .i64 v, .slice A n c, .slice B m d] 26)) (bw_new (Below.refl _ _) _)).more (Bd' := (w.alloc (.cells #[.int .i64 v, .slice A n c, .slice B m d] 26)).heap.size) (by rw [World.size_alloc]; exact Nat.le_succ _))
 have HRK := Lib.hid ((HK.out.below (w' := w.alloc (.cells #[.int .i64 v, .slice A n c, .slice B m d] 26)) (bw_new (Below.refl _ _) _)).more (Bd' := (w.alloc (.cells #[.int .i64 v, .slice A n c, .slice B m d] 26)).heap.size) (by rw [World.size_alloc]; exact Nat.le_succ _))
 clear hE2 he1 he2 hvn HE
 have d0 : decide (v < 0) = false := decide_eq_false hv0
 have d8 : ¬ 8 < v := hv8
 clear hv0 hv8
 go_enter Tryz.func33, Tryz.ntmps33
 go_wp2_with fail
 refine (H1.out _ HRL.out).mono ?_
 rintro e wx ⟨rfl, rfl⟩
 by_cases h1 : e1 = 0
 ·subst h1
  go_wp2_with fail
  refine (H2.out _ HRK.out).mono ?_
  rintro e wx ⟨rfl, rfl⟩
  by_cases h2 : e2 = 0
  ·subst h2
   obtain ⟨l1, -, -⟩ := ordE_zero L none HO1.out.symm
   obtain ⟨l2, -, -⟩ := ordE_zero K none HO2.out.symm
   have hof1 := fun W (h : Below w.heap.size w W) => iof_any A c n (L.map Int.toNat) W ((rd_nat (HL.out.below h) (fun x hx => (l1 x hx).1)).more h.size) (fun r hr => by
    obtain ⟨x, hx, rfl⟩ := List.mem_map.1 hr
    have := l1 x hx
    have := HPW.out
    omega) (by rw [List.length_map]; exact HN.out.1) HN.out.2.2.1
   have hof2 := fun W (h : Below w.heap.size w W) => iof_any B d m (K.map Int.toNat) W ((rd_nat (HK.out.below h) (fun x hx => (l2 x hx).1)).more h.size) (fun r hr => by
    obtain ⟨x, hx, rfl⟩ := List.mem_map.1 hr
    have := l2 x hx
    have := HPW.out
    omega) (by rw [List.length_map]; exact HN.out.2.1) HN.out.2.2.2
   have hE3 := HE2.out
   rw [if_neg (by simp), if_neg (by simp)] at hE3
   have hMlt : rowM (L.map Int.toNat) < 2 ^ 256 := rowM_lt fun r hr => by
    obtain ⟨x, hx, rfl⟩ := List.mem_map.1 hr
    have := l1 x hx
    have := HPW.out
    omega
   obtain ⟨M1, hM1⟩ : ∃ M, M = rowM (L.map Int.toNat) := ⟨_, rfl⟩
   obtain ⟨M2, hM2⟩ : ∃ M, M = rowM (K.map Int.toNat) := ⟨_, rfl⟩
   rw [← hM1] at hof1 hE3 hMlt
   rw [← hM2] at hof2 hE3
   have HOF1 := Lib.hid hof1
   have HOF2 := Lib.hid hof2
   have HME := Lib.hid (fun W => imeets_any M1 M2 W hMlt)
   have HE3 := Lib.hid hE3
   clear l1 l2 hof1 hof2 hE3 hMlt hM1 hM2 HO1 HO2 HPW c0 c1 c2 HRL HRK H1 H2 HE2
   go_upto_region 9 with fail
   refine wp_regionJ 7 #[false, false, false, false, false, false, false] (fun l a W => ∃ (m0 m1 m2 m3 m4 m5 m6 : Bool), l = #[m0, m1, m2, m3, m4, m5, m6] ∧ a = ({ tmps := #[Value.agg #[Value.int IntKind.i64 v, Value.slice A n c, Value.slice B m d], Value.pointer (some { block := w.heap.size, off := 0 }), Value.int IntKind.i64 0, Value.int IntKind.i64 0, Value.int IntKind.i64 0, Value.pointer (some { block := w.heap.size, off := 0 }), Value.int IntKind.i64 v, Value.bool false, Value.bool false, Value.pointer (some { block := w.heap.size, off := 0 }), Value.int IntKind.i64 v, Value.bool false, Value.bool false, Value.pointer (some { block := w.heap.size, off := 1 }), Value.slice A n c, Value.pointer (some { block := w.heap.size, off := 0 }), Value.int IntKind.i64 v, Value.int IntKind.i64 0, Value.int IntKind.i64 0, Value.bool false, undef, Value.pointer (some { block := w.heap.size, off := 2 }), Value.slice B m d, Value.pointer (some { block := w.heap.size, off := 0 }), Value.int IntKind.i64 v, Value.int IntKind.i64 0, Value.int IntKind.i64 0, Value.bool false, undef, cwX m0 (.pointer (some ⟨w.heap.size, 1, none⟩)) (undef), cwX m1 (.slice A n c) (undef), cwX m2 (.agg (setL M1).toArray) (undef), cwX m3 (.pointer (some ⟨w.heap.size, 2, none⟩)) (undef), cwX m4 (.slice B m d) (undef), cwX m5 (.agg (setL M2).toArray) (undef), cwX m6 (.bool (M1 &&& M2 != 0)) (undef)], defers := [] } : Act) ∧ (True) ∧ Hp w [(w.heap.size, 26, [.int .i64 v, .slice A n c, .slice B m d])] W) (by kernel_rfl) (by kernel_rfl) (by kernel_rfl) (by kernel_rfl) ?_ ?_ ?_ ?_
   ·rintro l a W ⟨m0, m1, m2, m3, m4, m5, m6, rfl, _⟩
    rfl
   ·exact ⟨false, false, false, false, false, false, false, rfl, rfl, trivial, HM0.out.drew⟩
   ·rintro l a W i o ⟨m0, m1, m2, m3, m4, m5, m6, rfl, rfl, hi0, hm⟩ ho hun hall K hK
    have hi : i < 7 := (Array.getElem?_eq_some_iff.1 ho).1
    have HM := Lib.hid hm
    have HI := Lib.hid hi0
    clear hm hi0
    rcases (show i = 0 ∨ i = 1 ∨ i = 2 ∨ i = 3 ∨ i = 4 ∨ i = 5 ∨ i = 6 by omega) with rfl | rfl | rfl | rfl | rfl | rfl | rfl
    ·cases ho
     simp at hun; subst hun
     clear hall hi
     go_simp
     exact hK.out _ _ ⟨true, m1, m2, m3, m4, m5, m6, rfl, rfl, trivial, HM.out⟩
    ·cases ho
     cases (getBX hall 0 rfl : m0 = true)
     simp at hun; subst hun
     clear hall hi
     have c1 : W.cell? ⟨w.heap.size, 1, none⟩ = some (.slice A n c) := (HM.out.at_ 0 rfl).cell 1
     go_simp
     exact hK.out _ _ ⟨true, true, m2, m3, m4, m5, m6, rfl, rfl, trivial, HM.out⟩
    ·cases ho
     cases (getBX hall 1 rfl : m1 = true)
     simp at hun; subst hun
     clear hall hi
     go_simp
     refine (HOF1.out _ HM.out.below).mono ?_
     rintro e W' ⟨rfl, hb⟩
     exact hK.out _ _ ⟨m0, true, true, m3, m4, m5, m6, rfl, rfl, trivial, HM.out.step hb⟩
    ·cases ho
     simp at hun; subst hun
     clear hall hi
     go_simp
     exact hK.out _ _ ⟨m0, m1, m2, true, m4, m5, m6, rfl, rfl, trivial, HM.out⟩
    ·cases ho
     cases (getBX hall 3 rfl : m3 = true)
     simp at hun; subst hun
     clear hall hi
     have c2 : W.cell? ⟨w.heap.size, 2, none⟩ = some (.slice B m d) := (HM.out.at_ 0 rfl).cell 2
     go_simp
     exact hK.out _ _ ⟨m0, m1, m2, true, true, m5, m6, rfl, rfl, trivial, HM.out⟩
    ·cases ho
     cases (getBX hall 4 rfl : m4 = true)
     simp at hun; subst hun
     clear hall hi
     go_simp
     refine (HOF2.out _ HM.out.below).mono ?_
     rintro e W' ⟨rfl, hb⟩
     exact hK.out _ _ ⟨m0, m1, m2, m3, true, true, m6, rfl, rfl, trivial, HM.out.step hb⟩
    ·cases ho
     cases (getBX hall 2 rfl : m2 = true)
     cases (getBX hall 5 rfl : m5 = true)
     simp at hun; subst hun
     clear hall hi
     go_simp
     refine (HME.out _).mono ?_
     rintro e W' ⟨rfl, hb⟩
     exact hK.out _ _ ⟨m0, m1, true, m3, m4, true, true, rfl, rfl, trivial, HM.out.step hb⟩
   ·rintro l a W ⟨m0, m1, m2, m3, m4, m5, m6, rfl, rfl, _, hm⟩ hall
    cases (hall 0 (by decide) : m0 = true)
    cases (hall 1 (by decide) : m1 = true)
    cases (hall 2 (by decide) : m2 = true)
    cases (hall 3 (by decide) : m3 = true)
    cases (hall 4 (by decide) : m4 = true)
    cases (hall 5 (by decide) : m5 = true)
    cases (hall 6 (by decide) : m6 = true)
    clear hall
    have HQ : Hid (Hp w [(w.heap.size, 26, [.int .i64 v, .slice A n c, .slice B m d])] _) := Lib.hid hm
    clear hm HM0
    dsimp only [cwX, cond_true]
    by_cases hz : M1 &&& M2 = 0
    ·have HEE := Lib.hid (show E = 0 by rw [HE3.out, if_pos hz])
     have hz2 : (M1 &&& M2 != 0) = false := by rw [hz]; rfl
     clear hz
     go_wp2_with fail
     exact bodyPost_ret (v := .int .i64 0) (by simp [results, Tryz.results33, go_sem]) rfl ⟨by rw [HEE.out], HQ.out.below⟩
    ·have HEE := Lib.hid (show E = 14 by rw [HE3.out, if_neg hz])
     have hz2 : (M1 &&& M2 != 0) = true := by simpa using hz
     clear hz
     go_wp2_with fail
     exact bodyPost_ret (v := .int .i64 14) (by simp [results, Tryz.results33, go_sem]) rfl ⟨by rw [HEE.out], HQ.out.below⟩
  ·have HEE := Lib.hid (show E = e2 by rw [HE2.out, if_neg (by simp), if_pos h2])
   have hz : (e2 != 0) = true := by simpa using h2
   clear h2
   go_wp2_with fail
   exact bodyPost_ret (v := .int .i64 e2) (by simp [results, Tryz.results33, go_sem]) rfl ⟨by rw [HEE.out], HM0.out.below⟩
 ·have HEE := Lib.hid (show E = e1 by rw [HE2.out, if_pos h1])
  have hz : (e1 != 0) = true := by simpa using h1
  clear h1
  go_wp2_with fail
  exact bodyPost_ret (v := .int .i64 e1) (by simp [results, Tryz.results33, go_sem]) rfl ⟨by rw [HEE.out], HM0.out.below⟩
def pp1 (x : Int) : Int := IntKind.u64.wrap (bits .and .u64 (x / 2) 6148914691236517205 + bits .and .u64 x 6148914691236517205)
def pp2 (x : Int) : Int := IntKind.u64.wrap (bits .and .u64 (x / 4) 3689348814741910323 + bits .and .u64 x 3689348814741910323)
def pp3 (x : Int) : Int := bits .and .u64 (IntKind.u64.wrap (x / 16 + x)) 1085102592571150095
def pp4 (x : Int) : Int := IntKind.u64.wrap (x + x / 256)
def pp5 (x : Int) : Int := IntKind.u64.wrap (x + x / 65536)
def pp6 (x : Int) : Int := IntKind.u64.wrap (x + x / 4294967296)
def pp7 (x : Int) : Int := bits .and .i64 (wrap64 x) 127
theorem pop_fact : ∀ c : Fin 256, pp7 (pp6 (pp5 (pp4 (pp3 (pp2 (pp1 (c.val : Int))))))) = ((popc c.val : Nat) : Int) := by decide +kernel
set_option maxRecDepth 1000000 in
set_option maxHeartbeats 4000000 in
theorem ones64_any (c : Nat) (w : World) (hc : c < 256) :
  Calls Tryz.prog 114 #[.int .u64 (c : Int)] w fun e w' => e = .returned (.int .i64 (popc c : Nat)) ∧ w = w' := by
 have hf := pop_fact ⟨c, hc⟩
 dsimp only at hf
 obtain ⟨y1, h1⟩ : ∃ y, pp1 (c : Int) = y := ⟨_, rfl⟩
 rw [h1] at hf
 obtain ⟨y2, h2⟩ : ∃ y, pp2 y1 = y := ⟨_, rfl⟩
 rw [h2] at hf
 obtain ⟨y3, h3⟩ : ∃ y, pp3 y2 = y := ⟨_, rfl⟩
 rw [h3] at hf
 obtain ⟨y4, h4⟩ : ∃ y, pp4 y3 = y := ⟨_, rfl⟩
 rw [h4] at hf
 obtain ⟨y5, h5⟩ : ∃ y, pp5 y4 = y := ⟨_, rfl⟩
 rw [h5] at hf
 obtain ⟨y6, h6⟩ : ∃ y, pp6 y5 = y := ⟨_, rfl⟩
 rw [h6] at hf
 have HF := Lib.hid hf
 unfold pp1 at h1
 unfold pp2 at h2
 unfold pp3 at h3
 unfold pp4 at h4
 unfold pp5 at h5
 unfold pp6 at h6
 clear hf hc
 go_enter Tryz.func114, Tryz.ntmps114
 go_wp2_with fail
 exact bodyPost_ret (v := .int .i64 (bits .and .i64 (wrap64 y6) 127)) (by simp [results, Tryz.results114, go_sem]) rfl ⟨by rw [show bits .and .i64 (wrap64 y6) 127 = pp7 y6 from rfl, HF.out], rfl⟩
set_option maxRecDepth 1000000 in
set_option maxHeartbeats 4000000 in
theorem ones_any (c : Nat) (w : World) (hc : c < 256) :
  Calls Tryz.prog 90 #[.int .u64 (c : Int)] w fun e w' => e = .returned (.int .i64 (popc c : Nat)) ∧ w = w' := by
 have H1 := Lib.hid (fun W => ones64_any c W hc)
 clear hc
 go_enter Tryz.func90, Tryz.ntmps90
 go_wp2_with fail
 refine (H1.out _).mono ?_
 rintro e w1 ⟨rfl, rfl⟩
 go_wp2_with fail
 exact bodyPost_ret (v := .int .i64 (popc c : Nat)) (by simp [results, Tryz.results90, go_sem]) rfl ⟨rfl, rfl⟩
set_option maxRecDepth 1000000 in
set_option maxHeartbeats 4000000 in
theorem iliterals_any (c : Nat) (v : Value) (w : World) (hc : c < 256) :
  Calls Tryz.prog 72 #[.agg #[nv c, v]] w fun e w' => e = .returned (.int .i64 (popc c : Nat)) ∧ w' = w.alloc (.cells #[nv c, v] 37) := by
 have H1 := Lib.hid (fun W => ones_any c W hc)
 have hm0 := (Hp.start w).new 37 [nv c, v]
 simp only [List.nil_append] at hm0
 have HM0 := Lib.hid hm0
 have c0 : (w.alloc (.cells #[nv c, v] 37)).cell? ⟨w.heap.size, 0, none⟩ = some (.int .i64 (c : Int)) := (hm0.at_ 0 rfl).cell 0
 have hw : IntKind.u64.wrap (c : Int) = (c : Int) := u64_nat (by omega)
 clear hm0 hc
 go_enter Tryz.func72, Tryz.ntmps72
 go_wp2_with fail
 refine (H1.out _).mono ?_
 rintro e w1 ⟨rfl, rfl⟩
 go_wp2_with fail
 exact bodyPost_ret (v := .int .i64 (popc c : Nat)) (by simp [results, Tryz.results72, go_sem]) rfl ⟨rfl, rfl⟩
end Go.Proofs.YtaegjpancbmppaaGreatDoor
