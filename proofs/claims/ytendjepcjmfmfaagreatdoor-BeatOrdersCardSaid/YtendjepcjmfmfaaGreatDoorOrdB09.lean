/- Part 9 of 47 of the proof of the law: contracts of the functions that it reaches, and plain facts. Conditions: those that each contract names. -/
import Derived.Test.YtendjepcjmfmfaaGreatDoorRows
import Derived.Test.YtendjepcjmfmfaaGreatDoorOrdB03
import Derived.Test.YtendjepcjmfmfaaGreatDoorOrdB01
import Derived.BigQuiet
namespace Go.Proofs.YtendjepcjmfmfaaGreatDoor
section
open Go.RowKit
abbrev u64v : Nat → Value := fun x => .int .u64 (x : Int)
set_option maxHeartbeats 400000 in
theorem trim_any (L : List Nat) (A : Option Addr) (cap Bd : Nat) (w : World) (hr : Rd u64v w Bd A L) (hsm : Small L) (hcap : L.length ≤ cap) (hmax : L.length ≤ 1000000000000) :
  Calls Tryz.prog 114 #[.slice A L.length cap] w fun e w' => e = .returned (.slice A (limbs (lv L)).length cap) ∧ w = w' := by
 go_enter Tryz.func114, Tryz.ntmps114
 go_wp2
 go_loop [0] (fun v => ∃ k : Nat, k ≤ L.length ∧ lv (L.take k) = lv L ∧ v = .slice A k cap) (fun v => lenOf v)
 case atStart => exact ⟨L.length, Nat.le_refl _, by rw [List.take_length], rfl⟩
 case round =>
  obtain ⟨k, hk, he, rfl⟩ := hrel
  have HE := Lib.hid he
  clear he
  by_cases hk0 : k = 0
  ·subst hk0
   go_wp2
   go_ret
   exact ⟨ret_slice (limbs_len_of L hsm 0 (Nat.zero_le _) HE.out (fun h => absurd h (by omega))).symm, rfl⟩
  ·obtain ⟨j, rfl⟩ : ∃ j, k = j + 1 := ⟨k - 1, by omega⟩
   obtain ⟨b, off, rfl, hb, hc⟩ := hr.at_ (by omega)
   obtain ⟨x, hx⟩ : ∃ x, x = L[j] := ⟨_, rfl⟩
   have hcj : w.cell? ⟨b, off + j, none⟩ = some (.int .u64 (x : Int)) := by rw [hc j (by omega), hx]
   have HX := Lib.hid hx
   clear hx hc
   by_cases hx0 : x = 0
   ·have h0 : ((x : Int) == 0) = true := by subst hx0; rfl
    go_wp2
    go_round
    case rel => exact ⟨j, by omega, by rw [← HE.out, lv_take_succ L j (by omega), ← HX.out, hx0]; simp, rfl⟩
    case measure => simp [lenOf]
   ·have h0 : ((x : Int) == 0) = false := by simp; exact hx0
    go_wp2
    go_ret
    exact ⟨ret_slice (limbs_len_of L hsm (j + 1) hk HE.out (fun _ => by rw [show L[j + 1 - 1]'(by omega) = x from HX.out.symm]; exact hx0)).symm, rfl⟩
theorem trim_len (L : List Nat) (n : Nat) (hn : L.length = n) (A : Option Addr) (cap Bd : Nat) (w : World) (hr : Rd u64v w Bd A L) (hsm : Small L) (hcap : n ≤ cap) (hmax : n ≤ 1000000000000) :
  Calls Tryz.prog 114 #[.slice A n cap] w fun e w' => e = .returned (.slice A (limbs (lv L)).length cap) ∧ w = w' := by
 subst hn
 exact trim_any L A cap Bd w hr hsm hcap hmax
end
section
open Go.RowKit
theorem Tryz.infoU64 : (Tryz.prog.info? 145).map (fun i => (i.zero, i.size, i.bytes)) = some (some (.int .u64 0), 1, 8) := by kernel_rfl
def RetMag (p : Nat) (w : World) (e : Ending) (w' : World) : Prop :=
 ∃ A cap, e = .returned (.slice A (limbs p).length cap) ∧ Rd u64v w' w'.heap.size A (limbs p) ∧ (limbs p).length ≤ cap ∧ Below w.heap.size w w'
theorem Blk.own {w : World} {g base n : Nat} {t : TypeId} {cs : List Value} (h : Blk w g t cs) (hb : base ≤ g) (hn : n ≤ cs.length) (hm : cs.length ≤ maxLen) : w.ownsRow base t 1 (.slice (some ⟨g, 0, none⟩) n cs.length) n (cs.take n) :=
 ⟨by rw [List.length_take, Nat.mul_one, Nat.min_eq_left hn], .inr ⟨g, cs.length, cs.toArray, rfl, hb, h, hn, hm, by simp, by simp⟩⟩
def RetProd (p c : Nat) (w : World) (e : Ending) (w' : World) : Prop :=
 ∃ (g : Nat) (O : List Nat), e = .returned (.slice (some ⟨g, 0, none⟩) (limbs p).length c) ∧ w.heap.size ≤ g ∧ Blk w' g 145 (O.map u64v) ∧ O.length = c ∧ Small O ∧ lv O = p ∧ Below w.heap.size w w'
set_option maxHeartbeats 1000000 in
theorem times_blk (M N : List Nat) (A1 A2 : Option Addr) (c1 c2 : Nat) (w : World) (hr1 : Rd u64v w w.heap.size A1 M) (hr2 : Rd u64v w w.heap.size A2 N) (hM : Small M) (hN : Small N)
  (hm : M.length ≤ 1000000) (hn : N.length ≤ 1000000) :
  Calls Tryz.prog 90 #[.slice A1 M.length c1, .slice A2 N.length c2] w (RetProd (lv M * lv N) (M.length + N.length + 1) w) := by
 obtain ⟨i0, hi, hz0, hz1, hz2⟩ := info_parts Tryz.infoU64
 obtain ⟨lm, elm⟩ : ∃ lm, lm = M.length := ⟨_, rfl⟩
 obtain ⟨ln, eln⟩ : ∃ ln, ln = N.length := ⟨_, rfl⟩
 rw [← elm, ← eln]
 have hm' : lm ≤ 1000000 := by omega
 have hn' : ln ≤ 1000000 := by omega
 have ELM := Lib.hid elm
 have ELN := Lib.hid eln
 clear elm eln hm hn
 go_enter Tryz.func90, Tryz.ntmps90
 go_wp2_with (at_make; refine wpList_make_full _ rfl _ _ 156 rfl w.heap.size 145 i0 (.int .u64 0) 1 Tryz.underlying156 hi hz0 hz1 .i64 .i64 _ _ (lm + ln + 1) rfl rfl (by omega) (by omega) (by rw [hz2]; omega) (by unfold maxLen; omega) (Nat.le_refl _) ?_)
 intro w1 hown hgrow
 have hblk : Blk w1 w.heap.size 145 ((List.replicate (lm + ln + 1) 0).map u64v) := by
  have := Blk.of_own hown
  rw [toList_madeCells_one] at this
  simpa [u64v] using this
 have hb1 : Below w.heap.size w w1 := (Below.refl _ _).grown hgrow (Nat.le_refl _) (by simp)
 clear hown hgrow hi hz0 hz1 hz2
 go_wp2
 go_loopw [8, 21] (fun c v wr => ∃ (i : Nat) (O : List Nat), i ≤ lm ∧ v = .int .i64 i ∧ TimesOut M N i O ∧ Blk wr w.heap.size 145 (O.map u64v) ∧ Below w.heap.size w wr)
  (fun _ v _ => lm - (intOf v).toNat)
 case atStart => exact ⟨0, _, Nat.zero_le _, rfl, by have := TimesOut.start M N; rwa [← ELM.out, ← ELN.out] at this, hblk, hb1⟩
 case round =>
  clear hblk hb1
  obtain ⟨i, O, hil, rfl, hT, hblk, hb⟩ := hrel
  have HT := Lib.hid hT
  have HB := Lib.hid hblk
  have HL := Lib.hid hb
  clear hT hblk hb
  by_cases hlt : i < lm
  ·obtain ⟨b1, o1, rfl, hb1, hc1⟩ := (hr1.below HL.out).at_ (by have := ELM.out; omega)
   have hiM : i < M.length := by have := ELM.out; omega
   obtain ⟨a, ha⟩ : ∃ a, a = M[i] := ⟨_, rfl⟩
   have hca : wr.cell? ⟨b1, o1 + i, none⟩ = some (.int .u64 (a : Int)) := by rw [hc1 i hiM, ha]
   have ha9 : a < 1000000000 := by rw [ha]; exact hM.get i hiM
   have HA := Lib.hid ha
   clear ha hc1
   go_wp2
   obtain ⟨wo, rfl⟩ : ∃ wo : World, wo = wr := ⟨_, rfl⟩
   go_loopw [8, 28] (fun c v wr => ∃ (k c' : Nat) (O : List Nat), k ≤ ln ∧ v = .int .i64 k ∧ c = .int .u64 c' ∧ TimesIn M N i k a O c' ∧ Blk wr w.heap.size 145 (O.map u64v) ∧ Below w.heap.size w wr)
    (fun _ v _ => ln - (intOf v).toNat)
   case atStart => exact ⟨0, 0, O, Nat.zero_le _, rfl, rfl, HT.out.toIn a, HB.out, HL.out⟩
   case round =>
    clear HT HB HL hca
    obtain ⟨k, c, O, hkl, rfl, rfl, hT, hblk, hb⟩ := hrel
    by_cases hlt2 : k < ln
    ·obtain ⟨b2, o2, rfl, hb2, hc2⟩ := (hr2.below hb).at_ (by have := ELN.out; omega)
     have hkN : k < N.length := by have := ELN.out; omega
     have hikO : i + k < O.length := by have := hT.1; have := ELM.out; have := ELN.out; omega
     obtain ⟨d, hd⟩ : ∃ d, d = N[k] := ⟨_, rfl⟩
     obtain ⟨o, ho⟩ : ∃ o, o = O[i + k] := ⟨_, rfl⟩
     have hcd : wr.cell? ⟨b2, o2 + k, none⟩ = some (.int .u64 (d : Int)) := by rw [hc2 k hkN, hd]
     have hco : wr.cell? ⟨w.heap.size, i + k, none⟩ = some (.int .u64 (o : Int)) := by rw [hblk.cell]; simp [ho, hikO]
     have hfo : wr.frozen? ⟨w.heap.size, i + k, none⟩ = false := hblk.frozen _
     have hd9 : d < 1000000000 := by rw [hd]; exact hN.get k hkN
     have ho9 : o < 1000000000 := by rw [ho]; exact hT.2.1.get _ hikO
     have hc9 : c < 1000000000 := hT.2.2.1
     have had : (a : Int) * (d : Int) ≤ 999999998000000001 := by
      have : a * d ≤ 999999999 * 999999999 := Nat.mul_le_mul (by omega) (by omega)
      have h2 : ((a * d : Nat) : Int) ≤ 999999998000000001 := by omega
      simpa using h2
     have had0 : 0 ≤ (a : Int) * (d : Int) := by have : 0 ≤ ((a * d : Nat) : Int) := by omega
                                                 simpa using this
     have HS := Lib.hid (hT.step (by have := ELM.out; omega) hkN ha9 hN (o + a * d + c) (by rw [ho, hd]))
     have HB := Lib.hid hblk
     have HL := Lib.hid hb
     clear hT hblk hb hc2 hd ho
     go_wp2
     go_roundw
     case rel =>
      refine ⟨k + 1, (o + a * d + c) / 1000000000, _, by omega, by go_num, ?_, HS.out, ?_, HL.out.setCell (Nat.le_refl _) _⟩
      ·congr 1
      ·rw [List.map_set]; exact HB.out.put_eq _ (by simp [u64v])
     case measure => simp [intOf]; omega
    ·obtain rfl : k = ln := by omega
     have hiM2 : i < M.length := by have := ELM.out; omega
     have hikO : i + k < O.length := by have := hT.1; have := ELM.out; have := ELN.out; omega
     have ht := hT
     rw [ELN.out] at ht
     have htop := ht.top hiM2 HA.out hM hN
     have hdone := ht.done hiM2 HA.out hM hN
     obtain ⟨o, ho⟩ : ∃ o, o = O[i + k] := ⟨_, rfl⟩
     have e1 : O[i + N.length]'(by have := ELN.out; omega) = o := by rw [ho]; congr 1; have := ELN.out; omega
     rw [e1] at htop hdone
     rw [← ELN.out] at hdone
     have hco : wr.cell? ⟨w.heap.size, i + k, none⟩ = some (.int .u64 (o : Int)) := by rw [hblk.cell]; simp [ho, hikO]
     have hfo : wr.frozen? ⟨w.heap.size, i + k, none⟩ = false := hblk.frozen _
     have HD := Lib.hid hdone
     have HB := Lib.hid hblk
     have HL := Lib.hid hb
     clear ht hT hblk hb hdone ho e1
     go_wp2
     go_roundw
     case rel => exact ⟨i + 1, _, by omega, by go_num, HD.out, by rw [List.map_set]; exact HB.out.put_eq _ (by simp [u64v]), HL.out.setCell (Nat.le_refl _) _⟩
     case measure => simp [intOf]; omega
  ·obtain rfl : i = lm := by omega
   have hlen : O.length = i + ln + 1 := by have := HT.out.1; have := ELM.out; have := ELN.out; omega
   have hv : lv O = lv M * lv N := by have := HT.out; rw [ELM.out] at this; exact this.all
   have HV := Lib.hid hv
   have HE := Lib.hid hlen
   clear hv hlen
   go_wp2_with fail
   refine (trim_len O _ HE.out _ _ _ _ HB.out.rd HT.out.2.1 (Nat.le_refl _) (by omega)).mono ?_
   rintro e w' ⟨rfl, rfl⟩
   rw [HV.out]
   go_wp2
   go_ret
   exact ⟨_, O, rfl, Nat.le_refl _, HB.out, HE.out, HT.out.2.1, HV.out, HL.out⟩
theorem times_any (M N : List Nat) (A1 A2 : Option Addr) (c1 c2 : Nat) (w : World) (hr1 : Rd u64v w w.heap.size A1 M) (hr2 : Rd u64v w w.heap.size A2 N) (hM : Small M) (hN : Small N)
  (hm : M.length ≤ 1000000) (hn : N.length ≤ 1000000) :
  Calls Tryz.prog 90 #[.slice A1 M.length c1, .slice A2 N.length c2] w (RetMag (lv M * lv N) w) :=
 (times_blk M N A1 A2 c1 c2 w hr1 hr2 hM hN hm hn).mono fun e w' ⟨g, O, he, _, hB, hl, hs, hv, hb⟩ => by
  have hle := limbs_len_le_len O hs
  have heq := limbs_eq_take O hs
  rw [hv] at hle heq
  exact ⟨_, _, he, by rw [heq]; exact hB.rd.take _, by rw [← hl]; exact hle, hb⟩
end
end Go.Proofs.YtendjepcjmfmfaaGreatDoor
