/- Part 15 of 22 of the proof of the law: contracts of the functions that it reaches, and plain facts. Conditions: those that each contract names. -/
import Derived.Test.YtkamepalomkpbaaDoorWChkB14
import Derived.Deep.DeepCutAuto
import Derived.Deep.RegionHeld3
namespace Go.Proofs.YtkamepalomkpbaaDoor
section
open Go.RowKit
def ApPack (w : World) (xa xb : Nat) (nm : ByteArray) (dv : Int) (tn : ByteArray) (fn fd lo hi : Int) (nm2 : ByteArray) (dv2 : Int) (tn2 : ByteArray) (fn2 fd2 lo2 hi2 : Int) (A : Option Addr) (n cap : Nat) (B : Option Addr) (m c2 : Nat) (ws : List Wsh) (rules : List Int) (Bd : Nat) (W : World) : Prop :=
  Blk W xa 48 [.string nm, .int .i64 dv, .string tn, .int .i64 fn, .int .i64 fd, .int .i64 lo, .int .i64 hi] ∧ Blk W xb 48 [.string nm2, .int .i64 dv2, .string tn2, .int .i64 fn2, .int .i64 fd2, .int .i64 lo2, .int .i64 hi2] ∧
    Blk W w.heap.size 29 [.slice A n cap, .slice B m c2] ∧ Pb W Bd A n cap B m c2 ws rules ∧ Tab W ∧ Below w.heap.size w W
section
variable {w : World} {xa xb : Nat} {nm : ByteArray} {dv : Int} {tn : ByteArray} {fn fd lo hi : Int} {nm2 : ByteArray} {dv2 : Int} {tn2 : ByteArray} {fn2 fd2 lo2 hi2 : Int} {A : Option Addr} {n cap : Nat} {B : Option Addr} {m c2 : Nat} {ws : List Wsh} {rules : List Int} {Bd : Nat} {W W' : World}
theorem ApPack.below (h : ApPack w xa xb nm dv tn fn fd lo hi nm2 dv2 tn2 fn2 fd2 lo2 hi2 A n cap B m c2 ws rules Bd W) (hB : Bd ≤ w.heap.size) (hb : Below W.heap.size W W') : ApPack w xa xb nm dv tn fn fd lo hi nm2 dv2 tn2 fn2 fd2 lo2 hi2 A n cap B m c2 ws rules Bd W' := by
  obtain ⟨h1, h2, h3, h4, h5, h6⟩ := h
  exact ⟨h1.keep hb, h2.keep hb, h3.keep hb, h4.keep (by have := h3.lt; omega) hb, h5.below hb, h6.trans (hb.mono h6.size)⟩
def ApHeld (w : World) (xa xb : Nat) (nm : ByteArray) (dv : Int) (tn : ByteArray) (fn fd lo hi : Int) (nm2 : ByteArray) (dv2 : Int) (tn2 : ByteArray) (fn2 fd2 lo2 hi2 : Int) (A : Option Addr) (n cap : Nat) (B : Option Addr) (m c2 : Nat) (ws : List Wsh) (rules : List Int) (Bd : Nat) (W : World) : Prop :=
  W.cell? ⟨xa, 0, none⟩ = some (.string nm) ∧ W.cell? ⟨xa, 1, none⟩ = some (.int .i64 dv) ∧ W.cell? ⟨xa, 2, none⟩ = some (.string tn) ∧ W.cell? ⟨xa, 3, none⟩ = some (.int .i64 fn) ∧ W.cell? ⟨xa, 4, none⟩ = some (.int .i64 fd) ∧ W.cell? ⟨xa, 5, none⟩ = some (.int .i64 lo) ∧ W.cell? ⟨xa, 6, none⟩ = some (.int .i64 hi) ∧
  W.cell? ⟨xb, 0, none⟩ = some (.string nm2) ∧ W.cell? ⟨xb, 1, none⟩ = some (.int .i64 dv2) ∧ W.cell? ⟨xb, 2, none⟩ = some (.string tn2) ∧ W.cell? ⟨xb, 3, none⟩ = some (.int .i64 fn2) ∧ W.cell? ⟨xb, 4, none⟩ = some (.int .i64 fd2) ∧ W.cell? ⟨xb, 5, none⟩ = some (.int .i64 lo2) ∧ W.cell? ⟨xb, 6, none⟩ = some (.int .i64 hi2) ∧
  ApPack w xa xb nm dv tn fn fd lo hi nm2 dv2 tn2 fn2 fd2 lo2 hi2 A n cap B m c2 ws rules Bd W
theorem ApHeld.of (h : ApPack w xa xb nm dv tn fn fd lo hi nm2 dv2 tn2 fn2 fd2 lo2 hi2 A n cap B m c2 ws rules Bd W) : ApHeld w xa xb nm dv tn fn fd lo hi nm2 dv2 tn2 fn2 fd2 lo2 hi2 A n cap B m c2 ws rules Bd W := by
  obtain ⟨x0, x1, x2, x3, x4, x5, x6⟩ := h.1.wish
  obtain ⟨y0, y1, y2, y3, y4, y5, y6⟩ := h.2.1.wish
  exact ⟨x0, x1, x2, x3, x4, x5, x6, y0, y1, y2, y3, y4, y5, y6, h⟩
theorem ApHeld.pack (h : ApHeld w xa xb nm dv tn fn fd lo hi nm2 dv2 tn2 fn2 fd2 lo2 hi2 A n cap B m c2 ws rules Bd W) : ApPack w xa xb nm dv tn fn fd lo hi nm2 dv2 tn2 fn2 fd2 lo2 hi2 A n cap B m c2 ws rules Bd W := h.2.2.2.2.2.2.2.2.2.2.2.2.2.2
theorem ApHeld.below (h : ApHeld w xa xb nm dv tn fn fd lo hi nm2 dv2 tn2 fn2 fd2 lo2 hi2 A n cap B m c2 ws rules Bd W) (hB : Bd ≤ w.heap.size) (hb : Below W.heap.size W W') : ApHeld w xa xb nm dv tn fn fd lo hi nm2 dv2 tn2 fn2 fd2 lo2 hi2 A n cap B m c2 ws rules Bd W' := .of (h.pack.below hB hb)
theorem ApHeld.drew (h : ApHeld w xa xb nm dv tn fn fd lo hi nm2 dv2 tn2 fn2 fd2 lo2 hi2 A n cap B m c2 ws rules Bd W) (hB : Bd ≤ w.heap.size) : ApHeld w xa xb nm dv tn fn fd lo hi nm2 dv2 tn2 fn2 fd2 lo2 hi2 A n cap B m c2 ws rules Bd W.drew := h.below hB (bw_drew (Below.refl _ _))
theorem ApHeld.tab (h : ApHeld w xa xb nm dv tn fn fd lo hi nm2 dv2 tn2 fn2 fd2 lo2 hi2 A n cap B m c2 ws rules Bd W) : Tab W := h.pack.2.2.2.2.1
end
theorem toList_eq_true {s t : ByteArray} (h : s = t) : (s.toList == t.toList) = true := by subst h; simp
theorem toList_eq_false {s t : ByteArray} (h : s ≠ t) : (s.toList == t.toList) = false := by
  rw [beq_eq_false_iff_ne]
  intro e
  apply h
  rw [ByteArray.toList_eq, ByteArray.toList_eq] at e
  apply ByteArray.ext
  exact Array.toList_inj.1 e
set_option maxRecDepth 100000 in
set_option maxHeartbeats 8000000 in
theorem apart_any (A : Option Addr) (n cap : Nat) (B : Option Addr) (m c2 : Nat) (ws : List Wsh) (rules : List Int) (Bd : Nat) (w : World) (hp : Pb w Bd A n cap B m c2 ws rules) (hB : Bd ≤ w.heap.size)
    (hr : ∀ x ∈ ws, WR x) (a b : Int) (ha : 0 ≤ a ∧ a < (n : Int)) (hb : 0 ≤ b ∧ b < (n : Int)) (ht : Tab w) :
    Calls Tryd.prog 34 #[.agg #[.slice A n cap, .slice B m c2], .int .i64 a, .int .i64 b] w fun e w' => e = .returned (.bool (apB rules (wat ws a) (wat ws b))) ∧ Below w.heap.size w w' := by
  obtain ⟨i, rfl⟩ := Int.eq_ofNat_of_zero_le ha.1
  obtain ⟨j, rfl⟩ := Int.eq_ofNat_of_zero_le hb.1
  have hi : i < n := by omega
  have hj : j < n := by omega
  have hiw : i < ws.length := by rw [hp.wl]; exact hi
  have hjw : j < ws.length := by rw [hp.wl]; exact hj
  rw [wat_eq hiw, wat_eq hjw]
  have hcm := hp.wm
  have hnc := hp.wc
  unfold maxLen at hcm
  obtain ⟨g, off, rfl, hgb, hcell⟩ := hp.wr.at_ (by omega)
  have hat := hcell i hiw
  have hbt := hcell j hjw
  have hwa := hr ws[i] (List.getElem_mem hiw)
  have hwb := hr ws[j] (List.getElem_mem hjw)
  obtain ⟨x, hx⟩ : ∃ x, x = ws[i] := ⟨_, rfl⟩
  obtain ⟨y, hy⟩ : ∃ y, y = ws[j] := ⟨_, rfl⟩
  rw [← hx] at hat hwa ⊢
  rw [← hy] at hbt hwb ⊢
  clear hx hy hcell ha hb
  obtain ⟨nm, dv, tn, fn, fd, lo, hi'⟩ := x
  obtain ⟨nm2, dv2, tn2, fn2, fd2, lo2, hi2⟩ := y
  obtain ⟨a0, a1, a2, a3, a4, a5, a6⟩ := hat
  obtain ⟨b0, b1, b2, b3, b4, b5, b6⟩ := hbt
  dsimp only at a0 a1 a2 a3 a4 a5 a6 b0 b1 b2 b3 b4 b5 b6
  have hgw : g < w.heap.size := by omega
  have HP := Lib.hid hp
  have HPA := Lib.hid hwa.1
  have HPB := Lib.hid hwb.1
  have hi0 : (i : Int) < n := by omega
  have hj0 : (j : Int) < n := by omega
  have hi1 : (0 : Int) ≤ i := by omega
  have hj1 : (0 : Int) ≤ j := by omega
  clear hp hwa hwb hr
  go_enter Tryd.func34, Tryd.ntmps34
  go_wp2_with fail
  obtain ⟨W2, hW2⟩ : ∃ W2, W2 = w.alloc (.cells #[.slice (some ⟨g, off, none⟩) n cap, .slice B m c2] 29) := ⟨_, rfl⟩
  rw [← hW2]
  have hb0 : Below w.heap.size w W2 := by rw [hW2]; exact bw_new (Below.refl _ _) _
  have hbx : Blk W2 w.heap.size 29 [.slice (some ⟨g, off, none⟩) n cap, .slice B m c2] := by rw [hW2]; exact Blk.new
  obtain ⟨p0, p1⟩ := hbx.two
  have hs : w.heap.size < W2.heap.size := hbx.lt
  obtain ⟨hc0, hf0⟩ := bcell hb0
  rw [← hc0 _ _ hgw] at a0 a1 a2 a3 a4 a5 a6 b0 b1 b2 b3 b4 b5 b6
  have hgw2 : g < W2.heap.size := by omega
  have hgw3 : g < W2.heap.size + 1 := by omega
  have hs3 : w.heap.size < W2.heap.size + 1 := by omega
  have HB0 := Lib.hid hb0
  have HBX := Lib.hid hbx
  clear hc0 hf0 hb0 hbx hW2 hgw
  have HP2 := Lib.hid (HP.out.keep hB HB0.out)
  have HT2 := Lib.hid (ht.below HB0.out)
  clear ht HP
  go_cut [7, 8] (fun u v W3 => ∃ xa xb : Nat, u = .pointer (some ⟨xa, 0, none⟩) ∧ v = .pointer (some ⟨xb, 0, none⟩) ∧ ApPack w xa xb nm dv tn fn fd lo hi' nm2 dv2 tn2 fn2 fd2 lo2 hi2 (some ⟨g, off, none⟩) n cap B m c2 ws rules Bd W3)
  case first =>
    go_region
    all_goals
      first
      | (obtain ⟨W3, hW3⟩ : ∃ W3, W3 = ((W2.alloc (.cells #[.string nm, .int .i64 dv, .string tn, .int .i64 fn, .int .i64 fd, .int .i64 lo, .int .i64 hi'] 48)).alloc (.cells #[.string nm2, .int .i64 dv2, .string tn2, .int .i64 fn2, .int .i64 fd2, .int .i64 lo2, .int .i64 hi2] 48)).drew := ⟨_, rfl⟩
         rw [← hW3]
         have X : Blk W3 W2.heap.size 48 [.string nm, .int .i64 dv, .string tn, .int .i64 fn, .int .i64 fd, .int .i64 lo, .int .i64 hi'] := by rw [hW3]; exact (Blk.new.alloc _).drew
         have Y : Blk W3 (W2.heap.size + 1) 48 [.string nm2, .int .i64 dv2, .string tn2, .int .i64 fn2, .int .i64 fd2, .int .i64 lo2, .int .i64 hi2] := by
           have := Blk.new (w := W2.alloc (.cells #[.string nm, .int .i64 dv, .string tn, .int .i64 fn, .int .i64 fd, .int .i64 lo, .int .i64 hi'] 48)) (t := 48) (cs := [.string nm2, .int .i64 dv2, .string tn2, .int .i64 fn2, .int .i64 fd2, .int .i64 lo2, .int .i64 hi2])
           rw [World.size_alloc] at this
           rw [hW3]; exact this
         have hk : Below W2.heap.size W2 W3 := by rw [hW3]; exact bw_drew (bw_new (bw_new (Below.refl _ _) _) _)
         have hpk := Lib.hid (show ApPack w _ _ nm dv tn fn fd lo hi' nm2 dv2 tn2 fn2 fd2 lo2 hi2 (some ⟨g, off, none⟩) n cap B m c2 ws rules Bd W3 from ⟨X, Y, HBX.out.keep hk, HP2.out.keep (by omega) hk, HT2.out.below hk, HB0.out.trans (hk.mono HB0.out.size)⟩)
         clear hW3 X Y hk a0 a1 a2 a3 a4 a5 a6 b0 b1 b2 b3 b4 b5 b6 p0 p1 HBX HP2 HT2 HB0 hs hgw2 hgw3 hs3)
      | (obtain ⟨W3, hW3⟩ : ∃ W3, W3 = ((W2.alloc (.cells #[.string nm2, .int .i64 dv2, .string tn2, .int .i64 fn2, .int .i64 fd2, .int .i64 lo2, .int .i64 hi2] 48)).alloc (.cells #[.string nm, .int .i64 dv, .string tn, .int .i64 fn, .int .i64 fd, .int .i64 lo, .int .i64 hi'] 48)).drew := ⟨_, rfl⟩
         rw [← hW3]
         have Y : Blk W3 W2.heap.size 48 [.string nm2, .int .i64 dv2, .string tn2, .int .i64 fn2, .int .i64 fd2, .int .i64 lo2, .int .i64 hi2] := by rw [hW3]; exact (Blk.new.alloc _).drew
         have X : Blk W3 (W2.heap.size + 1) 48 [.string nm, .int .i64 dv, .string tn, .int .i64 fn, .int .i64 fd, .int .i64 lo, .int .i64 hi'] := by
           have := Blk.new (w := W2.alloc (.cells #[.string nm2, .int .i64 dv2, .string tn2, .int .i64 fn2, .int .i64 fd2, .int .i64 lo2, .int .i64 hi2] 48)) (t := 48) (cs := [.string nm, .int .i64 dv, .string tn, .int .i64 fn, .int .i64 fd, .int .i64 lo, .int .i64 hi'])
           rw [World.size_alloc] at this
           rw [hW3]; exact this
         have hk : Below W2.heap.size W2 W3 := by rw [hW3]; exact bw_drew (bw_new (bw_new (Below.refl _ _) _) _)
         have hpk := Lib.hid (show ApPack w _ _ nm dv tn fn fd lo hi' nm2 dv2 tn2 fn2 fd2 lo2 hi2 (some ⟨g, off, none⟩) n cap B m c2 ws rules Bd W3 from ⟨X, Y, HBX.out.keep hk, HP2.out.keep (by omega) hk, HT2.out.below hk, HB0.out.trans (hk.mono HB0.out.size)⟩)
         clear hW3 X Y hk a0 a1 a2 a3 a4 a5 a6 b0 b1 b2 b3 b4 b5 b6 p0 p1 HBX HP2 HT2 HB0 hs hgw2 hgw3 hs3)
      go_wp2_with fail
      go_meet
      case rel => exact ⟨_, _, rfl, rfl, hpk.out⟩
  case rest =>
    obtain ⟨xa, xb, rfl, rfl, hpk⟩ := hcut
    have hpk := Lib.hid hpk
    clear a0 a1 a2 a3 a4 a5 a6 b0 b1 b2 b3 b4 b5 b6 p0 p1 HBX HP2 HT2 HB0 hs hgw2 hgw3 hs3
    have hT := ApHeld.of hpk.out
    obtain ⟨x0, x1, x2, x3, x4, x5, x6, y0, y1, y2, y3, y4, y5, y6, _⟩ := hT
    by_cases htn : tn = tn2
    · have he := toList_eq_true htn
      have HR := Lib.hid (show apB rules ⟨nm, dv, tn, fn, fd, lo, hi'⟩ ⟨nm2, dv2, tn2, fn2, fd2, lo2, hi2⟩ = (decide (dv = dv2) && decide (max (shF fn fd - shF fn2 fd2) (-(shF fn fd - shF fn2 fd2)) ∈ rules)) from if_neg (fun k => k htn))
      clear htn
      have hs1 := shF_bd fn fd
      have hs2 := shF_bd fn2 fd2
      obtain ⟨s1, s2⟩ := hs1
      obtain ⟨t1, t2⟩ := hs2
      have hw : IntKind.i64.wrap (shF fn fd - shF fn2 fd2) = shF fn fd - shF fn2 fd2 := IntWalk.i64_in _ (by omega)
      go_wp2_with fail
      clear x0 x1 x2 x3 x4 x5 x6 y0 y1 y2 y3 y4 y5 y6
      have hT := ApHeld.of hpk.out
      go_region_held3 (fun w' => w'.cell? ⟨xa, 0, none⟩ = some (.string nm) ∧ w'.cell? ⟨xa, 1, none⟩ = some (.int .i64 dv) ∧ w'.cell? ⟨xa, 2, none⟩ = some (.string tn) ∧ w'.cell? ⟨xa, 3, none⟩ = some (.int .i64 fn) ∧ w'.cell? ⟨xa, 4, none⟩ = some (.int .i64 fd) ∧ w'.cell? ⟨xa, 5, none⟩ = some (.int .i64 lo) ∧ w'.cell? ⟨xa, 6, none⟩ = some (.int .i64 hi') ∧ w'.cell? ⟨xb, 0, none⟩ = some (.string nm2) ∧ w'.cell? ⟨xb, 1, none⟩ = some (.int .i64 dv2) ∧ w'.cell? ⟨xb, 2, none⟩ = some (.string tn2) ∧ w'.cell? ⟨xb, 3, none⟩ = some (.int .i64 fn2) ∧ w'.cell? ⟨xb, 4, none⟩ = some (.int .i64 fd2) ∧ w'.cell? ⟨xb, 5, none⟩ = some (.int .i64 lo2) ∧ w'.cell? ⟨xb, 6, none⟩ = some (.int .i64 hi2) ∧ ApPack w xa xb nm dv tn fn fd lo hi' nm2 dv2 tn2 fn2 fd2 lo2 hi2 (some ⟨g, off, none⟩) n cap B m c2 ws rules Bd w') (first | assumption | exact ApHeld.drew hT hB | exact ApHeld.below (by assumption) hB hbel)
        (first | (go_at_call 33; refine (wshift_any _ _ _ _ _ _ _ _ (ApHeld.tab (by assumption)) (by first | exact HPA.out | exact HPB.out)).mono ?_; rintro e w' ⟨rfl, hbel⟩))
      have hf : ApHeld w xa xb nm dv tn fn fd lo hi' nm2 dv2 tn2 fn2 fd2 lo2 hi2 (some ⟨g, off, none⟩) n cap B m c2 ws rules Bd w' := by assumption
      have HF := Lib.hid hf.pack
      clear hf hT hw hpk
      rename_i wq hbq hHq
      clear hHq hbel hbq
      obtain ⟨p0, p1⟩ := HF.out.2.2.1.two
      have x1 := HF.out.1.wish.2.1
      have y1 := HF.out.2.1.wish.2.1
      by_cases hdv : dv = dv2
      · have hdb : (dv == dv2) = true := by rw [beq_iff_eq]; exact hdv
        have HR2 := Lib.hid (show apB rules ⟨nm, dv, tn, fn, fd, lo, hi'⟩ ⟨nm2, dv2, tn2, fn2, fd2, lo2, hi2⟩ = decide (max (shF fn fd - shF fn2 fd2) (-(shF fn fd - shF fn2 fd2)) ∈ rules) by rw [HR.out, decide_eq_true hdv, Bool.true_and])
        clear hdv
        go_wp2_with fail
        refine (contains_any rules _ B m c2 Bd _ HF.out.2.2.2.1.rl HF.out.2.2.2.1.rr HF.out.2.2.2.1.rc HF.out.2.2.2.1.rm).mono ?_
        rintro e w4 ⟨rfl, rfl⟩
        go_wp2
        go_ret
        exact ⟨ret_bool HR2.out.symm, HF.out.2.2.2.2.2⟩
      · have hdb : (dv == dv2) = false := by rw [beq_eq_false_iff_ne]; exact hdv
        have HR2 := Lib.hid (show apB rules ⟨nm, dv, tn, fn, fd, lo, hi'⟩ ⟨nm2, dv2, tn2, fn2, fd2, lo2, hi2⟩ = false by rw [HR.out, decide_eq_false hdv, Bool.false_and])
        clear hdv
        go_wp2
        go_ret
        exact ⟨ret_bool HR2.out.symm, HF.out.2.2.2.2.2⟩
    · have he := toList_eq_false htn
      have HR := Lib.hid (show apB rules ⟨nm, dv, tn, fn, fd, lo, hi'⟩ ⟨nm2, dv2, tn2, fn2, fd2, lo2, hi2⟩ = true from if_pos htn)
      clear htn
      go_wp2
      go_ret
      exact ⟨ret_bool HR.out.symm, hpk.out.2.2.2.2.2⟩
end
section
open Go.RowKit
def fstVal : Option (Int × Int) → Value
  | some p => .tuple #[.int .i64 p.1, .int .i64 p.2, .bool true]
  | none => .tuple #[.int .i64 0, .int .i64 0, .bool false]
theorem pair_step {ws : List Wsh} {rules : List Int} {a : Int} {g : List Int} {t : Nat} (h : t < g.length) :
    pairOf ws rules a (g.drop t) = if apB rules (wat ws a) (wat ws g[t]) = true then some g[t] else pairOf ws rules a (g.drop (t + 1)) := by
  rw [drop_cons g t h]
  unfold pairOf
  rw [List.find?_cons]
  cases apB rules (wat ws a) (wat ws g[t]) <;> rfl
theorem fst_step {ws : List Wsh} {rules : List Int} {g : List Int} {k : Nat} (h : k < g.length) :
    fstP ws rules (g.drop k) = match pairOf ws rules g[k] (g.drop (k + 1)) with | some b => some (g[k], b) | none => fstP ws rules (g.drop (k + 1)) := by
  rw [drop_cons g k h, fstP_cons]
  rfl
set_option maxRecDepth 100000 in
set_option maxHeartbeats 4000000 in
theorem first_any (A : Option Addr) (n cap : Nat) (B : Option Addr) (m c2 : Nat) (ws : List Wsh) (rules : List Int) (G : Option Addr) (gn gc : Nat) (g : List Int) (Bd : Nat) (w : World) (hp : Pb w Bd A n cap B m c2 ws rules) (hB : Bd ≤ w.heap.size)
    (hr : ∀ x ∈ ws, WR x) (hg : ∀ i ∈ g, 0 ≤ i ∧ i < (n : Int)) (hgl : g.length = gn) (hgr : Rd i64v w Bd G g) (hgc : gn ≤ gc) (hgm : gc ≤ maxLen) (ht : Tab w) :
    Calls Tryd.prog 25 #[.agg #[.slice A n cap, .slice B m c2], .slice G gn gc] w fun e w' => e = .returned (fstVal (fstP ws rules g)) ∧ Below w.heap.size w w' := by
  have hl := hp.wl
  have hcm := hp.wm
  have hnc := hp.wc
  unfold maxLen at hcm hgm
  have hb0 := bw_new (Below.refl _ w) (.cells #[.slice A n cap, .slice B m c2] 29)
  have hrel : CostRel w Bd A n cap B m c2 ws rules G g (w.alloc (.cells #[.slice A n cap, .slice B m c2] 29)) :=
    ⟨Blk.new (cs := [.slice A n cap, .slice B m c2]), hp.keep hB hb0, hgr.below (hb0.mono hB), hb0, by simp, ht.alloc _⟩
  have HREL := Lib.hid hrel
  have HGL := Lib.hid hgl
  have HR := Lib.hid hr
  have HG := Lib.hid hg
  clear hp hl hgl hr hg hgr hb0 hrel ht
  go_enter Tryd.func25, Tryd.ntmps25
  go_wp2_with fail
  go_loopw [13] (fun v wr => ∃ k : Nat, k ≤ gn ∧ v = .int .i64 k ∧ Lib.Kept (fstP ws rules g = fstP ws rules (g.drop k)) ∧ CostRel w Bd A n cap B m c2 ws rules G g wr) (fun v _ => gn - (intOf v).toNat)
  case atStart => exact ⟨0, by omega, rfl, rfl, HREL.out⟩
  case round =>
    obtain ⟨k, hk, rfl, ho, hrel⟩ := hrel
    have HO : Hid (fstP ws rules g = fstP ws rules (g.drop k)) := ho
    have HRL := Lib.hid hrel
    have hs : w.heap.size + 1 ≤ wr.heap.size := hrel.2.2.2.2.1
    clear hrel ho
    by_cases hlt : k < gn
    · have hltg : k < g.length := by rw [HGL.out]; exact hlt
      obtain ⟨gb, go, rfl, hgb, hgcell⟩ := rd_at HRL.out.2.2.1 (by omega)
      have hck := hgcell k hltg
      have hin := HG.out g[k] (List.getElem_mem hltg)
      have HST := Lib.hid (fst_step (ws := ws) (rules := rules) hltg)
      obtain ⟨a, ha⟩ : ∃ a, a = g[k] := ⟨_, rfl⟩
      rw [← ha] at hck hin HST
      obtain ⟨ha0, ha1⟩ := hin
      have hgbw : gb < wr.heap.size := by omega
      clear hgcell ha
      by_cases hcap : gc = k + 1
      · have HN := Lib.hid (show fstP ws rules g = fstP ws rules (g.drop (k + 1)) by
          rw [HO.out, HST.out, List.drop_eq_nil_of_le (by rw [HGL.out]; omega)]; rfl)
        subst hcap
        have hgk : gn = k + 1 := by omega
        subst hgk
        go_wp2_with fail
        go_loop [23] (fun v => v = .int .i64 0) (fun _ => 0)
        case atStart => rfl
        case round =>
          subst hrel
          go_wp2
          go_roundw
          case rel => exact ⟨k + 1, by omega, by go_num, HN.out, HRL.out⟩
          case measure => simp [intOf]
      · have hcap' : k + 1 < gc := by omega
        clear hcap
        go_wp2_with fail
        obtain ⟨wo, rfl⟩ : ∃ wo : World, wo = wr := ⟨_, rfl⟩
        go_loopw [23] (fun v wx => ∃ j : Nat, k + 1 + j ≤ gn ∧ v = .int .i64 j ∧ Lib.Kept (pairOf ws rules a (g.drop (k + 1)) = pairOf ws rules a (g.drop (k + 1 + j))) ∧ CostRel w Bd A n cap B m c2 ws rules (some ⟨gb, go, none⟩) g wx) (fun v _ => gn - (intOf v).toNat)
        case atStart => exact ⟨0, by omega, rfl, rfl, HRL.out⟩
        case round =>
          obtain ⟨j, hj, rfl, hpo, hrel⟩ := hrel
          have HPO : Hid (pairOf ws rules a (g.drop (k + 1)) = pairOf ws rules a (g.drop (k + 1 + j))) := hpo
          have HRX := Lib.hid hrel
          have hsx : w.heap.size + 1 ≤ wr.heap.size := hrel.2.2.2.2.1
          clear hrel hpo hck
          by_cases hlt2 : k + 1 + j < gn
          · have hltx : k + 1 + j < g.length := by rw [HGL.out]; exact hlt2
            obtain ⟨gb', go', e, hgb', hgcell⟩ := rd_at HRX.out.2.2.1 (by omega)
            injection e with e
            injection e with e1 e2 e3
            subst e1
            subst e2
            have hcj := hgcell (k + 1 + j) hltx
            rw [← Nat.add_assoc] at hcj
            have hin := HG.out g[k + 1 + j] (List.getElem_mem hltx)
            have HPS := Lib.hid (pair_step (ws := ws) (rules := rules) (a := a) hltx)
            obtain ⟨b, hb⟩ : ∃ b, b = g[k + 1 + j] := ⟨_, rfl⟩
            rw [← hb] at hcj hin HPS
            obtain ⟨hb0, hb1⟩ := hin
            have hgbx : gb < wr.heap.size := by omega
            obtain ⟨p0, p1⟩ := HRX.out.1.two
            have HAP := Lib.hid (apart_any A n cap B m c2 ws rules Bd wr HRX.out.2.1 (by omega) HR.out a b ⟨ha0, ha1⟩ ⟨hb0, hb1⟩ HRX.out.2.2.2.2.2)
            clear hgcell hb
            cases hq : apB rules (wat ws a) (wat ws b) with
            | true =>
              have hap := HAP.out
              rw [hq] at hap
              have hap := Lib.hid hap
              have HF := Lib.hid (show fstP ws rules g = some (a, b) by
                rw [HO.out, HST.out, HPO.out, HPS.out, hq]; rfl)
              clear hq HAP
              go_wp2_with fail
              refine hap.out.mono ?_
              rintro e w2 ⟨rfl, hk2⟩
              have HB2 := Lib.hid ((HRX.out.below hB hk2).2.2.2.1)
              clear hk2
              go_wp2
              go_ret3
              exact ⟨by rw [HF.out]; rfl, HB2.out⟩
            | false =>
              have hap := HAP.out
              rw [hq] at hap
              have hap := Lib.hid hap
              have HF := Lib.hid (show pairOf ws rules a (g.drop (k + 1)) = pairOf ws rules a (g.drop (k + 1 + (j + 1))) by
                rw [HPO.out, HPS.out, hq]; rfl)
              clear hq HAP
              go_wp2_with fail
              refine hap.out.mono ?_
              rintro e w2 ⟨rfl, hk2⟩
              have HR2 := Lib.hid (HRX.out.below hB hk2)
              clear hk2
              go_wp2
              go_roundw
              case rel => exact ⟨j + 1, by omega, by go_num, HF.out, HR2.out⟩
              case measure => simp [intOf]; omega
          · have hkj : k + 1 + j = gn := by omega
            have HN := Lib.hid (show fstP ws rules g = fstP ws rules (g.drop (k + 1)) by
              rw [HO.out, HST.out, HPO.out, List.drop_eq_nil_of_le (by rw [HGL.out]; omega)]; rfl)
            go_wp2
            go_roundw
            case rel => exact ⟨k + 1, by omega, by go_num, HN.out, HRX.out⟩
            case measure => simp [intOf]; omega
    · have hkg : k = gn := by omega
      have HN := Lib.hid (show fstP ws rules g = none by rw [HO.out, List.drop_eq_nil_of_le (by rw [HGL.out]; omega)]; rfl)
      go_wp2
      go_ret3
      exact ⟨by rw [HN.out]; rfl, HRL.out.2.2.2.1⟩
def permVal (ws : List Wsh) (rules g : List Int) : Value :=
  if bothE ws rules g ≠ 0 then .tuple #[.int .i64 0, .int .i64 0, .bool false, .int .i64 (bothE ws rules g)]
  else match fstP ws rules g with
    | some p => .tuple #[.int .i64 p.1, .int .i64 p.2, .bool false, .int .i64 0]
    | none => .tuple #[.int .i64 0, .int .i64 0, .bool (decide (costZ ws g ≤ 128)), .int .i64 0]
theorem perm_err {ws : List Wsh} {rules g : List Int} (h : bothE ws rules g ≠ 0) : permVal ws rules g = .tuple #[.int .i64 0, .int .i64 0, .bool false, .int .i64 (bothE ws rules g)] := if_pos h
theorem perm_pair {ws : List Wsh} {rules g : List Int} {a b : Int} (h : bothE ws rules g = 0) (hf : fstP ws rules g = some (a, b)) : permVal ws rules g = .tuple #[.int .i64 a, .int .i64 b, .bool false, .int .i64 0] := by
  unfold permVal; rw [if_neg (by omega), hf]
theorem perm_none {ws : List Wsh} {rules g : List Int} (h : bothE ws rules g = 0) (hf : fstP ws rules g = none) : permVal ws rules g = .tuple #[.int .i64 0, .int .i64 0, .bool (decide (costZ ws g ≤ 128)), .int .i64 0] := by
  unfold permVal; rw [if_neg (by omega), hf]
set_option maxRecDepth 100000 in
set_option maxHeartbeats 4000000 in
theorem wperm_any (A : Option Addr) (n cap : Nat) (B : Option Addr) (m c2 : Nat) (ws : List Wsh) (rules : List Int) (G : Option Addr) (gn gc : Nat) (g : List Int) (Bd : Nat) (w : World) (hp : Pb w Bd A n cap B m c2 ws rules) (hB : Bd ≤ w.heap.size)
    (hgl : g.length = gn) (hgr : Rd i64v w Bd G g) (hgc : gn ≤ gc) (hgm : gc ≤ maxLen) (ht : Tab w) :
    Calls Tryd.prog 11 #[.agg #[.slice A n cap, .slice B m c2], .slice G gn gc] w fun e w' => e = .returned (permVal ws rules g) ∧ Below w.heap.size w w' := by
  have hb0 := bw_new (Below.refl _ w) (.cells #[.slice A n cap, .slice B m c2] 29)
  have hbx : Blk (w.alloc (.cells #[.slice A n cap, .slice B m c2] 29)) w.heap.size 29 [.slice A n cap, .slice B m c2] := Blk.new
  have HP := Lib.hid (hp.keep hB hb0)
  have HG := Lib.hid (hgr.below (hb0.mono hB))
  have H1 := Lib.hid (both_any A n cap B m c2 ws rules G gn gc g Bd _ HP.out (by simp; omega) hgl HG.out hgc hgm)
  have HT := Lib.hid (ht.below hb0)
  have HB := Lib.hid hbx
  have HB0 := Lib.hid hb0
  have HWL := Lib.hid hp.wl
  have HZ := Lib.hid (@bothE_zero ws rules g)
  have HE := Lib.hid (@perm_err ws rules g)
  have HPR := Lib.hid (fun (a b : Int) => @perm_pair ws rules g a b)
  have HPN := Lib.hid (@perm_none ws rules g)
  obtain ⟨z, hz⟩ : ∃ z, z = bothE ws rules g := ⟨_, rfl⟩
  rw [← hz] at H1 HZ HE
  simp only [← hz] at HPR HPN
  clear hz hp hgr hb0 hbx ht
  by_cases hz0 : z = 0
  · have hz1 : (z == 0) = true := by simpa using hz0
    have hz2 : (z != 0) = false := by simpa using hz0
    subst hz0
    have hzz := HZ.out rfl
    have hgg := (gpE_zero hzz.2).2
    rw [HWL.out] at hgg
    have H2 := Lib.hid (fun W hp hB hgr ht => first_any A n cap B m c2 ws rules G gn gc g Bd W hp hB (pbE_right hzz.1) hgg hgl hgr hgc hgm ht)
    have H3 := Lib.hid (fun W hp hB hgr ht => cost_any A n cap B m c2 ws rules G gn gc g Bd W hp hB (pbE_right hzz.1) hgg hgl hgr hgc hgm ht)
    obtain ⟨c, hc⟩ : ∃ c, c = costZ ws g := ⟨_, rfl⟩
    rw [← hc] at H3 HPN
    clear hzz hc hgg
    cases hq : fstP ws rules g with
    | some p =>
      obtain ⟨a, b⟩ := p
      have h2 := H2.out
      rw [hq] at h2
      have h2 := Lib.hid h2
      have hv := Lib.hid (HPR.out a b rfl hq)
      clear H2 hq
      go_enter Tryd.func11, Tryd.ntmps11
      go_wp2_with fail
      refine H1.out.mono ?_
      rintro e w1 ⟨rfl, hk⟩
      obtain ⟨p0, p1⟩ := (HB.out.keep hk).two
      have HG1 := Lib.hid (HG.out.below (hk.mono (by simp; omega)))
      have HP1 := Lib.hid (HP.out.keep (by simp; omega) hk)
      have HT1 := Lib.hid (HT.out.below hk)
      have HB1 := Lib.hid (HB0.out.trans (hk.mono (by simp)))
      clear hk
      go_wp2_with fail
      refine (h2.out _ HP1.out (Nat.le_trans hB HB1.out.size) HG1.out HT1.out).mono ?_
      rintro e w2 ⟨rfl, hk⟩
      have HB2 := Lib.hid (HB1.out.trans (hk.mono HB1.out.size))
      clear hk
      unfold fstVal
      go_wp2
      refine bodyPost_ret (v := .tuple #[.int .i64 a, .int .i64 b, .bool false, .int .i64 0]) (by simp [results, Tryd.results11, go_sem]) rfl ⟨?_, HB2.out⟩
      rw [hv.out]
    | none =>
      have h2 := H2.out
      rw [hq] at h2
      have h2 := Lib.hid h2
      have hv := Lib.hid (HPN.out rfl hq)
      clear H2 hq
      go_enter Tryd.func11, Tryd.ntmps11
      go_wp2_with fail
      refine H1.out.mono ?_
      rintro e w1 ⟨rfl, hk⟩
      obtain ⟨p0, p1⟩ := (HB.out.keep hk).two
      have HG1 := Lib.hid (HG.out.below (hk.mono (by simp; omega)))
      have HP1 := Lib.hid (HP.out.keep (by simp; omega) hk)
      have HT1 := Lib.hid (HT.out.below hk)
      have HB1 := Lib.hid (HB0.out.trans (hk.mono (by simp)))
      have hbx1 := HB.out.keep hk
      have HBX1 := Lib.hid hbx1
      clear hk hbx1
      go_wp2_with fail
      refine (h2.out _ HP1.out (Nat.le_trans hB HB1.out.size) HG1.out HT1.out).mono ?_
      rintro e w2 ⟨rfl, hk⟩
      clear p0 p1
      obtain ⟨p0, p1⟩ := (HBX1.out.keep hk).two
      have hs1 := Nat.le_trans hB HB1.out.size
      have HG2 := Lib.hid (HG1.out.below (hk.mono hs1))
      have HP2 := Lib.hid (HP1.out.keep hs1 hk)
      have HT2 := Lib.hid (HT1.out.below hk)
      have HB2 := Lib.hid (HB1.out.trans (hk.mono HB1.out.size))
      clear hk
      unfold fstVal
      go_wp2_with fail
      refine (H3.out _ HP2.out (Nat.le_trans hB HB2.out.size) HG2.out HT2.out).mono ?_
      rintro e w3 ⟨rfl, hk⟩
      have HB3 := Lib.hid (HB2.out.trans (hk.mono HB2.out.size))
      clear hk p0 p1
      go_wp2
      refine bodyPost_ret (v := .tuple #[.int .i64 0, .int .i64 0, .bool (decide (c ≤ 128)), .int .i64 0]) (by simp [results, Tryd.results11, go_sem]) rfl ⟨?_, HB3.out⟩
      rw [hv.out]
  · have hz1 : (z == 0) = false := by simpa using hz0
    have hz2 : (z != 0) = true := by simpa using hz0
    have hv := Lib.hid (HE.out hz0)
    clear hz0
    go_enter Tryd.func11, Tryd.ntmps11
    go_wp2_with fail
    refine H1.out.mono ?_
    rintro e w1 ⟨rfl, hk⟩
    have HB1 := Lib.hid (HB0.out.trans (hk.mono (by simp)))
    clear hk
    go_wp2
    refine bodyPost_ret (v := .tuple #[.int .i64 0, .int .i64 0, .bool false, .int .i64 z]) (by simp [results, Tryd.results11, go_sem]) rfl ⟨?_, HB1.out⟩
    rw [hv.out]
end
end Go.Proofs.YtkamepalomkpbaaDoor
