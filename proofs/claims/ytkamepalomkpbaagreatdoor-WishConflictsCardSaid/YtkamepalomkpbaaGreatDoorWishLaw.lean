/- Chapter 37's law: the error of a group. Conditions: the group reads as a list of ints. Package wish: Heights. Conditions: the problem is right; the library's table of powers of ten reads as its text lays it. Chapter 37's law: the shift and the heights of a wish; wish.Heights. Conditions: the wish is right; the library's table of powers of ten reads as its text lays it. Chapter 37's law: the cost of a right group. Conditions: the problem and the group are right, the group is not empty; the library's table of powers of ten reads as its text lays it. -/
import Derived.Test.YtkamepalomkpbaaGreatDoorWishCheck
import Derived.Test.YtkamepalomkpbaaGreatDoorWishShare
import Derived.Test.YtkamepalomkpbaaGreatDoorWishEx
import Derived.Test.YtkamepalomkpbaaGreatDoorLShift
namespace Go.Proofs.YtkamepalomkpbaaGreatDoor
section
open Go.RowKit

set_option maxRecDepth 100000 in
set_option maxHeartbeats 2000000 in
/-- group: the error of a group. -/
theorem lgroup_any (A : Option Addr) (n cap : Nat) (B : Option Addr) (m c2 : Nat) (g : List Int) (G : Option Addr) (gn gc Bd : Nat) (w : World)
    (hg : g.length = gn) (hgr : Rd i64v w Bd G g) (hgc : gn ≤ gc) (hgm : gc ≤ maxLen) (hB : Bd ≤ w.heap.size) :
    Calls Tryz.prog 10 #[.agg #[.slice A n cap, .slice B m c2], .slice G gn gc] w fun e w' => e = .returned (.int .i64 (gpE n g)) ∧ Below w.heap.size w w' := by
  subst hg
  unfold maxLen at hgm
  by_cases h0 : g.length = 0
  · have HE := Lib.hid (show gpE n g = 13 from if_pos h0)
    have h0' : ((g.length : Int) == 0) = true := by rw [beq_iff_eq]; omega
    go_enter Tryz.func10, Tryz.ntmps10
    go_wp2
    go_ret
    exact ⟨ret_int HE.out.symm, bw_new (Below.refl _ w) _⟩
  · have HE := Lib.hid (show gpE n g = sqE n 10 none g from if_neg h0)
    have h0' : ((g.length : Int) == 0) = false := by rw [beq_eq_false_iff_ne]; omega
    obtain ⟨b, off, rfl, hb, hc⟩ := rd_at hgr (by omega)
    have HC := Lib.hid hc
    have hbw : b < w.heap.size := by omega
    clear hc h0 hgr
    go_enter Tryz.func10, Tryz.ntmps10
    go_wp2
    go_loop [12] (fun v => ∃ k : Nat, k ≤ g.length ∧ v = .int .i64 k ∧ gpE n g = sqE n 10 (g.take k).getLast? (g.drop k)) (fun v => g.length - (intOf v).toNat)
    case atStart => exact ⟨0, by omega, rfl, by rw [HE.out]; rfl⟩
    case round =>
      obtain ⟨k, hk, rfl, ho⟩ := hrel
      have HO := Lib.hid ho
      clear ho
      by_cases hlt : k < g.length
      · have hck : w.cell? ⟨b, off + k, none⟩ = some (.int .i64 g[k]) := HC.out k hlt
        obtain ⟨x, hx⟩ : ∃ x, x = g[k] := ⟨_, rfl⟩
        rw [← hx] at hck
        have HX := Lib.hid hx
        clear hx
        by_cases h1 : x < 0
        · have HR := Lib.hid (show gpE n g = 10 by rw [HO.out, sq_bad hlt (by rw [← HX.out]; exact .inl h1)])
          go_wp2
          go_ret
          exact ⟨ret_int HR.out.symm, bw_new (Below.refl _ w) _⟩
        · by_cases h2 : (n : Int) ≤ x
          · have HR := Lib.hid (show gpE n g = 10 by rw [HO.out, sq_bad hlt (by rw [← HX.out]; exact .inr h2)])
            go_wp2
            go_ret
            exact ⟨ret_int HR.out.symm, bw_new (Below.refl _ w) _⟩
          · have h1' : 0 ≤ x := by omega
            have h2' : x < (n : Int) := by omega
            have HN := Lib.hid (show ¬ (g[k] < 0 ∨ (n : Int) ≤ g[k]) by rw [← HX.out]; omega)
            cases k with
            | zero =>
              rw [Nat.add_zero] at hck
              have HS := Lib.hid (sq_step (e := 10) hlt HN.out (last_zero g _))
              go_wp2
              go_round
              case rel => exact ⟨1, by omega, rfl, by rw [HO.out, HS.out]⟩
              case measure => simp [intOf]; omega
            | succ j =>
              have hcj : w.cell? ⟨b, off + j, none⟩ = some (.int .i64 g[j]) := HC.out j (by omega)
              obtain ⟨y, hy⟩ : ∃ y, y = g[j]'(by omega) := ⟨_, rfl⟩
              rw [← hy] at hcj
              have HL := Lib.hid (last_succ g j (by omega) x)
              rw [HX.out] at HL
              have HY := Lib.hid hy
              clear hy
              by_cases h3 : x ≤ y
              · have HR := Lib.hid (show gpE n g = 6 by rw [HO.out, sq_ord hlt HN.out (by rw [HL.out, ← HX.out, ← HY.out]; exact decide_eq_true h3)])
                go_wp2
                go_ret
                exact ⟨ret_int HR.out.symm, bw_new (Below.refl _ w) _⟩
              · have h3' : y < x := by omega
                have HS := Lib.hid (sq_step (e := 10) hlt HN.out (by rw [HL.out, ← HX.out, ← HY.out]; exact decide_eq_false h3))
                go_wp2
                go_round
                case rel => exact ⟨j + 1 + 1, by omega, by go_num, by rw [HO.out, HS.out]⟩
                case measure => simp [intOf]; omega
      · have HR := Lib.hid (show gpE n g = 0 by rw [HO.out, List.drop_eq_nil_of_le (by omega)]; rfl)
        go_wp2
        go_ret
        exact ⟨ret_int HR.out.symm, bw_new (Below.refl _ w) _⟩
end

section
open Go.RowKit


set_option maxRecDepth 100000 in
set_option maxHeartbeats 4000000 in
theorem wheights_any (A : Option Addr) (n cap : Nat) (B : Option Addr) (m c2 : Nat) (ws : List Wsh) (rules : List Int) (at_ : Int) (Bd : Nat) (w : World) (hp : Pb w Bd A n cap B m c2 ws rules) (hB : Bd ≤ w.heap.size) (h0 : pbE ws rules = 0) (ht : Tab w) :
    Calls Tryz.prog 13 #[.agg #[.slice A n cap, .slice B m c2], .int .i64 at_] w fun e w' =>
      ((at_ < 0 ∨ (n : Int) ≤ at_) ∧ e = .returned (.tuple #[.int .i64 0, .int .i64 0, .int .i64 10]) ∨ (0 ≤ at_ ∧ at_ < (n : Int)) ∧ e = .returned (.tuple #[.int .i64 (loH (wat ws at_)), .int .i64 (hiH (wat ws at_)), .int .i64 0])) ∧ Below w.heap.size w w' := by
  have hb0 := bw_new (Below.refl _ w) (.cells #[.slice A n cap, .slice B m c2] 29)
  have hbx : Blk (w.alloc (.cells #[.slice A n cap, .slice B m c2] 29)) w.heap.size 29 [.slice A n cap, .slice B m c2] := Blk.new
  have HP := Lib.hid (hp.keep hB hb0)
  have H1 := Lib.hid (wcheck_any A n cap B m c2 ws rules Bd _ HP.out (by simp; omega))
  rw [h0] at H1
  have hcm := hp.wm
  have hnc := hp.wc
  unfold maxLen at hcm
  have HL := Lib.hid hp.wl
  have HWR := Lib.hid (pbE_right h0)
  have HT := Lib.hid (ht.below hb0)
  have HB := Lib.hid hbx
  have HB0 := Lib.hid hb0
  clear hp hb0 hbx h0 ht
  go_enter Tryz.func13, Tryz.ntmps13
  go_wp2_with fail
  refine H1.out.mono ?_
  rintro e w1 ⟨rfl, hk⟩
  have HX := Lib.hid (HB.out.keep hk)
  have HP1 := Lib.hid (HP.out.keep (by simp; omega) hk)
  have HT1 := Lib.hid (HT.out.below hk)
  have HB1 := Lib.hid (HB0.out.trans (hk.mono (by simp)))
  have hs1 := hk.size
  rw [World.size_alloc] at hs1
  obtain ⟨p0, p1⟩ := HX.out.two
  clear hk H1 HP HT HB HB0
  by_cases ha : at_ < 0
  · go_wp2
    go_ret3
    exact ⟨.inl ⟨.inl ha, rfl⟩, HB1.out⟩
  · have ha0 : 0 ≤ at_ := by omega
    by_cases ha2 : (n : Int) ≤ at_
    · go_wp2
      go_ret3
      exact ⟨.inl ⟨.inr ha2, rfl⟩, HB1.out⟩
    · obtain ⟨i, rfl⟩ := Int.eq_ofNat_of_zero_le ha0
      have hin : i < n := by omega
      have hltw : i < ws.length := by rw [HL.out]; exact hin
      obtain ⟨b, off, rfl, hbd, hcell⟩ := HP1.out.wr.at_ (by omega)
      have hat := hcell i hltw
      obtain ⟨hpr, hlo, hlh, hhi, _⟩ := HWR.out ws[i] (List.getElem_mem hltw)
      have hX : wat ws (i : Int) = ws[i] := wat_eq hltw
      obtain ⟨x, hx⟩ : ∃ x, x = ws[i] := ⟨_, rfl⟩
      rw [← hx] at hat hpr hlo hlh hhi hX
      clear hx hcell
      obtain ⟨nm, dv, tn, fn, fd, lo, hi⟩ := x
      obtain ⟨a0, a1, a2, a3, a4, a5, a6⟩ := hat
      dsimp only at a0 a1 a2 a3 a4 a5 a6 hpr hlo hlh hhi
      have hShift := Lib.hid (fun W h => wshift_any nm dv tn fn fd lo hi W h hpr)
      have e1 : loH (wat ws (i : Int)) = lo + shF fn fd := by rw [hX]; rfl
      have e2 : hiH (wat ws (i : Int)) = hi + shF fn fd := by rw [hX]; rfl
      obtain ⟨s, hs'⟩ : ∃ s, s = shF fn fd := ⟨_, rfl⟩
      have hsb := shF_bd fn fd
      rw [← hs'] at hsb hShift e1 e2
      obtain ⟨hsb0, hsb1⟩ := hsb
      have E1 := Lib.hid e1
      have E2 := Lib.hid e2
      have hbw : b < w1.heap.size := by omega
      clear hs' hpr hX e1 e2 ha ha0 ha2
      go_wp2_with fail
      refine (hShift.out _ (HT1.out.alloc _)).mono ?_
      rintro e w2 ⟨rfl, hb2⟩
      have HX2 := Lib.hid ((Blk.new (w := w1) (t := 51) (cs := [.string nm, .int .i64 dv, .string tn, .int .i64 fn, .int .i64 fd, .int .i64 lo, .int .i64 hi])).keep hb2)
      have HR2 := Lib.hid (((bw_new HB1.out (.cells #[.string nm, .int .i64 dv, .string tn, .int .i64 fn, .int .i64 fd, .int .i64 lo, .int .i64 hi] 51))).trans (hb2.mono (by simp; omega)))
      obtain ⟨x0, x1, x2, x3, x4, x5, x6⟩ := HX2.out.wish
      clear hb2 a0 a1 a2 a3 a4 a5 a6 p0 p1 x0 x1 x2 x3 x4
      have hw1 : IntKind.i64.wrap (lo + s) = lo + s := IntWalk.i64_in _ (by omega)
      have hw2 : IntKind.i64.wrap (hi + s) = hi + s := IntWalk.i64_in _ (by omega)
      go_wp2_with fail
      go_quiet (fail)
      go_wp2
      go_ret3
      rw [E1.out, E2.out]
      exact ⟨.inr ⟨⟨by omega, by omega⟩, rfl⟩, bw_drewN HR2.out _⟩
end

section
open Go.RowKit

theorem l13shift_any (fn fd : Int) (w : World) (ht : Tab w) (hp : PR fn fd) :
    Calls Tryz.prog 46 #[.agg #[.int .i64 fn, .int .i64 fd], .agg #[.int .i64 8, .int .i64 1]] w fun e w' => e = .returned (.int .i64 (shF fn fd)) ∧ Below w.heap.size w w' := by
  obtain ⟨a, rfl⟩ := Int.eq_ofNat_of_zero_le (a := fn) (by have := hp.2.1; omega)
  obtain ⟨b, rfl⟩ := Int.eq_ofNat_of_zero_le (a := fd) (by have := hp.1.1; omega)
  have s1 : ∀ W, Tab W → Calls Tryz.prog 54 #[.agg #[.int .i64 (a : Int), .int .i64 (b : Int)], .agg #[.int .i64 8, .int .i64 1]] W fun e W' => e = .returned (.int .i64 (shF (a : Int) (b : Int))) ∧ Below W.heap.size W W' := fun W hW =>
    (lshift_any a b 8 1 W hW hp pr81).mono fun e W' ⟨s, hs, h1, h2, he, hb⟩ => ⟨by rw [he, shF_eq (s := s) (by simpa using hs) h1 h2], hb⟩
  obtain ⟨s, hs⟩ : ∃ s, s = shF (a : Int) (b : Int) := ⟨_, rfl⟩
  rw [← hs] at s1 ⊢
  have S1 := Lib.hid s1
  have hb0 := bw_new (bw_new (Below.refl w.heap.size w) (.cells #[.int .i64 (a : Int), .int .i64 (b : Int)] 47)) (.cells #[.int .i64 8, .int .i64 1] 47)
  have HT := Lib.hid (ht.below hb0)
  have HB0 := Lib.hid hb0
  clear s1 hs hp ht hb0
  go_enter Tryz.func46, Tryz.ntmps46
  go_wp2_with fail
  refine (S1.out _ HT.out).mono ?_
  rintro e w1 ⟨rfl, hb⟩
  go_wp2
  go_ret
  exact ⟨rfl, HB0.out.trans (hb.mono HB0.out.size)⟩

/-- A boxed wish, and below the call's heap nothing has changed. -/
def WBox (w : World) (nm : ByteArray) (dv : Int) (tn : ByteArray) (fn fd lo hi : Int) (w' : World) : Prop :=
  Blk w' w.heap.size 51 [.string nm, .int .i64 dv, .string tn, .int .i64 fn, .int .i64 fd, .int .i64 lo, .int .i64 hi] ∧ Below w.heap.size w w'
/-- The same, with its cells. -/
def WHeld (w : World) (nm : ByteArray) (dv : Int) (tn : ByteArray) (fn fd lo hi : Int) (w' : World) : Prop :=
  w'.cell? ⟨w.heap.size, 0, none⟩ = some (.string nm) ∧ w'.cell? ⟨w.heap.size, 1, none⟩ = some (.int .i64 dv) ∧ w'.cell? ⟨w.heap.size, 2, none⟩ = some (.string tn) ∧ w'.cell? ⟨w.heap.size, 3, none⟩ = some (.int .i64 fn) ∧ w'.cell? ⟨w.heap.size, 4, none⟩ = some (.int .i64 fd) ∧
      w'.cell? ⟨w.heap.size, 5, none⟩ = some (.int .i64 lo) ∧ w'.cell? ⟨w.heap.size, 6, none⟩ = some (.int .i64 hi) ∧ WBox w nm dv tn fn fd lo hi w'
section
variable {w w1 w2 : World} {nm : ByteArray} {dv : Int} {tn : ByteArray} {fn fd lo hi : Int}
theorem WBox.held (h : WBox w nm dv tn fn fd lo hi w1) : WHeld w nm dv tn fn fd lo hi w1 :=
  ⟨h.1.cell 0, h.1.cell 1, h.1.cell 2, h.1.cell 3, h.1.cell 4, h.1.cell 5, h.1.cell 6, h⟩
theorem WHeld.below (h : WHeld w nm dv tn fn fd lo hi w1) (hb : Below w1.heap.size w1 w2) : WHeld w nm dv tn fn fd lo hi w2 := by
  obtain ⟨_, _, _, _, _, _, _, h1, h2⟩ := h
  exact WBox.held ⟨h1.keep hb, h2.trans (hb.mono h2.size)⟩
theorem WHeld.drew (h : WHeld w nm dv tn fn fd lo hi w1) : WHeld w nm dv tn fn fd lo hi w1.drew := h.below (bw_drew (Below.refl _ _))
theorem WHeld.box (h : WHeld w nm dv tn fn fd lo hi w1) : WBox w nm dv tn fn fd lo hi w1 := h.2.2.2.2.2.2.2
theorem WHeld.new : WHeld w nm dv tn fn fd lo hi (w.alloc (.cells #[.string nm, .int .i64 dv, .string tn, .int .i64 fn, .int .i64 fd, .int .i64 lo, .int .i64 hi] 51)) :=
  WBox.held ⟨Blk.new, bw_new (Below.refl _ _) _⟩
theorem WHeld.tab (ht : Tab w) (h : WHeld w nm dv tn fn fd lo hi w1) : Tab w1 := ht.below h.box.2
end

set_option maxRecDepth 100000 in
set_option maxHeartbeats 2000000 in
theorem lwshift_any (nm : ByteArray) (dv : Int) (tn : ByteArray) (fn fd lo hi : Int) (w : World) (ht : Tab w) (hp : PR fn fd) :
    Calls Tryz.prog 34 #[.agg #[.string nm, .int .i64 dv, .string tn, .int .i64 fn, .int .i64 fd, .int .i64 lo, .int .i64 hi]] w fun e w' =>
      e = .returned (.int .i64 (shF fn fd)) ∧ Below w.heap.size w w' := by
  have hls := fun W h => l13shift_any fn fd W h hp
  obtain ⟨s, hs⟩ : ∃ s, s = shF fn fd := ⟨_, rfl⟩
  rw [← hs] at hls ⊢
  have HLS := Lib.hid hls
  clear hls hs hp
  go_enter Tryz.func34, Tryz.ntmps34
  go_wp2_with fail
  have hT := WHeld.new (w := w) (nm := nm) (dv := dv) (tn := tn) (fn := fn) (fd := fd) (lo := lo) (hi := hi)
  obtain ⟨W, hW⟩ : ∃ W, W = w.alloc (.cells #[.string nm, .int .i64 dv, .string tn, .int .i64 fn, .int .i64 fd, .int .i64 lo, .int .i64 hi] 51) := ⟨_, rfl⟩
  rw [← hW] at hT ⊢
  have ht0 := ht
  clear hW ht
  go_region_held3 (fun w' => w'.cell? ⟨w.heap.size, 0, none⟩ = some (.string nm) ∧ w'.cell? ⟨w.heap.size, 1, none⟩ = some (.int .i64 dv) ∧ w'.cell? ⟨w.heap.size, 2, none⟩ = some (.string tn) ∧ w'.cell? ⟨w.heap.size, 3, none⟩ = some (.int .i64 fn) ∧ w'.cell? ⟨w.heap.size, 4, none⟩ = some (.int .i64 fd) ∧ w'.cell? ⟨w.heap.size, 5, none⟩ = some (.int .i64 lo) ∧ w'.cell? ⟨w.heap.size, 6, none⟩ = some (.int .i64 hi) ∧ WBox w nm dv tn fn fd lo hi w') (first | assumption | exact WHeld.drew hT | exact WHeld.below (by assumption) hbel)
    (first
     | (go_at_call 17; refine (feet_any _ _).mono ?_; rintro e w' ⟨rfl, hbel⟩)
     | (go_at_call 46; refine (HLS.out _ (WHeld.tab ht0 (by assumption))).mono ?_; rintro e w' ⟨rfl, hbel⟩))
  have hf : WHeld w nm dv tn fn fd lo hi w' := by assumption
  go_wp2
  go_ret
  exact ⟨rfl, hf.box.2⟩

set_option maxRecDepth 100000 in
set_option maxHeartbeats 4000000 in
theorem lheights_any (nm : ByteArray) (dv : Int) (tn : ByteArray) (fn fd lo hi : Int) (w : World) (ht : Tab w) (hr : WR ⟨nm, dv, tn, fn, fd, lo, hi⟩) :
    Calls Tryz.prog 15 #[.agg #[.string nm, .int .i64 dv, .string tn, .int .i64 fn, .int .i64 fd, .int .i64 lo, .int .i64 hi]] w fun e w' =>
      e = .returned (.tuple #[.int .i64 (loH ⟨nm, dv, tn, fn, fd, lo, hi⟩), .int .i64 (hiH ⟨nm, dv, tn, fn, fd, lo, hi⟩)]) ∧ Below w.heap.size w w' := by
  obtain ⟨hpr, hlo, hlh, hhi, _⟩ := hr
  dsimp only at hpr hlo hlh hhi
  have hls := fun W h => lwshift_any nm dv tn fn fd lo hi W h hpr
  have hsb := shF_bd fn fd
  have e1 : loH ⟨nm, dv, tn, fn, fd, lo, hi⟩ = lo + shF fn fd := rfl
  have e2 : hiH ⟨nm, dv, tn, fn, fd, lo, hi⟩ = hi + shF fn fd := rfl
  rw [e1, e2]
  obtain ⟨s, hs⟩ : ∃ s, s = shF fn fd := ⟨_, rfl⟩
  rw [← hs] at hls hsb ⊢
  have HLS := Lib.hid hls
  have hw1 : IntKind.i64.wrap (lo + s) = lo + s := IntWalk.i64_in _ (by omega)
  have hw2 : IntKind.i64.wrap (hi + s) = hi + s := IntWalk.i64_in _ (by omega)
  clear hls hs hpr e1 e2
  go_enter Tryz.func15, Tryz.ntmps15
  go_wp2_with fail
  have hT := WHeld.new (w := w) (nm := nm) (dv := dv) (tn := tn) (fn := fn) (fd := fd) (lo := lo) (hi := hi)
  obtain ⟨W, hW⟩ : ∃ W, W = w.alloc (.cells #[.string nm, .int .i64 dv, .string tn, .int .i64 fn, .int .i64 fd, .int .i64 lo, .int .i64 hi] 51) := ⟨_, rfl⟩
  rw [← hW] at hT ⊢
  have ht0 := ht
  clear hW ht
  go_region_held3 (fun w' => w'.cell? ⟨w.heap.size, 0, none⟩ = some (.string nm) ∧ w'.cell? ⟨w.heap.size, 1, none⟩ = some (.int .i64 dv) ∧ w'.cell? ⟨w.heap.size, 2, none⟩ = some (.string tn) ∧ w'.cell? ⟨w.heap.size, 3, none⟩ = some (.int .i64 fn) ∧ w'.cell? ⟨w.heap.size, 4, none⟩ = some (.int .i64 fd) ∧ w'.cell? ⟨w.heap.size, 5, none⟩ = some (.int .i64 lo) ∧ w'.cell? ⟨w.heap.size, 6, none⟩ = some (.int .i64 hi) ∧ WBox w nm dv tn fn fd lo hi w') (first | assumption | exact WHeld.drew hT | exact WHeld.below (by assumption) hbel)
    ((go_at_call 34; refine (HLS.out _ (WHeld.tab ht0 (by assumption))).mono ?_; rintro e w' ⟨rfl, hbel⟩))
  have hf : WHeld w nm dv tn fn fd lo hi w' := by assumption
  go_wp2
  go_ret2
  exact ⟨rfl, hf.box.2⟩
end

section
open Go.RowKit

theorem los_cons (ws : List Wsh) (i : Int) (r : List Int) : los ws (i :: r) = loH (wat ws i) :: los ws r := rfl
theorem his_cons (ws : List Wsh) (i : Int) (r : List Int) : his ws (i :: r) = hiH (wat ws i) :: his ws r := rfl
theorem mnL_dup (a : Int) (r : List Int) : mnL (a :: a :: r) = mnL (a :: r) := by show r.foldl min (min a a) = r.foldl min a; rw [Int.min_self]
theorem mxL_dup (a : Int) (r : List Int) : mxL (a :: a :: r) = mxL (a :: r) := by show r.foldl max (max a a) = r.foldl max a; rw [Int.max_self]
theorem wat_bd {ws : List Wsh} (hr : ∀ x ∈ ws, WR x) {i : Int} (hi : 0 ≤ i ∧ i < (ws.length : Int)) : (-300 ≤ loH (wat ws i) ∧ loH (wat ws i) ≤ 727) ∧ -300 ≤ hiH (wat ws i) ∧ hiH (wat ws i) ≤ 727 := by
  have h1 := los_bd hr (g := [i]) (fun j hj => by rw [List.mem_singleton] at hj; subst hj; exact hi) (loH (wat ws i)) (by rw [los_cons]; exact List.mem_cons_self)
  have h2 := his_bd hr (g := [i]) (fun j hj => by rw [List.mem_singleton] at hj; subst hj; exact hi) (hiH (wat ws i)) (by rw [his_cons]; exact List.mem_cons_self)
  exact ⟨h1, h2⟩

/-- What region 1 of Cost reads. -/
def CHeld (w : World) (Bd : Nat) (A : Option Addr) (n cap : Nat) (B : Option Addr) (m c2 : Nat) (ws : List Wsh) (rules : List Int) (G : Option Addr) (g : List Int) (b o gb go : Nat) (i : Nat) (x : Wsh) (w' : World) : Prop :=
  w'.cell? ⟨w.heap.size, 0, none⟩ = some (.slice A n cap) ∧ w'.cell? ⟨gb, go, none⟩ = some (.int .i64 (i : Int)) ∧
  w'.cell? ⟨b, o, none⟩ = some (.string x.nm) ∧ w'.cell? ⟨b, o + 1, none⟩ = some (.int .i64 x.dv) ∧ w'.cell? ⟨b, o + 2, none⟩ = some (.string x.tn) ∧
  w'.cell? ⟨b, o + 3, none⟩ = some (.int .i64 x.fn) ∧ w'.cell? ⟨b, o + 4, none⟩ = some (.int .i64 x.fd) ∧ w'.cell? ⟨b, o + 5, none⟩ = some (.int .i64 x.lo) ∧ w'.cell? ⟨b, o + 6, none⟩ = some (.int .i64 x.hi) ∧
  CostRel w Bd A n cap B m c2 ws rules G g w'
section
variable {w w1 w2 : World} {Bd : Nat} {A : Option Addr} {n cap : Nat} {B : Option Addr} {m c2 : Nat} {ws : List Wsh} {rules : List Int} {G : Option Addr} {g : List Int} {b o gb go : Nat} {i : Nat} {x : Wsh}
theorem CHeld.below (h : CHeld w Bd A n cap B m c2 ws rules G g b o gb go i x w1) (hB : Bd ≤ w.heap.size) (hbl : b < Bd) (hgl : gb < Bd) (hb : Below w1.heap.size w1 w2) : CHeld w Bd A n cap B m c2 ws rules G g b o gb go i x w2 := by
  obtain ⟨h0, h1, h2, h3, h4, h5, h6, h7, h8, hc⟩ := h
  have hs := hc.2.2.2.2.1
  have k : ∀ (q j : Nat) (v : Value), q < w1.heap.size → w1.cell? ⟨q, j, none⟩ = some v → w2.cell? ⟨q, j, none⟩ = some v := fun q j v hq hv => (hb.cell (p := ⟨q, j, none⟩) hq).trans hv
  exact ⟨k _ _ _ (by omega) h0, k _ _ _ (by omega) h1, k _ _ _ (by omega) h2, k _ _ _ (by omega) h3, k _ _ _ (by omega) h4, k _ _ _ (by omega) h5, k _ _ _ (by omega) h6, k _ _ _ (by omega) h7, k _ _ _ (by omega) h8, hc.below hB hb⟩
end

set_option maxRecDepth 100000 in
set_option maxHeartbeats 8000000 in
theorem lcost_any (A : Option Addr) (n cap : Nat) (B : Option Addr) (m c2 : Nat) (ws : List Wsh) (rules : List Int) (G : Option Addr) (gn gc : Nat) (g : List Int) (Bd : Nat) (w : World) (hp : Pb w Bd A n cap B m c2 ws rules) (hB : Bd ≤ w.heap.size)
    (hr : ∀ x ∈ ws, WR x) (hg : ∀ i ∈ g, 0 ≤ i ∧ i < (n : Int)) (hgl : g.length = gn) (hgr : Rd i64v w Bd G g) (hgc : gn ≤ gc) (hgm : gc ≤ maxLen) (ht : Tab w) (h0 : 0 < gn) :
    Calls Tryz.prog 16 #[.agg #[.slice A n cap, .slice B m c2], .slice G gn gc] w fun e w' => e = .returned (.int .i64 (costZ ws g)) ∧ Below w.heap.size w w' := by
  have hl := hp.wl
  have hcm := hp.wm
  have hnc := hp.wc
  unfold maxLen at hcm hgm
  have hb0 := bw_new (Below.refl _ w) (.cells #[.slice A n cap, .slice B m c2] 29)
  have hrel : CostRel w Bd A n cap B m c2 ws rules G g (w.alloc (.cells #[.slice A n cap, .slice B m c2] 29)) :=
    ⟨Blk.new (cs := [.slice A n cap, .slice B m c2]), hp.keep hB hb0, hgr.below (hb0.mono hB), hb0, by simp, ht.alloc _⟩
  have HREL := Lib.hid hrel
  have HL := Lib.hid hl
  have HGL := Lib.hid hgl
  have HR := Lib.hid hr
  have HG := Lib.hid hg
  have hltg : 0 < g.length := by rw [hgl]; exact h0
  obtain ⟨g0, hg0⟩ : ∃ g0, g0 = g[0] := ⟨_, rfl⟩
  have hin := hg g[0] (List.getElem_mem hltg)
  rw [← hg0] at hin
  obtain ⟨i, rfl⟩ := Int.eq_ofNat_of_zero_le hin.1
  have HG0 := Lib.hid hg0
  have hin' : i < n := by omega
  have hltw : i < ws.length := by rw [hl]; exact hin'
  obtain ⟨gb, go, rfl, hgb, hgcell⟩ := rd_at hrel.2.2.1 (by omega)
  have hck := hgcell 0 hltg
  rw [← hg0, Nat.add_zero] at hck
  obtain ⟨b, off, rfl, hbd, hcell⟩ := hrel.2.1.wr.at_ (by omega)
  have hat := hcell i hltw
  have hwr := hr ws[i] (List.getElem_mem hltw)
  have HBD := Lib.hid (wat_bd hr (i := (i : Int)) (by rw [hl]; omega))
  have hX : wat ws (i : Int) = ws[i] := wat_eq hltw
  obtain ⟨x, hx⟩ : ∃ x, x = ws[i] := ⟨_, rfl⟩
  rw [← hx] at hat hwr hX
  have hT : CHeld w Bd (some ⟨b, off, none⟩) n cap B m c2 ws rules (some ⟨gb, go, none⟩) g b (off + i * 7) gb go i x (w.alloc (.cells #[.slice (some ⟨b, off, none⟩) n cap, .slice B m c2] 29)) :=
    ⟨hrel.1.two.1, hck, hat.1, hat.2.1, hat.2.2.1, hat.2.2.2.1, hat.2.2.2.2.1, hat.2.2.2.2.2.1, hat.2.2.2.2.2.2, hrel⟩
  have HX := Lib.hid hX
  obtain ⟨nm, dv, tn, fn, fd, lo, hi⟩ := x
  have HH := Lib.hid (fun W h => lheights_any nm dv tn fn fd lo hi W h hwr)
  obtain ⟨l0, hl0⟩ : ∃ l0, l0 = loH ⟨nm, dv, tn, fn, fd, lo, hi⟩ := ⟨_, rfl⟩
  obtain ⟨h1, hh1⟩ : ∃ h1, h1 = hiH ⟨nm, dv, tn, fn, fd, lo, hi⟩ := ⟨_, rfl⟩
  rw [← hl0, ← hh1] at HH
  rw [HX.out, ← hl0, ← hh1] at HBD
  have HL0 := Lib.hid (show l0 = loH (wat ws (i : Int)) by rw [HX.out, hl0])
  have HH1 := Lib.hid (show h1 = hiH (wat ws (i : Int)) by rw [HX.out, hh1])
  clear hp hl hgl hr hg hgr hb0 hrel ht hgcell hck hcell hat hwr hX hx hl0 hh1 hg0 hin
  go_enter Tryz.func16, Tryz.ntmps16
  go_wp2_with fail
  obtain ⟨W, hW⟩ : ∃ W, W = w.alloc (.cells #[.slice (some ⟨b, off, none⟩) n cap, .slice B m c2] 29) := ⟨_, rfl⟩
  rw [← hW] at hT ⊢
  clear hW
  have hTab : ∀ w1, CHeld w Bd (some ⟨b, off, none⟩) n cap B m c2 ws rules (some ⟨gb, go, none⟩) g b (off + i * 7) gb go i ⟨nm, dv, tn, fn, fd, lo, hi⟩ w1 → Tab w1 := fun w1 h => h.2.2.2.2.2.2.2.2.2.2.2.2.2.2
  have hbn1 : (0 : Int) < (gn : Int) := by omega
  have hbn2 : (i : Int) < (n : Int) := by omega
  have hbn3 : (0 : Int) ≤ (i : Int) := by omega
  go_region_held3 (fun w' => w'.cell? ⟨w.heap.size, 0, none⟩ = some (.slice (some ⟨b, off, none⟩) n cap) ∧ w'.cell? ⟨gb, go, none⟩ = some (.int .i64 (i : Int)) ∧
  w'.cell? ⟨b, off + i * 7, none⟩ = some (.string nm) ∧ w'.cell? ⟨b, off + i * 7 + 1, none⟩ = some (.int .i64 dv) ∧ w'.cell? ⟨b, off + i * 7 + 2, none⟩ = some (.string tn) ∧
  w'.cell? ⟨b, off + i * 7 + 3, none⟩ = some (.int .i64 fn) ∧ w'.cell? ⟨b, off + i * 7 + 4, none⟩ = some (.int .i64 fd) ∧ w'.cell? ⟨b, off + i * 7 + 5, none⟩ = some (.int .i64 lo) ∧ w'.cell? ⟨b, off + i * 7 + 6, none⟩ = some (.int .i64 hi) ∧
  CostRel w Bd (some ⟨b, off, none⟩) n cap B m c2 ws rules (some ⟨gb, go, none⟩) g w') (first | assumption | exact CHeld.below hT hB hbd hgb (bw_drew (Below.refl _ _)) | exact CHeld.below (x := ⟨nm, dv, tn, fn, fd, lo, hi⟩) (by assumption) hB hbd hgb hbel)
    ((go_at_call 15; refine (HH.out _ (hTab _ (by assumption))).mono ?_; rintro e w' ⟨rfl, hbel⟩))
  have hHC : CHeld w Bd (some ⟨b, off, none⟩) n cap B m c2 ws rules (some ⟨gb, go, none⟩) g b (off + i * 7) gb go i ⟨nm, dv, tn, fn, fd, lo, hi⟩ w' := by assumption
  have hrel := hHC.2.2.2.2.2.2.2.2.2
  have HREL1 := Lib.hid hrel
  rename_i hHeld
  clear hHeld hHC hbel hT hTab hrel HH HREL HX hbn1 hbn2 hbn3
  obtain ⟨⟨hl1, hl2⟩, hl3, hl4⟩ := HBD.out
  clear HBD
  obtain ⟨x0, hx0⟩ : ∃ x0, x0 = w' := ⟨_, rfl⟩
  rw [← hx0] at HREL1 ⊢
  clear hx0
  go_wp2_with fail
  go_loopw [5, 6, 24] (fun a b' v wr => ∃ k : Nat, k ≤ gn ∧ v = .int .i64 k ∧ a = .int .i64 (mnL (l0 :: los ws (g.take k))) ∧ b' = .int .i64 (mxL (h1 :: his ws (g.take k))) ∧ CostRel w Bd (some ⟨b, off, none⟩) n cap B m c2 ws rules (some ⟨gb, go, none⟩) g wr) (fun _ _ v _ => gn - (intOf v).toNat)
  case atStart => exact ⟨0, by omega, rfl, rfl, rfl, HREL1.out⟩
  case round =>
    obtain ⟨k, hk, rfl, rfl, rfl, hrel⟩ := hrel
    have HRL := Lib.hid hrel
    have hs : w.heap.size + 1 ≤ wr.heap.size := hrel.2.2.2.2.1
    clear hrel
    have hbd2 : ∀ i ∈ g.take k, 0 ≤ i ∧ i < (ws.length : Int) := fun i hi => by rw [HL.out]; exact HG.out i (List.mem_of_mem_take hi)
    have hmn := mnL_bd (a := -300) (b := 727) (l := l0 :: los ws (g.take k)) (by decide) (fun y hy => by
      rcases List.mem_cons.1 hy with rfl | hy
      · omega
      · exact los_bd HR.out hbd2 y hy)
    have hmx := mxL_bd (a := -300) (b := 727) (l := h1 :: his ws (g.take k)) (by decide) (fun y hy => by
      rcases List.mem_cons.1 hy with rfl | hy
      · omega
      · exact his_bd HR.out hbd2 y hy)
    obtain ⟨u, hu⟩ : ∃ u, u = mnL (l0 :: los ws (g.take k)) := ⟨_, rfl⟩
    obtain ⟨v, hv⟩ : ∃ v, v = mxL (h1 :: his ws (g.take k)) := ⟨_, rfl⟩
    rw [← hu] at hmn ⊢
    rw [← hv] at hmx ⊢
    obtain ⟨hu0, hu1⟩ := hmn
    obtain ⟨hv0, hv1⟩ := hmx
    have HU := Lib.hid hu
    have HV := Lib.hid hv
    clear hu hv hbd2
    obtain ⟨p0, p1⟩ := HRL.out.1.two
    by_cases hlt : k < gn
    · have hltk : k < g.length := by rw [HGL.out]; exact hlt
      obtain ⟨gb', go', hge, hgb', hgcell⟩ := rd_at HRL.out.2.2.1 (by omega)
      injection hge with hge
      injection hge with hge1 hge2 _
      subst hge1
      subst hge2
      have hck := hgcell k hltk
      have hin := HG.out g[k] (List.getElem_mem hltk)
      obtain ⟨j, hj⟩ : ∃ j : Nat, (j : Int) = g[k] := ⟨g[k].toNat, by omega⟩
      rw [← hj] at hck hin
      have hjn : j < n := by omega
      have hltj : j < ws.length := by rw [HL.out]; exact hjn
      obtain ⟨b2, off2, hbe, hbd2, hcell⟩ := HRL.out.2.1.wr.at_ (by omega)
      injection hbe with hbe
      injection hbe with hbe1 hbe2 _
      subst hbe1
      subst hbe2
      have hat := hcell j hltj
      have hwr := HR.out ws[j] (List.getElem_mem hltj)
      obtain ⟨hq1, hq2⟩ := wat_bd HR.out (i := (j : Int)) (by rw [HL.out]; omega)
      have hX : wat ws (j : Int) = ws[j] := wat_eq hltj
      obtain ⟨x, hx⟩ : ∃ x, x = ws[j] := ⟨_, rfl⟩
      rw [← hx] at hat hwr hX
      have HJ := Lib.hid hj
      clear hx hcell hgcell hj
      obtain ⟨nm2, dv2, tn2, fn2, fd2, lo2, hi2⟩ := x
      obtain ⟨a0, a1, a2, a3, a4, a5, a6⟩ := hat
      dsimp only at a0 a1 a2 a3 a4 a5 a6
      have HH2 := Lib.hid (fun W h => lheights_any nm2 dv2 tn2 fn2 fd2 lo2 hi2 W h hwr)
      rw [← hX] at HH2
      obtain ⟨l2, hl5⟩ : ∃ l2, l2 = loH (wat ws (j : Int)) := ⟨_, rfl⟩
      obtain ⟨h2, hh5⟩ : ∃ h2, h2 = hiH (wat ws (j : Int)) := ⟨_, rfl⟩
      rw [← hl5, ← hh5] at HH2
      rw [← hl5] at hq1
      rw [← hh5] at hq2
      obtain ⟨hq3, hq4⟩ := hq1
      obtain ⟨hq5, hq6⟩ := hq2
      have HMN := Lib.hid (show min u l2 = mnL (l0 :: los ws (g.take (k + 1))) by rw [take_snoc g k hltk, los_snoc, ← List.cons_append, mnL_snoc _ _ (by simp), ← HU.out, hl5, HJ.out])
      have HMX := Lib.hid (show max v h2 = mxL (h1 :: his ws (g.take (k + 1))) by rw [take_snoc g k hltk, his_snoc, ← List.cons_append, mxL_snoc _ _ (by simp), ← HV.out, hh5, HJ.out])
      have hbw : b < wr.heap.size := by omega
      have hgbw : gb < wr.heap.size := by omega
      clear hwr hX hl5 hh5 hin
      go_wp2_with fail
      refine (HH2.out _ HRL.out.2.2.2.2.2).mono ?_
      rintro e w2 ⟨rfl, hb2⟩
      have HR2 := Lib.hid (HRL.out.below hB hb2)
      clear hb2 a0 a1 a2 a3 a4 a5 a6 hck p0 p1
      go_wp2
      go_roundw
      case rel => exact ⟨k + 1, by omega, by go_num, by rw [HMN.out], by rw [HMX.out], HR2.out⟩
      case measure => simp [intOf]; omega
    · have hkg : k = gn := by omega
      have hgc0 : g = (i : Int) :: g.drop 1 := by
        rw [HG0.out, ← drop_cons g 0 hltg, List.drop_zero]
      have HC := Lib.hid (show v - u + 1 = costZ ws g by
        rw [HU.out, HV.out, List.take_of_length_le (by rw [HGL.out]; omega), hgc0, los_cons, his_cons, ← HL0.out, ← HH1.out, mnL_dup, mxL_dup]
        show _ = mxL (his ws (_ :: _)) - mnL (los ws (_ :: _)) + 1
        rw [los_cons, his_cons, ← HL0.out, ← HH1.out])
      clear hgc0
      go_wp2
      go_ret
      exact ⟨ret_int HC.out, HRL.out.2.2.2.1⟩
end
end Go.Proofs.YtkamepalomkpbaaGreatDoor
