/- Part 26 of 33 of the proof of the law: contracts of the functions that it reaches, and plain facts. Conditions: those that each contract names. -/
import Derived.Test.YtaegjpancbmppaaGreatDoorTabB25
import Derived.Test.YtaegjpancbmppaaGreatDoorTabB03
set_option linter.unusedVariables false
set_option linter.unusedSimpArgs false
namespace Go.Proofs.YtaegjpancbmppaaGreatDoor
open Go.RowKit
def MfPost (l : List Nat) (X : World) (e : Ending) (w' : World) : Prop :=
 ∃ (A' : Option Addr) (cp : Nat), e = .returned (.agg #[.int .i64 (mkF l).k, .int .i64 (mkF l).a, .slice A' (mkF l).l.length cp]) ∧ FsR w' (lowB w'.heap.size) A' (mkF l).l ∧ Below X.heap.size X w'
def MfRel (X : World) (l : List Nat) (s y : Value) (W : World) : Prop :=
 ∃ (i : Nat) (A : Option Addr) (n c : Nat), i ≤ min l.length 30 ∧ y = .int .i64 (i : Int) ∧ s = .slice A n c ∧
  RowF W (X.heap.size + 1) (SoB X.heap.size X.heap.size X.heap.size W.heap.size (.slice A n c)) A n c (mkL l i) ∧ Hp X [(X.heap.size, 53, fcL 0 0 none 0 0)] W
abbrev skS (X : World) (N : Nat) (v : Value) : Nat → Prop := SoB X.heap.size X.heap.size X.heap.size N v
theorem mf_push {X W Wb w4 : World} {A At : Option Addr} {n c g4 c4 ct : Nat} {st : List Fm} {t : Fm} {As : Nat → Option Addr} {cs : Nat → Nat}
  (hp : Hp X [(X.heap.size, 53, fcL 0 0 none 0 0)] W) (hb : Below W.heap.size W Wb) (hown : W.ownsRow (X.heap.size + 1) 53 3 (.slice A n c) n (fcR st As cs n)) (hn : n = st.length)
  (hk : ∀ i (h : i < st.length), FsR W (skS X W.heap.size (.slice A n c)) (As i) (st[i]).l ∧ (st[i]).l.length ≤ cs i) (ht : FsR Wb (skS X Wb.heap.size (.slice A n c)) At t.l) (hct : t.l.length ≤ ct)
  (hown4 : w4.ownsRow (X.heap.size + 1) 53 3 (.slice (some ⟨g4, 0, none⟩) (n + 1) c4) (n + 1) (fcR st As cs n ++ fcL t.k t.a At t.l.length ct)) (hg : Wb.grownBy w4 (Value.slice A n c).ownBlock) (hor : (Value.slice A n c).ownBlock = some g4 ∨ g4 = Wb.heap.size) :
  RowF w4 (X.heap.size + 1) (skS X w4.heap.size (.slice (some ⟨g4, 0, none⟩) (n + 1) c4)) (some ⟨g4, 0, none⟩) (n + 1) c4 (st ++ [t]) ∧ Hp X [(X.heap.size, 53, fcL 0 0 none 0 0)] w4 := by
 have hown' := own_blI hown hb
 have hrow := RowF.snoc hown' hn (S := skS X Wb.heap.size (.slice A n c)) (fun i hi => ⟨((hk i hi).1.keep fun b hs => hb.block b hs.2.1).mono fun b hs => ⟨hs.1, Nat.lt_of_lt_of_le hs.2.1 hb.size, hs.2.2⟩, (hk i hi).2⟩) ht hct hown4 hg (fun b hs => ⟨hs.2.1, hs.2.2.1⟩)
 have hsz : Wb.heap.size ≤ w4.heap.size := hg.size
 refine ⟨hrow.mono fun b hs => ⟨hs.1, Nat.lt_of_lt_of_le hs.2.1 hsz, fun e => ?_, hs.2.2.2⟩, hp_grown hp (by intro p hp; rw [List.mem_singleton] at hp; subst hp; exact Nat.lt_succ_self _) (Nat.le_succ _) hb hown hg⟩
 have e' : b = g4 := by simpa [Value.ownBlock] using e
 rcases hor with h | h
 ·exact hs.2.2.1 (by rw [h, e'])
 ·have := hs.2.1
  omega
theorem news_four {W : World} {o o' o'' : Obj} {cs : List Value} {t : TypeId} : ∀ j u, cs[j]? = some u → ((((W.alloc o).alloc o').alloc o'').alloc (.cells cs.toArray t)).cell? ((⟨W.heap.size + 1 + 1 + 1, 0, none⟩ : Addr).add j) = some u := by
 have := World.news_of_block (cs := cs.toArray) (t := t) (fr := (0, 0)) (heap_alloc_new (((W.alloc o).alloc o').alloc o'') _)
 rw [World.size_alloc, World.size_alloc, World.size_alloc] at this
 simpa using this
theorem fs_oneT {W : World} {S : Nat → Prop} {g c : Nat} {t : Fm} {A : Option Addr} (h : Blk W g 53 (fcL t.k t.a A t.l.length c)) (hS : S g) (hk : FsR W S A t.l) (hc : t.l.length ≤ c) : FsR W S (some ⟨g, 0, none⟩) [t] := by
 refine .mk g 0 [t] (fun _ => A) (fun _ => c) hS (fun i hi => ?_) (fun i hi => ?_)
 ·obtain rfl : i = 0 := by simpa using hi
  exact ⟨h.cell 0, h.cell 1, h.cell 2, hc⟩
 ·obtain rfl : i = 0 := by simpa using hi
  exact hk
theorem fcR_drop (l : List Fm) (As : Nat → Option Addr) (cs : Nat → Nat) (a : Nat) : ∀ b, a + b ≤ l.length → (fcR l As cs (a + b)).drop (a * 3) = fcR (l.drop a) (fun i => As (a + i)) (fun i => cs (a + i)) b
 | 0, _ => by rw [Nat.add_zero, List.drop_of_length_le (by rw [fcR_len]; exact Nat.le_refl _)]; rfl
 | b + 1, h => by
  have e : (l.drop a).getD b default = l.getD (a + b) default := by
   rw [List.getD_eq_getElem?_getD, List.getD_eq_getElem?_getD, List.getElem?_drop]
  rw [show a + (b + 1) = a + b + 1 from rfl, fcR, List.drop_append_of_le_length (by rw [fcR_len]; omega), fcR_drop l As cs a b (by omega), fcR, e]
theorem fcR_one (l : List Fm) (As : Nat → Option Addr) (cs : Nat → Nat) : ∀ n, ∀ u ∈ fcR l As cs n, u.oneCell' = true
 | 0, u, h => by cases h
 | n + 1, u, h => by
  rw [fcR] at h
  rcases List.mem_append.1 h with h | h
  ·exact fcR_one l As cs n u h
  ·simp only [List.mem_cons, List.not_mem_nil, or_false] at h
   rcases h with rfl | rfl | rfl <;> rfl
def MkB (wo : World) (k3 : Int) (W : World) : Prop := Blk W wo.heap.size 53 (fcL k3 0 none 0 0) ∧ Below wo.heap.size wo W
theorem MkB.step {wo W W' : World} {k3 : Int} (h : MkB wo k3 W) (hb : Below W.heap.size W W') : MkB wo k3 W' := ⟨(hb.block _ h.1.lt).trans h.1, h.2.trans (hb.mono h.2.size)⟩
def MkE (X wo : World) (k3 : Int) (st : List Fm) (gs nr cs tk g7 c7 : Nat) (W : World) : Prop :=
 Blk W wo.heap.size 53 (fcL k3 0 (some ⟨g7, 0, none⟩) tk c7) ∧ Below wo.heap.size wo W ∧ FsR W (skS X W.heap.size (.slice (some ⟨gs, 0, none⟩) nr cs)) (some ⟨g7, 0, none⟩) (st.drop nr) ∧ tk ≤ c7
def MkD (X wo : World) (k3 : Int) (st : List Fm) (gs nr cs tk g7 c7 : Nat) (W : World) : Prop :=
 W.cell? ⟨wo.heap.size, 2, none⟩ = some (.slice none 0 0) ∧ W.frozen? ⟨wo.heap.size, 2, none⟩ = false ∧ MkE X wo k3 st gs nr cs tk g7 c7 (W.setCell ⟨wo.heap.size, 2, none⟩ (.slice (some ⟨g7, 0, none⟩) tk c7))
def MkP (X wo : World) (k3 : Int) (st : List Fm) (gs nr cs tk : Nat) (m7 m9 : Bool) (g7 c7 : Nat) (W : World) : Prop :=
 match m7, m9 with
 | false, _ => MkB wo k3 W
 | true, false => MkD X wo k3 st gs nr cs tk g7 c7 W
 | true, true => MkE X wo k3 st gs nr cs tk g7 c7 W
theorem own_short {W : World} {base n c m size : Nat} {e : TypeId} {A : Option Addr} {xs : List Value} (h : W.ownsRow base e size (.slice A n c) n xs) (hm : m ≤ n) : W.ownsRow base e size (.slice A m c) m (xs.take (m * size)) := by
 rcases h with ⟨h1, h2⟩
 rcases h2 with ⟨hv, h0⟩ | ⟨g, cap, cur, hv, hb, hg, hnc, hmx, hs, ht⟩
 ·injection hv with e1 e2 e3
  subst e1
  subst e3
  obtain rfl : m = 0 := by omega
  refine ⟨by simp, .inl ⟨rfl, rfl⟩⟩
 ·injection hv with e1 e2 e3
  subst e1
  subst e3
  refine ⟨?_, .inr ⟨g, c, cur, rfl, hb, hg, by omega, hmx, hs, ?_⟩⟩
  ·rw [List.length_take, h1]
   have := Nat.mul_le_mul_right size hm
   omega
  ·rw [← ht, List.take_take]
   congr 1
   have := Nat.mul_le_mul_right size hm
   omega
theorem fcR_take (l : List Fm) (As : Nat → Option Addr) (cs : Nat → Nat) (m : Nat) : ∀ n, m ≤ n → (fcR l As cs n).take (m * 3) = fcR l As cs m
 | 0, h => by obtain rfl : m = 0 := by omega
              rfl
 | n + 1, h => by
  by_cases e : m = n + 1
  ·subst e
   rw [List.take_of_length_le (by rw [fcR_len]; exact Nat.le_refl _)]
  ·rw [fcR, List.take_append_of_le_length (by rw [fcR_len]; omega)]
   exact fcR_take l As cs m n (by omega)
theorem RowF.short {W : World} {base n c m : Nat} {S : Nat → Prop} {A : Option Addr} {l : List Fm} (h : RowF W base S A n c l) (hm : m ≤ n) : RowF W base S A m c (l.take m) := by
 obtain ⟨As, cs, h1, h2, h3⟩ := h
 refine ⟨As, cs, ?_, by rw [List.length_take]; omega, fun i hi => ?_⟩
 ·have := own_short h1 hm
  rw [fcR_take l As cs m n hm] at this
  have e : fcR (l.take m) As cs m = fcR l As cs m := fcR_congr _ _ _ _ _ _ m fun i hi => ⟨by rw [List.getD_eq_getElem?_getD, List.getD_eq_getElem?_getD, List.getElem?_take, if_pos hi], rfl, rfl⟩
  rw [e]
  exact this
 ·rw [List.length_take] at hi
  rw [List.getElem_take]
  exact h3 i (by omega)
set_option maxRecDepth 1000000 in
set_option maxHeartbeats 8000000 in
theorem lmakef_any (l : List Nat) (A : Option Addr) (n c : Nat) (X : World) (hR : Rd u8v X X.heap.size A l) (hn : n = l.length) (hb : ∀ x ∈ l, x < 256) :
  Calls Tryz.prog 34 #[.slice A n c] X (MfPost l X) := by
 have HR := Lib.hid hR
 have HB := Lib.hid hb
 have HN := Lib.hid hn
 have hm0 := (Hp.start X).new 53 (fcL 0 0 none 0 0)
 simp only [List.nil_append] at hm0
 have HM0 := Lib.hid hm0
 obtain ⟨i0, hi0, hz0, hz1, hz2⟩ := info_parts infoFm
 have HI0 := Lib.hid hi0
 have HZ0 := Lib.hid hz0
 have HZ1 := Lib.hid hz1
 have HZ2 := Lib.hid hz2
 clear hR hb hn hm0 hi0 hz0 hz1 hz2
 go_enter Tryz.func34, Tryz.ntmps34
 go_wp2_with fail
 go_loopw [3, 4] (fun s y wr => MfRel X l s y wr) (fun _ y _ => min l.length 30 - (intOf y).toNat)
 case atStart => exact ⟨0, none, 0, 0, Nat.zero_le _, rfl, rfl, RowF.nil _ _ _, HM0.out⟩
 case round =>
  obtain ⟨wo, rfl⟩ : ∃ W, W = wr := ⟨_, rfl⟩
  obtain ⟨i, As, ns, cs, hi, rfl, rfl, hrow, hp⟩ := hrel
  have hi30 : i ≤ 30 := by omega
  have hstk := mkL_ok l i hi30 (by omega)
  have hns : ns = (mkL l i).length := hrow.cap.1
  have hns2 : ns ≤ 60 := by have := hstk.len; omega
  have hcap := hrow.cap.2
  have hxl : X.heap.size < wo.heap.size := (hp.at_ 0 rfl).lt
  have HROW := Lib.hid hrow
  have HP := Lib.hid hp
  have HNS := Lib.hid hns
  clear hrow hp HM0 hstk hns
  by_cases hlt : i < min l.length 30
  ·have hil : i < l.length := by omega
   have hiz : (i : Int) < (n : Int) := by rw [HN.out]; omega
   have hi3 : (i : Int) < 30 := by omega
   obtain ⟨g0, off, hAe, hg0, hc⟩ := (rd_stepB HR.out HP.out.below) (by omega)
   have x0 := hc i hil
   have hbb := HB.out _ (List.getElem_mem hil)
   have hst := mkL_succ hil
   obtain ⟨b, hb⟩ : ∃ b, b = l[i] := ⟨_, rfl⟩
   rw [← hb] at x0 hbb hst
   replace x0 : wo.cell? ⟨g0, off + i, none⟩ = some (.int .u8 (b : Int)) := x0
   subst hAe
   have HST := Lib.hid hst
   have HIL := Lib.hid hlt
   obtain ⟨i2, hi2⟩ : ∃ z : Int, z = (i : Int) + 1 := ⟨_, rfl⟩
   have hwi : IntKind.i64.wrap ((i : Int) + 1) = i2 := by rw [hi2]; exact IntWalk.i64_in _ (by omega)
   have HI2 := Lib.hid hi2
   have hg0' : g0 < wo.heap.size := hg0
   obtain ⟨b8, hb8⟩ : ∃ z, z = b / 8 := ⟨_, rfl⟩
   have hq8 : (b : Int) / 8 = (b8 : Int) := by omega
   have hb8l : b8 ≤ 31 := by omega
   have HB8 := Lib.hid hb8
   clear hc hb hst hlt hi hi2 hil hg0 hb8
   rcases (show b % 8 < 3 ∨ b % 8 = 3 ∨ (b % 8 = 4 ∧ ns = 0) ∨ (b % 8 = 4 ∧ 0 < ns) ∨ (5 ≤ b % 8 ∧ b % 8 ≤ 7) by omega) with h8 | h8 | ⟨h8, h0⟩ | ⟨h8, h0⟩ | h8
   ·have hr8 : (b : Int) % 8 = 0 ∨ (b : Int) % 8 = 1 ∨ (b : Int) % 8 = 2 := by omega
    obtain ⟨v6, hv6⟩ : ∃ z, z = b8 % 6 := ⟨_, rfl⟩
    have hm6 : (b8 : Int) % 6 = (v6 : Int) := by omega
    have HV6 := Lib.hid (show v6 = b / 8 % 6 by rw [hv6, HB8.out])
    have HBB := Lib.hid (bw_new (bw_new (Below.refl wo.heap.size wo) (.cells (fcL 1 (v6 : Int) none 0 0).toArray 53)) (.cells (fcL 1 (v6 : Int) none 0 0).toArray 53))
    obtain ⟨Ac, cc, hown, hnl, hks⟩ := HROW.out
    have HOW := Lib.hid hown
    have HKS := Lib.hid (And.intro hnl hks)
    clear hv6 hown hnl hks
    rcases hr8 with hr8 | hr8 | hr8
    ·go_wp2_with (at_builtin; refine wpList_append_lies _ rfl _ _ 51 rfl (X.heap.size + 1) 53 i0 (.agg #[.int .i64 0, .int .i64 0, .slice none 0 0]) 3 40 Tryz.underlying51 HI0.out HZ0.out HZ1.out HZ2.out rfl (by decide) _ _ _ rfl (own_blI HOW.out HBB.out) ⟨wo.heap.size + 1, 0, none⟩ 1 1 (fcL 1 (v6 : Int) none 0 0) rfl rfl news_two (by simp [Value.oneCell']) (by decide) (by unfold maxLen; omega) (by omega) (by simp; omega) _ rfl ?_)
     intro g4 c4 w4 hown4 hgrow4 hor4 hlt4
     have hst := mf_push HP.out HBB.out HOW.out HKS.out.1 HKS.out.2 (t := Fm.nd 1 (v6 : Int) []) (At := none) (ct := 0) (.nil _) (Nat.le_refl _) hown4 hgrow4 (by rw [World.size_alloc, World.size_alloc]; exact hor4)
     have hms : mkS (mkL l i) b = mkL l i ++ [Fm.nd 1 (v6 : Int) []] := by
      unfold mkS
      rw [if_pos h8, HV6.out]
     rw [← hms, ← HST.out] at hst
     have HNW := Lib.hid hst
     clear hown4 hgrow4 hor4 hlt4 hst hms
     go_wp2_with fail
     go_roundw
     case rel => exact ⟨i + 1, some ⟨g4, 0, none⟩, ns + 1, c4, HIL.out, by rw [HI2.out]; rfl, rfl, HNW.out.1, HNW.out.2⟩
     case measure => have := HIL.out; have := HI2.out; simp only [intOf]; omega
    ·go_wp2_with (at_builtin; refine wpList_append_lies _ rfl _ _ 51 rfl (X.heap.size + 1) 53 i0 (.agg #[.int .i64 0, .int .i64 0, .slice none 0 0]) 3 40 Tryz.underlying51 HI0.out HZ0.out HZ1.out HZ2.out rfl (by decide) _ _ _ rfl (own_blI HOW.out HBB.out) ⟨wo.heap.size + 1, 0, none⟩ 1 1 (fcL 1 (v6 : Int) none 0 0) rfl rfl news_two (by simp [Value.oneCell']) (by decide) (by unfold maxLen; omega) (by omega) (by simp; omega) _ rfl ?_)
     intro g4 c4 w4 hown4 hgrow4 hor4 hlt4
     have hst := mf_push HP.out HBB.out HOW.out HKS.out.1 HKS.out.2 (t := Fm.nd 1 (v6 : Int) []) (At := none) (ct := 0) (.nil _) (Nat.le_refl _) hown4 hgrow4 (by rw [World.size_alloc, World.size_alloc]; exact hor4)
     have hms : mkS (mkL l i) b = mkL l i ++ [Fm.nd 1 (v6 : Int) []] := by
      unfold mkS
      rw [if_pos h8, HV6.out]
     rw [← hms, ← HST.out] at hst
     have HNW := Lib.hid hst
     clear hown4 hgrow4 hor4 hlt4 hst hms
     go_wp2_with fail
     go_roundw
     case rel => exact ⟨i + 1, some ⟨g4, 0, none⟩, ns + 1, c4, HIL.out, by rw [HI2.out]; rfl, rfl, HNW.out.1, HNW.out.2⟩
     case measure => have := HIL.out; have := HI2.out; simp only [intOf]; omega
    ·go_wp2_with (at_builtin; refine wpList_append_lies _ rfl _ _ 51 rfl (X.heap.size + 1) 53 i0 (.agg #[.int .i64 0, .int .i64 0, .slice none 0 0]) 3 40 Tryz.underlying51 HI0.out HZ0.out HZ1.out HZ2.out rfl (by decide) _ _ _ rfl (own_blI HOW.out HBB.out) ⟨wo.heap.size + 1, 0, none⟩ 1 1 (fcL 1 (v6 : Int) none 0 0) rfl rfl news_two (by simp [Value.oneCell']) (by decide) (by unfold maxLen; omega) (by omega) (by simp; omega) _ rfl ?_)
     intro g4 c4 w4 hown4 hgrow4 hor4 hlt4
     have hst := mf_push HP.out HBB.out HOW.out HKS.out.1 HKS.out.2 (t := Fm.nd 1 (v6 : Int) []) (At := none) (ct := 0) (.nil _) (Nat.le_refl _) hown4 hgrow4 (by rw [World.size_alloc, World.size_alloc]; exact hor4)
     have hms : mkS (mkL l i) b = mkL l i ++ [Fm.nd 1 (v6 : Int) []] := by
      unfold mkS
      rw [if_pos h8, HV6.out]
     rw [← hms, ← HST.out] at hst
     have HNW := Lib.hid hst
     clear hown4 hgrow4 hor4 hlt4 hst hms
     go_wp2_with fail
     go_roundw
     case rel => exact ⟨i + 1, some ⟨g4, 0, none⟩, ns + 1, c4, HIL.out, by rw [HI2.out]; rfl, rfl, HNW.out.1, HNW.out.2⟩
     case measure => have := HIL.out; have := HI2.out; simp only [intOf]; omega
   ·have hr8 : (b : Int) % 8 = 3 := by omega
    obtain ⟨v2, hv2⟩ : ∃ z, z = b8 % 2 := ⟨_, rfl⟩
    have hm2 : (b8 : Int) % 2 = (v2 : Int) := by omega
    have hw5 : IntKind.i64.wrap (5 + (v2 : Int)) = ((5 + v2 : Nat) : Int) := by rw [IntWalk.i64_in _ (by omega)]; omega
    have HV2 := Lib.hid (show v2 = b / 8 % 2 by rw [hv2, HB8.out])
    have HBB := Lib.hid (bw_new (bw_new (Below.refl wo.heap.size wo) (.cells (fcL ((5 + v2 : Nat) : Int) 0 none 0 0).toArray 53)) (.cells (fcL ((5 + v2 : Nat) : Int) 0 none 0 0).toArray 53))
    obtain ⟨Ac, cc, hown, hnl, hks⟩ := HROW.out
    have HOW := Lib.hid hown
    have HKS := Lib.hid (And.intro hnl hks)
    obtain ⟨k5, hk5⟩ : ∃ z : Int, z = ((5 + v2 : Nat) : Int) := ⟨_, rfl⟩
    rw [← hk5] at hw5 HBB
    have HK5 := Lib.hid hk5
    clear hv2 hown hnl hks hk5
    go_wp2_with (at_builtin; refine wpList_append_lies _ rfl _ _ 51 rfl (X.heap.size + 1) 53 i0 (.agg #[.int .i64 0, .int .i64 0, .slice none 0 0]) 3 40 Tryz.underlying51 HI0.out HZ0.out HZ1.out HZ2.out rfl (by decide) _ _ _ rfl (own_blI HOW.out HBB.out) ⟨wo.heap.size + 1, 0, none⟩ 1 1 (fcL k5 0 none 0 0) rfl rfl news_two (by simp [Value.oneCell']) (by decide) (by unfold maxLen; omega) (by omega) (by simp; omega) _ rfl ?_)
    intro g4 c4 w4 hown4 hgrow4 hor4 hlt4
    have hst := mf_push HP.out HBB.out HOW.out HKS.out.1 HKS.out.2 (t := Fm.nd k5 0 []) (At := none) (ct := 0) (.nil _) (Nat.le_refl _) hown4 hgrow4 (by rw [World.size_alloc, World.size_alloc]; exact hor4)
    have hms : mkS (mkL l i) b = mkL l i ++ [Fm.nd k5 0 []] := by
     unfold mkS
     rw [if_neg (by omega), if_pos h8, HK5.out, HV2.out]
    rw [← hms, ← HST.out] at hst
    have HNW := Lib.hid hst
    clear hown4 hgrow4 hor4 hlt4 hst hms
    go_wp2_with fail
    go_roundw
    case rel => exact ⟨i + 1, some ⟨g4, 0, none⟩, ns + 1, c4, HIL.out, by rw [HI2.out]; rfl, rfl, HNW.out.1, HNW.out.2⟩
    case measure => have := HIL.out; have := HI2.out; simp only [intOf]; omega
   ·have hr8 : (b : Int) % 8 = 4 := by omega
    have hn0 : decide ((0 : Int) < (ns : Int)) = false := decide_eq_false (by omega)
    have hn1 : decide (0 < ns) = false := decide_eq_false (by omega)
    have H0 := Lib.hid h0
    clear h0
    obtain ⟨v6, hv6⟩ : ∃ z, z = b8 % 6 := ⟨_, rfl⟩
    have hm6 : (b8 : Int) % 6 = (v6 : Int) := by omega
    have HV6 := Lib.hid (show v6 = b / 8 % 6 by rw [hv6, HB8.out])
    have hh := (((Hp.start wo).new 53 (fcL 2 0 (some ⟨wo.heap.size + 1, 0, none⟩) 1 1)).new 53 (fcL 1 (v6 : Int) none 0 0)).alloc (.cells (fcL 2 0 (some ⟨wo.heap.size + 1, 0, none⟩) 1 1).toArray 53)
    simp only [World.size_alloc, List.nil_append, List.cons_append] at hh
    have HBB := Lib.hid (bw_new (bw_new (bw_new (Below.refl wo.heap.size wo) (.cells (fcL 2 0 (some ⟨wo.heap.size + 1, 0, none⟩) 1 1).toArray 53)) (.cells (fcL 1 (v6 : Int) none 0 0).toArray 53)) (.cells (fcL 2 0 (some ⟨wo.heap.size + 1, 0, none⟩) 1 1).toArray 53))
    obtain ⟨Ac, cc, hown, hnl, hks⟩ := HROW.out
    have HNT := Lib.hid (fs_one (S := skS X (((wo.alloc (.cells (fcL 2 0 (some ⟨wo.heap.size + 1, 0, none⟩) 1 1).toArray 53)).alloc (.cells (fcL 1 (v6 : Int) none 0 0).toArray 53)).alloc (.cells (fcL 2 0 (some ⟨wo.heap.size + 1, 0, none⟩) 1 1).toArray 53)).heap.size (.slice As ns cs)) (hh.at_ 1 rfl) ⟨by omega, by simp, (fun e => by have := (hown.lt _ e.symm).2; omega), by omega, by omega⟩)
    have HOW := Lib.hid hown
    have HKS := Lib.hid (And.intro hnl hks)
    clear hv6 hown hnl hks hh
    go_wp2_with (at_builtin; refine wpList_append_lies _ rfl _ _ 51 rfl (X.heap.size + 1) 53 i0 (.agg #[.int .i64 0, .int .i64 0, .slice none 0 0]) 3 40 Tryz.underlying51 HI0.out HZ0.out HZ1.out HZ2.out rfl (by decide) _ _ _ rfl (own_blI HOW.out HBB.out) ⟨wo.heap.size + 1 + 1, 0, none⟩ 1 1 (fcL 2 0 (some ⟨wo.heap.size + 1, 0, none⟩) 1 1) rfl rfl news_three (by simp [Value.oneCell']) (by decide) (by unfold maxLen; omega) (by omega) (by simp; omega) _ rfl ?_)
    intro g4 c4 w4 hown4 hgrow4 hor4 hlt4
    have hst := mf_push HP.out HBB.out HOW.out HKS.out.1 HKS.out.2 (t := Fm.nd 2 0 [.nd 1 (v6 : Int) []]) (At := some ⟨wo.heap.size + 1, 0, none⟩) (ct := 1) HNT.out (Nat.le_refl _) hown4 hgrow4 (by rw [World.size_alloc, World.size_alloc, World.size_alloc]; exact hor4)
    have hms : mkS (mkL l i) b = mkL l i ++ [Fm.nd 2 0 [.nd 1 (v6 : Int) []]] := by
     have h0' : (mkL l i).length = 0 := by rw [← HNS.out]; exact H0.out
     unfold mkS
     rw [if_neg (by omega), if_neg (by omega), if_pos ⟨h8, h0'⟩, List.length_eq_zero_iff.1 h0', HV6.out]
     rfl
    rw [← hms, ← HST.out] at hst
    have HNW := Lib.hid hst
    clear hown4 hgrow4 hor4 hlt4 hst hms
    go_wp2_with fail
    go_roundw
    case rel => exact ⟨i + 1, some ⟨g4, 0, none⟩, ns + 1, c4, HIL.out, by rw [HI2.out]; rfl, rfl, HNW.out.1, HNW.out.2⟩
    case measure => have := HIL.out; have := HI2.out; simp only [intOf]; omega
   ·have hr8 : (b : Int) % 8 = 4 := by omega
    have hn0 : decide ((0 : Int) < (ns : Int)) = true := decide_eq_true (by omega)
    have hn1 : decide (0 < ns) = true := decide_eq_true (by omega)
    have hnw : IntKind.i64.wrap ((ns : Int) - 1) = ((ns - 1 : Nat) : Int) := by rw [IntWalk.i64_in _ (by omega)]; omega
    have hnl1 : ns - 1 < ns := by omega
    obtain ⟨v6, hv6⟩ : ∃ z, z = b8 % 6 := ⟨_, rfl⟩
    have hm6 : (b8 : Int) % 6 = (v6 : Int) := by omega
    obtain ⟨Ac, cc, hown, hnl, hks⟩ := HROW.out
    have hil : ns - 1 < (mkL l i).length := by rw [← hnl]; exact hnl1
    obtain ⟨gs, hgs, hgl⟩ : ∃ gs, As = some ⟨gs, 0, none⟩ ∧ gs < wo.heap.size := by
     rcases hown.2 with ⟨hv, h0'⟩ | ⟨g, cap, cur, hv, hb, hg, _⟩
     ·omega
     ·injection hv with e1 _ _
      exact ⟨g, e1, (Array.getElem?_eq_some_iff.1 hg).1⟩
    subst hgs
    have hget : ∀ j, j < 3 → wo.cell? ⟨gs, (ns - 1) * 3 + j, none⟩ = (fcL ((mkL l i).getD (ns - 1) default).k ((mkL l i).getD (ns - 1) default).a (Ac (ns - 1)) ((mkL l i).getD (ns - 1) default).l.length (cc (ns - 1)))[j]? := fun j hj => by
     have h1 := World.ownsRow.cellAt hown ((ns - 1) * 3 + j) (by omega)
     rw [fcR_get _ _ _ ns (ns - 1) j (by omega) hj] at h1
     exact h1
    have y0 := hget 0 (by omega)
    have y1 := hget 1 (by omega)
    have y2 := hget 2 (by omega)
    have hsl : (mkL l i).getD (ns - 1) default = (mkL l i)[ns - 1] := by rw [List.getD_eq_getElem?_getD, List.getElem?_eq_getElem hil]; rfl
    have hkd := hks (ns - 1) hil
    rw [← hsl] at hkd
    obtain ⟨t, ht⟩ : ∃ t, t = (mkL l i).getD (ns - 1) default := ⟨_, rfl⟩
    rw [← ht] at y0 y1 y2 hkd
    replace y0 : wo.cell? ⟨gs, (ns - 1) * 3, none⟩ = some (.int .i64 t.k) := y0
    replace y1 : wo.cell? ⟨gs, (ns - 1) * 3 + 1, none⟩ = some (.int .i64 t.a) := y1
    replace y2 : wo.cell? ⟨gs, (ns - 1) * 3 + 2, none⟩ = some (.slice (Ac (ns - 1)) t.l.length (cc (ns - 1))) := y2
    obtain ⟨tn, htn⟩ : ∃ z, z = t.l.length := ⟨_, rfl⟩
    obtain ⟨tk, htk⟩ : ∃ z, z = t.k := ⟨_, rfl⟩
    obtain ⟨ta, hta⟩ : ∃ z, z = t.a := ⟨_, rfl⟩
    obtain ⟨tA, htA⟩ : ∃ z, z = Ac (ns - 1) := ⟨_, rfl⟩
    obtain ⟨tc, htc⟩ : ∃ z, z = cc (ns - 1) := ⟨_, rfl⟩
    rw [← htk] at y0
    rw [← hta] at y1
    rw [← htA, ← htc, ← htn] at y2
    have HTT := Lib.hid (And.intro htk (And.intro hta (And.intro htA (And.intro htc (And.intro htn ht)))))
    have HKD := Lib.hid hkd
    clear hv6 hown hnl hks hget hil hsl ht htn htk hta htA htc hkd
    have hrs := HROW.out.short (m := ns - 1) (by omega)
    obtain ⟨Ad, cd, hownS, hnlS, hksS⟩ := hrs
    have HOW := Lib.hid hownS
    have HKS := Lib.hid (And.intro hnlS hksS)
    have hh := ((((Hp.start wo).new 53 (fcL 2 0 (some ⟨wo.heap.size + 1 + 1, 0, none⟩) 1 1)).new 53 (fcL 1 (v6 : Int) none 0 0)).new 53 (fcL tk ta tA tn tc)).alloc (.cells (fcL 2 0 (some ⟨wo.heap.size + 1 + 1, 0, none⟩) 1 1).toArray 53)
    simp only [World.size_alloc, List.nil_append, List.cons_append] at hh
    obtain ⟨Wb, hWb⟩ : ∃ Y, Y = ((((wo.alloc (.cells (fcL 2 0 (some ⟨wo.heap.size + 1 + 1, 0, none⟩) 1 1).toArray 53)).alloc (.cells (fcL 1 (v6 : Int) none 0 0).toArray 53)).alloc (.cells (fcL tk ta tA tn tc).toArray 53)).alloc (.cells (fcL 2 0 (some ⟨wo.heap.size + 1 + 1, 0, none⟩) 1 1).toArray 53)) := ⟨_, rfl⟩
    have hbb : Below wo.heap.size wo Wb := by rw [hWb]; exact bw_new (bw_new (bw_new (bw_new (Below.refl wo.heap.size wo) _) _) _) _
    rw [← hWb] at hh
    have hbl := hh.at_ 2 rfl
    rw [HTT.out.1, HTT.out.2.1, HTT.out.2.2.2.2.1] at hbl
    have hne : wo.heap.size + 1 + 1 ≠ gs := by omega
    have hnt := fs_oneT (S := skS X Wb.heap.size (.slice (some ⟨gs, 0, none⟩) (ns - 1) cs)) hbl ⟨by omega, hbl.lt, (fun e => hne (by simpa [Value.ownBlock] using e)), by omega, by omega⟩ (by rw [HTT.out.2.2.1]; exact (HKD.out.1.keep fun b h => hbb.block b h.2.1).mono fun b h => ⟨h.1, Nat.lt_of_lt_of_le h.2.1 hbb.size, h.2.2⟩) (by rw [HTT.out.2.2.2.1]; exact HKD.out.2)
    subst hWb
    have HBB := Lib.hid hbb
    have HNT := Lib.hid hnt
    clear hownS hnlS hksS hh hbb hbl hnt hne
    go_wp2_with (at_builtin; refine wpList_append_lies _ rfl _ _ 51 rfl (X.heap.size + 1) 53 i0 (.agg #[.int .i64 0, .int .i64 0, .slice none 0 0]) 3 40 Tryz.underlying51 HI0.out HZ0.out HZ1.out HZ2.out rfl (by decide) _ _ _ rfl (own_blI HOW.out HBB.out) ⟨wo.heap.size + 1 + 1 + 1, 0, none⟩ 1 1 (fcL 2 0 (some ⟨wo.heap.size + 1 + 1, 0, none⟩) 1 1) rfl rfl news_four (by simp [Value.oneCell']) (by decide) (by unfold maxLen; omega) (by omega) (by simp; omega) _ rfl ?_)
    intro g4 c4 w4 hown4 hgrow4 hor4 hlt4
    have hst := mf_push HP.out HBB.out HOW.out HKS.out.1 HKS.out.2 (t := Fm.nd 2 0 [t]) (At := some ⟨wo.heap.size + 1 + 1, 0, none⟩) (ct := 1) HNT.out (Nat.le_refl _) hown4 hgrow4 (by rw [World.size_alloc, World.size_alloc, World.size_alloc, World.size_alloc]; exact hor4)
    have hms : mkS (mkL l i) b = (mkL l i).take (ns - 1) ++ [Fm.nd 2 0 [t]] := by
     have hT : mkT b ns = 1 := by unfold mkT; rw [if_pos h8]; omega
     have hK : mkK b = 2 := by unfold mkK; rw [if_pos h8]
     have hil : ns - 1 < (mkL l i).length := by rw [← HNS.out]; exact hnl1
     unfold mkS
     rw [if_neg (by omega), if_neg (by omega), if_neg (by rw [← HNS.out]; omega), ← HNS.out, hT, hK, List.drop_eq_getElem_cons hil, List.drop_of_length_le (by rw [← HNS.out]; omega), HTT.out.2.2.2.2.2, List.getD_eq_getElem?_getD, List.getElem?_eq_getElem hil]
     rfl
    rw [← hms, ← HST.out] at hst
    have HNW := Lib.hid hst
    clear hown4 hgrow4 hor4 hlt4 hst hms
    go_wp2_with fail
    go_roundw
    case rel => exact ⟨i + 1, some ⟨g4, 0, none⟩, ns - 1 + 1, c4, HIL.out, by rw [HI2.out]; rfl, rfl, HNW.out.1, HNW.out.2⟩
    case measure => have := HIL.out; have := HI2.out; simp only [intOf]; omega
   ·have hw8 : (b : Int) % 8 = 5 ∨ (b : Int) % 8 = 6 ∨ (b : Int) % 8 = 7 := by omega
    obtain ⟨v2, hv2⟩ : ∃ z, z = b8 % 2 := ⟨_, rfl⟩
    have hm2 : (b8 : Int) % 2 = (v2 : Int) := by omega
    obtain ⟨k3, hk3⟩ : ∃ z : Int, z = ((3 + v2 : Nat) : Int) := ⟨_, rfl⟩
    have hw3 : IntKind.i64.wrap (3 + (v2 : Int)) = k3 := by rw [IntWalk.i64_in _ (by omega)]; omega
    have HV2 := Lib.hid (show k3 = mkK b by unfold mkK; rw [if_neg (by omega), hk3, hv2, HB8.out])
    clear hv2 hk3
    obtain ⟨v4, hv4⟩ : ∃ z, z = b8 / 2 % 4 := ⟨_, rfl⟩
    have hm4 : (b8 : Int) / 2 % 4 = (v4 : Int) := by omega
    obtain ⟨tk, htk⟩ : ∃ z, z = min ns v4 := ⟨_, rfl⟩
    have hmn : min (ns : Int) (v4 : Int) = (tk : Int) := by omega
    have HV4 := Lib.hid (show tk = mkT b ns by unfold mkT; rw [if_neg (by omega), htk, hv4, HB8.out])
    have htl : tk ≤ ns := by omega
    have htl3 : tk ≤ 3 := by omega
    clear hv4 htk
    obtain ⟨nr, hnr⟩ : ∃ z, z = ns - tk := ⟨_, rfl⟩
    have hnw : IntKind.i64.wrap ((ns : Int) - (tk : Int)) = (nr : Int) := by rw [IntWalk.i64_in _ (by omega)]; omega
    have hnr1 : nr ≤ ns := by omega
    by_cases ht0 : tk = 0
    ·subst ht0
     have hnz : nr = ns := by omega
     subst hnz
     have hwz : IntKind.i64.wrap (nr : Int) = (nr : Int) := IntWalk.i64_in _ (by omega)
     clear hnw hnr hnr1 htl htl3
     rcases hw8 with hr8 | hr8 | hr8
     ·go_upto_region 24 with fail
      --Z5
      clear hr8 hm2 hm4 hmn hw3 hq8
      obtain ⟨Az, hAz⟩ : ∃ z, z = if cs = nr then As else Option.map (fun x => x.add (nr * 3)) As := ⟨_, rfl⟩
      have HAZ := Lib.hid hAz
      clear hAz
      refine wp_regionJ 10 #[false, false, false, false, false, false, false, false, false, false] (fun ll aa W => ∃ (m0 m1 m2 m3 m4 m5 m6 m7 m8 m9 : Bool), ll = #[m0, m1, m2, m3, m4, m5, m6, m7, m8, m9] ∧ aa = ({ tmps := #[Value.slice (some { block := g0, off := off }) n c, undef, Value.pointer (some { block := X.heap.size, off := 0 }), Value.slice As nr cs, Value.int IntKind.i64 (i : Int), Value.int IntKind.i64 (b8 : Int), Value.int IntKind.i64 (nr : Int), Value.pointer (some { block := wo.heap.size, off := 0 }), Value.int IntKind.i64 0, Value.int IntKind.i64 (i : Int), Value.slice (some { block := g0, off := off }) n c, Value.int IntKind.i64 (n : Int), Value.bool true, Value.bool true, Value.int IntKind.i64 (i : Int), Value.bool true, Value.bool true, u17, u18, Value.slice (some { block := g0, off := off }) n c, Value.int IntKind.i64 (i : Int), Value.pointer (some { block := g0, off := off + i }), Value.int IntKind.u8 (b : Int), Value.int IntKind.u8 (b8 : Int), Value.int IntKind.i64 (b8 : Int), Value.slice As nr cs, Value.int IntKind.i64 (nr : Int), Value.agg #[Value.int IntKind.i64 0, Value.int IntKind.i64 0, Value.slice none 0 0], Value.slice (some { block := g0, off := off }) n c, Value.int IntKind.i64 (i : Int), Value.pointer (some { block := g0, off := off + i }), Value.int IntKind.u8 (b : Int), Value.int IntKind.u8 ((b : Int) % 8), Value.bool false, Value.bool false, Value.bool false, Value.bool false, u37, u38, u39, Value.bool false, Value.bool false, u42, u43, u44, u45, Value.bool false, Value.bool false, u48, u49, u50, u51, u52, u53, u54, u55, u56, u57, u58, u59, u60, u61, u62, u63, u64, u65, Value.bool true, Value.bool true, u68, u69, Value.int IntKind.i64 (b8 : Int), Value.int IntKind.i64 ((b8 : Int) % 2), Value.int IntKind.i64 k3, Value.agg #[Value.int IntKind.i64 k3, Value.int IntKind.i64 0, Value.slice none 0 0], Value.int IntKind.i64 (nr : Int), Value.int IntKind.i64 (b8 : Int), Value.int IntKind.i64 ((b8 : Int) / 2), Value.int IntKind.i64 ((b8 : Int) / 2 % 4), Value.int IntKind.i64 0, cwX m0 (Value.pointer (some ⟨wo.heap.size, 2, none⟩)) (u79), cwX m1 (Value.slice none 0 0) (u80), cwX m2 (Value.slice As nr cs) (u81), cwX m3 (Value.int IntKind.i64 (nr : Int)) (u82), cwX m4 (Value.int IntKind.i64 0) (u83), cwX m5 (Value.int .i64 (nr : Int)) (u84), cwX m6 (Value.slice Az 0 (cs - nr)) (u85), cwX m7 (Value.slice none 0 0) (u86), cwX m8 (Value.pointer (some ⟨wo.heap.size, 2, none⟩)) (u87), u88, u89, u90, u91, u92, u93, u94, u95, u96, undef, undef, undef, undef, undef, undef, undef, undef], defers := [] } : Act) ∧ (True) ∧ MkB wo k3 W) (by kernel_rfl) (by kernel_rfl) (by kernel_rfl) (by kernel_rfl) ?_ ?_ ?_ ?_
      ·rintro ll aa W ⟨m0, m1, m2, m3, m4, m5, m6, m7, m8, m9, rfl, _⟩
       rfl
      ·exact ⟨false, false, false, false, false, false, false, false, false, false, rfl, rfl, trivial, (MkB.step ⟨heap_alloc_new wo _, bw_new (Below.refl _ _) _⟩ (bw_drew (Below.refl _ _)))⟩
      ·rintro ll aa W i o ⟨m0, m1, m2, m3, m4, m5, m6, m7, m8, m9, rfl, rfl, hi0, hm⟩ ho hun hall K hK
       have hi : i < 10 := (Array.getElem?_eq_some_iff.1 ho).1
       have HM := Lib.hid hm
       have HI := Lib.hid hi0
       clear hm hi0
       rcases (show i = 0 ∨ i = 1 ∨ i = 2 ∨ i = 3 ∨ i = 4 ∨ i = 5 ∨ i = 6 ∨ i = 7 ∨ i = 8 ∨ i = 9 by omega) with rfl | rfl | rfl | rfl | rfl | rfl | rfl | rfl | rfl | rfl
       ·cases ho
        simp at hun; subst hun
        clear hall hi
        go_simp
        exact hK.out _ _ ⟨true, m1, m2, m3, m4, m5, m6, m7, m8, m9, rfl, rfl, trivial, HM.out⟩
       ·cases ho
        cases (getBX hall 0 rfl : m0 = true)
        simp at hun; subst hun
        clear hall hi
        have x2 : W.cell? ⟨wo.heap.size, 2, none⟩ = some (.slice none 0 0) := HM.out.1.cell 2
        go_simp
        exact hK.out _ _ ⟨true, true, m2, m3, m4, m5, m6, m7, m8, m9, rfl, rfl, trivial, HM.out⟩
       ·cases ho
        simp at hun; subst hun
        clear hall hi
        go_simp
        exact hK.out _ _ ⟨m0, m1, true, m3, m4, m5, m6, m7, m8, m9, rfl, rfl, trivial, HM.out⟩
       ·cases ho
        simp at hun; subst hun
        clear hall hi
        go_simp
        exact hK.out _ _ ⟨m0, m1, m2, true, m4, m5, m6, m7, m8, m9, rfl, rfl, trivial, HM.out⟩
       ·cases ho
        simp at hun; subst hun
        clear hall hi
        go_simp
        exact hK.out _ _ ⟨m0, m1, m2, m3, true, m5, m6, m7, m8, m9, rfl, rfl, trivial, HM.out⟩
       ·cases ho
        cases (getBX hall 3 rfl : m3 = true)
        cases (getBX hall 4 rfl : m4 = true)
        simp at hun; subst hun
        clear hall hi
        go_simp
        exact hK.out _ _ ⟨m0, m1, m2, true, true, true, m6, m7, m8, m9, rfl, rfl, trivial, HM.out⟩
       ·cases ho
        cases (getBX hall 2 rfl : m2 = true)
        cases (getBX hall 5 rfl : m5 = true)
        simp at hun; subst hun
        clear hall hi
        go_simp
        have hAz := HAZ.out
        subst hAz
        exact hK.out _ _ ⟨m0, m1, true, m3, m4, true, true, m7, m8, m9, rfl, rfl, trivial, HM.out⟩
       ·cases ho
        cases (getBX hall 1 rfl : m1 = true)
        cases (getBX hall 6 rfl : m6 = true)
        simp at hun; subst hun
        clear hall hi
        cases Az
        all_goals
         go_simp
         exact hK.out _ _ ⟨m0, true, m2, m3, m4, m5, true, true, m8, m9, rfl, rfl, trivial, HM.out⟩
       ·cases ho
        cases (getBX hall 0 rfl : m0 = true)
        cases (getBX hall 1 rfl : m1 = true)
        cases (getBX hall 2 rfl : m2 = true)
        cases (getBX hall 3 rfl : m3 = true)
        cases (getBX hall 4 rfl : m4 = true)
        cases (getBX hall 5 rfl : m5 = true)
        cases (getBX hall 6 rfl : m6 = true)
        cases (getBX hall 7 rfl : m7 = true)
        simp at hun; subst hun
        clear hall hi
        go_simp
        exact hK.out _ _ ⟨true, true, true, true, true, true, true, true, true, m9, rfl, rfl, trivial, HM.out⟩
       ·cases ho
        cases (getBX hall 0 rfl : m0 = true)
        cases (getBX hall 1 rfl : m1 = true)
        cases (getBX hall 2 rfl : m2 = true)
        cases (getBX hall 3 rfl : m3 = true)
        cases (getBX hall 4 rfl : m4 = true)
        cases (getBX hall 5 rfl : m5 = true)
        cases (getBX hall 6 rfl : m6 = true)
        cases (getBX hall 7 rfl : m7 = true)
        cases (getBX hall 8 rfl : m8 = true)
        simp at hun; subst hun
        clear hall hi
        have x2 : W.cell? ⟨wo.heap.size, 2, none⟩ = some (.slice none 0 0) := HM.out.1.cell 2
        have x3 : W.frozen? ⟨wo.heap.size, 2, none⟩ = false := HM.out.1.frozen 2
        have HN' := Lib.hid (show MkB wo k3 (W.setCell ⟨wo.heap.size, 2, none⟩ (.slice none 0 0)) from ⟨HM.out.1.put 2 _, bw_set HM.out.2 (Nat.le_refl _) _⟩)
        go_simp
        exact hK.out _ _ ⟨true, true, true, true, true, true, true, true, true, true, rfl, rfl, trivial, HN'.out⟩
      ·rintro ll aa W ⟨m0, m1, m2, m3, m4, m5, m6, m7, m8, m9, rfl, rfl, _, hm⟩ hall
       cases (hall 0 (by decide) : m0 = true)
       cases (hall 1 (by decide) : m1 = true)
       cases (hall 2 (by decide) : m2 = true)
       cases (hall 3 (by decide) : m3 = true)
       cases (hall 4 (by decide) : m4 = true)
       cases (hall 5 (by decide) : m5 = true)
       cases (hall 6 (by decide) : m6 = true)
       cases (hall 7 (by decide) : m7 = true)
       cases (hall 8 (by decide) : m8 = true)
       cases (hall 9 (by decide) : m9 = true)
       clear hall
       have HMB := Lib.hid hm
       have p0 : W.cell? ⟨wo.heap.size, 0, none⟩ = some (.int .i64 k3) := hm.1.cell 0
       have p1 : W.cell? ⟨wo.heap.size, 1, none⟩ = some (.int .i64 0) := hm.1.cell 1
       have p2 : W.cell? ⟨wo.heap.size, 2, none⟩ = some (.slice none 0 0) := hm.1.cell 2
       have hwl : wo.heap.size < W.heap.size := hm.1.lt
       obtain ⟨Ac, cc, hown, hnl, hks⟩ := HROW.out
       have HOW := Lib.hid hown
       have HKS := Lib.hid (And.intro hnl hks)
       have HBB := Lib.hid (hm.2.trans ((bw_new (Below.refl W.heap.size W) (.cells (fcL k3 0 none 0 0).toArray 53)).mono hm.2.size))
       clear hm hown hnl hks
       dsimp only [cwX, cond_true]
       go_wp2_with (at_builtin; refine wpList_append_lies _ rfl _ _ 51 rfl (X.heap.size + 1) 53 i0 (.agg #[.int .i64 0, .int .i64 0, .slice none 0 0]) 3 40 Tryz.underlying51 HI0.out HZ0.out HZ1.out HZ2.out rfl (by decide) _ _ _ rfl (own_blI HOW.out HBB.out) ⟨W.heap.size, 0, none⟩ 1 1 (fcL k3 0 none 0 0) rfl rfl (World.news_of_block (cs := (fcL k3 0 none 0 0).toArray) (t := 53) (fr := (0, 0)) (heap_alloc_new W _)) (by simp [Value.oneCell']) (by decide) (by unfold maxLen; omega) (by omega) (by simp; omega) _ rfl ?_)
       intro g4 c4 w4 hown4 hgrow4 hor4 hlt4
       have hst := mf_push HP.out HBB.out HOW.out HKS.out.1 HKS.out.2 (t := Fm.nd k3 0 []) (At := none) (ct := 0) (.nil _) (Nat.le_refl _) hown4 hgrow4 (by rw [World.size_alloc]; exact hor4)
       have hms : mkS (mkL l i) b = mkL l i ++ [Fm.nd k3 0 []] := by
        unfold mkS
        rw [if_neg (by omega), if_neg (by omega), if_neg (by omega), ← HNS.out, ← HV4.out, Nat.sub_zero, List.take_of_length_le (by rw [HNS.out]; exact Nat.le_refl _), List.drop_of_length_le (by rw [HNS.out]; exact Nat.le_refl _), HV2.out]
       rw [← hms, ← HST.out] at hst
       have HNW := Lib.hid hst
       clear hown4 hgrow4 hor4 hlt4 hst hms
       go_wp2_with fail
       go_roundw
       case rel => exact ⟨i + 1, some ⟨g4, 0, none⟩, nr + 1, c4, HIL.out, by rw [HI2.out]; rfl, rfl, HNW.out.1, HNW.out.2⟩
       case measure => have := HIL.out; have := HI2.out; simp only [intOf]; omega
     ·go_upto_region 24 with fail
      --Z6
      clear hr8 hm2 hm4 hmn hw3 hq8
      obtain ⟨Az, hAz⟩ : ∃ z, z = if cs = nr then As else Option.map (fun x => x.add (nr * 3)) As := ⟨_, rfl⟩
      have HAZ := Lib.hid hAz
      clear hAz
      refine wp_regionJ 10 #[false, false, false, false, false, false, false, false, false, false] (fun ll aa W => ∃ (m0 m1 m2 m3 m4 m5 m6 m7 m8 m9 : Bool), ll = #[m0, m1, m2, m3, m4, m5, m6, m7, m8, m9] ∧ aa = ({ tmps := #[Value.slice (some { block := g0, off := off }) n c, undef, Value.pointer (some { block := X.heap.size, off := 0 }), Value.slice As nr cs, Value.int IntKind.i64 (i : Int), Value.int IntKind.i64 (b8 : Int), Value.int IntKind.i64 (nr : Int), Value.pointer (some { block := wo.heap.size, off := 0 }), Value.int IntKind.i64 0, Value.int IntKind.i64 (i : Int), Value.slice (some { block := g0, off := off }) n c, Value.int IntKind.i64 (n : Int), Value.bool true, Value.bool true, Value.int IntKind.i64 (i : Int), Value.bool true, Value.bool true, u17, u18, Value.slice (some { block := g0, off := off }) n c, Value.int IntKind.i64 (i : Int), Value.pointer (some { block := g0, off := off + i }), Value.int IntKind.u8 (b : Int), Value.int IntKind.u8 (b8 : Int), Value.int IntKind.i64 (b8 : Int), Value.slice As nr cs, Value.int IntKind.i64 (nr : Int), Value.agg #[Value.int IntKind.i64 0, Value.int IntKind.i64 0, Value.slice none 0 0], Value.slice (some { block := g0, off := off }) n c, Value.int IntKind.i64 (i : Int), Value.pointer (some { block := g0, off := off + i }), Value.int IntKind.u8 (b : Int), Value.int IntKind.u8 ((b : Int) % 8), Value.bool false, Value.bool false, Value.bool false, Value.bool false, u37, u38, u39, Value.bool false, Value.bool false, u42, u43, u44, u45, Value.bool false, Value.bool false, u48, u49, u50, u51, u52, u53, u54, u55, u56, u57, u58, u59, u60, u61, u62, u63, u64, u65, Value.bool true, Value.bool false, Value.bool true, u69, Value.int IntKind.i64 (b8 : Int), Value.int IntKind.i64 ((b8 : Int) % 2), Value.int IntKind.i64 k3, Value.agg #[Value.int IntKind.i64 k3, Value.int IntKind.i64 0, Value.slice none 0 0], Value.int IntKind.i64 (nr : Int), Value.int IntKind.i64 (b8 : Int), Value.int IntKind.i64 ((b8 : Int) / 2), Value.int IntKind.i64 ((b8 : Int) / 2 % 4), Value.int IntKind.i64 0, cwX m0 (Value.pointer (some ⟨wo.heap.size, 2, none⟩)) (u79), cwX m1 (Value.slice none 0 0) (u80), cwX m2 (Value.slice As nr cs) (u81), cwX m3 (Value.int IntKind.i64 (nr : Int)) (u82), cwX m4 (Value.int IntKind.i64 0) (u83), cwX m5 (Value.int .i64 (nr : Int)) (u84), cwX m6 (Value.slice Az 0 (cs - nr)) (u85), cwX m7 (Value.slice none 0 0) (u86), cwX m8 (Value.pointer (some ⟨wo.heap.size, 2, none⟩)) (u87), u88, u89, u90, u91, u92, u93, u94, u95, u96, undef, undef, undef, undef, undef, undef, undef, undef], defers := [] } : Act) ∧ (True) ∧ MkB wo k3 W) (by kernel_rfl) (by kernel_rfl) (by kernel_rfl) (by kernel_rfl) ?_ ?_ ?_ ?_
      ·rintro ll aa W ⟨m0, m1, m2, m3, m4, m5, m6, m7, m8, m9, rfl, _⟩
       rfl
      ·exact ⟨false, false, false, false, false, false, false, false, false, false, rfl, rfl, trivial, (MkB.step ⟨heap_alloc_new wo _, bw_new (Below.refl _ _) _⟩ (bw_drew (Below.refl _ _)))⟩
      ·rintro ll aa W i o ⟨m0, m1, m2, m3, m4, m5, m6, m7, m8, m9, rfl, rfl, hi0, hm⟩ ho hun hall K hK
       have hi : i < 10 := (Array.getElem?_eq_some_iff.1 ho).1
       have HM := Lib.hid hm
       have HI := Lib.hid hi0
       clear hm hi0
       rcases (show i = 0 ∨ i = 1 ∨ i = 2 ∨ i = 3 ∨ i = 4 ∨ i = 5 ∨ i = 6 ∨ i = 7 ∨ i = 8 ∨ i = 9 by omega) with rfl | rfl | rfl | rfl | rfl | rfl | rfl | rfl | rfl | rfl
       ·cases ho
        simp at hun; subst hun
        clear hall hi
        go_simp
        exact hK.out _ _ ⟨true, m1, m2, m3, m4, m5, m6, m7, m8, m9, rfl, rfl, trivial, HM.out⟩
       ·cases ho
        cases (getBX hall 0 rfl : m0 = true)
        simp at hun; subst hun
        clear hall hi
        have x2 : W.cell? ⟨wo.heap.size, 2, none⟩ = some (.slice none 0 0) := HM.out.1.cell 2
        go_simp
        exact hK.out _ _ ⟨true, true, m2, m3, m4, m5, m6, m7, m8, m9, rfl, rfl, trivial, HM.out⟩
       ·cases ho
        simp at hun; subst hun
        clear hall hi
        go_simp
        exact hK.out _ _ ⟨m0, m1, true, m3, m4, m5, m6, m7, m8, m9, rfl, rfl, trivial, HM.out⟩
       ·cases ho
        simp at hun; subst hun
        clear hall hi
        go_simp
        exact hK.out _ _ ⟨m0, m1, m2, true, m4, m5, m6, m7, m8, m9, rfl, rfl, trivial, HM.out⟩
       ·cases ho
        simp at hun; subst hun
        clear hall hi
        go_simp
        exact hK.out _ _ ⟨m0, m1, m2, m3, true, m5, m6, m7, m8, m9, rfl, rfl, trivial, HM.out⟩
       ·cases ho
        cases (getBX hall 3 rfl : m3 = true)
        cases (getBX hall 4 rfl : m4 = true)
        simp at hun; subst hun
        clear hall hi
        go_simp
        exact hK.out _ _ ⟨m0, m1, m2, true, true, true, m6, m7, m8, m9, rfl, rfl, trivial, HM.out⟩
       ·cases ho
        cases (getBX hall 2 rfl : m2 = true)
        cases (getBX hall 5 rfl : m5 = true)
        simp at hun; subst hun
        clear hall hi
        go_simp
        have hAz := HAZ.out
        subst hAz
        exact hK.out _ _ ⟨m0, m1, true, m3, m4, true, true, m7, m8, m9, rfl, rfl, trivial, HM.out⟩
       ·cases ho
        cases (getBX hall 1 rfl : m1 = true)
        cases (getBX hall 6 rfl : m6 = true)
        simp at hun; subst hun
        clear hall hi
        cases Az
        all_goals
         go_simp
         exact hK.out _ _ ⟨m0, true, m2, m3, m4, m5, true, true, m8, m9, rfl, rfl, trivial, HM.out⟩
       ·cases ho
        cases (getBX hall 0 rfl : m0 = true)
        cases (getBX hall 1 rfl : m1 = true)
        cases (getBX hall 2 rfl : m2 = true)
        cases (getBX hall 3 rfl : m3 = true)
        cases (getBX hall 4 rfl : m4 = true)
        cases (getBX hall 5 rfl : m5 = true)
        cases (getBX hall 6 rfl : m6 = true)
        cases (getBX hall 7 rfl : m7 = true)
        simp at hun; subst hun
        clear hall hi
        go_simp
        exact hK.out _ _ ⟨true, true, true, true, true, true, true, true, true, m9, rfl, rfl, trivial, HM.out⟩
       ·cases ho
        cases (getBX hall 0 rfl : m0 = true)
        cases (getBX hall 1 rfl : m1 = true)
        cases (getBX hall 2 rfl : m2 = true)
        cases (getBX hall 3 rfl : m3 = true)
        cases (getBX hall 4 rfl : m4 = true)
        cases (getBX hall 5 rfl : m5 = true)
        cases (getBX hall 6 rfl : m6 = true)
        cases (getBX hall 7 rfl : m7 = true)
        cases (getBX hall 8 rfl : m8 = true)
        simp at hun; subst hun
        clear hall hi
        have x2 : W.cell? ⟨wo.heap.size, 2, none⟩ = some (.slice none 0 0) := HM.out.1.cell 2
        have x3 : W.frozen? ⟨wo.heap.size, 2, none⟩ = false := HM.out.1.frozen 2
        have HN' := Lib.hid (show MkB wo k3 (W.setCell ⟨wo.heap.size, 2, none⟩ (.slice none 0 0)) from ⟨HM.out.1.put 2 _, bw_set HM.out.2 (Nat.le_refl _) _⟩)
        go_simp
        exact hK.out _ _ ⟨true, true, true, true, true, true, true, true, true, true, rfl, rfl, trivial, HN'.out⟩
      ·rintro ll aa W ⟨m0, m1, m2, m3, m4, m5, m6, m7, m8, m9, rfl, rfl, _, hm⟩ hall
       cases (hall 0 (by decide) : m0 = true)
       cases (hall 1 (by decide) : m1 = true)
       cases (hall 2 (by decide) : m2 = true)
       cases (hall 3 (by decide) : m3 = true)
       cases (hall 4 (by decide) : m4 = true)
       cases (hall 5 (by decide) : m5 = true)
       cases (hall 6 (by decide) : m6 = true)
       cases (hall 7 (by decide) : m7 = true)
       cases (hall 8 (by decide) : m8 = true)
       cases (hall 9 (by decide) : m9 = true)
       clear hall
       have HMB := Lib.hid hm
       have p0 : W.cell? ⟨wo.heap.size, 0, none⟩ = some (.int .i64 k3) := hm.1.cell 0
       have p1 : W.cell? ⟨wo.heap.size, 1, none⟩ = some (.int .i64 0) := hm.1.cell 1
       have p2 : W.cell? ⟨wo.heap.size, 2, none⟩ = some (.slice none 0 0) := hm.1.cell 2
       have hwl : wo.heap.size < W.heap.size := hm.1.lt
       obtain ⟨Ac, cc, hown, hnl, hks⟩ := HROW.out
       have HOW := Lib.hid hown
       have HKS := Lib.hid (And.intro hnl hks)
       have HBB := Lib.hid (hm.2.trans ((bw_new (Below.refl W.heap.size W) (.cells (fcL k3 0 none 0 0).toArray 53)).mono hm.2.size))
       clear hm hown hnl hks
       dsimp only [cwX, cond_true]
       go_wp2_with (at_builtin; refine wpList_append_lies _ rfl _ _ 51 rfl (X.heap.size + 1) 53 i0 (.agg #[.int .i64 0, .int .i64 0, .slice none 0 0]) 3 40 Tryz.underlying51 HI0.out HZ0.out HZ1.out HZ2.out rfl (by decide) _ _ _ rfl (own_blI HOW.out HBB.out) ⟨W.heap.size, 0, none⟩ 1 1 (fcL k3 0 none 0 0) rfl rfl (World.news_of_block (cs := (fcL k3 0 none 0 0).toArray) (t := 53) (fr := (0, 0)) (heap_alloc_new W _)) (by simp [Value.oneCell']) (by decide) (by unfold maxLen; omega) (by omega) (by simp; omega) _ rfl ?_)
       intro g4 c4 w4 hown4 hgrow4 hor4 hlt4
       have hst := mf_push HP.out HBB.out HOW.out HKS.out.1 HKS.out.2 (t := Fm.nd k3 0 []) (At := none) (ct := 0) (.nil _) (Nat.le_refl _) hown4 hgrow4 (by rw [World.size_alloc]; exact hor4)
       have hms : mkS (mkL l i) b = mkL l i ++ [Fm.nd k3 0 []] := by
        unfold mkS
        rw [if_neg (by omega), if_neg (by omega), if_neg (by omega), ← HNS.out, ← HV4.out, Nat.sub_zero, List.take_of_length_le (by rw [HNS.out]; exact Nat.le_refl _), List.drop_of_length_le (by rw [HNS.out]; exact Nat.le_refl _), HV2.out]
       rw [← hms, ← HST.out] at hst
       have HNW := Lib.hid hst
       clear hown4 hgrow4 hor4 hlt4 hst hms
       go_wp2_with fail
       go_roundw
       case rel => exact ⟨i + 1, some ⟨g4, 0, none⟩, nr + 1, c4, HIL.out, by rw [HI2.out]; rfl, rfl, HNW.out.1, HNW.out.2⟩
       case measure => have := HIL.out; have := HI2.out; simp only [intOf]; omega
     ·go_upto_region 24 with fail
      --Z7
      clear hr8 hm2 hm4 hmn hw3 hq8
      obtain ⟨Az, hAz⟩ : ∃ z, z = if cs = nr then As else Option.map (fun x => x.add (nr * 3)) As := ⟨_, rfl⟩
      have HAZ := Lib.hid hAz
      clear hAz
      refine wp_regionJ 10 #[false, false, false, false, false, false, false, false, false, false] (fun ll aa W => ∃ (m0 m1 m2 m3 m4 m5 m6 m7 m8 m9 : Bool), ll = #[m0, m1, m2, m3, m4, m5, m6, m7, m8, m9] ∧ aa = ({ tmps := #[Value.slice (some { block := g0, off := off }) n c, undef, Value.pointer (some { block := X.heap.size, off := 0 }), Value.slice As nr cs, Value.int IntKind.i64 (i : Int), Value.int IntKind.i64 (b8 : Int), Value.int IntKind.i64 (nr : Int), Value.pointer (some { block := wo.heap.size, off := 0 }), Value.int IntKind.i64 0, Value.int IntKind.i64 (i : Int), Value.slice (some { block := g0, off := off }) n c, Value.int IntKind.i64 (n : Int), Value.bool true, Value.bool true, Value.int IntKind.i64 (i : Int), Value.bool true, Value.bool true, u17, u18, Value.slice (some { block := g0, off := off }) n c, Value.int IntKind.i64 (i : Int), Value.pointer (some { block := g0, off := off + i }), Value.int IntKind.u8 (b : Int), Value.int IntKind.u8 (b8 : Int), Value.int IntKind.i64 (b8 : Int), Value.slice As nr cs, Value.int IntKind.i64 (nr : Int), Value.agg #[Value.int IntKind.i64 0, Value.int IntKind.i64 0, Value.slice none 0 0], Value.slice (some { block := g0, off := off }) n c, Value.int IntKind.i64 (i : Int), Value.pointer (some { block := g0, off := off + i }), Value.int IntKind.u8 (b : Int), Value.int IntKind.u8 ((b : Int) % 8), Value.bool false, Value.bool false, Value.bool false, Value.bool false, u37, u38, u39, Value.bool false, Value.bool false, u42, u43, u44, u45, Value.bool false, Value.bool false, u48, u49, u50, u51, u52, u53, u54, u55, u56, u57, u58, u59, u60, u61, u62, u63, u64, u65, Value.bool true, Value.bool false, Value.bool false, Value.bool true, Value.int IntKind.i64 (b8 : Int), Value.int IntKind.i64 ((b8 : Int) % 2), Value.int IntKind.i64 k3, Value.agg #[Value.int IntKind.i64 k3, Value.int IntKind.i64 0, Value.slice none 0 0], Value.int IntKind.i64 (nr : Int), Value.int IntKind.i64 (b8 : Int), Value.int IntKind.i64 ((b8 : Int) / 2), Value.int IntKind.i64 ((b8 : Int) / 2 % 4), Value.int IntKind.i64 0, cwX m0 (Value.pointer (some ⟨wo.heap.size, 2, none⟩)) (u79), cwX m1 (Value.slice none 0 0) (u80), cwX m2 (Value.slice As nr cs) (u81), cwX m3 (Value.int IntKind.i64 (nr : Int)) (u82), cwX m4 (Value.int IntKind.i64 0) (u83), cwX m5 (Value.int .i64 (nr : Int)) (u84), cwX m6 (Value.slice Az 0 (cs - nr)) (u85), cwX m7 (Value.slice none 0 0) (u86), cwX m8 (Value.pointer (some ⟨wo.heap.size, 2, none⟩)) (u87), u88, u89, u90, u91, u92, u93, u94, u95, u96, undef, undef, undef, undef, undef, undef, undef, undef], defers := [] } : Act) ∧ (True) ∧ MkB wo k3 W) (by kernel_rfl) (by kernel_rfl) (by kernel_rfl) (by kernel_rfl) ?_ ?_ ?_ ?_
      ·rintro ll aa W ⟨m0, m1, m2, m3, m4, m5, m6, m7, m8, m9, rfl, _⟩
       rfl
      ·exact ⟨false, false, false, false, false, false, false, false, false, false, rfl, rfl, trivial, (MkB.step ⟨heap_alloc_new wo _, bw_new (Below.refl _ _) _⟩ (bw_drew (Below.refl _ _)))⟩
      ·rintro ll aa W i o ⟨m0, m1, m2, m3, m4, m5, m6, m7, m8, m9, rfl, rfl, hi0, hm⟩ ho hun hall K hK
       have hi : i < 10 := (Array.getElem?_eq_some_iff.1 ho).1
       have HM := Lib.hid hm
       have HI := Lib.hid hi0
       clear hm hi0
       rcases (show i = 0 ∨ i = 1 ∨ i = 2 ∨ i = 3 ∨ i = 4 ∨ i = 5 ∨ i = 6 ∨ i = 7 ∨ i = 8 ∨ i = 9 by omega) with rfl | rfl | rfl | rfl | rfl | rfl | rfl | rfl | rfl | rfl
       ·cases ho
        simp at hun; subst hun
        clear hall hi
        go_simp
        exact hK.out _ _ ⟨true, m1, m2, m3, m4, m5, m6, m7, m8, m9, rfl, rfl, trivial, HM.out⟩
       ·cases ho
        cases (getBX hall 0 rfl : m0 = true)
        simp at hun; subst hun
        clear hall hi
        have x2 : W.cell? ⟨wo.heap.size, 2, none⟩ = some (.slice none 0 0) := HM.out.1.cell 2
        go_simp
        exact hK.out _ _ ⟨true, true, m2, m3, m4, m5, m6, m7, m8, m9, rfl, rfl, trivial, HM.out⟩
       ·cases ho
        simp at hun; subst hun
        clear hall hi
        go_simp
        exact hK.out _ _ ⟨m0, m1, true, m3, m4, m5, m6, m7, m8, m9, rfl, rfl, trivial, HM.out⟩
       ·cases ho
        simp at hun; subst hun
        clear hall hi
        go_simp
        exact hK.out _ _ ⟨m0, m1, m2, true, m4, m5, m6, m7, m8, m9, rfl, rfl, trivial, HM.out⟩
       ·cases ho
        simp at hun; subst hun
        clear hall hi
        go_simp
        exact hK.out _ _ ⟨m0, m1, m2, m3, true, m5, m6, m7, m8, m9, rfl, rfl, trivial, HM.out⟩
       ·cases ho
        cases (getBX hall 3 rfl : m3 = true)
        cases (getBX hall 4 rfl : m4 = true)
        simp at hun; subst hun
        clear hall hi
        go_simp
        exact hK.out _ _ ⟨m0, m1, m2, true, true, true, m6, m7, m8, m9, rfl, rfl, trivial, HM.out⟩
       ·cases ho
        cases (getBX hall 2 rfl : m2 = true)
        cases (getBX hall 5 rfl : m5 = true)
        simp at hun; subst hun
        clear hall hi
        go_simp
        have hAz := HAZ.out
        subst hAz
        exact hK.out _ _ ⟨m0, m1, true, m3, m4, true, true, m7, m8, m9, rfl, rfl, trivial, HM.out⟩
       ·cases ho
        cases (getBX hall 1 rfl : m1 = true)
        cases (getBX hall 6 rfl : m6 = true)
        simp at hun; subst hun
        clear hall hi
        cases Az
        all_goals
         go_simp
         exact hK.out _ _ ⟨m0, true, m2, m3, m4, m5, true, true, m8, m9, rfl, rfl, trivial, HM.out⟩
       ·cases ho
        cases (getBX hall 0 rfl : m0 = true)
        cases (getBX hall 1 rfl : m1 = true)
        cases (getBX hall 2 rfl : m2 = true)
        cases (getBX hall 3 rfl : m3 = true)
        cases (getBX hall 4 rfl : m4 = true)
        cases (getBX hall 5 rfl : m5 = true)
        cases (getBX hall 6 rfl : m6 = true)
        cases (getBX hall 7 rfl : m7 = true)
        simp at hun; subst hun
        clear hall hi
        go_simp
        exact hK.out _ _ ⟨true, true, true, true, true, true, true, true, true, m9, rfl, rfl, trivial, HM.out⟩
       ·cases ho
        cases (getBX hall 0 rfl : m0 = true)
        cases (getBX hall 1 rfl : m1 = true)
        cases (getBX hall 2 rfl : m2 = true)
        cases (getBX hall 3 rfl : m3 = true)
        cases (getBX hall 4 rfl : m4 = true)
        cases (getBX hall 5 rfl : m5 = true)
        cases (getBX hall 6 rfl : m6 = true)
        cases (getBX hall 7 rfl : m7 = true)
        cases (getBX hall 8 rfl : m8 = true)
        simp at hun; subst hun
        clear hall hi
        have x2 : W.cell? ⟨wo.heap.size, 2, none⟩ = some (.slice none 0 0) := HM.out.1.cell 2
        have x3 : W.frozen? ⟨wo.heap.size, 2, none⟩ = false := HM.out.1.frozen 2
        have HN' := Lib.hid (show MkB wo k3 (W.setCell ⟨wo.heap.size, 2, none⟩ (.slice none 0 0)) from ⟨HM.out.1.put 2 _, bw_set HM.out.2 (Nat.le_refl _) _⟩)
        go_simp
        exact hK.out _ _ ⟨true, true, true, true, true, true, true, true, true, true, rfl, rfl, trivial, HN'.out⟩
      ·rintro ll aa W ⟨m0, m1, m2, m3, m4, m5, m6, m7, m8, m9, rfl, rfl, _, hm⟩ hall
       cases (hall 0 (by decide) : m0 = true)
       cases (hall 1 (by decide) : m1 = true)
       cases (hall 2 (by decide) : m2 = true)
       cases (hall 3 (by decide) : m3 = true)
       cases (hall 4 (by decide) : m4 = true)
       cases (hall 5 (by decide) : m5 = true)
       cases (hall 6 (by decide) : m6 = true)
       cases (hall 7 (by decide) : m7 = true)
       cases (hall 8 (by decide) : m8 = true)
       cases (hall 9 (by decide) : m9 = true)
       clear hall
       have HMB := Lib.hid hm
       have p0 : W.cell? ⟨wo.heap.size, 0, none⟩ = some (.int .i64 k3) := hm.1.cell 0
       have p1 : W.cell? ⟨wo.heap.size, 1, none⟩ = some (.int .i64 0) := hm.1.cell 1
       have p2 : W.cell? ⟨wo.heap.size, 2, none⟩ = some (.slice none 0 0) := hm.1.cell 2
       have hwl : wo.heap.size < W.heap.size := hm.1.lt
       obtain ⟨Ac, cc, hown, hnl, hks⟩ := HROW.out
       have HOW := Lib.hid hown
       have HKS := Lib.hid (And.intro hnl hks)
       have HBB := Lib.hid (hm.2.trans ((bw_new (Below.refl W.heap.size W) (.cells (fcL k3 0 none 0 0).toArray 53)).mono hm.2.size))
       clear hm hown hnl hks
       dsimp only [cwX, cond_true]
       go_wp2_with (at_builtin; refine wpList_append_lies _ rfl _ _ 51 rfl (X.heap.size + 1) 53 i0 (.agg #[.int .i64 0, .int .i64 0, .slice none 0 0]) 3 40 Tryz.underlying51 HI0.out HZ0.out HZ1.out HZ2.out rfl (by decide) _ _ _ rfl (own_blI HOW.out HBB.out) ⟨W.heap.size, 0, none⟩ 1 1 (fcL k3 0 none 0 0) rfl rfl (World.news_of_block (cs := (fcL k3 0 none 0 0).toArray) (t := 53) (fr := (0, 0)) (heap_alloc_new W _)) (by simp [Value.oneCell']) (by decide) (by unfold maxLen; omega) (by omega) (by simp; omega) _ rfl ?_)
       intro g4 c4 w4 hown4 hgrow4 hor4 hlt4
       have hst := mf_push HP.out HBB.out HOW.out HKS.out.1 HKS.out.2 (t := Fm.nd k3 0 []) (At := none) (ct := 0) (.nil _) (Nat.le_refl _) hown4 hgrow4 (by rw [World.size_alloc]; exact hor4)
       have hms : mkS (mkL l i) b = mkL l i ++ [Fm.nd k3 0 []] := by
        unfold mkS
        rw [if_neg (by omega), if_neg (by omega), if_neg (by omega), ← HNS.out, ← HV4.out, Nat.sub_zero, List.take_of_length_le (by rw [HNS.out]; exact Nat.le_refl _), List.drop_of_length_le (by rw [HNS.out]; exact Nat.le_refl _), HV2.out]
       rw [← hms, ← HST.out] at hst
       have HNW := Lib.hid hst
       clear hown4 hgrow4 hor4 hlt4 hst hms
       go_wp2_with fail
       go_roundw
       case rel => exact ⟨i + 1, some ⟨g4, 0, none⟩, nr + 1, c4, HIL.out, by rw [HI2.out]; rfl, rfl, HNW.out.1, HNW.out.2⟩
       case measure => have := HIL.out; have := HI2.out; simp only [intOf]; omega
    ·obtain ⟨Ac, cc, hown, hnl, hks⟩ := HROW.out
     obtain ⟨gs, hgs, hgl⟩ : ∃ gs, As = some ⟨gs, 0, none⟩ ∧ gs < wo.heap.size := by
      rcases hown.2 with ⟨hv, h0'⟩ | ⟨g, cap, cur, hv, hb, hg, _⟩
      ·omega
      ·injection hv with e1 _ _
       exact ⟨g, e1, (Array.getElem?_eq_some_iff.1 hg).1⟩
     subst hgs
     have HOW0 := Lib.hid hown
     have HKS0 := Lib.hid (And.intro hnl hks)
     have HNR := Lib.hid hnr
     have htp : 0 < tk := by omega
     clear hown hnl hks hnr ht0
     rcases hw8 with hr8 | hr8 | hr8
     ·go_upto_region 24 with fail
      --P5
      clear hr8 hm2 hm4 hmn hw3 hq8
      have hcn : ¬ cs = nr := by have := HNR.out; omega
      have hnt2 : ns - nr = tk := by have := HNR.out; omega
      refine wp_regionJ 10 #[false, false, false, false, false, false, false, false, false, false] (fun ll aa W => ∃ (m0 m1 m2 m3 m4 m5 m6 m7 m8 m9 : Bool) (g7 : Nat) (c7 : Nat), ll = #[m0, m1, m2, m3, m4, m5, m6, m7, m8, m9] ∧ aa = ({ tmps := #[Value.slice (some { block := g0, off := off }) n c, undef, Value.pointer (some { block := X.heap.size, off := 0 }), Value.slice (some { block := gs, off := 0 }) ns cs, Value.int IntKind.i64 (i : Int), Value.int IntKind.i64 (b8 : Int), Value.int IntKind.i64 (ns : Int), Value.pointer (some { block := wo.heap.size, off := 0 }), Value.int IntKind.i64 (tk : Int), Value.int IntKind.i64 (i : Int), Value.slice (some { block := g0, off := off }) n c, Value.int IntKind.i64 (n : Int), Value.bool true, Value.bool true, Value.int IntKind.i64 (i : Int), Value.bool true, Value.bool true, u17, u18, Value.slice (some { block := g0, off := off }) n c, Value.int IntKind.i64 (i : Int), Value.pointer (some { block := g0, off := off + i }), Value.int IntKind.u8 (b : Int), Value.int IntKind.u8 (b8 : Int), Value.int IntKind.i64 (b8 : Int), Value.slice (some { block := gs, off := 0 }) ns cs, Value.int IntKind.i64 (ns : Int), Value.agg #[Value.int IntKind.i64 0, Value.int IntKind.i64 0, Value.slice none 0 0], Value.slice (some { block := g0, off := off }) n c, Value.int IntKind.i64 (i : Int), Value.pointer (some { block := g0, off := off + i }), Value.int IntKind.u8 (b : Int), Value.int IntKind.u8 ((b : Int) % 8), Value.bool false, Value.bool false, Value.bool false, Value.bool false, u37, u38, u39, Value.bool false, Value.bool false, u42, u43, u44, u45, Value.bool false, Value.bool false, u48, u49, u50, u51, u52, u53, u54, u55, u56, u57, u58, u59, u60, u61, u62, u63, u64, u65, Value.bool true, Value.bool true, u68, u69, Value.int IntKind.i64 (b8 : Int), Value.int IntKind.i64 ((b8 : Int) % 2), Value.int IntKind.i64 k3, Value.agg #[Value.int IntKind.i64 k3, Value.int IntKind.i64 0, Value.slice none 0 0], Value.int IntKind.i64 (ns : Int), Value.int IntKind.i64 (b8 : Int), Value.int IntKind.i64 ((b8 : Int) / 2), Value.int IntKind.i64 ((b8 : Int) / 2 % 4), Value.int IntKind.i64 (tk : Int), cwX m0 (Value.pointer (some ⟨wo.heap.size, 2, none⟩)) (u79), cwX m1 (Value.slice none 0 0) (u80), cwX m2 (Value.slice (some { block := gs, off := 0 }) ns cs) (u81), cwX m3 (Value.int IntKind.i64 (ns : Int)) (u82), cwX m4 (Value.int IntKind.i64 (tk : Int)) (u83), cwX m5 (Value.int .i64 (nr : Int)) (u84), cwX m6 (Value.slice (some ⟨gs, nr * 3, none⟩) tk (cs - nr)) (u85), cwX m7 (Value.slice (some ⟨g7, 0, none⟩) tk c7) (u86), cwX m8 (Value.pointer (some ⟨wo.heap.size, 2, none⟩)) (u87), u88, u89, u90, u91, u92, u93, u94, u95, u96, undef, undef, undef, undef, undef, undef, undef, undef], defers := [] } : Act) ∧ ((m9 = true → m7 = true) ∧ (m7 = true → m1 = true)) ∧ MkP X wo k3 (mkL l i) gs nr cs tk m7 m9 g7 c7 W) (by kernel_rfl) (by kernel_rfl) (by kernel_rfl) (by kernel_rfl) ?_ ?_ ?_ ?_
      ·rintro ll aa W ⟨m0, m1, m2, m3, m4, m5, m6, m7, m8, m9, g7, c7, rfl, _⟩
       rfl
      ·exact ⟨false, false, false, false, false, false, false, false, false, false, 0, 0, rfl, rfl, ⟨fun h => absurd h (by simp), fun h => absurd h (by simp)⟩, (MkB.step ⟨heap_alloc_new wo _, bw_new (Below.refl _ _) _⟩ (bw_drew (Below.refl _ _)))⟩
      ·rintro ll aa W i o ⟨m0, m1, m2, m3, m4, m5, m6, m7, m8, m9, g7, c7, rfl, rfl, hi0, hm⟩ ho hun hall K hK
       have hi : i < 10 := (Array.getElem?_eq_some_iff.1 ho).1
       have HM := Lib.hid hm
       have HI := Lib.hid hi0
       clear hm hi0
       rcases (show i = 0 ∨ i = 1 ∨ i = 2 ∨ i = 3 ∨ i = 4 ∨ i = 5 ∨ i = 6 ∨ i = 7 ∨ i = 8 ∨ i = 9 by omega) with rfl | rfl | rfl | rfl | rfl | rfl | rfl | rfl | rfl | rfl
       ·cases ho
        simp at hun; subst hun
        clear hall hi
        go_simp
        exact hK.out _ _ ⟨true, m1, m2, m3, m4, m5, m6, m7, m8, m9, g7, c7, rfl, rfl, by obtain ⟨h0, h1⟩ := HI.out; exact ⟨fun e => by first | rfl | exact h0 e | exact absurd e (by simp), fun e => by first | rfl | exact h1 e | exact absurd e (by simp)⟩, HM.out⟩
       ·cases ho
        cases (getBX hall 0 rfl : m0 = true)
        simp at hun; subst hun
        clear hall hi
        obtain rfl : m7 = false := by
         cases m7
         ·rfl
         ·exact absurd (HI.out.2 rfl) (by simp)
        have x2 : W.cell? ⟨wo.heap.size, 2, none⟩ = some (.slice none 0 0) := HM.out.1.cell 2
        go_simp
        exact hK.out _ _ ⟨true, true, m2, m3, m4, m5, m6, false, m8, m9, g7, c7, rfl, rfl, by obtain ⟨h0, h1⟩ := HI.out; exact ⟨fun e => by first | rfl | exact h0 e | exact absurd e (by simp), fun e => by first | rfl | exact h1 e | exact absurd e (by simp)⟩, HM.out⟩
       ·cases ho
        simp at hun; subst hun
        clear hall hi
        go_simp
        exact hK.out _ _ ⟨m0, m1, true, m3, m4, m5, m6, m7, m8, m9, g7, c7, rfl, rfl, by obtain ⟨h0, h1⟩ := HI.out; exact ⟨fun e => by first | rfl | exact h0 e | exact absurd e (by simp), fun e => by first | rfl | exact h1 e | exact absurd e (by simp)⟩, HM.out⟩
       ·cases ho
        simp at hun; subst hun
        clear hall hi
        go_simp
        exact hK.out _ _ ⟨m0, m1, m2, true, m4, m5, m6, m7, m8, m9, g7, c7, rfl, rfl, by obtain ⟨h0, h1⟩ := HI.out; exact ⟨fun e => by first | rfl | exact h0 e | exact absurd e (by simp), fun e => by first | rfl | exact h1 e | exact absurd e (by simp)⟩, HM.out⟩
       ·cases ho
        simp at hun; subst hun
        clear hall hi
        go_simp
        exact hK.out _ _ ⟨m0, m1, m2, m3, true, m5, m6, m7, m8, m9, g7, c7, rfl, rfl, by obtain ⟨h0, h1⟩ := HI.out; exact ⟨fun e => by first | rfl | exact h0 e | exact absurd e (by simp), fun e => by first | rfl | exact h1 e | exact absurd e (by simp)⟩, HM.out⟩
       ·cases ho
        cases (getBX hall 3 rfl : m3 = true)
        cases (getBX hall 4 rfl : m4 = true)
        simp at hun; subst hun
        clear hall hi
        go_simp
        exact hK.out _ _ ⟨m0, m1, m2, true, true, true, m6, m7, m8, m9, g7, c7, rfl, rfl, by obtain ⟨h0, h1⟩ := HI.out; exact ⟨fun e => by first | rfl | exact h0 e | exact absurd e (by simp), fun e => by first | rfl | exact h1 e | exact absurd e (by simp)⟩, HM.out⟩
       ·cases ho
        cases (getBX hall 2 rfl : m2 = true)
        cases (getBX hall 5 rfl : m5 = true)
        simp at hun; subst hun
        clear hall hi
        go_simp
        exact hK.out _ _ ⟨m0, m1, true, m3, m4, true, true, m7, m8, m9, g7, c7, rfl, rfl, by obtain ⟨h0, h1⟩ := HI.out; exact ⟨fun e => by first | rfl | exact h0 e | exact absurd e (by simp), fun e => by first | rfl | exact h1 e | exact absurd e (by simp)⟩, HM.out⟩
       ·cases ho
        cases (getBX hall 1 rfl : m1 = true)
        cases (getBX hall 6 rfl : m6 = true)
        simp at hun; subst hun
        clear hall hi
        obtain rfl : m9 = false := by
         cases m9
         ·rfl
         ·exact absurd (HI.out.1 rfl) (by simp)
        have hbe := HM.out.2
        have hown7 := own_blI HOW0.out hbe
        have hdl : ((mkL l i).drop nr).length = tk := by rw [List.length_drop, ← HNS.out, HNR.out]; omega
        have hnt : ns = nr + tk := by have := HNR.out; omega
        have hlen : nr + tk ≤ (mkL l i).length := by rw [← HNS.out]; omega
        have hdr := fcR_drop (mkL l i) Ac cc nr tk hlen
        rw [← hnt] at hdr
        refine wp_append_lies W _ _ 51 rfl (wo.heap.size + 1) 53 i0 (.agg #[.int .i64 0, .int .i64 0, .slice none 0 0]) 3 40 Tryz.underlying51 HI0.out HZ0.out HZ1.out HZ2.out rfl (by decide) (.slice none 0 0) 0 [] rfl (World.ownsRow_nil _ _ _ _) ⟨gs, nr * 3, none⟩ tk (cs - nr) (fcR ((mkL l i).drop nr) (fun i => Ac (nr + i)) (fun i => cc (nr + i)) tk) rfl (fcR_len _ _ _ _) (fun j u hj => by
         rw [← hdr, List.getElem?_drop] at hj
         have hjl : nr * 3 + j < (fcR (mkL l i) Ac cc ns).length := by
          rcases Nat.lt_or_ge (nr * 3 + j) (fcR (mkL l i) Ac cc ns).length with h | h
          ·exact h
          ·rw [List.getElem?_eq_none h] at hj; cases hj
         rw [fcR_len] at hjl
         have := World.ownsRow.cellAt hown7 (nr * 3 + j) hjl
         rw [hj] at this
         by_cases hj0 : j = 0
         ·subst hj0; simpa [Addr.add] using this
         ·simpa [Addr.add, hj0] using this) (fcR_one _ _ _ _) htp (by unfold maxLen; omega) (by omega) (HM.out.1.lt) _ rfl ?_
        intro g7' c7' w4 hown4 hgrow4 hor4 hlt4
        have hg7 : g7' = W.heap.size := hor4.resolve_left (fun e => by cases e)
        have hbl4 : Below W.heap.size W w4 := (Below.refl W.heap.size W).grown hgrow4 (Nat.le_refl _) (fun k e => by cases e)
        have hb4 : MkB wo k3 w4 := HM.out.step hbl4
        have hput := hb4.1.put 2 (Value.slice (some ⟨g7', 0, none⟩) tk c7')
        rw [Nat.zero_add] at hown4
        simp only [Nat.zero_add]
        have hfs := FsR.of_own (S := skS X (w4.setCell ⟨wo.heap.size, 2, none⟩ (.slice (some ⟨g7', 0, none⟩) tk c7')).heap.size (.slice (some ⟨gs, 0, none⟩) nr cs)) (own_keep hown4 (w' := w4.setCell ⟨wo.heap.size, 2, none⟩ (.slice (some ⟨g7', 0, none⟩) tk c7')) fun g e => Below.heap_setCell w4 ⟨wo.heap.size, 2, none⟩ _ g (by have := (hown4.lt g e).1; show g ≠ wo.heap.size; omega)) hdl.symm (fun g e => by
         injection e with e; injection e with e _ _
         subst e
         have hwl := HM.out.1.lt
         refine ⟨by omega, by simpa using hlt4, fun e => ?_, by omega, by omega⟩
         have e' : g7' = gs := by simpa [Value.ownBlock] using e
         omega) (fun j hj => by
         have hj2 : nr + j < (mkL l i).length := by rw [List.length_drop] at hj; omega
         obtain ⟨h1, h2⟩ := HKS0.out.2 (nr + j) hj2
         rw [List.getElem_drop]
         refine ⟨(h1.keep fun b hb => ?_).mono fun b hb => ⟨hb.1, ?_, hb.2.2⟩, h2⟩
         ·exact (Below.heap_setCell w4 ⟨wo.heap.size, 2, none⟩ _ b (by have := hb.2.1; show b ≠ wo.heap.size; omega)).trans (hb4.2.block b hb.2.1)
         ·have := hb4.2.size; have h3 := hb.2.1; have h4 : (w4.setCell ⟨wo.heap.size, 2, none⟩ (.slice (some ⟨g7', 0, none⟩) tk c7')).heap.size = w4.heap.size := by simp
          omega)
        have hcap7 : tk ≤ c7' := own_cap hown4
        have HN' := Lib.hid (show MkD X wo k3 (mkL l i) gs nr cs tk g7' c7' w4 from ⟨hb4.1.cell 2, hb4.1.frozen 2, hput, bw_set hb4.2 (Nat.le_refl _) _, hfs, hcap7⟩)
        exact hK.out _ _ ⟨m0, true, m2, m3, m4, m5, true, true, m8, false, g7', c7', rfl, rfl, by obtain ⟨h0, h1⟩ := HI.out; exact ⟨fun e => by first | rfl | exact h0 e | exact absurd e (by simp), fun e => by first | rfl | exact h1 e | exact absurd e (by simp)⟩, HN'.out⟩
       ·cases ho
        cases (getBX hall 0 rfl : m0 = true)
        cases (getBX hall 1 rfl : m1 = true)
        cases (getBX hall 2 rfl : m2 = true)
        cases (getBX hall 3 rfl : m3 = true)
        cases (getBX hall 4 rfl : m4 = true)
        cases (getBX hall 5 rfl : m5 = true)
        cases (getBX hall 6 rfl : m6 = true)
        cases (getBX hall 7 rfl : m7 = true)
        simp at hun; subst hun
        clear hall hi
        go_simp
        exact hK.out _ _ ⟨true, true, true, true, true, true, true, true, true, m9, g7, c7, rfl, rfl, by obtain ⟨h0, h1⟩ := HI.out; exact ⟨fun e => by first | rfl | exact h0 e | exact absurd e (by simp), fun e => by first | rfl | exact h1 e | exact absurd e (by simp)⟩, HM.out⟩
       ·cases ho
        cases (getBX hall 0 rfl : m0 = true)
        cases (getBX hall 1 rfl : m1 = true)
        cases (getBX hall 2 rfl : m2 = true)
        cases (getBX hall 3 rfl : m3 = true)
        cases (getBX hall 4 rfl : m4 = true)
        cases (getBX hall 5 rfl : m5 = true)
        cases (getBX hall 6 rfl : m6 = true)
        cases (getBX hall 7 rfl : m7 = true)
        cases (getBX hall 8 rfl : m8 = true)
        simp at hun; subst hun
        clear hall hi
        obtain ⟨x2, x3, hE⟩ := HM.out
        go_simp
        exact hK.out _ _ ⟨true, true, true, true, true, true, true, true, true, true, g7, c7, rfl, rfl, by obtain ⟨h0, h1⟩ := HI.out; exact ⟨fun e => by first | rfl | exact h0 e | exact absurd e (by simp), fun e => by first | rfl | exact h1 e | exact absurd e (by simp)⟩, hE⟩
      ·rintro ll aa W ⟨m0, m1, m2, m3, m4, m5, m6, m7, m8, m9, g7, c7, rfl, rfl, _, hm⟩ hall
       cases (hall 0 (by decide) : m0 = true)
       cases (hall 1 (by decide) : m1 = true)
       cases (hall 2 (by decide) : m2 = true)
       cases (hall 3 (by decide) : m3 = true)
       cases (hall 4 (by decide) : m4 = true)
       cases (hall 5 (by decide) : m5 = true)
       cases (hall 6 (by decide) : m6 = true)
       cases (hall 7 (by decide) : m7 = true)
       cases (hall 8 (by decide) : m8 = true)
       cases (hall 9 (by decide) : m9 = true)
       clear hall
       have HMB := Lib.hid hm
       have p0 : W.cell? ⟨wo.heap.size, 0, none⟩ = some (.int .i64 k3) := hm.1.cell 0
       have p1 : W.cell? ⟨wo.heap.size, 1, none⟩ = some (.int .i64 0) := hm.1.cell 1
       have p2 : W.cell? ⟨wo.heap.size, 2, none⟩ = some (.slice (some ⟨g7, 0, none⟩) tk c7) := hm.1.cell 2
       have hwl : wo.heap.size < W.heap.size := hm.1.lt
       obtain ⟨Ad, cd, hownS, hnlS, hksS⟩ := HROW.out.short (m := nr) hnr1
       have HOW := Lib.hid hownS
       have HKS := Lib.hid (And.intro hnlS hksS)
       have hbx := bw_new (Below.refl W.heap.size W) (.cells (fcL k3 0 (some ⟨g7, 0, none⟩) tk c7).toArray 53)
       have HBB := Lib.hid (hm.2.1.trans (hbx.mono hm.2.1.size))
       have HNT := Lib.hid ((hm.2.2.1.keep fun b h => hbx.block b h.2.1).mono (S' := skS X (W.alloc (.cells (fcL k3 0 (some ⟨g7, 0, none⟩) tk c7).toArray 53)).heap.size (.slice (some ⟨gs, 0, none⟩) nr cs)) fun b h => ⟨h.1, Nat.lt_of_lt_of_le h.2.1 hbx.size, h.2.2⟩)
       have hdl : ((mkL l i).drop nr).length = tk := by rw [List.length_drop, ← HNS.out, HNR.out]; omega
       have HDL := Lib.hid hdl
       have HC7 := Lib.hid hm.2.2.2
       have hnr60 : nr ≤ 60 := by omega
       clear hm hownS hnlS hksS hbx hdl
       dsimp only [cwX, cond_true]
       go_wp2_with (at_builtin; refine wpList_append_lies _ rfl _ _ 51 rfl (X.heap.size + 1) 53 i0 (.agg #[.int .i64 0, .int .i64 0, .slice none 0 0]) 3 40 Tryz.underlying51 HI0.out HZ0.out HZ1.out HZ2.out rfl (by decide) _ _ _ rfl (own_blI HOW.out HBB.out) ⟨W.heap.size, 0, none⟩ 1 1 (fcL k3 0 (some ⟨g7, 0, none⟩) tk c7) rfl rfl (World.news_of_block (cs := (fcL k3 0 (some ⟨g7, 0, none⟩) tk c7).toArray) (t := 53) (fr := (0, 0)) (heap_alloc_new W _)) (by simp [Value.oneCell']) (by decide) (by unfold maxLen; omega) (by omega) (by simp; omega) _ rfl ?_)
       intro g4 c4 w4 hown4 hgrow4 hor4 hlt4
       have hst := mf_push HP.out HBB.out HOW.out HKS.out.1 HKS.out.2 (t := Fm.nd k3 0 ((mkL l i).drop nr)) (At := some ⟨g7, 0, none⟩) (ct := c7) HNT.out (by show ((mkL l i).drop nr).length ≤ c7; rw [HDL.out]; exact HC7.out) (by show w4.ownsRow _ _ _ _ _ (fcR _ _ _ _ ++ fcL k3 0 _ ((mkL l i).drop nr).length c7); rw [HDL.out]; exact hown4) hgrow4 (by rw [World.size_alloc]; exact hor4)
       have hms : mkS (mkL l i) b = (mkL l i).take nr ++ [Fm.nd k3 0 ((mkL l i).drop nr)] := by
        unfold mkS
        rw [if_neg (by omega), if_neg (by omega), if_neg (by omega), ← HNS.out, ← HV4.out, ← HNR.out, HV2.out]
       rw [← hms, ← HST.out] at hst
       have HNW := Lib.hid hst
       clear hown4 hgrow4 hor4 hlt4 hst hms
       go_wp2_with fail
       go_roundw
       case rel => exact ⟨i + 1, some ⟨g4, 0, none⟩, nr + 1, c4, HIL.out, by rw [HI2.out]; rfl, rfl, HNW.out.1, HNW.out.2⟩
       case measure => have := HIL.out; have := HI2.out; simp only [intOf]; omega
     ·go_upto_region 24 with fail
      --P6
      clear hr8 hm2 hm4 hmn hw3 hq8
      have hcn : ¬ cs = nr := by have := HNR.out; omega
      have hnt2 : ns - nr = tk := by have := HNR.out; omega
      refine wp_regionJ 10 #[false, false, false, false, false, false, false, false, false, false] (fun ll aa W => ∃ (m0 m1 m2 m3 m4 m5 m6 m7 m8 m9 : Bool) (g7 : Nat) (c7 : Nat), ll = #[m0, m1, m2, m3, m4, m5, m6, m7, m8, m9] ∧ aa = ({ tmps := #[Value.slice (some { block := g0, off := off }) n c, undef, Value.pointer (some { block := X.heap.size, off := 0 }), Value.slice (some { block := gs, off := 0 }) ns cs, Value.int IntKind.i64 (i : Int), Value.int IntKind.i64 (b8 : Int), Value.int IntKind.i64 (ns : Int), Value.pointer (some { block := wo.heap.size, off := 0 }), Value.int IntKind.i64 (tk : Int), Value.int IntKind.i64 (i : Int), Value.slice (some { block := g0, off := off }) n c, Value.int IntKind.i64 (n : Int), Value.bool true, Value.bool true, Value.int IntKind.i64 (i : Int), Value.bool true, Value.bool true, u17, u18, Value.slice (some { block := g0, off := off }) n c, Value.int IntKind.i64 (i : Int), Value.pointer (some { block := g0, off := off + i }), Value.int IntKind.u8 (b : Int), Value.int IntKind.u8 (b8 : Int), Value.int IntKind.i64 (b8 : Int), Value.slice (some { block := gs, off := 0 }) ns cs, Value.int IntKind.i64 (ns : Int), Value.agg #[Value.int IntKind.i64 0, Value.int IntKind.i64 0, Value.slice none 0 0], Value.slice (some { block := g0, off := off }) n c, Value.int IntKind.i64 (i : Int), Value.pointer (some { block := g0, off := off + i }), Value.int IntKind.u8 (b : Int), Value.int IntKind.u8 ((b : Int) % 8), Value.bool false, Value.bool false, Value.bool false, Value.bool false, u37, u38, u39, Value.bool false, Value.bool false, u42, u43, u44, u45, Value.bool false, Value.bool false, u48, u49, u50, u51, u52, u53, u54, u55, u56, u57, u58, u59, u60, u61, u62, u63, u64, u65, Value.bool true, Value.bool false, Value.bool true, u69, Value.int IntKind.i64 (b8 : Int), Value.int IntKind.i64 ((b8 : Int) % 2), Value.int IntKind.i64 k3, Value.agg #[Value.int IntKind.i64 k3, Value.int IntKind.i64 0, Value.slice none 0 0], Value.int IntKind.i64 (ns : Int), Value.int IntKind.i64 (b8 : Int), Value.int IntKind.i64 ((b8 : Int) / 2), Value.int IntKind.i64 ((b8 : Int) / 2 % 4), Value.int IntKind.i64 (tk : Int), cwX m0 (Value.pointer (some ⟨wo.heap.size, 2, none⟩)) (u79), cwX m1 (Value.slice none 0 0) (u80), cwX m2 (Value.slice (some { block := gs, off := 0 }) ns cs) (u81), cwX m3 (Value.int IntKind.i64 (ns : Int)) (u82), cwX m4 (Value.int IntKind.i64 (tk : Int)) (u83), cwX m5 (Value.int .i64 (nr : Int)) (u84), cwX m6 (Value.slice (some ⟨gs, nr * 3, none⟩) tk (cs - nr)) (u85), cwX m7 (Value.slice (some ⟨g7, 0, none⟩) tk c7) (u86), cwX m8 (Value.pointer (some ⟨wo.heap.size, 2, none⟩)) (u87), u88, u89, u90, u91, u92, u93, u94, u95, u96, undef, undef, undef, undef, undef, undef, undef, undef], defers := [] } : Act) ∧ ((m9 = true → m7 = true) ∧ (m7 = true → m1 = true)) ∧ MkP X wo k3 (mkL l i) gs nr cs tk m7 m9 g7 c7 W) (by kernel_rfl) (by kernel_rfl) (by kernel_rfl) (by kernel_rfl) ?_ ?_ ?_ ?_
      ·rintro ll aa W ⟨m0, m1, m2, m3, m4, m5, m6, m7, m8, m9, g7, c7, rfl, _⟩
       rfl
      ·exact ⟨false, false, false, false, false, false, false, false, false, false, 0, 0, rfl, rfl, ⟨fun h => absurd h (by simp), fun h => absurd h (by simp)⟩, (MkB.step ⟨heap_alloc_new wo _, bw_new (Below.refl _ _) _⟩ (bw_drew (Below.refl _ _)))⟩
      ·rintro ll aa W i o ⟨m0, m1, m2, m3, m4, m5, m6, m7, m8, m9, g7, c7, rfl, rfl, hi0, hm⟩ ho hun hall K hK
       have hi : i < 10 := (Array.getElem?_eq_some_iff.1 ho).1
       have HM := Lib.hid hm
       have HI := Lib.hid hi0
       clear hm hi0
       rcases (show i = 0 ∨ i = 1 ∨ i = 2 ∨ i = 3 ∨ i = 4 ∨ i = 5 ∨ i = 6 ∨ i = 7 ∨ i = 8 ∨ i = 9 by omega) with rfl | rfl | rfl | rfl | rfl | rfl | rfl | rfl | rfl | rfl
       ·cases ho
        simp at hun; subst hun
        clear hall hi
        go_simp
        exact hK.out _ _ ⟨true, m1, m2, m3, m4, m5, m6, m7, m8, m9, g7, c7, rfl, rfl, by obtain ⟨h0, h1⟩ := HI.out; exact ⟨fun e => by first | rfl | exact h0 e | exact absurd e (by simp), fun e => by first | rfl | exact h1 e | exact absurd e (by simp)⟩, HM.out⟩
       ·cases ho
        cases (getBX hall 0 rfl : m0 = true)
        simp at hun; subst hun
        clear hall hi
        obtain rfl : m7 = false := by
         cases m7
         ·rfl
         ·exact absurd (HI.out.2 rfl) (by simp)
        have x2 : W.cell? ⟨wo.heap.size, 2, none⟩ = some (.slice none 0 0) := HM.out.1.cell 2
        go_simp
        exact hK.out _ _ ⟨true, true, m2, m3, m4, m5, m6, false, m8, m9, g7, c7, rfl, rfl, by obtain ⟨h0, h1⟩ := HI.out; exact ⟨fun e => by first | rfl | exact h0 e | exact absurd e (by simp), fun e => by first | rfl | exact h1 e | exact absurd e (by simp)⟩, HM.out⟩
       ·cases ho
        simp at hun; subst hun
        clear hall hi
        go_simp
        exact hK.out _ _ ⟨m0, m1, true, m3, m4, m5, m6, m7, m8, m9, g7, c7, rfl, rfl, by obtain ⟨h0, h1⟩ := HI.out; exact ⟨fun e => by first | rfl | exact h0 e | exact absurd e (by simp), fun e => by first | rfl | exact h1 e | exact absurd e (by simp)⟩, HM.out⟩
       ·cases ho
        simp at hun; subst hun
        clear hall hi
        go_simp
        exact hK.out _ _ ⟨m0, m1, m2, true, m4, m5, m6, m7, m8, m9, g7, c7, rfl, rfl, by obtain ⟨h0, h1⟩ := HI.out; exact ⟨fun e => by first | rfl | exact h0 e | exact absurd e (by simp), fun e => by first | rfl | exact h1 e | exact absurd e (by simp)⟩, HM.out⟩
       ·cases ho
        simp at hun; subst hun
        clear hall hi
        go_simp
        exact hK.out _ _ ⟨m0, m1, m2, m3, true, m5, m6, m7, m8, m9, g7, c7, rfl, rfl, by obtain ⟨h0, h1⟩ := HI.out; exact ⟨fun e => by first | rfl | exact h0 e | exact absurd e (by simp), fun e => by first | rfl | exact h1 e | exact absurd e (by simp)⟩, HM.out⟩
       ·cases ho
        cases (getBX hall 3 rfl : m3 = true)
        cases (getBX hall 4 rfl : m4 = true)
        simp at hun; subst hun
        clear hall hi
        go_simp
        exact hK.out _ _ ⟨m0, m1, m2, true, true, true, m6, m7, m8, m9, g7, c7, rfl, rfl, by obtain ⟨h0, h1⟩ := HI.out; exact ⟨fun e => by first | rfl | exact h0 e | exact absurd e (by simp), fun e => by first | rfl | exact h1 e | exact absurd e (by simp)⟩, HM.out⟩
       ·cases ho
        cases (getBX hall 2 rfl : m2 = true)
        cases (getBX hall 5 rfl : m5 = true)
        simp at hun; subst hun
        clear hall hi
        go_simp
        exact hK.out _ _ ⟨m0, m1, true, m3, m4, true, true, m7, m8, m9, g7, c7, rfl, rfl, by obtain ⟨h0, h1⟩ := HI.out; exact ⟨fun e => by first | rfl | exact h0 e | exact absurd e (by simp), fun e => by first | rfl | exact h1 e | exact absurd e (by simp)⟩, HM.out⟩
       ·cases ho
        cases (getBX hall 1 rfl : m1 = true)
        cases (getBX hall 6 rfl : m6 = true)
        simp at hun; subst hun
        clear hall hi
        obtain rfl : m9 = false := by
         cases m9
         ·rfl
         ·exact absurd (HI.out.1 rfl) (by simp)
        have hbe := HM.out.2
        have hown7 := own_blI HOW0.out hbe
        have hdl : ((mkL l i).drop nr).length = tk := by rw [List.length_drop, ← HNS.out, HNR.out]; omega
        have hnt : ns = nr + tk := by have := HNR.out; omega
        have hlen : nr + tk ≤ (mkL l i).length := by rw [← HNS.out]; omega
        have hdr := fcR_drop (mkL l i) Ac cc nr tk hlen
        rw [← hnt] at hdr
        refine wp_append_lies W _ _ 51 rfl (wo.heap.size + 1) 53 i0 (.agg #[.int .i64 0, .int .i64 0, .slice none 0 0]) 3 40 Tryz.underlying51 HI0.out HZ0.out HZ1.out HZ2.out rfl (by decide) (.slice none 0 0) 0 [] rfl (World.ownsRow_nil _ _ _ _) ⟨gs, nr * 3, none⟩ tk (cs - nr) (fcR ((mkL l i).drop nr) (fun i => Ac (nr + i)) (fun i => cc (nr + i)) tk) rfl (fcR_len _ _ _ _) (fun j u hj => by
         rw [← hdr, List.getElem?_drop] at hj
         have hjl : nr * 3 + j < (fcR (mkL l i) Ac cc ns).length := by
          rcases Nat.lt_or_ge (nr * 3 + j) (fcR (mkL l i) Ac cc ns).length with h | h
          ·exact h
          ·rw [List.getElem?_eq_none h] at hj; cases hj
         rw [fcR_len] at hjl
         have := World.ownsRow.cellAt hown7 (nr * 3 + j) hjl
         rw [hj] at this
         by_cases hj0 : j = 0
         ·subst hj0; simpa [Addr.add] using this
         ·simpa [Addr.add, hj0] using this) (fcR_one _ _ _ _) htp (by unfold maxLen; omega) (by omega) (HM.out.1.lt) _ rfl ?_
        intro g7' c7' w4 hown4 hgrow4 hor4 hlt4
        have hg7 : g7' = W.heap.size := hor4.resolve_left (fun e => by cases e)
        have hbl4 : Below W.heap.size W w4 := (Below.refl W.heap.size W).grown hgrow4 (Nat.le_refl _) (fun k e => by cases e)
        have hb4 : MkB wo k3 w4 := HM.out.step hbl4
        have hput := hb4.1.put 2 (Value.slice (some ⟨g7', 0, none⟩) tk c7')
        rw [Nat.zero_add] at hown4
        simp only [Nat.zero_add]
        have hfs := FsR.of_own (S := skS X (w4.setCell ⟨wo.heap.size, 2, none⟩ (.slice (some ⟨g7', 0, none⟩) tk c7')).heap.size (.slice (some ⟨gs, 0, none⟩) nr cs)) (own_keep hown4 (w' := w4.setCell ⟨wo.heap.size, 2, none⟩ (.slice (some ⟨g7', 0, none⟩) tk c7')) fun g e => Below.heap_setCell w4 ⟨wo.heap.size, 2, none⟩ _ g (by have := (hown4.lt g e).1; show g ≠ wo.heap.size; omega)) hdl.symm (fun g e => by
         injection e with e; injection e with e _ _
         subst e
         have hwl := HM.out.1.lt
         refine ⟨by omega, by simpa using hlt4, fun e => ?_, by omega, by omega⟩
         have e' : g7' = gs := by simpa [Value.ownBlock] using e
         omega) (fun j hj => by
         have hj2 : nr + j < (mkL l i).length := by rw [List.length_drop] at hj; omega
         obtain ⟨h1, h2⟩ := HKS0.out.2 (nr + j) hj2
         rw [List.getElem_drop]
         refine ⟨(h1.keep fun b hb => ?_).mono fun b hb => ⟨hb.1, ?_, hb.2.2⟩, h2⟩
         ·exact (Below.heap_setCell w4 ⟨wo.heap.size, 2, none⟩ _ b (by have := hb.2.1; show b ≠ wo.heap.size; omega)).trans (hb4.2.block b hb.2.1)
         ·have := hb4.2.size; have h3 := hb.2.1; have h4 : (w4.setCell ⟨wo.heap.size, 2, none⟩ (.slice (some ⟨g7', 0, none⟩) tk c7')).heap.size = w4.heap.size := by simp
          omega)
        have hcap7 : tk ≤ c7' := own_cap hown4
        have HN' := Lib.hid (show MkD X wo k3 (mkL l i) gs nr cs tk g7' c7' w4 from ⟨hb4.1.cell 2, hb4.1.frozen 2, hput, bw_set hb4.2 (Nat.le_refl _) _, hfs, hcap7⟩)
        exact hK.out _ _ ⟨m0, true, m2, m3, m4, m5, true, true, m8, false, g7', c7', rfl, rfl, by obtain ⟨h0, h1⟩ := HI.out; exact ⟨fun e => by first | rfl | exact h0 e | exact absurd e (by simp), fun e => by first | rfl | exact h1 e | exact absurd e (by simp)⟩, HN'.out⟩
       ·cases ho
        cases (getBX hall 0 rfl : m0 = true)
        cases (getBX hall 1 rfl : m1 = true)
        cases (getBX hall 2 rfl : m2 = true)
        cases (getBX hall 3 rfl : m3 = true)
        cases (getBX hall 4 rfl : m4 = true)
        cases (getBX hall 5 rfl : m5 = true)
        cases (getBX hall 6 rfl : m6 = true)
        cases (getBX hall 7 rfl : m7 = true)
        simp at hun; subst hun
        clear hall hi
        go_simp
        exact hK.out _ _ ⟨true, true, true, true, true, true, true, true, true, m9, g7, c7, rfl, rfl, by obtain ⟨h0, h1⟩ := HI.out; exact ⟨fun e => by first | rfl | exact h0 e | exact absurd e (by simp), fun e => by first | rfl | exact h1 e | exact absurd e (by simp)⟩, HM.out⟩
       ·cases ho
        cases (getBX hall 0 rfl : m0 = true)
        cases (getBX hall 1 rfl : m1 = true)
        cases (getBX hall 2 rfl : m2 = true)
        cases (getBX hall 3 rfl : m3 = true)
        cases (getBX hall 4 rfl : m4 = true)
        cases (getBX hall 5 rfl : m5 = true)
        cases (getBX hall 6 rfl : m6 = true)
        cases (getBX hall 7 rfl : m7 = true)
        cases (getBX hall 8 rfl : m8 = true)
        simp at hun; subst hun
        clear hall hi
        obtain ⟨x2, x3, hE⟩ := HM.out
        go_simp
        exact hK.out _ _ ⟨true, true, true, true, true, true, true, true, true, true, g7, c7, rfl, rfl, by obtain ⟨h0, h1⟩ := HI.out; exact ⟨fun e => by first | rfl | exact h0 e | exact absurd e (by simp), fun e => by first | rfl | exact h1 e | exact absurd e (by simp)⟩, hE⟩
      ·rintro ll aa W ⟨m0, m1, m2, m3, m4, m5, m6, m7, m8, m9, g7, c7, rfl, rfl, _, hm⟩ hall
       cases (hall 0 (by decide) : m0 = true)
       cases (hall 1 (by decide) : m1 = true)
       cases (hall 2 (by decide) : m2 = true)
       cases (hall 3 (by decide) : m3 = true)
       cases (hall 4 (by decide) : m4 = true)
       cases (hall 5 (by decide) : m5 = true)
       cases (hall 6 (by decide) : m6 = true)
       cases (hall 7 (by decide) : m7 = true)
       cases (hall 8 (by decide) : m8 = true)
       cases (hall 9 (by decide) : m9 = true)
       clear hall
       have HMB := Lib.hid hm
       have p0 : W.cell? ⟨wo.heap.size, 0, none⟩ = some (.int .i64 k3) := hm.1.cell 0
       have p1 : W.cell? ⟨wo.heap.size, 1, none⟩ = some (.int .i64 0) := hm.1.cell 1
       have p2 : W.cell? ⟨wo.heap.size, 2, none⟩ = some (.slice (some ⟨g7, 0, none⟩) tk c7) := hm.1.cell 2
       have hwl : wo.heap.size < W.heap.size := hm.1.lt
       obtain ⟨Ad, cd, hownS, hnlS, hksS⟩ := HROW.out.short (m := nr) hnr1
       have HOW := Lib.hid hownS
       have HKS := Lib.hid (And.intro hnlS hksS)
       have hbx := bw_new (Below.refl W.heap.size W) (.cells (fcL k3 0 (some ⟨g7, 0, none⟩) tk c7).toArray 53)
       have HBB := Lib.hid (hm.2.1.trans (hbx.mono hm.2.1.size))
       have HNT := Lib.hid ((hm.2.2.1.keep fun b h => hbx.block b h.2.1).mono (S' := skS X (W.alloc (.cells (fcL k3 0 (some ⟨g7, 0, none⟩) tk c7).toArray 53)).heap.size (.slice (some ⟨gs, 0, none⟩) nr cs)) fun b h => ⟨h.1, Nat.lt_of_lt_of_le h.2.1 hbx.size, h.2.2⟩)
       have hdl : ((mkL l i).drop nr).length = tk := by rw [List.length_drop, ← HNS.out, HNR.out]; omega
       have HDL := Lib.hid hdl
       have HC7 := Lib.hid hm.2.2.2
       have hnr60 : nr ≤ 60 := by omega
       clear hm hownS hnlS hksS hbx hdl
       dsimp only [cwX, cond_true]
       go_wp2_with (at_builtin; refine wpList_append_lies _ rfl _ _ 51 rfl (X.heap.size + 1) 53 i0 (.agg #[.int .i64 0, .int .i64 0, .slice none 0 0]) 3 40 Tryz.underlying51 HI0.out HZ0.out HZ1.out HZ2.out rfl (by decide) _ _ _ rfl (own_blI HOW.out HBB.out) ⟨W.heap.size, 0, none⟩ 1 1 (fcL k3 0 (some ⟨g7, 0, none⟩) tk c7) rfl rfl (World.news_of_block (cs := (fcL k3 0 (some ⟨g7, 0, none⟩) tk c7).toArray) (t := 53) (fr := (0, 0)) (heap_alloc_new W _)) (by simp [Value.oneCell']) (by decide) (by unfold maxLen; omega) (by omega) (by simp; omega) _ rfl ?_)
       intro g4 c4 w4 hown4 hgrow4 hor4 hlt4
       have hst := mf_push HP.out HBB.out HOW.out HKS.out.1 HKS.out.2 (t := Fm.nd k3 0 ((mkL l i).drop nr)) (At := some ⟨g7, 0, none⟩) (ct := c7) HNT.out (by show ((mkL l i).drop nr).length ≤ c7; rw [HDL.out]; exact HC7.out) (by show w4.ownsRow _ _ _ _ _ (fcR _ _ _ _ ++ fcL k3 0 _ ((mkL l i).drop nr).length c7); rw [HDL.out]; exact hown4) hgrow4 (by rw [World.size_alloc]; exact hor4)
       have hms : mkS (mkL l i) b = (mkL l i).take nr ++ [Fm.nd k3 0 ((mkL l i).drop nr)] := by
        unfold mkS
        rw [if_neg (by omega), if_neg (by omega), if_neg (by omega), ← HNS.out, ← HV4.out, ← HNR.out, HV2.out]
       rw [← hms, ← HST.out] at hst
       have HNW := Lib.hid hst
       clear hown4 hgrow4 hor4 hlt4 hst hms
       go_wp2_with fail
       go_roundw
       case rel => exact ⟨i + 1, some ⟨g4, 0, none⟩, nr + 1, c4, HIL.out, by rw [HI2.out]; rfl, rfl, HNW.out.1, HNW.out.2⟩
       case measure => have := HIL.out; have := HI2.out; simp only [intOf]; omega
     ·go_upto_region 24 with fail
      --P7
      clear hr8 hm2 hm4 hmn hw3 hq8
      have hcn : ¬ cs = nr := by have := HNR.out; omega
      have hnt2 : ns - nr = tk := by have := HNR.out; omega
      refine wp_regionJ 10 #[false, false, false, false, false, false, false, false, false, false] (fun ll aa W => ∃ (m0 m1 m2 m3 m4 m5 m6 m7 m8 m9 : Bool) (g7 : Nat) (c7 : Nat), ll = #[m0, m1, m2, m3, m4, m5, m6, m7, m8, m9] ∧ aa = ({ tmps := #[Value.slice (some { block := g0, off := off }) n c, undef, Value.pointer (some { block := X.heap.size, off := 0 }), Value.slice (some { block := gs, off := 0 }) ns cs, Value.int IntKind.i64 (i : Int), Value.int IntKind.i64 (b8 : Int), Value.int IntKind.i64 (ns : Int), Value.pointer (some { block := wo.heap.size, off := 0 }), Value.int IntKind.i64 (tk : Int), Value.int IntKind.i64 (i : Int), Value.slice (some { block := g0, off := off }) n c, Value.int IntKind.i64 (n : Int), Value.bool true, Value.bool true, Value.int IntKind.i64 (i : Int), Value.bool true, Value.bool true, u17, u18, Value.slice (some { block := g0, off := off }) n c, Value.int IntKind.i64 (i : Int), Value.pointer (some { block := g0, off := off + i }), Value.int IntKind.u8 (b : Int), Value.int IntKind.u8 (b8 : Int), Value.int IntKind.i64 (b8 : Int), Value.slice (some { block := gs, off := 0 }) ns cs, Value.int IntKind.i64 (ns : Int), Value.agg #[Value.int IntKind.i64 0, Value.int IntKind.i64 0, Value.slice none 0 0], Value.slice (some { block := g0, off := off }) n c, Value.int IntKind.i64 (i : Int), Value.pointer (some { block := g0, off := off + i }), Value.int IntKind.u8 (b : Int), Value.int IntKind.u8 ((b : Int) % 8), Value.bool false, Value.bool false, Value.bool false, Value.bool false, u37, u38, u39, Value.bool false, Value.bool false, u42, u43, u44, u45, Value.bool false, Value.bool false, u48, u49, u50, u51, u52, u53, u54, u55, u56, u57, u58, u59, u60, u61, u62, u63, u64, u65, Value.bool true, Value.bool false, Value.bool false, Value.bool true, Value.int IntKind.i64 (b8 : Int), Value.int IntKind.i64 ((b8 : Int) % 2), Value.int IntKind.i64 k3, Value.agg #[Value.int IntKind.i64 k3, Value.int IntKind.i64 0, Value.slice none 0 0], Value.int IntKind.i64 (ns : Int), Value.int IntKind.i64 (b8 : Int), Value.int IntKind.i64 ((b8 : Int) / 2), Value.int IntKind.i64 ((b8 : Int) / 2 % 4), Value.int IntKind.i64 (tk : Int), cwX m0 (Value.pointer (some ⟨wo.heap.size, 2, none⟩)) (u79), cwX m1 (Value.slice none 0 0) (u80), cwX m2 (Value.slice (some { block := gs, off := 0 }) ns cs) (u81), cwX m3 (Value.int IntKind.i64 (ns : Int)) (u82), cwX m4 (Value.int IntKind.i64 (tk : Int)) (u83), cwX m5 (Value.int .i64 (nr : Int)) (u84), cwX m6 (Value.slice (some ⟨gs, nr * 3, none⟩) tk (cs - nr)) (u85), cwX m7 (Value.slice (some ⟨g7, 0, none⟩) tk c7) (u86), cwX m8 (Value.pointer (some ⟨wo.heap.size, 2, none⟩)) (u87), u88, u89, u90, u91, u92, u93, u94, u95, u96, undef, undef, undef, undef, undef, undef, undef, undef], defers := [] } : Act) ∧ ((m9 = true → m7 = true) ∧ (m7 = true → m1 = true)) ∧ MkP X wo k3 (mkL l i) gs nr cs tk m7 m9 g7 c7 W) (by kernel_rfl) (by kernel_rfl) (by kernel_rfl) (by kernel_rfl) ?_ ?_ ?_ ?_
      ·rintro ll aa W ⟨m0, m1, m2, m3, m4, m5, m6, m7, m8, m9, g7, c7, rfl, _⟩
       rfl
      ·exact ⟨false, false, false, false, false, false, false, false, false, false, 0, 0, rfl, rfl, ⟨fun h => absurd h (by simp), fun h => absurd h (by simp)⟩, (MkB.step ⟨heap_alloc_new wo _, bw_new (Below.refl _ _) _⟩ (bw_drew (Below.refl _ _)))⟩
      ·rintro ll aa W i o ⟨m0, m1, m2, m3, m4, m5, m6, m7, m8, m9, g7, c7, rfl, rfl, hi0, hm⟩ ho hun hall K hK
       have hi : i < 10 := (Array.getElem?_eq_some_iff.1 ho).1
       have HM := Lib.hid hm
       have HI := Lib.hid hi0
       clear hm hi0
       rcases (show i = 0 ∨ i = 1 ∨ i = 2 ∨ i = 3 ∨ i = 4 ∨ i = 5 ∨ i = 6 ∨ i = 7 ∨ i = 8 ∨ i = 9 by omega) with rfl | rfl | rfl | rfl | rfl | rfl | rfl | rfl | rfl | rfl
       ·cases ho
        simp at hun; subst hun
        clear hall hi
        go_simp
        exact hK.out _ _ ⟨true, m1, m2, m3, m4, m5, m6, m7, m8, m9, g7, c7, rfl, rfl, by obtain ⟨h0, h1⟩ := HI.out; exact ⟨fun e => by first | rfl | exact h0 e | exact absurd e (by simp), fun e => by first | rfl | exact h1 e | exact absurd e (by simp)⟩, HM.out⟩
       ·cases ho
        cases (getBX hall 0 rfl : m0 = true)
        simp at hun; subst hun
        clear hall hi
        obtain rfl : m7 = false := by
         cases m7
         ·rfl
         ·exact absurd (HI.out.2 rfl) (by simp)
        have x2 : W.cell? ⟨wo.heap.size, 2, none⟩ = some (.slice none 0 0) := HM.out.1.cell 2
        go_simp
        exact hK.out _ _ ⟨true, true, m2, m3, m4, m5, m6, false, m8, m9, g7, c7, rfl, rfl, by obtain ⟨h0, h1⟩ := HI.out; exact ⟨fun e => by first | rfl | exact h0 e | exact absurd e (by simp), fun e => by first | rfl | exact h1 e | exact absurd e (by simp)⟩, HM.out⟩
       ·cases ho
        simp at hun; subst hun
        clear hall hi
        go_simp
        exact hK.out _ _ ⟨m0, m1, true, m3, m4, m5, m6, m7, m8, m9, g7, c7, rfl, rfl, by obtain ⟨h0, h1⟩ := HI.out; exact ⟨fun e => by first | rfl | exact h0 e | exact absurd e (by simp), fun e => by first | rfl | exact h1 e | exact absurd e (by simp)⟩, HM.out⟩
       ·cases ho
        simp at hun; subst hun
        clear hall hi
        go_simp
        exact hK.out _ _ ⟨m0, m1, m2, true, m4, m5, m6, m7, m8, m9, g7, c7, rfl, rfl, by obtain ⟨h0, h1⟩ := HI.out; exact ⟨fun e => by first | rfl | exact h0 e | exact absurd e (by simp), fun e => by first | rfl | exact h1 e | exact absurd e (by simp)⟩, HM.out⟩
       ·cases ho
        simp at hun; subst hun
        clear hall hi
        go_simp
        exact hK.out _ _ ⟨m0, m1, m2, m3, true, m5, m6, m7, m8, m9, g7, c7, rfl, rfl, by obtain ⟨h0, h1⟩ := HI.out; exact ⟨fun e => by first | rfl | exact h0 e | exact absurd e (by simp), fun e => by first | rfl | exact h1 e | exact absurd e (by simp)⟩, HM.out⟩
       ·cases ho
        cases (getBX hall 3 rfl : m3 = true)
        cases (getBX hall 4 rfl : m4 = true)
        simp at hun; subst hun
        clear hall hi
        go_simp
        exact hK.out _ _ ⟨m0, m1, m2, true, true, true, m6, m7, m8, m9, g7, c7, rfl, rfl, by obtain ⟨h0, h1⟩ := HI.out; exact ⟨fun e => by first | rfl | exact h0 e | exact absurd e (by simp), fun e => by first | rfl | exact h1 e | exact absurd e (by simp)⟩, HM.out⟩
       ·cases ho
        cases (getBX hall 2 rfl : m2 = true)
        cases (getBX hall 5 rfl : m5 = true)
        simp at hun; subst hun
        clear hall hi
        go_simp
        exact hK.out _ _ ⟨m0, m1, true, m3, m4, true, true, m7, m8, m9, g7, c7, rfl, rfl, by obtain ⟨h0, h1⟩ := HI.out; exact ⟨fun e => by first | rfl | exact h0 e | exact absurd e (by simp), fun e => by first | rfl | exact h1 e | exact absurd e (by simp)⟩, HM.out⟩
       ·cases ho
        cases (getBX hall 1 rfl : m1 = true)
        cases (getBX hall 6 rfl : m6 = true)
        simp at hun; subst hun
        clear hall hi
        obtain rfl : m9 = false := by
         cases m9
         ·rfl
         ·exact absurd (HI.out.1 rfl) (by simp)
        have hbe := HM.out.2
        have hown7 := own_blI HOW0.out hbe
        have hdl : ((mkL l i).drop nr).length = tk := by rw [List.length_drop, ← HNS.out, HNR.out]; omega
        have hnt : ns = nr + tk := by have := HNR.out; omega
        have hlen : nr + tk ≤ (mkL l i).length := by rw [← HNS.out]; omega
        have hdr := fcR_drop (mkL l i) Ac cc nr tk hlen
        rw [← hnt] at hdr
        refine wp_append_lies W _ _ 51 rfl (wo.heap.size + 1) 53 i0 (.agg #[.int .i64 0, .int .i64 0, .slice none 0 0]) 3 40 Tryz.underlying51 HI0.out HZ0.out HZ1.out HZ2.out rfl (by decide) (.slice none 0 0) 0 [] rfl (World.ownsRow_nil _ _ _ _) ⟨gs, nr * 3, none⟩ tk (cs - nr) (fcR ((mkL l i).drop nr) (fun i => Ac (nr + i)) (fun i => cc (nr + i)) tk) rfl (fcR_len _ _ _ _) (fun j u hj => by
         rw [← hdr, List.getElem?_drop] at hj
         have hjl : nr * 3 + j < (fcR (mkL l i) Ac cc ns).length := by
          rcases Nat.lt_or_ge (nr * 3 + j) (fcR (mkL l i) Ac cc ns).length with h | h
          ·exact h
          ·rw [List.getElem?_eq_none h] at hj; cases hj
         rw [fcR_len] at hjl
         have := World.ownsRow.cellAt hown7 (nr * 3 + j) hjl
         rw [hj] at this
         by_cases hj0 : j = 0
         ·subst hj0; simpa [Addr.add] using this
         ·simpa [Addr.add, hj0] using this) (fcR_one _ _ _ _) htp (by unfold maxLen; omega) (by omega) (HM.out.1.lt) _ rfl ?_
        intro g7' c7' w4 hown4 hgrow4 hor4 hlt4
        have hg7 : g7' = W.heap.size := hor4.resolve_left (fun e => by cases e)
        have hbl4 : Below W.heap.size W w4 := (Below.refl W.heap.size W).grown hgrow4 (Nat.le_refl _) (fun k e => by cases e)
        have hb4 : MkB wo k3 w4 := HM.out.step hbl4
        have hput := hb4.1.put 2 (Value.slice (some ⟨g7', 0, none⟩) tk c7')
        rw [Nat.zero_add] at hown4
        simp only [Nat.zero_add]
        have hfs := FsR.of_own (S := skS X (w4.setCell ⟨wo.heap.size, 2, none⟩ (.slice (some ⟨g7', 0, none⟩) tk c7')).heap.size (.slice (some ⟨gs, 0, none⟩) nr cs)) (own_keep hown4 (w' := w4.setCell ⟨wo.heap.size, 2, none⟩ (.slice (some ⟨g7', 0, none⟩) tk c7')) fun g e => Below.heap_setCell w4 ⟨wo.heap.size, 2, none⟩ _ g (by have := (hown4.lt g e).1; show g ≠ wo.heap.size; omega)) hdl.symm (fun g e => by
         injection e with e; injection e with e _ _
         subst e
         have hwl := HM.out.1.lt
         refine ⟨by omega, by simpa using hlt4, fun e => ?_, by omega, by omega⟩
         have e' : g7' = gs := by simpa [Value.ownBlock] using e
         omega) (fun j hj => by
         have hj2 : nr + j < (mkL l i).length := by rw [List.length_drop] at hj; omega
         obtain ⟨h1, h2⟩ := HKS0.out.2 (nr + j) hj2
         rw [List.getElem_drop]
         refine ⟨(h1.keep fun b hb => ?_).mono fun b hb => ⟨hb.1, ?_, hb.2.2⟩, h2⟩
         ·exact (Below.heap_setCell w4 ⟨wo.heap.size, 2, none⟩ _ b (by have := hb.2.1; show b ≠ wo.heap.size; omega)).trans (hb4.2.block b hb.2.1)
         ·have := hb4.2.size; have h3 := hb.2.1; have h4 : (w4.setCell ⟨wo.heap.size, 2, none⟩ (.slice (some ⟨g7', 0, none⟩) tk c7')).heap.size = w4.heap.size := by simp
          omega)
        have hcap7 : tk ≤ c7' := own_cap hown4
        have HN' := Lib.hid (show MkD X wo k3 (mkL l i) gs nr cs tk g7' c7' w4 from ⟨hb4.1.cell 2, hb4.1.frozen 2, hput, bw_set hb4.2 (Nat.le_refl _) _, hfs, hcap7⟩)
        exact hK.out _ _ ⟨m0, true, m2, m3, m4, m5, true, true, m8, false, g7', c7', rfl, rfl, by obtain ⟨h0, h1⟩ := HI.out; exact ⟨fun e => by first | rfl | exact h0 e | exact absurd e (by simp), fun e => by first | rfl | exact h1 e | exact absurd e (by simp)⟩, HN'.out⟩
       ·cases ho
        cases (getBX hall 0 rfl : m0 = true)
        cases (getBX hall 1 rfl : m1 = true)
        cases (getBX hall 2 rfl : m2 = true)
        cases (getBX hall 3 rfl : m3 = true)
        cases (getBX hall 4 rfl : m4 = true)
        cases (getBX hall 5 rfl : m5 = true)
        cases (getBX hall 6 rfl : m6 = true)
        cases (getBX hall 7 rfl : m7 = true)
        simp at hun; subst hun
        clear hall hi
        go_simp
        exact hK.out _ _ ⟨true, true, true, true, true, true, true, true, true, m9, g7, c7, rfl, rfl, by obtain ⟨h0, h1⟩ := HI.out; exact ⟨fun e => by first | rfl | exact h0 e | exact absurd e (by simp), fun e => by first | rfl | exact h1 e | exact absurd e (by simp)⟩, HM.out⟩
       ·cases ho
        cases (getBX hall 0 rfl : m0 = true)
        cases (getBX hall 1 rfl : m1 = true)
        cases (getBX hall 2 rfl : m2 = true)
        cases (getBX hall 3 rfl : m3 = true)
        cases (getBX hall 4 rfl : m4 = true)
        cases (getBX hall 5 rfl : m5 = true)
        cases (getBX hall 6 rfl : m6 = true)
        cases (getBX hall 7 rfl : m7 = true)
        cases (getBX hall 8 rfl : m8 = true)
        simp at hun; subst hun
        clear hall hi
        obtain ⟨x2, x3, hE⟩ := HM.out
        go_simp
        exact hK.out _ _ ⟨true, true, true, true, true, true, true, true, true, true, g7, c7, rfl, rfl, by obtain ⟨h0, h1⟩ := HI.out; exact ⟨fun e => by first | rfl | exact h0 e | exact absurd e (by simp), fun e => by first | rfl | exact h1 e | exact absurd e (by simp)⟩, hE⟩
      ·rintro ll aa W ⟨m0, m1, m2, m3, m4, m5, m6, m7, m8, m9, g7, c7, rfl, rfl, _, hm⟩ hall
       cases (hall 0 (by decide) : m0 = true)
       cases (hall 1 (by decide) : m1 = true)
       cases (hall 2 (by decide) : m2 = true)
       cases (hall 3 (by decide) : m3 = true)
       cases (hall 4 (by decide) : m4 = true)
       cases (hall 5 (by decide) : m5 = true)
       cases (hall 6 (by decide) : m6 = true)
       cases (hall 7 (by decide) : m7 = true)
       cases (hall 8 (by decide) : m8 = true)
       cases (hall 9 (by decide) : m9 = true)
       clear hall
       have HMB := Lib.hid hm
       have p0 : W.cell? ⟨wo.heap.size, 0, none⟩ = some (.int .i64 k3) := hm.1.cell 0
       have p1 : W.cell? ⟨wo.heap.size, 1, none⟩ = some (.int .i64 0) := hm.1.cell 1
       have p2 : W.cell? ⟨wo.heap.size, 2, none⟩ = some (.slice (some ⟨g7, 0, none⟩) tk c7) := hm.1.cell 2
       have hwl : wo.heap.size < W.heap.size := hm.1.lt
       obtain ⟨Ad, cd, hownS, hnlS, hksS⟩ := HROW.out.short (m := nr) hnr1
       have HOW := Lib.hid hownS
       have HKS := Lib.hid (And.intro hnlS hksS)
       have hbx := bw_new (Below.refl W.heap.size W) (.cells (fcL k3 0 (some ⟨g7, 0, none⟩) tk c7).toArray 53)
       have HBB := Lib.hid (hm.2.1.trans (hbx.mono hm.2.1.size))
       have HNT := Lib.hid ((hm.2.2.1.keep fun b h => hbx.block b h.2.1).mono (S' := skS X (W.alloc (.cells (fcL k3 0 (some ⟨g7, 0, none⟩) tk c7).toArray 53)).heap.size (.slice (some ⟨gs, 0, none⟩) nr cs)) fun b h => ⟨h.1, Nat.lt_of_lt_of_le h.2.1 hbx.size, h.2.2⟩)
       have hdl : ((mkL l i).drop nr).length = tk := by rw [List.length_drop, ← HNS.out, HNR.out]; omega
       have HDL := Lib.hid hdl
       have HC7 := Lib.hid hm.2.2.2
       have hnr60 : nr ≤ 60 := by omega
       clear hm hownS hnlS hksS hbx hdl
       dsimp only [cwX, cond_true]
       go_wp2_with (at_builtin; refine wpList_append_lies _ rfl _ _ 51 rfl (X.heap.size + 1) 53 i0 (.agg #[.int .i64 0, .int .i64 0, .slice none 0 0]) 3 40 Tryz.underlying51 HI0.out HZ0.out HZ1.out HZ2.out rfl (by decide) _ _ _ rfl (own_blI HOW.out HBB.out) ⟨W.heap.size, 0, none⟩ 1 1 (fcL k3 0 (some ⟨g7, 0, none⟩) tk c7) rfl rfl (World.news_of_block (cs := (fcL k3 0 (some ⟨g7, 0, none⟩) tk c7).toArray) (t := 53) (fr := (0, 0)) (heap_alloc_new W _)) (by simp [Value.oneCell']) (by decide) (by unfold maxLen; omega) (by omega) (by simp; omega) _ rfl ?_)
       intro g4 c4 w4 hown4 hgrow4 hor4 hlt4
       have hst := mf_push HP.out HBB.out HOW.out HKS.out.1 HKS.out.2 (t := Fm.nd k3 0 ((mkL l i).drop nr)) (At := some ⟨g7, 0, none⟩) (ct := c7) HNT.out (by show ((mkL l i).drop nr).length ≤ c7; rw [HDL.out]; exact HC7.out) (by show w4.ownsRow _ _ _ _ _ (fcR _ _ _ _ ++ fcL k3 0 _ ((mkL l i).drop nr).length c7); rw [HDL.out]; exact hown4) hgrow4 (by rw [World.size_alloc]; exact hor4)
       have hms : mkS (mkL l i) b = (mkL l i).take nr ++ [Fm.nd k3 0 ((mkL l i).drop nr)] := by
        unfold mkS
        rw [if_neg (by omega), if_neg (by omega), if_neg (by omega), ← HNS.out, ← HV4.out, ← HNR.out, HV2.out]
       rw [← hms, ← HST.out] at hst
       have HNW := Lib.hid hst
       clear hown4 hgrow4 hor4 hlt4 hst hms
       go_wp2_with fail
       go_roundw
       case rel => exact ⟨i + 1, some ⟨g4, 0, none⟩, nr + 1, c4, HIL.out, by rw [HI2.out]; rfl, rfl, HNW.out.1, HNW.out.2⟩
       case measure => have := HIL.out; have := HI2.out; simp only [intOf]; omega
  ·have hie : i = min l.length 30 := by omega
   have hcond : ¬ (i : Int) < (n : Int) ∨ ((i : Int) < (n : Int) ∧ ¬ (i : Int) < 30) := by rw [HN.out]; omega
   have hv0 : wo.frozen? ⟨X.heap.size, 0, none⟩ = false := (HP.out.at_ 0 rfl).frozen 0
   have hv1 : wo.frozen? ⟨X.heap.size, 1, none⟩ = false := (HP.out.at_ 0 rfl).frozen 1
   have hv2 : wo.frozen? ⟨X.heap.size, 2, none⟩ = false := (HP.out.at_ 0 rfl).frozen 2
   have hs0 : wo.cell? ⟨X.heap.size, 0, none⟩ = some (.int .i64 0) := (HP.out.at_ 0 rfl).cell 0
   have hs1 : wo.cell? ⟨X.heap.size, 1, none⟩ = some (.int .i64 0) := (HP.out.at_ 0 rfl).cell 1
   have hs2 : wo.cell? ⟨X.heap.size, 2, none⟩ = some (.slice none 0 0) := (HP.out.at_ 0 rfl).cell 2
   obtain ⟨Ac, cc, hown, hnl, hks⟩ := HROW.out
   clear hi hlt
   by_cases hn1 : ns = 1
   ·subst hn1
    obtain ⟨gs, hgs, hgl⟩ : ∃ gs, As = some ⟨gs, 0, none⟩ ∧ gs < wo.heap.size := by
     rcases hown.2 with ⟨hv, h0'⟩ | ⟨g, cap, cur, hv, hb, hg, _⟩
     ·omega
     ·injection hv with e1 _ _
      exact ⟨g, e1, (Array.getElem?_eq_some_iff.1 hg).1⟩
    subst hgs
    have hil : 0 < (mkL l i).length := by omega
    have hget : ∀ j, j < 3 → wo.cell? ⟨gs, 0 * 3 + j, none⟩ = (fcL ((mkL l i).getD 0 default).k ((mkL l i).getD 0 default).a (Ac 0) ((mkL l i).getD 0 default).l.length (cc 0))[j]? := fun j hj => by
     have h1 := World.ownsRow.cellAt hown (0 * 3 + j) (by omega)
     rw [fcR_get _ _ _ 1 0 j (by omega) hj] at h1
     exact h1
    have y0 := hget 0 (by omega)
    have y1 := hget 1 (by omega)
    have y2 := hget 2 (by omega)
    have hkd := hks 0 hil
    have hsl : (mkL l i).getD 0 default = (mkL l i)[0] := by rw [List.getD_eq_getElem?_getD, List.getElem?_eq_getElem hil]; rfl
    rw [← hsl] at hkd
    have hmf : mkF l = (mkL l i).getD 0 default := by
     unfold mkF
     rw [← hie, if_pos (by omega)]
     match hq : mkL l i, hil with
     | x :: _, _ => rfl
    obtain ⟨t, ht⟩ : ∃ t, t = (mkL l i).getD 0 default := ⟨_, rfl⟩
    rw [← ht] at y0 y1 y2 hkd hmf
    replace y0 : wo.cell? ⟨gs, 0, none⟩ = some (.int .i64 t.k) := y0
    replace y1 : wo.cell? ⟨gs, 1, none⟩ = some (.int .i64 t.a) := y1
    replace y2 : wo.cell? ⟨gs, 2, none⟩ = some (.slice (Ac 0) t.l.length (cc 0)) := y2
    obtain ⟨tn, htn⟩ : ∃ z, z = t.l.length := ⟨_, rfl⟩
    obtain ⟨tk, htk⟩ : ∃ z, z = t.k := ⟨_, rfl⟩
    obtain ⟨ta, hta⟩ : ∃ z, z = t.a := ⟨_, rfl⟩
    obtain ⟨tA, htA⟩ : ∃ z, z = Ac 0 := ⟨_, rfl⟩
    obtain ⟨tc, htc⟩ : ∃ z, z = cc 0 := ⟨_, rfl⟩
    rw [← htk] at y0
    rw [← hta] at y1
    rw [← htA, ← htc, ← htn] at y2
    rw [← htA] at hkd
    have hpf := HP.out.put3 0 rfl (.int .i64 tk) (.int .i64 ta) (.slice tA tn tc)
    have HPF := Lib.hid hpf
    have HTT := Lib.hid (And.intro htk (And.intro hta (And.intro htn hmf)))
    have HKD := Lib.hid hkd.1
    clear hown hnl hks hget hil hsl hkd ht htn htk hta htA htc hpf hmf hie
    rcases hcond with hcd | ⟨hcd, hcd2⟩
    ·go_wp2_with fail
     have bF := HPF.out.at_ 0 rfl
     have r0 := bF.cell 0
     have r1 := bF.cell 1
     have r2 := bF.cell 2
     simp only [List.getElem?_cons_zero, List.getElem?_cons_succ] at r0 r1 r2
     have hsz : ∀ x y z : Value, (((wo.setCell ⟨X.heap.size, 0, none⟩ x).setCell ⟨X.heap.size, 1, none⟩ y).setCell ⟨X.heap.size, 2, none⟩ z).heap.size = wo.heap.size := fun x y z => by simp
     exact bodyPost_ret (v := .agg #[.int .i64 tk, .int .i64 ta, .slice tA tn tc]) (by simp [results, Tryz.results34, go_sem, r0, r1, r2]) rfl ⟨tA, tc, by rw [HTT.out.2.2.2, ← HTT.out.1, ← HTT.out.2.1, ← HTT.out.2.2.1], by rw [HTT.out.2.2.2]; exact (HKD.out.keep fun b h => (Below.heap_setCell _ ⟨X.heap.size, 2, none⟩ _ b h.2.2.2.1).trans ((Below.heap_setCell _ ⟨X.heap.size, 1, none⟩ _ b h.2.2.2.1).trans (Below.heap_setCell _ ⟨X.heap.size, 0, none⟩ _ b h.2.2.2.1))).mono fun b h => (by rw [hsz]; exact h.2.1), HPF.out.below⟩
    ·go_wp2_with fail
     have bF := HPF.out.at_ 0 rfl
     have r0 := bF.cell 0
     have r1 := bF.cell 1
     have r2 := bF.cell 2
     simp only [List.getElem?_cons_zero, List.getElem?_cons_succ] at r0 r1 r2
     have hsz : ∀ x y z : Value, (((wo.setCell ⟨X.heap.size, 0, none⟩ x).setCell ⟨X.heap.size, 1, none⟩ y).setCell ⟨X.heap.size, 2, none⟩ z).heap.size = wo.heap.size := fun x y z => by simp
     exact bodyPost_ret (v := .agg #[.int .i64 tk, .int .i64 ta, .slice tA tn tc]) (by simp [results, Tryz.results34, go_sem, r0, r1, r2]) rfl ⟨tA, tc, by rw [HTT.out.2.2.2, ← HTT.out.1, ← HTT.out.2.1, ← HTT.out.2.2.1], by rw [HTT.out.2.2.2]; exact (HKD.out.keep fun b h => (Below.heap_setCell _ ⟨X.heap.size, 2, none⟩ _ b h.2.2.2.1).trans ((Below.heap_setCell _ ⟨X.heap.size, 1, none⟩ _ b h.2.2.2.1).trans (Below.heap_setCell _ ⟨X.heap.size, 0, none⟩ _ b h.2.2.2.1))).mono fun b h => (by rw [hsz]; exact h.2.1), HPF.out.below⟩
   ·have hmf : mkF l = .nd 3 0 (mkL l i) := by
     unfold mkF
     rw [← hie, if_neg (by omega)]
    have hne : some X.heap.size ≠ (Value.slice As ns cs).ownBlock := fun e => by have := (hown.lt _ e.symm).1; omega
    have hrw := ((HROW.out.set (o := 0) (u := .int .i64 3) (fun b h => h.2.2.2.1) hne).set (o := 1) (u := .int .i64 0) (fun b h => h.2.2.2.1) hne).set (o := 2) (u := .slice As ns cs) (fun b h => h.2.2.2.1) hne
    have HRW := Lib.hid hrw
    have HOWN := Lib.hid hown.lt
    have hpf := HP.out.put3 0 rfl (.int .i64 3) (.int .i64 0) (.slice As ns cs)
    have HPF := Lib.hid hpf
    have HMF := Lib.hid hmf
    have hn1 : ((ns : Int) == 1) = false := by rw [beq_eq_false_iff_ne]; omega
    clear hown hnl hks hne hrw hpf hmf hie
    rcases hcond with hcd | ⟨hcd, hcd2⟩
    ·go_wp2_with fail
     have bF := HPF.out.at_ 0 rfl
     have r0 := bF.cell 0
     have r1 := bF.cell 1
     have r2 := bF.cell 2
     simp only [List.getElem?_cons_zero, List.getElem?_cons_succ] at r0 r1 r2
     have hsz : ∀ x y z : Value, (((wo.setCell ⟨X.heap.size, 0, none⟩ x).setCell ⟨X.heap.size, 1, none⟩ y).setCell ⟨X.heap.size, 2, none⟩ z).heap.size = wo.heap.size := fun x y z => by simp
     exact bodyPost_ret (v := .agg #[.int .i64 3, .int .i64 0, .slice As ns cs]) (by simp [results, Tryz.results34, go_sem, r0, r1, r2]) rfl ⟨As, cs, by rw [HMF.out]; show _ = Ending.returned (.agg #[.int .i64 3, .int .i64 0, .slice As (mkL l i).length cs]); rw [← HNS.out], by rw [HMF.out]; exact HRW.out.fs (fun b h => (by rw [hsz]; exact h.2.1)) fun g hg => (by rw [hsz]; exact (HOWN.out g hg).2), HPF.out.below⟩
    ·go_wp2_with fail
     have bF := HPF.out.at_ 0 rfl
     have r0 := bF.cell 0
     have r1 := bF.cell 1
     have r2 := bF.cell 2
     simp only [List.getElem?_cons_zero, List.getElem?_cons_succ] at r0 r1 r2
     have hsz : ∀ x y z : Value, (((wo.setCell ⟨X.heap.size, 0, none⟩ x).setCell ⟨X.heap.size, 1, none⟩ y).setCell ⟨X.heap.size, 2, none⟩ z).heap.size = wo.heap.size := fun x y z => by simp
     exact bodyPost_ret (v := .agg #[.int .i64 3, .int .i64 0, .slice As ns cs]) (by simp [results, Tryz.results34, go_sem, r0, r1, r2]) rfl ⟨As, cs, by rw [HMF.out]; show _ = Ending.returned (.agg #[.int .i64 3, .int .i64 0, .slice As (mkL l i).length cs]); rw [← HNS.out], by rw [HMF.out]; exact HRW.out.fs (fun b h => (by rw [hsz]; exact h.2.1)) fun g hg => (by rw [hsz]; exact (HOWN.out g hg).2), HPF.out.below⟩
end Go.Proofs.YtaegjpancbmppaaGreatDoor
