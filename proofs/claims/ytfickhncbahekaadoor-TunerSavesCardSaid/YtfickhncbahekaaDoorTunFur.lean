/- Package tuner: what a run left behind. Conditions: the steps lie in a slice of at most maxLen cells. Package tuner: the chain that a run remembers. Conditions: the order is right, and has at most 200 steps; the note is tuned. Package tuner: Chain and Furthest. Conditions: the steps lie in a slice of at most maxLen cells. -/
import Derived.Test.YtfickhncbahekaaDoorTunChain
import Derived.Test.YtfickhncbahekaaDoorTunOpen
namespace Go.Proofs.YtfickhncbahekaaDoor
section
open Go.RowKit

theorem runE_ord {f : Int} {L : List (Int × Int)} (h : runE f L = 0) : isN f ∧ L.length ≤ 200 ∧ Ord f L := by
  rw [runE_chk] at h
  by_cases h1 : isN f
  · rw [if_neg (not_not_intro h1)] at h
    by_cases h2 : 200 < L.length
    · rw [if_pos h2] at h; cases h
    · rw [if_neg h2] at h
      exact ⟨h1, by omega, fun k hk => scanE_all h k (Nat.zero_le _) (by omega)⟩
  · rw [if_pos h1] at h; cases h
theorem ord_runE {f : Int} {L : List (Int × Int)} (h1 : isN f) (h2 : L.length ≤ 200) (h3 : Ord f L) : runE f L = 0 := by
  rw [runE_chk, if_neg (not_not_intro h1), if_neg (by omega)]
  exact scanE_zero fun j _ hj => h3 j (by omega)
theorem ways_some (f : Int) (L : List (Int × Int)) (n : Int) : (lkz n (stT f L L.length).ways).isSome = decide (fz f L n ≠ -2) := by
  have := (st_fst f L L.length (Nat.le_refl _) n).2
  unfold fz
  cases h : lkz n (stT f L L.length).ways with
  | none => rw [this.1 h]; rfl
  | some x =>
    have : firstZ f L n L.length ≠ -2 := fun e => by have := this.2 e; rw [h] at this; cases this
    simp [this]
/-- The error of a question about a note. -/
def chnE (f : Int) (L : List (Int × Int)) (n : Int) : Int := if runE f L ≠ 0 then runE f L else if fz f L n = -2 then 11 else 0
theorem rchE_eq (f : Int) (L : List (Int × Int)) (n : Int) : rchE f L n = chnE f L n := by
  unfold rchE chnE
  rw [ways_some]
  by_cases h : runE f L ≠ 0
  · rw [if_pos h, if_pos h]
  · rw [if_neg h, if_neg h]
    by_cases h2 : fz f L n = -2
    · rw [if_pos h2, if_neg (by simp [h2])]
    · rw [if_neg h2, if_pos (by simp [h2])]
theorem rchW_eq {f : Int} {L : List (Int × Int)} {n : Int} (h : chnE f L n = 0) : rchW f L n = wyB f L n := by
  unfold chnE at h
  unfold rchW
  by_cases h0 : runE f L ≠ 0
  · rw [if_pos h0] at h; exact absurd h h0
  · rw [if_neg h0] at h
    rw [if_neg h0]
    by_cases h2 : fz f L n = -2
    · rw [if_pos h2] at h; cases h
    · have := st_ways (runE_ord (f := f) (L := L) (by omega)).2.2 L.length (Nat.le_refl _) n
      rw [this, if_neg (show ¬ firstZ f L n L.length = -2 from h2)]; rfl
theorem rchW_err {f : Int} {L : List (Int × Int)} {n : Int} (h : chnE f L n ≠ 0) : rchW f L n = (0, 0) := by
  unfold chnE at h
  unfold rchW
  by_cases h0 : runE f L ≠ 0
  · rw [if_pos h0]
  · rw [if_neg h0] at h
    rw [if_neg h0]
    by_cases h2 : fz f L n = -2
    · have := (st_fst f L L.length (Nat.le_refl _) n).2.2 h2
      rw [this]; rfl
    · rw [if_neg h2] at h; exact absurd rfl h
/-- What a run left behind, and goes on lying. -/
structure TnAt (w : World) (f : Int) (L : List (Int × Int)) (A : Option Addr) (n cap : Nat) (W : World) : Prop where
  hp : Hp w [(w.heap.size, 25, [.int .i64 f, .slice A n cap])] W
  t0 : W.cell? ⟨w.heap.size + 1 + 3, 0, none⟩ = some (.map (some (w.heap.size + 1 + 1)))
  t1 : W.cell? ⟨w.heap.size + 1 + 3, 1, none⟩ = some (.map (some (w.heap.size + 1 + 2)))
  m1 : MapC iK W (w.heap.size + 1 + 1) (ents wv (stT f L n).ways)
  m2 : MapC iK W (w.heap.size + 1 + 2) (ents i64v (stT f L n).fst)
  lt : w.heap.size + 1 + 3 < W.heap.size
theorem TnAt.step {w W W' : World} {f : Int} {L : List (Int × Int)} {A : Option Addr} {n cap : Nat} (h : TnAt w f L A n cap W) (hb : Below W.heap.size W W') : TnAt w f L A n cap W' where
  hp := h.hp.step hb
  t0 := (hb.cell (p := ⟨w.heap.size + 1 + 3, 0, none⟩) h.lt).trans h.t0
  t1 := (hb.cell (p := ⟨w.heap.size + 1 + 3, 1, none⟩) h.lt).trans h.t1
  m1 := h.m1.step hb
  m2 := h.m2.step hb
  lt := Nat.lt_of_lt_of_le h.lt hb.size
theorem TnAt.of {w w1 : World} {f : Int} {L : List (Int × Int)} {A : Option Addr} {n cap : Nat} {GA : Option Addr} {gn gc : Nat} {DA : Option Addr} {dn dc : Nat}
    (hb : Below (w.alloc (.cells #[.int .i64 f, .slice A n cap] 25)).heap.size (w.alloc (.cells #[.int .i64 f, .slice A n cap] 25)) w1)
    (hp : RPack (w.alloc (.cells #[.int .i64 f, .slice A n cap] 25)) f L A n cap (w.alloc (.cells #[.int .i64 f, .slice A n cap] 25)).heap.size n GA gn gc DA dn dc w1) : TnAt w f L A n cap w1 := by
  have hm := ((Hp.start w).new 25 [.int .i64 f, .slice A n cap]).step hb
  rw [World.size_alloc] at hp
  exact ⟨hm, hp.t.cell 0, hp.t.cell 1, hp.m1, hp.m2, hp.t.lt⟩
end

section
open Go.RowKit

/-- What the loop keeps. -/
def TcL (w : World) (f : Int) (L : List (Int × Int)) (n : Int) (A : Option Addr) (m cap : Nat) (u v : Value) (wx : World) : Prop := ∃ (n' : Int) (B : List Int) (BA : Option Addr) (bc : Nat), v = .int .i64 (fz f L n') ∧ u = .slice BA B.length bc ∧ B ++ chB f L n' = chB f L n ∧ fz f L n' ≠ -2 ∧
  Hp w [(w.heap.size, 25, [.int .i64 f, .slice A m cap])] wx ∧ wx.ownsRow (w.heap.size + 1) 3 1 (.slice BA B.length bc) B.length (B.map i64v) ∧ w.heap.size + 1 ≤ wx.heap.size

set_option maxRecDepth 1000000 in
set_option maxHeartbeats 8000000 in
theorem tchain_any (f n : Int) (T b2 : Nat) (A : Option Addr) (m cap : Nat) (L : List (Int × Int)) (w : World) (hT : w.cell? ⟨T, 1, none⟩ = some (.map (some b2))) (hTl : T < w.heap.size) (hmc : MapC iK w b2 (ents i64v (stT f L m).fst)) (ha : OArg w w.heap.size A m cap L) (ho : Ord f L) (hm2 : m ≤ 200) (hf : fz f L n ≠ -2) :
    Calls Tryd.prog 41 #[.pointer (some ⟨T, 0, none⟩), .agg #[.int .i64 f, .slice A m cap], .int .i64 n] w (RetInts w (chB f L n).reverse) := by
  have hm0 := (Hp.start w).new 25 [.int .i64 f, .slice A m cap]
  simp only [World.size_alloc, List.nil_append, List.cons_append] at hm0
  have HM := Lib.hid hm0
  have HA := Lib.hid ha
  have HFZ := Lib.hid hf
  have HO := Lib.hid ho
  have HMC := Lib.hid hmc
  have HT := Lib.hid hT
  have HFL := Lib.hid (show ∀ n, fz f L n ≠ -2 → (lkz n (stT f L m).fst).getD 0 = fz f L n by
    intro n h
    have := (st_fst f L m (by rw [ha.len]; exact Nat.le_refl _) n).1
    rw [this, ← ha.len, if_neg (show ¬ firstZ f L n L.length = -2 from h)]
    rfl)
  have HNL := Lib.hid (show ∀ n, (chB f L n).length ≤ 200 by
    intro n
    rcases chB_len ho m n (by have := fz_lt f L n; rw [ha.len] at this; exact this.2) with h | h
    · have := fz_lt f L n; rw [ha.len] at this; omega
    · omega)
  obtain ⟨i0, hi, hz0, hz1, hz2⟩ := info_parts infoIntT
  have HI0 := Lib.hid hi
  have HZ0 := Lib.hid hz0
  have HZ1 := Lib.hid hz1
  have HZ2 := Lib.hid hz2
  have t1 := hT
  rw [← (bw_new (Below.refl w.heap.size w) (.cells #[.int .i64 f, .slice A m cap] 25)).cell (p := ⟨T, 1, none⟩) hTl] at t1
  have lk := (look_iv (hmc.alloc (.cells #[.int .i64 f, .slice A m cap] 25)) n).2
  rw [HFL.out n hf] at lk
  clear hm0 ha hf ho hi hz0 hz1 hz2 hT hmc
  go_enter Tryd.func41, Tryd.ntmps41
  go_wp2_with fail
  clear t1 lk
  go_loopw [7, 8] (fun u v wx => TcL w f L n A m cap u v wx) (fun _ v _ => (intOf v + 2).toNat)
  case atStart => exact ⟨n, [], none, 0, rfl, rfl, rfl, HFZ.out, HM.out, World.ownsRow_nil _ _ _ _, by simp⟩
  case round =>
    obtain ⟨n', B, BA, bc, rfl, rfl, hbk, hnf, hp, hown, hsz⟩ := hrel
    have HP := Lib.hid hp
    obtain ⟨bn, hbn⟩ : ∃ bn, bn = B.length := ⟨_, rfl⟩
    rw [← hbn] at hown ⊢
    have hbl : bn ≤ 200 := by have := HNL.out n; rw [← hbk, List.length_append] at this; omega
    have HBN := Lib.hid hbn
    have HOW := Lib.hid hown
    obtain ⟨z, hz⟩ : ∃ z, z = fz f L n' := ⟨_, rfl⟩
    rw [← hz]
    by_cases hzn : 0 ≤ z
    · obtain ⟨i, rfl⟩ := Int.eq_ofNat_of_zero_le hzn
      obtain ⟨hil, _, _, hge, hlt, _, _⟩ := fz_back HO.out hz.symm
      obtain ⟨hc1, _⟩ := chB_go HO.out hz.symm
      rw [HA.out.len] at hil
      obtain ⟨b, off, rfl, hb, hs⟩ := HA.out.rd.at_ (by rw [HA.out.len]; omega)
      have hq := (hs i (by rw [HA.out.len]; omega)).1
      obtain ⟨p, hp0⟩ : ∃ y, y = (L.getD i (0, 0)).1 := ⟨_, rfl⟩
      rw [← hp0] at hq hge hlt hc1
      have HQ := Lib.hid hq
      have HC := Lib.hid (show (B ++ [(i : Int)]) ++ chB f L p = chB f L n by rw [← hbk, hc1, List.append_assoc]; rfl)
      have HPP := Lib.hid (show fz f L p ≠ -2 by omega)
      have HPI := Lib.hid (show fz f L p < (i : Int) by exact hlt)
      have hi0 : (0 : Int) ≤ (i : Int) := by omega
      have him : (i : Int) < (m : Int) := by omega
      have hil2 : i < m := hil
      clear hbk hnf hown hbn hzn hge hlt hc1 hq hp0 hs hz hp
      go_wp2_with (at_builtin; refine wpList_append_own _ rfl _ _ 46 rfl (w.heap.size + 1) 3 i0 (.int .i64 0) 1 8 Tryd.underlying46 HI0.out HZ0.out HZ1.out HZ2.out rfl (by decide) _ _ _ rfl (own_below HOW.out (bw_new (Below.refl _ _) _)) ⟨wr.heap.size, 0, none⟩ 1 1 [.int .i64 (i : Int)] rfl rfl (World.news_of_block (cs := #[.int .i64 (i : Int)]) (t := 3) (fr := (0, 0)) (heap_alloc_new wr _)) (by simp [Value.oneCell']) (by unfold maxLen; omega) (by omega) (by simp; omega) ?_)
      intro v' w4 hown4 hgrow _
      obtain ⟨g, rc2, hv, hrc2⟩ := own_form hown4 (by omega)
      subst hv
      have hp4 := (HP.out.alloc (.cells #[.int .i64 (i : Int)] 3)).grown hgrow (fun r e => by
        have := (HOW.out.lt r e).1
        refine ⟨by omega, fun x hx => ?_⟩
        simp only [List.mem_cons, List.not_mem_nil, or_false] at hx
        subst hx
        simp; omega)
      have hs4 : w.heap.size + 1 ≤ w4.heap.size := by have := hgrow.size; rw [World.size_alloc] at this; omega
      have g1 : w4.cell? ⟨w.heap.size, 1, none⟩ = some (.slice (some ⟨b, off, none⟩) m cap) := (hp4.at_ 0 rfl).cell 1
      have k0 : w4.cell? ⟨b, off + i * 2, none⟩ = some (.int .i64 p) := (hp4.below.cell (p := ⟨b, off + i * 2, none⟩) hb).trans HQ.out
      have t1 : w4.cell? ⟨T, 1, none⟩ = some (.map (some b2)) := (hp4.below.cell (p := ⟨T, 1, none⟩) hTl).trans HT.out
      have lk := (look_iv (W := w4.drew) ((HMC.out.below hp4.below HMC.out.lt).drew) p).2
      rw [HFL.out p HPP.out] at lk
      have HP4 := Lib.hid hp4
      have HO5 := Lib.hid hown4
      clear hown4 hgrow hp4
      go_wp2_with fail
      go_region
      all_goals
        go_wp2
        go_roundw
        case rel =>
          have hl : (B ++ [(i : Int)]).length = bn + 1 := by rw [List.length_append, ← HBN.out]; rfl
          refine ⟨p, B ++ [(i : Int)], _, rc2, rfl, by rw [hl], HC.out, HPP.out, HP4.out.drew, ?_, hs4⟩
          rw [hl, List.map_append]
          exact own_below HO5.out (bw_drew (Below.refl _ _))
        case measure => have := HPI.out; simp [intOf]; omega
    · have hs := chB_stop (n := n') (f := f) (L := L) (by omega)
      rw [hs.1, List.append_nil] at hbk
      have HB2 := Lib.hid hbk
      rw [hbn] at hown
      have HRV := Lib.hid (rev_own B hown)
      rw [← hbn] at HRV
      clear hbk hnf hown hbn hs hz hp
      go_wp2_with fail
      refine HRV.out.mono ?_
      rintro e w2 ⟨rfl, hown2, hgrow2⟩
      have hb2 := (HP.out.grown hgrow2 (fun r e => by
        have := (HOW.out.lt r e).1
        refine ⟨by omega, fun x hx => ?_⟩
        simp only [List.mem_cons, List.not_mem_nil, or_false] at hx
        subst hx
        simp; omega)).below
      have HB3 := Lib.hid hb2
      have HO3 := Lib.hid hown2
      clear hown2 hgrow2 hb2
      go_wp2
      go_ret
      refine ⟨BA, bc, by rw [← HB2.out, List.length_reverse, ← HBN.out]; rfl, ?_, HB3.out⟩
      rw [← HB2.out]
      have := own_low HO3.out (Nat.le_succ _)
      rw [show B.reverse.length = bn by rw [List.length_reverse, HBN.out]] at this ⊢
      exact this
end

section
open Go.RowKit

set_option maxRecDepth 100000 in
set_option maxHeartbeats 1000000 in
theorem tChain_any (f note : Int) (A : Option Addr) (n cap : Nat) (L : List (Int × Int)) (w : World) (h : OArg w w.heap.size A n cap L) :
    Calls Tryd.prog 15 #[.agg #[.int .i64 f, .slice A n cap], .int .i64 note] w (IntsOr w (chnE f L note) (chB f L note).reverse) := by
  have hb := bw_new (Below.refl _ w) (.cells #[.int .i64 f, .slice A n cap] 25)
  have HR := Lib.hid (run_arg (f := f) (h.step hb))
  have HB := Lib.hid hb
  have HA := Lib.hid h
  clear h hb
  go_enter Tryd.func15, Tryd.ntmps15
  go_wp2_with fail
  refine HR.out.mono ?_
  rintro e w1 ⟨hb1, ⟨h0, rfl⟩ | ⟨h0, GA, gn, gc, DA, dn, dc, rfl, hp⟩⟩
  · have HB1 := Lib.hid (HB.out.trans (hb1.mono HB.out.size))
    have HE := Lib.hid (show chnE f L note = runE f L from if_pos h0)
    have H0 := Lib.hid h0
    obtain ⟨x, hx⟩ : ∃ x, x = runE f L := ⟨_, rfl⟩
    rw [← hx] at h0 H0 HE ⊢
    have hz : (x != 0) = true := by simpa using h0
    clear hb1 h0 hx
    go_wp2
    go_ret2
    rw [HE.out]
    exact ⟨HB1.out, .inl ⟨H0.out, rfl⟩⟩
  · have hT := TnAt.of hb1 hp
    rw [World.size_alloc]
    obtain ⟨h1, h2, h3⟩ := runE_ord h0
    rw [HA.out.len] at h2
    have HO := Lib.hid h3
    have HT := Lib.hid hT
    have t0 := hT.t0
    have hl := look_wv hT.m1 note
    rw [show (lkz note (stT f L n).ways).isSome = decide (fz f L note ≠ -2) by rw [← HA.out.len]; exact ways_some f L note] at hl
    obtain ⟨o, ho⟩ : ∃ o, o = (lkz note (stT f L n).ways).getD (0, 0) := ⟨_, rfl⟩
    rw [← ho] at hl
    obtain ⟨oa, ob⟩ := o
    dsimp only at hl
    by_cases hz : fz f L note = -2
    · rw [show decide (fz f L note ≠ -2) = false by simp [hz]] at hl
      have HE := Lib.hid (show chnE f L note = 11 by unfold chnE; rw [if_neg (by rw [h0]; simp), if_pos hz])
      clear h0 h1 h3 hz ho hp hT hb1
      go_wp2
      go_ret2
      rw [HE.out]
      exact ⟨(HT.out.hp.alloc (.cells #[.int .i64 oa, .int .i64 ob] 50)).below, .inl ⟨by decide, rfl⟩⟩
    · rw [show decide (fz f L note ≠ -2) = true by simp [hz]] at hl
      have HE := Lib.hid (show chnE f L note = 0 by unfold chnE; rw [if_neg (by rw [h0]; simp), if_neg hz])
      have hT2 := hT.step (bw_new (Below.refl _ _) (.cells #[.int .i64 oa, .int .i64 ob] 50))
      have HT2 := Lib.hid hT2
      have c0 : (w1.alloc (.cells #[.int .i64 oa, .int .i64 ob] 50)).cell? ⟨w.heap.size, 0, none⟩ = some (.int .i64 f) := (hT2.hp.at_ 0 rfl).cell 0
      have c1 : (w1.alloc (.cells #[.int .i64 oa, .int .i64 ob] 50)).cell? ⟨w.heap.size, 1, none⟩ = some (.slice A n cap) := (hT2.hp.at_ 0 rfl).cell 1
      have HC := Lib.hid (tchain_any f note (w.heap.size + 1 + 3) (w.heap.size + 1 + 2) A n cap L _ hT2.t1 hT2.lt hT2.m2 (HA.out.step hT2.hp.below) h3 h2 hz)
      clear h0 h1 h3 hz ho hp hT hb1 hT2
      go_wp2_with fail
      refine HC.out.mono ?_
      rintro e w2 ⟨RA, rc, rfl, hown, hb2⟩
      have HB2 := Lib.hid (HT2.out.hp.step hb2).below
      have HO2 := Lib.hid hown
      clear hown hb2
      go_wp2
      go_ret2
      rw [HE.out]
      exact ⟨HB2.out, .inr ⟨rfl, RA, rc, by rw [List.length_reverse]; rfl, Rd.of_own HO2.out rfl, own_cap HO2.out, own_mxT HO2.out⟩⟩

/-- The furthest note among the first k, and its number of steps. -/
def farS (f : Int) (L : List (Int × Int)) : Nat → Int × Int
  | 0 => (0, -1)
  | k + 1 => if fz f L k ≠ -2 ∧ (farS f L k).2 < ((chB f L k).length : Int) then ((k : Int), ((chB f L k).length : Int)) else farS f L k

/-- What Furthest answers. -/
def furV (f : Int) (L : List (Int × Int)) : Value := .tuple (if runE f L = 0 then #[.int .i64 (farS f L 128).1, .int .i64 (farS f L 128).2, .int .i64 0] else #[.int .i64 0, .int .i64 0, .int .i64 (runE f L)])
set_option maxRecDepth 100000 in
set_option maxHeartbeats 1000000 in
theorem furthest_any (f : Int) (A : Option Addr) (n cap : Nat) (L : List (Int × Int)) (w : World) (h : OArg w w.heap.size A n cap L) :
    Calls Tryd.prog 19 #[.agg #[.int .i64 f, .slice A n cap]] w fun e w' => Below w.heap.size w w' ∧ e = .returned (furV f L) := by
  have hb := bw_new (Below.refl _ w) (.cells #[.int .i64 f, .slice A n cap] 25)
  have HR := Lib.hid (run_arg (f := f) (h.step hb))
  have HB := Lib.hid hb
  have HA := Lib.hid h
  clear h hb
  go_enter Tryd.func19, Tryd.ntmps19
  go_wp2_with fail
  refine HR.out.mono ?_
  rintro e w1 ⟨hb1, ⟨h0, rfl⟩ | ⟨h0, GA, gn, gc, DA, dn, dc, rfl, hp⟩⟩
  · have HB1 := Lib.hid (HB.out.trans (hb1.mono HB.out.size))
    have HE := Lib.hid (show furV f L = .tuple #[.int .i64 0, .int .i64 0, .int .i64 (runE f L)] by unfold furV; rw [if_neg h0])
    obtain ⟨x, hx⟩ : ∃ x, x = runE f L := ⟨_, rfl⟩
    rw [← hx] at h0 HE ⊢
    have hz : (x != 0) = true := by simpa using h0
    clear hb1 h0 hx
    go_wp2
    go_ret3
    exact ⟨HB1.out, by rw [HE.out]; rfl⟩
  · have hT := TnAt.of hb1 hp
    have HE := Lib.hid (show furV f L = .tuple #[.int .i64 (farS f L 128).1, .int .i64 (farS f L 128).2, .int .i64 0] by unfold furV; rw [if_pos h0])
    have HEQ := HE
    clear HE
    rw [World.size_alloc]
    obtain ⟨h1, h2, h3⟩ := runE_ord h0
    rw [HA.out.len] at h2
    have HO := Lib.hid h3
    have HT := Lib.hid hT
    have HWS := Lib.hid (show ∀ k : Int, (lkz k (stT f L n).ways).isSome = decide (fz f L k ≠ -2) by rw [← HA.out.len]; exact ways_some f L)
    have HNL := Lib.hid (show ∀ k : Int, (chB f L k).length ≤ 200 by
      intro k
      rcases chB_len h3 n k (by have := fz_lt f L k; rw [HA.out.len] at this; exact this.2) with h | h
      · have := fz_lt f L k; rw [HA.out.len] at this; omega
      · omega)
    clear h0 h1 h3 hp hT hb1
    go_wp2_with fail
    go_loopw [2, 3, 18] (fun u v x wx => ∃ (k : Nat) (a b : Int), x = .int .i64 (k : Int) ∧ k ≤ 128 ∧ u = .int .i64 a ∧ v = .int .i64 b ∧ farS f L k = (a, b) ∧ TnAt w f L A n cap wx) (fun _ _ x _ => 128 - (intOf x).toNat)
    case atStart => exact ⟨0, 0, -1, rfl, by omega, rfl, rfl, rfl, HT.out⟩
    case round =>
      obtain ⟨k, a, b, rfl, hk, rfl, rfl, hab, hT⟩ := hrel
      have HAB := Lib.hid hab
      have HTR := Lib.hid hT
      clear hab
      by_cases hkl : k < 128
      · have t0 := hT.t0
        have hl := look_wv hT.m1 (k : Int)
        rw [HWS.out] at hl
        obtain ⟨o, ho⟩ : ∃ o, o = (lkz (k : Int) (stT f L n).ways).getD (0, 0) := ⟨_, rfl⟩
        rw [← ho] at hl
        obtain ⟨oa, ob⟩ := o
        dsimp only at hl
        have hT2 := hT.step (bw_new (Below.refl _ _) (.cells #[.int .i64 oa, .int .i64 ob] 50))
        have HT2 := Lib.hid hT2
        by_cases hz : fz f L k = -2
        · rw [show decide (fz f L k ≠ -2) = false by simp [hz]] at hl
          have HE := Lib.hid (show farS f L (k + 1) = (a, b) by unfold farS; rw [if_neg (by simp [hz]), HAB.out])
          clear hz ho hT hT2
          go_wp2
          go_roundw
          case rel => exact ⟨k + 1, a, b, by go_num, by omega, rfl, rfl, HE.out, HT2.out⟩
          case measure => simp [intOf]; omega
        · rw [show decide (fz f L k ≠ -2) = true by simp [hz]] at hl
          have c0 : (wr.alloc (.cells #[.int .i64 oa, .int .i64 ob] 50)).cell? ⟨w.heap.size, 0, none⟩ = some (.int .i64 f) := (hT2.hp.at_ 0 rfl).cell 0
          have c1 : (wr.alloc (.cells #[.int .i64 oa, .int .i64 ob] 50)).cell? ⟨w.heap.size, 1, none⟩ = some (.slice A n cap) := (hT2.hp.at_ 0 rfl).cell 1
          have HC := Lib.hid (tchain_any f k (w.heap.size + 1 + 3) (w.heap.size + 1 + 2) A n cap L _ hT2.t1 hT2.lt hT2.m2 (HA.out.step hT2.hp.below) HO.out h2 hz)
          obtain ⟨c, hc⟩ : ∃ c, c = (chB f L k).length := ⟨_, rfl⟩
          have hc2 : c ≤ 200 := by rw [hc]; exact HNL.out _
          have HCC := Lib.hid hc
          have HE := Lib.hid (show farS f L (k + 1) = if b < (c : Int) then ((k : Int), (c : Int)) else (a, b) by
            rw [show farS f L (k + 1) = if fz f L k ≠ -2 ∧ (farS f L k).2 < ((chB f L k).length : Int) then ((k : Int), ((chB f L k).length : Int)) else farS f L k from rfl, HAB.out, ← hc]
            by_cases q : b < (c : Int)
            · rw [if_pos ⟨hz, q⟩, if_pos q]
            · rw [if_neg (fun e => q e.2), if_neg q])
          clear hz ho hT hT2 hc
          go_wp2_with fail
          refine HC.out.mono ?_
          rintro e w2 ⟨RA, rc, rfl, hown, hb2⟩
          rw [List.length_reverse, ← HCC.out]
          have HT3 := Lib.hid (HT2.out.step hb2)
          clear hown hb2
          by_cases q : b < (c : Int)
          · have HE2 := Lib.hid (HE.out.trans (if_pos q))
            go_wp2
            go_roundw
            case rel => exact ⟨k + 1, k, c, by go_num, by omega, rfl, rfl, HE2.out, HT3.out⟩
            case measure => simp [intOf]; omega
          · have HE2 := Lib.hid (HE.out.trans (if_neg q))
            go_wp2
            go_roundw
            case rel => exact ⟨k + 1, a, b, by go_num, by omega, rfl, rfl, HE2.out, HT3.out⟩
            case measure => simp [intOf]; omega
      · obtain rfl : k = 128 := by omega
        go_wp2
        go_ret3
        exact ⟨HTR.out.hp.below, by rw [HEQ.out, HAB.out]; rfl⟩
end
end Go.Proofs.YtfickhncbahekaaDoor
