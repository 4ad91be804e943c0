/- The law TunerDrifts. Conditions: the steps lie in a slice of at most maxLen cells; the library's table reads as its text lays it. -/
import Derived.Test.YtfickhncbahekaaDoorTunRed
import Derived.Test.YtfickhncbahekaaDoorTunMissed
import Derived.Test.YtfickhncbahekaaDoorTunEq
import Derived.Test.YtfickhncbahekaaDoorTunChain
import Derived.Test.YtfickhncbahekaaDoorTz
import Derived.Deep.QuietTactic
import Derived.BigQuiet
namespace Go.Proofs.YtfickhncbahekaaDoor
open Go.RowKit

theorem ChPost.foundD {w w' : World} {f : Int} {L : List (Int × Int)} {n : Int} {e : Ending} (h : ChPost w f L n e w') (hx : fz f L n ≠ -2) : ∃ (A : Option Addr) (k c : Nat), e = .returned (.tuple #[.slice A k c, .agg #[.int .i64 (wyB f L n).1, .int .i64 (wyB f L n).2], .bool true]) ∧ Below w.heap.size w w' := by
  obtain ⟨hb, ⟨h0, _⟩ | ⟨_, A, c, h1, _, _, _⟩⟩ := h
  · exact absurd h0 hx
  · exact ⟨A, _, c, h1, hb⟩
theorem PairsOr.okD {w w' : World} {x : Int} {l : List (Int × Int)} {e : Ending} (h : PairsOr w x l e w') (hx : x = 0) : ∃ (GA : Option Addr) (gc : Nat), e = .returned (.tuple #[.slice GA l.length gc, .int .i64 0]) ∧ SRd w' w'.heap.size GA l ∧ Below w.heap.size w w' := by
  obtain ⟨hb, ⟨h0, _⟩ | ⟨_, GA, gc, h1, h2, _, _⟩⟩ := h
  · exact absurd hx h0
  · exact ⟨GA, gc, h1, h2, hb⟩
theorem SizesOr.okD {w w' : World} {x : Int} {l : List (Int × Int)} {e : Ending} (h : SizesOr w x l e w') (hx : x = 0) : ∃ (GA : Option Addr) (gc : Nat), e = .returned (.tuple #[.slice GA l.length gc, .int .i64 0]) ∧ w'.ownsRow w.heap.size 81 6 (.slice GA l.length gc) l.length (scs l) ∧ Below w.heap.size w w' := by
  obtain ⟨hb, ⟨h0, _⟩ | ⟨_, GA, gc, h1, h2⟩⟩ := h
  · exact absurd hx h0
  · exact ⟨GA, gc, h1, h2, hb⟩
/-- The cells of a size. -/
def MAt (w : World) (b o : Nat) (x : Int × Int) : Prop := w.cell? ⟨b, o, none⟩ = some (.int .i64 (x.2 - x.1)) ∧ w.cell? ⟨b, o + 1, none⟩ = some (.int .i64 1) ∧ w.cell? ⟨b, o + 2, none⟩ = some (.int .i64 x.1) ∧ w.cell? ⟨b, o + 3, none⟩ = some (.int .i64 1) ∧ w.cell? ⟨b, o + 4, none⟩ = some (.int .i64 0) ∧ w.cell? ⟨b, o + 5, none⟩ = some (.int .i64 1)
theorem scs_len : ∀ D : List (Int × Int), (scs D).length = D.length * 6
  | [] => rfl
  | x :: l => by
    have e : scs (x :: l) = [.int .i64 (x.2 - x.1), .int .i64 1, .int .i64 x.1, .int .i64 1, .int .i64 0, .int .i64 1] ++ scs l := rfl
    rw [e, List.length_append, scs_len l, List.length_cons]
    simp; omega
theorem scs_get : ∀ (D : List (Int × Int)) (i : Nat), i < D.length → ∀ j, j < 6 → (scs D)[i * 6 + j]? = ([.int .i64 ((D.getD i (0, 0)).2 - (D.getD i (0, 0)).1), .int .i64 1, .int .i64 (D.getD i (0, 0)).1, .int .i64 1, .int .i64 0, .int .i64 1] : List Value)[j]?
  | [], i, h, _, _ => by simp at h
  | x :: l, 0, _, j, hj => by
    have e : scs (x :: l) = [.int .i64 (x.2 - x.1), .int .i64 1, .int .i64 x.1, .int .i64 1, .int .i64 0, .int .i64 1] ++ scs l := rfl
    rw [e, List.getElem?_append_left (by simp; omega)]
    simp
  | x :: l, i + 1, h, j, hj => by
    have := scs_get l i (by simpa using h) j hj
    have e : scs (x :: l) = [.int .i64 (x.2 - x.1), .int .i64 1, .int .i64 x.1, .int .i64 1, .int .i64 0, .int .i64 1] ++ scs l := rfl
    rw [e, List.getElem?_append_right (by simp; omega)]
    simp only [List.length_cons, List.length_nil]
    rw [show (i + 1) * 6 + j - (0 + 1 + 1 + 1 + 1 + 1 + 1) = i * 6 + j by omega, this]
    rfl
theorem MAt.of_own {w : World} {base : Nat} {e : TypeId} {A : Option Addr} {n m c : Nat} {D : List (Int × Int)} (h : w.ownsRow base e 6 (.slice A n c) m (scs D)) (hn : m = D.length) (hl : 0 < D.length) : ∃ g, A = some ⟨g, 0, none⟩ ∧ g < w.heap.size ∧ ∀ i, i < D.length → MAt w g (0 + i * 6) (D.getD i (0, 0)) := by
  rcases h.2 with ⟨hv, h0⟩ | ⟨g, cap, cur, hv, hb, hg, hnc, _, hs, ht⟩
  · omega
  · injection hv with h1 h2 h3
    subst h1
    refine ⟨g, rfl, ?_, fun i hi => ?_⟩
    · rcases Nat.lt_or_ge g w.heap.size with hlt | hge
      · exact hlt
      · rw [Array.getElem?_eq_none hge] at hg; cases hg
    · have hx := scs_get D i hi
      have h2 : ∀ j, j < D.length * 6 → w.cell? ⟨g, 0 + j, none⟩ = (scs D)[j]? := fun j hj => by
        rw [cell_of_row w g _ cur e (0, 0) hg, Nat.zero_add, ← ht, List.getElem?_take, if_pos (by omega)]
        simp
      refine ⟨?_, ?_, ?_, ?_, ?_, ?_⟩
      · rw [h2 _ (by omega)]; exact hx 0 (by decide)
      · rw [Nat.add_assoc, h2 _ (by omega)]; exact hx 1 (by decide)
      · rw [Nat.add_assoc, h2 _ (by omega)]; exact hx 2 (by decide)
      · rw [Nat.add_assoc, h2 _ (by omega)]; exact hx 3 (by decide)
      · rw [Nat.add_assoc, h2 _ (by omega)]; exact hx 4 (by decide)
      · rw [Nat.add_assoc, h2 _ (by omega)]; exact hx 5 (by decide)
theorem MAt.keep {w w' : World} {b o : Nat} {x : Int × Int} (h : MAt w b o x) (hk : ∀ o, w'.cell? ⟨b, o, none⟩ = w.cell? ⟨b, o, none⟩) : MAt w' b o x := ⟨(hk _).trans h.1, (hk _).trans h.2.1, (hk _).trans h.2.2.1, (hk _).trans h.2.2.2.1, (hk _).trans h.2.2.2.2.1, (hk _).trans h.2.2.2.2.2⟩
/-- What a redundant step brings. -/
structure DrFacts (f : Int) (L : List (Int × Int)) (q : Nat) (xf xt o1 o2 a1 a2 b1 b2 k : Int) : Prop where
  nf : isN xf
  nt : isN xt
  wy : (wayOf (xt - xf)).getD (0, 0) = (o1, o2) ∧ (wayOf (xt - xf)).isSome = true
  fa : fz f L xf ≠ -2
  fb : fz f L xt ≠ -2
  ya : wyB f L xf = (a1, a2)
  yb : wyB f L xt = (b1, b2)
  d : driftZ f L q = (a1 + o1 - b1, a2 + o2 - b2)
  k1 : a1 + o1 - b1 = 12 * k
  k2 : a2 + o2 - b2 = -7 * k
  kt : (a1 + o1 - b1).tdiv 12 = k
  bd : (-1 ≤ o1 ∧ o1 ≤ 1) ∧ (-1 ≤ o2 ∧ o2 ≤ 1) ∧ (-200 ≤ a1 ∧ a1 ≤ 200) ∧ (-200 ≤ a2 ∧ a2 ≤ 200) ∧ (-200 ≤ b1 ∧ b1 ≤ 200) ∧ (-200 ≤ b2 ∧ b2 ≤ 200)
theorem DrFacts.of {f : Int} {L : List (Int × Int)} (ho : Ord f L) (hl : L.length ≤ 200) {q : Nat} (hq : q ∈ redN f L L.length) :
    ∃ o1 o2 a1 a2 b1 b2 k : Int, DrFacts f L q (L.getD q (0, 0)).1 (L.getD q (0, 0)).2 o1 o2 a1 a2 b1 b2 k := by
  obtain ⟨h1, h2⟩ := redN_lt hq
  obtain ⟨n1, n2, ⟨x, hx⟩, hfr⟩ := chkE_zero (ho q h1)
  have hfa := fz_of_first (f := f) (by omega) hfr
  have hfb := fz_of_first (f := f) (by omega) h2
  have w := wayOf_semi hx
  have a := wyB_semi ho L.length (L.getD q (0, 0)).1 (fz_lt f L _).2 hfa
  have b := wyB_semi ho L.length (L.getD q (0, 0)).2 (fz_lt f L _).2 hfb
  have ds := drift_semi ho h1 h2
  have hd : driftZ f L q = ((wyB f L (L.getD q (0, 0)).1).1 + x.1 - (wyB f L (L.getD q (0, 0)).2).1, (wyB f L (L.getD q (0, 0)).1).2 + x.2 - (wyB f L (L.getD q (0, 0)).2).2) := by
    unfold driftZ subW addW
    rw [hx]
    simp only [Option.getD_some]
    rw [Int.add_comm x.1, Int.add_comm x.2]
  rw [hd] at ds
  have dk := drift_k ds.1
  obtain ⟨x1, x2⟩ := x
  refine ⟨x1, x2, (wyB f L (L.getD q (0, 0)).1).1, (wyB f L (L.getD q (0, 0)).1).2, (wyB f L (L.getD q (0, 0)).2).1, (wyB f L (L.getD q (0, 0)).2).2, _, n1, n2, by rw [hx]; exact ⟨rfl, rfl⟩, hfa, hfb, rfl, rfl, hd, dk.1, dk.2, rfl, ?_⟩
  simp only at w a b
  omega
theorem redN_get {f : Int} {L : List (Int × Int)} {m i : Nat} (h : i < (redN f L m).length) : (redN f L m).getD i 0 ∈ redN f L m ∧ (rzN f L m).getD i 0 = (((redN f L m).getD i 0 : Nat) : Int) ∧ ((redN f L m).map (driftZ f L)).getD i (0, 0) = driftZ f L ((redN f L m).getD i 0) := by
  refine ⟨?_, ?_, ?_⟩
  · rw [List.getD_eq_getElem?_getD, List.getElem?_eq_getElem h, Option.getD_some]; exact List.getElem_mem h
  · unfold rzN; simp [List.getD_eq_getElem?_getD, List.getElem?_map, List.getElem?_eq_getElem h]
  · simp [List.getD_eq_getElem?_getD, List.getElem?_map, List.getElem?_eq_getElem h]

set_option maxRecDepth 1000000 in
set_option maxHeartbeats 8000000 in
/-- The order is long, or not right. -/
theorem ldrifts_off (f : Int) (A : Option Addr) (m cap : Nat) (L : List (Int × Int)) (w : World) (ha : OArg w w.heap.size A m cap L) (ht : DTab w) (hl : (40 : Int) < m ∨ runE f L ≠ 0)
    (HKN : ∀ W, DTab W → Calls Tryd.prog 10 #[] W fun e w' => e = .returned (.bool true) ∧ Below W.heap.size W w') :
    Calls Tryd.prog 8 #[.agg #[.int .i64 f, .slice A m cap]] w fun e w' => e = .returned (.bool true) ∧ Below w.heap.size w w' := by
  have HK := Lib.hid HKN
  have hm0 := (Hp.start w).new 25 [.int .i64 f, .slice A m cap]
  simp only [List.nil_append] at hm0
  have HM := Lib.hid hm0
  have HT := Lib.hid (ht.below hm0.below)
  have HA := Lib.hid ha
  obtain ⟨x, hxx⟩ : ∃ x, x = runE f L := ⟨_, rfl⟩
  have H1 := Lib.hid (fun W (hW : OArg W W.heap.size A m cap L) => lcheck_any f A m cap L W hW)
  rw [← hxx] at H1 hl
  clear hm0 ha ht hxx HKN
  go_enter Tryd.func8, Tryd.ntmps8
  go_wp2_with fail
  refine (HK.out _ HT.out).mono ?_
  rintro e w1 ⟨rfl, hb1⟩
  have HM1 := Lib.hid (HM.out.step hb1)
  have HT1 := Lib.hid (HT.out.below hb1)
  have HA1 := Lib.hid (HA.out.step HM1.out.below)
  have c0 : w1.cell? ⟨w.heap.size, 0, none⟩ = some (.int .i64 f) := (HM1.out.at_ 0 rfl).cell 0
  have c1 : w1.cell? ⟨w.heap.size, 1, none⟩ = some (.slice A m cap) := (HM1.out.at_ 0 rfl).cell 1
  clear hb1
  by_cases hm : (40 : Int) < m
  · clear hl
    go_wp2_with fail
    refine (HK.out _ HT1.out).mono ?_
    rintro e w2 ⟨rfl, hb2⟩
    have HB2 := Lib.hid (HM1.out.step hb2).below
    clear hb2
    go_wp2
    go_ret
    exact ⟨rfl, HB2.out⟩
  · have hx : x ≠ 0 := hl.resolve_left hm
    clear hl
    go_wp2_with fail
    refine (H1.out _ HA1.out).mono ?_
    rintro e w2 ⟨rfl, hb2⟩
    have HM2 := Lib.hid (HM1.out.step hb2)
    have HT2 := Lib.hid (HT1.out.below hb2)
    have hz : (x != 0) = true := by simpa using hx
    clear c0 c1 hb2 hx
    go_wp2_with fail
    refine (HK.out _ HT2.out).mono ?_
    rintro e w3 ⟨rfl, hb3⟩
    have HB3 := Lib.hid (HM2.out.step hb3).below
    clear hb3
    go_wp2
    go_ret
    exact ⟨rfl, HB3.out⟩

set_option maxRecDepth 1000000 in
set_option maxHeartbeats 8000000 in
/-- The order is right. -/
theorem ldrifts_ok (f : Int) (A : Option Addr) (m cap : Nat) (L : List (Int × Int)) (w : World) (ha : OArg w w.heap.size A m cap L) (ht : DTab w) (hl : ¬ (40 : Int) < m) (hx : runE f L = 0)
    (HKN : ∀ W, DTab W → Calls Tryd.prog 10 #[] W fun e w' => e = .returned (.bool true) ∧ Below W.heap.size W w') :
    Calls Tryd.prog 8 #[.agg #[.int .i64 f, .slice A m cap]] w fun e w' => e = .returned (.bool true) ∧ Below w.heap.size w w' := by
  have HK := Lib.hid HKN
  have hm0 := (Hp.start w).new 25 [.int .i64 f, .slice A m cap]
  simp only [List.nil_append] at hm0
  have HM := Lib.hid hm0
  have HT := Lib.hid (ht.below hm0.below)
  have HA := Lib.hid ha
  have hml : m ≤ 40 := by omega
  obtain ⟨hfn, _, ho⟩ := runE_ord hx
  obtain ⟨R, hR⟩ : ∃ R, R = redN f L m := ⟨_, rfl⟩
  have hag : (stT f L m).drift = R.map (driftZ f L) := by rw [hR]; exact (st_again ho m (by rw [ha.len]; exact Nat.le_refl _)).2
  have hrz : rzN f L m = R.map (fun i : Nat => (i : Int)) := by rw [hR]; rfl
  have H1 := Lib.hid (fun W (hW : OArg W W.heap.size A m cap L) => lcheck_any f A m cap L W hW)
  have H3 := Lib.hid (fun W (hW : OArg W W.heap.size A m cap L) => (drifts_any f A m cap L W hW).mono fun e w' h => h.okD hx)
  have H4 := Lib.hid (fun W (hW : OArg W W.heap.size A m cap L) => (missed_any f A m cap L W hW).mono fun e w' h => h.okD hx)
  have H5 := Lib.hid (fun W (hW : OArg W W.heap.size A m cap L) => lredundant_any f A m cap L W hW (by omega))
  have H7 := Lib.hid (fun k W (hW : OArg W W.heap.size A m cap L) => lchain_any f k A m cap L W hW ho (by omega))
  have HW := Lib.hid (fun a b W ha hb => lway_any a b W ha hb)
  have HOF := Lib.hid (fun (x y : Int) W hx hy => iof_small x y W hx hy)
  have HDF := Lib.hid (fun i (h : i < R.length) => by
    have h' : i < (redN f L m).length := by rw [← hR]; exact h
    have hg := redN_get h'
    have hm := redN_lt hg.1
    have hd := DrFacts.of ho (by rw [ha.len]; omega) (q := (redN f L m).getD i 0) (by rw [ha.len]; exact hg.1)
    rw [← hR] at hg hm hd
    exact And.intro hg.2.2 (And.intro hm.1 hd))
  rw [hag] at H3 H4
  rw [hrz] at H5
  rw [hx] at H1
  obtain ⟨rn, hrn⟩ : ∃ rn, rn = R.length := ⟨_, rfl⟩
  have HRN := Lib.hid hrn
  have hrl : rn ≤ 40 := by rw [hrn, hR]; have := rzN_len f L m; unfold rzN at this; rw [List.length_map] at this; omega
  simp only [List.length_map] at H3 H4
  rw [← hrn] at H3 H4
  clear hm0 ha ht hx ho hfn hag hrz hR hrn HKN
  go_enter Tryd.func8, Tryd.ntmps8
  go_wp2_with fail
  refine (HK.out _ HT.out).mono ?_
  rintro e w1 ⟨rfl, hb1⟩
  have HM1 := Lib.hid (HM.out.step hb1)
  have HA1 := Lib.hid (HA.out.step HM1.out.below)
  have c0 : w1.cell? ⟨w.heap.size, 0, none⟩ = some (.int .i64 f) := (HM1.out.at_ 0 rfl).cell 0
  have c1 : w1.cell? ⟨w.heap.size, 1, none⟩ = some (.slice A m cap) := (HM1.out.at_ 0 rfl).cell 1
  clear hb1
  go_wp2_with fail
  refine (H1.out _ HA1.out).mono ?_
  rintro e w2 ⟨rfl, hb2⟩
  have HM2 := Lib.hid (HM1.out.step hb2)
  have HA2 := Lib.hid (HA.out.step HM2.out.below)
  clear c0 c1 hb2
  have c0 : w2.cell? ⟨w.heap.size, 0, none⟩ = some (.int .i64 f) := (HM2.out.at_ 0 rfl).cell 0
  have c1 : w2.cell? ⟨w.heap.size, 1, none⟩ = some (.slice A m cap) := (HM2.out.at_ 0 rfl).cell 1
  go_wp2_with fail
  refine (H3.out _ HA2.out).mono ?_
  rintro e w3 ⟨DA, dc, rfl, hsd, hb3⟩
  have HM3 := Lib.hid (HM2.out.step hb3)
  have HA3 := Lib.hid (HA.out.step HM3.out.below)
  have HSD := Lib.hid hsd
  clear c0 c1 hb3 hsd
  have c0 : w3.cell? ⟨w.heap.size, 0, none⟩ = some (.int .i64 f) := (HM3.out.at_ 0 rfl).cell 0
  have c1 : w3.cell? ⟨w.heap.size, 1, none⟩ = some (.slice A m cap) := (HM3.out.at_ 0 rfl).cell 1
  go_wp2_with fail
  refine (H4.out _ HA3.out).mono ?_
  rintro e w4 ⟨MA, mc, rfl, hown, hb4⟩
  have HM4 := Lib.hid (HM3.out.step hb4)
  have HA4 := Lib.hid (HA.out.step HM4.out.below)
  have HSD4 := Lib.hid (HSD.out.below hb4)
  have HMO := Lib.hid hown
  have hz4 := hb4.size
  clear c0 c1 hb4 hown
  have c0 : w4.cell? ⟨w.heap.size, 0, none⟩ = some (.int .i64 f) := (HM4.out.at_ 0 rfl).cell 0
  have c1 : w4.cell? ⟨w.heap.size, 1, none⟩ = some (.slice A m cap) := (HM4.out.at_ 0 rfl).cell 1
  go_wp2_with fail
  refine (H5.out _ HA4.out).mono ?_
  rintro e w5 ⟨RA, rc, rfl, hown, hb5⟩
  rw [List.length_map, ← HRN.out] at hown ⊢
  have HM5 := Lib.hid (HM4.out.step hb5)
  have HSD5 := Lib.hid (HSD4.out.below (hb5.mono hz4))
  have HMO5 := Lib.hid (own_below HMO.out hb5)
  have HRD := Lib.hid (Rd.of_own hown (by rw [List.length_map]; exact HRN.out))
  have hz5 := hb5.size
  clear c0 c1 hb5 hown
  go_wp2_with fail
  go_loopw [8] (fun v wx => ∃ (i : Nat), v = .int .i64 (i : Int) ∧ i ≤ rn ∧ Below w5.heap.size w5 wx) (fun v _ => rn - (intOf v).toNat)
  case atStart => exact ⟨0, rfl, by omega, Below.refl _ _⟩
  case round =>
    obtain ⟨i, rfl, hi, hbw⟩ := hrel
    have HBW := Lib.hid hbw
    have HMR := Lib.hid (HM5.out.step hbw)
    by_cases hin : i < rn
    · obtain ⟨hdr, hqm, o1, o2, a1, a2, b1, b2, k, hd⟩ := HDF.out i (by rw [← HRN.out]; exact hin)
      obtain ⟨q, hq⟩ : ∃ q, q = R.getD i 0 := ⟨_, rfl⟩
      rw [← hq] at hdr hqm hd
      obtain ⟨b, off, rfl, hbl, hs⟩ := HA.out.rd.at_ (by rw [HA.out.len]; omega)
      have hxs := (hs q (by rw [HA.out.len]; exact hqm)).keep (fun o => (HMR.out.below.cell (p := ⟨b, o, none⟩) hbl))
      obtain ⟨xf, hxf⟩ : ∃ x, x = (L.getD q (0, 0)).1 := ⟨_, rfl⟩
      obtain ⟨xt, hxt⟩ : ∃ x, x = (L.getD q (0, 0)).2 := ⟨_, rfl⟩
      rw [← hxf, ← hxt] at hd
      have x0 : wr.cell? ⟨b, off + q * 2, none⟩ = some (.int .i64 xf) := by rw [hxf]; exact hxs.1
      have x1 : wr.cell? ⟨b, off + q * 2 + 1, none⟩ = some (.int .i64 xt) := by rw [hxt]; exact hxs.2
      obtain ⟨rb, ro, rfl, hrb, hrs⟩ := HRD.out.at_ (by rw [List.length_map, ← HRN.out]; omega)
      have r0 : wr.cell? ⟨rb, ro + i, none⟩ = some (.int .i64 (q : Int)) := by
        have := (hbw.cell (p := ⟨rb, ro + i, none⟩) hrb).trans (hrs i (by rw [List.length_map, ← HRN.out]; omega))
        rw [this, hq]
        simp [List.getD_eq_getElem?_getD, List.getElem?_eq_getElem (show i < R.length by rw [← HRN.out]; exact hin)]
      have HX := Lib.hid (And.intro x0 x1)
      have hnw := bw_new (Below.refl wr.heap.size wr) (.cells #[.int .i64 0, .int .i64 0] 27)
      have y0 := (hnw.cell (p := ⟨b, off + q * 2, none⟩) (Nat.lt_of_lt_of_le hbl HMR.out.below.size)).trans x0
      have y1 := (hnw.cell (p := ⟨b, off + q * 2 + 1, none⟩) (Nat.lt_of_lt_of_le hbl HMR.out.below.size)).trans x1
      have s0 := (hnw.cell (p := ⟨rb, ro + i, none⟩) (Nat.lt_of_lt_of_le hrb hbw.size)).trans r0
      have HD := Lib.hid hd
      have HDR := Lib.hid hdr
      have c1 : wr.cell? ⟨w.heap.size, 1, none⟩ = some (.slice (some ⟨b, off, none⟩) m cap) := (HMR.out.at_ 0 rfl).cell 1
      have d1 := (hnw.cell (p := ⟨w.heap.size, 1, none⟩) (HMR.out.at_ 0 rfl).lt).trans c1
      have hi0 : (0 : Int) ≤ (i : Int) := by omega
      have hin2 : (i : Int) < (rn : Int) := by omega
      have hq0 : (0 : Int) ≤ (q : Int) := by omega
      have hqm2 : (q : Int) < (m : Int) := by omega
      clear hbw hs hxs hxf hxt hrs hd hdr hq hnw
      go_wp2_with fail
      go_region
      clear x0 x1 r0 y0 y1 s0 c1 d1
      have hm6 := (HMR.out.new 27 [.int .i64 xf, .int .i64 xt]).drew
      have hb6 := bw_drew (Below.alloc (Below.refl wr.heap.size wr) (Nat.le_refl _) (.cells #[.int .i64 xf, .int .i64 xt] 27))
      simp only [List.cons_append, List.nil_append] at hm6
      obtain ⟨W6, hW6⟩ : ∃ W6, W6 = (wr.alloc (Obj.cells #[.int .i64 xf, .int .i64 xt] 27)).drew := ⟨_, rfl⟩
      rw [← hW6] at hm6 hb6 ⊢
      have HB6 := Lib.hid (HBW.out.trans (hb6.mono HBW.out.size))
      have HM6 := Lib.hid hm6
      have e0 : W6.cell? ⟨wr.heap.size, 0, none⟩ = some (.int .i64 xf) := (hm6.at_ 1 rfl).cell 0
      have e1 : W6.cell? ⟨wr.heap.size, 1, none⟩ = some (.int .i64 xt) := (hm6.at_ 1 rfl).cell 1
      have HWX := Lib.hid (fun W => HW.out xf xt W HD.out.nf HD.out.nt)
      rw [HD.out.wy.1, HD.out.wy.2, show wv (o1, o2) = .agg #[.int .i64 o1, .int .i64 o2] from rfl, show wv (xf, xt) = .agg #[.int .i64 xf, .int .i64 xt] from rfl] at HWX
      obtain ⟨⟨p1, p2⟩, ⟨p3, p4⟩, ⟨p5, p6⟩, ⟨p7, p8⟩, ⟨p9, p10⟩, p11, p12⟩ := HD.out.bd
      clear hm6 hb6 hW6
      go_wp2_with fail
      refine (HWX.out _).mono ?_
      rintro e w7 ⟨rfl, hb7⟩
      have hm7 := (HM6.out.step hb7).new 50 [.int .i64 o1, .int .i64 o2]
      have hx7 := bw_new (HB6.out.trans (hb7.mono HB6.out.size)) (.cells #[.int .i64 o1, .int .i64 o2] 50)
      simp only [List.cons_append, List.nil_append] at hm7
      clear e0 e1 hb7
      have c0 : (w7.alloc (.cells #[.int .i64 o1, .int .i64 o2] 50)).cell? ⟨w.heap.size, 0, none⟩ = some (.int .i64 f) := (hm7.at_ 0 rfl).cell 0
      have c1 : (w7.alloc (.cells #[.int .i64 o1, .int .i64 o2] 50)).cell? ⟨w.heap.size, 1, none⟩ = some (.slice (some ⟨b, off, none⟩) m cap) := (hm7.at_ 0 rfl).cell 1
      have e0 : (w7.alloc (.cells #[.int .i64 o1, .int .i64 o2] 50)).cell? ⟨wr.heap.size, 0, none⟩ = some (.int .i64 xf) := (hm7.at_ 1 rfl).cell 0
      have HM7 := Lib.hid hm7
      have HB7 := Lib.hid hx7
      have HA7 := Lib.hid (HA.out.step hm7.below)
      clear hm7 hx7
      go_wp2_with fail
      refine (H7.out xf _ HA7.out).mono ?_
      intro e w8 h8
      obtain ⟨KA, kn, kc, rfl, hb8⟩ := h8.foundD HD.out.fa
      rw [HD.out.ya]
      have hm8 := (HM7.out.step hb8).new 50 [.int .i64 a1, .int .i64 a2]
      have hx8 := bw_new (HB7.out.trans (hb8.mono HB7.out.size)) (.cells #[.int .i64 a1, .int .i64 a2] 50)
      simp only [List.cons_append, List.nil_append] at hm8
      clear c0 c1 e0 hb8 h8
      have c0 : (w8.alloc (.cells #[.int .i64 a1, .int .i64 a2] 50)).cell? ⟨w.heap.size, 0, none⟩ = some (.int .i64 f) := (hm8.at_ 0 rfl).cell 0
      have c1 : (w8.alloc (.cells #[.int .i64 a1, .int .i64 a2] 50)).cell? ⟨w.heap.size, 1, none⟩ = some (.slice (some ⟨b, off, none⟩) m cap) := (hm8.at_ 0 rfl).cell 1
      have e0 : (w8.alloc (.cells #[.int .i64 a1, .int .i64 a2] 50)).cell? ⟨wr.heap.size, 1, none⟩ = some (.int .i64 xt) := (hm8.at_ 1 rfl).cell 1
      have HM8 := Lib.hid hm8
      have HB8 := Lib.hid hx8
      have HA8 := Lib.hid (HA.out.step hm8.below)
      clear hm8 hx8
      go_wp2_with fail
      refine (H7.out xt _ HA8.out).mono ?_
      intro e w9 h9
      obtain ⟨LA, ln, lc, rfl, hb9⟩ := h9.foundD HD.out.fb
      rw [HD.out.yb]
      have hm9 := (HM8.out.step hb9).new 50 [.int .i64 b1, .int .i64 b2]
      have hx9 := bw_new (HB8.out.trans (hb9.mono HB8.out.size)) (.cells #[.int .i64 b1, .int .i64 b2] 50)
      simp only [List.cons_append, List.nil_append] at hm9
      clear c0 c1 e0 hb9 h9
      have o0 : (w9.alloc (.cells #[.int .i64 b1, .int .i64 b2] 50)).cell? ⟨w7.heap.size, 0, none⟩ = some (.int .i64 o1) := (hm9.at_ 2 rfl).cell 0
      have o1' : (w9.alloc (.cells #[.int .i64 b1, .int .i64 b2] 50)).cell? ⟨w7.heap.size, 1, none⟩ = some (.int .i64 o2) := (hm9.at_ 2 rfl).cell 1
      have a0 : (w9.alloc (.cells #[.int .i64 b1, .int .i64 b2] 50)).cell? ⟨w8.heap.size, 0, none⟩ = some (.int .i64 a1) := (hm9.at_ 3 rfl).cell 0
      have a1' : (w9.alloc (.cells #[.int .i64 b1, .int .i64 b2] 50)).cell? ⟨w8.heap.size, 1, none⟩ = some (.int .i64 a2) := (hm9.at_ 3 rfl).cell 1
      have HM9 := Lib.hid hm9
      have HB9 := Lib.hid hx9
      clear hm9 hx9
      obtain ⟨D1, hD1⟩ : ∃ D, D = a1 + o1 - b1 := ⟨_, rfl⟩
      obtain ⟨D2, hD2⟩ : ∃ D, D = a2 + o2 - b2 := ⟨_, rfl⟩
      have hd1 : -6000 ≤ D1 - 401 ∧ D1 ≤ 401 := by omega
      have hd2 : -6000 ≤ D2 - 401 ∧ D2 ≤ 401 := by omega
      have HDD := Lib.hid (HDR.out.trans (HD.out.d.trans (by rw [← hD1, ← hD2] : _ = (D1, D2))))
      have hk1 : D1 = 12 * k := by rw [hD1]; exact HD.out.k1
      have hk2 : D2 = -7 * k := by rw [hD2]; exact HD.out.k2
      have hkt : D1.tdiv 12 = k := by rw [hD1]; exact HD.out.kt
      have HKK := Lib.hid (And.intro hk1 (And.intro hk2 hkt))
      have HDN := Lib.hid (And.intro hD1 hD2)
      clear hk1 hk2 hkt hD1 hD2
      go_wp2_with fail
      obtain ⟨hD1, hD2⟩ := HDN.out
      rw [← hD1, ← hD2]
      clear hD1 hD2 o0 o1' a0 a1'
      have hm9 := HM9.out.new 50 [.int .i64 D1, .int .i64 D2]
      have hx9 := bw_new HB9.out (.cells #[.int .i64 D1, .int .i64 D2] 50)
      rw [World.size_alloc] at hm9
      simp only [List.cons_append, List.nil_append] at hm9
      refine (HOF.out (D2 - D1) D1 _ (by omega) (by omega)).mono ?_
      rintro e w10 ⟨rfl, hb10⟩
      have hm10 := (hm9.step hb10).new 81 [.int .i64 (D2 - D1), .int .i64 1, .int .i64 D1, .int .i64 1, .int .i64 0, .int .i64 1]
      have hx10 := bw_new (hx9.trans (hb10.mono hx9.size)) (.cells #[.int .i64 (D2 - D1), .int .i64 1, .int .i64 D1, .int .i64 1, .int .i64 0, .int .i64 1] 81)
      simp only [List.cons_append, List.nil_append] at hm10
      obtain ⟨W, hW⟩ : ∃ W, W = w10.alloc (Obj.cells #[.int .i64 (D2 - D1), .int .i64 1, .int .i64 D1, .int .i64 1, .int .i64 0, .int .i64 1] 81) := ⟨_, rfl⟩
      rw [← hW] at hm10 hx10
      have HWW := Lib.hid hW
      have HB := Lib.hid (HM5.out.step hx10).below
      have HX := Lib.hid hx10
      obtain ⟨db, dof, rfl, hdb, hds⟩ := HSD5.out.at_ (by rw [List.length_map, ← HRN.out]; omega)
      have hda := (hds i (by rw [List.length_map, ← HRN.out]; omega)).keep (fun o => (hx10.cell (p := ⟨db, o, none⟩) (Nat.lt_of_lt_of_le hdb (Nat.le_trans hz4 hz5))))
      rw [HDD.out] at hda
      obtain ⟨mb, rfl, hmb, hms⟩ := MAt.of_own HMO5.out (by rw [List.length_map]; exact HRN.out) (by rw [List.length_map, ← HRN.out]; omega)
      have hma := (hms i (by rw [List.length_map, ← HRN.out]; omega)).keep (fun o => (hx10.cell (p := ⟨mb, o, none⟩) hmb))
      rw [HDD.out] at hma
      have d0 : W.cell? ⟨db, dof + i * 2, none⟩ = some (.int .i64 D1) := hda.1
      have d1 : W.cell? ⟨db, dof + i * 2 + 1, none⟩ = some (.int .i64 D2) := hda.2
      obtain ⟨m0, m1, m2, m3, m4, m5⟩ := hma
      dsimp only at m0 m1 m2 m3 m4 m5
      rw [Nat.zero_add] at m0 m1 m2 m3 m4 m5
      have g0 : W.cell? ⟨w9.heap.size + 1, 0, none⟩ = some (.int .i64 D1) := (hm10.at_ 5 rfl).cell 0
      have g1 : W.cell? ⟨w9.heap.size + 1, 1, none⟩ = some (.int .i64 D2) := (hm10.at_ 5 rfl).cell 1
      have f0 : W.cell? ⟨w10.heap.size, 0, none⟩ = some (.int .i64 (D2 - D1)) := (hm10.at_ 6 rfl).cell 0
      have f1 : W.cell? ⟨w10.heap.size, 1, none⟩ = some (.int .i64 1) := (hm10.at_ 6 rfl).cell 1
      have f2 : W.cell? ⟨w10.heap.size, 2, none⟩ = some (.int .i64 D1) := (hm10.at_ 6 rfl).cell 2
      have f3 : W.cell? ⟨w10.heap.size, 3, none⟩ = some (.int .i64 1) := (hm10.at_ 6 rfl).cell 3
      have f4 : W.cell? ⟨w10.heap.size, 4, none⟩ = some (.int .i64 0) := (hm10.at_ 6 rfl).cell 4
      have f5 : W.cell? ⟨w10.heap.size, 5, none⟩ = some (.int .i64 1) := (hm10.at_ 6 rfl).cell 5
      have hq1 := fun W => neq_way W D1 D2 D1 D2
      rw [eqB_self] at hq1
      simp only [Bool.not_true] at hq1
      have hq2 := fun W => neq_sizeT W (D2 - D1) 1 D1 1 0 1
      obtain ⟨k1, k2, k3⟩ := HKK.out
      have w1' : wrap64 (D1.tdiv 12) = k := by rw [k3]; exact IntWalk.wrap64_in _ (by omega)
      have w2' : wrap64 (12 * k) = D1 := by rw [k1]; exact IntWalk.wrap64_in _ (by omega)
      have w3' : wrap64 (-7 * k) = D2 := by rw [k2]; exact IntWalk.wrap64_in _ (by omega)
      clear hm9 hx9 hb10 hm10 hx10 hda hdb hds hmb hms k1 k2 k3 hd1 hd2 p1 p2 p3 p4 p5 p6 p7 p8 p9 p10 p11 p12
      simp only [hW] at d0 d1 m0 m1 m2 m3 m4 m5 g0 g1 f0 f1 f2 f3 f4 f5
      clear hW
      go_wp2_with fail
      go_quiet (fail)
      go_wp2
      go_roundw
      case rel => exact ⟨i + 1, by go_num, by omega, by rw [← HWW.out]; exact bw_drewN HX.out nq⟩
      case measure => simp [intOf]; omega
    · obtain rfl : i = rn := by omega
      have HBB := Lib.hid HMR.out.below
      clear hbw
      go_wp2
      go_ret
      exact ⟨rfl, HBB.out⟩
theorem ldrifts_any (f : Int) (A : Option Addr) (m cap : Nat) (L : List (Int × Int)) (w : World) (ha : OArg w w.heap.size A m cap L) (ht : DTab w)
    (HKN : ∀ W, DTab W → Calls Tryd.prog 10 #[] W fun e w' => e = .returned (.bool true) ∧ Below W.heap.size W w') :
    Calls Tryd.prog 8 #[.agg #[.int .i64 f, .slice A m cap]] w fun e w' => e = .returned (.bool true) ∧ Below w.heap.size w w' := by
  by_cases hl : (40 : Int) < m ∨ runE f L ≠ 0
  · exact ldrifts_off f A m cap L w ha ht hl HKN
  · exact ldrifts_ok f A m cap L w ha ht (fun e => hl (.inl e)) (Classical.byContradiction fun e => hl (.inr e)) HKN
end Go.Proofs.YtfickhncbahekaaDoor
