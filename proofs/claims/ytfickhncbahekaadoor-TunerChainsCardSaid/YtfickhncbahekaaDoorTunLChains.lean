/- The law TunerChains. Conditions: the steps lie in a slice of at most maxLen cells; the library's table reads as its text lays it. -/
import Derived.Test.YtfickhncbahekaaDoorTunFur
import Derived.Test.YtfickhncbahekaaDoorTunFarNum
import Derived.Test.YtfickhncbahekaaDoorTunEq
import Derived.Test.YtfickhncbahekaaDoorTunKnown
namespace Go.Proofs.YtfickhncbahekaaDoor
open Go.RowKit

theorem ChPost.none {w w' : World} {f : Int} {L : List (Int × Int)} {n : Int} {e : Ending} (h : ChPost w f L n e w') (hx : fz f L n = -2) : e = .returned (.tuple #[.slice none 0 0, .agg #[.int .i64 0, .int .i64 0], .bool false]) ∧ Below w.heap.size w w' := by
  obtain ⟨hb, ⟨_, he⟩ | ⟨h0, _⟩⟩ := h
  · exact ⟨he, hb⟩
  · exact absurd hx h0
theorem ChPost.found {w w' : World} {f : Int} {L : List (Int × Int)} {n : Int} {e : Ending} (h : ChPost w f L n e w') (hx : fz f L n ≠ -2) : ∃ (A : Option Addr) (c : Nat), e = .returned (.tuple #[.slice A (chB f L n).length c, .agg #[.int .i64 (wyB f L n).1, .int .i64 (wyB f L n).2], .bool true]) ∧ Rd i64v w' w'.heap.size A (chB f L n).reverse ∧ (chB f L n).length ≤ c ∧ c ≤ maxLen ∧ Below w.heap.size w w' := by
  obtain ⟨hb, ⟨h0, _⟩ | ⟨_, A, c, h1, h2, h3, h4⟩⟩ := h
  · exact absurd h0 hx
  · exact ⟨A, c, h1, h2, h3, h4, hb⟩
theorem IntsOr.errC {w w' : World} {x : Int} {l : List Int} {e : Ending} (h : IntsOr w x l e w') (hx : x ≠ 0) : e = .returned (.tuple #[.slice none 0 0, .int .i64 x]) ∧ Below w.heap.size w w' := by
  obtain ⟨hb, ⟨_, he⟩ | ⟨h0, _⟩⟩ := h
  · exact ⟨he, hb⟩
  · exact absurd h0 hx
theorem IntsOr.okC {w w' : World} {x : Int} {l : List Int} {e : Ending} (h : IntsOr w x l e w') (hx : x = 0) : ∃ (GA : Option Addr) (gc : Nat), e = .returned (.tuple #[.slice GA l.length gc, .int .i64 0]) ∧ Rd i64v w' w'.heap.size GA l ∧ l.length ≤ gc ∧ gc ≤ maxLen ∧ Below w.heap.size w w' := by
  obtain ⟨hb, ⟨h0, _⟩ | ⟨_, GA, gc, h1, h2, h3, h4⟩⟩ := h
  · exact absurd hx h0
  · exact ⟨GA, gc, h1, h2, h3, h4, hb⟩
/-- The law's walk over the notes. -/
def tnT (f : Int) (L : List (Int × Int)) (n : Int) : Bool := decide (fz f L n ≠ -2)
def tnG (f : Int) (L : List (Int × Int)) (n : Int) : Int := ((chB f L n).length : Int)
theorem farS_up (f : Int) (L : List (Int × Int)) : ∀ k : Nat, farS f L k = upS (tnT f L) (tnG f L) k
  | 0 => rfl
  | k + 1 => by
    rw [show farS f L (k + 1) = if fz f L k ≠ -2 ∧ (farS f L k).2 < ((chB f L k).length : Int) then ((k : Int), ((chB f L k).length : Int)) else farS f L k from rfl, farS_up f L k]
    rw [show upS (tnT f L) (tnG f L) (k + 1) = if tnT f L k = true ∧ (upS (tnT f L) (tnG f L) k).2 < tnG f L k then ((k : Int), tnG f L k) else upS (tnT f L) (tnG f L) k from rfl]
    unfold tnT tnG
    simp only [decide_eq_true_eq]
theorem fz_self (f : Int) (L : List (Int × Int)) : fz f L f = -1 := by unfold fz firstZ; rw [if_pos rfl]
theorem farS_dn {f : Int} {L : List (Int × Int)} (hf : isN f) : farS f L 128 = dnS (tnT f L) (tnG f L) f 128 := by
  rw [farS_up]
  refine up_dn (fun n => by unfold tnG; omega) ?_ ?_ hf.1 (by have := hf.2; omega)
  · unfold tnG; rw [(chB_stop (n := f) (f := f) (L := L) (by rw [fz_self]; decide)).1]; rfl
  · unfold tnT; rw [fz_self]; rfl
theorem dnS_no {f : Int} {L : List (Int × Int)} {k : Nat} {a b : Int} (h : dnS (tnT f L) (tnG f L) f k = (a, b)) (hz : fz f L k = -2) : dnS (tnT f L) (tnG f L) f (k + 1) = (a, b) := by
  rw [show dnS (tnT f L) (tnG f L) f (k + 1) = if tnT f L k = true ∧ ((dnS (tnT f L) (tnG f L) f k).2 < tnG f L k ∨ (tnG f L k = (dnS (tnT f L) (tnG f L) f k).2 ∧ (k : Int) < (dnS (tnT f L) (tnG f L) f k).1)) then ((k : Int), tnG f L k) else dnS (tnT f L) (tnG f L) f k from rfl, h]
  exact if_neg fun e => by have := e.1; unfold tnT at this; simp [hz] at this
theorem dnS_at {f : Int} {L : List (Int × Int)} {k : Nat} {a b : Int} {c : Nat} (h : dnS (tnT f L) (tnG f L) f k = (a, b)) (hz : fz f L k ≠ -2) (hc : c = (chB f L k).length) :
    dnS (tnT f L) (tnG f L) f (k + 1) = if b < (c : Int) ∨ ((c : Int) = b ∧ (k : Int) < a) then ((k : Int), (c : Int)) else (a, b) := by
  rw [show dnS (tnT f L) (tnG f L) f (k + 1) = if tnT f L k = true ∧ ((dnS (tnT f L) (tnG f L) f k).2 < tnG f L k ∨ (tnG f L k = (dnS (tnT f L) (tnG f L) f k).2 ∧ (k : Int) < (dnS (tnT f L) (tnG f L) f k).1)) then ((k : Int), tnG f L k) else dnS (tnT f L) (tnG f L) f k from rfl, h]
  have e : tnG f L k = (c : Int) := by unfold tnG; rw [hc]
  rw [e]
  have t : tnT f L k = true := by unfold tnT; simpa using hz
  by_cases q : b < (c : Int) ∨ ((c : Int) = b ∧ (k : Int) < a)
  · rw [if_pos q, if_pos ⟨t, q⟩]
  · rw [if_neg q, if_neg fun e => q e.2]

set_option maxRecDepth 1000000 in
set_option maxHeartbeats 8000000 in
/-- The order is long, or not right. -/
theorem lchains_off (f n : Int) (A : Option Addr) (m cap : Nat) (L : List (Int × Int)) (w : World) (ha : OArg w w.heap.size A m cap L) (ht : DTab w) (hl : (40 : Int) < m ∨ runE f L ≠ 0) :
    Calls Tryd.prog 6 #[.agg #[.int .i64 f, .slice A m cap], .int .i64 n] w fun e w' => e = .returned (.bool true) ∧ Below w.heap.size w w' := by
  have HK := Lib.hid (fun W (h : DTab W) => known_any W h)
  have hm0 := (Hp.start w).new 25 [.int .i64 f, .slice A m cap]
  simp only [List.nil_append] at hm0
  have HM := Lib.hid hm0
  have HT := Lib.hid (ht.below hm0.below)
  have HA := Lib.hid ha
  obtain ⟨x, hxx⟩ : ∃ x, x = runE f L := ⟨_, rfl⟩
  have H1 := Lib.hid (fun W (hW : OArg W W.heap.size A m cap L) => lcheck_any f A m cap L W hW)
  rw [← hxx] at H1 hl
  clear hm0 ha ht hxx
  go_enter Tryd.func6, Tryd.ntmps6
  go_wp2_with fail
  refine (HK.out _ HT.out).mono ?_
  rintro e w1 ⟨rfl, hb1⟩
  have HM1 := Lib.hid (HM.out.step hb1)
  have HT1 := Lib.hid (HT.out.below hb1)
  have HA1 := Lib.hid (HA.out.step HM1.out.below)
  have c0 : w1.cell? ⟨w.heap.size, 0, none⟩ = some (.int .i64 f) := (HM1.out.at_ 0 rfl).cell 0
  have c1 : w1.cell? ⟨w.heap.size, 1, none⟩ = some (.slice A m cap) := (HM1.out.at_ 0 rfl).cell 1
  clear hb1
  by_cases hm : (40 : Int) < m
  · clear hl
    go_wp2_with fail
    refine (HK.out _ HT1.out).mono ?_
    rintro e w2 ⟨rfl, hb2⟩
    have HB2 := Lib.hid (HM1.out.step hb2).below
    clear hb2
    go_wp2
    go_ret
    exact ⟨rfl, HB2.out⟩
  · have hx : x ≠ 0 := hl.resolve_left hm
    clear hl
    go_wp2_with fail
    refine (H1.out _ HA1.out).mono ?_
    rintro e w2 ⟨rfl, hb2⟩
    have HM2 := Lib.hid (HM1.out.step hb2)
    have HT2 := Lib.hid (HT1.out.below hb2)
    have hz : (x != 0) = true := by simpa using hx
    clear c0 c1 hb2 hx
    go_wp2_with fail
    refine (HK.out _ HT2.out).mono ?_
    rintro e w3 ⟨rfl, hb3⟩
    have HB3 := Lib.hid (HM2.out.step hb3).below
    clear hb3
    go_wp2
    go_ret
    exact ⟨rfl, HB3.out⟩

set_option maxRecDepth 1000000 in
set_option maxHeartbeats 8000000 in
/-- The order is right, the note is not tuned. -/
theorem lchains_none (f n : Int) (A : Option Addr) (m cap : Nat) (L : List (Int × Int)) (w : World) (ha : OArg w w.heap.size A m cap L) (ht : DTab w) (hl : ¬ (40 : Int) < m) (hx : runE f L = 0) (hfz : fz f L n = -2) :
    Calls Tryd.prog 6 #[.agg #[.int .i64 f, .slice A m cap], .int .i64 n] w fun e w' => e = .returned (.bool true) ∧ Below w.heap.size w w' := by
  have HK := Lib.hid (fun W (h : DTab W) => known_any W h)
  have hm0 := (Hp.start w).new 25 [.int .i64 f, .slice A m cap]
  simp only [List.nil_append] at hm0
  have HM := Lib.hid hm0
  have HT := Lib.hid (ht.below hm0.below)
  have HA := Lib.hid ha
  have hml : m ≤ 40 := by omega
  obtain ⟨hfn, _, ho⟩ := runE_ord hx
  have HFD := Lib.hid (farS_dn (L := L) hfn)
  have hc : chnE f L n = 11 := by unfold chnE; rw [if_neg (fun e => e hx), if_pos hfz]
  have H1 := Lib.hid (fun W (hW : OArg W W.heap.size A m cap L) => lcheck_any f A m cap L W hW)
  have H3 := Lib.hid (fun W (hW : OArg W W.heap.size A m cap L) => (tChain_any f n A m cap L W hW).mono fun e w' h => h.errC (by rw [hc]; decide))
  have H4 := Lib.hid (fun W (hW : OArg W W.heap.size A m cap L) => reached_any f n A m cap L W hW)
  have H5 := Lib.hid (fun W (hW : OArg W W.heap.size A m cap L) => (lchain_any f n A m cap L W hW ho (by omega)).mono fun e w' h => h.none hfz)
  have H6 := Lib.hid (fun W (hW : OArg W W.heap.size A m cap L) => furthest_any f A m cap L W hW)
  have H7 := Lib.hid (fun k W (hW : OArg W W.heap.size A m cap L) => lchain_any f k A m cap L W hW ho (by omega))
  have HNL := Lib.hid (show ∀ k : Int, (chB f L k).length ≤ 200 by
    intro k
    rcases chB_len ho m k (by have := fz_lt f L k; rw [ha.len] at this; exact this.2) with h | h
    · have := fz_lt f L k; rw [ha.len] at this; omega
    · omega)
  rw [hx] at H1
  rw [rchE_eq, rchW_err (by rw [hc]; decide), hc] at H4
  rw [hc] at H3
  rw [show wv (0, 0) = .agg #[.int .i64 0, .int .i64 0] from rfl] at H4
  rw [show furV f L = .tuple #[.int .i64 (farS f L 128).1, .int .i64 (farS f L 128).2, .int .i64 0] by unfold furV; rw [if_pos hx]] at H6
  obtain ⟨p, hp⟩ : ∃ p, p = farS f L 128 := ⟨_, rfl⟩
  rw [← hp] at H6 HFD
  obtain ⟨p1, p2⟩ := p
  have hq1 := fun W => neq_way W 0 0 0 0
  rw [eqB_self] at hq1
  simp only [Bool.not_true] at hq1
  clear hm0 ha ht hx ho hc hfn hp hfz
  dsimp only at H6
  go_enter Tryd.func6, Tryd.ntmps6
  go_wp2_with fail
  refine (HK.out _ HT.out).mono ?_
  rintro e w1 ⟨rfl, hb1⟩
  have HM1 := Lib.hid (HM.out.step hb1)
  have HA1 := Lib.hid (HA.out.step HM1.out.below)
  have c0 : w1.cell? ⟨w.heap.size, 0, none⟩ = some (.int .i64 f) := (HM1.out.at_ 0 rfl).cell 0
  have c1 : w1.cell? ⟨w.heap.size, 1, none⟩ = some (.slice A m cap) := (HM1.out.at_ 0 rfl).cell 1
  clear hb1
  go_wp2_with fail
  refine (H1.out _ HA1.out).mono ?_
  rintro e w2 ⟨rfl, hb2⟩
  have HM2 := Lib.hid (HM1.out.step hb2)
  have HA2 := Lib.hid (HA.out.step HM2.out.below)
  clear c0 c1 hb2
  have c0 : w2.cell? ⟨w.heap.size, 0, none⟩ = some (.int .i64 f) := (HM2.out.at_ 0 rfl).cell 0
  have c1 : w2.cell? ⟨w.heap.size, 1, none⟩ = some (.slice A m cap) := (HM2.out.at_ 0 rfl).cell 1
  go_wp2_with fail
  refine (H3.out _ HA2.out).mono ?_
  rintro e w3 ⟨rfl, hb3⟩
  have HM3 := Lib.hid (HM2.out.step hb3)
  have HA3 := Lib.hid (HA.out.step HM3.out.below)
  clear c0 c1 hb3
  have c0 : w3.cell? ⟨w.heap.size, 0, none⟩ = some (.int .i64 f) := (HM3.out.at_ 0 rfl).cell 0
  have c1 : w3.cell? ⟨w.heap.size, 1, none⟩ = some (.slice A m cap) := (HM3.out.at_ 0 rfl).cell 1
  go_wp2_with fail
  refine (H4.out _ HA3.out).mono ?_
  rintro e w4 ⟨rfl, hb4⟩
  have hm4 := (HM3.out.step hb4).new 50 [.int .i64 0, .int .i64 0]
  simp only [List.cons_append, List.nil_append] at hm4
  have HM4 := Lib.hid hm4
  have HA4 := Lib.hid (HA.out.step hm4.below)
  clear c0 c1 hb4
  have c0 : (w4.alloc (.cells #[.int .i64 0, .int .i64 0] 50)).cell? ⟨w.heap.size, 0, none⟩ = some (.int .i64 f) := (HM4.out.at_ 0 rfl).cell 0
  have c1 : (w4.alloc (.cells #[.int .i64 0, .int .i64 0] 50)).cell? ⟨w.heap.size, 1, none⟩ = some (.slice A m cap) := (HM4.out.at_ 0 rfl).cell 1
  clear hm4
  go_wp2_with fail
  refine (H5.out _ HA4.out).mono ?_
  rintro e w5 ⟨rfl, hb5⟩
  have hm5 := (HM4.out.step hb5).new 50 [.int .i64 0, .int .i64 0]
  simp only [List.cons_append, List.nil_append] at hm5
  have HM5 := Lib.hid hm5
  have HA5 := Lib.hid (HA.out.step hm5.below)
  clear c0 c1 hb5
  have c0 : (w5.alloc (.cells #[.int .i64 0, .int .i64 0] 50)).cell? ⟨w.heap.size, 0, none⟩ = some (.int .i64 f) := (HM5.out.at_ 0 rfl).cell 0
  have c1 : (w5.alloc (.cells #[.int .i64 0, .int .i64 0] 50)).cell? ⟨w.heap.size, 1, none⟩ = some (.slice A m cap) := (HM5.out.at_ 0 rfl).cell 1
  have d0 : (w5.alloc (.cells #[.int .i64 0, .int .i64 0] 50)).cell? ⟨w4.heap.size, 0, none⟩ = some (.int .i64 0) := (hm5.at_ 1 rfl).cell 0
  have d1 : (w5.alloc (.cells #[.int .i64 0, .int .i64 0] 50)).cell? ⟨w4.heap.size, 1, none⟩ = some (.int .i64 0) := (hm5.at_ 1 rfl).cell 1
  clear hm5
  have HM6 := HM5
  have HA6 := HA5
  go_wp2_with fail
  refine (H6.out _ HA6.out).mono ?_
  rintro e w7 ⟨hb7, rfl⟩
  have HM7 := Lib.hid (HM6.out.step hb7)
  clear c0 c1 d0 d1 hb7
  have c0 : w7.cell? ⟨w.heap.size, 0, none⟩ = some (.int .i64 f) := (HM7.out.at_ 0 rfl).cell 0
  have c1 : w7.cell? ⟨w.heap.size, 1, none⟩ = some (.slice A m cap) := (HM7.out.at_ 0 rfl).cell 1
  go_wp2_with fail
  clear c0 c1
  go_loopw [15, 16, 17] (fun u v x wx => ∃ (k : Nat) (a b : Int), x = .int .i64 (k : Int) ∧ k ≤ 128 ∧ u = .int .i64 a ∧ v = .int .i64 b ∧ dnS (tnT f L) (tnG f L) f k = (a, b) ∧ Below w7.heap.size w7 wx) (fun _ _ x _ => 128 - (intOf x).toNat)
  case atStart => exact ⟨0, f, 0, rfl, by omega, rfl, rfl, rfl, Below.refl _ _⟩
  case round =>
    obtain ⟨k, a, b, rfl, hk, rfl, rfl, hab, hbw⟩ := hrel
    have HAB := Lib.hid hab
    have HBW := Lib.hid hbw
    have HMR := Lib.hid (HM7.out.step hbw)
    have HAR := Lib.hid (HA.out.step HMR.out.below)
    have c0 : wr.cell? ⟨w.heap.size, 0, none⟩ = some (.int .i64 f) := (HMR.out.at_ 0 rfl).cell 0
    have c1 : wr.cell? ⟨w.heap.size, 1, none⟩ = some (.slice A m cap) := (HMR.out.at_ 0 rfl).cell 1
    clear hab hbw
    by_cases hkl : k < 128
    · obtain ⟨c, hcc⟩ : ∃ c, c = (chB f L k).length := ⟨_, rfl⟩
      have hc2 : c ≤ 200 := by rw [hcc]; exact HNL.out _
      have HC := Lib.hid (H7.out (k : Int) wr HAR.out)
      by_cases hz : fz f L k = -2
      · have HE := Lib.hid (dnS_no HAB.out hz)
        have HZ := Lib.hid hz
        clear hz hcc hc2
        go_wp2_with fail
        refine HC.out.mono ?_
        intro e w8 h8
        obtain ⟨rfl, hb8⟩ := h8.none HZ.out
        have HB8 := Lib.hid (bw_new (HBW.out.trans (hb8.mono HBW.out.size)) (.cells #[.int .i64 0, .int .i64 0] 50))
        clear h8 hb8
        go_wp2
        go_roundw
        case rel => exact ⟨k + 1, a, b, by go_num, by omega, rfl, rfl, HE.out, HB8.out⟩
        case measure => simp [intOf]; omega
      · have HE := Lib.hid (dnS_at HAB.out hz hcc)
        have HZ := Lib.hid hz
        have HCC := Lib.hid hcc
        clear hz hcc
        go_wp2_with fail
        refine HC.out.mono ?_
        intro e w8 h8
        obtain ⟨KA, kc, rfl, _, _, _, hb8⟩ := h8.found HZ.out
        obtain ⟨z, hzz⟩ : ∃ z, z = wyB f L k := ⟨_, rfl⟩
        rw [← hzz, ← HCC.out]
        clear hzz
        obtain ⟨z1, z2⟩ := z
        have HB8 := Lib.hid (bw_new (HBW.out.trans (hb8.mono HBW.out.size)) (.cells #[.int .i64 z1, .int .i64 z2] 50))
        clear h8 hb8
        by_cases q : b < (c : Int)
        · have HE2 := Lib.hid (HE.out.trans (if_pos (.inl q)))
          go_wp2
          go_roundw
          case rel => exact ⟨k + 1, k, c, by go_num, by omega, rfl, rfl, HE2.out, HB8.out⟩
          case measure => simp [intOf]; omega
        · by_cases q2 : (c : Int) = b
          · by_cases q3 : (k : Int) < a
            · have HE2 := Lib.hid (HE.out.trans (if_pos (.inr ⟨q2, q3⟩)))
              subst q2
              go_wp2
              go_roundw
              case rel => exact ⟨k + 1, k, c, by go_num, by omega, rfl, rfl, HE2.out, HB8.out⟩
              case measure => simp [intOf]; omega
            · have HE2 := Lib.hid (HE.out.trans (if_neg (by omega)))
              subst q2
              go_wp2
              go_roundw
              case rel => exact ⟨k + 1, a, c, by go_num, by omega, rfl, rfl, HE2.out, HB8.out⟩
              case measure => simp [intOf]; omega
          · have HE2 := Lib.hid (HE.out.trans (if_neg (by omega)))
            have hq2 : ((c : Int) == b) = false := by simpa using q2
            go_wp2
            go_roundw
            case rel => exact ⟨k + 1, a, b, by go_num, by omega, rfl, rfl, HE2.out, HB8.out⟩
            case measure => simp [intOf]; omega
    · obtain rfl : k = 128 := by omega
      have e := HFD.out.trans HAB.out
      obtain rfl : p1 = a := congrArg Prod.fst e
      obtain rfl : p2 = b := congrArg Prod.snd e
      have HBB := Lib.hid HMR.out.below
      clear e
      go_wp2
      go_ret
      exact ⟨rfl, HBB.out⟩

set_option maxRecDepth 1000000 in
set_option maxHeartbeats 8000000 in
/-- The order is right, the note is tuned. -/
theorem lchains_found (f n : Int) (A : Option Addr) (m cap : Nat) (L : List (Int × Int)) (w : World) (ha : OArg w w.heap.size A m cap L) (ht : DTab w) (hl : ¬ (40 : Int) < m) (hx : runE f L = 0) (hfz : fz f L n ≠ -2) :
    Calls Tryd.prog 6 #[.agg #[.int .i64 f, .slice A m cap], .int .i64 n] w fun e w' => e = .returned (.bool true) ∧ Below w.heap.size w w' := by
  have HK := Lib.hid (fun W (h : DTab W) => known_any W h)
  have hm0 := (Hp.start w).new 25 [.int .i64 f, .slice A m cap]
  simp only [List.nil_append] at hm0
  have HM := Lib.hid hm0
  have HT := Lib.hid (ht.below hm0.below)
  have HA := Lib.hid ha
  have hml : m ≤ 40 := by omega
  obtain ⟨hfn, _, ho⟩ := runE_ord hx
  have HFD := Lib.hid (farS_dn (L := L) hfn)
  have hc : chnE f L n = 0 := by unfold chnE; rw [if_neg (fun e => e hx), if_neg hfz]
  have H1 := Lib.hid (fun W (hW : OArg W W.heap.size A m cap L) => lcheck_any f A m cap L W hW)
  have H3 := Lib.hid (fun W (hW : OArg W W.heap.size A m cap L) => (tChain_any f n A m cap L W hW).mono fun e w' h => h.okC hc)
  have H4 := Lib.hid (fun W (hW : OArg W W.heap.size A m cap L) => reached_any f n A m cap L W hW)
  have H5 := Lib.hid (fun W (hW : OArg W W.heap.size A m cap L) => (lchain_any f n A m cap L W hW ho (by omega)).mono fun e w' h => h.found hfz)
  have H6 := Lib.hid (fun W (hW : OArg W W.heap.size A m cap L) => furthest_any f A m cap L W hW)
  have H7 := Lib.hid (fun k W (hW : OArg W W.heap.size A m cap L) => lchain_any f k A m cap L W hW ho (by omega))
  have HNL := Lib.hid (show ∀ k : Int, (chB f L k).length ≤ 200 by
    intro k
    rcases chB_len ho m k (by have := fz_lt f L k; rw [ha.len] at this; exact this.2) with h | h
    · have := fz_lt f L k; rw [ha.len] at this; omega
    · omega)
  rw [hx] at H1
  rw [rchE_eq, rchW_eq hc, hc] at H4
  have hlen : (chB f L n).length = (chB f L n).reverse.length := (List.length_reverse).symm
  rw [hlen] at H5
  obtain ⟨C, hC⟩ : ∃ C, C = (chB f L n).reverse := ⟨_, rfl⟩
  rw [← hC] at H3 H5
  have hcl : C.length ≤ 200 := by rw [hC, List.length_reverse]; exact HNL.out n
  obtain ⟨y, hy⟩ : ∃ y, y = wyB f L n := ⟨_, rfl⟩
  rw [← hy] at H4 H5
  obtain ⟨y1, y2⟩ := y
  rw [show wv (y1, y2) = .agg #[.int .i64 y1, .int .i64 y2] from rfl] at H4
  rw [show furV f L = .tuple #[.int .i64 (farS f L 128).1, .int .i64 (farS f L 128).2, .int .i64 0] by unfold furV; rw [if_pos hx]] at H6
  obtain ⟨p, hp⟩ : ∃ p, p = farS f L 128 := ⟨_, rfl⟩
  rw [← hp] at H6 HFD
  obtain ⟨p1, p2⟩ := p
  have hq1 := fun W => neq_way W y1 y2 y1 y2
  rw [eqB_self] at hq1
  simp only [Bool.not_true] at hq1
  clear hm0 ha ht hx ho hc hfn hp hfz hC hlen hy
  dsimp only at H6 H5
  go_enter Tryd.func6, Tryd.ntmps6
  go_wp2_with fail
  refine (HK.out _ HT.out).mono ?_
  rintro e w1 ⟨rfl, hb1⟩
  have HM1 := Lib.hid (HM.out.step hb1)
  have HA1 := Lib.hid (HA.out.step HM1.out.below)
  have c0 : w1.cell? ⟨w.heap.size, 0, none⟩ = some (.int .i64 f) := (HM1.out.at_ 0 rfl).cell 0
  have c1 : w1.cell? ⟨w.heap.size, 1, none⟩ = some (.slice A m cap) := (HM1.out.at_ 0 rfl).cell 1
  clear hb1
  go_wp2_with fail
  refine (H1.out _ HA1.out).mono ?_
  rintro e w2 ⟨rfl, hb2⟩
  have HM2 := Lib.hid (HM1.out.step hb2)
  have HA2 := Lib.hid (HA.out.step HM2.out.below)
  clear c0 c1 hb2
  have c0 : w2.cell? ⟨w.heap.size, 0, none⟩ = some (.int .i64 f) := (HM2.out.at_ 0 rfl).cell 0
  have c1 : w2.cell? ⟨w.heap.size, 1, none⟩ = some (.slice A m cap) := (HM2.out.at_ 0 rfl).cell 1
  go_wp2_with fail
  refine (H3.out _ HA2.out).mono ?_
  rintro e w3 ⟨GA, gc, rfl, hrd, hgc, hgm, hb3⟩
  have HRD := Lib.hid hrd
  clear hrd
  have HM3 := Lib.hid (HM2.out.step hb3)
  have HA3 := Lib.hid (HA.out.step HM3.out.below)
  clear c0 c1 hb3
  have c0 : w3.cell? ⟨w.heap.size, 0, none⟩ = some (.int .i64 f) := (HM3.out.at_ 0 rfl).cell 0
  have c1 : w3.cell? ⟨w.heap.size, 1, none⟩ = some (.slice A m cap) := (HM3.out.at_ 0 rfl).cell 1
  go_wp2_with fail
  refine (H4.out _ HA3.out).mono ?_
  rintro e w4 ⟨rfl, hb4⟩
  have hm4 := (HM3.out.step hb4).new 50 [.int .i64 y1, .int .i64 y2]
  simp only [List.cons_append, List.nil_append] at hm4
  have HM4 := Lib.hid hm4
  have HA4 := Lib.hid (HA.out.step hm4.below)
  have HRD4 := Lib.hid ((HRD.out.below hb4).below ((Below.refl w3.heap.size w4).alloc hb4.size (.cells #[.int .i64 y1, .int .i64 y2] 50)))
  have hz4 := hb4.size
  clear c0 c1 hb4
  have c0 : (w4.alloc (.cells #[.int .i64 y1, .int .i64 y2] 50)).cell? ⟨w.heap.size, 0, none⟩ = some (.int .i64 f) := (HM4.out.at_ 0 rfl).cell 0
  have c1 : (w4.alloc (.cells #[.int .i64 y1, .int .i64 y2] 50)).cell? ⟨w.heap.size, 1, none⟩ = some (.slice A m cap) := (HM4.out.at_ 0 rfl).cell 1
  clear hm4
  go_wp2_with fail
  refine (H5.out _ HA4.out).mono ?_
  rintro e w5 ⟨RA, rc, rfl, hrd, hrc, hrm, hb5⟩
  have HRR := Lib.hid hrd
  have HRD5 := Lib.hid (HRD4.out.below (hb5.mono (by rw [World.size_alloc]; omega)))
  clear hrd
  have hm5 := (HM4.out.step hb5).new 50 [.int .i64 y1, .int .i64 y2]
  simp only [List.cons_append, List.nil_append] at hm5
  have HM5 := Lib.hid hm5
  have HA5 := Lib.hid (HA.out.step hm5.below)
  have hz5 := hb5.size
  rw [World.size_alloc] at hz5
  have hw5 := bw_new (Below.refl w5.heap.size w5) (.cells #[.int .i64 y1, .int .i64 y2] 50)
  have HR5 := Lib.hid ((HRR.out.below hw5).more (Bd' := (w5.alloc (.cells #[.int .i64 y1, .int .i64 y2] 50)).heap.size) (by rw [World.size_alloc]; omega))
  have HD5 := Lib.hid ((HRD5.out.below ((Below.refl w3.heap.size w5).alloc (by omega) (.cells #[.int .i64 y1, .int .i64 y2] 50))).more (Bd' := (w5.alloc (.cells #[.int .i64 y1, .int .i64 y2] 50)).heap.size) (by rw [World.size_alloc]; omega))
  clear hw5
  clear c0 c1 hb5
  have c0 : (w5.alloc (.cells #[.int .i64 y1, .int .i64 y2] 50)).cell? ⟨w.heap.size, 0, none⟩ = some (.int .i64 f) := (HM5.out.at_ 0 rfl).cell 0
  have c1 : (w5.alloc (.cells #[.int .i64 y1, .int .i64 y2] 50)).cell? ⟨w.heap.size, 1, none⟩ = some (.slice A m cap) := (HM5.out.at_ 0 rfl).cell 1
  have d0 : (w5.alloc (.cells #[.int .i64 y1, .int .i64 y2] 50)).cell? ⟨w4.heap.size, 0, none⟩ = some (.int .i64 y1) := (hm5.at_ 1 rfl).cell 0
  have d1 : (w5.alloc (.cells #[.int .i64 y1, .int .i64 y2] 50)).cell? ⟨w4.heap.size, 1, none⟩ = some (.int .i64 y2) := (hm5.at_ 1 rfl).cell 1
  clear hm5
  go_wp2_with fail
  refine (refSame_any GA RA C.length gc C.length rc C C _ rfl rfl hgc hrc hgm hrm HD5.out HR5.out).mono ?_
  rw [show sameB C C = true by unfold sameB; simp]
  rintro e w6 ⟨rfl, hb6⟩
  have HM6 := Lib.hid (HM5.out.step hb6)
  have HA6 := Lib.hid (HA.out.step HM6.out.below)
  clear c0 c1 d0 d1 hb6
  have c0 : w6.cell? ⟨w.heap.size, 0, none⟩ = some (.int .i64 f) := (HM6.out.at_ 0 rfl).cell 0
  have c1 : w6.cell? ⟨w.heap.size, 1, none⟩ = some (.slice A m cap) := (HM6.out.at_ 0 rfl).cell 1
  have d0 : w6.cell? ⟨w4.heap.size, 0, none⟩ = some (.int .i64 y1) := (HM6.out.at_ 1 rfl).cell 0
  have d1 : w6.cell? ⟨w4.heap.size, 1, none⟩ = some (.int .i64 y2) := (HM6.out.at_ 1 rfl).cell 1
  have e0 : w6.cell? ⟨w5.heap.size, 0, none⟩ = some (.int .i64 y1) := (HM6.out.at_ 2 rfl).cell 0
  have e1 : w6.cell? ⟨w5.heap.size, 1, none⟩ = some (.int .i64 y2) := (HM6.out.at_ 2 rfl).cell 1
  go_wp2_with fail
  refine (H6.out _ HA6.out).mono ?_
  rintro e w7 ⟨hb7, rfl⟩
  have HM7 := Lib.hid (HM6.out.step hb7)
  clear c0 c1 d0 d1 e0 e1 hb7
  have c0 : w7.cell? ⟨w.heap.size, 0, none⟩ = some (.int .i64 f) := (HM7.out.at_ 0 rfl).cell 0
  have c1 : w7.cell? ⟨w.heap.size, 1, none⟩ = some (.slice A m cap) := (HM7.out.at_ 0 rfl).cell 1
  go_wp2_with fail
  clear c0 c1
  go_loopw [15, 16, 17] (fun u v x wx => ∃ (k : Nat) (a b : Int), x = .int .i64 (k : Int) ∧ k ≤ 128 ∧ u = .int .i64 a ∧ v = .int .i64 b ∧ dnS (tnT f L) (tnG f L) f k = (a, b) ∧ Below w7.heap.size w7 wx) (fun _ _ x _ => 128 - (intOf x).toNat)
  case atStart => exact ⟨0, f, 0, rfl, by omega, rfl, rfl, rfl, Below.refl _ _⟩
  case round =>
    obtain ⟨k, a, b, rfl, hk, rfl, rfl, hab, hbw⟩ := hrel
    have HAB := Lib.hid hab
    have HBW := Lib.hid hbw
    have HMR := Lib.hid (HM7.out.step hbw)
    have HAR := Lib.hid (HA.out.step HMR.out.below)
    have c0 : wr.cell? ⟨w.heap.size, 0, none⟩ = some (.int .i64 f) := (HMR.out.at_ 0 rfl).cell 0
    have c1 : wr.cell? ⟨w.heap.size, 1, none⟩ = some (.slice A m cap) := (HMR.out.at_ 0 rfl).cell 1
    clear hab hbw
    by_cases hkl : k < 128
    · obtain ⟨c, hcc⟩ : ∃ c, c = (chB f L k).length := ⟨_, rfl⟩
      have hc2 : c ≤ 200 := by rw [hcc]; exact HNL.out _
      have HC := Lib.hid (H7.out (k : Int) wr HAR.out)
      by_cases hz : fz f L k = -2
      · have HE := Lib.hid (dnS_no HAB.out hz)
        have HZ := Lib.hid hz
        clear hz hcc hc2
        go_wp2_with fail
        refine HC.out.mono ?_
        intro e w8 h8
        obtain ⟨rfl, hb8⟩ := h8.none HZ.out
        have HB8 := Lib.hid (bw_new (HBW.out.trans (hb8.mono HBW.out.size)) (.cells #[.int .i64 0, .int .i64 0] 50))
        clear h8 hb8
        go_wp2
        go_roundw
        case rel => exact ⟨k + 1, a, b, by go_num, by omega, rfl, rfl, HE.out, HB8.out⟩
        case measure => simp [intOf]; omega
      · have HE := Lib.hid (dnS_at HAB.out hz hcc)
        have HZ := Lib.hid hz
        have HCC := Lib.hid hcc
        clear hz hcc
        go_wp2_with fail
        refine HC.out.mono ?_
        intro e w8 h8
        obtain ⟨KA, kc, rfl, _, _, _, hb8⟩ := h8.found HZ.out
        obtain ⟨z, hzz⟩ : ∃ z, z = wyB f L k := ⟨_, rfl⟩
        rw [← hzz, ← HCC.out]
        clear hzz
        obtain ⟨z1, z2⟩ := z
        have HB8 := Lib.hid (bw_new (HBW.out.trans (hb8.mono HBW.out.size)) (.cells #[.int .i64 z1, .int .i64 z2] 50))
        clear h8 hb8
        by_cases q : b < (c : Int)
        · have HE2 := Lib.hid (HE.out.trans (if_pos (.inl q)))
          go_wp2
          go_roundw
          case rel => exact ⟨k + 1, k, c, by go_num, by omega, rfl, rfl, HE2.out, HB8.out⟩
          case measure => simp [intOf]; omega
        · by_cases q2 : (c : Int) = b
          · by_cases q3 : (k : Int) < a
            · have HE2 := Lib.hid (HE.out.trans (if_pos (.inr ⟨q2, q3⟩)))
              subst q2
              go_wp2
              go_roundw
              case rel => exact ⟨k + 1, k, c, by go_num, by omega, rfl, rfl, HE2.out, HB8.out⟩
              case measure => simp [intOf]; omega
            · have HE2 := Lib.hid (HE.out.trans (if_neg (by omega)))
              subst q2
              go_wp2
              go_roundw
              case rel => exact ⟨k + 1, a, c, by go_num, by omega, rfl, rfl, HE2.out, HB8.out⟩
              case measure => simp [intOf]; omega
          · have HE2 := Lib.hid (HE.out.trans (if_neg (by omega)))
            have hq2 : ((c : Int) == b) = false := by simpa using q2
            go_wp2
            go_roundw
            case rel => exact ⟨k + 1, a, b, by go_num, by omega, rfl, rfl, HE2.out, HB8.out⟩
            case measure => simp [intOf]; omega
    · obtain rfl : k = 128 := by omega
      have e := HFD.out.trans HAB.out
      obtain rfl : p1 = a := congrArg Prod.fst e
      obtain rfl : p2 = b := congrArg Prod.snd e
      have HBB := Lib.hid HMR.out.below
      clear e
      go_wp2
      go_ret
      exact ⟨rfl, HBB.out⟩
theorem lchains_any (f n : Int) (A : Option Addr) (m cap : Nat) (L : List (Int × Int)) (w : World) (ha : OArg w w.heap.size A m cap L) (ht : DTab w) :
    Calls Tryd.prog 6 #[.agg #[.int .i64 f, .slice A m cap], .int .i64 n] w fun e w' => e = .returned (.bool true) ∧ Below w.heap.size w w' := by
  by_cases hl : (40 : Int) < m ∨ runE f L ≠ 0
  · exact lchains_off f n A m cap L w ha ht hl
  · have h1 : ¬ (40 : Int) < m := fun e => hl (.inl e)
    have h2 : runE f L = 0 := Classical.byContradiction fun e => hl (.inr e)
    by_cases hf : fz f L n = -2
    · exact lchains_none f n A m cap L w ha ht h1 h2 hf
    · exact lchains_found f n A m cap L w ha ht h1 h2 hf
end Go.Proofs.YtfickhncbahekaaDoor
