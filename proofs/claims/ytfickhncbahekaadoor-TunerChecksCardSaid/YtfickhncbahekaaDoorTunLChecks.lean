/- The law TunerChecks. Conditions: the steps lie in a slice of at most maxLen cells; the library's table reads as its text lays it. -/
import Derived.Test.YtfickhncbahekaaDoorTunFur
import Derived.Test.YtfickhncbahekaaDoorTunRed
import Derived.Test.YtfickhncbahekaaDoorTunTuned
import Derived.Test.YtfickhncbahekaaDoorTunMissed
import Derived.Test.YtfickhncbahekaaDoorTunEq
import Derived.Test.YtfickhncbahekaaDoorTunKnown
namespace Go.Proofs.YtfickhncbahekaaDoor
open Go.RowKit

theorem IntsOr.err {w w' : World} {x : Int} {l : List Int} {e : Ending} (h : IntsOr w x l e w') (hx : x ≠ 0) : e = .returned (.tuple #[.slice none 0 0, .int .i64 x]) ∧ Below w.heap.size w w' := by
  obtain ⟨hb, ⟨_, he⟩ | ⟨h0, _⟩⟩ := h
  · exact ⟨he, hb⟩
  · exact absurd h0 hx
theorem PairsOr.err {w w' : World} {x : Int} {l : List (Int × Int)} {e : Ending} (h : PairsOr w x l e w') (hx : x ≠ 0) : e = .returned (.tuple #[.slice none 0 0, .int .i64 x]) ∧ Below w.heap.size w w' := by
  obtain ⟨hb, ⟨_, he⟩ | ⟨h0, _⟩⟩ := h
  · exact ⟨he, hb⟩
  · exact absurd h0 hx
theorem SizesOr.err {w w' : World} {x : Int} {l : List (Int × Int)} {e : Ending} (h : SizesOr w x l e w') (hx : x ≠ 0) : e = .returned (.tuple #[.slice none 0 0, .int .i64 x]) ∧ Below w.heap.size w w' := by
  obtain ⟨hb, ⟨_, he⟩ | ⟨h0, _⟩⟩ := h
  · exact ⟨he, hb⟩
  · exact absurd h0 hx
abbrev TkB (w : World) (f : Int) (A : Option Addr) (m cap : Nat) (W : World) : Prop := Hp w [(w.heap.size, 25, [.int .i64 f, .slice A m cap])] W

set_option maxRecDepth 1000000 in
set_option maxHeartbeats 8000000 in
/-- The order is long. -/
theorem lchecks_long (f : Int) (A : Option Addr) (m cap : Nat) (L : List (Int × Int)) (w : World) (ha : OArg w w.heap.size A m cap L) (ht : DTab w) (hl : (40 : Int) < m) :
    Calls Tryd.prog 9 #[.agg #[.int .i64 f, .slice A m cap]] w fun e w' => e = .returned (.bool true) ∧ Below w.heap.size w w' := by
  have HK := Lib.hid (fun W (h : DTab W) => known_any W h)
  have hm0 := (Hp.start w).new 25 [.int .i64 f, .slice A m cap]
  simp only [List.nil_append] at hm0
  have HM := Lib.hid hm0
  have HT := Lib.hid (ht.below hm0.below)
  clear hm0 ha ht
  go_enter Tryd.func9, Tryd.ntmps9
  go_wp2_with fail
  refine (HK.out _ HT.out).mono ?_
  rintro e w1 ⟨rfl, hb1⟩
  have HM1 := Lib.hid (HM.out.step hb1)
  have HT1 := Lib.hid (HT.out.below hb1)
  have c1 : w1.cell? ⟨w.heap.size, 1, none⟩ = some (.slice A m cap) := (HM1.out.at_ 0 rfl).cell 1
  clear hb1
  go_wp2_with fail
  refine (HK.out _ HT1.out).mono ?_
  rintro e w2 ⟨rfl, hb2⟩
  have HB2 := Lib.hid (HM1.out.step hb2).below
  clear hb2
  go_wp2
  go_ret
  exact ⟨rfl, HB2.out⟩

set_option maxRecDepth 1000000 in
set_option maxHeartbeats 8000000 in
/-- The order is not right. -/
theorem lchecks_err (f : Int) (A : Option Addr) (m cap : Nat) (L : List (Int × Int)) (w : World) (ha : OArg w w.heap.size A m cap L) (ht : DTab w) (hl : ¬ (40 : Int) < m) (hx : runE f L ≠ 0) :
    Calls Tryd.prog 9 #[.agg #[.int .i64 f, .slice A m cap]] w fun e w' => e = .returned (.bool true) ∧ Below w.heap.size w w' := by
  have HK := Lib.hid (fun W (h : DTab W) => known_any W h)
  have hm0 := (Hp.start w).new 25 [.int .i64 f, .slice A m cap]
  simp only [List.nil_append] at hm0
  have HM := Lib.hid hm0
  have HT := Lib.hid (ht.below hm0.below)
  have HA := Lib.hid ha
  obtain ⟨x, hxx⟩ : ∃ x, x = runE f L := ⟨_, rfl⟩
  have H1 := Lib.hid (fun W (hW : OArg W W.heap.size A m cap L) => lcheck_any f A m cap L W hW)
  have H2 := Lib.hid (fun W (hW : OArg W W.heap.size A m cap L) => tuned_any f A m cap L W hW)
  have H3 := Lib.hid (fun W (hW : OArg W W.heap.size A m cap L) => (redundant_any f A m cap L W hW).mono fun e w' h => h.err hx)
  have H4 := Lib.hid (fun W (hW : OArg W W.heap.size A m cap L) => tcheck_any f A m cap L W hW)
  have hc : chnE f L 60 = runE f L := if_pos hx
  have H5 := Lib.hid (fun W (hW : OArg W W.heap.size A m cap L) => (tChain_any f 60 A m cap L W hW).mono fun e w' h => h.err (by rw [hc]; exact hx))
  have H6 := Lib.hid (fun W (hW : OArg W W.heap.size A m cap L) => reached_any f 60 A m cap L W hW)
  have H7 := Lib.hid (fun W (hW : OArg W W.heap.size A m cap L) => furthest_any f A m cap L W hW)
  have H8 := Lib.hid (fun W (hW : OArg W W.heap.size A m cap L) => (drifts_any f A m cap L W hW).mono fun e w' h => h.err hx)
  have H9 := Lib.hid (fun W (hW : OArg W W.heap.size A m cap L) => (missed_any f A m cap L W hW).mono fun e w' h => h.err hx)
  rw [show tunX f L = (0, 0) by unfold tunX; rw [if_neg hx], show nv (0, 0) = .agg #[.int .u64 0, .int .u64 0] from rfl] at H2
  rw [hc] at H5
  rw [rchE_eq, rchW_err (by rw [hc]; exact hx), hc, show wv (0, 0) = .agg #[.int .i64 0, .int .i64 0] from rfl] at H6
  rw [show furV f L = .tuple #[.int .i64 0, .int .i64 0, .int .i64 (runE f L)] by unfold furV; rw [if_neg hx]] at H7
  rw [← hxx] at H1 H2 H3 H4 H5 H6 H7 H8 H9 hx
  have hx0 : (x == 0) = false := by simpa using hx
  have hq1 := fun W => eql_notes W 0 0 0 0
  have hq2 := fun W => eql_way W 0 0 0 0
  rw [eqB_self] at hq1 hq2
  clear hm0 ha ht hxx hc hx
  go_enter Tryd.func9, Tryd.ntmps9
  go_wp2_with fail
  refine (HK.out _ HT.out).mono ?_
  rintro e w1 ⟨rfl, hb1⟩
  have HM1 := Lib.hid (HM.out.step hb1)
  have HA1 := Lib.hid (HA.out.step HM1.out.below)
  have c0 : w1.cell? ⟨w.heap.size, 0, none⟩ = some (.int .i64 f) := (HM1.out.at_ 0 rfl).cell 0
  have c1 : w1.cell? ⟨w.heap.size, 1, none⟩ = some (.slice A m cap) := (HM1.out.at_ 0 rfl).cell 1
  clear hb1
  go_wp2_with fail
  refine (H1.out _ HA1.out).mono ?_
  rintro e w2 ⟨rfl, hb2⟩
  have HM2 := Lib.hid (HM1.out.step hb2)
  have HA2 := Lib.hid (HA.out.step HM2.out.below)
  clear c0 c1 hb2
  have c0 : w2.cell? ⟨w.heap.size, 0, none⟩ = some (.int .i64 f) := (HM2.out.at_ 0 rfl).cell 0
  have c1 : w2.cell? ⟨w.heap.size, 1, none⟩ = some (.slice A m cap) := (HM2.out.at_ 0 rfl).cell 1
  go_wp2_with fail
  refine (H2.out _ HA2.out).mono ?_
  rintro e w3 ⟨rfl, hb3⟩
  have hm3 := (HM2.out.step hb3).new 39 [.int .u64 0, .int .u64 0]
  simp only [List.cons_append, List.nil_append] at hm3
  have HM3 := Lib.hid hm3
  have HA3 := Lib.hid (HA.out.step hm3.below)
  clear c0 c1 hb3
  have c0 : (w3.alloc (.cells #[.int .u64 0, .int .u64 0] 39)).cell? ⟨w.heap.size, 0, none⟩ = some (.int .i64 f) := (hm3.at_ 0 rfl).cell 0
  have c1 : (w3.alloc (.cells #[.int .u64 0, .int .u64 0] 39)).cell? ⟨w.heap.size, 1, none⟩ = some (.slice A m cap) := (hm3.at_ 0 rfl).cell 1
  clear hm3
  go_wp2_with fail
  refine (H3.out _ HA3.out).mono ?_
  rintro e w4 ⟨rfl, hb4⟩
  have HM4 := Lib.hid (HM3.out.step hb4)
  have HA4 := Lib.hid (HA.out.step HM4.out.below)
  clear c0 c1 hb4
  have c0 : w4.cell? ⟨w.heap.size, 0, none⟩ = some (.int .i64 f) := (HM4.out.at_ 0 rfl).cell 0
  have c1 : w4.cell? ⟨w.heap.size, 1, none⟩ = some (.slice A m cap) := (HM4.out.at_ 0 rfl).cell 1
  go_wp2_with fail
  refine (H4.out _ HA4.out).mono ?_
  rintro e w5 ⟨rfl, hb5⟩
  have HM5 := Lib.hid (HM4.out.step hb5)
  have HA5 := Lib.hid (HA.out.step HM5.out.below)
  clear c0 c1 hb5
  have c0 : w5.cell? ⟨w.heap.size, 0, none⟩ = some (.int .i64 f) := (HM5.out.at_ 0 rfl).cell 0
  have c1 : w5.cell? ⟨w.heap.size, 1, none⟩ = some (.slice A m cap) := (HM5.out.at_ 0 rfl).cell 1
  go_wp2_with fail
  refine (H5.out _ HA5.out).mono ?_
  rintro e w6 ⟨rfl, hb6⟩
  have HM6 := Lib.hid (HM5.out.step hb6)
  have HA6 := Lib.hid (HA.out.step HM6.out.below)
  clear c0 c1 hb6
  have c0 : w6.cell? ⟨w.heap.size, 0, none⟩ = some (.int .i64 f) := (HM6.out.at_ 0 rfl).cell 0
  have c1 : w6.cell? ⟨w.heap.size, 1, none⟩ = some (.slice A m cap) := (HM6.out.at_ 0 rfl).cell 1
  go_wp2_with fail
  refine (H6.out _ HA6.out).mono ?_
  rintro e w7 ⟨rfl, hb7⟩
  have hm7 := (HM6.out.step hb7).new 50 [.int .i64 0, .int .i64 0]
  simp only [List.cons_append, List.nil_append] at hm7
  have HM7 := Lib.hid hm7
  have HA7 := Lib.hid (HA.out.step hm7.below)
  clear c0 c1 hb7
  have c0 : (w7.alloc (.cells #[.int .i64 0, .int .i64 0] 50)).cell? ⟨w.heap.size, 0, none⟩ = some (.int .i64 f) := (hm7.at_ 0 rfl).cell 0
  have c1 : (w7.alloc (.cells #[.int .i64 0, .int .i64 0] 50)).cell? ⟨w.heap.size, 1, none⟩ = some (.slice A m cap) := (hm7.at_ 0 rfl).cell 1
  clear hm7
  go_wp2_with fail
  refine (H7.out _ HA7.out).mono ?_
  rintro e w8 ⟨hb8, rfl⟩
  have HM8 := Lib.hid (HM7.out.step hb8)
  have HA8 := Lib.hid (HA.out.step HM8.out.below)
  clear c0 c1 hb8
  have c0 : w8.cell? ⟨w.heap.size, 0, none⟩ = some (.int .i64 f) := (HM8.out.at_ 0 rfl).cell 0
  have c1 : w8.cell? ⟨w.heap.size, 1, none⟩ = some (.slice A m cap) := (HM8.out.at_ 0 rfl).cell 1
  go_wp2_with fail
  refine (H8.out _ HA8.out).mono ?_
  rintro e w9 ⟨rfl, hb9⟩
  have HM9 := Lib.hid (HM8.out.step hb9)
  have HA9 := Lib.hid (HA.out.step HM9.out.below)
  clear c0 c1 hb9
  have c0 : w9.cell? ⟨w.heap.size, 0, none⟩ = some (.int .i64 f) := (HM9.out.at_ 0 rfl).cell 0
  have c1 : w9.cell? ⟨w.heap.size, 1, none⟩ = some (.slice A m cap) := (HM9.out.at_ 0 rfl).cell 1
  go_wp2_with fail
  refine (H9.out _ HA9.out).mono ?_
  rintro e w10 ⟨rfl, hb10⟩
  have HM10 := Lib.hid (HM9.out.step hb10)
  clear c0 c1 hb10
  have s0 : w10.cell? ⟨w3.heap.size, 0, none⟩ = some (.int .u64 0) := (HM10.out.at_ 1 rfl).cell 0
  have s1 : w10.cell? ⟨w3.heap.size, 1, none⟩ = some (.int .u64 0) := (HM10.out.at_ 1 rfl).cell 1
  have y0 : w10.cell? ⟨w7.heap.size, 0, none⟩ = some (.int .i64 0) := (HM10.out.at_ 2 rfl).cell 0
  have y1 : w10.cell? ⟨w7.heap.size, 1, none⟩ = some (.int .i64 0) := (HM10.out.at_ 2 rfl).cell 1
  go_wp2
  go_ret
  exact ⟨rfl, HM10.out.below⟩

theorem IntsOr.ok {w w' : World} {x : Int} {l : List Int} {e : Ending} (h : IntsOr w x l e w') (hx : x = 0) : ∃ (GA : Option Addr) (gc : Nat), e = .returned (.tuple #[.slice GA l.length gc, .int .i64 0]) ∧ Rd i64v w' w'.heap.size GA l ∧ l.length ≤ gc ∧ gc ≤ maxLen ∧ Below w.heap.size w w' := by
  obtain ⟨hb, ⟨h0, _⟩ | ⟨_, GA, gc, h1, h2, h3, h4⟩⟩ := h
  · exact absurd hx h0
  · exact ⟨GA, gc, h1, h2, h3, h4, hb⟩
/-- What the last statement keeps. -/
abbrev CkH (w : World) (f : Int) (A : Option Addr) (m cap z s1 s2 base : Nat) (LA : Option Addr) (ln lc : Nat) (l : List Int) (Bd : Nat) (GA : Option Addr) (G : List Int) (w' : World) : Prop :=
  w'.cell? ⟨w.heap.size, 0, none⟩ = some (.int .i64 f) ∧ w'.cell? ⟨w.heap.size, 1, none⟩ = some (.slice A m cap) ∧ w'.cell? ⟨z, 0, none⟩ = some (.int .u64 (s1 : Int)) ∧ w'.cell? ⟨z, 1, none⟩ = some (.int .u64 (s2 : Int)) ∧
  Hp w [(w.heap.size, 25, [.int .i64 f, .slice A m cap]), (z, 39, [.int .u64 (s1 : Int), .int .u64 (s2 : Int)])] w' ∧ w'.ownsRow base 3 1 (.slice LA ln lc) ln (l.map i64v) ∧ Rd i64v w' Bd GA G ∧ Bd ≤ w'.heap.size
theorem CkH.of {w : World} {f : Int} {A : Option Addr} {m cap z s1 s2 base : Nat} {LA : Option Addr} {ln lc : Nat} {l : List Int} {Bd : Nat} {GA : Option Addr} {G : List Int} {w' : World}
    (h : Hp w [(w.heap.size, 25, [.int .i64 f, .slice A m cap]), (z, 39, [.int .u64 (s1 : Int), .int .u64 (s2 : Int)])] w') (h2 : w'.ownsRow base 3 1 (.slice LA ln lc) ln (l.map i64v)) (h3 : Rd i64v w' Bd GA G) (h4 : Bd ≤ w'.heap.size) : CkH w f A m cap z s1 s2 base LA ln lc l Bd GA G w' :=
  ⟨(h.at_ 0 rfl).cell 0, (h.at_ 0 rfl).cell 1, (h.at_ 1 rfl).cell 0, (h.at_ 1 rfl).cell 1, h, h2, h3, h4⟩
theorem CkH.below {w : World} {f : Int} {A : Option Addr} {m cap z s1 s2 base : Nat} {LA : Option Addr} {ln lc : Nat} {l : List Int} {Bd : Nat} {GA : Option Addr} {G : List Int} {w1 w2 : World}
    (h : CkH w f A m cap z s1 s2 base LA ln lc l Bd GA G w1) (hb : Below w1.heap.size w1 w2) : CkH w f A m cap z s1 s2 base LA ln lc l Bd GA G w2 := by
  obtain ⟨_, _, _, _, h5, h6, h7, h8⟩ := h
  exact CkH.of (h5.step hb) (own_below h6 hb) (h7.below (hb.mono h8)) (Nat.le_trans h8 hb.size)

set_option maxRecDepth 1000000 in
set_option maxHeartbeats 8000000 in
/-- The order is right. -/
theorem lchecks_ok (f : Int) (A : Option Addr) (m cap : Nat) (L : List (Int × Int)) (w : World) (ha : OArg w w.heap.size A m cap L) (ht : DTab w) (hl : ¬ (40 : Int) < m) (hx : runE f L = 0) :
    Calls Tryd.prog 9 #[.agg #[.int .i64 f, .slice A m cap]] w fun e w' => e = .returned (.bool true) ∧ Below w.heap.size w w' := by
  have HK := Lib.hid (fun W (h : DTab W) => known_any W h)
  have hm0 := (Hp.start w).new 25 [.int .i64 f, .slice A m cap]
  simp only [List.nil_append] at hm0
  have HM := Lib.hid hm0
  have HT := Lib.hid (ht.below hm0.below)
  have HA := Lib.hid ha
  have hml : m ≤ 40 := by omega
  obtain ⟨_, _, ho⟩ := runE_ord hx
  have hag : (stT f L m).again = rzN f L m := (st_again ho m (by rw [ha.len]; exact Nat.le_refl _)).1
  have H1 := Lib.hid (fun W (hW : OArg W W.heap.size A m cap L) => lcheck_any f A m cap L W hW)
  have H2 := Lib.hid (fun W (hW : OArg W W.heap.size A m cap L) => tuned_any f A m cap L W hW)
  have H3 := Lib.hid (fun W (hW : OArg W W.heap.size A m cap L) => (redundant_any f A m cap L W hW).mono fun e w' h => h.ok hx)
  have H4 := Lib.hid (fun W (hW : OArg W W.heap.size A m cap L) => tcheck_any f A m cap L W hW)
  have H5 := Lib.hid (fun W (hW : OArg W W.heap.size A m cap L) => lredundant_any f A m cap L W hW (by omega))
  rw [hag] at H3
  rw [hx, show tunX f L = tunV f L by unfold tunX; rw [if_pos hx]] at H2
  rw [hx] at H1 H4
  obtain ⟨G, hG⟩ : ∃ G, G = rzN f L m := ⟨_, rfl⟩
  rw [← hG] at H3 H5
  have hgl : G.length ≤ 40 := by rw [hG]; have := rzN_len f L m; omega
  obtain ⟨s, hs⟩ : ∃ s, s = tunV f L := ⟨_, rfl⟩
  rw [← hs] at H2
  have HS := Lib.hid hs
  obtain ⟨s1, s2⟩ := s
  rw [show nv (s1, s2) = .agg #[.int .u64 (s1 : Int), .int .u64 (s2 : Int)] from rfl] at H2
  have hq1 := fun W => eql_notes W s1 s2 s1 s2
  rw [eqB_self] at hq1
  obtain ⟨i0, hi, hz0, hz1, hz2⟩ := info_parts infoIntT
  have HI0 := Lib.hid hi
  have HZ0 := Lib.hid hz0
  have HZ1 := Lib.hid hz1
  have HZ2 := Lib.hid hz2
  clear hm0 ha ht hx ho hag hG hs hi hz0 hz1 hz2
  go_enter Tryd.func9, Tryd.ntmps9
  go_wp2_with fail
  refine (HK.out _ HT.out).mono ?_
  rintro e w1 ⟨rfl, hb1⟩
  have HM1 := Lib.hid (HM.out.step hb1)
  have HA1 := Lib.hid (HA.out.step HM1.out.below)
  have c0 : w1.cell? ⟨w.heap.size, 0, none⟩ = some (.int .i64 f) := (HM1.out.at_ 0 rfl).cell 0
  have c1 : w1.cell? ⟨w.heap.size, 1, none⟩ = some (.slice A m cap) := (HM1.out.at_ 0 rfl).cell 1
  clear hb1
  go_wp2_with fail
  refine (H1.out _ HA1.out).mono ?_
  rintro e w2 ⟨rfl, hb2⟩
  have HM2 := Lib.hid (HM1.out.step hb2)
  have HA2 := Lib.hid (HA.out.step HM2.out.below)
  clear c0 c1 hb2
  have c0 : w2.cell? ⟨w.heap.size, 0, none⟩ = some (.int .i64 f) := (HM2.out.at_ 0 rfl).cell 0
  have c1 : w2.cell? ⟨w.heap.size, 1, none⟩ = some (.slice A m cap) := (HM2.out.at_ 0 rfl).cell 1
  go_wp2_with fail
  refine (H2.out _ HA2.out).mono ?_
  rintro e w3 ⟨rfl, hb3⟩
  have hm3 := (HM2.out.step hb3).new 39 [.int .u64 (s1 : Int), .int .u64 (s2 : Int)]
  simp only [List.cons_append, List.nil_append] at hm3
  have HM3 := Lib.hid hm3
  have HA3 := Lib.hid (HA.out.step hm3.below)
  clear c0 c1 hb3
  have c0 : (w3.alloc (.cells #[.int .u64 (s1 : Int), .int .u64 (s2 : Int)] 39)).cell? ⟨w.heap.size, 0, none⟩ = some (.int .i64 f) := (hm3.at_ 0 rfl).cell 0
  have c1 : (w3.alloc (.cells #[.int .u64 (s1 : Int), .int .u64 (s2 : Int)] 39)).cell? ⟨w.heap.size, 1, none⟩ = some (.slice A m cap) := (hm3.at_ 0 rfl).cell 1
  clear hm3
  go_wp2_with fail
  refine (H3.out _ HA3.out).mono ?_
  rintro e w4 ⟨GA, gc, rfl, hrd, hgc, hgm, hb4⟩
  have HM4 := Lib.hid (HM3.out.step hb4)
  have HA4 := Lib.hid (HA.out.step HM4.out.below)
  have HRD := Lib.hid hrd
  clear c0 c1 hb4 hrd
  have c0 : w4.cell? ⟨w.heap.size, 0, none⟩ = some (.int .i64 f) := (HM4.out.at_ 0 rfl).cell 0
  have c1 : w4.cell? ⟨w.heap.size, 1, none⟩ = some (.slice A m cap) := (HM4.out.at_ 0 rfl).cell 1
  go_wp2_with fail
  refine (H4.out _ HA4.out).mono ?_
  rintro e w5 ⟨rfl, hb5⟩
  have HM5 := Lib.hid (HM4.out.step hb5)
  have HRD5 := Lib.hid (HRD.out.below hb5)
  have hz45 := hb5.size
  clear c0 c1 hb5
  have c0 : w5.cell? ⟨w.heap.size, 0, none⟩ = some (.int .i64 f) := (HM5.out.at_ 0 rfl).cell 0
  go_wp2_with fail
  clear c0
  go_loopw [8, 9] (fun u v wx => ∃ (k : Nat) (LA : Option Addr) (lc : Nat), v = .int .i64 (k : Int) ∧ k ≤ m ∧ u = .slice LA (k + 1) lc ∧ wx.ownsRow w5.heap.size 3 1 (.slice LA (k + 1) lc) (k + 1) ((f :: (L.take k).map (·.2)).map i64v) ∧ Below w5.heap.size w5 wx) (fun _ v _ => m - (intOf v).toNat)
  case atStart => exact ⟨0, some ⟨w5.heap.size, 0, none⟩, 1, rfl, by omega, rfl, own_blk (l := [f]) (heap_alloc_new w5 _) (Nat.le_refl _) (by unfold maxLen; simp), bw_new (Below.refl _ _) _⟩
  case round =>
    obtain ⟨k, LA, lc, rfl, hk, rfl, hown, hbw⟩ := hrel
    have HO := Lib.hid hown
    have HBW := Lib.hid hbw
    have HMR := Lib.hid (HM5.out.step hbw)
    have c1 : wr.cell? ⟨w.heap.size, 1, none⟩ = some (.slice A m cap) := (HMR.out.at_ 0 rfl).cell 1
    clear hown hbw
    by_cases hkm : k < m
    · obtain ⟨b, off, rfl, hbl, hs⟩ := HA.out.rd.at_ (by rw [HA.out.len]; omega)
      have hq := (hs k (by rw [HA.out.len]; omega)).keep (fun o => (HMR.out.below.cell (p := ⟨b, o, none⟩) hbl))
      obtain ⟨y, hy⟩ : ∃ y, y = (L.getD k (0, 0)).2 := ⟨_, rfl⟩
      have hq1 : wr.cell? ⟨b, off + k * 2 + 1, none⟩ = some (.int .i64 y) := by rw [hy]; exact hq.2
      have HTK := Lib.hid (show f :: (L.take (k + 1)).map (·.2) = (f :: (L.take k).map (·.2)) ++ [y] by rw [take_getD L k (by rw [HA.out.len]; exact hkm), List.map_append, hy]; rfl)
      obtain ⟨l0, hl0⟩ : ∃ l0, l0 = f :: (L.take k).map (·.2) := ⟨_, rfl⟩
      rw [← hl0] at HO HTK
      clear hs hq hy hl0
      go_wp2_with (at_builtin; refine wpList_append_own _ rfl _ _ 46 rfl w5.heap.size 3 i0 (.int .i64 0) 1 8 Tryd.underlying46 HI0.out HZ0.out HZ1.out HZ2.out rfl (by decide) _ _ _ rfl (own_below HO.out (bw_new (Below.refl _ _) _)) ⟨wr.heap.size, 0, none⟩ 1 1 [.int .i64 y] rfl rfl (World.news_of_block (cs := #[.int .i64 y]) (t := 3) (fr := (0, 0)) (heap_alloc_new wr _)) (by simp [Value.oneCell']) (by unfold maxLen; omega) (by omega) (by have := HBW.out.size; simp; omega) ?_)
      intro v' wb hown hgrow _
      have hb4 : Below w5.heap.size w5 wb := ((HBW.out.alloc HBW.out.size _)).grown hgrow (by have := HBW.out.size; simp; omega) (fun g hg => (HO.out.lt g hg).1)
      obtain ⟨g, rc2, hv, hrc2⟩ := own_form hown (by omega)
      subst hv
      have HB4 := Lib.hid hb4
      have HO4 := Lib.hid hown
      clear hown hgrow hb4
      go_wp2
      go_roundw
      case rel =>
        refine ⟨k + 1, some ⟨g, 0, none⟩, rc2, by go_num, by omega, rfl, ?_, HB4.out⟩
        rw [HTK.out, List.map_append]
        exact HO4.out
      case measure => simp [intOf]; omega
    · obtain rfl : k = m := by omega
      rw [show L.take k = L from List.take_of_length_le (by rw [HA.out.len]; exact Nat.le_refl _)] at HO
      obtain ⟨l, hl⟩ : ∃ l, l = f :: L.map (·.2) := ⟨_, rfl⟩
      rw [← hl] at HO
      have HLL := Lib.hid (show l.length = k + 1 by rw [hl, List.length_cons, List.length_map, HA.out.len])
      have HV := Lib.hid (show setN l (0, 0) = (s1, s2) by rw [HS.out, hl]; rfl)
      have hT : CkH w f A k cap w3.heap.size s1 s2 w5.heap.size LA (k + 1) lc l w4.heap.size GA G wr := CkH.of HMR.out HO.out (HRD5.out.below (HBW.out.mono hz45)) (Nat.le_trans hz45 HBW.out.size)
      have HOF := Lib.hid (fun W (h : CkH w f A k cap w3.heap.size s1 s2 w5.heap.size LA (k + 1) lc l w4.heap.size GA G W) => refOf_any LA (k + 1) lc l W HLL.out (own_cap h.2.2.2.2.2.1) (own_mxT h.2.2.2.2.2.1) (Rd.of_own h.2.2.2.2.2.1 HLL.out.symm))
      rw [HV.out, show nv (s1, s2) = .agg #[.int .u64 (s1 : Int), .int .u64 (s2 : Int)] from rfl] at HOF
      have H55 := Lib.hid (fun W (h : CkH w f A k cap w3.heap.size s1 s2 w5.heap.size LA (k + 1) lc l w4.heap.size GA G W) => H5.out W (HA.out.step h.2.2.2.2.1.below))
      have HSM := Lib.hid (fun W (h : CkH w f A k cap w3.heap.size s1 s2 w5.heap.size LA (k + 1) lc l w4.heap.size GA G W) (B : Nat) RA rc (hown : W.ownsRow B 3 1 (.slice RA G.length rc) G.length (G.map i64v)) => refSame_any GA RA G.length gc G.length rc G G W rfl rfl hgc (own_cap hown) hgm (own_mxT hown) (h.2.2.2.2.2.2.1.more h.2.2.2.2.2.2.2) (Rd.of_own hown rfl))
      rw [show sameB G G = true by unfold sameB; simp] at HSM
      clear hl c1
      go_wp2_with fail
      go_region_held3 (fun w' => w'.cell? ⟨w.heap.size, 0, none⟩ = some (.int .i64 f) ∧ w'.cell? ⟨w.heap.size, 1, none⟩ = some (.slice A k cap) ∧ w'.cell? ⟨w3.heap.size, 0, none⟩ = some (.int .u64 (s1 : Int)) ∧ w'.cell? ⟨w3.heap.size, 1, none⟩ = some (.int .u64 (s2 : Int)) ∧
  Hp w [(w.heap.size, 25, [.int .i64 f, .slice A k cap]), (w3.heap.size, 39, [.int .u64 (s1 : Int), .int .u64 (s2 : Int)])] w' ∧ w'.ownsRow w5.heap.size 3 1 (.slice LA (k + 1) lc) (k + 1) (l.map i64v) ∧ Rd i64v w' w4.heap.size GA G ∧ w4.heap.size ≤ w'.heap.size) (first | assumption | exact CkH.below hT (bw_drew (Below.refl _ _)) | exact CkH.below (by assumption) hbel)
        (first
         | (go_at_call 31; refine (HOF.out _ (by assumption)).mono ?_; rintro e w' ⟨rfl, hbel⟩)
         | (go_at_call 28; refine (H55.out _ (by assumption)).mono ?_; rintro e w' ⟨RA, rc, rfl, hown, hbel⟩)
         | (go_at_call 18; refine (HSM.out _ (by assumption) _ _ _ (by assumption)).mono ?_; rintro e w' ⟨rfl, hbel⟩))
      have hf : CkH w f A k cap w3.heap.size s1 s2 w5.heap.size LA (k + 1) lc l w4.heap.size GA G w' := by assumption
      have HF := Lib.hid hf
      clear hf
      go_wp2
      go_ret
      exact ⟨rfl, HF.out.2.2.2.2.1.below⟩
theorem lchecks_any (f : Int) (A : Option Addr) (m cap : Nat) (L : List (Int × Int)) (w : World) (ha : OArg w w.heap.size A m cap L) (ht : DTab w) :
    Calls Tryd.prog 9 #[.agg #[.int .i64 f, .slice A m cap]] w fun e w' => e = .returned (.bool true) ∧ Below w.heap.size w w' := by
  by_cases hl : (40 : Int) < m
  · exact lchecks_long f A m cap L w ha ht hl
  · by_cases hx : runE f L = 0
    · exact lchecks_ok f A m cap L w ha ht hl hx
    · exact lchecks_err f A m cap L w ha ht hl hx
end Go.Proofs.YtfickhncbahekaaDoor
