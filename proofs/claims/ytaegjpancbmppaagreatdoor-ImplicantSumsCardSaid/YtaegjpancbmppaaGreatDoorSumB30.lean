/- Part 30 of 33 of the proof of the law: contracts of the functions that it reaches, and plain facts. Conditions: those that each contract names. -/
import Derived.Test.YtaegjpancbmppaaGreatDoorSumB29
import Derived.Test.YtaegjpancbmppaaGreatDoorSumB24
import Derived.Test.YtaegjpancbmppaaGreatDoorSumB28
import Derived.Test.YtaegjpancbmppaaGreatDoorSumB25
import Derived.Test.YtaegjpancbmppaaGreatDoorSumB14
import Derived.Test.YtaegjpancbmppaaGreatDoorSumB08
set_option linter.unusedVariables false
set_option linter.unusedSimpArgs false
namespace Go.Proofs.YtaegjpancbmppaaGreatDoor
open Go.RowKit
def lsOut (L0 : List (Nat × Nat)) : LsS → List (Nat × Nat)
 | none => []
 | some (b, _) => b.map fun i => L0.getD i (0, 0)
theorem lsL_out (n may : Nat) (on : List Nat) : lsL n may on = lsOut (prS n (rowM on) may) (lsSeek (lsP n (prS n (rowM on) may)) on (on.length + 1) none [] 0 0) := by
 unfold lsL lsOut
 rfl
theorem on_short {q : Nat} {L : List Int} (hq : q ≤ 8) (h : ∀ x ∈ L, 0 ≤ x ∧ x < ((2 ^ q : Nat) : Int)) (hs : L.Pairwise (· < ·)) : (onR L).length ≤ 256 ∧ (onR L).Pairwise (· < ·) := by
 have hp : (onR L).Pairwise (· < ·) := by
  rw [List.pairwise_map]
  exact hs.imp_of_mem fun ha hb hab => by have := h _ ha; have := h _ hb; omega
 have := nodup_le (onR L) (List.range 256) (hp.imp fun h => Nat.ne_of_lt h) (fun x hx => List.mem_range.2 (on_small hq h x hx))
 rw [List.length_range] at this
 exact ⟨this, hp⟩
theorem lsCells (L0 : List (Nat × Nat)) (b : List Nat) {k : Nat} (h : k < b.length) : (b.take (k + 1)).flatMap (fun i => cbL (L0.getD i (0, 0))) = (b.take k).flatMap (fun i => cbL (L0.getD i (0, 0))) ++ cbL (L0.getD (b.getD k 0) (0, 0)) := by
 rw [List.take_succ_eq_append_getElem h, List.flatMap_append, List.flatMap_cons, List.flatMap_nil, List.append_nil, List.getD_eq_getElem?_getD (l := b), List.getElem?_eq_getElem h]
 rfl
structure LmP (w : World) (base q : Nat) (PL : List (Nat × TypeId × List Value)) (L0 : List (Nat × Nat)) (cs : List Value) (m1 m5 : Bool) (gA : Option Addr) (gq : Nat) (W : World) : Prop where
 hp : Hp w PL W
 sz : base ≤ W.heap.size
 prd : m1 = true → PRd q W W.heap.size gA L0
 bx : m5 = true → Blk W gq 81 cs ∧ base ≤ gq
 bn : m1 = true → m5 = true → 0 < L0.length → ∀ p, gA = some p → p.block ≠ gq
theorem LmP.start {w W : World} {base q : Nat} {PL : List (Nat × TypeId × List Value)} {L0 : List (Nat × Nat)} {cs : List Value} {gA : Option Addr} {gq : Nat} (h : Hp w PL W) (hb : base ≤ W.heap.size) : LmP w base q PL L0 cs false false gA gq W :=
 ⟨h, hb, fun e => (by cases e), fun e => (by cases e), fun e => (by cases e)⟩
theorem LmP.pr {w W W' : World} {base q : Nat} {PL : List (Nat × TypeId × List Value)} {L0 : List (Nat × Nat)} {cs cs' : List Value} {gA gA' : Option Addr} {gq : Nat} (h : LmP w base q PL L0 cs false false gA gq W) (hb : Below W.heap.size W W') (hr : PRd q W' W'.heap.size gA' L0) : LmP w base q PL L0 cs' true false gA' gq W' :=
 ⟨h.hp.step hb, Nat.le_trans h.sz hb.size, fun _ => hr, fun e => (by cases e), fun _ e => (by cases e)⟩
theorem LmP.box {w W : World} {base q : Nat} {PL : List (Nat × TypeId × List Value)} {L0 : List (Nat × Nat)} {cs : List Value} {gA : Option Addr} {gq : Nat} (h : LmP w base q PL L0 cs true false gA gq W) : LmP w base q PL L0 cs true true gA W.heap.size (W.alloc (.cells cs.toArray 81)) :=
 ⟨h.hp.alloc _, Nat.le_trans h.sz (by rw [World.size_alloc]; omega), fun _ => ((h.prd rfl).below (bw_new (Below.refl W.heap.size W) _)).more (by rw [World.size_alloc]; omega), fun _ => ⟨heap_alloc_new W _, h.sz⟩, fun _ _ hl p hp => by
  obtain ⟨g, e, hg, -⟩ := h.prd rfl hl
  rw [e] at hp
  cases hp
  exact Nat.ne_of_lt hg⟩
set_option maxRecDepth 1000000 in
set_option maxHeartbeats 8000000 in
theorem iLeast_ok (A B : Option Addr) (c d n m q : Nat) (L K : List Int) (w : World) (h : TabAt w w.heap.size A B n m L K) (hk : smlE (q : Int) L K = 0) :
  Calls Tryz.prog 14 #[.agg #[.int .i64 (q : Int), .slice A n c, .slice B m d]] w fun e w' => ∃ (A' : Option Addr) (cp : Nat), e = .returned (.tuple #[.slice A' (lsL q (mayM L K) (onR L)).length cp, .int .i64 0]) ∧ w'.ownsRow w.heap.size 37 2 (.slice A' (lsL q (mayM L K) (onR L)).length cp) (lsL q (mayM L K) (onR L)).length ((lsL q (mayM L K) (onR L)).flatMap cbL) ∧ Below w.heap.size w w' := by
 obtain ⟨hk0, hq5⟩ := sml_zero hk
 obtain ⟨hq8, l1, hpw, -, -⟩ := chk_rows hk0
 obtain ⟨h256, -⟩ := on_short hq8 l1 hpw
 obtain ⟨R, hR⟩ : ∃ R, R = lsL q (mayM L K) (onR L) := ⟨_, rfl⟩
 rw [← hR]
 obtain ⟨L0, hL0⟩ : ∃ l, l = tPr q L K := ⟨_, rfl⟩
 rw [lsL_out, show prS q (rowM (onR L)) (mayM L K) = L0 by rw [hL0]; rfl] at hR
 have hL0m : ∀ x ∈ L0, x.1 < 256 := fun x hx => by
  rw [hL0] at hx
  have h1 := (prF_mem.1 ((prS_mem hq8).1 hx)).1
  have := pow_le8 hq8
  omega
 have hL0l : L0.length ≤ 65536 := by rw [hL0]; exact tPr_len q L K hq8
 have hrn := rd_nat h.on (fun x hx => (l1 x hx).1)
 have hr256 := on_small hq8 l1
 have hn : n = (onR L).length := by rw [List.length_map]; exact h.n_
 have hSM := fun W (hb : Below w.heap.size w W) => ismall_any A B c d n m (q : Int) L K W (h.below hb)
 rw [hk] at hSM
 have HSM := Lib.hid hSM
 have hn1 := h.nm.1
 obtain ⟨nl, hnl⟩ : ∃ l, l = L0.length := ⟨_, rfl⟩
 have HPR := Lib.hid (show ∀ W, Below w.heap.size w W → Calls Tryz.prog 42 #[.agg #[.int .i64 (q : Int), .slice A n c, .slice B m d]] W fun e w' => ∃ (A' : Option Addr) (cp : Nat), e = .returned (.slice A' nl cp) ∧ PRd q w' w'.heap.size A' L0 ∧ Below W.heap.size W w' from fun W hb => by rw [hnl, hL0]; exact iprimes_any A B c d n m q L K W (h.below hb) hk0)
 have HR := Lib.hid hR
 have HP := Lib.hid (And.intro hrn (And.intro hr256 (And.intro hn (And.intro hn1 (And.intro h256 (And.intro hq8 (And.intro hL0m (And.intro hL0l hnl))))))))
 obtain ⟨i0, hi0, hz0, hz1, hz2⟩ := info_parts infoCub
 have HI0 := Lib.hid hi0
 have HZ0 := Lib.hid hz0
 have HZ1 := Lib.hid hz1
 have HZ2 := Lib.hid hz2
 have hm0 := (Hp.start w).new 26 [.int .i64 (q : Int), .slice A n c, .slice B m d]
 simp only [List.nil_append] at hm0
 have HM0 := Lib.hid hm0
 have c0 : (w.alloc (.cells #[.int .i64 (q : Int), .slice A n c, .slice B m d] 26)).cell? ⟨w.heap.size, 0, none⟩ = some (.int .i64 (q : Int)) := (hm0.at_ 0 rfl).cell 0
 have c1 : (w.alloc (.cells #[.int .i64 (q : Int), .slice A n c, .slice B m d] 26)).cell? ⟨w.heap.size, 1, none⟩ = some (.slice A n c) := (hm0.at_ 0 rfl).cell 1
 have c2 : (w.alloc (.cells #[.int .i64 (q : Int), .slice A n c, .slice B m d] 26)).cell? ⟨w.heap.size, 2, none⟩ = some (.slice B m d) := (hm0.at_ 0 rfl).cell 2
 clear hi0 hz0 hz1 hz2 hm0 h hk hk0 hq5 hq8 l1 hpw h256 hR hL0 hL0m hL0l hrn hr256 hn hSM hn1 hnl
 go_enter Tryz.func14, Tryz.ntmps14
 go_wp2_with fail
 refine (HSM.out _ HM0.out.below).mono ?_
 rintro e w1 ⟨rfl, hb1⟩
 have HM1 := Lib.hid (HM0.out.step hb1)
 have HW1 := Lib.hid HM1.out.below.size
 clear hb1 HM0 c0 c1 c2
 go_upto_region 4 with fail
 refine wp_regionJ 7 #[false, false, false, false, false, false, false] (fun ll aa W => ∃ (m0 m1 m2 m3 m4 m5 m6 : Bool) (gA : Option Addr) (gc : Nat) (gq : Nat), ll = #[m0, m1, m2, m3, m4, m5, m6] ∧ aa = ({ tmps := #[Value.agg #[Value.int IntKind.i64 (q : Int), Value.slice A n c, Value.slice B m d], Value.pointer (some { block := w.heap.size, off := 0 }), Value.slice none 0 0, Value.int IntKind.i64 0, Value.int IntKind.i64 0, cwX m6 (.pointer (some ⟨gq, 0, none⟩)) (undef), undef, undef, undef, Value.agg #[Value.int IntKind.i64 (q : Int), Value.slice A n c, Value.slice B m d], Value.int IntKind.i64 0, Value.int IntKind.i64 0, Value.bool false, undef, cwX m0 (.agg #[.int .i64 (q : Int), .slice A n c, .slice B m d]) (undef), cwX m1 (.slice gA nl gc) (undef), cwX m2 (.pointer (some ⟨w.heap.size, 1, none⟩)) (undef), cwX m3 (.slice A n c) (undef), cwX m4 (.agg #[.slice gA nl gc, .slice A n c, .slice none 0 0, .int .i64 0, .bool false]) (undef), cwX m5 (.pointer (some ⟨gq, 0, none⟩)) (undef), undef, undef, undef, undef, undef, undef, undef, undef, undef, undef, undef, undef, undef, undef, undef, undef, undef, undef, undef, undef, undef, undef, undef, undef, undef], defers := [] } : Act) ∧ ((m5 = true → m4 = true) ∧ (m4 = true → m1 = true) ∧ (m6 = true → m5 = true)) ∧ LmP w w1.heap.size q [(w.heap.size, 26, [.int .i64 (q : Int), .slice A n c, .slice B m d])] L0 [.slice gA nl gc, .slice A n c, .slice none 0 0, .int .i64 0, .bool false] m1 m5 gA gq W) (by kernel_rfl) (by kernel_rfl) (by kernel_rfl) (by kernel_rfl) ?_ ?_ ?_ ?_
 ·rintro ll aa W ⟨m0, m1, m2, m3, m4, m5, m6, gA, gc, gq, rfl, _⟩
  rfl
 ·exact ⟨false, false, false, false, false, false, false, none, 0, 0, rfl, rfl, ⟨fun h => absurd h (by simp), fun h => absurd h (by simp), fun h => absurd h (by simp)⟩, LmP.start HM1.out.drew (by exact Nat.le_refl _)⟩
 ·rintro ll aa W i o ⟨m0, m1, m2, m3, m4, m5, m6, gA, gc, gq, rfl, rfl, hi0, hm⟩ ho hun hall K hK
  have hi : i < 7 := (Array.getElem?_eq_some_iff.1 ho).1
  have HM := Lib.hid hm
  have HI := Lib.hid hi0
  clear hm hi0
  rcases (show i = 0 ∨ i = 1 ∨ i = 2 ∨ i = 3 ∨ i = 4 ∨ i = 5 ∨ i = 6 by omega) with rfl | rfl | rfl | rfl | rfl | rfl | rfl
  ·cases ho
   simp at hun; subst hun
   clear hall hi
   have c0 : W.cell? ⟨w.heap.size, 0, none⟩ = some (.int .i64 (q : Int)) := (HM.out.hp.at_ 0 rfl).cell 0
   have c1 : W.cell? ⟨w.heap.size, 1, none⟩ = some (.slice A n c) := (HM.out.hp.at_ 0 rfl).cell 1
   have c2 : W.cell? ⟨w.heap.size, 2, none⟩ = some (.slice B m d) := (HM.out.hp.at_ 0 rfl).cell 2
   go_simp
   exact hK.out _ _ ⟨true, m1, m2, m3, m4, m5, m6, gA, gc, gq, rfl, rfl, by obtain ⟨h0, h1, h2⟩ := HI.out; exact ⟨fun e => by first | rfl | exact h0 e | exact absurd e (by simp), fun e => by first | rfl | exact h1 e | exact absurd e (by simp), fun e => by first | rfl | exact h2 e | exact absurd e (by simp)⟩, HM.out⟩
  ·cases ho
   cases (getBX hall 0 rfl : m0 = true)
   simp at hun; subst hun
   clear hall hi
   obtain rfl : m4 = false := by
    cases m4
    ·rfl
    ·exact absurd (HI.out.2.1 rfl) (by simp)
   obtain rfl : m5 = false := by
    cases m5
    ·rfl
    ·exact absurd (HI.out.1 rfl) (by simp)
   go_simp
   refine (HPR.out _ HM.out.hp.below).mono ?_
   rintro e W' ⟨A', cp', rfl, hrd, hb⟩
   have HN := Lib.hid (HM.out.pr (cs' := [.slice A' nl cp', .slice A n c, .slice none 0 0, .int .i64 0, .bool false]) hb hrd)
   exact hK.out _ _ ⟨true, true, m2, m3, false, false, m6, A', cp', gq, rfl, rfl, by obtain ⟨h0, h1, h2⟩ := HI.out; exact ⟨fun e => by first | rfl | exact h0 e | exact absurd e (by simp), fun e => by first | rfl | exact h1 e | exact absurd e (by simp), fun e => by first | rfl | exact h2 e | exact absurd e (by simp)⟩, HN.out⟩
  ·cases ho
   simp at hun; subst hun
   clear hall hi
   go_simp
   exact hK.out _ _ ⟨m0, m1, true, m3, m4, m5, m6, gA, gc, gq, rfl, rfl, by obtain ⟨h0, h1, h2⟩ := HI.out; exact ⟨fun e => by first | rfl | exact h0 e | exact absurd e (by simp), fun e => by first | rfl | exact h1 e | exact absurd e (by simp), fun e => by first | rfl | exact h2 e | exact absurd e (by simp)⟩, HM.out⟩
  ·cases ho
   cases (getBX hall 2 rfl : m2 = true)
   simp at hun; subst hun
   clear hall hi
   have c0 : W.cell? ⟨w.heap.size, 0, none⟩ = some (.int .i64 (q : Int)) := (HM.out.hp.at_ 0 rfl).cell 0
   have c1 : W.cell? ⟨w.heap.size, 1, none⟩ = some (.slice A n c) := (HM.out.hp.at_ 0 rfl).cell 1
   have c2 : W.cell? ⟨w.heap.size, 2, none⟩ = some (.slice B m d) := (HM.out.hp.at_ 0 rfl).cell 2
   go_simp
   exact hK.out _ _ ⟨m0, m1, true, true, m4, m5, m6, gA, gc, gq, rfl, rfl, by obtain ⟨h0, h1, h2⟩ := HI.out; exact ⟨fun e => by first | rfl | exact h0 e | exact absurd e (by simp), fun e => by first | rfl | exact h1 e | exact absurd e (by simp), fun e => by first | rfl | exact h2 e | exact absurd e (by simp)⟩, HM.out⟩
  ·cases ho
   cases (getBX hall 1 rfl : m1 = true)
   cases (getBX hall 3 rfl : m3 = true)
   simp at hun; subst hun
   clear hall hi
   go_simp
   exact hK.out _ _ ⟨m0, true, m2, true, true, m5, m6, gA, gc, gq, rfl, rfl, by obtain ⟨h0, h1, h2⟩ := HI.out; exact ⟨fun e => by first | rfl | exact h0 e | exact absurd e (by simp), fun e => by first | rfl | exact h1 e | exact absurd e (by simp), fun e => by first | rfl | exact h2 e | exact absurd e (by simp)⟩, HM.out⟩
  ·cases ho
   cases (getBX hall 4 rfl : m4 = true)
   obtain rfl : m1 = true := HI.out.2.1 rfl
   simp at hun; subst hun
   clear hall hi
   obtain rfl : m6 = false := by
    cases m6
    ·rfl
    ·exact absurd (HI.out.2.2 rfl) (by simp)
   have HN := Lib.hid HM.out.box
   go_simp
   exact hK.out _ _ ⟨m0, true, m2, m3, true, true, false, gA, gc, W.heap.size, rfl, rfl, by obtain ⟨h0, h1, h2⟩ := HI.out; exact ⟨fun e => by first | rfl | exact h0 e | exact absurd e (by simp), fun e => by first | rfl | exact h1 e | exact absurd e (by simp), fun e => by first | rfl | exact h2 e | exact absurd e (by simp)⟩, HN.out⟩
  ·cases ho
   cases (getBX hall 5 rfl : m5 = true)
   simp at hun; subst hun
   clear hall hi
   go_simp
   exact hK.out _ _ ⟨m0, m1, m2, m3, m4, true, true, gA, gc, gq, rfl, rfl, by obtain ⟨h0, h1, h2⟩ := HI.out; exact ⟨fun e => by first | rfl | exact h0 e | exact absurd e (by simp), fun e => by first | rfl | exact h1 e | exact absurd e (by simp), fun e => by first | rfl | exact h2 e | exact absurd e (by simp)⟩, HM.out⟩
 ·rintro ll aa W2 ⟨m0, m1, m2, m3, m4, m5, m6, gA, gc, gq, rfl, rfl, _, hm⟩ hall
  cases (hall 0 (by decide) : m0 = true)
  cases (hall 1 (by decide) : m1 = true)
  cases (hall 2 (by decide) : m2 = true)
  cases (hall 3 (by decide) : m3 = true)
  cases (hall 4 (by decide) : m4 = true)
  cases (hall 5 (by decide) : m5 = true)
  cases (hall 6 (by decide) : m6 = true)
  clear hall
  have HM2 := Lib.hid hm
  clear hm HM1
  dsimp only [cwX, cond_true]
  have hbk := (HM2.out.bx rfl).1
  have hge := (HM2.out.bx rfl).2
  have hne : 0 < L0.length → ∀ p, gA = some p → p.block ≠ gq := (HM2.out.bn rfl rfl)
  have hAne : 0 < (onR L).length → ∀ p, A = some p → p.block ≠ gq := fun hl p hp e => by
   have h1 := HW1.out
   obtain ⟨b', o', e1, e2, -⟩ := HP.out.1 hl
   rw [e1] at hp
   cases hp
   dsimp only at e
   omega
  have hlc : LcAt W2 q gq nl n gA A L0 (onR L) := ⟨HM2.out.prd rfl, (HP.out.1.below HM2.out.hp.below).more HM2.out.hp.below.size, HP.out.2.2.2.2.2.2.2.2, HP.out.2.2.1, hne, hAne⟩
  have hsk := iseekr_any q gq nl gc n c gA A L0 (onR L) HP.out.2.2.2.2.2.1 HP.out.2.2.2.2.2.2.1 HP.out.2.2.2.2.2.2.2.1 HP.out.2.1 (by have := HP.out.2.2.2.2.1; omega) ((onR L).length + 1) none [] 0 0 none 0 0 W2 hlc ⟨none, 0, 0, 0, false, hbk, (fun p h => by cases h), .inl ⟨rfl, rfl, rfl⟩⟩ Rd.nil rfl (fun _ => ⟨rfl, rfl⟩) (Nat.le_refl _) (fun p h => by cases h) (by have := HP.out.2.2.2.2.1; omega) (Nat.le_refl _) (Nat.lt_succ_of_le (List.length_filter_le _ _))
  obtain ⟨S, hS⟩ : ∃ S, S = lsSeek (lsP q L0) (onR L) ((onR L).length + 1) none [] 0 0 := ⟨_, rfl⟩
  rw [← hS, setL_zero] at hsk
  have hSb : ∀ b k, S = some (b, k) → ∀ i ∈ b, i < L0.length := fun b k e i hi => by
   have hsp := lsSeek_spec (lsP q L0) (onR L) ((onR L).length + 1) none [] 0 0 ⟨List.nodup_nil, (fun _ h => by cases h), (fun x => by simp), rfl⟩ (Nat.lt_succ_of_le (List.length_filter_le _ _))
   rw [← hS, e] at hsp
   rcases hsp with ⟨h, -⟩ | ⟨b', h1, h2, -⟩
   ·cases h
   ·cases h1
    have := h2.2.1 i hi
    rwa [lsP_len] at this
  have HRS := Lib.hid (show R = lsOut L0 S by rw [HR.out, hS])
  have HSB := Lib.hid hSb
  have HSK := Lib.hid (show Calls Tryz.prog 43 #[.pointer (some ⟨gq, 0, none⟩), .slice none 0 0, .agg #[.int .u64 0, .int .u64 0, .int .u64 0, .int .u64 0], .int .i64 0] W2 (LkPost gq nl gc n c gA A S W2) from hsk)
  have HLC := Lib.hid hlc
  have HGE := Lib.hid (Nat.le_trans HW1.out hge)
  clear hbk hge hne hAne hlc hsk hS hSb HR
  go_wp2_with fail
  refine HSK.out.mono ?_
  rintro e W3 ⟨rfl, hch, AB, nb, cb, lit, fd, hbk, hnb, hcs⟩
  have HLC3 := Lib.hid (HLC.out.chs hch)
  have HB3 := Lib.hid (HM2.out.hp.below.trans (hch.below HGE.out HM2.out.hp.below.size))
  have HBK := Lib.hid hbk
  have hres : ∃ b : List Nat, nb = b.length ∧ Rd nv W3 W3.heap.size AB b ∧ R = b.map (fun i => L0.getD i (0, 0)) ∧ (∀ i ∈ b, i < L0.length) ∧ nb ≤ 4000 := by
   rcases hcs with ⟨hs, -, h0⟩ | ⟨b, hs, -, h1, h2, h3⟩
   ·exact ⟨[], h0, Rd.nil, by rw [HRS.out, hs]; rfl, (fun i h => by cases h), by omega⟩
   ·exact ⟨b, h1, h3, by rw [HRS.out, hs]; rfl, HSB.out b lit hs, h2⟩
  obtain ⟨b, hbl, hrb, hRb, hbi, hb4⟩ := hres
  have HBB := Lib.hid (And.intro hbl (And.intro hrb (And.intro hRb hbi)))
  obtain ⟨e0, e1, e2, e3, e4⟩ := five_of hbk
  clear hch hbk hnb hcs hbl hrb hRb hbi HSB HRS HSK
  go_wp2_with fail
  go_loopw [6, 28] (fun u x wr => ∃ (k : Nat) (A' : Option Addr) (cp : Nat), k ≤ nb ∧ x = .int .i64 (k : Int) ∧ u = .slice A' k cp ∧ wr.ownsRow W3.heap.size 37 2 (.slice A' k cp) k ((b.take k).flatMap fun i => cbL (L0.getD i (0, 0))) ∧ Below W3.heap.size W3 wr) (fun _ x _ => nb - (intOf x).toNat)
  case atStart => exact ⟨0, none, 0, Nat.zero_le _, rfl, rfl, World.ownsRow_nil _ _ _ _, Below.refl _ _⟩
  case round =>
   obtain ⟨k, A', cp, hk, rfl, rfl, hown, hb⟩ := hrel
   have HO := Lib.hid hown
   have HB := Lib.hid hb
   clear hown hb e0 e1 e2 e3 e4
   by_cases hlt : k < nb
   ·have hkb : k < b.length := by rw [← HBB.out.1]; exact hlt
    obtain ⟨bb, bo, hAB, hbb, hcc⟩ := ((HBB.out.2.1.below HB.out).more HB.out.size) (by omega)
    have ck := hcc k hkb
    have hgd : b.getD k 0 = b[k]'hkb := by rw [List.getD_eq_getElem?_getD, List.getElem?_eq_getElem hkb]; rfl
    rw [← hgd] at ck
    have hiL := HBB.out.2.2.2 (b.getD k 0) (by rw [hgd]; exact List.getElem_mem _)
    have hcl := lsCells L0 b hkb
    obtain ⟨i, hi⟩ : ∃ i, i = b.getD k 0 := ⟨_, rfl⟩
    rw [← hi] at ck hiL hcl
    obtain ⟨g, hgA, hg, q0, q1, -, -, -, -⟩ := prd_at (HLC3.out.chs (.of_below HB.out)).pr hiL
    obtain ⟨z, hz⟩ : ∃ z, z = L0.getD i (0, 0) := ⟨_, rfl⟩
    rw [← hz] at q0 q1 hcl
    obtain ⟨za, zb⟩ := z
    dsimp only at q0 q1
    have HCL := Lib.hid hcl
    subst hAB
    subst hgA
    obtain ⟨e0, e1, e2, e3, e4⟩ := five_of ((HB.out.block gq (Blk.lt HBK.out)).trans HBK.out)
    have hinl : (i : Int) < (nl : Int) := by have := HP.out.2.2.2.2.2.2.2.2; omega
    have hi0 : (0 : Int) ≤ (i : Int) := by omega
    have hinl2 : i < nl := by omega
    have hklz : (k : Int) < (nb : Int) := by omega
    obtain ⟨k2, hk2⟩ : ∃ z : Int, z = (k : Int) + 1 := ⟨_, rfl⟩
    have hwk : IntKind.i64.wrap ((k : Int) + 1) = k2 := by rw [hk2]; exact IntWalk.i64_in _ (by omega)
    have HK2 := Lib.hid hk2
    have HLT := Lib.hid hlt
    have hk4 : k ≤ 4000 := by omega
    clear hgd hi hiL hcl hz hlt hk hk2 hcc hbb hg hkb
    go_wp2_with (at_builtin; refine wpList_append_own _ rfl _ _ 28 rfl W3.heap.size 37 i0 (.agg #[.int .i64 0, .int .i64 0]) 2 16 Tryz.underlying28 HI0.out HZ0.out HZ1.out HZ2.out rfl (by decide) _ _ _ rfl (own_blI HO.out (bw_new (Below.refl _ _) _)) ⟨wr.heap.size, 0, none⟩ 1 1 (cbL (za, zb)) rfl rfl (World.news_of_block (cs := (cbL (za, zb)).toArray) (t := 37) (fr := (0, 0)) (heap_alloc_new wr _)) (by simp [Value.oneCell']) (by unfold maxLen; omega) (by omega) (by simp; have := HB.out.size; omega) ?_)
    intro v' w4 hown hgrow _
    obtain ⟨g4, c4', hv, hc4⟩ := own_form hown (by omega)
    subst hv
    have hbn := bw_new HB.out (.cells (cbL (za, zb)).toArray 37)
    have HB4 := Lib.hid (hbn.grown hgrow hbn.size (fun k hk => (HO.out.lt k hk).1))
    have HO4 := Lib.hid hown
    clear hown hgrow hbn q0 q1 ck e0 e1 e2 e3 e4
    go_wp2_with fail
    go_roundw
    case rel => exact ⟨k + 1, some ⟨g4, 0, none⟩, c4', by have := HLT.out; omega, by rw [HK2.out]; rfl, rfl, by rw [HCL.out]; exact HO4.out, HB4.out⟩
    case measure => have := HLT.out; have := HK2.out; simp only [intOf]; omega
   ·obtain rfl : k = nb := by omega
    have HFIN := Lib.hid (show k = R.length ∧ wr.ownsRow w.heap.size 37 2 (.slice A' k cp) k (R.flatMap cbL) ∧ Below w.heap.size w wr by
     have h1 := HO.out
     rw [List.take_of_length_le (by rw [HBB.out.1]; exact Nat.le_refl _)] at h1
     refine ⟨by rw [HBB.out.2.2.1, List.length_map]; exact HBB.out.1, ?_, HB3.out.trans (HB.out.mono HB3.out.size)⟩
     rw [HBB.out.2.2.1, List.flatMap_map]
     exact own_lwI h1 HB3.out.size)
    have hkn : ¬ (k : Int) < (k : Int) := by omega
    clear hlt hk
    go_wp2_with fail
    exact bodyPost_ret (v := .tuple #[.slice A' k cp, .int .i64 0]) (by simp [results, Tryz.results14, go_sem]) rfl ⟨A', cp, by rw [HFIN.out.1], by rw [← HFIN.out.1]; exact HFIN.out.2.1, HFIN.out.2.2⟩
theorem kn_p : tPr 2 [1, 2, 3] [] = [(1, 1), (2, 2)] := by decide +kernel
theorem kn_l : lsL 2 (mayM [1, 2, 3] []) (onR [1, 2, 3]) = [(1, 1), (2, 2)] := by decide +kernel
theorem kn_a : apL 2 (mayM [1, 2, 3] []) (onR [1, 2, 3]) = [1, 2] := by decide +kernel
theorem kn_s : (lsL 3 (mayM [1, 2, 3, 4, 5, 6] []) (onR [1, 2, 3, 4, 5, 6])).length = 3 := by decide +kernel
theorem kn_c : chkE 2 [1, 2, 3] [] = 0 ∧ smlE 2 [1, 2, 3] [] = 0 ∧ smlE 3 [1, 2, 3, 4, 5, 6] [] = 0 ∧ fmE 2 [(3, 1)] = 0 := by decide +kernel
def knT : Fm := .nd 4 0 [.nd 3 0 [.nd 1 0 [], .nd 2 0 [.nd 1 1 []]]]
theorem kn_f : [((3, 1) : Int × Int)].map (prodT (2 : Int).toNat) = knT.l := by
 show [prodT 2 (3, 1)] = [Fm.nd 3 0 [.nd 1 0 [], .nd 2 0 [.nd 1 1 []]]]
 unfold prodT
 rw [show ((3, 1) : Int × Int).1.toNat = 3 from rfl, show ((3, 1) : Int × Int).2.toNat = 1 from rfl]
 have : litsT 3 1 2 = [litT 1 0, litT 1 1] := by
  unfold litsT
  rw [show ((List.range 2).filter fun x => Nat.testBit 3 x) = [0, 1] by decide]; rfl
 rw [this]
 simp [litT, show Nat.testBit 1 1 = false by decide]
theorem kn_nodes : knT.nodes = [(4, 0, 1), (3, 0, 2), (1, 0, 0), (2, 0, 1), (1, 1, 0)] := by simp [knT, Fm.nodes, nodesL]
theorem kn_size : knT.size = 5 := by rw [← Fm.nodes_len, kn_nodes]; rfl
theorem kn_depth : knT.depth ≤ 100 := by simp [knT, Fm.depth, depthL]
theorem kn_node : knT.all nodeOK := fun x hx => by
 rw [kn_nodes] at hx
 simp only [List.mem_cons, List.not_mem_nil, or_false] at hx
 rcases hx with rfl | rfl | rfl | rfl | rfl <;> simp [nodeOK]
theorem kn_wr : knT.all wrOK := fun x hx => by
 rw [kn_nodes] at hx
 simp only [List.mem_cons, List.not_mem_nil, or_false] at hx
 rcases hx with rfl | rfl | rfl | rfl | rfl <;> simp [wrOK]
theorem kn_txt : knT.txt = [124, 40, 38, 40, 120, 48, 32, 33, 120, 49, 41, 41] := by
 have h0 : Lib.decDigits 0 = [48] := by rw [Lib.decDigits_one (by decide)]; rfl
 have h1 : Lib.decDigits 1 = [49] := by rw [Lib.decDigits_one (by decide)]; rfl
 simp [knT, Fm.txt, txtR, h0, h1]
theorem own_cells {W : World} {base n c sz : Nat} {t : TypeId} {A : Option Addr} {cs : List Value} (h : W.ownsRow base t sz (.slice A n c) n cs) (hn : 0 < n) :
  ∃ g, A = some ⟨g, 0, none⟩ ∧ g < W.heap.size ∧ ∀ j, j < n * sz → W.cell? ⟨g, j, none⟩ = cs[j]? := by
 rcases h.2 with ⟨hv, h0⟩ | ⟨g, cap, cur, hv, hb, hg, hnc, hmx, hs, ht⟩
 ·omega
 ·injection hv with e1 e2 e3
  subst e1
  refine ⟨g, rfl, (Array.getElem?_eq_some_iff.1 hg).1, fun j hj => ?_⟩
  have h2 : (cur.toList.take (n * sz))[j]? = cs[j]? := by rw [ht]
  rw [List.getElem?_take, if_pos hj] at h2
  rw [cell_of_row W g _ cur _ (0, 0) hg, ← Array.getElem?_toList, h2]
theorem tab_at {W : World} {g n : Nat} {L : List Int} (h : Blk W g 3 (L.map (Value.int .i64))) (hn : n = L.length) (h1 : n ≤ 1000) : TabAt W W.heap.size (some ⟨g, 0, none⟩) none n 0 L [] :=
 ⟨Blk.rd (enc := iz) h, fun h => absurd h (by simp), hn, rfl, h1, by decide⟩
def KnPost (W : World) (e : Ending) (W' : World) : Prop := e = .returned (.bool true) ∧ Below W.heap.size W W'
set_option maxRecDepth 1000000 in
set_option maxHeartbeats 8000000 in
theorem iknown_any (W : World) : Calls Tryz.prog 12 #[] W (KnPost W) := by
 go_enter Tryz.func12, Tryz.ntmps12
 have h0 : Blk ((W.alloc (.cells #[.int .i64 1, .int .i64 2, .int .i64 3] 3)).alloc (.cells #[.int .i64 2, .slice (some ⟨W.heap.size, 0, none⟩) 3 3, .slice none 0 0] 26)) W.heap.size 3 (([1, 2, 3] : List Int).map (Value.int .i64)) :=
  Blk.alloc (show Blk (W.alloc (.cells #[.int .i64 1, .int .i64 2, .int .i64 3] 3)) W.heap.size 3 (([1, 2, 3] : List Int).map (Value.int .i64)) from heap_alloc_new W _) _
 have h1 : Blk ((W.alloc (.cells #[.int .i64 1, .int .i64 2, .int .i64 3] 3)).alloc (.cells #[.int .i64 2, .slice (some ⟨W.heap.size, 0, none⟩) 3 3, .slice none 0 0] 26)) (W.heap.size + 1) 26 [.int .i64 2, .slice (some ⟨W.heap.size, 0, none⟩) 3 3, .slice none 0 0] := by
  have := heap_alloc_new (W.alloc (.cells #[.int .i64 1, .int .i64 2, .int .i64 3] 3)) (.cells #[.int .i64 2, .slice (some ⟨W.heap.size, 0, none⟩) 3 3, .slice none 0 0] 26)
  rwa [show (W.alloc (.cells #[.int .i64 1, .int .i64 2, .int .i64 3] 3)).heap.size = W.heap.size + 1 by simp] at this
 have hb0 : Below W.heap.size W ((W.alloc (.cells #[.int .i64 1, .int .i64 2, .int .i64 3] 3)).alloc (.cells #[.int .i64 2, .slice (some ⟨W.heap.size, 0, none⟩) 3 3, .slice none 0 0] 26)) := bw_new (bw_new (Below.refl _ _) _) _
 have hp := iPrimes_ok (some ⟨W.heap.size, 0, none⟩) none 3 0 3 0 2 [1, 2, 3] [] _ (tab_at h0 rfl (by decide)) kn_c.1
 rw [kn_p] at hp
 have HP := Lib.hid hp
 have H0 := Lib.hid h0
 have H1 := Lib.hid h1
 have HB := Lib.hid hb0
 clear hp h0 h1 hb0
 go_wp2_with fail
 refine HP.out.mono ?_
 rintro e W1 ⟨A1, c1, rfl, hr1, hb1⟩
 have H01 := Lib.hid ((hb1.block _ H0.out.lt).trans H0.out)
 have H11 := Lib.hid ((hb1.block _ H1.out.lt).trans H1.out)
 have HB1 := Lib.hid (HB.out.trans (hb1.mono HB.out.size))
 obtain ⟨g1, rfl, hg1, hc1⟩ := own_cells hr1 (by decide)
 have p2 : W1.cell? ⟨g1, 2, none⟩ = some (.int .i64 2) := hc1 2 (by decide)
 have p3 : W1.cell? ⟨g1, 3, none⟩ = some (.int .i64 2) := hc1 3 (by decide)
 have HG1 := Lib.hid (And.intro hg1 (And.intro p2 p3))
 clear hr1 hb1 hg1 hc1 p2 p3
 have t0 : W1.cell? ⟨W.heap.size + 1, 0, none⟩ = some (.int .i64 2) := Blk.cell H11.out 0
 have t1 : W1.cell? ⟨W.heap.size + 1, 1, none⟩ = some (.slice (some ⟨W.heap.size, 0, none⟩) 3 3) := Blk.cell H11.out 1
 have t2 : W1.cell? ⟨W.heap.size + 1, 2, none⟩ = some (.slice none 0 0) := Blk.cell H11.out 2
 have hl := iLeast_ok (some ⟨W.heap.size, 0, none⟩) none 3 0 3 0 2 [1, 2, 3] [] W1 (tab_at H01.out rfl (by decide)) kn_c.2.1
 rw [kn_l] at hl
 have HL := Lib.hid hl
 clear hl
 go_wp2_with fail
 refine HL.out.mono ?_
 rintro e W2 ⟨A2, c2, rfl, -, hb2⟩
 have H02 := Lib.hid ((hb2.block _ (Blk.lt H01.out)).trans H01.out)
 have H12 := Lib.hid ((hb2.block _ (Blk.lt H11.out)).trans H11.out)
 have HB2 := Lib.hid (HB1.out.trans (hb2.mono HB1.out.size))
 have HC2 := Lib.hid hb2
 clear hb2 t0 t1 t2
 have t0 : W2.cell? ⟨W.heap.size + 1, 0, none⟩ = some (.int .i64 2) := Blk.cell H12.out 0
 have t1 : W2.cell? ⟨W.heap.size + 1, 1, none⟩ = some (.slice (some ⟨W.heap.size, 0, none⟩) 3 3) := Blk.cell H12.out 1
 have t2 : W2.cell? ⟨W.heap.size + 1, 2, none⟩ = some (.slice none 0 0) := Blk.cell H12.out 2
 have ha := iApart_ok (some ⟨W.heap.size, 0, none⟩) none 3 0 3 0 2 [1, 2, 3] [] W2 (tab_at H02.out rfl (by decide)) kn_c.2.1 (by decide) (by decide)
 rw [kn_a] at ha
 have HA := Lib.hid ha
 clear ha
 go_wp2_with fail
 refine HA.out.mono ?_
 rintro e W3 ⟨A3, c3, rfl, hr3, hb3⟩
 have HB3 := Lib.hid (HB2.out.trans (hb3.mono HB2.out.size))
 have HC3 := Lib.hid (HC2.out.trans (hb3.mono HC2.out.size))
 obtain ⟨g3, o3, rfl, hg3, hc3⟩ := hr3 (by decide)
 have HG3 := Lib.hid (And.intro hg3 (show W3.cell? ⟨g3, o3 + 1, none⟩ = some (.int .i64 2) from hc3 1 (by decide)))
 clear hr3 hb3 hg3 hc3 t0 t1 t2
 have hs := iLeast_ok (some ⟨W3.heap.size, 0, none⟩) none 6 0 6 0 3 [1, 2, 3, 4, 5, 6] [] (W3.alloc (.cells #[.int .i64 1, .int .i64 2, .int .i64 3, .int .i64 4, .int .i64 5, .int .i64 6] 3)) (tab_at (heap_alloc_new W3 _) rfl (by decide)) kn_c.2.2.1
 rw [kn_s] at hs
 have HS := Lib.hid hs
 have HN3 := Lib.hid (bw_new (Below.refl W3.heap.size W3) (.cells #[.int .i64 1, .int .i64 2, .int .i64 3, .int .i64 4, .int .i64 5, .int .i64 6] 3))
 clear hs
 go_wp2_with fail
 refine HS.out.mono ?_
 rintro e W4 ⟨A4, c4, rfl, -, hb4⟩
 have HD4 := Lib.hid (HN3.out.trans (hb4.mono HN3.out.size))
 clear hb4
 have hcq : CqRd (W4.alloc (.cells #[.int .i64 3, .int .i64 1] 37)) (W4.alloc (.cells #[.int .i64 3, .int .i64 1] 37)).heap.size (some ⟨W4.heap.size, 0, none⟩) [(3, 1)] := fun _ => by
  have hn : Blk (W4.alloc (.cells #[.int .i64 3, .int .i64 1] 37)) W4.heap.size 37 [.int .i64 3, .int .i64 1] := heap_alloc_new W4 _
  refine ⟨W4.heap.size, 0, rfl, hn.lt, fun i hi => ?_⟩
  obtain rfl : i = 0 := by simp only [List.length_singleton] at hi; omega
  exact ⟨hn.cell 0, hn.cell 1⟩
 have hf := iFormula_any (some ⟨W4.heap.size, 0, none⟩) 1 1 2 [(3, 1)] _ (by decide) hcq rfl (by decide) (by intro x hx; rw [List.mem_singleton] at hx; subst hx; decide)
 have HF := Lib.hid hf
 have HN4 := Lib.hid (bw_new (Below.refl W4.heap.size W4) (.cells #[.int .i64 3, .int .i64 1] 37))
 clear hf hcq
 go_wp2_with fail
 refine HF.out.mono ?_
 rintro e W5 (⟨hne, -⟩ | ⟨-, A5, c5, rfl, -, hfs, hb5⟩)
 ·exact absurd kn_c.2.2.2 hne
 rw [show ([((3, 1) : Int × Int)].length) = 1 from rfl]
 have HD5 := Lib.hid (HD4.out.trans ((HN4.out.trans (hb5.mono HN4.out.size)).mono HD4.out.size))
 have hfs2 : FsR W5 (lowB W5.heap.size) A5 knT.l := by
  have := hfs.mono (S' := lowB W5.heap.size) (fun b hb => hb.2)
  rw [show (((2 : Nat) : Int)) = (2 : Int) from rfl, kn_f] at this
  exact this
 have hnew := bw_new (Below.refl W5.heap.size W5) (.cells #[.int .i64 4, .int .i64 0, .slice A5 1 c5] 53)
 have ht := iText_any knT A5 c5 (W5.alloc (.cells #[.int .i64 4, .int .i64 0, .slice A5 1 c5] 53)) (by rw [kn_size]; decide) kn_depth kn_node kn_wr (hfs2.step hnew)
 rw [kn_txt] at ht
 have HT := Lib.hid (show Calls Tryz.prog 40 #[.agg #[.int .i64 4, .int .i64 0, .slice A5 1 c5]] (W5.alloc (.cells #[.int .i64 4, .int .i64 0, .slice A5 1 c5] 53)) _ from ht)
 have HN5 := Lib.hid hnew
 clear hfs hb5 hfs2 hnew ht
 go_wp2_with fail
 refine HT.out.mono ?_
 rintro e W6 ⟨rfl, hb6⟩
 have HD6 := Lib.hid (HD5.out.trans ((HN5.out.trans (hb6.mono HN5.out.size)).mono HD5.out.size))
 have HB6 := Lib.hid (HB3.out.trans (HD6.out.mono HB3.out.size))
 have p2 : W6.cell? ⟨g1, 2, none⟩ = some (.int .i64 2) := by
  rw [HD6.out.cell (p := ⟨g1, 2, none⟩) (Nat.lt_of_lt_of_le HG1.out.1 HC3.out.size), HC3.out.cell (p := ⟨g1, 2, none⟩) HG1.out.1]; exact HG1.out.2.1
 have p3 : W6.cell? ⟨g1, 3, none⟩ = some (.int .i64 2) := by
  rw [HD6.out.cell (p := ⟨g1, 3, none⟩) (Nat.lt_of_lt_of_le HG1.out.1 HC3.out.size), HC3.out.cell (p := ⟨g1, 3, none⟩) HG1.out.1]; exact HG1.out.2.2
 have p4 : W6.cell? ⟨g3, o3 + 1, none⟩ = some (.int .i64 2) := by
  rw [HD6.out.cell (p := ⟨g3, o3 + 1, none⟩) HG3.out.1]; exact HG3.out.2
 clear hb6
 go_wp2_with fail
 go_ret
 exact ⟨rfl, HB6.out⟩
def pfR (c v r : Nat) : List Nat := (List.range r).filter fun x => x &&& c == v
def LwPost (W : World) (e : Ending) (W' : World) : Prop := e = .returned (.bool true) ∧ Below W.heap.size W W'
theorem own_cq {W : World} {base n c : Nat} {A : Option Addr} {X : List (Nat × Nat)} (h : W.ownsRow base 37 2 (.slice A n c) n (X.flatMap cbL)) (hn : n = X.length) : CqRd W W.heap.size A (zP X) := fun hl => by
 rw [List.length_map] at hl
 rcases h.2 with ⟨h0, h1⟩ | ⟨g, cap, cur, hv, hbs, hg, hr⟩
 ·cases h0
  omega
 ·cases hv
  have hcb : ∀ (Y : List (Nat × Nat)) i, i < Y.length → (Y.flatMap cbL)[i * 2]? = some (nv (Y.getD i (0, 0)).1) ∧ (Y.flatMap cbL)[i * 2 + 1]? = some (nv (Y.getD i (0, 0)).2) := by
   intro Y
   induction Y with
   | nil => intro i hi; simp at hi
   | cons y Y ih =>
    intro i hi
    cases i with
    | zero => exact ⟨rfl, rfl⟩
    | succ i =>
     have h2 := ih i (by simpa using hi)
     have e1 : (i + 1) * 2 = i * 2 + 2 := by omega
     rw [List.flatMap_cons, e1]
     exact h2
  refine ⟨g, 0, rfl, (h.lt g rfl).2, fun i hi => ?_⟩
  rw [List.length_map] at hi
  obtain ⟨k0, k1⟩ := hcb X i hi
  have hc0 := World.ownsRow.cellAt h (i * 2) (by omega)
  have hc1 := World.ownsRow.cellAt h (i * 2 + 1) (by omega)
  rw [zP_get hi, Nat.zero_add]
  exact ⟨hc0.trans k0, hc1.trans k1⟩
end Go.Proofs.YtaegjpancbmppaaGreatDoor
