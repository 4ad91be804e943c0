/- Part 24 of 33 of the proof of the law: contracts of the functions that it reaches, and plain facts. Conditions: those that each contract names. -/
import Derived.Test.YtaegjpancbmppaaGreatDoorSumB16
import Derived.Laws.CopyOwn
import Derived.Laws.ResultCell
import Derived.Laws.EntriesVeiled
import Derived.Test.YtaegjpancbmppaaGreatDoorSumB02
import Derived.Test.YtaegjpancbmppaaGreatDoorSumB15
import Derived.Test.YtaegjpancbmppaaGreatDoorSumB07
set_option linter.unusedVariables false
set_option linter.unusedSimpArgs false
namespace Go.Proofs.YtaegjpancbmppaaGreatDoor
open Go.RowKit
theorem sml_zero {q : Nat} {L K : List Int} (h : smlE (q : Int) L K = 0) : chkE (q : Int) L K = 0 ∧ q ≤ 5 := by
 unfold smlE at h
 by_cases h0 : chkE (q : Int) L K = 0
 ·rw [if_neg (fun k => k h0)] at h
  refine ⟨h0, Classical.byContradiction fun hc => ?_⟩
  rw [if_pos (by omega)] at h
  cases h
 ·rw [if_pos h0] at h; exact absurd h h0
theorem chk_rows {q : Nat} {L K : List Int} (hk : chkE (q : Int) L K = 0) : q ≤ 8 ∧ (∀ x ∈ L, 0 ≤ x ∧ x < ((2 ^ q : Nat) : Int)) ∧ L.Pairwise (· < ·) ∧ (∀ x ∈ K, 0 ≤ x ∧ x < ((2 ^ q : Nat) : Int)) ∧ K.Pairwise (· < ·) := by
 have hq8 := chk_q hk
 have hk2 := hk
 unfold chkE at hk2
 rw [if_neg (by omega), show (q : Int).toNat = q by omega] at hk2
 have h1 : ordE ((2 ^ q : Nat) : Int) none L = 0 := Classical.byContradiction fun hc => by rw [if_pos hc] at hk2; exact hc hk2
 rw [if_neg (fun hc => hc h1)] at hk2
 have h2 : ordE ((2 ^ q : Nat) : Int) none K = 0 := Classical.byContradiction fun hc => by rw [if_pos hc] at hk2; exact hc hk2
 obtain ⟨l1, l2, -⟩ := ordE_zero L none h1
 obtain ⟨k1, k2, -⟩ := ordE_zero K none h2
 exact ⟨hq8, l1, l2, k1, k2⟩
theorem on_small {q : Nat} {L : List Int} (hq : q ≤ 8) (h : ∀ x ∈ L, 0 ≤ x ∧ x < ((2 ^ q : Nat) : Int)) : ∀ r ∈ onR L, r < 256 := fun r hr => by
 obtain ⟨x, hx, rfl⟩ := List.mem_map.1 hr
 have := h x hx
 have := pow_le8 hq
 omega
theorem of_tab {w : World} {A B : Option Addr} {n m c d q : Nat} {L K : List Int} (h : TabAt w w.heap.size A B n m L K) (hk : chkE (q : Int) L K = 0) :
  (∀ W, Below w.heap.size w W → Calls Tryz.prog 46 #[.slice A n c] W fun e w' => e = .returned (.agg (setL (rowM (onR L))).toArray) ∧ Below W.heap.size W w') ∧
  (∀ W, Below w.heap.size w W → Calls Tryz.prog 46 #[.slice B m d] W fun e w' => e = .returned (.agg (setL (rowM (onR K))).toArray) ∧ Below W.heap.size W w') := by
 obtain ⟨hq8, l1, -, k1, -⟩ := chk_rows hk
 exact ⟨fun W hb => iof_any A c n (onR L) W (rd_nat (h.below hb).on (fun x hx => (l1 x hx).1)) (on_small hq8 l1) (by rw [List.length_map]; exact h.n_) h.nm.1,
  fun W hb => iof_any B d m (onR K) W (rd_nat (h.below hb).free (fun x hx => (k1 x hx).1)) (on_small hq8 k1) (by rw [List.length_map]; exact h.m_) h.nm.2⟩
set_option maxRecDepth 1000000 in
set_option maxHeartbeats 8000000 in
theorem iApart_ok (A B : Option Addr) (c d n m q : Nat) (L K : List Int) (w : World) (h : TabAt w w.heap.size A B n m L K) (hk : smlE (q : Int) L K = 0) (hc : n ≤ c) (hc9 : c ≤ 9223372036854775807) :
  Calls Tryz.prog 20 #[.agg #[.int .i64 (q : Int), .slice A n c, .slice B m d]] w fun e w' => ∃ (A' : Option Addr) (cp : Nat), e = .returned (.tuple #[.slice A' (apL q (mayM L K) (onR L)).length cp, .int .i64 0]) ∧ Rd nv w' w'.heap.size A' (apL q (mayM L K) (onR L)) ∧ Below w.heap.size w w' := by
 obtain ⟨hk0, hq5⟩ := sml_zero hk
 obtain ⟨hq8, l1, -, -, -⟩ := chk_rows hk0
 obtain ⟨hof1, hof2⟩ := of_tab (c := c) (d := d) h hk0
 obtain ⟨R, hR⟩ : ∃ R, R = apL q (mayM L K) (onR L) := ⟨_, rfl⟩
 rw [← hR]
 have hrn := rd_nat h.on (fun x hx => (l1 x hx).1)
 have hr256 := on_small hq8 l1
 have hn : n = (onR L).length := by rw [List.length_map]; exact h.n_
 have hSM := fun W (hb : Below w.heap.size w W) => ismall_any A B c d n m (q : Int) L K W (h.below hb)
 rw [hk] at hSM
 have HSM := Lib.hid hSM
 have hn1 := h.nm.1
 unfold mayM at hR
 obtain ⟨M1, hM1⟩ : ∃ M, M = rowM (onR L) := ⟨_, rfl⟩
 obtain ⟨M2, hM2⟩ : ∃ M, M = rowM (onR K) := ⟨_, rfl⟩
 rw [← hM1] at hof1
 rw [← hM2] at hof2
 have hR2 : R = apL q (M1 ||| M2) (onR L) := by rw [hR, hM1, hM2]
 have HR := Lib.hid hR2
 have HOF1 := Lib.hid hof1
 have HOF2 := Lib.hid hof2
 have HEI := Lib.hid (fun W => ieither_any M1 M2 W)
 obtain ⟨N, hN⟩ : ∃ N, N = 2 ^ q := ⟨_, rfl⟩
 have hN8 : N ≤ 256 := by rw [hN]; exact pow_le8 hq8
 have hN0 : 0 < N := by rw [hN]; exact Nat.two_pow_pos q
 obtain ⟨z, hz⟩ : ∃ z : Int, z = ((N - 1 : Nat) : Int) := ⟨_, rfl⟩
 have HZE := Lib.hid (show z = ((2 ^ q - 1 : Nat) : Int) by rw [hz, hN])
 have HNN := Lib.hid hN
 have he2 : ((2 : Int) ^ q) = (N : Int) := by rw [hN, Int.natCast_pow]; rfl
 clear hN
 have hsz : IntKind.i64.wrap ((N : Int) - 1) = z := by rw [hz]; exact (IntWalk.i64_in _ (by omega)).trans (by omega)
 have hsh : wrap64 (2 ^ q) = (N : Int) := by
  rw [he2]
  unfold wrap64
  omega
 clear he2
 have HSH := Lib.hid hsh
 have HP := Lib.hid (And.intro hrn (And.intro hr256 (And.intro hn (And.intro hn1 (And.intro hc (And.intro hc9 hq8))))))
 have hm0 := (Hp.start w).new 26 [.int .i64 (q : Int), .slice A n c, .slice B m d]
 simp only [List.nil_append] at hm0
 have HM0 := Lib.hid hm0
 have c0 : (w.alloc (.cells #[.int .i64 (q : Int), .slice A n c, .slice B m d] 26)).cell? ⟨w.heap.size, 0, none⟩ = some (.int .i64 (q : Int)) := (hm0.at_ 0 rfl).cell 0
 have c1 : (w.alloc (.cells #[.int .i64 (q : Int), .slice A n c, .slice B m d] 26)).cell? ⟨w.heap.size, 1, none⟩ = some (.slice A n c) := (hm0.at_ 0 rfl).cell 1
 have c2 : (w.alloc (.cells #[.int .i64 (q : Int), .slice A n c, .slice B m d] 26)).cell? ⟨w.heap.size, 2, none⟩ = some (.slice B m d) := (hm0.at_ 0 rfl).cell 2
 have hq64 : (q : Int) < 64 := by omega
 clear hm0 h hk hk0 hq5 hq8 l1 hof1 hof2 hR hR2 hrn hr256 hn hSM hn1 hM1 hM2 hN8 hN0 hsh hz hc hc9
 go_enter Tryz.func20, Tryz.ntmps20
 go_wp2_with fail
 refine (HSM.out _ HM0.out.below).mono ?_
 rintro e w1 ⟨rfl, hb1⟩
 have HM1 := Lib.hid (HM0.out.step hb1)
 have HW1 := Lib.hid HM1.out.below.size
 clear hb1 HM0 c0 c1 c2
 go_upto_region 4 with fail
 refine wp_regionJ 9 #[false, false, false, false, false, false, false, false, false] (fun ll aa W => ∃ (m0 m1 m2 m3 m4 m5 m6 m7 m8 : Bool) (gq : Nat), ll = #[m0, m1, m2, m3, m4, m5, m6, m7, m8] ∧ aa = ({ tmps := #[Value.agg #[Value.int IntKind.i64 (q : Int), Value.slice A n c, Value.slice B m d], Value.pointer (some { block := w.heap.size, off := 0 }), Value.slice none 0 0, Value.int IntKind.i64 0, Value.int IntKind.i64 0, cwX m7 (.pointer (some ⟨gq, 0, none⟩)) (undef), undef, undef, undef, undef, Value.agg #[Value.int IntKind.i64 (q : Int), Value.slice A n c, Value.slice B m d], Value.int IntKind.i64 0, Value.int IntKind.i64 0, Value.bool false, undef, cwX m0 (.pointer (some ⟨w.heap.size, 1, none⟩)) (undef), cwX m1 (.slice A n c) (undef), cwX m2 (.agg (setL M1).toArray) (undef), cwX m3 (.pointer (some ⟨w.heap.size, 2, none⟩)) (undef), cwX m4 (.slice B m d) (undef), cwX m5 (.agg (setL M2).toArray) (undef), cwX m6 (.agg (setL (M1 ||| M2)).toArray) (undef), undef, undef, undef, undef, undef, undef, undef, undef, undef, undef, undef], defers := [] } : Act) ∧ (m8 = true → m7 = true) ∧ BxP w [(w.heap.size, 26, [.int .i64 (q : Int), .slice A n c, .slice B m d])] w1.heap.size 84 (setL 0) (setL (M1 ||| M2)) m7 m8 gq W) (by kernel_rfl) (by kernel_rfl) (by kernel_rfl) (by kernel_rfl) ?_ ?_ ?_ ?_
 ·rintro ll aa W ⟨m0, m1, m2, m3, m4, m5, m6, m7, m8, gq, rfl, _⟩
  rfl
 ·exact ⟨false, false, false, false, false, false, false, false, false, 0, rfl, rfl, fun h => absurd h (by simp), ((BxP.start HM1.out).step (bw_drew (Below.refl _ _)))⟩
 ·rintro ll aa W i o ⟨m0, m1, m2, m3, m4, m5, m6, m7, m8, gq, rfl, rfl, hi0, hm⟩ ho hun hall K hK
  have hi : i < 9 := (Array.getElem?_eq_some_iff.1 ho).1
  have HM := Lib.hid hm
  have HI := Lib.hid hi0
  clear hm hi0
  rcases (show i = 0 ∨ i = 1 ∨ i = 2 ∨ i = 3 ∨ i = 4 ∨ i = 5 ∨ i = 6 ∨ i = 7 ∨ i = 8 by omega) with rfl | rfl | rfl | rfl | rfl | rfl | rfl | rfl | rfl
  ·cases ho
   simp at hun; subst hun
   clear hall hi
   go_simp
   exact hK.out _ _ ⟨true, m1, m2, m3, m4, m5, m6, m7, m8, gq, rfl, rfl, by have h0 := HI.out; exact fun e => by first | rfl | exact h0 e, HM.out⟩
  ·cases ho
   cases (getBX hall 0 rfl : m0 = true)
   simp at hun; subst hun
   clear hall hi
   have c1 : W.cell? ⟨w.heap.size, 1, none⟩ = some (.slice A n c) := (HM.out.hp.at_ 0 rfl).cell 1
   go_simp
   exact hK.out _ _ ⟨true, true, m2, m3, m4, m5, m6, m7, m8, gq, rfl, rfl, by have h0 := HI.out; exact fun e => by first | rfl | exact h0 e, HM.out⟩
  ·cases ho
   cases (getBX hall 1 rfl : m1 = true)
   simp at hun; subst hun
   clear hall hi
   go_simp
   refine (HOF1.out _ HM.out.hp.below).mono ?_
   rintro e W' ⟨rfl, hb⟩
   exact hK.out _ _ ⟨m0, true, true, m3, m4, m5, m6, m7, m8, gq, rfl, rfl, by have h0 := HI.out; exact fun e => by first | rfl | exact h0 e, HM.out.step hb⟩
  ·cases ho
   simp at hun; subst hun
   clear hall hi
   go_simp
   exact hK.out _ _ ⟨m0, m1, m2, true, m4, m5, m6, m7, m8, gq, rfl, rfl, by have h0 := HI.out; exact fun e => by first | rfl | exact h0 e, HM.out⟩
  ·cases ho
   cases (getBX hall 3 rfl : m3 = true)
   simp at hun; subst hun
   clear hall hi
   have c2 : W.cell? ⟨w.heap.size, 2, none⟩ = some (.slice B m d) := (HM.out.hp.at_ 0 rfl).cell 2
   go_simp
   exact hK.out _ _ ⟨m0, m1, m2, true, true, m5, m6, m7, m8, gq, rfl, rfl, by have h0 := HI.out; exact fun e => by first | rfl | exact h0 e, HM.out⟩
  ·cases ho
   cases (getBX hall 4 rfl : m4 = true)
   simp at hun; subst hun
   clear hall hi
   go_simp
   refine (HOF2.out _ HM.out.hp.below).mono ?_
   rintro e W' ⟨rfl, hb⟩
   exact hK.out _ _ ⟨m0, m1, m2, m3, true, true, m6, m7, m8, gq, rfl, rfl, by have h0 := HI.out; exact fun e => by first | rfl | exact h0 e, HM.out.step hb⟩
  ·cases ho
   cases (getBX hall 2 rfl : m2 = true)
   cases (getBX hall 5 rfl : m5 = true)
   simp at hun; subst hun
   clear hall hi
   go_simp
   refine (HEI.out _).mono ?_
   rintro e W' ⟨rfl, hb⟩
   exact hK.out _ _ ⟨m0, m1, true, m3, m4, true, true, m7, m8, gq, rfl, rfl, by have h0 := HI.out; exact fun e => by first | rfl | exact h0 e, HM.out.step hb⟩
  ·cases ho
   simp at hun; subst hun
   clear hall hi
   obtain rfl : m8 = false := by
    cases m8
    ·rfl
    ·exact absurd (HI.out rfl) (by simp)
   have HN := Lib.hid HM.out.new
   go_simp
   exact hK.out _ _ ⟨m0, m1, m2, m3, m4, m5, m6, true, false, W.heap.size, rfl, rfl, by have h0 := HI.out; exact fun e => by first | rfl | exact h0 e, HN.out⟩
  ·cases ho
   cases (getBX hall 6 rfl : m6 = true)
   cases (getBX hall 7 rfl : m7 = true)
   simp at hun; subst hun
   clear hall hi
   have HN := Lib.hid (HM.out.rowI HW1.out)
   have hbq := HM.out.b rfl rfl
   refine step_store_rowI rfl 84 _ _ rfl rfl gq (setL (M1 ||| M2)).toArray rfl rfl 84 (setL 0).toArray hbq (by kernel_rfl) rfl (by simp [setL, Value.oneCell']) ?_
   exact hK.out _ _ ⟨m0, m1, m2, m3, m4, m5, true, true, true, gq, rfl, rfl, by have h0 := HI.out; exact fun e => by first | rfl | exact h0 e, HN.out⟩
 ·rintro ll aa W2 ⟨m0, m1, m2, m3, m4, m5, m6, m7, m8, gm, rfl, rfl, _, hm⟩ hall
  cases (hall 0 (by decide) : m0 = true)
  cases (hall 1 (by decide) : m1 = true)
  cases (hall 2 (by decide) : m2 = true)
  cases (hall 3 (by decide) : m3 = true)
  cases (hall 4 (by decide) : m4 = true)
  cases (hall 5 (by decide) : m5 = true)
  cases (hall 6 (by decide) : m6 = true)
  cases (hall 7 (by decide) : m7 = true)
  cases (hall 8 (by decide) : m8 = true)
  clear hall
  have HM2 := Lib.hid (hm.done HW1.out)
  simp only [List.nil_append, List.cons_append] at HM2
  clear hm HM1
  dsimp only [cwX, cond_true]
  obtain ⟨c0, -⟩ : W2.cell? ⟨w.heap.size, 0, none⟩ = some (.int .i64 (q : Int)) ∧ True := ⟨(HM2.out.at_ 0 rfl).cell 0, trivial⟩
  have c1 : W2.cell? ⟨w.heap.size, 1, none⟩ = some (.slice A n c) := (HM2.out.at_ 0 rfl).cell 1
  have hwl : w.heap.size < W2.heap.size := (HM2.out.at_ 0 rfl).lt
  have hsh := HSH.out
  have hsz2 : wrap64 ((N : Int) - 1) = z := by rw [← IntWalk.i64_left]; exact hsz
  have hm3 := (((HM2.out.new 3 [.int .i64 z]).new 94 [fTg W2.heap.size w.heap.size gm]).new 24 [.slice none 0 0]).new 95 [fSk (W2.heap.size + 1 + 1) (W2.heap.size + 1) (W2.heap.size + 1 + 1 + 1)]
  simp only [World.size_alloc, List.nil_append, List.cons_append] at hm3
  have hS : SkS ((((W2.alloc (.cells #[.int .i64 z] 3)).alloc (.cells #[fTg W2.heap.size w.heap.size gm] 94)).alloc (.cells #[.slice none 0 0] 24)).alloc (.cells #[fSk (W2.heap.size + 1 + 1) (W2.heap.size + 1) (W2.heap.size + 1 + 1 + 1)] 95)) q (M1 ||| M2) W2.heap.size w.heap.size gm (W2.heap.size + 1 + 1) (W2.heap.size + 1) (W2.heap.size + 1 + 1 + 1) :=
   ⟨⟨by rw [← HZE.out]; exact hm3.at_ 2 rfl, ⟨(hm3.at_ 0 rfl).lt, (hm3.at_ 0 rfl).cell 0⟩, hm3.at_ 1 rfl⟩, hm3.at_ 3 rfl, hm3.at_ 5 rfl, ⟨by omega, by omega, hm3.ne 4 1 rfl rfl (by decide), by omega, by omega⟩⟩
  have hrd := (HP.out.1.below hm3.below).more hm3.below.size
  have hsk := iseek_any q (M1 ||| M2) W2.heap.size w.heap.size gm (W2.heap.size + 1 + 1) (W2.heap.size + 1) (W2.heap.size + 1 + 1 + 1) HP.out.2.2.2.2.2.2 ((onR L).length + 1) [] [] (onR L) none A 0 0 n c _ hS ⟨none, 0, hm3.at_ 4 rfl, Rd.nil⟩ Rd.nil rfl (fun _ => ⟨rfl, rfl⟩) (Nat.le_refl _) hrd HP.out.2.2.1 HP.out.2.2.2.2.1 HP.out.2.2.2.2.2.1 (fun r hr => by cases hr) HP.out.2.1 (by have := HP.out.2.2.2.1; omega) (by have := HP.out.2.2.1; omega)
  rw [show apSeek (togB q (M1 ||| M2)) ((onR L).length + 1) [] [] (onR L) = R from HR.out.symm] at hsk
  have HSK := Lib.hid hsk
  have c1w : ((((W2.alloc (.cells #[.int .i64 z] 3)).alloc (.cells #[.func (.func 47) #[] #[.pointer (some ⟨W2.heap.size, 0, none⟩), .pointer (some ⟨w.heap.size, 0, none⟩), .pointer (some ⟨gm, 0, none⟩)]] 94)).alloc (.cells #[.slice none 0 0] 24)).alloc (.cells #[.func (.func 50) #[] #[.pointer (some ⟨W2.heap.size + 1 + 1, 0, none⟩), .pointer (some ⟨W2.heap.size + 1, 0, none⟩), .pointer (some ⟨W2.heap.size + 1 + 1 + 1, 0, none⟩)]] 95)).cell? ⟨w.heap.size, 1, none⟩ = some (.slice A n c) := (hm3.at_ 0 rfl).cell 1
  have HM3 := Lib.hid hm3
  have HGE := Lib.hid (show w.heap.size ≤ W2.heap.size + 1 + 1 by omega)
  clear hm3 hS hrd hsk
  go_wp2_with fail
  refine HSK.out.mono ?_
  rintro e W4 ⟨rfl, hch, A6, c6, hb6, hr6⟩
  have q9 : W4.cell? ⟨W2.heap.size + 1 + 1, 0, none⟩ = some (.slice A6 R.length c6) := hb6.cell 0
  have HFIN := Lib.hid (show Rd nv W4 W4.heap.size A6 R ∧ Below w.heap.size w W4 from ⟨hr6, HM3.out.below.trans (hch.below HGE.out HM3.out.below.size)⟩)
  clear hch hb6 hr6 c0 c1 hsh hsz2
  go_wp2_with fail
  exact bodyPost_ret (v := .tuple #[.slice A6 R.length c6, .int .i64 0]) (by simp [results, Tryz.results20, go_sem]) rfl ⟨A6, c6, rfl, HFIN.out.1, HFIN.out.2⟩
section
variable {κ : Type} [DecidableEq κ]
theorem fnd_val (k : κ) : ∀ (m : List (κ × Value)) (i j : Nat), (fnd k m i).map (·.2) = (fnd k m j).map (·.2)
 | [], _, _ => rfl
 | p :: m, i, j => by
  rw [fnd, fnd]
  by_cases h : k = p.1
  ·rw [if_pos h, if_pos h]; rfl
  ·rw [if_neg h, if_neg h]; exact fnd_val k m (i + 1) (j + 1)
theorem mget_cons (k : κ) (p : κ × Value) (m : List (κ × Value)) : mget (p :: m) k = if k = p.1 then some p.2 else mget m k := by
 unfold mget
 rw [fnd]
 by_cases h : k = p.1
 ·rw [if_pos h, if_pos h]; rfl
 ·rw [if_neg h, if_neg h]; exact fnd_val k m 1 0
theorem mget_snoc (k : κ) (p : κ × Value) : ∀ m : List (κ × Value), mget (m ++ [p]) k = (mget m k).or (if k = p.1 then some p.2 else none)
 | [] => by rw [List.nil_append, mget_cons]; rfl
 | q :: m => by
  rw [List.cons_append, mget_cons, mget_cons, mget_snoc k p m]
  by_cases h : k = q.1
  ·rw [if_pos h, if_pos h]; rfl
  ·rw [if_neg h, if_neg h]
theorem mget_set (k : κ) (v : Value) (k' : κ) : ∀ (m : List (κ × Value)) (n i : Nat) (u : Value), fnd k m n = some (n + i, u) → mget (m.set i (k, v)) k' = if k' = k then some v else mget m k'
 | [], _, _, _, h => by rw [fnd] at h; cases h
 | p :: m, n, i, u, h => by
  rw [fnd] at h
  by_cases e : k = p.1
  ·rw [if_pos e] at h
   have hi : i = 0 := by
    have := congrArg Prod.fst (Option.some.inj h)
    dsimp only at this
    omega
   subst hi
   rw [List.set_cons_zero, mget_cons, mget_cons]
   by_cases e' : k' = k
   ·rw [if_pos e', if_pos e']
   ·rw [if_neg e', if_neg e', if_neg (fun h => e' (h.trans e.symm))]
  ·rw [if_neg e] at h
   have hge := (fnd_some h).1
   obtain ⟨i, rfl⟩ : ∃ j, i = j + 1 := ⟨i - 1, by omega⟩
   rw [List.set_cons_succ, mget_cons, mget_cons, mget_set k v k' m (n + 1) i u (by rw [h]; congr 2; omega)]
   by_cases e' : k' = p.1
   ·rw [if_pos e', if_pos e', if_neg (fun h => e (h.symm.trans e'))]
   ·rw [if_neg e', if_neg e']
theorem mget_mput (m : List (κ × Value)) (k k' : κ) (v : Value) : mget (mput m k v) k' = if k' = k then some v else mget m k' := by
 unfold mput
 cases h : fnd k m 0 with
 | none =>
  dsimp only
  rw [mget_snoc]
  by_cases e : k' = k
  ·rw [if_pos e, if_pos e]
   have : mget m k' = none := by unfold mget; rw [e, h]; rfl
   rw [this]; rfl
  ·rw [if_neg e, if_neg e, Option.or_none]
 | some p =>
  obtain ⟨i, u⟩ := p
  exact mget_set k v k' m 0 i u (by rw [h]; congr 2; omega)
end
abbrev mK := intKeys (P := Tryz.prog) Tryz.underlying3
def NdM (W : World) (b : Nat) (f : Nat → Bool) : Prop := ∃ m, MapB mK W b m ∧ ∀ i : Nat, mget m (i : Int) = if f i = true then some (.bool true) else none
theorem NdM.step {W W' : World} {b : Nat} {f : Nat → Bool} (h : NdM W b f) (hb : Below W.heap.size W W') : NdM W' b f := by
 obtain ⟨m, h1, h2⟩ := h
 exact ⟨m, h1.below _ hb (h1.lt _), h2⟩
theorem NdM.congr {W : World} {b : Nat} {f g : Nat → Bool} (h : NdM W b f) (hg : ∀ i, f i = g i) : NdM W b g := by
 obtain ⟨m, h1, h2⟩ := h
 exact ⟨m, h1, fun i => by rw [← hg]; exact h2 i⟩
theorem NdM.put {W : World} {b : Nat} {f : Nat → Bool} (h : NdM W b f) (j : Nat) : ∃ W', (Instr.mapUpdate 100 (.map (some b)) (.int .i64 (j : Int)) (.bool true)).run Tryz.prog W = .ok () W' ∧ NdM W' b (fun i => f i || j == i) ∧ W.grownBy W' (some b) := by
 obtain ⟨m, h1, h2⟩ := h
 obtain ⟨W', hr, hm, hg⟩ := run_store mK Tryz.underlying100 h1 (j : Int) (.bool true)
 refine ⟨W', hr, ⟨_, hm, fun i => ?_⟩, hg⟩
 rw [mget_mput, h2]
 by_cases e : j = i
 ·subst e; simp
 ·have : ¬ (i : Int) = (j : Int) := by omega
  rw [if_neg this]
  have e2 : (j == i) = false := by rw [beq_eq_false_iff_ne]; exact e
  show (if f i = true then some (Value.bool true) else none) = if (f i || j == i) = true then some (Value.bool true) else none
  rw [e2, Bool.or_false]
theorem NdM.look {W : World} {b : Nat} {f : Nat → Bool} (h : NdM W b f) (i : Nat) : (Instr.lookup 100 (.map (some b)) (.int .i64 (i : Int)) false).run Tryz.prog W = .ok (.bool (f i)) W := by
 obtain ⟨m, h1, h2⟩ := h
 have h3 := run_look mK Tryz.underlying100 (z := .bool false) (fun w => by first | exact Tryz.zeroValue4 w | kernel_rfl) h1 (i : Int) false
 rw [h2] at h3
 refine h3.trans ?_
 cases f i <;> rfl
theorem cM_has {q : Nat} {x : Nat × Nat} {r : Nat} (h : r < 2 ^ q) : (cM q x.1 x.2).testBit r = hasB x r := by
 rw [Bool.eq_iff_iff, cM_bit]
 unfold hasB
 rw [beq_iff_eq]
 exact ⟨fun h => h.2, fun k => ⟨h, k⟩⟩
set_option maxRecDepth 1000000 in
set_option maxHeartbeats 8000000 in
theorem iEssential_ok (A B : Option Addr) (c d n m q : Nat) (L K : List Int) (w : World) (h : TabAt w w.heap.size A B n m L K) (hk : chkE (q : Int) L K = 0) :
  Calls Tryz.prog 26 #[.agg #[.int .i64 (q : Int), .slice A n c, .slice B m d]] w fun e w' => ∃ (A' : Option Addr) (cp : Nat), e = .returned (.tuple #[.slice A' (essL (tPr q L K) (onR L)).length cp, .int .i64 0]) ∧ w'.ownsRow w.heap.size 37 2 (.slice A' (essL (tPr q L K) (onR L)).length cp) (essL (tPr q L K) (onR L)).length ((essL (tPr q L K) (onR L)).flatMap cbL) ∧ Below w.heap.size w w' := by
 have hCK := fun W (hb : Below w.heap.size w W) => icheck_tab (c := c) (d := d) (v := (q : Int)) h W hb
 rw [hk] at hCK
 have HCK := Lib.hid hCK
 have hle := tPr_len q L K (chk_q hk)
 obtain ⟨P, hP⟩ : ∃ P, P = tPr q L K := ⟨_, rfl⟩
 obtain ⟨ln, hln⟩ : ∃ l, l = P.length := ⟨_, rfl⟩
 have HPR := Lib.hid (show ∀ W, Below w.heap.size w W → Calls Tryz.prog 42 #[.agg #[.int .i64 (q : Int), .slice A n c, .slice B m d]] W fun e w' => ∃ (A' : Option Addr) (cp : Nat), e = .returned (.slice A' ln cp) ∧ PRd q w' w'.heap.size A' P ∧ Below W.heap.size W w' from fun W hb => by rw [hln, hP]; exact iprimes_any A B c d n m q L K W (h.below hb) hk)
 have hm0 := (Hp.start w).new 26 [.int .i64 (q : Int), .slice A n c, .slice B m d]
 simp only [List.nil_append] at hm0
 have HM0 := Lib.hid hm0
 have c0 : (w.alloc (.cells #[.int .i64 (q : Int), .slice A n c, .slice B m d] 26)).cell? ⟨w.heap.size, 0, none⟩ = some (.int .i64 (q : Int)) := (hm0.at_ 0 rfl).cell 0
 have c1 : (w.alloc (.cells #[.int .i64 (q : Int), .slice A n c, .slice B m d] 26)).cell? ⟨w.heap.size, 1, none⟩ = some (.slice A n c) := (hm0.at_ 0 rfl).cell 1
 have c2 : (w.alloc (.cells #[.int .i64 (q : Int), .slice A n c, .slice B m d] 26)).cell? ⟨w.heap.size, 2, none⟩ = some (.slice B m d) := (hm0.at_ 0 rfl).cell 2
 have H := Lib.hid h
 obtain ⟨i0, hi0, hz0, hz1, hz2⟩ := info_parts infoCub
 have HI0 := Lib.hid hi0
 have HZ0 := Lib.hid hz0
 have HZ1 := Lib.hid hz1
 have HZ2 := Lib.hid hz2
 obtain ⟨hq8, l1, -, -, -⟩ := chk_rows hk
 have HQ := Lib.hid hq8
 have HRO := Lib.hid (rd_nat h.on (fun x hx => (l1 x hx).1))
 have HRQ := Lib.hid (show ∀ r ∈ onR L, r < 2 ^ q from fun r hr => by
  obtain ⟨x, hx, rfl⟩ := List.mem_map.1 hr
  have := l1 x hx
  omega)
 have hmm := @run_makeMap Tryz.prog
 have HLE := Lib.hid (And.intro hle (And.intro hP hln))
 rw [← hP]
 clear hi0 hz0 hz1 hz2 hm0 hCK h hk hln hle hP l1 hq8
 go_enter Tryz.func26, Tryz.ntmps26
 go_wp2_with fail
 refine (HCK.out _ HM0.out.below).mono ?_
 rintro e w1 ⟨rfl, hb1⟩
 have HM1 := Lib.hid (HM0.out.step hb1)
 clear hb1 HM0 c0 c1 c2
 have c0 : w1.cell? ⟨w.heap.size, 0, none⟩ = some (.int .i64 (q : Int)) := (HM1.out.at_ 0 rfl).cell 0
 have c1 : w1.cell? ⟨w.heap.size, 1, none⟩ = some (.slice A n c) := (HM1.out.at_ 0 rfl).cell 1
 have c2 : w1.cell? ⟨w.heap.size, 2, none⟩ = some (.slice B m d) := (HM1.out.at_ 0 rfl).cell 2
 go_wp2_with fail
 refine (HPR.out _ HM1.out.below).mono ?_
 rintro e w2 ⟨A2, cp2, rfl, hrd, hb2⟩
 have HRD := Lib.hid hrd
 have HM2 := Lib.hid (HM1.out.step hb2)
 clear hrd hb2 c0 c1 c2
 have c0 : w2.cell? ⟨w.heap.size, 0, none⟩ = some (.int .i64 (q : Int)) := (HM2.out.at_ 0 rfl).cell 0
 have c1 : w2.cell? ⟨w.heap.size, 1, none⟩ = some (.slice A n c) := (HM2.out.at_ 0 rfl).cell 1
 have c2 : w2.cell? ⟨w.heap.size, 2, none⟩ = some (.slice B m d) := (HM2.out.at_ 0 rfl).cell 2
 have hwl : w.heap.size < w2.heap.size := (HM2.out.at_ 0 rfl).lt
 have HN := Lib.hid (show NdM (w2.alloc (.map #[] 0)) w2.heap.size (fun i => needK P (onR L) i 0) from ⟨[], MapB.new mK w2, fun i => rfl⟩)
 go_wp2_with fail
 go_loopw [27] (fun x wr => ∃ k : Nat, k ≤ n ∧ x = .int .i64 (k : Int) ∧ NdM wr w2.heap.size (fun i => needK P (onR L) i k) ∧ Below w2.heap.size w2 wr) (fun x _ => n - (intOf x).toNat)
 case atStart => exact ⟨0, Nat.zero_le _, rfl, HN.out, bw_new (Below.refl _ _) _⟩
 case round =>
  obtain ⟨wo, rfl⟩ : ∃ W, W = wr := ⟨_, rfl⟩
  obtain ⟨k, hk, rfl, hnd, hb⟩ := hrel
  have HND := Lib.hid hnd
  have HB := Lib.hid hb
  clear hnd hb c0 c1 c2
  by_cases hlt : k < n
  ·have hkR : k < (onR L).length := by rw [List.length_map, ← H.out.n_]; exact hlt
   obtain ⟨b, off, hA, hbb, hcc⟩ := (HRO.out.below (HM2.out.below.trans (HB.out.mono HM2.out.below.size))) (Nat.lt_of_le_of_lt (Nat.zero_le _) hkR)
   subst hA
   have ck := hcc k hkR
   have hr2 := HRQ.out _ (List.getElem_mem hkR)
   obtain ⟨r, hr⟩ : ∃ r, r = (onR L)[k] := ⟨_, rfl⟩
   have hgr : (onR L).getD k 0 = r := by rw [hr, List.getD_eq_getElem?_getD, List.getElem?_eq_getElem hkR]; rfl
   rw [← hr] at ck hr2
   have hr256 : r < 256 := Nat.lt_of_lt_of_le hr2 (pow_le8 HQ.out)
   have HNS := Lib.hid (show ∀ i, needK P (onR L) i (k + 1) = (needK P (onR L) i k || (cntE P r == 1 && onlyK P r P.length == i)) from fun i => by rw [needK, hgr])
   have hkz : (k : Int) < (n : Int) := by omega
   have HK := Lib.hid hlt
   obtain ⟨k2, hk2⟩ : ∃ z : Int, z = (k : Int) + 1 := ⟨_, rfl⟩
   have hwk : IntKind.i64.wrap ((k : Int) + 1) = k2 := by rw [hk2]; exact IntWalk.i64_in _ (by have := H.out.nm.1; omega)
   have HK2 := Lib.hid hk2
   have HR := Lib.hid (And.intro hr2 hr256)
   have hln6 : ln ≤ 65536 := by rw [HLE.out.2.2, HLE.out.2.1]; exact HLE.out.1
   clear hk2 hlt hk hgr hr hcc hbb hr2 hr256 hkR
   go_wp2_with fail
   go_loopw [9, 10, 33] (fun u v x wx => ∃ j : Nat, j ≤ ln ∧ x = .int .i64 (j : Int) ∧ u = .int .i64 (onlyK P r j : Int) ∧ v = .int .i64 (cntK P r j : Int) ∧ NdM wx w2.heap.size (fun i => needK P (onR L) i k) ∧ Below w2.heap.size w2 wx) (fun _ _ x _ => ln - (intOf x).toNat)
   case atStart => exact ⟨0, Nat.zero_le _, rfl, rfl, by rw [cntK_zero]; rfl, HND.out, HB.out⟩
   case round =>
    obtain ⟨wi, rfl⟩ : ∃ W, W = wr := ⟨_, rfl⟩
    obtain ⟨j, hj, rfl, rfl, rfl, hnd, hb⟩ := hrel
    have HND2 := Lib.hid hnd
    have HB2 := Lib.hid hb
    clear hnd hb
    by_cases hjl : j < ln
    ·have hjP : j < P.length := by have := HLE.out; omega
     obtain ⟨g, hA2, hg, q0, q1, q2, q3, q4, q5⟩ := prd_at (HRD.out.below HB2.out) hjP
     subst hA2
     have hco := cntK_succ (r := r) hjP
     have hon := show onlyK P r (j + 1) = if hasB (P.getD j (0, 0)) r = true then j else onlyK P r j from rfl
     have hle := cntK_le P r j
     obtain ⟨z, hz⟩ : ∃ z, z = P.getD j (0, 0) := ⟨_, rfl⟩
     rw [← hz] at q0 q1 q2 q3 q4 q5 hco hon
     obtain ⟨a, b'⟩ := z
     dsimp only at q0 q1 q2 q3 q4 q5
     have hha := fun W => ihas_any (cM q a b') r W HR.out.2
     rw [show (cM q a b').testBit r = hasB (a, b') r from cM_has (x := (a, b')) HR.out.1] at hha
     obtain ⟨t, ht⟩ : ∃ t, t = hasB (a, b') r := ⟨_, rfl⟩
     rw [← ht] at hha hco hon
     have HHA := Lib.hid (show ∀ W, Calls Tryz.prog 56 #[.agg #[.int .u64 (wd (cM q a b') 0 : Nat), .int .u64 (wd (cM q a b') 1 : Nat), .int .u64 (wd (cM q a b') 2 : Nat), .int .u64 (wd (cM q a b') 3 : Nat)], .int .i64 (r : Int)] W fun e w' => e = .returned (.bool t) ∧ Below W.heap.size W w' from hha)
     obtain ⟨o, ho⟩ : ∃ o, o = onlyK P r j := ⟨_, rfl⟩
     obtain ⟨cn, hcn⟩ : ∃ o, o = cntK P r j := ⟨_, rfl⟩
     rw [← ho] at hon
     rw [← hcn] at hco hle
     rw [← ho, ← hcn]
     have HCO := Lib.hid (And.intro hco hon)
     have hjz : (j : Int) < (ln : Int) := by omega
     have HJ := Lib.hid hjl
     obtain ⟨j2, hj2⟩ : ∃ z : Int, z = (j : Int) + 1 := ⟨_, rfl⟩
     have hwj : IntKind.i64.wrap ((j : Int) + 1) = j2 := by rw [hj2]; exact IntWalk.i64_in _ (by omega)
     have HJ2 := Lib.hid hj2
     have hwc : IntKind.i64.wrap ((cn : Int) + 1) = ((cn + 1 : Nat) : Int) := by rw [IntWalk.i64_in _ (by omega)]; rfl
     obtain ⟨cn2, hcn2⟩ : ∃ z : Int, z = ((cn + 1 : Nat) : Int) := ⟨_, rfl⟩
     rw [← hcn2] at hwc
     have HCN := Lib.hid hcn2
     clear hj2 hjl hj hjP hha hco hon ho hcn ht hz hcn2 hg hle
     go_wp2_with fail
     refine (HHA.out _).mono ?_
     rintro e w3 ⟨rfl, hb3⟩
     have hb4 := (bw_new (Below.refl wi.heap.size wi) (.cells #[.int .i64 (a : Int), .int .i64 (b' : Int), .int .u64 (wd (cM q a b') 0 : Nat), .int .u64 (wd (cM q a b') 1 : Nat), .int .u64 (wd (cM q a b') 2 : Nat), .int .u64 (wd (cM q a b') 3 : Nat)] 86)).trans (hb3.mono (by simp))
     have HB3 := Lib.hid (HB2.out.trans (hb4.mono HB2.out.size))
     have HND3 := Lib.hid (HND2.out.step hb4)
     clear hb3 hb4 q0 q1 q2 q3 q4 q5
     cases t with
     | true =>
      go_wp2_with fail
      go_roundw
      case rel => exact ⟨j + 1, HJ.out, by rw [HJ2.out]; rfl, by rw [HCO.out.2]; rfl, by rw [HCO.out.1, HCN.out]; rfl, HND3.out, HB3.out⟩
      case measure => have := HJ.out; have := HJ2.out; simp only [intOf]; omega
     | false =>
      go_wp2_with fail
      go_roundw
      case rel => exact ⟨j + 1, HJ.out, by rw [HJ2.out]; rfl, by rw [HCO.out.2]; rfl, by rw [HCO.out.1]; rfl, HND3.out, HB3.out⟩
      case measure => have := HJ.out; have := HJ2.out; simp only [intOf]; omega
    ·obtain rfl : j = ln := by omega
     have hjz : ¬ (j : Int) < (j : Int) := by omega
     have hce : cntK P r j = cntE P r := by rw [HLE.out.2.2]; exact cntK_full P r
     have hoe : onlyK P r j = onlyK P r P.length := by rw [HLE.out.2.2]
     rw [hce, hoe]
     obtain ⟨o, ho⟩ : ∃ o, o = onlyK P r P.length := ⟨_, rfl⟩
     obtain ⟨cn, hcn⟩ : ∃ o, o = cntE P r := ⟨_, rfl⟩
     have hns := HNS.out
     rw [← ho, ← hcn] at hns
     rw [← ho, ← hcn]
     have HNS2 := Lib.hid hns
     clear hj hjl hce hoe ho hcn hns
     by_cases h1 : cn = 1
     ·subst h1
      obtain ⟨W', hput, hnd', hgr⟩ := HND2.out.put o
      have HND4 := Lib.hid hnd'
      have HB4 := Lib.hid (HB2.out.grown hgr HB2.out.size (fun q e => by cases e; exact Nat.le_refl _))
      clear hnd' hgr
      go_wp2_with fail
      go_roundw
      case rel => exact ⟨k + 1, HK.out, by rw [HK2.out]; rfl, HND4.out.congr fun i => by rw [HNS2.out]; simp, HB4.out⟩
      case measure => have := HK.out; have := HK2.out; simp only [intOf]; omega
     ·have hcz : ((cn : Int) == 1) = false := by rw [beq_eq_false_iff_ne]; omega
      have hcb : (cn == 1) = false := by rw [beq_eq_false_iff_ne]; exact h1
      have HCB := Lib.hid hcb
      clear hcb
      go_wp2_with fail
      go_roundw
      case rel => exact ⟨k + 1, HK.out, by rw [HK2.out]; rfl, HND2.out.congr fun i => by rw [HNS2.out, HCB.out]; simp, HB2.out⟩
      case measure => have := HK.out; have := HK2.out; simp only [intOf]; omega
  ·obtain rfl : k = n := by omega
   have hkz : ¬ (k : Int) < (k : Int) := by omega
   have hkn : k = (onR L).length := by rw [List.length_map]; exact H.out.n_
   have HND5 := Lib.hid (show NdM wo w2.heap.size (fun i => needK P (onR L) i (onR L).length) by rw [← hkn]; exact HND.out)
   have hln6 : ln ≤ 65536 := by rw [HLE.out.2.2, HLE.out.2.1]; exact HLE.out.1
   clear hk hlt hkn
   go_wp2_with fail
   go_loopw [13, 53] (fun u x wr => ∃ (j : Nat) (A' : Option Addr) (no cp : Nat), j ≤ ln ∧ x = .int .i64 (j : Int) ∧ u = .slice A' no cp ∧ no = (essK P (onR L) j).length ∧ wr.ownsRow wo.heap.size 37 2 (.slice A' no cp) no ((essK P (onR L) j).flatMap cbL) ∧ Below wo.heap.size wo wr) (fun _ x _ => ln - (intOf x).toNat)
   case atStart => exact ⟨0, none, 0, 0, Nat.zero_le _, rfl, rfl, by rw [essK_zero]; rfl, by rw [essK_zero]; exact World.ownsRow_nil _ _ _ _, Below.refl _ _⟩
   case round =>
    obtain ⟨wi, rfl⟩ : ∃ W, W = wr := ⟨_, rfl⟩
    obtain ⟨j, A', no, cp, hj, rfl, rfl, hno, hown, hb⟩ := hrel
    have HNO := Lib.hid hno
    have HO := Lib.hid hown
    have HBI := Lib.hid hb
    clear hown hb
    by_cases hjl : j < ln
    ·have hjP : j < P.length := by have := HLE.out.2.2; omega
     obtain ⟨g, hA2, hg, q0, q1, q2, q3, q4, q5⟩ := prd_at (HRD.out.below (HB.out.trans (HBI.out.mono HB.out.size))) hjP
     subst hA2
     have hst := essK_succ (rows := onR L) hjP
     have hnl := need_alo (rows := onR L) hjP
     have hno6 : no ≤ 65536 := by
      rw [hno]
      have := essK_len P (onR L) j
      have := HLE.out.2.2
      omega
     obtain ⟨z, hz⟩ : ∃ z, z = P.getD j (0, 0) := ⟨_, rfl⟩
     rw [← hz] at q0 q1 q2 q3 q4 q5 hst hnl
     obtain ⟨a, b⟩ := z
     dsimp only at q0 q1 q2 q3 q4 q5
     have hlk := NdM.look (HND5.out.step (HBI.out.trans ((bw_new (Below.refl wi.heap.size wi) (.cells #[.int .i64 (a : Int), .int .i64 (b : Int), .int .u64 (wd (cM q a b) 0 : Nat), .int .u64 (wd (cM q a b) 1 : Nat), .int .u64 (wd (cM q a b) 2 : Nat), .int .u64 (wd (cM q a b) 3 : Nat)] 86)).mono HBI.out.size))) j
     rw [hnl] at hlk
     obtain ⟨t, ht⟩ : ∃ t, t = aloB P (onR L) (a, b) := ⟨_, rfl⟩
     rw [← ht] at hlk hst
     have HST := Lib.hid hst
     have hjz : (j : Int) < (ln : Int) := by omega
     have HJ := Lib.hid hjl
     obtain ⟨j2, hj2⟩ : ∃ z : Int, z = (j : Int) + 1 := ⟨_, rfl⟩
     have hwj : IntKind.i64.wrap ((j : Int) + 1) = j2 := by rw [hj2]; exact IntWalk.i64_in _ (by omega)
     have HJ2 := Lib.hid hj2
     clear hj2 hjl hj hjP hst hnl ht hz hg hno
     cases t with
     | false =>
      have HS2 := Lib.hid (show essK P (onR L) (j + 1) = essK P (onR L) j by rw [HST.out]; rfl)
      go_wp2_with fail
      go_roundw
      case rel => exact ⟨j + 1, A', no, cp, HJ.out, by rw [HJ2.out]; rfl, rfl, by rw [HS2.out]; exact HNO.out, by rw [HS2.out]; exact own_blI HO.out (bw_new (Below.refl _ _) _), bw_new HBI.out _⟩
      case measure => have := HJ.out; have := HJ2.out; simp only [intOf]; omega
     | true =>
      have HS2 := Lib.hid (show essK P (onR L) (j + 1) = essK P (onR L) j ++ [(a, b)] by rw [HST.out]; rfl)
      go_wp2_with (at_builtin; refine wpList_append_lies _ rfl _ _ 28 rfl wo.heap.size 37 i0 (.agg #[.int .i64 0, .int .i64 0]) 2 16 Tryz.underlying28 HI0.out HZ0.out HZ1.out HZ2.out rfl (by decide) _ _ _ rfl (own_blI HO.out (bw_new (bw_new (Below.refl _ _) _) _)) ⟨wi.heap.size + 1, 0, none⟩ 1 1 (cbL (a, b)) rfl rfl news_two (by simp [Value.oneCell']) (by decide) (by unfold maxLen; omega) (by omega) (by simp; have := HBI.out.size; omega) _ rfl ?_)
      intro g4 c4 w4 hown4 hgrow4 hor4 hlt4
      have hb4 := (bw_new (bw_new HBI.out (.cells (pmL q (a, b)).toArray 86)) (.cells (cbL (a, b)).toArray 37)).grown hgrow4 (by have := (bw_new (bw_new HBI.out (.cells (pmL q (a, b)).toArray 86)) (.cells (cbL (a, b)).toArray 37)).size; exact this) (fun q hq => (HO.out.lt q hq).1)
      have HB4 := Lib.hid hb4
      have HO4 := Lib.hid hown4
      clear hown4 hgrow4 hor4 hlt4 hb4
      go_wp2_with fail
      go_roundw
      case rel => exact ⟨j + 1, some ⟨g4, 0, none⟩, no + 1, c4, HJ.out, by rw [HJ2.out]; rfl, rfl, by rw [HS2.out, List.length_append, ← HNO.out]; rfl, by rw [HS2.out, List.flatMap_append]; exact HO4.out, HB4.out⟩
      case measure => have := HJ.out; have := HJ2.out; simp only [intOf]; omega
    ·obtain rfl : j = ln := by omega
     have hjz : ¬ (j : Int) < (j : Int) := by omega
     have HFI := Lib.hid (show essK P (onR L) j = essL P (onR L) by rw [HLE.out.2.2]; exact essK_full P (onR L))
     clear hj hjl hno
     go_wp2_with fail
     have hl : no = (essL P (onR L)).length := by rw [HNO.out, HFI.out]
     exact bodyPost_ret (v := .tuple #[.slice A' no cp, .int .i64 0]) (by simp [results, Tryz.results26, go_sem]) rfl ⟨A', cp, by rw [← hl], by rw [← hl, ← HFI.out]; exact own_lwI HO.out (Nat.le_trans HM2.out.below.size HB.out.size), HM2.out.below.trans ((HB.out.trans (HBI.out.mono HB.out.size)).mono HM2.out.below.size)⟩
end Go.Proofs.YtaegjpancbmppaaGreatDoor
