/- Part 28 of 33 of the proof of the law: contracts of the functions that it reaches, and plain facts. Conditions: those that each contract names. -/
import Derived.Test.YtaegjpancbmppaaGreatDoorTabB16
import Derived.Laws.CopyOwn
import Derived.Laws.ResultCell
import Derived.Laws.EntriesVeiled
import Derived.Test.YtaegjpancbmppaaGreatDoorTabB02
set_option linter.unusedVariables false
set_option linter.unusedSimpArgs false
namespace Go.Proofs.YtaegjpancbmppaaGreatDoor
open Go.RowKit
theorem sml_zero {q : Nat} {L K : List Int} (h : smlE (q : Int) L K = 0) : chkE (q : Int) L K = 0 ∧ q ≤ 5 := by
 unfold smlE at h
 by_cases h0 : chkE (q : Int) L K = 0
 ·rw [if_neg (fun k => k h0)] at h
  refine ⟨h0, Classical.byContradiction fun hc => ?_⟩
  rw [if_pos (by omega)] at h
  cases h
 ·rw [if_pos h0] at h; exact absurd h h0
theorem chk_rows {q : Nat} {L K : List Int} (hk : chkE (q : Int) L K = 0) : q ≤ 8 ∧ (∀ x ∈ L, 0 ≤ x ∧ x < ((2 ^ q : Nat) : Int)) ∧ L.Pairwise (· < ·) ∧ (∀ x ∈ K, 0 ≤ x ∧ x < ((2 ^ q : Nat) : Int)) ∧ K.Pairwise (· < ·) := by
 have hq8 := chk_q hk
 have hk2 := hk
 unfold chkE at hk2
 rw [if_neg (by omega), show (q : Int).toNat = q by omega] at hk2
 have h1 : ordE ((2 ^ q : Nat) : Int) none L = 0 := Classical.byContradiction fun hc => by rw [if_pos hc] at hk2; exact hc hk2
 rw [if_neg (fun hc => hc h1)] at hk2
 have h2 : ordE ((2 ^ q : Nat) : Int) none K = 0 := Classical.byContradiction fun hc => by rw [if_pos hc] at hk2; exact hc hk2
 obtain ⟨l1, l2, -⟩ := ordE_zero L none h1
 obtain ⟨k1, k2, -⟩ := ordE_zero K none h2
 exact ⟨hq8, l1, l2, k1, k2⟩
theorem on_small {q : Nat} {L : List Int} (hq : q ≤ 8) (h : ∀ x ∈ L, 0 ≤ x ∧ x < ((2 ^ q : Nat) : Int)) : ∀ r ∈ onR L, r < 256 := fun r hr => by
 obtain ⟨x, hx, rfl⟩ := List.mem_map.1 hr
 have := h x hx
 have := pow_le8 hq
 omega
theorem of_tab {w : World} {A B : Option Addr} {n m c d q : Nat} {L K : List Int} (h : TabAt w w.heap.size A B n m L K) (hk : chkE (q : Int) L K = 0) :
  (∀ W, Below w.heap.size w W → Calls Tryz.prog 46 #[.slice A n c] W fun e w' => e = .returned (.agg (setL (rowM (onR L))).toArray) ∧ Below W.heap.size W w') ∧
  (∀ W, Below w.heap.size w W → Calls Tryz.prog 46 #[.slice B m d] W fun e w' => e = .returned (.agg (setL (rowM (onR K))).toArray) ∧ Below W.heap.size W w') := by
 obtain ⟨hq8, l1, -, k1, -⟩ := chk_rows hk
 exact ⟨fun W hb => iof_any A c n (onR L) W (rd_nat (h.below hb).on (fun x hx => (l1 x hx).1)) (on_small hq8 l1) (by rw [List.length_map]; exact h.n_) h.nm.1,
  fun W hb => iof_any B d m (onR K) W (rd_nat (h.below hb).free (fun x hx => (k1 x hx).1)) (on_small hq8 k1) (by rw [List.length_map]; exact h.m_) h.nm.2⟩
set_option maxRecDepth 1000000 in
set_option maxHeartbeats 8000000 in
theorem iApart_ok (A B : Option Addr) (c d n m q : Nat) (L K : List Int) (w : World) (h : TabAt w w.heap.size A B n m L K) (hk : smlE (q : Int) L K = 0) (hc : n ≤ c) (hc9 : c ≤ 9223372036854775807) :
  Calls Tryz.prog 20 #[.agg #[.int .i64 (q : Int), .slice A n c, .slice B m d]] w fun e w' => ∃ (A' : Option Addr) (cp : Nat), e = .returned (.tuple #[.slice A' (apL q (mayM L K) (onR L)).length cp, .int .i64 0]) ∧ Rd nv w' w'.heap.size A' (apL q (mayM L K) (onR L)) ∧ Below w.heap.size w w' := by
 obtain ⟨hk0, hq5⟩ := sml_zero hk
 obtain ⟨hq8, l1, -, -, -⟩ := chk_rows hk0
 obtain ⟨hof1, hof2⟩ := of_tab (c := c) (d := d) h hk0
 obtain ⟨R, hR⟩ : ∃ R, R = apL q (mayM L K) (onR L) := ⟨_, rfl⟩
 rw [← hR]
 have hrn := rd_nat h.on (fun x hx => (l1 x hx).1)
 have hr256 := on_small hq8 l1
 have hn : n = (onR L).length := by rw [List.length_map]; exact h.n_
 have hSM := fun W (hb : Below w.heap.size w W) => ismall_any A B c d n m (q : Int) L K W (h.below hb)
 rw [hk] at hSM
 have HSM := Lib.hid hSM
 have hn1 := h.nm.1
 unfold mayM at hR
 obtain ⟨M1, hM1⟩ : ∃ M, M = rowM (onR L) := ⟨_, rfl⟩
 obtain ⟨M2, hM2⟩ : ∃ M, M = rowM (onR K) := ⟨_, rfl⟩
 rw [← hM1] at hof1
 rw [← hM2] at hof2
 have hR2 : R = apL q (M1 ||| M2) (onR L) := by rw [hR, hM1, hM2]
 have HR := Lib.hid hR2
 have HOF1 := Lib.hid hof1
 have HOF2 := Lib.hid hof2
 have HEI := Lib.hid (fun W => ieither_any M1 M2 W)
 obtain ⟨N, hN⟩ : ∃ N, N = 2 ^ q := ⟨_, rfl⟩
 have hN8 : N ≤ 256 := by rw [hN]; exact pow_le8 hq8
 have hN0 : 0 < N := by rw [hN]; exact Nat.two_pow_pos q
 obtain ⟨z, hz⟩ : ∃ z : Int, z = ((N - 1 : Nat) : Int) := ⟨_, rfl⟩
 have HZE := Lib.hid (show z = ((2 ^ q - 1 : Nat) : Int) by rw [hz, hN])
 have HNN := Lib.hid hN
 have he2 : ((2 : Int) ^ q) = (N : Int) := by rw [hN, Int.natCast_pow]; rfl
 clear hN
 have hsz : IntKind.i64.wrap ((N : Int) - 1) = z := by rw [hz]; exact (IntWalk.i64_in _ (by omega)).trans (by omega)
 have hsh : wrap64 (2 ^ q) = (N : Int) := by
  rw [he2]
  unfold wrap64
  omega
 clear he2
 have HSH := Lib.hid hsh
 have HP := Lib.hid (And.intro hrn (And.intro hr256 (And.intro hn (And.intro hn1 (And.intro hc (And.intro hc9 hq8))))))
 have hm0 := (Hp.start w).new 26 [.int .i64 (q : Int), .slice A n c, .slice B m d]
 simp only [List.nil_append] at hm0
 have HM0 := Lib.hid hm0
 have c0 : (w.alloc (.cells #[.int .i64 (q : Int), .slice A n c, .slice B m d] 26)).cell? ⟨w.heap.size, 0, none⟩ = some (.int .i64 (q : Int)) := (hm0.at_ 0 rfl).cell 0
 have c1 : (w.alloc (.cells #[.int .i64 (q : Int), .slice A n c, .slice B m d] 26)).cell? ⟨w.heap.size, 1, none⟩ = some (.slice A n c) := (hm0.at_ 0 rfl).cell 1
 have c2 : (w.alloc (.cells #[.int .i64 (q : Int), .slice A n c, .slice B m d] 26)).cell? ⟨w.heap.size, 2, none⟩ = some (.slice B m d) := (hm0.at_ 0 rfl).cell 2
 have hq64 : (q : Int) < 64 := by omega
 clear hm0 h hk hk0 hq5 hq8 l1 hof1 hof2 hR hR2 hrn hr256 hn hSM hn1 hM1 hM2 hN8 hN0 hsh hz hc hc9
 go_enter Tryz.func20, Tryz.ntmps20
 go_wp2_with fail
 refine (HSM.out _ HM0.out.below).mono ?_
 rintro e w1 ⟨rfl, hb1⟩
 have HM1 := Lib.hid (HM0.out.step hb1)
 have HW1 := Lib.hid HM1.out.below.size
 clear hb1 HM0 c0 c1 c2
 go_upto_region 4 with fail
 refine wp_regionJ 9 #[false, false, false, false, false, false, false, false, false] (fun ll aa W => ∃ (m0 m1 m2 m3 m4 m5 m6 m7 m8 : Bool) (gq : Nat), ll = #[m0, m1, m2, m3, m4, m5, m6, m7, m8] ∧ aa = ({ tmps := #[Value.agg #[Value.int IntKind.i64 (q : Int), Value.slice A n c, Value.slice B m d], Value.pointer (some { block := w.heap.size, off := 0 }), Value.slice none 0 0, Value.int IntKind.i64 0, Value.int IntKind.i64 0, cwX m7 (.pointer (some ⟨gq, 0, none⟩)) (undef), undef, undef, undef, undef, Value.agg #[Value.int IntKind.i64 (q : Int), Value.slice A n c, Value.slice B m d], Value.int IntKind.i64 0, Value.int IntKind.i64 0, Value.bool false, undef, cwX m0 (.pointer (some ⟨w.heap.size, 1, none⟩)) (undef), cwX m1 (.slice A n c) (undef), cwX m2 (.agg (setL M1).toArray) (undef), cwX m3 (.pointer (some ⟨w.heap.size, 2, none⟩)) (undef), cwX m4 (.slice B m d) (undef), cwX m5 (.agg (setL M2).toArray) (undef), cwX m6 (.agg (setL (M1 ||| M2)).toArray) (undef), undef, undef, undef, undef, undef, undef, undef, undef, undef, undef, undef], defers := [] } : Act) ∧ (m8 = true → m7 = true) ∧ BxP w [(w.heap.size, 26, [.int .i64 (q : Int), .slice A n c, .slice B m d])] w1.heap.size 84 (setL 0) (setL (M1 ||| M2)) m7 m8 gq W) (by kernel_rfl) (by kernel_rfl) (by kernel_rfl) (by kernel_rfl) ?_ ?_ ?_ ?_
 ·rintro ll aa W ⟨m0, m1, m2, m3, m4, m5, m6, m7, m8, gq, rfl, _⟩
  rfl
 ·exact ⟨false, false, false, false, false, false, false, false, false, 0, rfl, rfl, fun h => absurd h (by simp), ((BxP.start HM1.out).step (bw_drew (Below.refl _ _)))⟩
 ·rintro ll aa W i o ⟨m0, m1, m2, m3, m4, m5, m6, m7, m8, gq, rfl, rfl, hi0, hm⟩ ho hun hall K hK
  have hi : i < 9 := (Array.getElem?_eq_some_iff.1 ho).1
  have HM := Lib.hid hm
  have HI := Lib.hid hi0
  clear hm hi0
  rcases (show i = 0 ∨ i = 1 ∨ i = 2 ∨ i = 3 ∨ i = 4 ∨ i = 5 ∨ i = 6 ∨ i = 7 ∨ i = 8 by omega) with rfl | rfl | rfl | rfl | rfl | rfl | rfl | rfl | rfl
  ·cases ho
   simp at hun; subst hun
   clear hall hi
   go_simp
   exact hK.out _ _ ⟨true, m1, m2, m3, m4, m5, m6, m7, m8, gq, rfl, rfl, by have h0 := HI.out; exact fun e => by first | rfl | exact h0 e, HM.out⟩
  ·cases ho
   cases (getBX hall 0 rfl : m0 = true)
   simp at hun; subst hun
   clear hall hi
   have c1 : W.cell? ⟨w.heap.size, 1, none⟩ = some (.slice A n c) := (HM.out.hp.at_ 0 rfl).cell 1
   go_simp
   exact hK.out _ _ ⟨true, true, m2, m3, m4, m5, m6, m7, m8, gq, rfl, rfl, by have h0 := HI.out; exact fun e => by first | rfl | exact h0 e, HM.out⟩
  ·cases ho
   cases (getBX hall 1 rfl : m1 = true)
   simp at hun; subst hun
   clear hall hi
   go_simp
   refine (HOF1.out _ HM.out.hp.below).mono ?_
   rintro e W' ⟨rfl, hb⟩
   exact hK.out _ _ ⟨m0, true, true, m3, m4, m5, m6, m7, m8, gq, rfl, rfl, by have h0 := HI.out; exact fun e => by first | rfl | exact h0 e, HM.out.step hb⟩
  ·cases ho
   simp at hun; subst hun
   clear hall hi
   go_simp
   exact hK.out _ _ ⟨m0, m1, m2, true, m4, m5, m6, m7, m8, gq, rfl, rfl, by have h0 := HI.out; exact fun e => by first | rfl | exact h0 e, HM.out⟩
  ·cases ho
   cases (getBX hall 3 rfl : m3 = true)
   simp at hun; subst hun
   clear hall hi
   have c2 : W.cell? ⟨w.heap.size, 2, none⟩ = some (.slice B m d) := (HM.out.hp.at_ 0 rfl).cell 2
   go_simp
   exact hK.out _ _ ⟨m0, m1, m2, true, true, m5, m6, m7, m8, gq, rfl, rfl, by have h0 := HI.out; exact fun e => by first | rfl | exact h0 e, HM.out⟩
  ·cases ho
   cases (getBX hall 4 rfl : m4 = true)
   simp at hun; subst hun
   clear hall hi
   go_simp
   refine (HOF2.out _ HM.out.hp.below).mono ?_
   rintro e W' ⟨rfl, hb⟩
   exact hK.out _ _ ⟨m0, m1, m2, m3, true, true, m6, m7, m8, gq, rfl, rfl, by have h0 := HI.out; exact fun e => by first | rfl | exact h0 e, HM.out.step hb⟩
  ·cases ho
   cases (getBX hall 2 rfl : m2 = true)
   cases (getBX hall 5 rfl : m5 = true)
   simp at hun; subst hun
   clear hall hi
   go_simp
   refine (HEI.out _).mono ?_
   rintro e W' ⟨rfl, hb⟩
   exact hK.out _ _ ⟨m0, m1, true, m3, m4, true, true, m7, m8, gq, rfl, rfl, by have h0 := HI.out; exact fun e => by first | rfl | exact h0 e, HM.out.step hb⟩
  ·cases ho
   simp at hun; subst hun
   clear hall hi
   obtain rfl : m8 = false := by
    cases m8
    ·rfl
    ·exact absurd (HI.out rfl) (by simp)
   have HN := Lib.hid HM.out.new
   go_simp
   exact hK.out _ _ ⟨m0, m1, m2, m3, m4, m5, m6, true, false, W.heap.size, rfl, rfl, by have h0 := HI.out; exact fun e => by first | rfl | exact h0 e, HN.out⟩
  ·cases ho
   cases (getBX hall 6 rfl : m6 = true)
   cases (getBX hall 7 rfl : m7 = true)
   simp at hun; subst hun
   clear hall hi
   have HN := Lib.hid (HM.out.rowI HW1.out)
   have hbq := HM.out.b rfl rfl
   refine step_store_rowI rfl 84 _ _ rfl rfl gq (setL (M1 ||| M2)).toArray rfl rfl 84 (setL 0).toArray hbq (by kernel_rfl) rfl (by simp [setL, Value.oneCell']) ?_
   exact hK.out _ _ ⟨m0, m1, m2, m3, m4, m5, true, true, true, gq, rfl, rfl, by have h0 := HI.out; exact fun e => by first | rfl | exact h0 e, HN.out⟩
 ·rintro ll aa W2 ⟨m0, m1, m2, m3, m4, m5, m6, m7, m8, gm, rfl, rfl, _, hm⟩ hall
  cases (hall 0 (by decide) : m0 = true)
  cases (hall 1 (by decide) : m1 = true)
  cases (hall 2 (by decide) : m2 = true)
  cases (hall 3 (by decide) : m3 = true)
  cases (hall 4 (by decide) : m4 = true)
  cases (hall 5 (by decide) : m5 = true)
  cases (hall 6 (by decide) : m6 = true)
  cases (hall 7 (by decide) : m7 = true)
  cases (hall 8 (by decide) : m8 = true)
  clear hall
  have HM2 := Lib.hid (hm.done HW1.out)
  simp only [List.nil_append, List.cons_append] at HM2
  clear hm HM1
  dsimp only [cwX, cond_true]
  obtain ⟨c0, -⟩ : W2.cell? ⟨w.heap.size, 0, none⟩ = some (.int .i64 (q : Int)) ∧ True := ⟨(HM2.out.at_ 0 rfl).cell 0, trivial⟩
  have c1 : W2.cell? ⟨w.heap.size, 1, none⟩ = some (.slice A n c) := (HM2.out.at_ 0 rfl).cell 1
  have hwl : w.heap.size < W2.heap.size := (HM2.out.at_ 0 rfl).lt
  have hsh := HSH.out
  have hsz2 : wrap64 ((N : Int) - 1) = z := by rw [← IntWalk.i64_left]; exact hsz
  have hm3 := (((HM2.out.new 3 [.int .i64 z]).new 94 [fTg W2.heap.size w.heap.size gm]).new 24 [.slice none 0 0]).new 95 [fSk (W2.heap.size + 1 + 1) (W2.heap.size + 1) (W2.heap.size + 1 + 1 + 1)]
  simp only [World.size_alloc, List.nil_append, List.cons_append] at hm3
  have hS : SkS ((((W2.alloc (.cells #[.int .i64 z] 3)).alloc (.cells #[fTg W2.heap.size w.heap.size gm] 94)).alloc (.cells #[.slice none 0 0] 24)).alloc (.cells #[fSk (W2.heap.size + 1 + 1) (W2.heap.size + 1) (W2.heap.size + 1 + 1 + 1)] 95)) q (M1 ||| M2) W2.heap.size w.heap.size gm (W2.heap.size + 1 + 1) (W2.heap.size + 1) (W2.heap.size + 1 + 1 + 1) :=
   ⟨⟨by rw [← HZE.out]; exact hm3.at_ 2 rfl, ⟨(hm3.at_ 0 rfl).lt, (hm3.at_ 0 rfl).cell 0⟩, hm3.at_ 1 rfl⟩, hm3.at_ 3 rfl, hm3.at_ 5 rfl, ⟨by omega, by omega, hm3.ne 4 1 rfl rfl (by decide), by omega, by omega⟩⟩
  have hrd := (HP.out.1.below hm3.below).more hm3.below.size
  have hsk := iseek_any q (M1 ||| M2) W2.heap.size w.heap.size gm (W2.heap.size + 1 + 1) (W2.heap.size + 1) (W2.heap.size + 1 + 1 + 1) HP.out.2.2.2.2.2.2 ((onR L).length + 1) [] [] (onR L) none A 0 0 n c _ hS ⟨none, 0, hm3.at_ 4 rfl, Rd.nil⟩ Rd.nil rfl (fun _ => ⟨rfl, rfl⟩) (Nat.le_refl _) hrd HP.out.2.2.1 HP.out.2.2.2.2.1 HP.out.2.2.2.2.2.1 (fun r hr => by cases hr) HP.out.2.1 (by have := HP.out.2.2.2.1; omega) (by have := HP.out.2.2.1; omega)
  rw [show apSeek (togB q (M1 ||| M2)) ((onR L).length + 1) [] [] (onR L) = R from HR.out.symm] at hsk
  have HSK := Lib.hid hsk
  have c1w : ((((W2.alloc (.cells #[.int .i64 z] 3)).alloc (.cells #[.func (.func 47) #[] #[.pointer (some ⟨W2.heap.size, 0, none⟩), .pointer (some ⟨w.heap.size, 0, none⟩), .pointer (some ⟨gm, 0, none⟩)]] 94)).alloc (.cells #[.slice none 0 0] 24)).alloc (.cells #[.func (.func 50) #[] #[.pointer (some ⟨W2.heap.size + 1 + 1, 0, none⟩), .pointer (some ⟨W2.heap.size + 1, 0, none⟩), .pointer (some ⟨W2.heap.size + 1 + 1 + 1, 0, none⟩)]] 95)).cell? ⟨w.heap.size, 1, none⟩ = some (.slice A n c) := (hm3.at_ 0 rfl).cell 1
  have HM3 := Lib.hid hm3
  have HGE := Lib.hid (show w.heap.size ≤ W2.heap.size + 1 + 1 by omega)
  clear hm3 hS hrd hsk
  go_wp2_with fail
  refine HSK.out.mono ?_
  rintro e W4 ⟨rfl, hch, A6, c6, hb6, hr6⟩
  have q9 : W4.cell? ⟨W2.heap.size + 1 + 1, 0, none⟩ = some (.slice A6 R.length c6) := hb6.cell 0
  have HFIN := Lib.hid (show Rd nv W4 W4.heap.size A6 R ∧ Below w.heap.size w W4 from ⟨hr6, HM3.out.below.trans (hch.below HGE.out HM3.out.below.size)⟩)
  clear hch hb6 hr6 c0 c1 hsh hsz2
  go_wp2_with fail
  exact bodyPost_ret (v := .tuple #[.slice A6 R.length c6, .int .i64 0]) (by simp [results, Tryz.results20, go_sem]) rfl ⟨A6, c6, rfl, HFIN.out.1, HFIN.out.2⟩
end Go.Proofs.YtaegjpancbmppaaGreatDoor
