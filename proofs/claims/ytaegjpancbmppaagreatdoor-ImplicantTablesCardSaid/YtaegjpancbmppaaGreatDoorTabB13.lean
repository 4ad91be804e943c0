/- Part 13 of 33 of the proof of the law: contracts of the functions that it reaches, and plain facts. Conditions: those that each contract names. -/
import Derived.Test.YtaegjpancbmppaaGreatDoorTabB07
import Derived.Test.YtaegjpancbmppaaGreatDoorTabB01
import Derived.Test.YtaegjpancbmppaaGreatDoorTabB10
import Derived.Laws.CopyOwn
import Derived.Laws.ResultCell
import Derived.Test.YtaegjpancbmppaaGreatDoorTabB02
import Derived.Test.YtaegjpancbmppaaGreatDoorTabB12
set_option linter.unusedVariables false
set_option linter.unusedSimpArgs false
namespace Go.Proofs.YtaegjpancbmppaaGreatDoor
open Go.RowKit
theorem BxP.rowI {w W : World} {A : List (Nat × TypeId × List Value)} {base : Nat} {t : TypeId} {zs ns : List Value} {g : Nat} (h : BxP w A base t zs ns true false g W) (hw : w.heap.size ≤ base) : BxP w A base t zs ns true true g (W.setRow g ns.toArray) := by
 obtain ⟨h1, h2⟩ := h.ge hw
 have hb := h.b rfl rfl
 exact ⟨⟨below_setRow h.hp.below h1 _, fun p hp => ⟨(setRow_other W g p.1 _ (h2 p hp)).trans (h.hp.blk p hp).1, (h.hp.blk p hp).2⟩, h.hp.apart⟩, by rw [setRow_size]; exact h.sz, h.lo, h.gb, fun _ e => (by cases e), fun _ _ => setRow_heap W g _ _ _ _ hb⟩
theorem step_store_rowI {P : Program} {ops : Array Oper} {o : Oper} {a : Act} {w : World} {K : Act → World → Prop} {Q : Exit → Act → World → Prop} {E : Prop} (hgd : o.guard = none) (ty : TypeId) (x y : Operand) (ho : o.op = .store ty x y)
  (hd : o.dst = none) (g : Nat) (cells : Array Value) (hx : a.eval x = .pointer (some ⟨g, 0, none⟩)) (hy : a.eval y = .agg cells)
  (t : TypeId) (old : Array Value) (hg : w.heap[g]? = some (.cells old t (0, 0))) (hi : (P.info? ty).map (·.size) = some cells.size)
  (hold : old.size = cells.size) (h1 : cells.all (·.oneCell') = true)
  (h : K a (w.setRow g cells)) : if Region.wanted o (yielded ops a.tmps) = true then Oper.wp P o a w K Q else E := by
 have hw : Region.wanted o (yielded ops a.tmps) = true := by simp [Region.wanted, hgd]
 rw [if_pos hw]
 exact wp_store_row ty x y ho g cells hx hy t old hg hi hold h1 (by rw [hd]; exact h)
def PoR (w : World) (g0 g1 gm q N c d n m : Nat) (A B : Option Addr) (M1 M : Nat) (u x : Value) (W : World) : Prop :=
 ∃ (k : Nat) (A' : Option Addr) (cp ln : Nat), k ≤ N ∧ x = .int .i64 (k : Int) ∧ ln = (prK q M1 M k).length ∧ u = .slice A' ln cp ∧ W.ownsRow w.heap.size 86 6 (.slice A' ln cp) ln ((prK q M1 M k).flatMap (pmL q)) ∧ Hp w [(g0, 26, [.int .i64 (q : Int), .slice A n c, .slice B m d]), (g1, 84, setL M1), (gm, 84, setL M)] W
def PiR (w : World) (g0 g1 gm q c d n m k : Nat) (A B : Option Addr) (M1 M : Nat) (u x : Value) (W : World) : Prop :=
 ∃ (j : Nat) (A' : Option Addr) (cp ln : Nat), j ≤ k + 1 ∧ x = .int .i64 (j : Int) ∧ ln = (prK q M1 M k ++ prJ q M1 M k j).length ∧ u = .slice A' ln cp ∧ W.ownsRow w.heap.size 86 6 (.slice A' ln cp) ln ((prK q M1 M k ++ prJ q M1 M k j).flatMap (pmL q)) ∧ Hp w [(g0, 26, [.int .i64 (q : Int), .slice A n c, .slice B m d]), (g1, 84, setL M1), (gm, 84, setL M)] W
def PlR (w : World) (g0 g1 gm g4 g5 q c d n m k j ln : Nat) (A B A2 : Option Addr) (cp2 : Nat) (M1 M : Nat) (u x : Value) (W : World) : Prop :=
 ∃ (rest : Nat) (least : Bool), u = .bool least ∧ x = .int .i64 (rest : Int) ∧ LeastI q M k j rest least ∧ rest ≤ k ∧ W.ownsRow w.heap.size 86 6 (.slice A2 ln cp2) ln ((prK q M1 M k ++ prJ q M1 M k j).flatMap (pmL q)) ∧ Hp w [(g0, 26, [.int .i64 (q : Int), .slice A n c, .slice B m d]), (g1, 84, setL M1), (gm, 84, setL M), (g4, 37, [.int .i64 (k : Int), .int .i64 (j : Int)]), (g5, 84, setL (cM q k j))] W
theorem Hp.lessI {w W : World} {L : List (Nat × TypeId × List Value)} {x : Nat × TypeId × List Value} (h : Hp w (L ++ [x]) W) : Hp w L W := h.sub (List.sublist_append_left _ _)
theorem infoPrm : (Tryz.prog.info? 86).map (fun i => (i.zero, i.size, i.bytes)) = some (some (.agg #[.int .i64 0, .int .i64 0, .int .u64 0, .int .u64 0, .int .u64 0, .int .u64 0]), 6, 48) := by kernel_rfl
theorem prV_len (n on may c : Nat) : (prV n on may c).length ≤ c + 1 := by
 have := List.length_filter_le (fun v => decide (adn v c = 0 ∧ prP n on may c v)) (List.range (c + 1))
 rw [List.length_range] at this
 exact this
theorem prK_len (n on may : Nat) : ∀ k, k ≤ 256 → (prK n on may k).length ≤ k * 256
 | 0, _ => Nat.le_refl _
 | k + 1, h => by
  have h1 := prK_len n on may k (by omega)
  have h2 := prV_len n on may k
  rw [prK_succ, List.length_append, List.length_map]
  omega
theorem prJ_len (n on may c j : Nat) : (prJ n on may c j).length ≤ j := by
 have := List.length_filter_le (fun v => decide (adn v c = 0 ∧ prP n on may c v)) (List.range j)
 rw [List.length_range] at this
 unfold prJ
 rw [List.length_map]
 exact this
theorem Hp.grwO {w W W' : World} {L : List (Nat × TypeId × List Value)} {base size n : Nat} {e : TypeId} {v : Value} {xs : List Value} (h : Hp w L W) (ho : W.ownsRow base e size v n xs) (hb : w.heap.size ≤ base) (hg : W.grownBy W' v.ownBlock) (hne : ∀ p ∈ L, e ≠ p.2.1) : Hp w L W' :=
 h.grwI hg fun q hq => ⟨Nat.le_trans hb (ho.lt q hq).1, fun p hp e => own_blk_neI ho (h.blk p hp).1 (hne p hp) (by rw [hq, ← e])⟩
def tPr (q : Nat) (L K : List Int) : List (Nat × Nat) := prS q (rowM (L.map Int.toNat)) (rowM (L.map Int.toNat) ||| rowM (K.map Int.toNat))
def PrmPost (q : Nat) (L K : List Int) (w : World) (e : Ending) (w' : World) : Prop :=
 ∃ (A' : Option Addr) (cp : Nat), e = .returned (.slice A' (tPr q L K).length cp) ∧ PRd q w' w'.heap.size A' (tPr q L K) ∧ Below w.heap.size w w'
set_option maxRecDepth 1000000 in
set_option maxHeartbeats 8000000 in
theorem iprimes_any (A B : Option Addr) (c d n m q : Nat) (L K : List Int) (w : World) (h : TabAt w w.heap.size A B n m L K) (hk : chkE (q : Int) L K = 0) :
  Calls Tryz.prog 42 #[.agg #[.int .i64 (q : Int), .slice A n c, .slice B m d]] w (PrmPost q L K w) := by
 have hq8 : q ≤ 8 := by
  refine Classical.byContradiction fun hc => ?_
  unfold chkE at hk
  rw [if_pos (by omega)] at hk
  cases hk
 have hk2 := hk
 unfold chkE at hk2
 rw [if_neg (by omega), show (q : Int).toNat = q by omega] at hk2
 have h1 : ordE ((2 ^ q : Nat) : Int) none L = 0 := Classical.byContradiction fun hc => by rw [if_pos hc] at hk2; exact hc hk2
 rw [if_neg (fun hc => hc h1)] at hk2
 have h2 : ordE ((2 ^ q : Nat) : Int) none K = 0 := Classical.byContradiction fun hc => by rw [if_pos hc] at hk2; exact hc hk2
 obtain ⟨l1, -, -⟩ := ordE_zero L none h1
 obtain ⟨l2, -, -⟩ := ordE_zero K none h2
 have hpw := pow_le8 hq8
 have hr1 : ∀ r ∈ L.map Int.toNat, r < 256 := fun r hr => by
  obtain ⟨x, hx, rfl⟩ := List.mem_map.1 hr
  have := l1 x hx
  omega
 have hr2 : ∀ r ∈ K.map Int.toNat, r < 256 := fun r hr => by
  obtain ⟨x, hx, rfl⟩ := List.mem_map.1 hr
  have := l2 x hx
  omega
 have hof1 := fun W (hb : Below w.heap.size w W) => iof_any A c n (L.map Int.toNat) W (rd_nat (h.below hb).on (fun x hx => (l1 x hx).1)) hr1 (by rw [List.length_map]; exact h.n_) h.nm.1
 have hof2 := fun W (hb : Below w.heap.size w W) => iof_any B d m (K.map Int.toNat) W (rd_nat (h.below hb).free (fun x hx => (l2 x hx).1)) hr2 (by rw [List.length_map]; exact h.m_) h.nm.2
 obtain ⟨M1, hM1⟩ : ∃ M, M = rowM (L.map Int.toNat) := ⟨_, rfl⟩
 obtain ⟨M2, hM2⟩ : ∃ M, M = rowM (K.map Int.toNat) := ⟨_, rfl⟩
 have hlt1 : M1 < 2 ^ 256 := by rw [hM1]; exact rowM_lt hr1
 have HM1E := Lib.hid hM1.symm
 have HM2E := Lib.hid hM2.symm
 obtain ⟨i6, hi6, hz0, hz1, hz2⟩ := info_parts infoPrm
 have HI6 := Lib.hid hi6
 have HZ0 := Lib.hid hz0
 have HZ1 := Lib.hid hz1
 have HZ2 := Lib.hid hz2
 rw [← hM1] at hof1
 rw [← hM2] at hof2
 have HOF1 := Lib.hid (show ∀ W, Below w.heap.size w W → Calls Tryz.prog 46 #[.slice A n c] W fun e w' => e = .returned (.agg #[.int .u64 (wd M1 0 : Nat), .int .u64 (wd M1 1 : Nat), .int .u64 (wd M1 2 : Nat), .int .u64 (wd M1 3 : Nat)]) ∧ Below W.heap.size W w' from hof1)
 have HOF2 := Lib.hid hof2
 have HEI := Lib.hid (fun W => ieither_any M1 M2 W)
 have HLT1 := Lib.hid hlt1
 have HQ8 := Lib.hid hq8
 obtain ⟨N, hN⟩ : ∃ N, N = 2 ^ q := ⟨_, rfl⟩
 have HNN := Lib.hid hN
 have hN8 : N ≤ 256 := by rw [hN]; exact hpw
 have HN8 := Lib.hid hN8
 have hsh : wrap64 (2 ^ q) = (N : Int) := by
  have e : ((2 : Int) ^ q) = (N : Int) := by rw [hN, Int.natCast_pow]; rfl
  rw [e]
  unfold wrap64
  omega
 have HSH := Lib.hid hsh
 have hm0 := (Hp.start w).new 26 [.int .i64 (q : Int), .slice A n c, .slice B m d]
 simp only [List.nil_append] at hm0
 have HM0 := Lib.hid hm0
 have c1 : (w.alloc (.cells #[.int .i64 (q : Int), .slice A n c, .slice B m d] 26)).cell? ⟨w.heap.size, 1, none⟩ = some (.slice A n c) := (hm0.at_ 0 rfl).cell 1
 clear hi6 hz0 hz1 hz2 hm0 h hk hk2 h1 h2 l1 l2 hpw hr1 hr2 hof1 hof2 hM1 hM2 hlt1 hq8 hsh hN hN8
 go_enter Tryz.func42, Tryz.ntmps42
 go_wp2_with fail
 refine (HOF1.out _ HM0.out.below).mono ?_
 rintro e w1 ⟨rfl, hb1⟩
 have hm1 := (HM0.out.step hb1).new 84 [.int .u64 (wd M1 0 : Nat), .int .u64 (wd M1 1 : Nat), .int .u64 (wd M1 2 : Nat), .int .u64 (wd M1 3 : Nat)]
 simp only [List.cons_append, List.nil_append] at hm1
 have HM1 := Lib.hid hm1
 have HW1 := Lib.hid hm1.below.size
 clear hm1 hb1 c1
 go_upto_region 2 with fail
 refine wp_regionJ 7 #[false, false, false, false, false, false, false] (fun l a W => ∃ (m0 m1 m2 m3 m4 m5 m6 : Bool) (gq : Nat), l = #[m0, m1, m2, m3, m4, m5, m6] ∧ a = ({ tmps := #[Value.agg #[Value.int IntKind.i64 (q : Int), Value.slice A n c, Value.slice B m d], Value.pointer (some { block := w.heap.size, off := 0 }), Value.slice none 0 0, Value.pointer (some { block := w1.heap.size, off := 0 }), cwX m5 (.pointer (some ⟨gq, 0, none⟩)) (undef), undef, undef, undef, undef, undef, undef, undef, undef, undef, Value.pointer (some { block := w.heap.size, off := 1 }), Value.slice A n c, Value.agg #[Value.int IntKind.u64 ↑(wd M1 0), Value.int IntKind.u64 ↑(wd M1 1), Value.int IntKind.u64 ↑(wd M1 2), Value.int IntKind.u64 ↑(wd M1 3)], cwX m0 (.agg (setL M1).toArray) (undef), cwX m1 (.pointer (some ⟨w.heap.size, 2, none⟩)) (undef), cwX m2 (.slice B m d) (undef), cwX m3 (.agg (setL M2).toArray) (undef), cwX m4 (.agg (setL (M1 ||| M2)).toArray) (undef), undef, undef, undef, undef, undef, undef, undef, undef, undef, undef, undef, undef, undef, undef, undef, undef, undef, undef, undef, undef, undef, undef, undef, undef, undef, undef, undef, undef, undef, undef, undef, undef, undef, undef, undef, undef, undef, undef, undef, undef, undef, undef, undef, undef, undef, undef, undef, undef, undef, undef, undef, undef, undef, undef, undef, undef, undef, undef, undef, undef, undef, undef, undef, undef, undef, undef, undef, undef, undef, undef], defers := [] } : Act) ∧ (m6 = true → m5 = true) ∧ BxP w [(w.heap.size, 26, [.int .i64 (q : Int), .slice A n c, .slice B m d]), (w1.heap.size, 84, setL M1)] (w1.alloc (.cells (setL M1).toArray 84)).heap.size 84 (setL 0) (setL (M1 ||| M2)) m5 m6 gq W) (by kernel_rfl) (by kernel_rfl) (by kernel_rfl) (by kernel_rfl) ?_ ?_ ?_ ?_
 ·rintro l a W ⟨m0, m1, m2, m3, m4, m5, m6, gq, rfl, _⟩
  rfl
 ·exact ⟨false, false, false, false, false, false, false, 0, rfl, rfl, fun h => absurd h (by simp), ((BxP.start HM1.out).step (bw_drew (Below.refl _ _)))⟩
 ·rintro l a W i o ⟨m0, m1, m2, m3, m4, m5, m6, gq, rfl, rfl, hi0, hm⟩ ho hun hall K hK
  have hi : i < 7 := (Array.getElem?_eq_some_iff.1 ho).1
  have HM := Lib.hid hm
  have HI := Lib.hid hi0
  clear hm hi0
  rcases (show i = 0 ∨ i = 1 ∨ i = 2 ∨ i = 3 ∨ i = 4 ∨ i = 5 ∨ i = 6 by omega) with rfl | rfl | rfl | rfl | rfl | rfl | rfl
  ·cases ho
   simp at hun; subst hun
   clear hall hi
   obtain ⟨q0, q1, q2, q3⟩ := set_of (HM.out.hp.at_ 1 rfl)
   go_simp
   exact hK.out _ _ ⟨true, m1, m2, m3, m4, m5, m6, gq, rfl, rfl, by have h0 := HI.out; exact fun e => by first | rfl | exact h0 e, HM.out⟩
  ·cases ho
   simp at hun; subst hun
   clear hall hi
   go_simp
   exact hK.out _ _ ⟨m0, true, m2, m3, m4, m5, m6, gq, rfl, rfl, by have h0 := HI.out; exact fun e => by first | rfl | exact h0 e, HM.out⟩
  ·cases ho
   cases (getBX hall 1 rfl : m1 = true)
   simp at hun; subst hun
   clear hall hi
   have c2 : W.cell? ⟨w.heap.size, 2, none⟩ = some (.slice B m d) := (HM.out.hp.at_ 0 rfl).cell 2
   go_simp
   exact hK.out _ _ ⟨m0, true, true, m3, m4, m5, m6, gq, rfl, rfl, by have h0 := HI.out; exact fun e => by first | rfl | exact h0 e, HM.out⟩
  ·cases ho
   cases (getBX hall 2 rfl : m2 = true)
   simp at hun; subst hun
   clear hall hi
   go_simp
   refine (HOF2.out _ HM.out.hp.below).mono ?_
   rintro e W' ⟨rfl, hb⟩
   exact hK.out _ _ ⟨m0, m1, true, true, m4, m5, m6, gq, rfl, rfl, by have h0 := HI.out; exact fun e => by first | rfl | exact h0 e, HM.out.step hb⟩
  ·cases ho
   cases (getBX hall 0 rfl : m0 = true)
   cases (getBX hall 3 rfl : m3 = true)
   simp at hun; subst hun
   clear hall hi
   go_simp
   refine (HEI.out _).mono ?_
   rintro e W' ⟨rfl, hb⟩
   exact hK.out _ _ ⟨true, m1, m2, true, true, m5, m6, gq, rfl, rfl, by have h0 := HI.out; exact fun e => by first | rfl | exact h0 e, HM.out.step hb⟩
  ·cases ho
   simp at hun; subst hun
   clear hall hi
   obtain rfl : m6 = false := by
    cases m6
    ·rfl
    ·exact absurd (HI.out rfl) (by simp)
   have HN := Lib.hid HM.out.new
   go_simp
   exact hK.out _ _ ⟨m0, m1, m2, m3, m4, true, false, W.heap.size, rfl, rfl, by have h0 := HI.out; exact fun e => by first | rfl | exact h0 e, HN.out⟩
  ·cases ho
   cases (getBX hall 4 rfl : m4 = true)
   cases (getBX hall 5 rfl : m5 = true)
   simp at hun; subst hun
   clear hall hi
   have HN := Lib.hid (HM.out.rowI HW1.out)
   have hbq := HM.out.b rfl rfl
   refine step_store_rowI rfl 84 _ _ rfl rfl gq (setL (M1 ||| M2)).toArray rfl rfl 84 (setL 0).toArray hbq (by kernel_rfl) rfl (by simp [setL, Value.oneCell']) ?_
   exact hK.out _ _ ⟨m0, m1, m2, m3, true, true, true, gq, rfl, rfl, by have h0 := HI.out; exact fun e => by first | rfl | exact h0 e, HN.out⟩
 ·rintro l a W2 ⟨m0, m1, m2, m3, m4, m5, m6, gm, rfl, rfl, _, hm⟩ hall
  cases (hall 0 (by decide) : m0 = true)
  cases (hall 1 (by decide) : m1 = true)
  cases (hall 2 (by decide) : m2 = true)
  cases (hall 3 (by decide) : m3 = true)
  cases (hall 4 (by decide) : m4 = true)
  cases (hall 5 (by decide) : m5 = true)
  cases (hall 6 (by decide) : m6 = true)
  clear hall
  have HM2 := Lib.hid (hm.done HW1.out)
  simp only [List.nil_append, List.cons_append] at HM2
  clear hm HM1
  dsimp only [cwX, cond_true]
  obtain ⟨c0, -⟩ : W2.cell? ⟨w.heap.size, 0, none⟩ = some (.int .i64 (q : Int)) ∧ True := ⟨(HM2.out.at_ 0 rfl).cell 0, trivial⟩
  have hq64 : (q : Int) < 64 := by have := HQ8.out; omega
  go_wp2_with fail
  rw [HSH.out]
  go_loopw [6, 26] (fun u x wr => PoR w (w.heap.size) w1.heap.size gm q N c d n m A B M1 (M1 ||| M2) u x wr) (fun _ x _ => N - (intOf x).toNat)
  case atStart => exact ⟨0, none, 0, 0, Nat.zero_le _, rfl, rfl, rfl, World.ownsRow_nil _ _ _ _, HM2.out⟩
  case round =>
   obtain ⟨k, A', cp, ln, hk, rfl, hln, rfl, hown, hm⟩ := hrel
   have HL1 := Lib.hid hln
   clear hln
   have HM := Lib.hid hm
   have HO := Lib.hid hown
   clear hm hown HM2
   by_cases hlt : k < N
   ·have hlk : (k : Int) < (N : Int) := by omega
    have hk256 : k < 256 := by have := HN8.out; omega
    have HLT := Lib.hid hlt
    obtain ⟨k2, hk2⟩ : ∃ z : Int, z = (k : Int) + 1 := ⟨_, rfl⟩
    have hwk : IntKind.i64.wrap ((k : Int) + 1) = k2 := by rw [hk2]; exact IntWalk.i64_in _ (by omega)
    have HK2 := Lib.hid hk2
    clear hk hlt hk2
    go_wp2_with fail
    go_loopw [6, 31] (fun u x wr => PiR w (w.heap.size) w1.heap.size gm q c d n m k A B M1 (M1 ||| M2) u x wr) (fun _ x _ => k + 1 - (intOf x).toNat)
    case atStart => exact ⟨0, A', cp, ln, Nat.zero_le _, rfl, by rw [HL1.out]; simp [prJ], rfl, by simpa [prJ] using HO.out, HM.out⟩
    case round =>
     obtain ⟨j, A2, cp2, l2, hj, rfl, hln, rfl, hown, hm⟩ := hrel
     have HL2 := Lib.hid hln
     have hl2 : l2 ≤ 65792 := by rw [hln, List.length_append]; have h1 := prK_len q M1 (M1 ||| M2) k (by omega); have h2 := prJ_len q M1 (M1 ||| M2) k j; omega
     have HL3 := Lib.hid hl2
     clear hln hl2
     obtain ⟨wr5, hwr5⟩ : ∃ W, W = wr := ⟨_, rfl⟩
     rw [← hwr5] at hown hm ⊢
     clear hwr5
     have HM5 := Lib.hid hm
     have HO5 := Lib.hid hown
     clear hm hown HM HO
     by_cases hjt : j < k + 1
     ·have hjk : (j : Int) < k2 := by have := HK2.out; omega
      have hj256 : j < 256 := by omega
      obtain ⟨j2, hj2⟩ : ∃ z : Int, z = (j : Int) + 1 := ⟨_, rfl⟩
      have hwj : IntKind.i64.wrap ((j : Int) + 1) = j2 := by rw [hj2]; exact IntWalk.i64_in _ (by omega)
      have HJ2 := Lib.hid hj2
      have HJT := Lib.hid hjt
      have had : bits .andNot .i64 (j : Int) (k : Int) = ((adn j k : Nat) : Int) := adn_i64 (by omega) (by omega)
      have hm6 := HM5.out.new 37 [.int .i64 (k : Int), .int .i64 (j : Int)]
      simp only [List.cons_append, List.nil_append] at hm6
      have HM6 := Lib.hid hm6
      clear hj hjt hj2 hm6
      by_cases h0 : adn j k = 0
      ·have hz : (((adn j k : Nat) : Int) != 0) = false := by rw [h0]; rfl
       have HA0 := Lib.hid h0
       clear h0
       have HRW := Lib.hid (fun W => irows_any q k j W HQ8.out hk256 hj256)
       have HOJ := Lib.hid (show ∀ W A' cp', Rd nv W W.heap.size A' (cRows q k j) → Calls Tryz.prog 46 #[.slice A' (cRows q k j).length cp'] W fun e w' => e = .returned (.agg #[.int .u64 (wd (cM q k j) 0 : Nat), .int .u64 (wd (cM q k j) 1 : Nat), .int .u64 (wd (cM q k j) 2 : Nat), .int .u64 (wd (cM q k j) 3 : Nat)]) ∧ Below W.heap.size W w' from fun W A' cp' hr => iof_any A' cp' (cRows q k j).length (cRows q k j) W hr (fun r hr => Nat.lt_of_lt_of_le (cRows_mem.1 hr).1 (pow_le8 HQ8.out)) rfl (by
        have h1 := lsN_len (fun r => r &&& k == j) (2 ^ q)
        have h2 := pow_le8 HQ8.out
        rw [lsN_cRows] at h1
        omega))
       obtain ⟨bI, hbI⟩ : ∃ b, b = impB q (M1 ||| M2) k j := ⟨_, rfl⟩
       obtain ⟨bM, hbM⟩ : ∃ b, b = (cM q k j &&& M1 != 0) := ⟨_, rfl⟩
       have HBI := Lib.hid hbI
       have HBM := Lib.hid hbM
       have HWI := Lib.hid (show ∀ W, Calls Tryz.prog 49 #[.agg #[.int .u64 (wd (cM q k j) 0 : Nat), .int .u64 (wd (cM q k j) 1 : Nat), .int .u64 (wd (cM q k j) 2 : Nat), .int .u64 (wd (cM q k j) 3 : Nat)], .agg #[.int .u64 (wd (M1 ||| M2) 0 : Nat), .int .u64 (wd (M1 ||| M2) 1 : Nat), .int .u64 (wd (M1 ||| M2) 2 : Nat), .int .u64 (wd (M1 ||| M2) 3 : Nat)]] W fun e w' => e = .returned (.bool bI) ∧ Below W.heap.size W w' from fun W => by rw [hbI]; exact iwithin_any (cM q k j) (M1 ||| M2) W (cM_lt HQ8.out))
       have HME := Lib.hid (show ∀ W, Calls Tryz.prog 57 #[.agg #[.int .u64 (wd (cM q k j) 0 : Nat), .int .u64 (wd (cM q k j) 1 : Nat), .int .u64 (wd (cM q k j) 2 : Nat), .int .u64 (wd (cM q k j) 3 : Nat)], .agg #[.int .u64 (wd (M1) 0 : Nat), .int .u64 (wd (M1) 1 : Nat), .int .u64 (wd (M1) 2 : Nat), .int .u64 (wd (M1) 3 : Nat)]] W fun e w' => e = .returned (.bool bM) ∧ Below W.heap.size W w' from fun W => by rw [hbM]; exact imeets_any (cM q k j) M1 W (cM_lt HQ8.out))
       clear hbI hbM
       have e0 := (HM6.out.at_ 3 rfl).cell 0
       have e1 := (HM6.out.at_ 3 rfl).cell 1
       have e2 := (HM6.out.at_ 0 rfl).cell 0
       simp only [List.getElem?_cons_succ, List.getElem?_cons_zero] at e0 e1 e2
       go_wp2_with fail
       refine (HRW.out _).mono ?_
       rintro e W3 ⟨A3, cp3, rfl, hown3, hb3⟩
       have HR3 := Lib.hid (Rd.of_own hown3 rfl)
       have HM7 := Lib.hid (HM6.out.step hb3)
       have HO7 := Lib.hid (own_blI (own_blI HO5.out (bw_new (Below.refl _ _) (.cells #[.int .i64 (k : Int), .int .i64 (j : Int)] 37))) hb3)
       clear hown3 hb3 e0 e1 e2
       go_wp2_with fail
       refine (HOJ.out _ _ _ HR3.out).mono ?_
       rintro e W4 ⟨rfl, hb4⟩
       have hm8 := (HM7.out.step hb4).new 84 [.int .u64 (wd (cM q k j) 0 : Nat), .int .u64 (wd (cM q k j) 1 : Nat), .int .u64 (wd (cM q k j) 2 : Nat), .int .u64 (wd (cM q k j) 3 : Nat)]
       simp only [List.cons_append, List.nil_append] at hm8
       have HM8 := Lib.hid hm8
       have HO8 := Lib.hid (own_blI (own_blI HO7.out hb4) (bw_new (Below.refl _ _) (.cells #[.int .u64 (wd (cM q k j) 0 : Nat), .int .u64 (wd (cM q k j) 1 : Nat), .int .u64 (wd (cM q k j) 2 : Nat), .int .u64 (wd (cM q k j) 3 : Nat)] 84)))
       obtain ⟨s0, s1, s2, s3⟩ := set_of (M := cM q k j) (hm8.at_ 4 rfl)
       obtain ⟨t0, t1, t2, t3⟩ := set_of (hm8.at_ 2 rfl)
       obtain ⟨v0, v1, v2, v3⟩ := set_of (hm8.at_ 1 rfl)
       clear hm8 hb4 HM7 HM6 HR3
       go_wp2_with fail
       refine (HWI.out _).mono ?_
       rintro e W5 ⟨rfl, hb5⟩
       have HM9 := Lib.hid (HM8.out.step hb5)
       have HO9 := Lib.hid (own_blI HO8.out hb5)
       clear hb5 s0 s1 s2 s3 t0 t1 t2 t3 v0 v1 v2 v3 HM8
       cases bI with
       | false =>
        have HNO := Lib.hid (prJ_no (n := q) (on := M1) (may := M1 ||| M2) (c := k) (j := j) (fun h => by have := h.2.1; rw [← HBI.out] at this; cases this))
        go_wp2_with fail
        go_roundw
        case rel => exact ⟨j + 1, A2, cp2, l2, by have := HJT.out; omega, by rw [HJ2.out]; rfl, by rw [HNO.out]; exact HL2.out, rfl, by rw [HNO.out]; exact HO9.out, Hp.lessI (Hp.lessI HM9.out)⟩
        case measure => have := HJT.out; have := HJ2.out; simp only [intOf]; omega
       | true =>
        obtain ⟨s0, s1, s2, s3⟩ := set_of (M := cM q k j) (HM9.out.at_ 4 rfl)
        obtain ⟨v0, v1, v2, v3⟩ := set_of (HM9.out.at_ 1 rfl)
        go_wp2_with fail
        refine (HME.out _).mono ?_
        rintro e W6 ⟨rfl, hb6⟩
        have HM10 := Lib.hid (HM9.out.step hb6)
        have HO10 := Lib.hid (own_blI HO9.out hb6)
        clear hb6 s0 s1 s2 s3 v0 v1 v2 v3 HM9
        cases bM with
        | false =>
         have HNO := Lib.hid (prJ_no (n := q) (on := M1) (may := M1 ||| M2) (c := k) (j := j) (fun h => by
          have h1 := h.2.2.1
          have h2 := HBM.out
          exact h1 (by simpa using h2)))
         go_wp2_with fail
         go_roundw
         case rel => exact ⟨j + 1, A2, cp2, l2, by have := HJT.out; omega, by rw [HJ2.out]; rfl, by rw [HNO.out]; exact HL2.out, rfl, by rw [HNO.out]; exact HO10.out, Hp.lessI (Hp.lessI HM10.out)⟩
         case measure => have := HJT.out; have := HJ2.out; simp only [intOf]; omega
        | true =>
         go_wp2_with fail
         go_loopw [11, 12] (fun u x wr => PlR w (w.heap.size) w1.heap.size gm wr5.heap.size W4.heap.size q c d n m k j l2 A B A2 cp2 M1 (M1 ||| M2) u x wr) (fun _ x _ => (intOf x).toNat)
         case atStart => exact ⟨k, true, rfl, rfl, LeastI.start _ _ _ _, Nat.le_refl _, HO10.out, HM10.out⟩
         case round =>
          obtain ⟨rest, least, rfl, rfl, hli, hrk, hown, hm⟩ := hrel
          have HM11 := Lib.hid hm
          have HO11 := Lib.hid hown
          have HLI := Lib.hid hli
          clear hm hown hli HM10 HO10
          by_cases hr0 : rest = 0
          ·have hz3 : ((rest : Int) != 0) = false := by rw [hr0]; rfl
           cases least with
           | false =>
            clear hr0
            have HNO := Lib.hid (prJ_no (n := q) (on := M1) (may := M1 ||| M2) (c := k) (j := j) (fun h => by
             have h1 := (HLI.out.done (.inr rfl) hk256).2 h.2.2.2
             cases h1))
            go_wp2_with fail
            go_roundw
            case rel => exact ⟨j + 1, A2, cp2, l2, by have := HJT.out; omega, by rw [HJ2.out]; rfl, by rw [HNO.out]; exact HL2.out, rfl, by rw [HNO.out]; exact HO11.out, Hp.lessI (Hp.lessI HM11.out)⟩
            case measure => have := HJT.out; have := HJ2.out; simp only [intOf]; omega
           | true =>
            have HYES := Lib.hid (prJ_yes (n := q) (on := M1) (may := M1 ||| M2) (c := k) (j := j) ⟨HA0.out, HBI.out.symm, (fun e => by
             have h1 := HBM.out
             rw [e] at h1
             cases h1), (HLI.out.done (.inl hr0) hk256).1 rfl⟩)
            have HYC := Lib.hid (show (prK q M1 (M1 ||| M2) k ++ (prJ q M1 (M1 ||| M2) k j ++ [(k, j)])).flatMap (pmL q) = (prK q M1 (M1 ||| M2) k).flatMap (pmL q) ++ ((prJ q M1 (M1 ||| M2) k j).flatMap (pmL q) ++ pmL q (k, j)) by rw [List.flatMap_append, List.flatMap_append, List.flatMap_cons, List.flatMap_nil, List.append_nil])
            obtain ⟨s0, s1, s2, s3⟩ := set_of (M := cM q k j) (HM11.out.at_ 4 rfl)
            have e0 : wr.cell? ⟨wr5.heap.size, 0, none⟩ = some (.int .i64 (k : Int)) := (HM11.out.at_ 3 rfl).cell 0
            have e1 : wr.cell? ⟨wr5.heap.size, 1, none⟩ = some (.int .i64 (j : Int)) := (HM11.out.at_ 3 rfl).cell 1
            have hl2 := HL3.out
            clear hr0
            go_wp2_with (at_builtin; refine wpList_append_own _ rfl _ _ 78 rfl w.heap.size 86 i6 (.agg #[.int .i64 0, .int .i64 0, .int .u64 0, .int .u64 0, .int .u64 0, .int .u64 0]) 6 48 Tryz.underlying78 HI6.out HZ0.out HZ1.out HZ2.out rfl (by decide) _ _ _ rfl (own_blI HO11.out (bw_new (Below.refl _ _) _)) ⟨wr.heap.size, 0, none⟩ 1 1 (pmL q (k, j)) rfl rfl (World.news_of_block (cs := (pmL q (k, j)).toArray) (t := 86) (fr := (0, 0)) (heap_alloc_new wr _)) (by simp [Value.oneCell', setL]) (by unfold maxLen; omega) (by omega) (by simp; have := HM11.out.below.size; omega) ?_)
            intro v' w12 hown hgrow _
            obtain ⟨g12, c12, hv, hc12⟩ := own_form hown (by omega)
            subst hv
            have hm12 := (HM11.out.alloc (.cells (pmL q (k, j)).toArray 86)).grwO (own_blI HO11.out (bw_new (Below.refl _ _) (.cells (pmL q (k, j)).toArray 86))) (Nat.le_refl _) hgrow (by simp only [List.forall_mem_cons]; exact ⟨by decide, by decide, by decide, by decide, by decide, fun _ h => absurd h (by simp)⟩)
            have HM12 := Lib.hid hm12
            have HO12 := Lib.hid hown
            clear hown hgrow hm12 s0 s1 s2 s3 e0 e1 hl2
            go_wp2_with fail
            go_roundw
            case rel => exact ⟨j + 1, some ⟨g12, 0, none⟩, c12, l2 + 1, by have := HJT.out; omega, by rw [HJ2.out]; rfl, by rw [HYES.out, ← List.append_assoc, List.length_append, ← HL2.out]; rfl, rfl, by rw [HYES.out, HYC.out]; exact HO12.out, Hp.lessI (Hp.lessI HM12.out)⟩
            case measure => have := HJT.out; have := HJ2.out; simp only [intOf]; omega
          ·have hz3 : ((rest : Int) != 0) = true := by simpa using hr0
           cases least with
           | false =>
            clear hr0
            have HNO := Lib.hid (prJ_no (n := q) (on := M1) (may := M1 ||| M2) (c := k) (j := j) (fun h => by
             have h1 := (HLI.out.done (.inr rfl) hk256).2 h.2.2.2
             cases h1))
            go_wp2_with fail
            go_roundw
            case rel => exact ⟨j + 1, A2, cp2, l2, by have := HJT.out; omega, by rw [HJ2.out]; rfl, by rw [HNO.out]; exact HL2.out, rfl, by rw [HNO.out]; exact HO11.out, Hp.lessI (Hp.lessI HM11.out)⟩
            case measure => have := HJT.out; have := HJ2.out; simp only [intOf]; omega
           | true =>
            have hr256 : rest < 256 := by omega
            obtain ⟨i, hi8, hlow, hbit, hclr⟩ := low_of hr256 hr0
            have HLN := Lib.hid (HLI.out.next hbit)
            have hless := adn_less hbit
            have hb256 : 2 ^ i < 256 := Nat.pow_lt_pow_right (a := 2) (n := 8) (by decide) hi8
            obtain ⟨b, hb⟩ : ∃ b, b = 2 ^ i := ⟨_, rfl⟩
            rw [← hb] at hlow hclr HLN hless hb256
            have hlo : bits .and .i64 (rest : Int) (wrap64 (-(rest : Int))) = (b : Int) := by rw [← IntWalk.i64_left]; exact hlow
            obtain ⟨r2, hr2⟩ : ∃ r, r = adn rest b := ⟨_, rfl⟩
            rw [← hr2] at hclr HLN hless
            obtain ⟨r1, hr1⟩ : ∃ z : Int, z = ((rest - 1 : Nat) : Int) := ⟨_, rfl⟩
            have hw1 : IntKind.i64.wrap ((rest : Int) - 1) = r1 := by rw [hr1]; exact (IntWalk.i64_in _ (by omega)).trans (by omega)
            have hand : bits .and .i64 (rest : Int) r1 = (r2 : Int) := by rw [hr1, and_i64 (by omega) (by omega), hclr]
            have had1 : bits .andNot .i64 (k : Int) (b : Int) = ((adn k b : Nat) : Int) := adn_i64 (by omega) (by omega)
            have had2 : bits .andNot .i64 (j : Int) (b : Int) = ((adn j b : Nat) : Int) := adn_i64 (by omega) (by omega)
            obtain ⟨ck, hck⟩ : ∃ x, x = adn k b := ⟨_, rfl⟩
            obtain ⟨cj, hcj⟩ : ∃ x, x = adn j b := ⟨_, rfl⟩
            have hck256 : ck < 256 := by rw [hck]; exact Nat.lt_of_le_of_lt (adn_le _ _) hk256
            have hcj256 : cj < 256 := by rw [hcj]; exact Nat.lt_of_le_of_lt (adn_le _ _) hj256
            rw [← hck] at had1 HLN
            rw [← hcj] at had2 HLN
            have HGD := Lib.hid (fun X h1 h2 => igood_any q ck cj (M1 ||| M2) w.heap.size gm X HQ8.out hck256 hcj256 h1 h2)
            have HRB := Lib.hid (And.intro hrk hless)
            clear hlow hr0 hr256 hi8 hbit hclr hless hb256 hb hr2 hr1 hck hcj hck256 hcj256 hrk
            have hTb : w.heap.size < wr.heap.size ∧ wr.cell? ⟨w.heap.size, 0, none⟩ = some (.int .i64 (q : Int)) := ⟨(HM11.out.at_ 0 rfl).lt, (HM11.out.at_ 0 rfl).cell 0⟩
            have hMb : Blk wr gm 84 (setL (M1 ||| M2)) := HM11.out.at_ 2 rfl
            have HGC := Lib.hid (HGD.out wr hTb hMb)
            clear hTb hMb HGD
            go_wp2_with fail
            refine HGC.out.mono ?_
            rintro e W7 ⟨rfl, hb7⟩
            have HM12 := Lib.hid (HM11.out.step hb7)
            have HO12 := Lib.hid (own_blI HO11.out hb7)
            clear hb7 HM11 HO11
            go_wp2_with fail
            go_roundw
            case rel => exact ⟨r2, _, rfl, rfl, HLN.out, by have := HRB.out; omega, HO12.out, HM12.out⟩
            case measure => have := HRB.out; simp only [intOf]; omega
      ·have hz : (((adn j k : Nat) : Int) != 0) = true := by simpa using h0
       have HNO := Lib.hid (prJ_no (n := q) (on := M1) (may := M1 ||| M2) (c := k) (j := j) (fun h => h0 h.1))
       clear h0
       go_wp2_with fail
       go_roundw
       case rel => exact ⟨j + 1, A2, cp2, l2, by have := HJT.out; omega, by rw [HJ2.out]; rfl, by rw [HNO.out]; exact HL2.out, rfl, by rw [HNO.out]; exact own_blI HO5.out (bw_new (Below.refl _ _) _), Hp.lessI HM6.out⟩
       case measure => have := HJT.out; have := HJ2.out; simp only [intOf]; omega
     ·have hje : j = k + 1 := by omega
      have hjn : ¬ (j : Int) < k2 := by have := HK2.out; omega
      have HPS := Lib.hid (show prK q M1 (M1 ||| M2) (k + 1) = prK q M1 (M1 ||| M2) k ++ prJ q M1 (M1 ||| M2) k j by rw [hje, prJ_all, prK_succ])
      clear hje hjt hj
      go_wp2_with fail
      go_roundw
      case rel => exact ⟨k + 1, A2, cp2, l2, by have := HLT.out; omega, by rw [HK2.out]; rfl, by rw [HPS.out]; exact HL2.out, rfl, by rw [HPS.out]; exact HO5.out, HM5.out⟩
      case measure => have := HLT.out; have := HK2.out; simp only [intOf]; omega
   ·obtain rfl : k = N := by omega
    have HPF := Lib.hid (show prK q M1 (M1 ||| M2) k = prF q M1 (M1 ||| M2) by rw [HNN.out]; rfl)
    have hmem : ∀ x ∈ prF q M1 (M1 ||| M2), x.1 < 256 := fun x hx => by
     have h1 := (prF_mem.1 hx).1
     have h2 := pow_le8 HQ8.out
     omega
    obtain ⟨LP, hLP⟩ := attach_map hmem
    have hLl : LP.length = ln := by rw [HL1.out, HPF.out, ← hLP, List.length_map]
    have hln : ln ≤ 65536 := by rw [HL1.out]; have h0 := HN8.out; have h1 := prK_len q M1 (M1 ||| M2) k h0; omega
    have hsrt := isort_any q w.heap.size cp A' LP wr (by rw [hLl, hLP, ← HPF.out]; exact HO.out) (by omega)
    rw [hLl] at hsrt
    have HSRT := Lib.hid hsrt
    have HLP := Lib.hid (And.intro hLP hLl)
    clear hsrt hLP hLl hmem hk hlt hln
    go_wp2_with fail
    refine HSRT.out.mono ?_
    rintro e w7 ⟨rfl, LQ, hperm, hpw, hprd, hgrow⟩
    rw [HLP.out.2] at hgrow
    have hm7 := HM.out.grwO HO.out (Nat.le_refl _) hgrow (by simp only [List.forall_mem_cons]; exact ⟨by decide, by decide, by decide, fun _ h => absurd h (by simp)⟩)
    have hps : LQ.map (·.1) = prS q M1 (M1 ||| M2) := prS_of HQ8.out (by rw [← HLP.out.1]; exact hperm.map _) (by rw [List.pairwise_map]; exact hpw)
    have HFIN := Lib.hid (show ln = (prS q M1 (M1 ||| M2)).length ∧ PRd q w7 w7.heap.size A' (prS q M1 (M1 ||| M2)) ∧ Below w.heap.size w w7 from ⟨by rw [← hps, List.length_map, hperm.length_eq, HLP.out.2], by rw [← hps]; exact hprd, hm7.below⟩)
    clear hperm hpw hprd hgrow hm7 hps
    go_wp2_with fail
    exact bodyPost_ret (v := .slice A' ln cp) (by simp [results, Tryz.results42, go_sem]) rfl ⟨A', cp, by unfold tPr; rw [HM1E.out, HM2E.out, ← HFIN.out.1], by unfold tPr; rw [HM1E.out, HM2E.out]; exact HFIN.out.2.1, HFIN.out.2.2⟩
theorem infoCub : (Tryz.prog.info? 37).map (fun i => (i.zero, i.size, i.bytes)) = some (some (.agg #[.int .i64 0, .int .i64 0]), 2, 16) := by kernel_rfl
abbrev cbL (x : Nat × Nat) : List Value := [nv x.1, nv x.2]
theorem prd_at {n : Nat} {W : World} {Bd k : Nat} {A : Option Addr} {L : List (Nat × Nat)} (h : PRd n W Bd A L) (hk : k < L.length) : ∃ g, A = some ⟨g, 0, none⟩ ∧ g < Bd ∧
  W.cell? ⟨g, k * 6, none⟩ = some (.int .i64 ((L.getD k (0, 0)).1 : Int)) ∧ W.cell? ⟨g, k * 6 + 1, none⟩ = some (.int .i64 ((L.getD k (0, 0)).2 : Int)) ∧
  W.cell? ⟨g, k * 6 + 2, none⟩ = some (.int .u64 (wd (cM n (L.getD k (0, 0)).1 (L.getD k (0, 0)).2) 0 : Nat)) ∧ W.cell? ⟨g, k * 6 + 3, none⟩ = some (.int .u64 (wd (cM n (L.getD k (0, 0)).1 (L.getD k (0, 0)).2) 1 : Nat)) ∧
  W.cell? ⟨g, k * 6 + 4, none⟩ = some (.int .u64 (wd (cM n (L.getD k (0, 0)).1 (L.getD k (0, 0)).2) 2 : Nat)) ∧ W.cell? ⟨g, k * 6 + 5, none⟩ = some (.int .u64 (wd (cM n (L.getD k (0, 0)).1 (L.getD k (0, 0)).2) 3 : Nat)) := by
 obtain ⟨g, rfl, hg, hc⟩ := h (by omega)
 exact ⟨g, rfl, hg, hc k hk 0 (by decide), hc k hk 1 (by decide), hc k hk 2 (by decide), hc k hk 3 (by decide), hc k hk 4 (by decide), hc k hk 5 (by decide)⟩
theorem take_more {L : List (Nat × Nat)} {k : Nat} (h : k < L.length) : L.take (k + 1) = L.take k ++ [L.getD k (0, 0)] := by
 rw [List.take_succ_eq_append_getElem h, List.getD_eq_getElem?_getD, List.getElem?_eq_getElem h]; rfl
theorem news_two {W : World} {o : Obj} {cs : List Value} {t : TypeId} : ∀ j u, cs[j]? = some u → ((W.alloc o).alloc (.cells cs.toArray t)).cell? ((⟨W.heap.size + 1, 0, none⟩ : Addr).add j) = some u := by
 have := World.news_of_block (cs := cs.toArray) (t := t) (fr := (0, 0)) (heap_alloc_new (W.alloc o) _)
 rw [World.size_alloc] at this
 simpa using this
def CbRel (w : World) (L : List (Nat × Nat)) (u x : Value) (W : World) : Prop :=
 ∃ (k : Nat) (A : Option Addr) (cp : Nat), k ≤ L.length ∧ x = .int .i64 (k : Int) ∧ u = .slice A k cp ∧ W.ownsRow w.heap.size 37 2 (.slice A k cp) k ((L.take k).flatMap cbL) ∧ Below w.heap.size w W
set_option maxRecDepth 1000000 in
set_option maxHeartbeats 4000000 in
theorem icubes_any (q : Nat) (A : Option Addr) (m c : Nat) (L : List (Nat × Nat)) (w : World) (hL : PRd q w w.heap.size A L) (hm : m = L.length) (hm1 : L.length ≤ 65536) :
  Calls Tryz.prog 54 #[.slice A m c] w fun e w' => ∃ (A' : Option Addr) (cp : Nat), e = .returned (.slice A' m cp) ∧ w'.ownsRow w.heap.size 37 2 (.slice A' m cp) m (L.flatMap cbL) ∧ Below w.heap.size w w' := by
 obtain ⟨i0, hi0, hz0, hz1, hz2⟩ := info_parts infoCub
 have HI0 := Lib.hid hi0
 have HZ0 := Lib.hid hz0
 have HZ1 := Lib.hid hz1
 have HZ2 := Lib.hid hz2
 have HL := Lib.hid hL
 have HM := Lib.hid hm
 have hm2 : m ≤ 65536 := by omega
 clear hL hm hm1 hi0 hz0 hz1 hz2
 go_enter Tryz.func54, Tryz.ntmps54
 go_wp2_with fail
 go_loopw [3, 8] (fun u x wr => CbRel w L u x wr) (fun _ x _ => m - (intOf x).toNat)
 case atStart => exact ⟨0, none, 0, Nat.zero_le _, rfl, rfl, World.ownsRow_nil _ _ _ _, Below.refl _ _⟩
 case round =>
  obtain ⟨k, A2, cp2, hk, rfl, rfl, hown, hb⟩ := hrel
  have HO := Lib.hid hown
  have HB := Lib.hid hb
  clear hown hb
  by_cases hlt : k < m
  ·obtain ⟨g, hA, hg, c0, c1, c2, c3, c4, c5⟩ := prd_at (HL.out.below HB.out) (show k < L.length by rw [← HM.out]; exact hlt)
   subst hA
   have HTK := Lib.hid (take_more (L := L) (k := k) (by rw [← HM.out]; exact hlt))
   obtain ⟨x, hx⟩ : ∃ x, x = L.getD k (0, 0) := ⟨_, rfl⟩
   rw [← hx] at c0 c1 c2 c3 c4 c5 HTK
   obtain ⟨a, b⟩ := x
   dsimp only at c0 c1 c2 c3 c4 c5
   have HLT := Lib.hid hlt
   obtain ⟨k2, hk2⟩ : ∃ z : Int, z = (k : Int) + 1 := ⟨_, rfl⟩
   have hwk : IntKind.i64.wrap ((k : Int) + 1) = k2 := by rw [hk2]; exact IntWalk.i64_in _ (by omega)
   have HK2 := Lib.hid hk2
   have hkm : (k : Int) < (m : Int) := by omega
   have hks : k ≤ 65536 := by omega
   clear hk hk2 hx hlt
   go_wp2_with (at_builtin; refine wpList_append_own _ rfl _ _ 28 rfl w.heap.size 37 i0 (.agg #[.int .i64 0, .int .i64 0]) 2 16 Tryz.underlying28 HI0.out HZ0.out HZ1.out HZ2.out rfl (by decide) _ _ _ rfl (own_blI HO.out (bw_new (bw_new (Below.refl _ _) _) _)) ⟨wr.heap.size + 1, 0, none⟩ 1 1 (cbL (a, b)) rfl rfl news_two (by simp [Value.oneCell']) (by unfold maxLen; omega) (by omega) (by simp; have := HB.out.size; omega) ?_)
   intro v' w4 hown hgrow _
   obtain ⟨g4, c4', hv, hc4⟩ := own_form hown (by omega)
   subst hv
   have hb4 := (bw_new (bw_new HB.out (.cells (pmL q (a, b)).toArray 86)) (.cells (cbL (a, b)).toArray 37)).grown hgrow (by have := (bw_new (bw_new HB.out (.cells (pmL q (a, b)).toArray 86)) (.cells (cbL (a, b)).toArray 37)).size; exact this) (fun q hq => (HO.out.lt q hq).1)
   have HB4 := Lib.hid hb4
   have HO4 := Lib.hid hown
   clear hown hgrow hb4 c0 c1 c2 c3 c4 c5
   go_wp2_with fail
   go_roundw
   case rel => exact ⟨k + 1, some ⟨g4, 0, none⟩, c4', by have := HLT.out; have := HM.out; omega, by rw [HK2.out]; rfl, rfl, by rw [HTK.out, List.flatMap_append, List.flatMap_cons, List.flatMap_nil, List.append_nil]; exact HO4.out, HB4.out⟩
   case measure => have := HLT.out; have := HK2.out; simp only [intOf]; omega
  ·obtain rfl : k = m := by have := HM.out; omega
   clear hlt hk
   go_wp2_with fail
   exact bodyPost_ret (v := .slice A2 k cp2) (by simp [results, Tryz.results54, go_sem]) rfl ⟨A2, cp2, rfl, by have h := HO.out; rw [List.take_of_length_le (by rw [HM.out]; exact Nat.le_refl _)] at h; exact h, HB.out⟩
theorem nodup_le {α : Type} [BEq α] [LawfulBEq α] : ∀ (l m : List α), l.Nodup → (∀ x ∈ l, x ∈ m) → l.length ≤ m.length
 | [], _, _, _ => Nat.zero_le _
 | a :: l, m, hn, h => by
  obtain ⟨h1, h2⟩ := List.nodup_cons.1 hn
  have ha := h a (List.mem_cons_self ..)
  have := nodup_le l (m.erase a) h2 fun x hx => (List.mem_erase_of_ne (show x ≠ a from fun e => h1 (by rw [← e]; exact hx))).2 (h x (List.mem_cons_of_mem _ hx))
  rw [List.length_erase_of_mem ha] at this
  have := List.length_pos_of_mem ha
  rw [List.length_cons]
  omega
theorem chk_q {q : Nat} {L K : List Int} (hk : chkE (q : Int) L K = 0) : q ≤ 8 := by
 refine Classical.byContradiction fun hc => ?_
 unfold chkE at hk
 rw [if_pos (by omega)] at hk
 cases hk
theorem tPr_len (q : Nat) (L K : List Int) (hq : q ≤ 8) : (tPr q L K).length ≤ 65536 := by
 have h1 : ∀ x ∈ tPr q L K, x ∈ prF q (rowM (L.map Int.toNat)) (rowM (L.map Int.toNat) ||| rowM (K.map Int.toNat)) := fun x hx => (prS_mem hq).1 hx
 have hn : (tPr q L K).Nodup := (prS_sorted _ _ _).imp fun h e => by subst e; exact cLt_irr _ h
 have h3 := nodup_le _ _ hn h1
 have h4 := prK_len q (rowM (L.map Int.toNat)) (rowM (L.map Int.toNat) ||| rowM (K.map Int.toNat)) (2 ^ q) (pow_le8 hq)
 rw [prK_all] at h4
 have := pow_le8 hq
 omega
set_option maxRecDepth 1000000 in
set_option maxHeartbeats 4000000 in
theorem iPrimes_ok (A B : Option Addr) (c d n m q : Nat) (L K : List Int) (w : World) (h : TabAt w w.heap.size A B n m L K) (hk : chkE (q : Int) L K = 0) :
  Calls Tryz.prog 22 #[.agg #[.int .i64 (q : Int), .slice A n c, .slice B m d]] w fun e w' => ∃ (A' : Option Addr) (cp : Nat), e = .returned (.tuple #[.slice A' (tPr q L K).length cp, .int .i64 0]) ∧ w'.ownsRow w.heap.size 37 2 (.slice A' (tPr q L K).length cp) (tPr q L K).length ((tPr q L K).flatMap cbL) ∧ Below w.heap.size w w' := by
 have hCK := fun W (hb : Below w.heap.size w W) => icheck_tab (c := c) (d := d) (v := (q : Int)) h W hb
 rw [hk] at hCK
 have HCK := Lib.hid hCK
 have hle := tPr_len q L K (chk_q hk)
 obtain ⟨ln, hln⟩ : ∃ l, l = (tPr q L K).length := ⟨_, rfl⟩
 rw [← hln]
 have HPR := Lib.hid (show ∀ W, Below w.heap.size w W → Calls Tryz.prog 42 #[.agg #[.int .i64 (q : Int), .slice A n c, .slice B m d]] W fun e w' => ∃ (A' : Option Addr) (cp : Nat), e = .returned (.slice A' ln cp) ∧ PRd q w' w'.heap.size A' (tPr q L K) ∧ Below W.heap.size W w' from fun W hb => by rw [hln]; exact iprimes_any A B c d n m q L K W (h.below hb) hk)
 have HCU := Lib.hid (fun A2 cp2 W h => icubes_any q A2 ln cp2 (tPr q L K) W h hln hle)
 have hm0 := (Hp.start w).new 26 [.int .i64 (q : Int), .slice A n c, .slice B m d]
 simp only [List.nil_append] at hm0
 have HM0 := Lib.hid hm0
 have c0 : (w.alloc (.cells #[.int .i64 (q : Int), .slice A n c, .slice B m d] 26)).cell? ⟨w.heap.size, 0, none⟩ = some (.int .i64 (q : Int)) := (hm0.at_ 0 rfl).cell 0
 have c1 : (w.alloc (.cells #[.int .i64 (q : Int), .slice A n c, .slice B m d] 26)).cell? ⟨w.heap.size, 1, none⟩ = some (.slice A n c) := (hm0.at_ 0 rfl).cell 1
 have c2 : (w.alloc (.cells #[.int .i64 (q : Int), .slice A n c, .slice B m d] 26)).cell? ⟨w.heap.size, 2, none⟩ = some (.slice B m d) := (hm0.at_ 0 rfl).cell 2
 clear hm0 hCK h hk hln hle
 go_enter Tryz.func22, Tryz.ntmps22
 go_wp2_with fail
 refine (HCK.out _ HM0.out.below).mono ?_
 rintro e w1 ⟨rfl, hb1⟩
 have HM1 := Lib.hid (HM0.out.step hb1)
 clear hb1 HM0 c0 c1 c2
 have c0 : w1.cell? ⟨w.heap.size, 0, none⟩ = some (.int .i64 (q : Int)) := (HM1.out.at_ 0 rfl).cell 0
 have c1 : w1.cell? ⟨w.heap.size, 1, none⟩ = some (.slice A n c) := (HM1.out.at_ 0 rfl).cell 1
 have c2 : w1.cell? ⟨w.heap.size, 2, none⟩ = some (.slice B m d) := (HM1.out.at_ 0 rfl).cell 2
 go_wp2_with fail
 refine (HPR.out _ HM1.out.below).mono ?_
 rintro e w2 ⟨A2, cp2, rfl, hrd, hb2⟩
 have HRD := Lib.hid hrd
 have HM2 := Lib.hid (HM1.out.step hb2)
 clear hrd hb2 c0 c1 c2
 go_wp2_with fail
 refine (HCU.out _ _ _ HRD.out).mono ?_
 rintro e w3 ⟨A3, cp3, rfl, hown, hb3⟩
 have HM3 := Lib.hid (HM2.out.step hb3)
 have HO3 := Lib.hid (own_lwI hown HM2.out.below.size)
 clear hown hb3
 go_wp2_with fail
 exact bodyPost_ret (v := .tuple #[.slice A3 ln cp3, .int .i64 0]) (by simp [results, Tryz.results22, go_sem]) rfl ⟨A3, cp3, rfl, HO3.out, HM3.out.below⟩
structure TgAt (X : World) (n M ab tb mb : Nat) : Prop where
 all : Blk X ab 3 [.int .i64 ((2 ^ n - 1 : Nat) : Int)]
 tab : tb < X.heap.size ∧ X.cell? ⟨tb, 0, none⟩ = some (.int .i64 (n : Int))
 may : Blk X mb 84 (setL M)
theorem TgAt.step {X W : World} {n M ab tb mb : Nat} (h : TgAt X n M ab tb mb) (hb : Below X.heap.size X W) : TgAt W n M ab tb mb :=
 ⟨(hb.block ab h.all.lt).trans h.all, ⟨Nat.lt_of_lt_of_le h.tab.1 hb.size, (hb.cell (p := ⟨tb, 0, none⟩) h.tab.1).trans h.tab.2⟩, (hb.block mb h.may.lt).trans h.may⟩
theorem tog_bits {n a b : Nat} (hn : n ≤ 8) (ha : a < 256) (hb : b < 256) : bits .andNot .i64 ((2 ^ n - 1 : Nat) : Int) (bits .xor .i64 (a : Int) (b : Int)) = ((adn (2 ^ n - 1) (a ^^^ b) : Nat) : Int) ∧ adn (2 ^ n - 1) (a ^^^ b) < 256 ∧ bits .and .i64 (a : Int) ((adn (2 ^ n - 1) (a ^^^ b) : Nat) : Int) = ((a &&& adn (2 ^ n - 1) (a ^^^ b) : Nat) : Int) ∧ a &&& adn (2 ^ n - 1) (a ^^^ b) < 256 := by
 have hp := pow_le8 hn
 have hx : a ^^^ b < 2 ^ 8 := Nat.xor_lt_two_pow (n := 8) ha hb
 have hy : adn (2 ^ n - 1) (a ^^^ b) ≤ 2 ^ n - 1 := adn_le _ _
 rw [xor_i64 (by omega) (by omega), adn_i64 (by omega) (by omega), and_i64 (by omega) (by omega)]
 exact ⟨rfl, by omega, rfl, Nat.lt_of_le_of_lt Nat.and_le_left ha⟩
def GdT (X : World) (n c v : Nat) (b : Bool) (A : Option Addr) (W : World) : Prop := Hp X [] W ∧ (b = true → Rd nv W W.heap.size A (cRows n c v))
theorem GdT.step {X W W' : World} {n c v : Nat} {b : Bool} {A : Option Addr} (h : GdT X n c v b A W) (hb : Below W.heap.size W W') : GdT X n c v b A W' :=
 ⟨h.1.step hb, fun e => ((h.2 e).below hb).more hb.size⟩
set_option maxRecDepth 1000000 in
set_option maxHeartbeats 4000000 in
theorem itog_any (n a b M ab tb mb : Nat) (X : World) (hn : n ≤ 8) (ha : a < 256) (hb : b < 256) (hT : TgAt X n M ab tb mb) :
  Calls Tryz.prog 47 #[nv a, nv b, .pointer (some ⟨ab, 0, none⟩), .pointer (some ⟨tb, 0, none⟩), .pointer (some ⟨mb, 0, none⟩)] X fun e w' => e = .returned (.bool (togB n M a b)) ∧ Below X.heap.size X w' := by
 obtain ⟨h1, h2, h3, h4⟩ := tog_bits hn ha hb
 obtain ⟨R, hR⟩ : ∃ R, R = togB n M a b := ⟨_, rfl⟩
 rw [← hR]
 unfold togB at hR
 obtain ⟨c, hc⟩ : ∃ c, c = adn (2 ^ n - 1) (a ^^^ b) := ⟨_, rfl⟩
 rw [← hc] at h1 h2 h3 h4 hR
 obtain ⟨v, hv⟩ : ∃ v, v = a &&& c := ⟨_, rfl⟩
 rw [← hv] at h3 h4 hR
 obtain ⟨z, hz⟩ : ∃ z : Int, z = ((2 ^ n - 1 : Nat) : Int) := ⟨_, rfl⟩
 rw [← hz] at h1
 have HRW := Lib.hid (fun W => irows_any n c v W hn h2 h4)
 have HOF := Lib.hid (fun W A cp h => iof_any A cp (cRows n c v).length (cRows n c v) W h (fun r hr => Nat.lt_of_lt_of_le (cRows_mem.1 hr).1 (pow_le8 hn)) rfl (by
  have h1 := lsN_len (fun r => r &&& c == v) (2 ^ n)
  have h2 := pow_le8 hn
  rw [lsN_cRows] at h1
  omega))
 have hwi := fun W => iwithin_any (cM n c v) M W (cM_lt hn)
 rw [show (adn (cM n c v) M == 0) = R from hR.symm] at hwi
 have HWI := Lib.hid hwi
 have HT := Lib.hid hT
 have q0 : X.cell? ⟨ab, 0, none⟩ = some (.int .i64 z) := by rw [hz]; exact hT.all.cell 0
 have hm0 := Hp.start X
 have HM0 := Lib.hid (show GdT X n c v false none _ from ⟨hm0, fun e => by cases e⟩)
 clear hm0 hn ha hb hT hc hv hz hR hwi
 go_enter Tryz.func47, Tryz.ntmps47
 go_upto_region 2 with fail
 refine wp_regionJ 12 #[false, false, false, false, false, false, false, false, false, false, false, false] (fun ll aa W => ∃ (m0 m1 m2 m3 m4 m5 m6 m7 m8 m9 m10 m11 : Bool) (gA : Option Addr) (gc : Nat), ll = #[m0, m1, m2, m3, m4, m5, m6, m7, m8, m9, m10, m11] ∧ aa = ({ tmps := #[nv a, nv b, Value.pointer (some { block := ab, off := 0 }), Value.pointer (some { block := tb, off := 0 }), Value.pointer (some { block := mb, off := 0 }), undef, undef, cwX m11 (.bool R) (Value.bool false), Value.int IntKind.i64 (c : Int), Value.int IntKind.i64 z, nv a, nv b, Value.int IntKind.i64 (bits BinOp.xor IntKind.i64 (a : Int) (b : Int)), Value.int IntKind.i64 (c : Int), cwX m0 (nv c) (undef), cwX m1 (nv a) (undef), cwX m2 (nv c) (undef), cwX m3 (nv v) (undef), cwX m4 (.agg #[nv c, nv v]) (undef), cwX m5 (.pointer (some ⟨tb, 0, none⟩)) (undef), cwX m6 (.int .i64 (n : Int)) (undef), cwX m7 (.slice gA (cRows n c v).length gc) (undef), cwX m8 (.agg (setL (cM n c v)).toArray) (undef), cwX m9 (.agg (setL M).toArray) (undef), cwX m10 (.bool R) (undef)], defers := [] } : Act) ∧ (True) ∧ GdT X n c v m7 gA W) (by kernel_rfl) (by kernel_rfl) (by kernel_rfl) (by kernel_rfl) ?_ ?_ ?_ ?_
 ·rintro ll aa W ⟨m0, m1, m2, m3, m4, m5, m6, m7, m8, m9, m10, m11, gA, gc, rfl, _⟩
  rfl
 ·exact ⟨false, false, false, false, false, false, false, false, false, false, false, false, none, 0, rfl, rfl, trivial, HM0.out.step (bw_drew (Below.refl _ _))⟩
 ·rintro ll aa W i o ⟨m0, m1, m2, m3, m4, m5, m6, m7, m8, m9, m10, m11, gA, gc, rfl, rfl, hi0, hm⟩ ho hun hall K hK
  have hi : i < 12 := (Array.getElem?_eq_some_iff.1 ho).1
  have HM := Lib.hid hm
  have HI := Lib.hid hi0
  clear hm hi0
  rcases (show i = 0 ∨ i = 1 ∨ i = 2 ∨ i = 3 ∨ i = 4 ∨ i = 5 ∨ i = 6 ∨ i = 7 ∨ i = 8 ∨ i = 9 ∨ i = 10 ∨ i = 11 by omega) with rfl | rfl | rfl | rfl | rfl | rfl | rfl | rfl | rfl | rfl | rfl | rfl
  ·cases ho
   simp at hun; subst hun
   clear hall hi
   go_simp
   exact hK.out _ _ ⟨true, m1, m2, m3, m4, m5, m6, m7, m8, m9, m10, m11, gA, gc, rfl, rfl, trivial, HM.out⟩
  ·cases ho
   simp at hun; subst hun
   clear hall hi
   go_simp
   exact hK.out _ _ ⟨m0, true, m2, m3, m4, m5, m6, m7, m8, m9, m10, m11, gA, gc, rfl, rfl, trivial, HM.out⟩
  ·cases ho
   simp at hun; subst hun
   clear hall hi
   go_simp
   exact hK.out _ _ ⟨m0, m1, true, m3, m4, m5, m6, m7, m8, m9, m10, m11, gA, gc, rfl, rfl, trivial, HM.out⟩
  ·cases ho
   cases (getBX hall 1 rfl : m1 = true)
   cases (getBX hall 2 rfl : m2 = true)
   simp at hun; subst hun
   clear hall hi
   go_simp
   exact hK.out _ _ ⟨m0, true, true, true, m4, m5, m6, m7, m8, m9, m10, m11, gA, gc, rfl, rfl, trivial, HM.out⟩
  ·cases ho
   cases (getBX hall 0 rfl : m0 = true)
   cases (getBX hall 3 rfl : m3 = true)
   simp at hun; subst hun
   clear hall hi
   go_simp
   exact hK.out _ _ ⟨true, m1, m2, true, true, m5, m6, m7, m8, m9, m10, m11, gA, gc, rfl, rfl, trivial, HM.out⟩
  ·cases ho
   simp at hun; subst hun
   clear hall hi
   go_simp
   exact hK.out _ _ ⟨m0, m1, m2, m3, m4, true, m6, m7, m8, m9, m10, m11, gA, gc, rfl, rfl, trivial, HM.out⟩
  ·cases ho
   cases (getBX hall 5 rfl : m5 = true)
   simp at hun; subst hun
   clear hall hi
   have q1 := (HT.out.step HM.out.1.below).tab.2
   go_simp
   exact hK.out _ _ ⟨m0, m1, m2, m3, m4, true, true, m7, m8, m9, m10, m11, gA, gc, rfl, rfl, trivial, HM.out⟩
  ·cases ho
   cases (getBX hall 4 rfl : m4 = true)
   cases (getBX hall 6 rfl : m6 = true)
   simp at hun; subst hun
   clear hall hi
   go_simp
   refine (HRW.out _).mono ?_
   rintro e W' ⟨A', cp', rfl, hown, hb⟩
   exact hK.out _ _ ⟨m0, m1, m2, m3, true, m5, true, true, m8, m9, m10, m11, A', cp', rfl, rfl, trivial, ⟨HM.out.1.step hb, fun _ => Rd.of_own hown rfl⟩⟩
  ·cases ho
   cases (getBX hall 7 rfl : m7 = true)
   simp at hun; subst hun
   clear hall hi
   go_simp
   refine (HOF.out _ _ _ (HM.out.2 rfl)).mono ?_
   rintro e W' ⟨rfl, hb⟩
   exact hK.out _ _ ⟨m0, m1, m2, m3, m4, m5, m6, true, true, m9, m10, m11, gA, gc, rfl, rfl, trivial, HM.out.step hb⟩
  ·cases ho
   simp at hun; subst hun
   clear hall hi
   obtain ⟨q2, q3, q4, q5⟩ := set_of (HT.out.step HM.out.1.below).may
   go_simp
   exact hK.out _ _ ⟨m0, m1, m2, m3, m4, m5, m6, m7, m8, true, m10, m11, gA, gc, rfl, rfl, trivial, HM.out⟩
  ·cases ho
   cases (getBX hall 8 rfl : m8 = true)
   cases (getBX hall 9 rfl : m9 = true)
   simp at hun; subst hun
   clear hall hi
   go_simp
   refine (HWI.out _).mono ?_
   rintro e W' ⟨rfl, hb⟩
   exact hK.out _ _ ⟨m0, m1, m2, m3, m4, m5, m6, m7, true, true, true, m11, gA, gc, rfl, rfl, trivial, HM.out.step hb⟩
  ·cases ho
   cases (getBX hall 10 rfl : m10 = true)
   simp at hun; subst hun
   clear hall hi
   go_simp
   exact hK.out _ _ ⟨m0, m1, m2, m3, m4, m5, m6, m7, m8, m9, true, true, gA, gc, rfl, rfl, trivial, HM.out⟩
 ·rintro ll aa W ⟨m0, m1, m2, m3, m4, m5, m6, m7, m8, m9, m10, m11, gA, gc, rfl, rfl, _, hm⟩ hall
  cases (hall 0 (by decide) : m0 = true)
  cases (hall 1 (by decide) : m1 = true)
  cases (hall 2 (by decide) : m2 = true)
  cases (hall 3 (by decide) : m3 = true)
  cases (hall 4 (by decide) : m4 = true)
  cases (hall 5 (by decide) : m5 = true)
  cases (hall 6 (by decide) : m6 = true)
  cases (hall 7 (by decide) : m7 = true)
  cases (hall 8 (by decide) : m8 = true)
  cases (hall 9 (by decide) : m9 = true)
  cases (hall 10 (by decide) : m10 = true)
  cases (hall 11 (by decide) : m11 = true)
  clear hall
  have HZ := Lib.hid hm.1
  clear hm HM0
  dsimp only [cwX, cond_true]
  go_wp2_with fail
  exact bodyPost_ret (v := .bool R) (by simp [results, Tryz.results47, go_sem]) rfl ⟨rfl, HZ.out.below⟩
set_option maxRecDepth 1000000 in
set_option maxHeartbeats 4000000 in
theorem idel_any (n a b M ab tb mb gb rb : Nat) (X : World) (hn : n ≤ 8) (ha : a < 256) (hb : b < 256) (hT : TgAt X n M ab tb mb) (hG : Blk X gb 94 [.func (.func 47) #[] #[.pointer (some ⟨ab, 0, none⟩), .pointer (some ⟨tb, 0, none⟩), .pointer (some ⟨mb, 0, none⟩)]]) (hR : Blk X rb 3 [nv a]) :
  Calls Tryz.prog 53 #[nv b, .pointer (some ⟨gb, 0, none⟩), .pointer (some ⟨rb, 0, none⟩)] X fun e w' => e = .returned (.bool (togB n M a b)) ∧ Below X.heap.size X w' := by
 have HC := Lib.hid (itog_any n a b M ab tb mb X hn ha hb hT)
 have q0 : X.cell? ⟨gb, 0, none⟩ = some (.func (.func 47) #[] #[.pointer (some ⟨ab, 0, none⟩), .pointer (some ⟨tb, 0, none⟩), .pointer (some ⟨mb, 0, none⟩)]) := hG.cell 0
 have q1 : X.cell? ⟨rb, 0, none⟩ = some (.int .i64 (a : Int)) := hR.cell 0
 obtain ⟨R, hR⟩ : ∃ R, R = togB n M a b := ⟨_, rfl⟩
 rw [← hR] at HC ⊢
 clear hn ha hb hT hG hR
 go_enter Tryz.func53, Tryz.ntmps53
 go_wp2_with fail
 refine HC.out.mono ?_
 rintro e W ⟨rfl, hb⟩
 have HB := Lib.hid hb
 clear hb
 go_wp2_with fail
 exact bodyPost_ret (v := .bool R) (by simp [results, Tryz.results53, go_sem]) rfl ⟨rfl, HB.out⟩
end Go.Proofs.YtaegjpancbmppaaGreatDoor
