/- Part 21 of 33 of the proof of the law: contracts of the functions that it reaches, and plain facts. Conditions: those that each contract names. -/
import Derived.Test.YtaegjpancbmppaaGreatDoorTabB18
import Derived.Test.YtaegjpancbmppaaGreatDoorTabB20
set_option linter.unusedVariables false
set_option linter.unusedSimpArgs false
namespace Go.Proofs.YtaegjpancbmppaaGreatDoor
open Go.RowKit Go.Shelf
attribute [local go_sem] Oper.semAt_some
theorem blk_own {β : Type} (B : Nat) (t : TypeId) (cs : List Value) : Own (fun (_ : β) W => Blk W B t cs) := fun s X Y row hs hg hrow =>
 (hg.block B hs.lt (fun e => by obtain ⟨o, ho, hc⟩ := hrow B e.symm; rw [show X.heap[B]? = _ from hs] at ho; cases ho; cases hc)).trans hs
theorem kf_below {B : Nat} {W W' : World} (h : Below W.heap.size W W') : KeepsFrom B W W' := ⟨h.size, fun k o _ hk _ => (h.block k (Array.getElem?_eq_some_iff.1 hk).1).trans hk⟩
theorem kpF_putObj {n₀ : Nat} {w : World} (hn : n₀ ≤ w.heap.size) (W : World) (l : Nat) (o o' : Obj) (hl : w.heap.size ≤ l) (h : W.heap[l]? = some o) (hc : o.isCells = false) (hw : o.isWalk = false) : KpF n₀ W (W.putObj l o') :=
 ⟨belowK_b hn W l o o' hl h hc hw, fun b cs t fr hb _ => (grownBy_putObj' W l o').block b (Array.getElem?_eq_some_iff.1 hb).1 (fun e => by cases e; rw [hb] at h; cases h; cases hc)⟩
def ckX (k a : Int) (A : Option Addr) (n c : Nat) (W : World) : World := ((W.alloc (.cells #[.int .i64 k, .int .i64 a, .slice A n c] 53)).alloc (.cells #[.int .i64 0] 29)).alloc (.cells #[.int .i64 0, .int .i64 0] 126)
theorem ckX_facts (k a : Int) (A : Option Addr) (n c : Nat) (W : World) : Below W.heap.size W (ckX k a A n c W) ∧ (ckX k a A n c W).heap.size = W.heap.size + 3 ∧ Blk (ckX k a A n c W) W.heap.size 53 (fcL k a A n c) ∧
  Blk (ckX k a A n c W) (W.heap.size + 1) 29 [.int .i64 0] ∧ MsAt (ckX k a A n c W) (W.heap.size + 2) 0 := by
 obtain ⟨X1, hX1⟩ : ∃ X, X = W.alloc (.cells (fcL k a A n c).toArray 53) := ⟨_, rfl⟩
 obtain ⟨X2, hX2⟩ : ∃ X, X = X1.alloc (.cells #[.int .i64 0] 29) := ⟨_, rfl⟩
 obtain ⟨X3, hX3⟩ : ∃ X, X = X2.alloc (.cells #[.int .i64 0, .int .i64 0] 126) := ⟨_, rfl⟩
 have e : ckX k a A n c W = X3 := by rw [hX3, hX2, hX1]; rfl
 have s1 : X1.heap.size = W.heap.size + 1 := by rw [hX1]; simp
 have s2 : X2.heap.size = W.heap.size + 2 := by rw [hX2]; simp [s1]
 have s3 : X3.heap.size = W.heap.size + 3 := by rw [hX3]; simp [s2]
 have b1 : Below W.heap.size W X1 := by rw [hX1]; exact bw_new (Below.refl _ _) _
 have b2 : Below X1.heap.size X1 X2 := by rw [hX2]; exact bw_new (Below.refl _ _) _
 have b3 : Below X2.heap.size X2 X3 := by rw [hX3]; exact bw_new (Below.refl _ _) _
 have l1 : Blk X1 W.heap.size 53 (fcL k a A n c) := by rw [hX1]; exact heap_alloc_new W _
 have l2 : Blk X2 X1.heap.size 29 [.int .i64 0] := by rw [hX2]; exact heap_alloc_new X1 _
 have l3 : Blk X3 X2.heap.size 126 [.int .i64 0, .int .i64 0] := by rw [hX3]; exact heap_alloc_new X2 _
 rw [e]
 refine ⟨(b1.trans (b2.mono (by omega))).trans (b3.mono (by omega)), s3, ?_, ?_, ?_⟩
 ·exact (b3.block _ (by omega)).trans ((b2.block _ (by omega)).trans l1)
 ·rw [← s1]; exact (b3.block _ (by omega)).trans l2
 ·rw [← s2]; exact ⟨0, l3⟩
set_option maxRecDepth 1000000 in
set_option maxHeartbeats 4000000 in
theorem fcheck_in (t : Fm) (A : Option Addr) (c : Nat) (W : World) (hs : t.size ≤ 10000) (hd : t.depth ≤ 100) (hall : t.all nodeOK) (hA : FsR W (lowB W.heap.size) A t.l) :
  CallsIn Fence.wide 8 Tryz.prog 63 #[.agg (fcL t.k t.a A t.l.length c).toArray] W (SgPost 0 W) := by
 have HS := Lib.hid (And.intro hs (And.intro hd (And.intro hall hA)))
 obtain ⟨nl, hnl⟩ : ∃ n, n = t.l.length := ⟨_, rfl⟩
 obtain ⟨k, hk⟩ : ∃ n, n = t.k := ⟨_, rfl⟩
 obtain ⟨a, ha⟩ : ∃ n, n = t.a := ⟨_, rfl⟩
 rw [← hk, ← ha, ← hnl]
 have HE := Lib.hid (And.intro hk (And.intro ha hnl))
 have hX := ckX_facts k a A nl c W
 obtain ⟨X, hXe⟩ : ∃ X, X = ckX k a A nl c W := ⟨_, rfl⟩
 rw [← hXe] at hX
 have HX := Lib.hid hX
 have hm := imeasure_any (W.heap.size + 2) 10000 t A c 0 1 X hs ((hA.lowK hX.1).mono fun b hb => ⟨by rw [hX.2.1]; show b < _; have : b < W.heap.size := hb; omega, by have : b < W.heap.size := hb; omega⟩) hX.2.2.2.2 (by omega) (by omega)
 rw [← hk, ← ha, ← hnl] at hm
 have HM := Lib.hid (show Calls Tryz.prog 78 #[.agg #[.int .i64 k, .int .i64 a, .slice A nl c], .int .i64 1, .pointer (some ⟨W.heap.size + 1 + 1, 0, none⟩)] (((W.alloc (.cells #[.int .i64 k, .int .i64 a, .slice A nl c] 53)).alloc (.cells #[.int .i64 0] 29)).alloc (.cells #[.int .i64 0, .int .i64 0] 126)) (MsPost (W.heap.size + 2) (0 + t.size) X) from by subst hXe; exact hm)
 have HXE := Lib.hid hXe
 clear hs hd hall hA hk ha hnl hX hm hXe
 show CallsIn Fence.wide 8 Tryz.prog 63 #[.agg #[.int .i64 k, .int .i64 a, .slice A nl c]] W _
 refine callsIn_of_wp_marks Tryz.func63 rfl trivial ?_ rfl
 simp only [Tryz.ntmps63, List.size_toArray, List.length_cons, List.length_nil, Nat.reduceAdd, Nat.reduceSub, Array.replicate_succ, Array.replicate_zero, List.push_toArray, List.append_toArray, List.nil_append, List.cons_append]
 gi_wp2_with fail
 refine ⟨trivial, ?_⟩
 refine (callsIn_wide.2 HM.out).mono ?_
 rintro e W1 ⟨rfl, hch, -⟩
 have HF1 := Lib.hid (show Blk W1 W.heap.size 53 (fcL k a A nl c) from (hch.block _ (by rw [HX.out.2.1]; omega) (by omega)).trans HX.out.2.2.1)
 have HR1 := Lib.hid (show Blk W1 (W.heap.size + 1) 29 [.int .i64 0] from (hch.block _ (by rw [HX.out.2.1]; omega) (by omega)).trans HX.out.2.2.2.1)
 have HB1 := Lib.hid (HX.out.1.trans (hch.below (by omega) (by rw [HX.out.2.1]; omega)))
 have HN := Lib.hid (inodes_any k a A nl c W1)
 have q0 := HF1.out.cell 0
 have q1 := HF1.out.cell 1
 have q2 := HF1.out.cell 2
 clear hch
 gi_wp2_with fail
 refine ⟨trivial, ?_⟩
 refine (callsIn_wide.2 HN.out).mono ?_
 rintro e W2 ⟨tb, fb, rfl, hb, hT, hF⟩
 have HB2 := Lib.hid hb
 have HR2 := Lib.hid ((hb.block _ HR1.out.lt).trans HR1.out)
 have HT := Lib.hid hT
 have HF := Lib.hid hF
 clear hb hT hF q0 q1 q2
 gi_wp2_with fail
 have hall : t.all nodeOK := HS.out.2.2.1
 have hFs : FsR W2 (lowB W.heap.size) A t.l := HS.out.2.2.2.lowK (HB1.out.trans (HB2.out.mono HB1.out.size))
 have hn2 : W.heap.size ≤ W2.heap.size := Nat.le_trans HB1.out.size HB2.out.size
 refine wpIn_rangeFunc_ownH rfl (by omega) (gf := 96) (lb := #[.pointer (some ⟨tb, 0, none⟩), .pointer (some ⟨fb, 0, none⟩)]) rfl trivial (enters_of Tryz.func96 (by kernel_rfl) rfl)
  (nodes_stops nodeOK 7 (by omega) W.heap.size tb fb t A c W2 HS.out.1 hall hFs hn2 HT.out (by have := HF.out; rw [HE.out.1, HE.out.2.1, HE.out.2.2] at this; exact this)) KpF.trans (kpF_putObj hn2) (Below.refl _ _) (fun _ => rfl)
  (fun _ Wr => Below W.heap.size W Wr ∧ Blk Wr (W.heap.size + 1) 29 [.int .i64 0]) (fun _ _ _ => False)
  (OwnFrom.and (ownFrom_below (Nat.le_refl _) hn2) (Own.from (blk_own _ _ _) _)) (fun _ _ _ _ _ hs _ _ => hs)
  ⟨HB1.out.trans (HB2.out.mono HB1.out.size), HR2.out⟩
  (fun x a' Wr => ∃ b, Blk Wr b 53 (fcL x.1.k x.1.a x.1.A x.1.n x.1.c) ∧ a' = { tmps := #[.agg #[.int .i64 k, .int .i64 a, .slice A nl c], .pointer (some ⟨W.heap.size, 0, none⟩), .pointer (some ⟨W.heap.size + 1, 0, none⟩), .pointer (some ⟨b, 0, none⟩), undef, .agg #[.int .i64 k, .int .i64 a, .slice A nl c], .agg #[.int .i64 0, .int .i64 0], .pointer (some ⟨W.heap.size + 1 + 1, 0, none⟩), .bool true, .bool false, .agg #[.int .i64 k, .int .i64 a, .slice A nl c], .func (.func 96) #[] #[.pointer (some ⟨tb, 0, none⟩), .pointer (some ⟨fb, 0, none⟩)], .agg #[.int .i64 x.1.k, .int .i64 x.1.a, .slice x.1.A x.1.n x.1.c], undef, undef, undef, undef, undef], defers := [] })
  (fun x a' _ X Y row hs hg hrow => by obtain ⟨b, hb, e⟩ := hs; exact ⟨b, (Own.from (blk_own b _ _) W2.heap.size) () X Y row hb hg hrow, e⟩) ?assign ?body ?done ?stop
 case assign =>
  rintro l pre ⟨⟨xk, xa, xA, xn, xc⟩, hx⟩ Wr K hI hK
  have HI := Lib.hid hI
  have HK := Lib.hid hK
  clear hI hK
  simp only [Fz.v]
  gi_wp2_with fail
  have hbn := bw_new (Below.refl Wr.heap.size Wr) (.cells #[.int .i64 xk, .int .i64 xa, .slice xA xn xc] 53)
  have hnw : W.heap.size ≤ Wr.heap.size := HI.out.1.size
  exact HK.out _ _ (kf_below hbn) (KpF.below hbn hnw) ⟨HI.out.1.trans (hbn.mono hnw), (hbn.block _ HI.out.2.lt).trans HI.out.2⟩ ⟨Wr.heap.size, heap_alloc_new Wr _, rfl⟩
 case body =>
  rintro l pre ⟨⟨xk, xa, xA, xn, xc⟩, hx⟩ a' Wr - - hI ⟨b, hb, rfl⟩ -
  have HI := Lib.hid hI
  have HSG := Lib.hid (isingle_any xk xa xA xn xc Wr hx)
  have q0 : Wr.cell? ⟨b, 0, none⟩ = some (.int .i64 xk) := hb.cell 0
  have q1 : Wr.cell? ⟨b, 1, none⟩ = some (.int .i64 xa) := hb.cell 1
  have q2 : Wr.cell? ⟨b, 2, none⟩ = some (.slice xA xn xc) := hb.cell 2
  clear hI hb
  gi_wp2_with fail
  refine ⟨trivial, ?_⟩
  refine (CallsIn.inRound l (callsIn_wide.2 HSG.out)).mono ?_
  rintro e W3 ⟨rfl, hb3⟩
  have hnw : W.heap.size ≤ Wr.heap.size := HI.out.1.size
  have HB3 := Lib.hid hb3
  clear hb3 q0 q1 q2
  gi_wp2_with fail
  exact ⟨kf_below HB3.out, KpF.below HB3.out hnw, HI.out.1.trans (HB3.out.mono hnw), (HB3.out.block _ HI.out.2.lt).trans HI.out.2⟩
 case done =>
  rintro D ys Wr hD - ⟨hB, hR⟩ hK
  have q : Wr.cell? ⟨W.heap.size + 1, 0, none⟩ = some (.int .i64 0) := hR.cell 0
  have qf : Wr.frozen? ⟨W.heap.size + 1, 0, none⟩ = false := hR.frozen 0
  have hlt : W.heap.size + 1 < W2.heap.size := Blk.lt HR2.out
  have HR := Lib.hid hR
  have HB := Lib.hid hB
  clear hB hR
  gi_wp2_with fail
  have hset : Blk (Wr.setCell ⟨W.heap.size + 1, 0, none⟩ (.int .i64 0)) (W.heap.size + 1) 29 [.int .i64 0] := HR.out.put 0 _
  have hK' : (Wr.setCell ⟨W.heap.size + 1, 0, none⟩ (.int .i64 0)).heap[D]? = some (.deferred (some [])) := (Below.heap_setCell Wr _ _ D (by show D ≠ W.heap.size + 1; omega)).trans hK
  have q' : ((Wr.setCell ⟨W.heap.size + 1, 0, none⟩ (.int .i64 0)).putObj D (.deferred none)).cell? ⟨W.heap.size + 1, 0, none⟩ = some (.int .i64 0) := by
   have : Blk ((Wr.setCell ⟨W.heap.size + 1, 0, none⟩ (.int .i64 0)).putObj D (.deferred none)) (W.heap.size + 1) 29 [.int .i64 0] := ((grownBy_putObj' _ D _).block _ hset.lt (fun e => by cases e; omega)).trans hset
   exact this.cell 0
  refine ⟨by simp, .inl ⟨_, (Wr.setCell ⟨W.heap.size + 1, 0, none⟩ (.int .i64 0)).putObj D (.deferred none), rfl, run_takeDeferred hK', ?_⟩⟩
  have hz : Below W.heap.size W ((Wr.setCell ⟨W.heap.size + 1, 0, none⟩ (.int .i64 0)).putObj D (.deferred none)) :=
   (HB.out.setCell (by show W.heap.size ≤ W.heap.size + 1; omega) _).grown (grownBy_putObj' _ D _) (by have := HB.out.size; simpa using this) (fun k e => by cases e; omega)
  exact ⟨.int .i64 0, by simp [results, Tryz.results63, go_sem, q'], rfl, hz⟩
 case stop =>
  rintro D c pre W _ _ h _
  exact h.elim
theorem fcheck_any (t : Fm) (A : Option Addr) (c : Nat) (W : World) (hs : t.size ≤ 10000) (hd : t.depth ≤ 100) (hall : t.all nodeOK) (hA : FsR W (lowB W.heap.size) A t.l) :
  Calls Tryz.prog 63 #[.agg (fcL t.k t.a A t.l.length c).toArray] W (SgPost 0 W) := callsIn_wide.1 (fcheck_in t A c W hs hd hall hA)
end Go.Proofs.YtaegjpancbmppaaGreatDoor
namespace Go.Proofs.YtaegjpancbmppaaGreatDoor
open Go.RowKit
mutual
def Fm.txt : Fm → List UInt8
 | .nd k a l => if k = 1 then 120 :: Lib.decDigits a.toNat else if k = 2 then 33 :: (txtR l).drop 1 else (if k = 3 then [38, 40] else [124, 40]) ++ (txtR l).drop 1 ++ [41]
def txtR : List Fm → List UInt8
 | [] => []
 | t :: l => 32 :: t.txt ++ txtR l
end
theorem txtR_app (a b : List Fm) : txtR (a ++ b) = txtR a ++ txtR b := by
 induction a with
 | nil => rw [txtR]; rfl
 | cons x a ih => rw [List.cons_append, txtR, txtR, ih]; simp
theorem txtR_take {l : List Fm} {i : Nat} (h : i < l.length) : (txtR (l.take (i + 1))).drop 1 = (txtR (l.take i)).drop 1 ++ ((if 0 < i then [32] else []) ++ (l[i]).txt) := by
 rw [List.take_succ_eq_append_getElem h, txtR_app, show txtR [l[i]] = 32 :: (l[i]).txt by rw [txtR, txtR]; simp]
 by_cases hi : 0 < i
 ·rw [if_pos hi]
  have hne : txtR (l.take i) ≠ [] := by
   cases l with
   | nil => simp at h
   | cons x l =>
    obtain ⟨j, rfl⟩ : ∃ j, i = j + 1 := ⟨i - 1, by omega⟩
    rw [List.take_succ_cons, txtR]; simp
  cases htx : txtR (l.take i) with
  | nil => exact absurd htx hne
  | cons x r => simp
 ·obtain rfl : i = 0 := by omega
  rw [if_neg (by decide)]
  simp [txtR]
def wrOK (k a : Int) (n : Nat) : Prop := (k = 1 ∧ 0 ≤ a ∧ a < 100) ∨ (k = 2 ∧ n = 1) ∨ ((k = 3 ∨ k = 4) ∧ n ≤ 10000)
theorem digits_small (n : Nat) (h : n < 100) : (Lib.decDigits n).length ≤ 2 := by
 rw [Lib.decDigits_length]
 by_cases h1 : n < 10
 ·rw [Lib.nDigits_small h1]; omega
 ·rw [Lib.nDigits_big h1, Lib.nDigits_small (by omega)]; omega
mutual
theorem Fm.txt_len : ∀ t : Fm, t.all wrOK → t.txt.length + 1 ≤ 4 * t.size
 | .nd k a l, h => by
  have hr := txtR_len l (fun s hs => Fm.all_kid h hs)
  have hk : wrOK k a l.length := Fm.all_root h
  rw [Fm.txt, Fm.size]
  by_cases h1 : k = 1
  ·rw [if_pos h1, List.length_cons]
   rcases hk with ⟨_, h2, h3⟩ | ⟨h2, _⟩ | ⟨h2 | h2, _⟩
   ·have := digits_small a.toNat (by omega); omega
   all_goals omega
  ·rw [if_neg h1]
   by_cases h2 : k = 2
   ·rw [if_pos h2, List.length_cons, List.length_drop]; omega
   ·rw [if_neg h2, List.length_append, List.length_append, List.length_drop]
    have : (if k = 3 then [38, 40] else [124, 40] : List UInt8).length = 2 := by split <;> rfl
    rw [this, List.length_singleton]; omega
theorem txtR_len : ∀ l : List Fm, (∀ s ∈ l, s.all wrOK) → (txtR l).length ≤ 4 * sizeL l
 | [], _ => by rw [txtR]; exact Nat.zero_le _
 | t :: l, h => by
  have h1 := Fm.txt_len t (h t List.mem_cons_self)
  have h2 := txtR_len l (fun s hs => h s (List.mem_cons_of_mem _ hs))
  rw [txtR, sizeL, List.length_append, List.length_cons]; omega
end
abbrev BuT (B b : Nat) (s : List UInt8) (W : World) : Prop := Lib.IsBuilder 132 5 B b (Lib.byteCells s) W
theorem BuT.alloc {B b : Nat} {s : List UInt8} {W : World} (h : BuT B b s W) (o : Obj) : BuT B b s (W.alloc o) := by
 have key : ∀ p, Lib.BuilderAt 132 5 B b p (Lib.byteCells s) W → Lib.BuilderAt 132 5 B b p (Lib.byteCells s) (W.alloc o) := by
  rintro p ⟨hB, v, hb, hown, hne⟩
  have hlt : b < W.heap.size := Lib.BuilderAt.lt ⟨hB, v, hb, hown, hne⟩
  exact ⟨hB, v, (Below.heap_alloc W o b hlt).trans hb, hown.alloc o, hne⟩
 rcases h with h | h
 ·exact .inl (key _ h)
 ·exact .inr (key _ h)
structure WrSt (B b : Nat) (s : List UInt8) (W W' : World) : Prop where
 bu : BuT B b s W'
 below : Below B W W'
 others : KeepsOthers W W'
 kept : KeepT b W W'
theorem WrSt.trans {B b : Nat} {s s' : List UInt8} {W W1 W2 : World} (h : WrSt B b s W W1) (k : WrSt B b s' W1 W2) : WrSt B b s' W W2 := ⟨k.bu, h.below.trans k.below, h.others.trans k.others, h.kept.trans k.kept⟩
theorem WrSt.alloc {B b : Nat} {s : List UInt8} {W W' : World} (h : WrSt B b s W W') (hB : B ≤ W.heap.size) (o : Obj) : WrSt B b s W (W'.alloc o) :=
 have hb := bw_new (Below.refl W'.heap.size W') o
 ⟨h.bu.alloc o, h.below.trans (hb.mono (Nat.le_trans hB h.below.size)), h.others.trans (others_of_below hb), h.kept.trans (KeepT.of_below hb)⟩
theorem WrSt.blk {B b g : Nat} {s : List UInt8} {W W' : World} {t : TypeId} {cs : List Value} (h : WrSt B b s W W') (hk : Blk W g t cs) (hg : g ≠ b) (ht : t ≠ 5) : Blk W' g t cs := h.kept g _ _ _ hk hg ht
theorem BuT.lt {B b : Nat} {s : List UInt8} {W : World} (h : BuT B b s W) : B ≤ b ∧ b < W.heap.size := by
 rcases h with h | h
 ·exact ⟨h.1, h.lt⟩
 ·exact ⟨h.1, h.lt⟩
theorem WrSt.of_alloc {B b : Nat} {s : List UInt8} {W W' : World} {o : Obj} (h : WrSt B b s (W.alloc o) W') (hB : B ≤ W.heap.size) : WrSt B b s W W' :=
 have hb := bw_new (Below.refl W.heap.size W) o
 ⟨h.bu, (hb.mono hB).trans h.below, (others_of_below hb).trans h.others, (KeepT.of_below hb).trans h.kept⟩
def StPost (v : Value) (B b : Nat) (s : List UInt8) (W : World) (e : Ending) (W' : World) : Prop := e = .returned v ∧ WrSt B b s W W'
def WrPost (B b : Nat) (s : List UInt8) (W : World) (e : Ending) (W' : World) : Prop := e = .returned (.tuple #[]) ∧ WrSt B b s W W'
theorem wstr_any (B b : Nat) (s l : List UInt8) (W : World) (h : BuT B b s W) (hl : s.length + l.length ≤ 1000000) (hB : B ≤ W.heap.size) :
  Calls Tryz.prog 97 #[.pointer (some ⟨b, 0, none⟩), .string ⟨l.toArray⟩] W (StPost (.tuple #[.int .i64 l.length, .nilIface]) B b (s ++ l) W) := by
 refine (writeString_any B b (Lib.byteCells s) ⟨l.toArray⟩ W h (by rw [Lib.byteCells_length]; show s.length + l.toArray.size ≤ _; simp; omega) hB).mono ?_
 rintro e W' ⟨rfl, h1, h2, h3, h4⟩
 refine ⟨by show _ = Ending.returned (.tuple #[.int .i64 (l.length : Int), .nilIface]); rfl, ⟨?_, h2, h3, h4⟩⟩
 rw [Lib.strCells_eq] at h1
 show Lib.IsBuilder _ _ _ _ (Lib.byteCells (s ++ l)) _
 rw [show Lib.byteCells (s ++ l) = Lib.byteCells s ++ Lib.byteCells l by simp [Lib.byteCells]]
 exact h1
theorem wbyte_any (B b : Nat) (s : List UInt8) (c : UInt8) (W : World) (h : BuT B b s W) (hl : s.length + 1 ≤ 1000000) (hB : B ≤ W.heap.size) :
  Calls Tryz.prog 99 #[.pointer (some ⟨b, 0, none⟩), .int .u8 c.toNat] W (StPost .nilIface B b (s ++ [c]) W) := by
 refine (writeByte_any B b (Lib.byteCells s) (c.toNat : Int) W h (by rw [Lib.byteCells_length]; omega) hB).mono ?_
 rintro e W' ⟨rfl, h1, h2, h3, h4⟩
 refine ⟨rfl, ⟨?_, h2, h3, h4⟩⟩
 show Lib.IsBuilder _ _ _ _ (Lib.byteCells (s ++ [c])) _
 rw [show Lib.byteCells (s ++ [c]) = Lib.byteCells s ++ [Value.int .u8 c.toNat] by simp [Lib.byteCells]]
 exact h1
--FAR
set_option maxRecDepth 1000000 in
set_option maxHeartbeats 8000000 in
theorem iwrite_any (B b : Nat) : ∀ (F : Nat) (t : Fm) (A : Option Addr) (c : Nat) (s : List UInt8) (W : World), t.size ≤ F → t.all wrOK → FsR W (lowB B) A t.l → B ≤ W.heap.size → BuT B b s W → s.length + 4 * t.size ≤ 1000000 →
  Calls Tryz.prog 81 #[.agg (fcL t.k t.a A t.l.length c).toArray, .pointer (some ⟨b, 0, none⟩)] W (WrPost B b (s ++ t.txt) W) := by
 intro F
 induction F with
 | zero => intro t A c s W h; have := size_pos t; omega
 | succ F ih =>
  intro t A c s W hF hall hA hB hb hlen
  have HIH := Lib.hid ih
  obtain ⟨k, a, ls⟩ := t
  have HKID := Lib.hid (show ∀ s ∈ ls, s.all wrOK from fun s hs => Fm.all_kid hall hs)
  have hk : wrOK k a ls.length := Fm.all_root hall
  have hsz : (Fm.nd k a ls).size = 1 + sizeL ls := Fm.size_eq _
  have HA := Lib.hid (show FsR W (lowB B) A ls from hA)
  rw [hsz] at hF hlen
  have HP := Lib.hid (And.intro hF (And.intro hlen hB))
  have HBU := Lib.hid hb
  have HX := Lib.hid (Fm.txt.eq_1 k a ls)
  obtain ⟨n, hn⟩ : ∃ n, n = ls.length := ⟨_, rfl⟩
  show Calls Tryz.prog 81 #[.agg #[.int .i64 k, .int .i64 a, .slice A ls.length c], .pointer (some ⟨b, 0, none⟩)] W _
  rw [← hn] at hk ⊢
  have HN := Lib.hid hn
  have hbw := bw_new (Below.refl W.heap.size W) (.cells #[.int .i64 k, .int .i64 a, .slice A n c] 53)
  have HBK := Lib.hid (show Blk (W.alloc (.cells #[.int .i64 k, .int .i64 a, .slice A n c] 53)) W.heap.size 53 (fcL k a A n c) from heap_alloc_new W _)
  clear ih hF hall hA hB hb hlen hsz hn hbw
  go_enter Tryz.func81, Tryz.ntmps81
  rcases hk with ⟨rfl, h0, h1⟩ | ⟨rfl, rfl⟩ | ⟨hk, hnn⟩
  ·obtain ⟨m, rfl⟩ : ∃ m : Nat, a = (m : Int) := ⟨a.toNat, by omega⟩
   have hm : m < 100 := by omega
   have HTX := Lib.hid (show (Fm.nd 1 m ls).txt = 120 :: Lib.decDigits m from by rw [HX.out, if_pos rfl]; rfl)
   clear h0 h1
   go_wp2_with fail
   refine (Tryz.strconv_Itoa_small m hm _).mono ?_
   rintro e w1 ⟨rfl, rfl⟩
   have HDL := Lib.hid (digits_small m hm)
   clear hm
   have hns : ¬ 9223372036854775807 < 1 + (Lib.decDigits m).length := by have := HDL.out; omega
   have hap : (({ data := #[120] } : ByteArray) ++ { data := (Lib.decDigits m).toArray }) = ⟨(120 :: Lib.decDigits m).toArray⟩ := by
    apply ByteArray.ext; rw [ByteArray.data_append]; simp
   have HW := Lib.hid (wstr_any B b s (120 :: Lib.decDigits m) _ (HBU.out.alloc (.cells #[.int .i64 1, .int .i64 m, .slice A n c] 53)) (by have := HP.out.2.1; have := HDL.out; rw [List.length_cons]; omega) (by have := HP.out.2.2; simp; omega))
   go_wp2_with fail
   refine HW.out.mono ?_
   rintro e W1 ⟨rfl, hst⟩
   have HS := Lib.hid hst
   clear hst hap hns
   go_wp2_with fail
   go_end0
   exact ⟨rfl, by rw [HTX.out]; exact HS.out.of_alloc HP.out.2.2⟩
  ·have hw := wbyte_any B b s 33 _ (HBU.out.alloc (.cells #[.int .i64 2, .int .i64 a, .slice A 1 c] 53)) (by have := HP.out.2.1; omega) (by have := HP.out.2.2; simp; omega)
   have HW := Lib.hid (show Calls Tryz.prog 99 #[.pointer (some ⟨b, 0, none⟩), .int .u8 33] (W.alloc (.cells #[.int .i64 2, .int .i64 a, .slice A 1 c] 53)) _ from hw)
   clear hw
   go_wp2_with fail
   refine HW.out.mono ?_
   rintro e W1 ⟨rfl, hst⟩
   have HF := Lib.hid (hst.blk HBK.out (by have := HBU.out.lt; omega) (by decide))
   have HS := Lib.hid (hst.of_alloc HP.out.2.2)
   have q3 : W1.cell? ⟨W.heap.size, 2, none⟩ = some (.slice A 1 c) := HF.out.cell 2
   clear hst
   obtain ⟨g, off, As, cs, hA, hg, hcc, hkk⟩ := (HA.out.lowK HS.out.below).at_ (by rw [← HN.out]; omega)
   have hiL : 0 < ls.length := by rw [← HN.out]; omega
   obtain ⟨q0, q1, q2, -⟩ := hcc 0 hiL
   have hkid := hkk 0 hiL
   have hsm := size_mem (List.getElem_mem hiL)
   have hst := sizeL_take hiL
   have hsl := sizeL_le (l := ls) (0 + 1)
   have hnt := txtR_take hiL
   have hRl := txtR_len (ls.take 0) (fun s hs => HKID.out s (List.mem_of_mem_take hs))
   have hall' := HKID.out _ (List.getElem_mem hiL)
   obtain ⟨t, ht⟩ : ∃ t, t = ls[0] := ⟨_, rfl⟩
   rw [← ht] at q0 q1 q2 hkid hsm hst hnt hall'
   obtain ⟨nc, hnc⟩ : ∃ n, n = t.l.length := ⟨_, rfl⟩
   obtain ⟨k', hk'⟩ : ∃ z, z = t.k := ⟨_, rfl⟩
   obtain ⟨a', ha'⟩ : ∃ z, z = t.a := ⟨_, rfl⟩
   obtain ⟨A', hA'⟩ : ∃ z, z = As 0 := ⟨_, rfl⟩
   obtain ⟨c', hc'⟩ : ∃ z, z = cs 0 := ⟨_, rfl⟩
   rw [← hk'] at q0
   rw [← ha'] at q1
   rw [← hA', ← hc', ← hnc] at q2
   rw [← hA'] at hkid
   subst hA
   have HPQ := Lib.hid (And.intro hsm (And.intro hst (And.intro hsl (And.intro hnt (And.intro hRl (And.intro hall' hkid))))))
   have HK := Lib.hid (And.intro hk' (And.intro ha' hnc))
   clear hiL hcc hkk hkid hsm hst hsl hnt hRl hall' ht hnc hk' ha' hA' hc' hg
   rw [Nat.zero_mul, Nat.add_zero] at q0 q1 q2
   have hcall := HIH.out t A' c' (s ++ [33]) (W1) (by have := HP.out.1; have := HPQ.out.1; omega) HPQ.out.2.2.2.2.2.1 (HPQ.out.2.2.2.2.2.2.lowK (Below.refl B W1)) (by have := HP.out.2.2; have := HS.out.below.size; have := ((Below.refl B W1)).size; omega) (HS.out.bu) (by have := HP.out.2.1; have h1 := HPQ.out.1; simp only [List.length_append, List.length_singleton]; omega)
   rw [← HK.out.1, ← HK.out.2.1, ← HK.out.2.2] at hcall
   have HCALL := Lib.hid (show Calls Tryz.prog 81 #[.agg #[.int .i64 k', .int .i64 a', .slice A' nc c'], .pointer (some ⟨b, 0, none⟩)] (W1) _ from hcall)
   clear hcall
   have HTX := Lib.hid (show (Fm.nd 2 a ls).txt = 33 :: t.txt from by
    have h1 := HPQ.out.2.2.2.1
    rw [List.take_of_length_le (by rw [← HN.out]; exact Nat.le_refl _), if_neg (by decide)] at h1
    rw [HX.out]; simp [h1, txtR])
   go_wp2_with fail
   refine HCALL.out.mono ?_
   rintro e W4 ⟨rfl, hst4⟩
   have HS4 := Lib.hid (HS.out.trans hst4)
   clear hst4 q0 q1 q2 q3
   go_wp2_with fail
   go_end0
   exact ⟨rfl, by rw [HTX.out]; simpa using HS4.out⟩
  ·rcases hk with rfl | rfl
   ·obtain ⟨p, hp⟩ : ∃ p : List UInt8, p = [38, 40] := ⟨_, rfl⟩
    have HPL := Lib.hid (show p.length = 2 by rw [hp]; rfl)
    have HTX := Lib.hid (show (Fm.nd 3 a ls).txt = p ++ (txtR ls).drop 1 ++ [41] from by rw [HX.out, hp]; simp)
    have hw := wstr_any B b s [38, 40] _ ((HBU.out.alloc (.cells #[.int .i64 3, .int .i64 a, .slice A n c] 53)).alloc (.cells #[.string ⟨#[38, 40]⟩, .string ⟨#[124, 40]⟩] 9)) (by have := HP.out.2.1; simp only [List.length_cons, List.length_nil]; omega) (by have := HP.out.2.2; simp; omega)
    have HW := Lib.hid (show Calls Tryz.prog 97 #[.pointer (some ⟨b, 0, none⟩), .string ⟨#[38, 40]⟩] ((W.alloc (.cells #[.int .i64 3, .int .i64 a, .slice A n c] 53)).alloc (.cells #[.string ⟨#[38, 40]⟩, .string ⟨#[124, 40]⟩] 9)) (StPost (.tuple #[.int .i64 2, .nilIface]) B b (s ++ p) ((W.alloc (.cells #[.int .i64 3, .int .i64 a, .slice A n c] 53)).alloc (.cells #[.string ⟨#[38, 40]⟩, .string ⟨#[124, 40]⟩] 9))) from by rw [hp]; exact hw)
    have HB2 := Lib.hid (HBK.out.alloc (.cells #[.string ⟨#[38, 40]⟩, .string ⟨#[124, 40]⟩] 9))
    clear hw hp
    go_wp2_with fail
    refine HW.out.mono ?_
    rintro e W1 ⟨rfl, hst⟩
    have HF := Lib.hid (hst.blk HB2.out (by have := HBU.out.lt; omega) (by decide))
    have HS1 := Lib.hid ((hst.of_alloc (by have := HP.out.2.2; simp; omega)).of_alloc HP.out.2.2)
    have q3 : W1.cell? ⟨W.heap.size, 2, none⟩ = some (.slice A n c) := HF.out.cell 2
    clear hst
    go_wp2_with fail
    go_loopw [19] (fun x wr => ∃ i : Nat, i ≤ n ∧ x = .int .i64 (i : Int) ∧ WrSt B b (s ++ p ++ (txtR (ls.take i)).drop 1) W wr) (fun x _ => n - (intOf x).toNat)
    case atStart => exact ⟨0, Nat.zero_le _, rfl, by rw [show ls.take 0 = [] from rfl, txtR]; simpa using HS1.out⟩
    case round =>
     obtain ⟨i, hi, rfl, hst⟩ := hrel
     have HS := Lib.hid hst
     clear hst q3
     by_cases hil : i < n
     ·have hilz : (i : Int) < (n : Int) := by omega
      obtain ⟨g, off, As, cs, hA, hg, hcc, hkk⟩ := (HA.out.lowK HS.out.below).at_ (by rw [← HN.out]; omega)
      have hiL : i < ls.length := by rw [← HN.out]; omega
      obtain ⟨q0, q1, q2, -⟩ := hcc i hiL
      have hkid := hkk i hiL
      have hsm := size_mem (List.getElem_mem hiL)
      have hst := sizeL_take hiL
      have hsl := sizeL_le (l := ls) (i + 1)
      have hnt := txtR_take hiL
      have hRl := txtR_len (ls.take i) (fun s hs => HKID.out s (List.mem_of_mem_take hs))
      have hall' := HKID.out _ (List.getElem_mem hiL)
      obtain ⟨t, ht⟩ : ∃ t, t = ls[i] := ⟨_, rfl⟩
      rw [← ht] at q0 q1 q2 hkid hsm hst hnt hall'
      obtain ⟨nc, hnc⟩ : ∃ n, n = t.l.length := ⟨_, rfl⟩
      obtain ⟨k', hk'⟩ : ∃ z, z = t.k := ⟨_, rfl⟩
      obtain ⟨a', ha'⟩ : ∃ z, z = t.a := ⟨_, rfl⟩
      obtain ⟨A', hA'⟩ : ∃ z, z = As i := ⟨_, rfl⟩
      obtain ⟨c', hc'⟩ : ∃ z, z = cs i := ⟨_, rfl⟩
      rw [← hk'] at q0
      rw [← ha'] at q1
      rw [← hA', ← hc', ← hnc] at q2
      rw [← hA'] at hkid
      subst hA
      have HPQ := Lib.hid (And.intro hsm (And.intro hst (And.intro hsl (And.intro hnt (And.intro hRl (And.intro hall' hkid))))))
      have HK := Lib.hid (And.intro hk' (And.intro ha' hnc))
      clear hiL hcc hkk hkid hsm hst hsl hnt hRl hall' ht hnc hk' ha' hA' hc' hg
      obtain ⟨i2, hi2⟩ : ∃ z : Int, z = (i : Int) + 1 := ⟨_, rfl⟩
      have hwi : IntKind.i64.wrap ((i : Int) + 1) = i2 := by rw [hi2]; exact IntWalk.i64_in _ (by omega)
      have HI2 := Lib.hid hi2
      have HIL := Lib.hid hil
      have hbn : B ≤ wr.heap.size := Nat.le_trans HP.out.2.2 HS.out.below.size
      have HBN := Lib.hid hbn
      have HX2 := Lib.hid (HS.out.alloc HP.out.2.2 (.cells #[.int .i64 k', .int .i64 a', .slice A' nc c'] 53))
      have HBX := Lib.hid (bw_new (Below.refl wr.heap.size wr) (.cells #[.int .i64 k', .int .i64 a', .slice A' nc c'] 53))
      have HKB := Lib.hid (show Blk (wr.alloc (.cells #[.int .i64 k', .int .i64 a', .slice A' nc c'] 53)) wr.heap.size 53 (fcL k' a' A' nc c') from heap_alloc_new wr _)
      clear hi2 hil hi hbn
      by_cases h0 : 0 < i
      ·have hg0 : (i : Int) > 0 := by omega
       have hw := wbyte_any B b (s ++ p ++ (txtR (ls.take i)).drop 1) 32 (wr.alloc (.cells #[.int .i64 k', .int .i64 a', .slice A' nc c'] 53)) HX2.out.bu (by have := HP.out.2.1; have h1 := HPQ.out.2.1; have h2 := HPQ.out.2.2.1; have h3 := HPQ.out.2.2.2.2.1; have h4 := HPL.out; simp only [List.length_append, List.length_drop]; omega) (by have := HBN.out; have := HBX.out.size; omega)
       have HW2 := Lib.hid (show Calls Tryz.prog 99 #[.pointer (some ⟨b, 0, none⟩), .int .u8 32] (wr.alloc (.cells #[.int .i64 k', .int .i64 a', .slice A' nc c'] 53)) _ from hw)
       clear hw
       go_wp2_with fail
       refine HW2.out.mono ?_
       rintro e W3 ⟨rfl, hst3⟩
       have HS3 := Lib.hid (HX2.out.trans hst3)
       have HB3 := Lib.hid ((HBX.out.mono HBN.out).trans hst3.below)
       have HK3 := Lib.hid (hst3.blk HKB.out (by have := HS.out.bu.lt; omega) (by decide))
       have q4 : W3.cell? ⟨wr.heap.size, 0, none⟩ = some (.int .i64 k') := HK3.out.cell 0
       have q5 : W3.cell? ⟨wr.heap.size, 1, none⟩ = some (.int .i64 a') := HK3.out.cell 1
       have q6 : W3.cell? ⟨wr.heap.size, 2, none⟩ = some (.slice A' nc c') := HK3.out.cell 2
       clear hst3
       have hcall := HIH.out t A' c' (s ++ p ++ (txtR (ls.take i)).drop 1 ++ [32]) (W3) (by have := HP.out.1; have := HPQ.out.1; omega) HPQ.out.2.2.2.2.2.1 (HPQ.out.2.2.2.2.2.2.lowK HB3.out) (by have := HP.out.2.2; have := HS.out.below.size; have := (HB3.out).size; omega) (HS3.out.bu) (by have := HP.out.2.1; have h1 := HPQ.out.2.1; have h2 := HPQ.out.2.2.1; have h3 := HPQ.out.2.2.2.2.1; have h4 := HPL.out; simp only [List.length_append, List.length_drop, List.length_singleton]; omega)
       rw [← HK.out.1, ← HK.out.2.1, ← HK.out.2.2] at hcall
       have HCALL := Lib.hid (show Calls Tryz.prog 81 #[.agg #[.int .i64 k', .int .i64 a', .slice A' nc c'], .pointer (some ⟨b, 0, none⟩)] (W3) _ from hcall)
       clear hcall
       go_wp2_with fail
       refine HCALL.out.mono ?_
       rintro e W4 ⟨rfl, hst4⟩
       have HS4 := Lib.hid (HS3.out.trans hst4)
       clear hst4 q0 q1 q2 q4 q5 q6
       go_wp2_with fail
       go_roundw
       case rel => exact ⟨i + 1, by have := HIL.out; omega, by rw [HI2.out]; rfl, by rw [HPQ.out.2.2.2.1, if_pos h0]; simpa using HS4.out⟩
       case measure => have := HIL.out; have := HI2.out; simp only [intOf]; omega
      ·obtain rfl : i = 0 := by omega
       have hg0 : ¬ ((0 : Nat) : Int) > 0 := by omega
       rw [Nat.zero_mul, Nat.add_zero] at q0 q1 q2
       have hcall := HIH.out t A' c' (s ++ p ++ (txtR (ls.take 0)).drop 1) (wr.alloc (.cells #[.int .i64 k', .int .i64 a', .slice A' nc c'] 53)) (by have := HP.out.1; have := HPQ.out.1; omega) HPQ.out.2.2.2.2.2.1 (HPQ.out.2.2.2.2.2.2.lowK (HBX.out.mono HBN.out)) (by have := HP.out.2.2; have := HS.out.below.size; have := ((HBX.out.mono HBN.out)).size; omega) (HX2.out.bu) (by have := HP.out.2.1; have h1 := HPQ.out.2.1; have h2 := HPQ.out.2.2.1; have h3 := HPQ.out.2.2.2.2.1; have h4 := HPL.out; simp only [List.length_append, List.length_drop]; omega)
       rw [← HK.out.1, ← HK.out.2.1, ← HK.out.2.2] at hcall
       have HCALL := Lib.hid (show Calls Tryz.prog 81 #[.agg #[.int .i64 k', .int .i64 a', .slice A' nc c'], .pointer (some ⟨b, 0, none⟩)] (wr.alloc (.cells #[.int .i64 k', .int .i64 a', .slice A' nc c'] 53)) _ from hcall)
       clear hcall
       go_wp2_with fail
       refine HCALL.out.mono ?_
       rintro e W4 ⟨rfl, hst4⟩
       have HS4 := Lib.hid (HX2.out.trans hst4)
       clear hst4 q0 q1 q2
       go_wp2_with fail
       go_roundw
       case rel => exact ⟨0 + 1, by have := HIL.out; omega, rfl, by rw [HPQ.out.2.2.2.1, if_neg h0]; simpa using HS4.out⟩
       case measure => have := HIL.out; simp only [intOf]; omega
     ·obtain rfl : i = n := by omega
      have hkn : ¬ (i : Int) < (i : Int) := by omega
      have HT := Lib.hid (show txtR (ls.take i) = txtR ls by rw [List.take_of_length_le (by rw [← HN.out]; exact Nat.le_refl _)])
      have hRl := txtR_len ls HKID.out
      have hw := wbyte_any B b (s ++ p ++ (txtR (ls.take i)).drop 1) 41 wr HS.out.bu (by have := HP.out.2.1; have h4 := HPL.out; rw [HT.out]; simp only [List.length_append, List.length_drop]; omega) (by have := HP.out.2.2; have := HS.out.below.size; omega)
      have HW2 := Lib.hid (show Calls Tryz.prog 99 #[.pointer (some ⟨b, 0, none⟩), .int .u8 41] wr _ from hw)
      clear hil hi hw hRl
      go_wp2_with fail
      refine HW2.out.mono ?_
      rintro e W3 ⟨rfl, hst3⟩
      have HS3 := Lib.hid (HS.out.trans hst3)
      clear hst3
      go_wp2_with fail
      go_end0
      exact ⟨rfl, by rw [HTX.out, ← HT.out]; simpa using HS3.out⟩
   ·obtain ⟨p, hp⟩ : ∃ p : List UInt8, p = [124, 40] := ⟨_, rfl⟩
    have HPL := Lib.hid (show p.length = 2 by rw [hp]; rfl)
    have HTX := Lib.hid (show (Fm.nd 4 a ls).txt = p ++ (txtR ls).drop 1 ++ [41] from by rw [HX.out, hp]; simp)
    have hw := wstr_any B b s [124, 40] _ ((HBU.out.alloc (.cells #[.int .i64 4, .int .i64 a, .slice A n c] 53)).alloc (.cells #[.string ⟨#[38, 40]⟩, .string ⟨#[124, 40]⟩] 9)) (by have := HP.out.2.1; simp only [List.length_cons, List.length_nil]; omega) (by have := HP.out.2.2; simp; omega)
    have HW := Lib.hid (show Calls Tryz.prog 97 #[.pointer (some ⟨b, 0, none⟩), .string ⟨#[124, 40]⟩] ((W.alloc (.cells #[.int .i64 4, .int .i64 a, .slice A n c] 53)).alloc (.cells #[.string ⟨#[38, 40]⟩, .string ⟨#[124, 40]⟩] 9)) (StPost (.tuple #[.int .i64 2, .nilIface]) B b (s ++ p) ((W.alloc (.cells #[.int .i64 4, .int .i64 a, .slice A n c] 53)).alloc (.cells #[.string ⟨#[38, 40]⟩, .string ⟨#[124, 40]⟩] 9))) from by rw [hp]; exact hw)
    have HB2 := Lib.hid (HBK.out.alloc (.cells #[.string ⟨#[38, 40]⟩, .string ⟨#[124, 40]⟩] 9))
    clear hw hp
    go_wp2_with fail
    refine HW.out.mono ?_
    rintro e W1 ⟨rfl, hst⟩
    have HF := Lib.hid (hst.blk HB2.out (by have := HBU.out.lt; omega) (by decide))
    have HS1 := Lib.hid ((hst.of_alloc (by have := HP.out.2.2; simp; omega)).of_alloc HP.out.2.2)
    have q3 : W1.cell? ⟨W.heap.size, 2, none⟩ = some (.slice A n c) := HF.out.cell 2
    clear hst
    go_wp2_with fail
    go_loopw [19] (fun x wr => ∃ i : Nat, i ≤ n ∧ x = .int .i64 (i : Int) ∧ WrSt B b (s ++ p ++ (txtR (ls.take i)).drop 1) W wr) (fun x _ => n - (intOf x).toNat)
    case atStart => exact ⟨0, Nat.zero_le _, rfl, by rw [show ls.take 0 = [] from rfl, txtR]; simpa using HS1.out⟩
    case round =>
     obtain ⟨i, hi, rfl, hst⟩ := hrel
     have HS := Lib.hid hst
     clear hst q3
     by_cases hil : i < n
     ·have hilz : (i : Int) < (n : Int) := by omega
      obtain ⟨g, off, As, cs, hA, hg, hcc, hkk⟩ := (HA.out.lowK HS.out.below).at_ (by rw [← HN.out]; omega)
      have hiL : i < ls.length := by rw [← HN.out]; omega
      obtain ⟨q0, q1, q2, -⟩ := hcc i hiL
      have hkid := hkk i hiL
      have hsm := size_mem (List.getElem_mem hiL)
      have hst := sizeL_take hiL
      have hsl := sizeL_le (l := ls) (i + 1)
      have hnt := txtR_take hiL
      have hRl := txtR_len (ls.take i) (fun s hs => HKID.out s (List.mem_of_mem_take hs))
      have hall' := HKID.out _ (List.getElem_mem hiL)
      obtain ⟨t, ht⟩ : ∃ t, t = ls[i] := ⟨_, rfl⟩
      rw [← ht] at q0 q1 q2 hkid hsm hst hnt hall'
      obtain ⟨nc, hnc⟩ : ∃ n, n = t.l.length := ⟨_, rfl⟩
      obtain ⟨k', hk'⟩ : ∃ z, z = t.k := ⟨_, rfl⟩
      obtain ⟨a', ha'⟩ : ∃ z, z = t.a := ⟨_, rfl⟩
      obtain ⟨A', hA'⟩ : ∃ z, z = As i := ⟨_, rfl⟩
      obtain ⟨c', hc'⟩ : ∃ z, z = cs i := ⟨_, rfl⟩
      rw [← hk'] at q0
      rw [← ha'] at q1
      rw [← hA', ← hc', ← hnc] at q2
      rw [← hA'] at hkid
      subst hA
      have HPQ := Lib.hid (And.intro hsm (And.intro hst (And.intro hsl (And.intro hnt (And.intro hRl (And.intro hall' hkid))))))
      have HK := Lib.hid (And.intro hk' (And.intro ha' hnc))
      clear hiL hcc hkk hkid hsm hst hsl hnt hRl hall' ht hnc hk' ha' hA' hc' hg
      obtain ⟨i2, hi2⟩ : ∃ z : Int, z = (i : Int) + 1 := ⟨_, rfl⟩
      have hwi : IntKind.i64.wrap ((i : Int) + 1) = i2 := by rw [hi2]; exact IntWalk.i64_in _ (by omega)
      have HI2 := Lib.hid hi2
      have HIL := Lib.hid hil
      have hbn : B ≤ wr.heap.size := Nat.le_trans HP.out.2.2 HS.out.below.size
      have HBN := Lib.hid hbn
      have HX2 := Lib.hid (HS.out.alloc HP.out.2.2 (.cells #[.int .i64 k', .int .i64 a', .slice A' nc c'] 53))
      have HBX := Lib.hid (bw_new (Below.refl wr.heap.size wr) (.cells #[.int .i64 k', .int .i64 a', .slice A' nc c'] 53))
      have HKB := Lib.hid (show Blk (wr.alloc (.cells #[.int .i64 k', .int .i64 a', .slice A' nc c'] 53)) wr.heap.size 53 (fcL k' a' A' nc c') from heap_alloc_new wr _)
      clear hi2 hil hi hbn
      by_cases h0 : 0 < i
      ·have hg0 : (i : Int) > 0 := by omega
       have hw := wbyte_any B b (s ++ p ++ (txtR (ls.take i)).drop 1) 32 (wr.alloc (.cells #[.int .i64 k', .int .i64 a', .slice A' nc c'] 53)) HX2.out.bu (by have := HP.out.2.1; have h1 := HPQ.out.2.1; have h2 := HPQ.out.2.2.1; have h3 := HPQ.out.2.2.2.2.1; have h4 := HPL.out; simp only [List.length_append, List.length_drop]; omega) (by have := HBN.out; have := HBX.out.size; omega)
       have HW2 := Lib.hid (show Calls Tryz.prog 99 #[.pointer (some ⟨b, 0, none⟩), .int .u8 32] (wr.alloc (.cells #[.int .i64 k', .int .i64 a', .slice A' nc c'] 53)) _ from hw)
       clear hw
       go_wp2_with fail
       refine HW2.out.mono ?_
       rintro e W3 ⟨rfl, hst3⟩
       have HS3 := Lib.hid (HX2.out.trans hst3)
       have HB3 := Lib.hid ((HBX.out.mono HBN.out).trans hst3.below)
       have HK3 := Lib.hid (hst3.blk HKB.out (by have := HS.out.bu.lt; omega) (by decide))
       have q4 : W3.cell? ⟨wr.heap.size, 0, none⟩ = some (.int .i64 k') := HK3.out.cell 0
       have q5 : W3.cell? ⟨wr.heap.size, 1, none⟩ = some (.int .i64 a') := HK3.out.cell 1
       have q6 : W3.cell? ⟨wr.heap.size, 2, none⟩ = some (.slice A' nc c') := HK3.out.cell 2
       clear hst3
       have hcall := HIH.out t A' c' (s ++ p ++ (txtR (ls.take i)).drop 1 ++ [32]) (W3) (by have := HP.out.1; have := HPQ.out.1; omega) HPQ.out.2.2.2.2.2.1 (HPQ.out.2.2.2.2.2.2.lowK HB3.out) (by have := HP.out.2.2; have := HS.out.below.size; have := (HB3.out).size; omega) (HS3.out.bu) (by have := HP.out.2.1; have h1 := HPQ.out.2.1; have h2 := HPQ.out.2.2.1; have h3 := HPQ.out.2.2.2.2.1; have h4 := HPL.out; simp only [List.length_append, List.length_drop, List.length_singleton]; omega)
       rw [← HK.out.1, ← HK.out.2.1, ← HK.out.2.2] at hcall
       have HCALL := Lib.hid (show Calls Tryz.prog 81 #[.agg #[.int .i64 k', .int .i64 a', .slice A' nc c'], .pointer (some ⟨b, 0, none⟩)] (W3) _ from hcall)
       clear hcall
       go_wp2_with fail
       refine HCALL.out.mono ?_
       rintro e W4 ⟨rfl, hst4⟩
       have HS4 := Lib.hid (HS3.out.trans hst4)
       clear hst4 q0 q1 q2 q4 q5 q6
       go_wp2_with fail
       go_roundw
       case rel => exact ⟨i + 1, by have := HIL.out; omega, by rw [HI2.out]; rfl, by rw [HPQ.out.2.2.2.1, if_pos h0]; simpa using HS4.out⟩
       case measure => have := HIL.out; have := HI2.out; simp only [intOf]; omega
      ·obtain rfl : i = 0 := by omega
       have hg0 : ¬ ((0 : Nat) : Int) > 0 := by omega
       rw [Nat.zero_mul, Nat.add_zero] at q0 q1 q2
       have hcall := HIH.out t A' c' (s ++ p ++ (txtR (ls.take 0)).drop 1) (wr.alloc (.cells #[.int .i64 k', .int .i64 a', .slice A' nc c'] 53)) (by have := HP.out.1; have := HPQ.out.1; omega) HPQ.out.2.2.2.2.2.1 (HPQ.out.2.2.2.2.2.2.lowK (HBX.out.mono HBN.out)) (by have := HP.out.2.2; have := HS.out.below.size; have := ((HBX.out.mono HBN.out)).size; omega) (HX2.out.bu) (by have := HP.out.2.1; have h1 := HPQ.out.2.1; have h2 := HPQ.out.2.2.1; have h3 := HPQ.out.2.2.2.2.1; have h4 := HPL.out; simp only [List.length_append, List.length_drop]; omega)
       rw [← HK.out.1, ← HK.out.2.1, ← HK.out.2.2] at hcall
       have HCALL := Lib.hid (show Calls Tryz.prog 81 #[.agg #[.int .i64 k', .int .i64 a', .slice A' nc c'], .pointer (some ⟨b, 0, none⟩)] (wr.alloc (.cells #[.int .i64 k', .int .i64 a', .slice A' nc c'] 53)) _ from hcall)
       clear hcall
       go_wp2_with fail
       refine HCALL.out.mono ?_
       rintro e W4 ⟨rfl, hst4⟩
       have HS4 := Lib.hid (HX2.out.trans hst4)
       clear hst4 q0 q1 q2
       go_wp2_with fail
       go_roundw
       case rel => exact ⟨0 + 1, by have := HIL.out; omega, rfl, by rw [HPQ.out.2.2.2.1, if_neg h0]; simpa using HS4.out⟩
       case measure => have := HIL.out; simp only [intOf]; omega
     ·obtain rfl : i = n := by omega
      have hkn : ¬ (i : Int) < (i : Int) := by omega
      have HT := Lib.hid (show txtR (ls.take i) = txtR ls by rw [List.take_of_length_le (by rw [← HN.out]; exact Nat.le_refl _)])
      have hRl := txtR_len ls HKID.out
      have hw := wbyte_any B b (s ++ p ++ (txtR (ls.take i)).drop 1) 41 wr HS.out.bu (by have := HP.out.2.1; have h4 := HPL.out; rw [HT.out]; simp only [List.length_append, List.length_drop]; omega) (by have := HP.out.2.2; have := HS.out.below.size; omega)
      have HW2 := Lib.hid (show Calls Tryz.prog 99 #[.pointer (some ⟨b, 0, none⟩), .int .u8 41] wr _ from hw)
      clear hil hi hw hRl
      go_wp2_with fail
      refine HW2.out.mono ?_
      rintro e W3 ⟨rfl, hst3⟩
      have HS3 := Lib.hid (HS.out.trans hst3)
      clear hst3
      go_wp2_with fail
      go_end0
      exact ⟨rfl, by rw [HTX.out, ← HT.out]; simpa using HS3.out⟩
--RAF
end Go.Proofs.YtaegjpancbmppaaGreatDoor
namespace Go.Proofs.YtaegjpancbmppaaGreatDoor
open Go.RowKit
theorem bu_new (W : World) (B : Nat) (hB : B ≤ W.heap.size) : BuT B W.heap.size [] (W.alloc (.cells #[.pointer none, .slice none 0 0] 132)) :=
 .inl ⟨hB, .slice none 0 0, heap_alloc_new W _, World.ownsRow_nil _ _ _ _, by simp [Value.ownBlock]⟩
def TxPost (s : List UInt8) (W : World) (e : Ending) (W' : World) : Prop := e = .returned (.string ⟨s.toArray⟩) ∧ Below W.heap.size W W'
set_option maxRecDepth 1000000 in
set_option maxHeartbeats 4000000 in
theorem itext_any (t : Fm) (A : Option Addr) (c : Nat) (W : World) (hs : t.size ≤ 10000) (hall : t.all wrOK) (hA : FsR W (lowB W.heap.size) A t.l) :
  Calls Tryz.prog 64 #[.agg (fcL t.k t.a A t.l.length c).toArray] W (TxPost t.txt W) := by
 obtain ⟨nl, hnl⟩ : ∃ n, n = t.l.length := ⟨_, rfl⟩
 obtain ⟨k, hk⟩ : ∃ n, n = t.k := ⟨_, rfl⟩
 obtain ⟨a, ha⟩ : ∃ n, n = t.a := ⟨_, rfl⟩
 have h1 := bw_new (Below.refl W.heap.size W) (.cells #[.int .i64 k, .int .i64 a, .slice A nl c] 53)
 have h2 := bw_new h1 (.cells #[.pointer none, .slice none 0 0] 132)
 have hb := bu_new (W.alloc (.cells #[.int .i64 k, .int .i64 a, .slice A nl c] 53)) W.heap.size h1.size
 rw [show (W.alloc (.cells #[.int .i64 k, .int .i64 a, .slice A nl c] 53)).heap.size = W.heap.size + 1 by simp] at hb
 have hw := iwrite_any W.heap.size (W.heap.size + 1) 10000 t A c [] _ hs hall (hA.lowK h2) h2.size hb (by simp only [List.length_nil]; omega)
 rw [← hk, ← ha, ← hnl] at hw ⊢
 have HW := Lib.hid (show Calls Tryz.prog 81 #[.agg #[.int .i64 k, .int .i64 a, .slice A nl c], .pointer (some ⟨W.heap.size + 1, 0, none⟩)] ((W.alloc (.cells #[.int .i64 k, .int .i64 a, .slice A nl c] 53)).alloc (.cells #[.pointer none, .slice none 0 0] 132)) _ from hw)
 have H2 := Lib.hid h2
 clear hs hall hA hnl hk ha h1 h2 hb hw
 show Calls Tryz.prog 64 #[.agg #[.int .i64 k, .int .i64 a, .slice A nl c]] W _
 go_enter Tryz.func64, Tryz.ntmps64
 go_wp2_with fail
 refine HW.out.mono ?_
 rintro e W1 ⟨rfl, hst⟩
 have HS := Lib.hid hst
 have HB := Lib.hid (H2.out.trans hst.below)
 clear hst
 go_wp2_with fail
 refine (Tryz.Builder_String_any W.heap.size (W.heap.size + 1) ([] ++ t.txt) W1 HS.out.bu HB.out.size).mono ?_
 rintro e W2 ⟨rfl, hb2⟩
 have HB2 := Lib.hid (HB.out.trans hb2)
 clear hb2
 go_wp2_with fail
 go_ret
 exact ⟨rfl, HB2.out⟩
def TextPost (s : List UInt8) (W : World) (e : Ending) (W' : World) : Prop := e = .returned (.tuple #[.string ⟨s.toArray⟩, .int .i64 0]) ∧ Below W.heap.size W W'
set_option maxRecDepth 1000000 in
set_option maxHeartbeats 4000000 in
theorem iText_any (t : Fm) (A : Option Addr) (c : Nat) (W : World) (hs : t.size ≤ 10000) (hd : t.depth ≤ 100) (hall : t.all nodeOK) (hw : t.all wrOK) (hA : FsR W (lowB W.heap.size) A t.l) :
  Calls Tryz.prog 40 #[.agg (fcL t.k t.a A t.l.length c).toArray] W (TextPost t.txt W) := by
 have hlen := Fm.txt_len t hw
 obtain ⟨nl, hnl⟩ : ∃ n, n = t.l.length := ⟨_, rfl⟩
 obtain ⟨k, hk⟩ : ∃ n, n = t.k := ⟨_, rfl⟩
 obtain ⟨a, ha⟩ : ∃ n, n = t.a := ⟨_, rfl⟩
 have h1 := bw_new (Below.refl W.heap.size W) (.cells #[.int .i64 k, .int .i64 a, .slice A nl c] 53)
 have hc := fcheck_any t A c (W.alloc (.cells #[.int .i64 k, .int .i64 a, .slice A nl c] 53)) hs hd hall (hA.step h1)
 rw [← hk, ← ha, ← hnl] at hc ⊢
 have HC := Lib.hid (show Calls Tryz.prog 63 #[.agg #[.int .i64 k, .int .i64 a, .slice A nl c]] (W.alloc (.cells #[.int .i64 k, .int .i64 a, .slice A nl c] 53)) _ from hc)
 have H1 := Lib.hid h1
 have HBK := Lib.hid (show Blk (W.alloc (.cells #[.int .i64 k, .int .i64 a, .slice A nl c] 53)) W.heap.size 53 (fcL k a A nl c) from heap_alloc_new W _)
 have HP := Lib.hid (And.intro hs (And.intro hw (And.intro hA (And.intro hk (And.intro ha (And.intro hnl hlen))))))
 clear hs hd hall hw hA hlen hk ha hnl h1 hc
 show Calls Tryz.prog 40 #[.agg #[.int .i64 k, .int .i64 a, .slice A nl c]] W _
 go_enter Tryz.func40, Tryz.ntmps40
 go_wp2_with fail
 refine HC.out.mono ?_
 rintro e W1 ⟨rfl, hb1⟩
 have HF := Lib.hid ((hb1.block _ HBK.out.lt).trans HBK.out)
 have HB := Lib.hid (H1.out.trans (hb1.mono H1.out.size))
 have q0 : W1.cell? ⟨W.heap.size, 0, none⟩ = some (.int .i64 k) := Blk.cell HF.out 0
 have q1 : W1.cell? ⟨W.heap.size, 1, none⟩ = some (.int .i64 a) := Blk.cell HF.out 1
 have q2 : W1.cell? ⟨W.heap.size, 2, none⟩ = some (.slice A nl c) := Blk.cell HF.out 2
 have ht := itext_any t A c W1 HP.out.1 HP.out.2.1 (HP.out.2.2.1.step HB.out)
 rw [← HP.out.2.2.2.1, ← HP.out.2.2.2.2.1, ← HP.out.2.2.2.2.2.1] at ht
 have HT := Lib.hid (show Calls Tryz.prog 64 #[.agg #[.int .i64 k, .int .i64 a, .slice A nl c]] W1 _ from ht)
 clear hb1 ht
 go_wp2_with fail
 refine HT.out.mono ?_
 rintro e W2 ⟨rfl, hb2⟩
 have HB2 := Lib.hid (HB.out.trans (hb2.mono HB.out.size))
 have hsz : ¬ (65536 : Int) < ((t.txt.length : Nat) : Int) := by have := HP.out.1; have := HP.out.2.2.2.2.2.2; omega
 clear hb2
 go_wp2_with fail
 go_ret2
 exact ⟨rfl, HB2.out⟩
end Go.Proofs.YtaegjpancbmppaaGreatDoor
