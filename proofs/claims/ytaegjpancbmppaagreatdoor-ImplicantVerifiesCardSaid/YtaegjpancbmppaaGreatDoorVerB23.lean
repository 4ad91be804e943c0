/- Part 23 of 29 of the proof of the law: contracts of the functions that it reaches, and plain facts. Conditions: those that each contract names. -/
import Derived.Test.YtaegjpancbmppaaGreatDoorVerB22
set_option linter.unusedVariables false
set_option linter.unusedSimpArgs false
namespace Go.Proofs.YtaegjpancbmppaaGreatDoor
open Go.RowKit Go.Shelf
attribute [local go_sem] Oper.semAt_some
theorem blk_own {β : Type} (B : Nat) (t : TypeId) (cs : List Value) : Own (fun (_ : β) W => Blk W B t cs) := fun s X Y row hs hg hrow =>
 (hg.block B hs.lt (fun e => by obtain ⟨o, ho, hc⟩ := hrow B e.symm; rw [show X.heap[B]? = _ from hs] at ho; cases ho; cases hc)).trans hs
theorem kf_below {B : Nat} {W W' : World} (h : Below W.heap.size W W') : KeepsFrom B W W' := ⟨h.size, fun k o _ hk _ => (h.block k (Array.getElem?_eq_some_iff.1 hk).1).trans hk⟩
theorem kpF_putObj {n₀ : Nat} {w : World} (hn : n₀ ≤ w.heap.size) (W : World) (l : Nat) (o o' : Obj) (hl : w.heap.size ≤ l) (h : W.heap[l]? = some o) (hc : o.isCells = false) (hw : o.isWalk = false) : KpF n₀ W (W.putObj l o') :=
 ⟨belowK_b hn W l o o' hl h hc hw, fun b cs t fr hb _ => (grownBy_putObj' W l o').block b (Array.getElem?_eq_some_iff.1 hb).1 (fun e => by cases e; rw [hb] at h; cases h; cases hc)⟩
def ckX (k a : Int) (A : Option Addr) (n c : Nat) (W : World) : World := ((W.alloc (.cells #[.int .i64 k, .int .i64 a, .slice A n c] 53)).alloc (.cells #[.int .i64 0] 29)).alloc (.cells #[.int .i64 0, .int .i64 0] 126)
theorem ckX_facts (k a : Int) (A : Option Addr) (n c : Nat) (W : World) : Below W.heap.size W (ckX k a A n c W) ∧ (ckX k a A n c W).heap.size = W.heap.size + 3 ∧ Blk (ckX k a A n c W) W.heap.size 53 (fcL k a A n c) ∧
  Blk (ckX k a A n c W) (W.heap.size + 1) 29 [.int .i64 0] ∧ MsAt (ckX k a A n c W) (W.heap.size + 2) 0 := by
 obtain ⟨X1, hX1⟩ : ∃ X, X = W.alloc (.cells (fcL k a A n c).toArray 53) := ⟨_, rfl⟩
 obtain ⟨X2, hX2⟩ : ∃ X, X = X1.alloc (.cells #[.int .i64 0] 29) := ⟨_, rfl⟩
 obtain ⟨X3, hX3⟩ : ∃ X, X = X2.alloc (.cells #[.int .i64 0, .int .i64 0] 126) := ⟨_, rfl⟩
 have e : ckX k a A n c W = X3 := by rw [hX3, hX2, hX1]; rfl
 have s1 : X1.heap.size = W.heap.size + 1 := by rw [hX1]; simp
 have s2 : X2.heap.size = W.heap.size + 2 := by rw [hX2]; simp [s1]
 have s3 : X3.heap.size = W.heap.size + 3 := by rw [hX3]; simp [s2]
 have b1 : Below W.heap.size W X1 := by rw [hX1]; exact bw_new (Below.refl _ _) _
 have b2 : Below X1.heap.size X1 X2 := by rw [hX2]; exact bw_new (Below.refl _ _) _
 have b3 : Below X2.heap.size X2 X3 := by rw [hX3]; exact bw_new (Below.refl _ _) _
 have l1 : Blk X1 W.heap.size 53 (fcL k a A n c) := by rw [hX1]; exact heap_alloc_new W _
 have l2 : Blk X2 X1.heap.size 29 [.int .i64 0] := by rw [hX2]; exact heap_alloc_new X1 _
 have l3 : Blk X3 X2.heap.size 126 [.int .i64 0, .int .i64 0] := by rw [hX3]; exact heap_alloc_new X2 _
 rw [e]
 refine ⟨(b1.trans (b2.mono (by omega))).trans (b3.mono (by omega)), s3, ?_, ?_, ?_⟩
 ·exact (b3.block _ (by omega)).trans ((b2.block _ (by omega)).trans l1)
 ·rw [← s1]; exact (b3.block _ (by omega)).trans l2
 ·rw [← s2]; exact ⟨0, l3⟩
set_option maxRecDepth 1000000 in
set_option maxHeartbeats 4000000 in
theorem fcheck_in (t : Fm) (A : Option Addr) (c : Nat) (W : World) (hs : t.size ≤ 10000) (hd : t.depth ≤ 100) (hall : t.all nodeOK) (hA : FsR W (lowB W.heap.size) A t.l) :
  CallsIn Fence.wide 8 Tryz.prog 63 #[.agg (fcL t.k t.a A t.l.length c).toArray] W (SgPost 0 W) := by
 have HS := Lib.hid (And.intro hs (And.intro hd (And.intro hall hA)))
 obtain ⟨nl, hnl⟩ : ∃ n, n = t.l.length := ⟨_, rfl⟩
 obtain ⟨k, hk⟩ : ∃ n, n = t.k := ⟨_, rfl⟩
 obtain ⟨a, ha⟩ : ∃ n, n = t.a := ⟨_, rfl⟩
 rw [← hk, ← ha, ← hnl]
 have HE := Lib.hid (And.intro hk (And.intro ha hnl))
 have hX := ckX_facts k a A nl c W
 obtain ⟨X, hXe⟩ : ∃ X, X = ckX k a A nl c W := ⟨_, rfl⟩
 rw [← hXe] at hX
 have HX := Lib.hid hX
 have hm := imeasure_any (W.heap.size + 2) 10000 t A c 0 1 X hs ((hA.lowK hX.1).mono fun b hb => ⟨by rw [hX.2.1]; show b < _; have : b < W.heap.size := hb; omega, by have : b < W.heap.size := hb; omega⟩) hX.2.2.2.2 (by omega) (by omega)
 rw [← hk, ← ha, ← hnl] at hm
 have HM := Lib.hid (show Calls Tryz.prog 78 #[.agg #[.int .i64 k, .int .i64 a, .slice A nl c], .int .i64 1, .pointer (some ⟨W.heap.size + 1 + 1, 0, none⟩)] (((W.alloc (.cells #[.int .i64 k, .int .i64 a, .slice A nl c] 53)).alloc (.cells #[.int .i64 0] 29)).alloc (.cells #[.int .i64 0, .int .i64 0] 126)) (MsPost (W.heap.size + 2) (0 + t.size) X) from by subst hXe; exact hm)
 have HXE := Lib.hid hXe
 clear hs hd hall hA hk ha hnl hX hm hXe
 show CallsIn Fence.wide 8 Tryz.prog 63 #[.agg #[.int .i64 k, .int .i64 a, .slice A nl c]] W _
 refine callsIn_of_wp_marks Tryz.func63 rfl trivial ?_ rfl
 simp only [Tryz.ntmps63, List.size_toArray, List.length_cons, List.length_nil, Nat.reduceAdd, Nat.reduceSub, Array.replicate_succ, Array.replicate_zero, List.push_toArray, List.append_toArray, List.nil_append, List.cons_append]
 gi_wp2_with fail
 refine ⟨trivial, ?_⟩
 refine (callsIn_wide.2 HM.out).mono ?_
 rintro e W1 ⟨rfl, hch, -⟩
 have HF1 := Lib.hid (show Blk W1 W.heap.size 53 (fcL k a A nl c) from (hch.block _ (by rw [HX.out.2.1]; omega) (by omega)).trans HX.out.2.2.1)
 have HR1 := Lib.hid (show Blk W1 (W.heap.size + 1) 29 [.int .i64 0] from (hch.block _ (by rw [HX.out.2.1]; omega) (by omega)).trans HX.out.2.2.2.1)
 have HB1 := Lib.hid (HX.out.1.trans (hch.below (by omega) (by rw [HX.out.2.1]; omega)))
 have HN := Lib.hid (inodes_any k a A nl c W1)
 have q0 := HF1.out.cell 0
 have q1 := HF1.out.cell 1
 have q2 := HF1.out.cell 2
 clear hch
 gi_wp2_with fail
 refine ⟨trivial, ?_⟩
 refine (callsIn_wide.2 HN.out).mono ?_
 rintro e W2 ⟨tb, fb, rfl, hb, hT, hF⟩
 have HB2 := Lib.hid hb
 have HR2 := Lib.hid ((hb.block _ HR1.out.lt).trans HR1.out)
 have HT := Lib.hid hT
 have HF := Lib.hid hF
 clear hb hT hF q0 q1 q2
 gi_wp2_with fail
 have hall : t.all nodeOK := HS.out.2.2.1
 have hFs : FsR W2 (lowB W.heap.size) A t.l := HS.out.2.2.2.lowK (HB1.out.trans (HB2.out.mono HB1.out.size))
 have hn2 : W.heap.size ≤ W2.heap.size := Nat.le_trans HB1.out.size HB2.out.size
 refine wpIn_rangeFunc_ownH rfl (by omega) (gf := 96) (lb := #[.pointer (some ⟨tb, 0, none⟩), .pointer (some ⟨fb, 0, none⟩)]) rfl trivial (enters_of Tryz.func96 (by kernel_rfl) rfl)
  (nodes_stops nodeOK 7 (by omega) W.heap.size tb fb t A c W2 HS.out.1 hall hFs hn2 HT.out (by have := HF.out; rw [HE.out.1, HE.out.2.1, HE.out.2.2] at this; exact this)) KpF.trans (kpF_putObj hn2) (Below.refl _ _) (fun _ => rfl)
  (fun _ Wr => Below W.heap.size W Wr ∧ Blk Wr (W.heap.size + 1) 29 [.int .i64 0]) (fun _ _ _ => False)
  (OwnFrom.and (ownFrom_below (Nat.le_refl _) hn2) (Own.from (blk_own _ _ _) _)) (fun _ _ _ _ _ hs _ _ => hs)
  ⟨HB1.out.trans (HB2.out.mono HB1.out.size), HR2.out⟩
  (fun x a' Wr => ∃ b, Blk Wr b 53 (fcL x.1.k x.1.a x.1.A x.1.n x.1.c) ∧ a' = { tmps := #[.agg #[.int .i64 k, .int .i64 a, .slice A nl c], .pointer (some ⟨W.heap.size, 0, none⟩), .pointer (some ⟨W.heap.size + 1, 0, none⟩), .pointer (some ⟨b, 0, none⟩), undef, .agg #[.int .i64 k, .int .i64 a, .slice A nl c], .agg #[.int .i64 0, .int .i64 0], .pointer (some ⟨W.heap.size + 1 + 1, 0, none⟩), .bool true, .bool false, .agg #[.int .i64 k, .int .i64 a, .slice A nl c], .func (.func 96) #[] #[.pointer (some ⟨tb, 0, none⟩), .pointer (some ⟨fb, 0, none⟩)], .agg #[.int .i64 x.1.k, .int .i64 x.1.a, .slice x.1.A x.1.n x.1.c], undef, undef, undef, undef, undef], defers := [] })
  (fun x a' _ X Y row hs hg hrow => by obtain ⟨b, hb, e⟩ := hs; exact ⟨b, (Own.from (blk_own b _ _) W2.heap.size) () X Y row hb hg hrow, e⟩) ?assign ?body ?done ?stop
 case assign =>
  rintro l pre ⟨⟨xk, xa, xA, xn, xc⟩, hx⟩ Wr K hI hK
  have HI := Lib.hid hI
  have HK := Lib.hid hK
  clear hI hK
  simp only [Fz.v]
  gi_wp2_with fail
  have hbn := bw_new (Below.refl Wr.heap.size Wr) (.cells #[.int .i64 xk, .int .i64 xa, .slice xA xn xc] 53)
  have hnw : W.heap.size ≤ Wr.heap.size := HI.out.1.size
  exact HK.out _ _ (kf_below hbn) (KpF.below hbn hnw) ⟨HI.out.1.trans (hbn.mono hnw), (hbn.block _ HI.out.2.lt).trans HI.out.2⟩ ⟨Wr.heap.size, heap_alloc_new Wr _, rfl⟩
 case body =>
  rintro l pre ⟨⟨xk, xa, xA, xn, xc⟩, hx⟩ a' Wr - - hI ⟨b, hb, rfl⟩ -
  have HI := Lib.hid hI
  have HSG := Lib.hid (isingle_any xk xa xA xn xc Wr hx)
  have q0 : Wr.cell? ⟨b, 0, none⟩ = some (.int .i64 xk) := hb.cell 0
  have q1 : Wr.cell? ⟨b, 1, none⟩ = some (.int .i64 xa) := hb.cell 1
  have q2 : Wr.cell? ⟨b, 2, none⟩ = some (.slice xA xn xc) := hb.cell 2
  clear hI hb
  gi_wp2_with fail
  refine ⟨trivial, ?_⟩
  refine (CallsIn.inRound l (callsIn_wide.2 HSG.out)).mono ?_
  rintro e W3 ⟨rfl, hb3⟩
  have hnw : W.heap.size ≤ Wr.heap.size := HI.out.1.size
  have HB3 := Lib.hid hb3
  clear hb3 q0 q1 q2
  gi_wp2_with fail
  exact ⟨kf_below HB3.out, KpF.below HB3.out hnw, HI.out.1.trans (HB3.out.mono hnw), (HB3.out.block _ HI.out.2.lt).trans HI.out.2⟩
 case done =>
  rintro D ys Wr hD - ⟨hB, hR⟩ hK
  have q : Wr.cell? ⟨W.heap.size + 1, 0, none⟩ = some (.int .i64 0) := hR.cell 0
  have qf : Wr.frozen? ⟨W.heap.size + 1, 0, none⟩ = false := hR.frozen 0
  have hlt : W.heap.size + 1 < W2.heap.size := Blk.lt HR2.out
  have HR := Lib.hid hR
  have HB := Lib.hid hB
  clear hB hR
  gi_wp2_with fail
  have hset : Blk (Wr.setCell ⟨W.heap.size + 1, 0, none⟩ (.int .i64 0)) (W.heap.size + 1) 29 [.int .i64 0] := HR.out.put 0 _
  have hK' : (Wr.setCell ⟨W.heap.size + 1, 0, none⟩ (.int .i64 0)).heap[D]? = some (.deferred (some [])) := (Below.heap_setCell Wr _ _ D (by show D ≠ W.heap.size + 1; omega)).trans hK
  have q' : ((Wr.setCell ⟨W.heap.size + 1, 0, none⟩ (.int .i64 0)).putObj D (.deferred none)).cell? ⟨W.heap.size + 1, 0, none⟩ = some (.int .i64 0) := by
   have : Blk ((Wr.setCell ⟨W.heap.size + 1, 0, none⟩ (.int .i64 0)).putObj D (.deferred none)) (W.heap.size + 1) 29 [.int .i64 0] := ((grownBy_putObj' _ D _).block _ hset.lt (fun e => by cases e; omega)).trans hset
   exact this.cell 0
  refine ⟨by simp, .inl ⟨_, (Wr.setCell ⟨W.heap.size + 1, 0, none⟩ (.int .i64 0)).putObj D (.deferred none), rfl, run_takeDeferred hK', ?_⟩⟩
  have hz : Below W.heap.size W ((Wr.setCell ⟨W.heap.size + 1, 0, none⟩ (.int .i64 0)).putObj D (.deferred none)) :=
   (HB.out.setCell (by show W.heap.size ≤ W.heap.size + 1; omega) _).grown (grownBy_putObj' _ D _) (by have := HB.out.size; simpa using this) (fun k e => by cases e; omega)
  exact ⟨.int .i64 0, by simp [results, Tryz.results63, go_sem, q'], rfl, hz⟩
 case stop =>
  rintro D c pre W _ _ h _
  exact h.elim
theorem fcheck_any (t : Fm) (A : Option Addr) (c : Nat) (W : World) (hs : t.size ≤ 10000) (hd : t.depth ≤ 100) (hall : t.all nodeOK) (hA : FsR W (lowB W.heap.size) A t.l) :
  Calls Tryz.prog 63 #[.agg (fcL t.k t.a A t.l.length c).toArray] W (SgPost 0 W) := callsIn_wide.1 (fcheck_in t A c W hs hd hall hA)
end Go.Proofs.YtaegjpancbmppaaGreatDoor
namespace Go.Proofs.YtaegjpancbmppaaGreatDoor
open Go.RowKit
theorem bu_new (W : World) (B : Nat) (hB : B ≤ W.heap.size) : BuT B W.heap.size [] (W.alloc (.cells #[.pointer none, .slice none 0 0] 132)) :=
 .inl ⟨hB, .slice none 0 0, heap_alloc_new W _, World.ownsRow_nil _ _ _ _, by simp [Value.ownBlock]⟩
def TxPost (s : List UInt8) (W : World) (e : Ending) (W' : World) : Prop := e = .returned (.string ⟨s.toArray⟩) ∧ Below W.heap.size W W'
set_option maxRecDepth 1000000 in
set_option maxHeartbeats 4000000 in
theorem itext_any (t : Fm) (A : Option Addr) (c : Nat) (W : World) (hs : t.size ≤ 10000) (hall : t.all wrOK) (hA : FsR W (lowB W.heap.size) A t.l) :
  Calls Tryz.prog 64 #[.agg (fcL t.k t.a A t.l.length c).toArray] W (TxPost t.txt W) := by
 obtain ⟨nl, hnl⟩ : ∃ n, n = t.l.length := ⟨_, rfl⟩
 obtain ⟨k, hk⟩ : ∃ n, n = t.k := ⟨_, rfl⟩
 obtain ⟨a, ha⟩ : ∃ n, n = t.a := ⟨_, rfl⟩
 have h1 := bw_new (Below.refl W.heap.size W) (.cells #[.int .i64 k, .int .i64 a, .slice A nl c] 53)
 have h2 := bw_new h1 (.cells #[.pointer none, .slice none 0 0] 132)
 have hb := bu_new (W.alloc (.cells #[.int .i64 k, .int .i64 a, .slice A nl c] 53)) W.heap.size h1.size
 rw [show (W.alloc (.cells #[.int .i64 k, .int .i64 a, .slice A nl c] 53)).heap.size = W.heap.size + 1 by simp] at hb
 have hw := iwrite_any W.heap.size (W.heap.size + 1) 10000 t A c [] _ hs hall (hA.lowK h2) h2.size hb (by simp only [List.length_nil]; omega)
 rw [← hk, ← ha, ← hnl] at hw ⊢
 have HW := Lib.hid (show Calls Tryz.prog 81 #[.agg #[.int .i64 k, .int .i64 a, .slice A nl c], .pointer (some ⟨W.heap.size + 1, 0, none⟩)] ((W.alloc (.cells #[.int .i64 k, .int .i64 a, .slice A nl c] 53)).alloc (.cells #[.pointer none, .slice none 0 0] 132)) _ from hw)
 have H2 := Lib.hid h2
 clear hs hall hA hnl hk ha h1 h2 hb hw
 show Calls Tryz.prog 64 #[.agg #[.int .i64 k, .int .i64 a, .slice A nl c]] W _
 go_enter Tryz.func64, Tryz.ntmps64
 go_wp2_with fail
 refine HW.out.mono ?_
 rintro e W1 ⟨rfl, hst⟩
 have HS := Lib.hid hst
 have HB := Lib.hid (H2.out.trans hst.below)
 clear hst
 go_wp2_with fail
 refine (Tryz.Builder_String_any W.heap.size (W.heap.size + 1) ([] ++ t.txt) W1 HS.out.bu HB.out.size).mono ?_
 rintro e W2 ⟨rfl, hb2⟩
 have HB2 := Lib.hid (HB.out.trans hb2)
 clear hb2
 go_wp2_with fail
 go_ret
 exact ⟨rfl, HB2.out⟩
def TextPost (s : List UInt8) (W : World) (e : Ending) (W' : World) : Prop := e = .returned (.tuple #[.string ⟨s.toArray⟩, .int .i64 0]) ∧ Below W.heap.size W W'
set_option maxRecDepth 1000000 in
set_option maxHeartbeats 4000000 in
theorem iText_any (t : Fm) (A : Option Addr) (c : Nat) (W : World) (hs : t.size ≤ 10000) (hd : t.depth ≤ 100) (hall : t.all nodeOK) (hw : t.all wrOK) (hA : FsR W (lowB W.heap.size) A t.l) :
  Calls Tryz.prog 40 #[.agg (fcL t.k t.a A t.l.length c).toArray] W (TextPost t.txt W) := by
 have hlen := Fm.txt_len t hw
 obtain ⟨nl, hnl⟩ : ∃ n, n = t.l.length := ⟨_, rfl⟩
 obtain ⟨k, hk⟩ : ∃ n, n = t.k := ⟨_, rfl⟩
 obtain ⟨a, ha⟩ : ∃ n, n = t.a := ⟨_, rfl⟩
 have h1 := bw_new (Below.refl W.heap.size W) (.cells #[.int .i64 k, .int .i64 a, .slice A nl c] 53)
 have hc := fcheck_any t A c (W.alloc (.cells #[.int .i64 k, .int .i64 a, .slice A nl c] 53)) hs hd hall (hA.step h1)
 rw [← hk, ← ha, ← hnl] at hc ⊢
 have HC := Lib.hid (show Calls Tryz.prog 63 #[.agg #[.int .i64 k, .int .i64 a, .slice A nl c]] (W.alloc (.cells #[.int .i64 k, .int .i64 a, .slice A nl c] 53)) _ from hc)
 have H1 := Lib.hid h1
 have HBK := Lib.hid (show Blk (W.alloc (.cells #[.int .i64 k, .int .i64 a, .slice A nl c] 53)) W.heap.size 53 (fcL k a A nl c) from heap_alloc_new W _)
 have HP := Lib.hid (And.intro hs (And.intro hw (And.intro hA (And.intro hk (And.intro ha (And.intro hnl hlen))))))
 clear hs hd hall hw hA hlen hk ha hnl h1 hc
 show Calls Tryz.prog 40 #[.agg #[.int .i64 k, .int .i64 a, .slice A nl c]] W _
 go_enter Tryz.func40, Tryz.ntmps40
 go_wp2_with fail
 refine HC.out.mono ?_
 rintro e W1 ⟨rfl, hb1⟩
 have HF := Lib.hid ((hb1.block _ HBK.out.lt).trans HBK.out)
 have HB := Lib.hid (H1.out.trans (hb1.mono H1.out.size))
 have q0 : W1.cell? ⟨W.heap.size, 0, none⟩ = some (.int .i64 k) := Blk.cell HF.out 0
 have q1 : W1.cell? ⟨W.heap.size, 1, none⟩ = some (.int .i64 a) := Blk.cell HF.out 1
 have q2 : W1.cell? ⟨W.heap.size, 2, none⟩ = some (.slice A nl c) := Blk.cell HF.out 2
 have ht := itext_any t A c W1 HP.out.1 HP.out.2.1 (HP.out.2.2.1.step HB.out)
 rw [← HP.out.2.2.2.1, ← HP.out.2.2.2.2.1, ← HP.out.2.2.2.2.2.1] at ht
 have HT := Lib.hid (show Calls Tryz.prog 64 #[.agg #[.int .i64 k, .int .i64 a, .slice A nl c]] W1 _ from ht)
 clear hb1 ht
 go_wp2_with fail
 refine HT.out.mono ?_
 rintro e W2 ⟨rfl, hb2⟩
 have HB2 := Lib.hid (HB.out.trans (hb2.mono HB.out.size))
 have hsz : ¬ (65536 : Int) < ((t.txt.length : Nat) : Int) := by have := HP.out.1; have := HP.out.2.2.2.2.2.2; omega
 clear hb2
 go_wp2_with fail
 go_ret2
 exact ⟨rfl, HB2.out⟩
end Go.Proofs.YtaegjpancbmppaaGreatDoor
