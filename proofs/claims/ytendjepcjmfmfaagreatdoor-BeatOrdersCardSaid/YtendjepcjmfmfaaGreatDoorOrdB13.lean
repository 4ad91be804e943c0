/- Part 13 of 47 of the proof of the law: contracts of the functions that it reaches, and plain facts. Conditions: those that each contract names. -/
import Derived.Test.YtendjepcjmfmfaaGreatDoorOrdB10
import Derived.Test.YtendjepcjmfmfaaGreatDoorOrdB11
import Derived.Test.YtendjepcjmfmfaaGreatDoorOrdB04
import Derived.Test.YtendjepcjmfmfaaGreatDoorOrdB03
import Derived.Test.YtendjepcjmfmfaaGreatDoorOrdB12
import Derived.BigQuiet
import Derived.Laws.BitsLemmas
namespace Go.Proofs.YtendjepcjmfmfaaGreatDoor
open Go.RowKit Go.Shelf
attribute [local go_sem] Oper.semAt_some
def piece (n : Nat) (x : IxLimb) : List UInt8 := if x.1.1 + 1 < n then List.replicate (9 - Lib.nDigits x.1.2) 48 ++ Lib.decDigits x.1.2 else Lib.decDigits x.1.2
def pieces (n : Nat) (l : List IxLimb) : List UInt8 := l.flatMap (piece n)
theorem pieces_snoc (n : Nat) (l : List IxLimb) (x : IxLimb) : pieces n (l ++ [x]) = pieces n l ++ piece n x := by simp [pieces]
theorem piece_len (n : Nat) (x : IxLimb) : (piece n x).length ≤ 18 := by
 have h := nDigits_le x.1.2 9 (by decide) x.2.2
 unfold piece
 split
 ·rw [List.length_append, List.length_replicate, Lib.decDigits_length]; omega
 ·rw [Lib.decDigits_length]; omega
theorem pieces_len (n : Nat) (l : List IxLimb) : (pieces n l).length ≤ 18 * l.length := by
 induction l with
 | nil => simp [pieces]
 | cons x l ih =>
  have := piece_len n x
  have e : pieces n (x :: l) = piece n x ++ pieces n l := by simp [pieces]
  rw [e, List.length_append, List.length_cons]; omega
theorem pieces_back (L : List Nat) (hs : Small L) (hl : L.length ≤ 1000000) (hn : ∀ i, i < L.length → lv (L.drop i) ≠ 0) (k : Nat) (hk : k < L.length) :
  pieces L.length (back (pairAt L hs hl) (k + 1)) = txt L (L.length - 1 - k) := by
 induction k with
 | zero =>
  rw [back_succ, pieces_snoc]
  unfold piece
  rw [pairAt_eq L hs hl 0 hk]
  dsimp only
  rw [if_neg (by omega), txt_top L _ (by omega)]
  simp [back, pieces]
 | succ k ih =>
  rw [back_succ, pieces_snoc, ih (by omega)]
  unfold piece
  rw [pairAt_eq L hs hl (k + 1) hk]
  dsimp only
  rw [if_pos (by omega), txt_step L hs (L.length - 1 - (k + 1)) (by omega) (hn _ (by omega))]
  rw [show L.length - 1 - (k + 1) + 1 = L.length - 1 - k by omega]
theorem pieces_all (p : Nat) (hp : p ≠ 0) (hl : (limbs p).length ≤ 1000000) :
  pieces (limbs p).length (back (pairAt (limbs p) (limbs_small p) hl) (limbs p).length) = Lib.decDigits p := by
 have h0 := limbs_len_pos hp
 have := pieces_back (limbs p) (limbs_small p) hl (fun i hi => limbs_drop_ne hi) ((limbs p).length - 1) (by omega)
 rw [show (limbs p).length - 1 + 1 = (limbs p).length by omega, Nat.sub_self] at this
 rw [this]; unfold txt; rw [List.drop_zero, lv_limbs]
theorem repeatL_one (c : UInt8) (k : Nat) : Lib.repeatL [c] k = List.replicate k c := by
 induction k with
 | zero => simp [Lib.repeatL]
 | succ k ih => simp_all [Lib.repeatL, List.replicate_succ]
theorem size_list (l : List UInt8) : (⟨l.toArray⟩ : ByteArray).size = l.length := by show l.toArray.size = _; simp
theorem strCells_list (l : List UInt8) : Lib.strCells ⟨l.toArray⟩ = Lib.byteCells l := by simp [Lib.strCells, Lib.byteCells]
theorem builder_kept {T e : TypeId} {B b : Nat} {bs : List Value} {W W' : World} {row : Option Nat} (h : Lib.IsBuilder T e B b bs W) (hg : W.grownBy W' row) (hr : ∀ r, row = some r → ∃ o : Obj, W.heap[r]? = some o ∧ o.isCells = false) :
  Lib.IsBuilder T e B b bs W' := by
 have key : ∀ p, Lib.BuilderAt T e B b p bs W → Lib.BuilderAt T e B b p bs W' := by
  rintro p ⟨hB, v, hb, hown, hne⟩
  have hlt : b < W.heap.size := Lib.BuilderAt.lt ⟨hB, v, hb, hown, hne⟩
  refine ⟨hB, v, ?_, ?_, hne⟩
  ·rw [hg.block b hlt (fun e => by
    obtain ⟨o, ho, hc⟩ := hr b e.symm
    rw [hb] at ho; cases ho; cases hc)]
   exact hb
  ·refine hown.kept hg ?_
   rcases hown.2 with ⟨hv, _⟩ | ⟨g, cap, cur, hv, _, hgg, _⟩
   ·exact Or.inl (by rw [hv]; rfl)
   ·refine Or.inr ?_
    rw [hv]
    intro e
    obtain ⟨o, ho, hc⟩ := hr g e.symm
    rw [hgg] at ho; cases ho; cases hc
 exact h.elim (fun h => .inl (key _ h)) (fun h => .inr (key _ h))
theorem builder_below {T e : TypeId} {B b : Nat} {p : Value} {bs : List Value} {W W' : World} (h : Lib.BuilderAt T e B b p bs W) (hb : Below W.heap.size W W') : Lib.BuilderAt T e B b p bs W' := by
 obtain ⟨hB, v, hk, hown, hne⟩ := h
 have hlt : b < W.heap.size := Lib.BuilderAt.lt ⟨hB, v, hk, hown, hne⟩
 refine ⟨hB, v, (hb.block b hlt).trans hk, ⟨hown.1, ?_⟩, hne⟩
 rcases hown.2 with h | ⟨g, cap, cur, hv, hg, hh, r⟩
 ·exact Or.inl h
 ·refine Or.inr ⟨g, cap, cur, hv, hg, (hb.block g ?_).trans hh, r⟩
  rcases Nat.lt_or_ge g W.heap.size with h' | h'
  ·exact h'
  ·rw [Array.getElem?_eq_none h'] at hh; cases hh
set_option maxRecDepth 100000 in
set_option maxHeartbeats 4000000 in
theorem text_in (p : Nat) (hp : p ≠ 0) (A : Option Addr) (cap : Nat) (w : World) (ht : Tab w) (hr : Rd u64v w w.heap.size A (limbs p)) (hl : (limbs p).length ≤ 1000000) :
  CallsIn Fence.wide 6 Tryz.prog 89 #[.slice A (limbs p).length cap] w fun e w' => e = .returned (.string (dec p)) ∧ Below w.heap.size w w' := by
 have h0 := limbs_len_pos hp
 obtain ⟨n, hn⟩ : ∃ n, n = (limbs p).length := ⟨_, rfl⟩
 rw [← hn]
 have hn0 : 0 < n := by omega
 have hn1 : n ≤ 1000000 := by omega
 have hnz : ((n : Int) == 0) = false := by simp; omega
 have HN := Lib.hid hn
 clear hn h0
 refine callsIn_of_wp_marks Tryz.func89 rfl trivial ?_ rfl
 simp only [Tryz.ntmps89, List.size_toArray, List.length_cons, List.length_nil, Nat.reduceAdd, Nat.reduceSub, Array.replicate_succ, Array.replicate_zero, List.push_toArray, List.append_toArray, List.nil_append, List.cons_append]
 gi_wp2_with (refine ⟨trivial, ?_⟩; gi_at_call 109; refine (backwardOf_in Fence.wide 5 trivial rfl _ _ _ _).mono ?_; rintro e w' ⟨rfl, rfl⟩)
 obtain ⟨W3, hW3⟩ : ∃ W3, W3 = ((w.alloc (Obj.cells #[Value.slice A n cap] 156)).alloc (Obj.cells #[Value.pointer none, Value.slice none 0 0] 187)).alloc (Obj.cells #[Value.slice A n cap] 156) := ⟨_, rfl⟩
 rw [← hW3]
 have hz3 : W3.heap.size = w.heap.size + 3 := by rw [hW3]; simp
 have hb0 : W3.heap[w.heap.size]? = some (.cells #[Value.slice A n cap] 156 (0, 0)) := by
  rw [hW3, Below.heap_alloc _ _ _ (by simp; omega), Below.heap_alloc _ _ _ (by simp)]; exact heap_alloc_new w _
 have hb1 : W3.heap[w.heap.size + 1]? = some (.cells #[Value.pointer none, Value.slice none 0 0] 187 (0, 0)) := by
  rw [hW3, Below.heap_alloc _ _ _ (by simp)]
  have := heap_alloc_new (w.alloc (Obj.cells #[Value.slice A n cap] 156)) (Obj.cells #[Value.pointer none, Value.slice none 0 0] 187)
  rwa [World.size_alloc] at this
 have hb2 : W3.heap[w.heap.size + 1 + 1]? = some (.cells #[Value.slice A n cap] 156 (0, 0)) := by
  rw [hW3]
  have := heap_alloc_new ((w.alloc (Obj.cells #[Value.slice A n cap] 156)).alloc (Obj.cells #[Value.pointer none, Value.slice none 0 0] 187)) (Obj.cells #[Value.slice A n cap] 156)
  rwa [World.size_alloc, World.size_alloc] at this
 have hB3 : Below w.heap.size w W3 := by rw [hW3]; exact (((Below.refl _ w).alloc (Nat.le_refl _) _).alloc (by simp) _).alloc (by simp; omega) _
 have hI3 : Lib.IsBuilder 187 5 (w.heap.size + 1) (w.heap.size + 1) (Lib.byteCells []) W3 :=
  .inl ⟨Nat.le_refl _, _, hb1, World.ownsRow_nil _ _ _ _, by simp [Value.ownBlock]⟩
 have hbox : W3.cell? ⟨w.heap.size + 1 + 1, 0, none⟩ = some (.slice A n cap) := by rw [Lib.cell_of_heap hb2]; rfl
 clear hW3
 refine wpIn_rangeFunc_ownF rfl (by decide) (gf := 138) (lb := #[.pointer (some ⟨w.heap.size + 1 + 1, 0, none⟩)]) rfl trivial (enters_of Tryz.func138 (by kernel_rfl) rfl)
  (backward_stops Fence.wide 5 trivial rfl (by decide) (w.heap.size + 1 + 1) (w.heap.size + 1) A cap (limbs p) (limbs_small p) hl W3 (by omega) (by omega) (by rw [← HN.out]; exact hbox) ((hr.below hB3).more (by omega)))
  KeepBox.trans (KeepBox.put (by omega) (by omega)) (Below.refl _ _) (fun _ => rfl)
  (fun pre W => (Lib.IsBuilder 187 5 (w.heap.size + 1) (w.heap.size + 1) (Lib.byteCells (pieces n pre)) W ∧ W.heap[w.heap.size + 1 + 1]? = some (.cells #[Value.slice A n cap] 156 (0, 0))) ∧ Below (w.heap.size + 1) W3 W)
  (fun _ _ _ => False)
  (OwnFrom.and (Own.from (fun s X Y row hs hg hr => ⟨builder_kept hs.1 hg hr, by
   rw [hg.block _ (by
    rcases Nat.lt_or_ge (w.heap.size + 1 + 1) X.heap.size with h' | h'
    ·exact h'
    ·rw [Array.getElem?_eq_none h'] at hs; cases hs.2) (fun e => by
    obtain ⟨o, ho, hc⟩ := hr _ e.symm
    rw [hs.2] at ho; cases ho; cases hc)]
   exact hs.2⟩) _) (ownFrom_below (by omega) (by omega)))
  (fun _ _ _ _ _ hs _ _ => hs)
  ⟨⟨hI3, hb2⟩, Below.refl _ _⟩
  (fun x => { tmps := #[Value.slice A n cap, Value.pointer (some ⟨w.heap.size, 0, none⟩), Value.string { data := #[] },
     Value.pointer (some ⟨w.heap.size + 1, 0, none⟩), .int .i64 (x.1.1 : Int), .int .u64 (x.1.2 : Int), undef, Value.slice A n cap,
     Value.int IntKind.i64 ↑n, Value.bool false, Value.slice A n cap,
     Value.func (Fn.func 138) #[] #[Value.pointer (some ⟨w.heap.size + 1 + 1, 0, none⟩)], .int .i64 (x.1.1 : Int), .int .u64 (x.1.2 : Int),
     undef, undef, undef, undef, undef, undef, undef, undef, undef, undef, undef, undef, undef, undef, undef], defers := [] }) ?assign ?body ?done ?stop
 case assign =>
  intro l x W K hK
  gi_wp2
  exact hK
 case body =>
  rintro l pre x W ⟨⟨hI, hbx⟩, hB⟩ hpre
  obtain ⟨⟨i, u⟩, hi, hu⟩ := x
  have hTW : Tab W := ht.below (hB3.trans (hB.mono (by omega)))
  have hsz : w.heap.size + 3 ≤ W.heap.size := by have := hB.size; omega
  have hcm : W.cell? ⟨w.heap.size, 0, none⟩ = some (.slice A n cap) := by rw [hB.cell (by show w.heap.size < _; omega), Lib.cell_of_heap hb0]; rfl
  have hpl : (Lib.byteCells (pieces n pre)).length ≤ 18000000 := by
   have := pieces_len n pre
   rw [Lib.byteCells, List.length_map]; have := HN.out; omega
  have hd9 : Lib.nDigits u ≤ 9 := nDigits_le u 9 (by decide) hu
  have hpc := pieces_snoc n pre ⟨(i, u), hi, hu⟩
  unfold piece at hpc
  dsimp only at hpc hi hu ⊢
  have HI := Lib.hid hI
  have HBX := Lib.hid hbx
  have HB := Lib.hid hB
  clear hI hbx hB hb0 hb1 hb2 hI3 hbox hr hB3
  obtain ⟨nd, hnd⟩ : ∃ nd, nd = Lib.nDigits u := ⟨_, rfl⟩
  have hnd9 : nd ≤ 9 := by omega
  obtain ⟨ds, hds⟩ : ∃ ds, ds = Lib.decDigits u := ⟨_, rfl⟩
  have hdl : ds.length = nd := by rw [hds, Lib.decDigits_length, hnd]
  rw [← hds, ← hnd] at hpc
  have HDS := Lib.hid hds
  have HDL := Lib.hid hdl
  clear hds hnd hdl hd9
  gi_wp2_with fail
  refine ⟨trivial, ?_⟩
  refine (CallsIn.inRound l (callsIn_wide.2 (formatUint_any u (by omega) _ hTW))).mono ?_
  rintro e W1 ⟨rfl, hb1⟩
  rw [← HDS.out]
  have hcm1 : W1.cell? ⟨w.heap.size, 0, none⟩ = some (.slice A n cap) := by rw [hb1.cell (by show w.heap.size < _; omega)]; exact hcm
  have hTW1 : Tab W1 := hTW.below hb1
  have hz1 : W.heap.size ≤ W1.heap.size := hb1.size
  have HI1 := Lib.hid ((HI.out).elim (fun h => Or.inl (builder_below h hb1)) (fun h => Or.inr (builder_below h hb1)) : Lib.IsBuilder 187 5 (w.heap.size + 1) (w.heap.size + 1) (Lib.byteCells (pieces n pre)) W1)
  have HBX1 := Lib.hid ((KeepT.of_below (b := w.heap.size + 1) hb1) _ _ _ _ HBX.out (by omega) (by decide))
  have HO1 := Lib.hid (others_of_below hb1)
  have HB1 := Lib.hid hb1
  clear hb1 hcm hTW
  have hdl9 : ds.length ≤ 9 := by rw [HDL.out]; exact hnd9
  rw [← HDL.out] at hpc
  clear HDL hnd9
  by_cases hin : i + 1 < n
  ·rw [if_pos hin] at hpc
   obtain ⟨zs, hzs⟩ : ∃ zs, zs = List.replicate (9 - ds.length) (48 : UInt8) := ⟨_, rfl⟩
   rw [← hzs] at hpc
   have hzl : zs.length ≤ 9 := by rw [hzs, List.length_replicate]; omega
   have HZS := Lib.hid hzs
   have HP := Lib.hid hpc
   clear hpc hzs
   gi_wp2_with fail
   rw [show (9 : Int) - (ds.length : Int) = ((9 - ds.length : Nat) : Int) from by omega]
   refine ⟨trivial, ?_⟩
   refine (CallsIn.inRound l (callsIn_wide.2 (Tryz.strings_Repeat ⟨#[48]⟩ (9 - ds.length) _ (by omega) (by show 1 * (9 - ds.length) ≤ _; omega)))).mono ?_
   rintro e W2 ⟨rfl, hb2⟩
   rw [show Lib.repeatL (ByteArray.mk #[48]).data.toList (9 - ds.length) = zs from (repeatL_one 48 _).trans HZS.out.symm]
   have hz2 : W1.heap.size ≤ W2.heap.size := hb2.size
   have hI2 : Lib.IsBuilder 187 5 (w.heap.size + 1) (w.heap.size + 1) (Lib.byteCells (pieces n pre)) W2 := HI1.out.elim (fun h => Or.inl (builder_below h hb2)) (fun h => Or.inr (builder_below h hb2))
   have HI2 := Lib.hid hI2
   have HBX2 := Lib.hid ((KeepT.of_below (b := w.heap.size + 1) hb2) _ _ _ _ HBX1.out (by omega) (by decide))
   have HO2 := Lib.hid (HO1.out.trans (others_of_below hb2))
   have HB2 := Lib.hid ((HB1.out.mono (by omega) : Below (w.heap.size + 1) W W1).trans (hb2.mono (by omega)))
   clear hb2 hI2
   gi_wp2_with fail
   refine ⟨trivial, ?_⟩
   refine (CallsIn.inRound l (callsIn_wide.2 (writeString_any (w.heap.size + 1) (w.heap.size + 1) _ ⟨zs.toArray⟩ _ HI2.out (by rw [size_list]; omega) (by omega)))).mono ?_
   rintro e W4 ⟨rfl, hI4, hb4, ho4, hk4⟩
   rw [strCells_list, ← Lib.byteCells_append] at hI4
   have hz4 : W2.heap.size ≤ W4.heap.size := hb4.size
   have HI4 := Lib.hid hI4
   have HBX4 := Lib.hid (hk4 _ _ _ _ HBX2.out (by omega) (by decide))
   have HO4 := Lib.hid (HO2.out.trans ho4)
   have HB4 := Lib.hid (HB2.out.trans hb4)
   clear hb4 hI4 ho4 hk4
   gi_wp2_with fail
   refine ⟨trivial, ?_⟩
   refine (CallsIn.inRound l (callsIn_wide.2 (writeString_any (w.heap.size + 1) (w.heap.size + 1) _ ⟨ds.toArray⟩ _ HI4.out (by rw [size_list, Lib.byteCells_append, List.length_append, Lib.byteCells, Lib.byteCells, List.length_map, List.length_map]; rw [Lib.byteCells, List.length_map] at hpl; omega) (by omega)))).mono ?_
   rintro e W5 ⟨rfl, hI5, hb5, ho5, hk5⟩
   rw [strCells_list, ← Lib.byteCells_append, List.append_assoc, ← HP.out] at hI5
   have HI5 := Lib.hid hI5
   have HBX5 := Lib.hid (hk5 _ _ _ _ HBX4.out (by omega) (by decide))
   have HO5 := Lib.hid (HO4.out.trans ho5)
   have HB5 := Lib.hid (HB4.out.trans hb5)
   clear hb5 hI5 ho5 hk5
   gi_wp2
   exact ⟨HO5.out, ⟨HB5.out, HBX5.out.trans HBX.out.symm⟩, ⟨HI5.out, HBX5.out⟩, HB.out.trans HB5.out⟩
  ·rw [if_neg hin] at hpc
   have HP := Lib.hid hpc
   have HB2 := Lib.hid (HB1.out.mono (by omega) : Below (w.heap.size + 1) W W1)
   clear hpc
   gi_wp2_with fail
   refine ⟨trivial, ?_⟩
   refine (CallsIn.inRound l (callsIn_wide.2 (writeString_any (w.heap.size + 1) (w.heap.size + 1) _ ⟨ds.toArray⟩ _ HI1.out (by rw [size_list]; omega) (by omega)))).mono ?_
   rintro e W5 ⟨rfl, hI5, hb5, ho5, hk5⟩
   rw [strCells_list, ← Lib.byteCells_append, ← HP.out] at hI5
   have HI5 := Lib.hid hI5
   have HBX5 := Lib.hid (hk5 _ _ _ _ HBX1.out (by omega) (by decide))
   have HO5 := Lib.hid (HO1.out.trans ho5)
   have HB5 := Lib.hid (HB2.out.trans hb5)
   clear hb5 hI5 ho5 hk5
   gi_wp2
   exact ⟨HO5.out, ⟨HB5.out, HBX5.out.trans HBX.out.symm⟩, ⟨HI5.out, HBX5.out⟩, HB.out.trans HB5.out⟩
 case done =>
  rintro D ys W hD rfl ⟨⟨hI, _⟩, hB⟩ hK
  have hpa := pieces_all p hp hl
  rw [← HN.out] at hpa hI
  have hsz : w.heap.size + 3 ≤ W.heap.size := by have := hB.size; omega
  have hlen0 := dec_ne_nil p
  have HPA := Lib.hid hpa
  have HB := Lib.hid hB
  have HK := Lib.hid hK
  have HI := Lib.hid hI
  clear hpa hB hK hI hb0 hb1 hb2 hI3 hbox hr
  gi_wp2_with fail
  refine ⟨trivial, ?_⟩
  refine (callsIn_wide.2 (Tryz.Builder_String_k (w.heap.size + 1) (w.heap.size + 1) (Lib.decDigits p) W (Lib.IsBuilderF.of (by have := HI.out; rwa [HPA.out] at this)) hlen0)).mono ?_
  rintro e W5 ⟨rfl, _, hb5, hk5⟩
  have hKD : W5.heap[D]? = some (.deferred (some [])) := hk5 D _ HK.out (by intro e; injection e; omega) (fun _ _ => by simp)
  have HKD := Lib.hid hKD
  have HB5 := Lib.hid hb5
  clear hk5 hKD hb5
  gi_wp2
  refine ⟨by simp, .inl ⟨_, _, rfl, run_takeDeferred HKD.out, ?_⟩⟩
  exact ⟨_, results_tmp rfl _ _ _, by rw [← Lib.itoa_nonneg]; rfl, (hB3.trans ((HB.out.trans HB5.out).mono (by omega))).trans (belowK_b (w := w) (Nat.le_refl _) _ D _ _ (by omega) HKD.out rfl rfl)⟩
 case stop =>
  rintro D c pre W _ _ h _
  exact h.elim
set_option maxRecDepth 100000 in
theorem text_any (p : Nat) (A : Option Addr) (cap : Nat) (w : World) (ht : Tab w) (hr : Rd u64v w w.heap.size A (limbs p)) (hl : (limbs p).length ≤ 1000000) :
  Calls Tryz.prog 89 #[.slice A (limbs p).length cap] w fun e w' => e = .returned (.string (dec p)) ∧ Below w.heap.size w w' := by
 by_cases hp : p = 0
 ·subst hp
  rw [limbs_zero]
  go_enter Tryz.func89, Tryz.ntmps89
  go_wp2
  go_ret
  exact ⟨congrArg (fun l : List UInt8 => Ending.returned (.string ⟨l.toArray⟩)) (show [48] = Lib.itoa ((0 : Nat) : Int) by rw [Lib.itoa_nonneg, Lib.decDigits_one (by decide)]; rfl), (Below.refl _ _).alloc (Nat.le_refl _) _⟩
 ·exact callsIn_wide.1 (text_in p hp A cap w ht hr hl)
end Go.Proofs.YtendjepcjmfmfaaGreatDoor
namespace Go.Proofs.YtendjepcjmfmfaaGreatDoor
section
open Go.RowKit
theorem cut_dec (z : Int) (w : World) : Calls Tryz.prog 95 #[.string (dec z), .string ⟨#[45]⟩] w fun e w' => e = .returned (.tuple #[.string (absS z), .bool (decide (z < 0))]) ∧ w = w' :=
 (Tryz.strings_CutPrefix (dec z) ⟨#[45]⟩ w).mono fun e w' ⟨he, hw⟩ => ⟨by
  rw [he]
  have e1 : (⟨#[45]⟩ : ByteArray).data.toList = [45] := rfl
  rw [e1, dec_trimPrefix, dec_hasPrefix], hw.symm⟩
theorem of_any (n : Int) (h0 : -9223372036854775808 ≤ n) (h1 : n ≤ 9223372036854775807) (w : World) (ht : Tab w) :
  Calls Tryz.prog 51 #[.int .i64 n] w fun e w' => e = .returned (.string (dec n)) ∧ Below w.heap.size w w' := by
 go_enter Tryz.func51, Tryz.ntmps51
 go_wp2_with (go_at_call 92; refine (itoa_any n h0 h1 _ ht).mono ?_; rintro e w' ⟨rfl, hb⟩)
 go_ret
 exact ⟨rfl, hb⟩
def RetSplit (z : Int) (w : World) (e : Ending) (w' : World) : Prop :=
 ∃ A cap, e = .returned (.tuple #[.slice A (limbs z.natAbs).length cap, .bool (decide (z < 0))]) ∧ Rd u64v w' w'.heap.size A (limbs z.natAbs) ∧ (limbs z.natAbs).length ≤ cap ∧ Below w.heap.size w w'
set_option maxRecDepth 100000 in
theorem split_any (z : Int) (w : World) (hz : Lib.nDigits z.natAbs ≤ 1000000) :
  Calls Tryz.prog 88 #[.string (dec z)] w (RetSplit z w) := by
 have hdv : dval (absS z).data.toList = z.natAbs := by rw [absS_list, dval_dec]
 have hdg : Digs (absS z).data.toList := by rw [absS_list]; exact digs_dec _
 have hsz : (absS z).size ≤ 1000000 := by rw [absS_size]; exact hz
 have hlong := fun w => long_any (absS z) w hdg hsz
 rw [hdv] at hlong
 have HL := Lib.hid hlong
 clear hdv hdg hsz hlong
 go_enter Tryz.func88, Tryz.ntmps88
 go_wp2_with fail
 refine (cut_dec z _).mono ?_
 rintro e w' ⟨rfl, rfl⟩
 go_wp2_with fail
 refine (HL.out _).mono ?_
 rintro e w' ⟨A, cap, rfl, hr, hc, hb⟩
 have HR := Lib.hid hr
 have HC := Lib.hid hc
 have HB := Lib.hid hb
 clear hr hc hb
 go_wp2
 go_ret2
 exact ⟨A, cap, rfl, HR.out, HC.out, HB.out⟩
theorem neg_text (p : Nat) (hp : p ≠ 0) : (⟨#[45]⟩ : ByteArray) ++ dec (p : Int) = dec (-(p : Int)) := by
 apply ByteArray.ext
 rw [ByteArray.data_append]
 unfold dec; rw [Lib.itoa_neg p (by omega), Lib.itoa_nonneg]
 simp
theorem dec_size (p : Nat) (hp : p ≠ 0) : (dec (p : Int)).size ≤ 9 * (limbs p).length := by
 rw [dec_nat, absS_size]
 have h0 := limbs_len_pos hp
 refine nDigits_le _ _ (by omega) ?_
 rw [pow9]
 exact limbs_len_lt p
set_option maxRecDepth 100000 in
theorem signed_any (p : Nat) (m : Bool) (A : Option Addr) (cap : Nat) (w : World) (ht : Tab w) (hr : Rd u64v w w.heap.size A (limbs p)) (hl : (limbs p).length ≤ 1000000) :
  Calls Tryz.prog 91 #[.slice A (limbs p).length cap, .bool m] w fun e w' => e = .returned (.string (dec (if m then -(p : Int) else p))) ∧ Below w.heap.size w w' := by
 have HT := fun W => text_any p A cap W
 obtain ⟨n, hn⟩ : ∃ n, n = (limbs p).length := ⟨_, rfl⟩
 have hds := fun h => dec_size p h
 rw [← hn] at HT hl hds
 rw [← hn]
 have hnp : n = 0 ↔ p = 0 := by rw [hn, List.length_eq_zero_iff, limbs_eq_nil]
 have htx := HT w ht hr hl
 have HTX := Lib.hid htx
 have HNP := Lib.hid hnp
 have hn1 : n ≤ 1000000 := by omega
 have HDS := Lib.hid hds
 clear HT htx hnp hn hl hds
 cases m with
 | false =>
  go_enter Tryz.func91, Tryz.ntmps91
  go_wp2_with fail
  refine HTX.out.mono ?_
  rintro e w' ⟨rfl, hb⟩
  go_wp2
  go_ret
  exact ⟨rfl, hb⟩
 | true =>
  by_cases hn0 : n = 0
  ·subst hn0
   have hp : p = 0 := HNP.out.1 rfl
   subst hp
   go_enter Tryz.func91, Tryz.ntmps91
   go_wp2_with fail
   refine HTX.out.mono ?_
   rintro e w' ⟨rfl, hb⟩
   go_wp2
   go_ret
   exact ⟨rfl, hb⟩
  ·have hn2 : 0 < n := by omega
   have hp : p ≠ 0 := fun h => hn0 (HNP.out.2 h)
   have hds : (dec (p : Int)).size ≤ 9000000 := by have := HDS.out hp; omega
   go_enter Tryz.func91, Tryz.ntmps91
   go_wp2_with fail
   refine HTX.out.mono ?_
   rintro e w' ⟨rfl, hb⟩
   go_wp2
   go_ret
   rw [← neg_text p hp]
   exact ⟨rfl, hb⟩
end
section
open Go.RowKit
set_option maxRecDepth 100000 in
theorem quick_no (z : Int) (k : Int) (w : World) (h : k < (Lib.nDigits z.natAbs : Int)) (_hz : Lib.nDigits z.natAbs ≤ 1000000000) :
  Calls Tryz.prog 93 #[.string (dec z), .int .i64 k] w fun e w' => e = .returned (.tuple #[.int .i64 0, .bool false]) ∧ w = w' := by
 have hs := absS_size z
 obtain ⟨s, hsz⟩ : ∃ s, s = absS z := ⟨_, rfl⟩
 rw [← hsz] at hs
 rw [← hs] at h _hz
 have HS := Lib.hid hsz
 clear hs hsz
 go_enter Tryz.func93, Tryz.ntmps93
 go_wp2_with fail
 refine (cut_dec z _).mono ?_
 rintro e w' ⟨rfl, rfl⟩
 rw [← HS.out]
 go_wp2
 go_ret2
 exact ⟨rfl, rfl⟩
set_option maxRecDepth 100000 in
set_option maxHeartbeats 1000000 in
theorem quick_yes (z : Int) (k : Int) (w : World) (h : (Lib.nDigits z.natAbs : Int) ≤ k) (hk : k ≤ 18) :
  Calls Tryz.prog 93 #[.string (dec z), .int .i64 k] w fun e w' => e = .returned (.tuple #[.int .i64 z, .bool true]) ∧ Below w.heap.size w w' := by
 obtain ⟨s, hsz⟩ : ∃ s, s = absS z := ⟨_, rfl⟩
 obtain ⟨C, hC⟩ : ∃ C, C = s.data.toList := ⟨_, rfl⟩
 obtain ⟨N, hN⟩ : ∃ N, N = s.size := ⟨_, rfl⟩
 have hdC : Digs C := by rw [hC, hsz, absS_list]; exact digs_dec _
 have hvC : dval C = z.natAbs := by rw [hC, hsz, absS_list, dval_dec]
 have hNC : N = C.length := by rw [hN, hC, Array.length_toList]; rfl
 have hNk : (N : Int) ≤ k := by rw [hN, hsz, absS_size]; exact h
 have hN18 : N ≤ 18 := by omega
 have HS := Lib.hid hsz
 have HC := Lib.hid hC
 have HN := Lib.hid hN
 have HNC := Lib.hid hNC
 have HV := Lib.hid hvC
 have hcv := fun (w : World) (s : ByteArray) => run_bytes_of_string (P := Tryz.prog) w 9 185 5 s Tryz.underlying9 Tryz.underlying185 Tryz.underlying5
 clear h hsz hC hN hvC hNC
 have hbnd : ∀ j, dval (C.take j) < 1000000000000000000 := fun j => by
  have h1 := dval_lt _ (hdC.take j)
  have h2 : (10 : Nat) ^ (C.take j).length ≤ 10 ^ 18 := Nat.pow_le_pow_right (by decide) (by rw [List.length_take]; have := HNC.out; omega)
  omega
 have HBND := Lib.hid hbnd
 clear hbnd
 obtain ⟨m, hm⟩ : ∃ m, m = decide (z < 0) := ⟨_, rfl⟩
 have hcut : ∀ W, Calls Tryz.prog 95 #[.string (dec z), .string ⟨#[45]⟩] W fun e w' => e = .returned (.tuple #[.string s, .bool m]) ∧ W = w' := fun W => by
  have := cut_dec z W
  rw [← HS.out, ← hm] at this
  exact this
 have hfin : (if m then -(dval C : Int) else (dval C : Int)) = z := by
  rw [HV.out, hm]
  by_cases h : z < 0
  ·simp only [h, decide_true, if_true]; omega
  ·simp only [h, decide_false, Bool.false_eq_true, if_false]; omega
 have HCUT := Lib.hid hcut
 have HFIN := Lib.hid hfin
 clear hm hcut hfin
 go_enter Tryz.func93, Tryz.ntmps93
 go_wp2_with fail
 refine (HCUT.out _).mono ?_
 rintro e w' ⟨rfl, rfl⟩
 have hNs : (s.size : Int) ≤ k := by rw [← HN.out]; exact hNk
 go_wp2
 generalize grownCap w s.size 0 5 = cap
 obtain ⟨w2, hw2⟩ : ∃ w2, w2 = (w.alloc (Obj.cells (bytesRow s cap) 5 ((bytesRow s cap).size, (bytesRow s cap).size + 1))).drew := ⟨_, rfl⟩
 rw [← hw2, ← HN.out]
 have hrd : Rd (fun c : UInt8 => .int .u8 (c.toNat : Int)) w2 (w.heap.size + 1) (some ⟨w.heap.size, 0, none⟩) C := by rw [hw2, HC.out]; exact conv_rd w s cap _ _
 have hB2 : Below w.heap.size w w2 := by rw [hw2]; exact ((Below.refl _ _).alloc (Nat.le_refl _) _).drew
 have HB := Lib.hid hB2
 clear hw2 hB2 hcv hNs
 go_loop [8, 23] (fun v i => ∃ j : Nat, j ≤ N ∧ i = .int .i64 j ∧ v = .int .i64 (dval (C.take j) : Int)) (fun _ i => N - (intOf i).toNat)
 case atStart => exact ⟨0, Nat.zero_le _, rfl, by simp [dval]⟩
 case round =>
  obtain ⟨j, hj, rfl, rfl⟩ := hrel
  by_cases hlt : j < N
  ·have hjC : j < C.length := by have := HNC.out; omega
   obtain ⟨c, hc⟩ : ∃ c, c = C[j] := ⟨_, rfl⟩
   obtain ⟨q, hq⟩ : ∃ q, q = dval (C.take j) := ⟨_, rfl⟩
   have hq1 : q < 100000000000000000 := by
    rw [hq]
    have h1 := dval_lt _ (hdC.take j)
    have h2 : (10 : Nat) ^ (C.take j).length ≤ 10 ^ 17 := Nat.pow_le_pow_right (by decide) (by rw [List.length_take]; omega)
    omega
   obtain ⟨b, off, hA, _, hcell⟩ := hrd.at_ (by omega)
   have hcc : w2.cell? ⟨w.heap.size, j, none⟩ = some (.int .u8 (c.toNat : Int)) := by
    have h1 := hcell j hjC
    injection hA with hA; injection hA with h2 h3 _
    rw [← h2, ← h3, Nat.zero_add] at h1
    rw [h1, hc]
   have hc0 : 48 ≤ c.toNat := by rw [hc]; exact (hdC.get j hjC).1
   have hc1 : c.toNat ≤ 57 := by rw [hc]; exact (hdC.get j hjC).2
   have HD := Lib.hid (dval_take_succ C j hjC)
   rw [← hq, ← hc] at HD
   rw [← hq]
   have HQ := Lib.hid hq
   have HCC := Lib.hid hc
   clear hq hc hcell hA
   go_wp2
   go_round
   case rel => exact ⟨j + 1, by omega, by go_num, by rw [HD.out]; congr 1; omega⟩
   case measure => simp [intOf]; omega
  ·obtain rfl : j = N := by omega
   rw [show C.take j = C from List.take_of_length_le (by have := HNC.out; omega)]
   have hv := HBND.out j
   rw [show C.take j = C from List.take_of_length_le (by have := HNC.out; omega)] at hv
   obtain ⟨q, hq⟩ : ∃ q, q = dval C := ⟨_, rfl⟩
   rw [← hq] at hv ⊢
   have HQ := Lib.hid hq
   clear hq
   cases m with
   | false =>
    go_wp2
    go_ret2
    refine ⟨?_, HB.out⟩
    rw [← HFIN.out, ← HQ.out]
    rfl
   | true =>
    go_wp2
    go_ret2
    refine ⟨?_, HB.out⟩
    rw [← HFIN.out, ← HQ.out]
    rfl
end
end Go.Proofs.YtendjepcjmfmfaaGreatDoor
namespace Go.Proofs.YtendjepcjmfmfaaGreatDoor
section
open Go.RowKit
theorem prefix_dec (z : Int) (w : World) : Calls Tryz.prog 116 #[.string (dec z), .string ⟨#[45]⟩] w fun e w' => e = .returned (.bool (decide (z < 0))) ∧ w = w' :=
 (Tryz.strings_HasPrefix (dec z) ⟨#[45]⟩ w).mono fun e w' ⟨he, hw⟩ => ⟨by
  rw [he]
  have e1 : (⟨#[45]⟩ : ByteArray).data.toList = [45] := rfl
  rw [e1, dec_hasPrefix], hw.symm⟩
set_option maxRecDepth 100000 in
theorem sign_any (z : Int) (w : World) :
  Calls Tryz.prog 94 #[.string (dec z)] w fun e w' => e = .returned (.int .i64 (sgn z)) ∧ w = w' := by
 have h0 := dec_is0 z
 rcases sgn_cases z with ⟨h1, h2⟩ | ⟨h1, h2⟩ | ⟨h1, h2⟩
 ·rw [decide_eq_false (by omega)] at h0
  have H2 := Lib.hid h2
  clear h2
  go_enter Tryz.func94, Tryz.ntmps94
  go_wp2_with fail
  refine (prefix_dec z _).mono ?_
  rintro e w' ⟨rfl, rfl⟩
  rw [decide_eq_true h1]
  go_wp2
  go_ret
  exact ⟨ret_int H2.out.symm, rfl⟩
 ·rw [decide_eq_true h1] at h0
  have H2 := Lib.hid h2
  clear h2 h1
  go_enter Tryz.func94, Tryz.ntmps94
  go_wp2
  go_ret
  exact ⟨ret_int H2.out.symm, rfl⟩
 ·rw [decide_eq_false (by omega)] at h0
  have H2 := Lib.hid h2
  clear h2
  go_enter Tryz.func94, Tryz.ntmps94
  go_wp2_with fail
  refine (prefix_dec z _).mono ?_
  rintro e w' ⟨rfl, rfl⟩
  rw [decide_eq_false (by omega)]
  go_wp2
  go_ret
  exact ⟨ret_int H2.out.symm, rfl⟩
set_option maxRecDepth 100000 in
set_option maxHeartbeats 1000000 in
theorem compare_any (a b : Int) (w : World) (ha : Lib.nDigits a.natAbs ≤ 1000000000) (hb : Lib.nDigits b.natAbs ≤ 1000000000) :
  Calls Tryz.prog 53 #[.string (dec a), .string (dec b)] w fun e w' => e = .returned (.int .i64 (sgn (a - b))) ∧ w = w' := by
 obtain ⟨s, hs⟩ : ∃ s, s = sgn a := ⟨_, rfl⟩
 obtain ⟨t, ht⟩ : ∃ t, t = sgn b := ⟨_, rfl⟩
 have hs1 := sgn_bd a
 have ht1 := sgn_bd b
 rw [← hs] at hs1
 rw [← ht] at ht1
 obtain ⟨hs0, hs2⟩ := hs1
 obtain ⟨ht0, ht2⟩ := ht1
 obtain ⟨x, hx⟩ : ∃ x, x = absS a := ⟨_, rfl⟩
 obtain ⟨y, hy⟩ : ∃ y, y = absS b := ⟨_, rfl⟩
 have hxs : x.size ≤ 1000000000 := by rw [hx, absS_size]; exact ha
 have hys : y.size ≤ 1000000000 := by rw [hy, absS_size]; exact hb
 have hxd : x.size = Lib.nDigits a.natAbs := by rw [hx, absS_size]
 have hyd : y.size = Lib.nDigits b.natAbs := by rw [hy, absS_size]
 have HS := Lib.hid hs
 have HT := Lib.hid ht
 have HX := Lib.hid hx
 have HY := Lib.hid hy
 have HXD := Lib.hid hxd
 have HYD := Lib.hid hyd
 clear hs ht hx hy hxd hyd ha hb
 rcases Int.lt_trichotomy s t with h | h | h
 ·have hr : sgn (a - b) = -1 := sgn_lt (by rw [← HS.out, ← HT.out]; exact h)
  have HR := Lib.hid hr
  clear hr
  go_enter Tryz.func53, Tryz.ntmps53
  go_wp2_with fail
  refine (sign_any a _).mono ?_
  rintro e w' ⟨rfl, rfl⟩
  rw [← HS.out]
  go_wp2_with fail
  refine (sign_any b _).mono ?_
  rintro e w' ⟨rfl, rfl⟩
  rw [← HT.out]
  go_wp2
  go_ret
  exact ⟨ret_int HR.out.symm, rfl⟩
 ·subst h
  have hst : sgn a = sgn b := by rw [← HS.out, ← HT.out]
  have hcb := compare_bd x.data.toList y.data.toList
  obtain ⟨c, hc⟩ : ∃ c, c = Lib.compareBytes x.data.toList y.data.toList := ⟨_, rfl⟩
  rw [← hc] at hcb
  obtain ⟨hc0, hc1⟩ := hcb
  have HC := Lib.hid hc
  clear hc
  have hsc : -1 ≤ s * c ∧ s * c ≤ 1 := by
   have h1 : s = -1 ∨ s = 0 ∨ s = 1 := by omega
   rcases h1 with rfl | rfl | rfl <;> omega
  obtain ⟨hsc0, hsc1⟩ := hsc
  have hcmp : ∀ W, Calls Tryz.prog 96 #[.string x, .string y] W fun e w' => e = .returned (.int .i64 c) ∧ W = w' := fun W =>
   (Tryz.strings_Compare x y W).mono fun e w' ⟨he, hw⟩ => ⟨by rw [he, HC.out], hw.symm⟩
  have HCMP := Lib.hid hcmp
  have HST := Lib.hid hst
  clear hcmp hst
  rcases Nat.lt_trichotomy x.size y.size with h | h | h
  ·have hr : sgn (a - b) = -s := by rw [HS.out]; exact cmp_short HST.out (abs_lt_of_digits (by rw [← HXD.out, ← HYD.out]; exact h))
   have HR := Lib.hid hr
   clear hr
   go_enter Tryz.func53, Tryz.ntmps53
   go_wp2_with fail
   refine (sign_any a _).mono ?_
   rintro e w' ⟨rfl, rfl⟩
   rw [← HS.out]
   go_wp2_with fail
   refine (sign_any b _).mono ?_
   rintro e w' ⟨rfl, rfl⟩
   rw [← HT.out]
   go_wp2_with fail
   refine (cut_dec a _).mono ?_
   rintro e w' ⟨rfl, rfl⟩
   rw [← HX.out]
   go_wp2_with fail
   refine (cut_dec b _).mono ?_
   rintro e w' ⟨rfl, rfl⟩
   rw [← HY.out]
   go_wp2
   go_ret
   exact ⟨ret_int HR.out.symm, rfl⟩
  ·have hr : sgn (a - b) = s * c := by
    rw [HC.out, HX.out, HY.out, HS.out]
    exact (cmp_even HST.out (by rw [← HXD.out, ← HYD.out]; exact h)).symm
   have HR := Lib.hid hr
   have h1 : ¬ x.size < y.size := by omega
   have h2 : ¬ y.size < x.size := by omega
   clear hr h
   go_enter Tryz.func53, Tryz.ntmps53
   go_wp2_with fail
   refine (sign_any a _).mono ?_
   rintro e w' ⟨rfl, rfl⟩
   rw [← HS.out]
   go_wp2_with fail
   refine (sign_any b _).mono ?_
   rintro e w' ⟨rfl, rfl⟩
   rw [← HT.out]
   go_wp2_with fail
   refine (cut_dec a _).mono ?_
   rintro e w' ⟨rfl, rfl⟩
   rw [← HX.out]
   go_wp2_with fail
   refine (cut_dec b _).mono ?_
   rintro e w' ⟨rfl, rfl⟩
   rw [← HY.out]
   go_wp2_with fail
   refine (HCMP.out _).mono ?_
   rintro e w' ⟨rfl, rfl⟩
   go_wp2
   go_ret
   exact ⟨ret_int HR.out.symm, rfl⟩
  ·have hr : sgn (a - b) = s := by rw [HS.out]; exact cmp_long HST.out (abs_lt_of_digits (by rw [← HXD.out, ← HYD.out]; exact h))
   have HR := Lib.hid hr
   clear hr
   go_enter Tryz.func53, Tryz.ntmps53
   go_wp2_with fail
   refine (sign_any a _).mono ?_
   rintro e w' ⟨rfl, rfl⟩
   rw [← HS.out]
   go_wp2_with fail
   refine (sign_any b _).mono ?_
   rintro e w' ⟨rfl, rfl⟩
   rw [← HT.out]
   go_wp2_with fail
   refine (cut_dec a _).mono ?_
   rintro e w' ⟨rfl, rfl⟩
   rw [← HX.out]
   go_wp2_with fail
   refine (cut_dec b _).mono ?_
   rintro e w' ⟨rfl, rfl⟩
   rw [← HY.out]
   go_wp2
   go_ret
   exact ⟨ret_int HR.out.symm, rfl⟩
 ·have hr : sgn (a - b) = 1 := sgn_gt (by rw [← HS.out, ← HT.out]; exact h)
  have HR := Lib.hid hr
  clear hr
  go_enter Tryz.func53, Tryz.ntmps53
  go_wp2_with fail
  refine (sign_any a _).mono ?_
  rintro e w' ⟨rfl, rfl⟩
  rw [← HS.out]
  go_wp2_with fail
  refine (sign_any b _).mono ?_
  rintro e w' ⟨rfl, rfl⟩
  rw [← HT.out]
  go_wp2
  go_ret
  exact ⟨ret_int HR.out.symm, rfl⟩
end
section
open Go.RowKit
theorem mul_sign (a b : Int) : (if (!decide (a < 0) == decide (b < 0)) = true then -((a.natAbs * b.natAbs : Nat) : Int) else ((a.natAbs * b.natAbs : Nat) : Int)) = a * b := by
 rw [Int.natCast_mul]
 by_cases ha : a < 0 <;> by_cases hb : b < 0
 ·have e1 : (a.natAbs : Int) = -a := by omega
  have e2 : (b.natAbs : Int) = -b := by omega
  rw [decide_eq_true ha, decide_eq_true hb, e1, e2, Int.neg_mul_neg]; rfl
 ·have e1 : (a.natAbs : Int) = -a := by omega
  have e2 : (b.natAbs : Int) = b := by omega
  rw [decide_eq_true ha, decide_eq_false hb, e1, e2, Int.neg_mul, Int.neg_neg]; rfl
 ·have e1 : (a.natAbs : Int) = a := by omega
  have e2 : (b.natAbs : Int) = -b := by omega
  rw [decide_eq_false ha, decide_eq_true hb, e1, e2, Int.mul_neg, Int.neg_neg]; rfl
 ·have e1 : (a.natAbs : Int) = a := by omega
  have e2 : (b.natAbs : Int) = b := by omega
  rw [decide_eq_false ha, decide_eq_false hb, e1, e2]; rfl
theorem abs_lt9 {a : Int} (h : Lib.nDigits a.natAbs ≤ 9) : -999999999 ≤ a ∧ a ≤ 999999999 := by
 have h1 := Lib.lt_pow_nDigits a.natAbs
 have h2 : (10 : Nat) ^ Lib.nDigits a.natAbs ≤ 10 ^ 9 := Nat.pow_le_pow_right (by decide) h
 omega
set_option maxRecDepth 100000 in
set_option maxHeartbeats 1000000 in
theorem mul_any (a b : Int) (w : World) (ht : Tab w) (ha : Lib.nDigits a.natAbs ≤ 500000) (hb : Lib.nDigits b.natAbs ≤ 500000) :
  Calls Tryz.prog 52 #[.string (dec a), .string (dec b)] w fun e w' => e = .returned (.string (dec (a * b))) ∧ Below w.heap.size w w' := by
 have hla := Nat.le_trans (limbs_len_digits a.natAbs) ha
 have hlb := Nat.le_trans (limbs_len_digits b.natAbs) hb
 have hlab : (limbs (a.natAbs * b.natAbs)).length ≤ 1000000 := Nat.le_trans (limbs_len_mul _ _) (by omega)
 have hfin := mul_sign a b
 obtain ⟨p, hp⟩ : ∃ p, p = decide (a < 0) := ⟨_, rfl⟩
 obtain ⟨q, hq⟩ : ∃ q, q = decide (b < 0) := ⟨_, rfl⟩
 rw [← hp, ← hq] at hfin
 obtain ⟨M, hM⟩ : ∃ M, M = limbs a.natAbs := ⟨_, rfl⟩
 obtain ⟨N, hN⟩ : ∃ N, N = limbs b.natAbs := ⟨_, rfl⟩
 have hsa : ∀ W, Calls Tryz.prog 88 #[.string (dec a)] W fun e W' => ∃ A cap, e = .returned (.tuple #[.slice A M.length cap, .bool p]) ∧ Rd u64v W' W'.heap.size A M ∧ Below W.heap.size W W' := fun W =>
  (split_any a W (by omega)).mono fun e W' ⟨A, cap, he, hr, _, hb⟩ => ⟨A, cap, by rw [he, hM, hp], by rw [hM]; exact hr, hb⟩
 have hsb : ∀ W, Calls Tryz.prog 88 #[.string (dec b)] W fun e W' => ∃ A cap, e = .returned (.tuple #[.slice A N.length cap, .bool q]) ∧ Rd u64v W' W'.heap.size A N ∧ Below W.heap.size W W' := fun W =>
  (split_any b W (by omega)).mono fun e W' ⟨A, cap, he, hr, _, hb⟩ => ⟨A, cap, by rw [he, hN, hq], by rw [hN]; exact hr, hb⟩
 have hlM : lv M = a.natAbs := by rw [hM, lv_limbs]
 have hlN : lv N = b.natAbs := by rw [hN, lv_limbs]
 have hsM : Small M := by rw [hM]; exact limbs_small _
 have hsN : Small N := by rw [hN]; exact limbs_small _
 rw [← hM] at hla
 rw [← hN] at hlb
 have htm : ∀ (A1 A2 : Option Addr) (c1 c2 : Nat) W, Rd u64v W W.heap.size A1 M → Rd u64v W W.heap.size A2 N → Calls Tryz.prog 90 #[.slice A1 M.length c1, .slice A2 N.length c2] W (RetMag (a.natAbs * b.natAbs) W) := fun A1 A2 c1 c2 W h1 h2 => by
  have := times_any M N A1 A2 c1 c2 W h1 h2 hsM hsN (by omega) (by omega)
  rwa [hlM, hlN] at this
 have HSA := Lib.hid hsa
 have HSB := Lib.hid hsb
 have HTM := Lib.hid htm
 have HFIN := Lib.hid hfin
 have HLAB := Lib.hid hlab
 clear hsa hsb htm hfin hlab hM hN hp hq hlM hlN hsM hsN
 have tail : ∀ W, Tab W → True := fun _ _ => trivial
 clear tail
 by_cases h9a : Lib.nDigits a.natAbs ≤ 9
 ·by_cases h9b : Lib.nDigits b.natAbs ≤ 9
  ·obtain ⟨ba0, ba1⟩ := abs_lt9 h9a
   obtain ⟨bb0, bb1⟩ := abs_lt9 h9b
   have hab : -999999998000000001 ≤ a * b ∧ a * b ≤ 999999998000000001 := by
    have h1 : (a * b).natAbs ≤ 999999999 * 999999999 := by rw [Int.natAbs_mul]; exact Nat.mul_le_mul (by omega) (by omega)
    omega
   obtain ⟨hab0, hab1⟩ := hab
   go_enter Tryz.func52, Tryz.ntmps52
   go_wp2_with fail
   refine (quick_yes a 9 _ (by omega) (by omega)).mono ?_
   rintro e w1 ⟨rfl, hb1⟩
   have ht1 := ht.below hb1
   go_wp2_with fail
   refine (quick_yes b 9 _ (by omega) (by omega)).mono ?_
   rintro e w2 ⟨rfl, hb2⟩
   have ht2 := ht1.below hb2
   go_wp2_with fail
   refine (of_any (a * b) (by omega) (by omega) _ ht2).mono ?_
   rintro e w3 ⟨rfl, hb3⟩
   have hb := (hb1.trans (hb2.mono hb1.size)).trans (hb3.mono (Nat.le_trans hb1.size hb2.size))
   clear hb1 hb2 hb3
   go_wp2
   go_ret
   exact ⟨rfl, hb⟩
  ·go_enter Tryz.func52, Tryz.ntmps52
   go_wp2_with fail
   refine (quick_yes a 9 _ (by omega) (by omega)).mono ?_
   rintro e w1 ⟨rfl, hb1⟩
   go_wp2_with fail
   refine (quick_no b 9 _ (by omega) (by omega)).mono ?_
   rintro e w2 ⟨rfl, rfl⟩
   go_wp2_with fail
   refine (HSA.out _).mono ?_
   rintro e w2 ⟨A1, c1, rfl, hr1, hb2⟩
   have hbb := hb1.trans (hb2.mono hb1.size)
   clear hb1 hb2
   go_wp2_with fail
   refine (HSB.out _).mono ?_
   rintro e w3 ⟨A2, c2, rfl, hr2, hb3⟩
   have hr1 := (hr1.below hb3).more hb3.size
   have hb4 := hbb.trans (hb3.mono hbb.size)
   clear hb3 hbb
   go_wp2_with fail
   refine (HTM.out _ _ _ _ _ hr1 hr2).mono ?_
   rintro e w5 ⟨A, cap, rfl, hr, hc, hb5⟩
   have hb6 := hb4.trans (hb5.mono hb4.size)
   clear hb5 hb4 hr1 hr2 hc
   go_wp2_with fail
   have ht6 := ht.below hb6
   refine (signed_any _ _ A cap _ ht6 hr HLAB.out).mono ?_
   rintro e w7 ⟨rfl, hb7⟩
   have hb8 := hb6.trans (hb7.mono hb6.size)
   clear hb6 hb7 hr
   rw [HFIN.out]
   go_wp2
   go_ret
   exact ⟨rfl, hb8⟩
 ·go_enter Tryz.func52, Tryz.ntmps52
  go_wp2_with fail
  refine (quick_no a 9 _ (by omega) (by omega)).mono ?_
  rintro e w2 ⟨rfl, rfl⟩
  go_wp2_with fail
  refine (HSA.out _).mono ?_
  rintro e w2 ⟨A1, c1, rfl, hr1, hbb⟩
  go_wp2_with fail
  refine (HSB.out _).mono ?_
  rintro e w3 ⟨A2, c2, rfl, hr2, hb3⟩
  have hr1 := (hr1.below hb3).more hb3.size
  have hb4 := hbb.trans (hb3.mono hbb.size)
  clear hb3 hbb
  go_wp2_with fail
  refine (HTM.out _ _ _ _ _ hr1 hr2).mono ?_
  rintro e w5 ⟨A, cap, rfl, hr, hc, hb5⟩
  have hb6 := hb4.trans (hb5.mono hb4.size)
  clear hb5 hb4 hr1 hr2 hc
  go_wp2_with fail
  have ht6 := ht.below hb6
  refine (signed_any _ _ A cap _ ht6 hr HLAB.out).mono ?_
  rintro e w7 ⟨rfl, hb7⟩
  have hb8 := hb6.trans (hb7.mono hb6.size)
  clear hb6 hb7 hr
  rw [HFIN.out]
  go_wp2
  go_ret
  exact ⟨rfl, hb8⟩
end
end Go.Proofs.YtendjepcjmfmfaaGreatDoor
namespace Go.Proofs.YtendjepcjmfmfaaGreatDoor
open Go.RowKit
theorem i64_and_nat (a b : Nat) (ha : a < 9223372036854775808) (hb : b < 9223372036854775808) : bits .and .i64 (a : Int) (b : Int) = ((a &&& b : Nat) : Int) := by
 have hx : a &&& b < 2 ^ 63 := Nat.and_lt_two_pow _ (by omega)
 have h1 : (BitVec.ofInt 64 (a : Int)).toNat = a := by
  rw [BitVec.ofInt_natCast, BitVec.toNat_ofNat]; exact Nat.mod_eq_of_lt (by omega)
 have h2 : (BitVec.ofInt 64 (b : Int)).toNat = b := by
  rw [BitVec.ofInt_natCast, BitVec.toNat_ofNat]; exact Nat.mod_eq_of_lt (by omega)
 show IntKind.i64.wrap ((BitVec.ofInt 64 (a : Int) &&& BitVec.ofInt 64 (b : Int)).toNat : Int) = _
 rw [BitVec.toNat_and, h1, h2, IntKind.wrap_i64]
 omega
theorem bit_test (n i : Nat) (hn : n < 9223372036854775808) (hi : 2 ^ i < 9223372036854775808) : (bits .and .i64 (n : Int) ((2 ^ i : Nat) : Int) != 0) = decide (n / 2 ^ i % 2 = 1) := by
 rw [i64_and_nat n _ hn hi, ← Nat.testBit_eq_decide_div_mod_eq]
 cases h : n.testBit i with
 | true =>
  have h1 : (n &&& 2 ^ i).testBit i = true := by rw [Nat.testBit_and, h, Nat.testBit_two_pow_self]; rfl
  have h2 : n &&& 2 ^ i ≠ 0 := fun e => by rw [e] at h1; simp at h1
  rw [bne_iff_ne]; omega
 | false =>
  have h2 : n &&& 2 ^ i = 0 := by
   apply Nat.eq_of_testBit_eq
   intro k
   rw [Nat.testBit_and, Nat.testBit_two_pow, Nat.zero_testBit]
   by_cases e : i = k
   ·subst e; simp [h]
   ·simp [e]
  rw [h2]; rfl
theorem pow_len (x k : Nat) : (limbs (x ^ k)).length ≤ k * Lib.nDigits x + 1 := by
 refine limbs_len_le _ _ ?_
 have h1 : x ^ k ≤ (10 ^ Lib.nDigits x) ^ k := Nat.pow_le_pow_left (Nat.le_of_lt (Lib.lt_pow_nDigits x)) k
 rw [← Nat.pow_mul, Nat.mul_comm] at h1
 have h2 : (10 : Nat) ^ (k * Lib.nDigits x) ≤ 1000000000 ^ (k * Lib.nDigits x) := Nat.pow_le_pow_left (by decide) _
 have h3 : 0 < 1000000000 ^ (k * Lib.nDigits x) := Nat.pow_pos (by decide)
 rw [Nat.pow_succ]
 omega
def powAt (x n j : Nat) : Nat := x ^ (n / 2 ^ j)
theorem powAt_one (x n j : Nat) (h : n / 2 ^ j % 2 = 1) : powAt x n (j + 1) * powAt x n (j + 1) * x = powAt x n j := by
 unfold powAt
 rw [← Nat.pow_add, ← Nat.pow_succ]
 congr 1
 rw [Nat.pow_succ, ← Nat.div_div_eq_div_mul]; omega
theorem powAt_no (x n j : Nat) (h : n / 2 ^ j % 2 = 0) : powAt x n (j + 1) * powAt x n (j + 1) = powAt x n j := by
 unfold powAt
 rw [← Nat.pow_add]
 congr 1
 rw [Nat.pow_succ, ← Nat.div_div_eq_div_mul]; omega
theorem powAt_len (x n j : Nat) (h : n * Lib.nDigits x ≤ 24000) : (limbs (powAt x n j)).length ≤ 24001 := by
 refine Nat.le_trans (pow_len _ _) ?_
 have : n / 2 ^ j * Lib.nDigits x ≤ n * Lib.nDigits x := Nat.mul_le_mul_right _ (Nat.div_le_self _ _)
 omega
theorem pow_sign (a : Int) (n : Nat) : (if (decide (a < 0) && ((n : Int) % 2 == 1)) = true then -((a.natAbs ^ n : Nat) : Int) else ((a.natAbs ^ n : Nat) : Int)) = a ^ n := by
 rw [Int.natCast_pow]
 by_cases ha : a < 0
 ·have e1 : (a.natAbs : Int) = -a := by omega
  rw [e1, decide_eq_true ha, Bool.true_and, Int.neg_pow]
  rcases Nat.mod_two_eq_zero_or_one n with h | h
  ·have h2 : ((n : Int) % 2 == 1) = false := by rw [beq_eq_false_iff_ne]; omega
   rw [h2, if_neg (by decide), h]; simp
  ·have h2 : ((n : Int) % 2 == 1) = true := by rw [beq_iff_eq]; omega
   rw [h2, if_pos rfl, h]; simp
 ·have e1 : (a.natAbs : Int) = a := by omega
  rw [e1, decide_eq_false ha, Bool.false_and, if_neg (by decide)]
set_option maxRecDepth 100000 in
set_option maxHeartbeats 1000000 in
theorem power_any (a : Int) (n : Nat) (w : World) (ht : Tab w) (hn : n ≤ 6000) (hd : n * Lib.nDigits a.natAbs ≤ 24000) (hd1 : Lib.nDigits a.natAbs ≤ 24000) :
  Calls Tryz.prog 50 #[.string (dec a), .int .i64 n] w fun e w' => e = .returned (.tuple #[.string (dec (a ^ n)), .int .i64 0]) ∧ Below w.heap.size w w' := by
 obtain ⟨p, hp⟩ : ∃ p, p = decide (a < 0) := ⟨_, rfl⟩
 obtain ⟨M, hM⟩ : ∃ M, M = limbs a.natAbs := ⟨_, rfl⟩
 have hla := Nat.le_trans (limbs_len_digits a.natAbs) hd1
 have hsa : ∀ W, Calls Tryz.prog 88 #[.string (dec a)] W fun e W' => ∃ A cap, e = .returned (.tuple #[.slice A M.length cap, .bool p]) ∧ Rd u64v W' W'.heap.size A M ∧ Below W.heap.size W W' := fun W =>
  (split_any a W (by omega)).mono fun e W' ⟨A, cap, he, hr, _, hb⟩ => ⟨A, cap, by rw [he, hM, hp], by rw [hM]; exact hr, hb⟩
 have htx : ∀ A cap W, Tab W → Rd u64v W W.heap.size A M → Calls Tryz.prog 89 #[.slice A M.length cap] W fun e W' => e = .returned (.string (absS a)) ∧ Below W.heap.size W W' := fun A cap W hT hR => by
  have := text_any a.natAbs A cap W hT (by rw [← hM]; exact hR) (by omega)
  rw [← hM] at this
  refine this.mono fun e W' ⟨he, hb⟩ => ⟨by rw [he, dec_nat]; rfl, hb⟩
 have hsz : (absS a).size = Lib.nDigits a.natAbs := absS_size a
 obtain ⟨s, hs⟩ : ∃ s, s = absS a := ⟨_, rfl⟩
 rw [← hs] at hsz htx
 have hns : (n : Int) * (s.size : Int) ≤ 24000 := by rw [hsz]; have : ((n * Lib.nDigits a.natAbs : Nat) : Int) ≤ 24000 := by omega
                                                     simpa using this
 have hns0 : 0 ≤ (n : Int) * (s.size : Int) := by have : (0 : Int) ≤ ((n * s.size : Nat) : Int) := by omega
                                                  simpa using this
 have HSA := Lib.hid hsa
 have HTX := Lib.hid htx
 have HP := Lib.hid hp
 have HM := Lib.hid hM
 have HLA := Lib.hid hla
 have HD := Lib.hid hd
 clear hsa htx hp hM hla hsz hs hd
 go_enter Tryz.func50, Tryz.ntmps50
 go_wp2_with fail
 refine (HSA.out _).mono ?_
 rintro e w1 ⟨A1, c1, rfl, hr1, hb1⟩
 have ht1 := ht.below hb1
 go_wp2_with fail
 refine (HTX.out _ _ _ ht1 hr1).mono ?_
 rintro e w2 ⟨rfl, hb2⟩
 have hr2 := (hr1.below hb2).more hb2.size
 have hb := hb1.trans (hb2.mono hb1.size)
 clear hb1 hb2 hr1 ht1
 go_wp2_with fail
 go_loopw [8, 9] (fun v b wr => ∃ (j : Nat) (A : Option Addr) (c bt : Nat), j ≤ 14 ∧ b = .int .i64 bt ∧ bt = 2 ^ j / 2 ∧ v = .slice A (limbs (powAt a.natAbs n j)).length c ∧ Rd u64v wr wr.heap.size A (limbs (powAt a.natAbs n j)) ∧ Below w.heap.size w wr ∧ Below w2.heap.size w2 wr)
  (fun _ b _ => (intOf b).toNat)
 case atStart =>
  have e : powAt a.natAbs n 14 = 1 := by
   unfold powAt
   rw [show n / 2 ^ 14 = 0 from Nat.div_eq_of_lt (by omega)]; rfl
  have e1 : limbs 1 = [1] := by rw [limbs_pos (by decide), Nat.div_eq_of_lt (by decide), limbs_zero]
  refine ⟨14, some ⟨w2.heap.size, 0, none⟩, 1, 8192, by omega, rfl, rfl, by rw [e, e1]; rfl, ?_, hb.alloc hb.size _, (Below.refl _ _).alloc (Nat.le_refl _) _⟩
  rw [e, e1]
  exact Blk.rd (t := 145) (L := [1]) (heap_alloc_new w2 _)
 case round =>
  obtain ⟨j, A, c, bt, hj, rfl, hbt, rfl, hr, hbw, hb2⟩ := hrel
  have hr2' := (hr2.below hb2).more hb2.size
  have htw := ht.below hbw
  by_cases hj0 : j = 0
  ·subst hj0
   have hb0 : bt = 0 := by rw [hbt]
   subst hb0
   have hl0 := Nat.le_trans (powAt_len a.natAbs n 0 HD.out) (show 24001 ≤ 1000000 by omega)
   have hfin := pow_sign a n
   rw [← HP.out] at hfin
   rw [show powAt a.natAbs n 0 = a.natAbs ^ n by simp [powAt]] at hr hl0 ⊢
   have hsg := signed_any (a.natAbs ^ n) (p && ((n : Int) % 2 == 1)) A c wr htw hr hl0
   rw [hfin] at hsg
   have HSG := Lib.hid hsg
   have HB := Lib.hid hbw
   clear hsg hfin hl0 hr hr2 hr2' hbw hb2 hb htw hbt
   cases p with
   | false =>
    go_wp2_with fail
    refine HSG.out.mono ?_
    rintro e w5 ⟨rfl, hb5⟩
    have HB5 := Lib.hid (HB.out.trans (hb5.mono HB.out.size))
    clear hb5
    go_wp2
    go_ret2
    exact ⟨rfl, HB5.out⟩
   | true =>
    go_wp2_with fail
    refine HSG.out.mono ?_
    rintro e w5 ⟨rfl, hb5⟩
    have HB5 := Lib.hid (HB.out.trans (hb5.mono HB.out.size))
    clear hb5
    go_wp2
    go_ret2
    exact ⟨rfl, HB5.out⟩
  ·obtain ⟨i, rfl⟩ : ∃ i, j = i + 1 := ⟨j - 1, by omega⟩
   have hbt' : bt = 2 ^ i := by rw [hbt, Nat.pow_succ]; omega
   have hbp : 0 < bt := by rw [hbt']; exact Nat.pow_pos (by decide)
   have hbm : bt ≤ 8192 := by rw [hbt']; exact Nat.pow_le_pow_right (n := 2) (by decide) (show i ≤ 13 by omega)
   have HBT := Lib.hid hbt'
   have htest := bit_test n i (by omega) (by rw [← hbt']; omega)
   rw [← hbt'] at htest
   clear hbt hbt'
   by_cases hodd : n / bt % 2 = 1
   ·rw [decide_eq_true hodd] at htest
    have hlen := Nat.le_trans (powAt_len a.natAbs n (i + 1) HD.out) (show 24001 ≤ 1000000 by omega)
    have hlenm := Nat.le_trans (limbs_len_mul (powAt a.natAbs n (i + 1)) (powAt a.natAbs n (i + 1))) (show _ ≤ 48002 by have := powAt_len a.natAbs n (i + 1) HD.out; omega)
    have HE := Lib.hid (powAt_one a.natAbs n i (by rw [← HBT.out]; exact hodd))
    have HL := Lib.hid hlen
    have HLM := Lib.hid hlenm
    clear hodd hlen hlenm
    go_wp2_with fail
    refine (times_any (limbs (powAt a.natAbs n (i + 1))) (limbs (powAt a.natAbs n (i + 1))) _ _ _ _ _ hr hr (limbs_small _) (limbs_small _) HL.out HL.out).mono ?_
    rw [lv_limbs]
    rintro e w3 ⟨A3, c3, rfl, hr3, _, hb3⟩
    go_wp2_with fail
    have htm := times_any (limbs (powAt a.natAbs n (i + 1) * powAt a.natAbs n (i + 1))) M A3 A1 c3 c1 w3 hr3 ((hr2'.below hb3).more hb3.size) (limbs_small _) (by rw [HM.out]; exact limbs_small _) (Nat.le_trans HLM.out (by omega)) (by rw [HM.out]; exact Nat.le_trans HLA.out (by omega))
    rw [lv_limbs, show lv M = a.natAbs by rw [HM.out, lv_limbs], HE.out] at htm
    refine htm.mono ?_
    rintro e w4 ⟨A4, c4, rfl, hr4, _, hb4⟩
    have hbw4 := (hbw.trans (hb3.mono hbw.size)).trans (hb4.mono (Nat.le_trans hbw.size hb3.size))
    have hb24 := (hb2.trans (hb3.mono hb2.size)).trans (hb4.mono (Nat.le_trans hb2.size hb3.size))
    clear hb3 hb4 hr3 hbw hb2 hr
    go_wp2
    go_roundw
    case rel => exact ⟨i, A4, c4, bt / 2, by omega, by simp, by rw [HBT.out], rfl, hr4, hbw4, hb24⟩
    case measure => simp [intOf]; omega
   ·rw [decide_eq_false hodd] at htest
    have hlen := Nat.le_trans (powAt_len a.natAbs n (i + 1) HD.out) (show 24001 ≤ 1000000 by omega)
    have HE := Lib.hid (powAt_no a.natAbs n i (by rw [← HBT.out]; omega))
    have HL := Lib.hid hlen
    clear hodd hlen
    go_wp2_with fail
    refine (times_any (limbs (powAt a.natAbs n (i + 1))) (limbs (powAt a.natAbs n (i + 1))) _ _ _ _ _ hr hr (limbs_small _) (limbs_small _) HL.out HL.out).mono ?_
    rw [lv_limbs, HE.out]
    rintro e w3 ⟨A3, c3, rfl, hr3, _, hb3⟩
    have hbw4 := hbw.trans (hb3.mono hbw.size)
    have hb24 := hb2.trans (hb3.mono hb2.size)
    clear hb3 hbw hb2 hr
    go_wp2
    go_roundw
    case rel => exact ⟨i, A3, c3, bt / 2, by omega, by simp, by rw [HBT.out], rfl, hr3, hbw4, hb24⟩
    case measure => simp [intOf]; omega
end Go.Proofs.YtendjepcjmfmfaaGreatDoor
