/- integer.magnitude.text: the decimal text of a magnitude. Conditions: at most a million limbs; the library's table of powers of ten reads as its text lays it. -/
import Derived.Test.YtplonkeipdbchaaGreatDoorBackward
import Derived.Test.YtplonkeipdbchaaGreatDoorBuilder
import Derived.Test.YtplonkeipdbchaaGreatDoorStrconv
import Derived.Test.YtplonkeipdbchaaGreatDoorDig
namespace Go.Proofs.YtplonkeipdbchaaGreatDoor
open Go.RowKit Go.Shelf

attribute [local go_sem] Oper.semAt_some

/-- What a round writes. -/
def piece (n : Nat) (x : IxLimb) : List UInt8 := if x.1.1 + 1 < n then List.replicate (9 - Lib.nDigits x.1.2) 48 ++ Lib.decDigits x.1.2 else Lib.decDigits x.1.2
def pieces (n : Nat) (l : List IxLimb) : List UInt8 := l.flatMap (piece n)
theorem pieces_snoc (n : Nat) (l : List IxLimb) (x : IxLimb) : pieces n (l ++ [x]) = pieces n l ++ piece n x := by simp [pieces]
theorem piece_len (n : Nat) (x : IxLimb) : (piece n x).length ≤ 18 := by
  have h := nDigits_le x.1.2 9 (by decide) x.2.2
  unfold piece
  split
  · rw [List.length_append, List.length_replicate, Lib.decDigits_length]; omega
  · rw [Lib.decDigits_length]; omega
theorem pieces_len (n : Nat) (l : List IxLimb) : (pieces n l).length ≤ 18 * l.length := by
  induction l with
  | nil => simp [pieces]
  | cons x l ih =>
    have := piece_len n x
    have e : pieces n (x :: l) = piece n x ++ pieces n l := by simp [pieces]
    rw [e, List.length_append, List.length_cons]; omega
theorem pieces_back (L : List Nat) (hs : Small L) (hl : L.length ≤ 1000000) (hn : ∀ i, i < L.length → lv (L.drop i) ≠ 0) (k : Nat) (hk : k < L.length) :
    pieces L.length (back (pairAt L hs hl) (k + 1)) = txt L (L.length - 1 - k) := by
  induction k with
  | zero =>
    rw [back_succ, pieces_snoc]
    unfold piece
    rw [pairAt_eq L hs hl 0 hk]
    dsimp only
    rw [if_neg (by omega), txt_top L _ (by omega)]
    simp [back, pieces]
  | succ k ih =>
    rw [back_succ, pieces_snoc, ih (by omega)]
    unfold piece
    rw [pairAt_eq L hs hl (k + 1) hk]
    dsimp only
    rw [if_pos (by omega), txt_step L hs (L.length - 1 - (k + 1)) (by omega) (hn _ (by omega))]
    rw [show L.length - 1 - (k + 1) + 1 = L.length - 1 - k by omega]
theorem pieces_all (p : Nat) (hp : p ≠ 0) (hl : (limbs p).length ≤ 1000000) :
    pieces (limbs p).length (back (pairAt (limbs p) (limbs_small p) hl) (limbs p).length) = Lib.decDigits p := by
  have h0 := limbs_len_pos hp
  have := pieces_back (limbs p) (limbs_small p) hl (fun i hi => limbs_drop_ne hi) ((limbs p).length - 1) (by omega)
  rw [show (limbs p).length - 1 + 1 = (limbs p).length by omega, Nat.sub_self] at this
  rw [this]; unfold txt; rw [List.drop_zero, lv_limbs]

theorem repeatL_one (c : UInt8) (k : Nat) : Lib.repeatL [c] k = List.replicate k c := by
  induction k with
  | zero => simp [Lib.repeatL]
  | succ k ih => simp_all [Lib.repeatL, List.replicate_succ]
theorem size_list (l : List UInt8) : (⟨l.toArray⟩ : ByteArray).size = l.length := by show l.toArray.size = _; simp
theorem strCells_list (l : List UInt8) : Lib.strCells ⟨l.toArray⟩ = Lib.byteCells l := by simp [Lib.strCells, Lib.byteCells]

/-- A builder stays one where a block that holds no cells turns. -/
theorem builder_kept {T e : TypeId} {B b : Nat} {bs : List Value} {W W' : World} {row : Option Nat} (h : Lib.IsBuilder T e B b bs W) (hg : W.grownBy W' row) (hr : ∀ r, row = some r → ∃ o : Obj, W.heap[r]? = some o ∧ o.isCells = false) :
    Lib.IsBuilder T e B b bs W' := by
  have key : ∀ p, Lib.BuilderAt T e B b p bs W → Lib.BuilderAt T e B b p bs W' := by
    rintro p ⟨hB, v, hb, hown, hne⟩
    have hlt : b < W.heap.size := Lib.BuilderAt.lt ⟨hB, v, hb, hown, hne⟩
    refine ⟨hB, v, ?_, ?_, hne⟩
    · rw [hg.block b hlt (fun e => by
        obtain ⟨o, ho, hc⟩ := hr b e.symm
        rw [hb] at ho; cases ho; cases hc)]
      exact hb
    · refine hown.kept hg ?_
      rcases hown.2 with ⟨hv, _⟩ | ⟨g, cap, cur, hv, _, hgg, _⟩
      · exact Or.inl (by rw [hv]; rfl)
      · refine Or.inr ?_
        rw [hv]
        intro e
        obtain ⟨o, ho, hc⟩ := hr g e.symm
        rw [hgg] at ho; cases ho; cases hc
  exact h.elim (fun h => .inl (key _ h)) (fun h => .inr (key _ h))

theorem builder_below {T e : TypeId} {B b : Nat} {p : Value} {bs : List Value} {W W' : World} (h : Lib.BuilderAt T e B b p bs W) (hb : Below W.heap.size W W') : Lib.BuilderAt T e B b p bs W' := by
  obtain ⟨hB, v, hk, hown, hne⟩ := h
  have hlt : b < W.heap.size := Lib.BuilderAt.lt ⟨hB, v, hk, hown, hne⟩
  refine ⟨hB, v, (hb.block b hlt).trans hk, ⟨hown.1, ?_⟩, hne⟩
  rcases hown.2 with h | ⟨g, cap, cur, hv, hg, hh, r⟩
  · exact Or.inl h
  · refine Or.inr ⟨g, cap, cur, hv, hg, (hb.block g ?_).trans hh, r⟩
    rcases Nat.lt_or_ge g W.heap.size with h' | h'
    · exact h'
    · rw [Array.getElem?_eq_none h'] at hh; cases hh

set_option maxRecDepth 100000 in
set_option maxHeartbeats 4000000 in
theorem text_in (p : Nat) (hp : p ≠ 0) (A : Option Addr) (cap : Nat) (w : World) (ht : Tab w) (hr : Rd u64v w w.heap.size A (limbs p)) (hl : (limbs p).length ≤ 1000000) :
    CallsIn Fence.wide 6 Tryz.prog 81 #[.slice A (limbs p).length cap] w fun e w' => e = .returned (.string (dec p)) ∧ Below w.heap.size w w' := by
  have h0 := limbs_len_pos hp
  obtain ⟨n, hn⟩ : ∃ n, n = (limbs p).length := ⟨_, rfl⟩
  rw [← hn]
  have hn0 : 0 < n := by omega
  have hn1 : n ≤ 1000000 := by omega
  have hnz : ((n : Int) == 0) = false := by simp; omega
  have HN := Lib.hid hn
  clear hn h0
  refine callsIn_of_wp_marks Tryz.func81 rfl trivial ?_ rfl
  simp only [Tryz.ntmps81, List.size_toArray, List.length_cons, List.length_nil, Nat.reduceAdd, Nat.reduceSub, Array.replicate_succ, Array.replicate_zero, List.push_toArray, List.append_toArray, List.nil_append, List.cons_append]
  gi_wp2_with (refine ⟨trivial, ?_⟩; gi_at_call 97; refine (backwardOf_in Fence.wide 5 trivial rfl _ _ _ _).mono ?_; rintro e w' ⟨rfl, rfl⟩)
  obtain ⟨W3, hW3⟩ : ∃ W3, W3 = ((w.alloc (Obj.cells #[Value.slice A n cap] 91)).alloc (Obj.cells #[Value.pointer none, Value.slice none 0 0] 142)).alloc (Obj.cells #[Value.slice A n cap] 91) := ⟨_, rfl⟩
  rw [← hW3]
  have hz3 : W3.heap.size = w.heap.size + 3 := by rw [hW3]; simp
  have hb0 : W3.heap[w.heap.size]? = some (.cells #[Value.slice A n cap] 91 (0, 0)) := by
    rw [hW3, Below.heap_alloc _ _ _ (by simp; omega), Below.heap_alloc _ _ _ (by simp)]; exact heap_alloc_new w _
  have hb1 : W3.heap[w.heap.size + 1]? = some (.cells #[Value.pointer none, Value.slice none 0 0] 142 (0, 0)) := by
    rw [hW3, Below.heap_alloc _ _ _ (by simp)]
    have := heap_alloc_new (w.alloc (Obj.cells #[Value.slice A n cap] 91)) (Obj.cells #[Value.pointer none, Value.slice none 0 0] 142)
    rwa [World.size_alloc] at this
  have hb2 : W3.heap[w.heap.size + 1 + 1]? = some (.cells #[Value.slice A n cap] 91 (0, 0)) := by
    rw [hW3]
    have := heap_alloc_new ((w.alloc (Obj.cells #[Value.slice A n cap] 91)).alloc (Obj.cells #[Value.pointer none, Value.slice none 0 0] 142)) (Obj.cells #[Value.slice A n cap] 91)
    rwa [World.size_alloc, World.size_alloc] at this
  have hB3 : Below w.heap.size w W3 := by rw [hW3]; exact (((Below.refl _ w).alloc (Nat.le_refl _) _).alloc (by simp) _).alloc (by simp; omega) _
  have hI3 : Lib.IsBuilder 142 5 (w.heap.size + 1) (w.heap.size + 1) (Lib.byteCells []) W3 :=
    .inl ⟨Nat.le_refl _, _, hb1, World.ownsRow_nil _ _ _ _, by simp [Value.ownBlock]⟩
  have hbox : W3.cell? ⟨w.heap.size + 1 + 1, 0, none⟩ = some (.slice A n cap) := by rw [Lib.cell_of_heap hb2]; rfl
  clear hW3
  refine wpIn_rangeFunc_ownF rfl (by decide) (gf := 110) (lb := #[.pointer (some ⟨w.heap.size + 1 + 1, 0, none⟩)]) rfl trivial (enters_of Tryz.func110 (by kernel_rfl) rfl)
    (backward_stops Fence.wide 5 trivial rfl (by decide) (w.heap.size + 1 + 1) (w.heap.size + 1) A cap (limbs p) (limbs_small p) hl W3 (by omega) (by omega) (by rw [← HN.out]; exact hbox) ((hr.below hB3).more (by omega)))
    KeepBox.trans (KeepBox.put (by omega) (by omega)) (Below.refl _ _) (fun _ => rfl)
    (fun pre W => (Lib.IsBuilder 142 5 (w.heap.size + 1) (w.heap.size + 1) (Lib.byteCells (pieces n pre)) W ∧ W.heap[w.heap.size + 1 + 1]? = some (.cells #[Value.slice A n cap] 91 (0, 0))) ∧ Below (w.heap.size + 1) W3 W)
    (fun _ _ _ => False)
    (OwnFrom.and (Own.from (fun s X Y row hs hg hr => ⟨builder_kept hs.1 hg hr, by
      rw [hg.block _ (by
        rcases Nat.lt_or_ge (w.heap.size + 1 + 1) X.heap.size with h' | h'
        · exact h'
        · rw [Array.getElem?_eq_none h'] at hs; cases hs.2) (fun e => by
        obtain ⟨o, ho, hc⟩ := hr _ e.symm
        rw [hs.2] at ho; cases ho; cases hc)]
      exact hs.2⟩) _) (ownFrom_below (by omega) (by omega)))
    (fun _ _ _ _ _ hs _ _ => hs)
    ⟨⟨hI3, hb2⟩, Below.refl _ _⟩
    (fun x => { tmps := #[Value.slice A n cap, Value.pointer (some ⟨w.heap.size, 0, none⟩), Value.string { data := #[] },
          Value.pointer (some ⟨w.heap.size + 1, 0, none⟩), .int .i64 (x.1.1 : Int), .int .u64 (x.1.2 : Int), undef, Value.slice A n cap,
          Value.int IntKind.i64 ↑n, Value.bool false, Value.slice A n cap,
          Value.func (Fn.func 110) #[] #[Value.pointer (some ⟨w.heap.size + 1 + 1, 0, none⟩)], .int .i64 (x.1.1 : Int), .int .u64 (x.1.2 : Int),
          undef, undef, undef, undef, undef, undef, undef, undef, undef, undef, undef, undef, undef, undef, undef], defers := [] }) ?assign ?body ?done ?stop
  case assign =>
    intro l x W K hK
    gi_wp2
    exact hK
  case body =>
    rintro l pre x W ⟨⟨hI, hbx⟩, hB⟩ hpre
    obtain ⟨⟨i, u⟩, hi, hu⟩ := x
    have hTW : Tab W := ht.below (hB3.trans (hB.mono (by omega)))
    have hsz : w.heap.size + 3 ≤ W.heap.size := by have := hB.size; omega
    have hcm : W.cell? ⟨w.heap.size, 0, none⟩ = some (.slice A n cap) := by rw [hB.cell (by show w.heap.size < _; omega), Lib.cell_of_heap hb0]; rfl
    have hpl : (Lib.byteCells (pieces n pre)).length ≤ 18000000 := by
      have := pieces_len n pre
      rw [Lib.byteCells, List.length_map]; have := HN.out; omega
    have hd9 : Lib.nDigits u ≤ 9 := nDigits_le u 9 (by decide) hu
    have hpc := pieces_snoc n pre ⟨(i, u), hi, hu⟩
    unfold piece at hpc
    dsimp only at hpc hi hu ⊢
    have HI := Lib.hid hI
    have HBX := Lib.hid hbx
    have HB := Lib.hid hB
    clear hI hbx hB hb0 hb1 hb2 hI3 hbox hr hB3
    obtain ⟨nd, hnd⟩ : ∃ nd, nd = Lib.nDigits u := ⟨_, rfl⟩
    have hnd9 : nd ≤ 9 := by omega
    obtain ⟨ds, hds⟩ : ∃ ds, ds = Lib.decDigits u := ⟨_, rfl⟩
    have hdl : ds.length = nd := by rw [hds, Lib.decDigits_length, hnd]
    rw [← hds, ← hnd] at hpc
    have HDS := Lib.hid hds
    have HDL := Lib.hid hdl
    clear hds hnd hdl hd9
    gi_wp2_with fail
    refine ⟨trivial, ?_⟩
    refine (CallsIn.inRound l (callsIn_wide.2 (formatUint_any u (by omega) _ hTW))).mono ?_
    rintro e W1 ⟨rfl, hb1⟩
    rw [← HDS.out]
    have hcm1 : W1.cell? ⟨w.heap.size, 0, none⟩ = some (.slice A n cap) := by rw [hb1.cell (by show w.heap.size < _; omega)]; exact hcm
    have hTW1 : Tab W1 := hTW.below hb1
    have hz1 : W.heap.size ≤ W1.heap.size := hb1.size
    have HI1 := Lib.hid ((HI.out).elim (fun h => Or.inl (builder_below h hb1)) (fun h => Or.inr (builder_below h hb1)) : Lib.IsBuilder 142 5 (w.heap.size + 1) (w.heap.size + 1) (Lib.byteCells (pieces n pre)) W1)
    have HBX1 := Lib.hid ((KeepT.of_below (b := w.heap.size + 1) hb1) _ _ _ _ HBX.out (by omega) (by decide))
    have HO1 := Lib.hid (others_of_below hb1)
    have HB1 := Lib.hid hb1
    clear hb1 hcm hTW
    have hdl9 : ds.length ≤ 9 := by rw [HDL.out]; exact hnd9
    rw [← HDL.out] at hpc
    clear HDL hnd9
    by_cases hin : i + 1 < n
    · rw [if_pos hin] at hpc
      obtain ⟨zs, hzs⟩ : ∃ zs, zs = List.replicate (9 - ds.length) (48 : UInt8) := ⟨_, rfl⟩
      rw [← hzs] at hpc
      have hzl : zs.length ≤ 9 := by rw [hzs, List.length_replicate]; omega
      have HZS := Lib.hid hzs
      have HP := Lib.hid hpc
      clear hpc hzs
      gi_wp2_with fail
      rw [show (9 : Int) - (ds.length : Int) = ((9 - ds.length : Nat) : Int) from by omega]
      refine ⟨trivial, ?_⟩
      refine (CallsIn.inRound l (callsIn_wide.2 (Tryz.strings_Repeat ⟨#[48]⟩ (9 - ds.length) _ (by omega) (by show 1 * (9 - ds.length) ≤ _; omega)))).mono ?_
      rintro e W2 ⟨rfl, hb2⟩
      rw [show Lib.repeatL (ByteArray.mk #[48]).data.toList (9 - ds.length) = zs from (repeatL_one 48 _).trans HZS.out.symm]
      have hz2 : W1.heap.size ≤ W2.heap.size := hb2.size
      have hI2 : Lib.IsBuilder 142 5 (w.heap.size + 1) (w.heap.size + 1) (Lib.byteCells (pieces n pre)) W2 := HI1.out.elim (fun h => Or.inl (builder_below h hb2)) (fun h => Or.inr (builder_below h hb2))
      have HI2 := Lib.hid hI2
      have HBX2 := Lib.hid ((KeepT.of_below (b := w.heap.size + 1) hb2) _ _ _ _ HBX1.out (by omega) (by decide))
      have HO2 := Lib.hid (HO1.out.trans (others_of_below hb2))
      have HB2 := Lib.hid ((HB1.out.mono (by omega) : Below (w.heap.size + 1) W W1).trans (hb2.mono (by omega)))
      clear hb2 hI2
      gi_wp2_with fail
      refine ⟨trivial, ?_⟩
      refine (CallsIn.inRound l (callsIn_wide.2 (writeString_any (w.heap.size + 1) (w.heap.size + 1) _ ⟨zs.toArray⟩ _ HI2.out (by rw [size_list]; omega) (by omega)))).mono ?_
      rintro e W4 ⟨rfl, hI4, hb4, ho4, hk4⟩
      rw [strCells_list, ← Lib.byteCells_append] at hI4
      have hz4 : W2.heap.size ≤ W4.heap.size := hb4.size
      have HI4 := Lib.hid hI4
      have HBX4 := Lib.hid (hk4 _ _ _ _ HBX2.out (by omega) (by decide))
      have HO4 := Lib.hid (HO2.out.trans ho4)
      have HB4 := Lib.hid (HB2.out.trans hb4)
      clear hb4 hI4 ho4 hk4
      gi_wp2_with fail
      refine ⟨trivial, ?_⟩
      refine (CallsIn.inRound l (callsIn_wide.2 (writeString_any (w.heap.size + 1) (w.heap.size + 1) _ ⟨ds.toArray⟩ _ HI4.out (by rw [size_list, Lib.byteCells_append, List.length_append, Lib.byteCells, Lib.byteCells, List.length_map, List.length_map]; rw [Lib.byteCells, List.length_map] at hpl; omega) (by omega)))).mono ?_
      rintro e W5 ⟨rfl, hI5, hb5, ho5, hk5⟩
      rw [strCells_list, ← Lib.byteCells_append, List.append_assoc, ← HP.out] at hI5
      have HI5 := Lib.hid hI5
      have HBX5 := Lib.hid (hk5 _ _ _ _ HBX4.out (by omega) (by decide))
      have HO5 := Lib.hid (HO4.out.trans ho5)
      have HB5 := Lib.hid (HB4.out.trans hb5)
      clear hb5 hI5 ho5 hk5
      gi_wp2
      exact ⟨HO5.out, ⟨HB5.out, HBX5.out.trans HBX.out.symm⟩, ⟨HI5.out, HBX5.out⟩, HB.out.trans HB5.out⟩
    · rw [if_neg hin] at hpc
      have HP := Lib.hid hpc
      have HB2 := Lib.hid (HB1.out.mono (by omega) : Below (w.heap.size + 1) W W1)
      clear hpc
      gi_wp2_with fail
      refine ⟨trivial, ?_⟩
      refine (CallsIn.inRound l (callsIn_wide.2 (writeString_any (w.heap.size + 1) (w.heap.size + 1) _ ⟨ds.toArray⟩ _ HI1.out (by rw [size_list]; omega) (by omega)))).mono ?_
      rintro e W5 ⟨rfl, hI5, hb5, ho5, hk5⟩
      rw [strCells_list, ← Lib.byteCells_append, ← HP.out] at hI5
      have HI5 := Lib.hid hI5
      have HBX5 := Lib.hid (hk5 _ _ _ _ HBX1.out (by omega) (by decide))
      have HO5 := Lib.hid (HO1.out.trans ho5)
      have HB5 := Lib.hid (HB2.out.trans hb5)
      clear hb5 hI5 ho5 hk5
      gi_wp2
      exact ⟨HO5.out, ⟨HB5.out, HBX5.out.trans HBX.out.symm⟩, ⟨HI5.out, HBX5.out⟩, HB.out.trans HB5.out⟩
  case done =>
    rintro D ys W hD rfl ⟨⟨hI, _⟩, hB⟩ hK
    have hpa := pieces_all p hp hl
    rw [← HN.out] at hpa hI
    have hsz : w.heap.size + 3 ≤ W.heap.size := by have := hB.size; omega
    have hlen0 := dec_ne_nil p
    have HPA := Lib.hid hpa
    have HB := Lib.hid hB
    have HK := Lib.hid hK
    have HI := Lib.hid hI
    clear hpa hB hK hI hb0 hb1 hb2 hI3 hbox hr
    gi_wp2_with fail
    refine ⟨trivial, ?_⟩
    refine (callsIn_wide.2 (Tryz.Builder_String_k (w.heap.size + 1) (w.heap.size + 1) (Lib.decDigits p) W (Lib.IsBuilderF.of (by have := HI.out; rwa [HPA.out] at this)) hlen0)).mono ?_
    rintro e W5 ⟨rfl, _, hb5, hk5⟩
    have hKD : W5.heap[D]? = some (.deferred (some [])) := hk5 D _ HK.out (by intro e; injection e; omega) (fun _ _ => by simp)
    have HKD := Lib.hid hKD
    have HB5 := Lib.hid hb5
    clear hk5 hKD hb5
    gi_wp2
    refine ⟨by simp, .inl ⟨_, _, rfl, run_takeDeferred HKD.out, ?_⟩⟩
    exact ⟨_, results_tmp rfl _ _ _, by rw [← Lib.itoa_nonneg]; rfl, (hB3.trans ((HB.out.trans HB5.out).mono (by omega))).trans (belowK_b (w := w) (Nat.le_refl _) _ D _ _ (by omega) HKD.out rfl rfl)⟩
  case stop =>
    rintro D c pre W _ _ h _
    exact h.elim

set_option maxRecDepth 100000 in
/-- The decimal text of a magnitude. -/
theorem text_any (p : Nat) (A : Option Addr) (cap : Nat) (w : World) (ht : Tab w) (hr : Rd u64v w w.heap.size A (limbs p)) (hl : (limbs p).length ≤ 1000000) :
    Calls Tryz.prog 81 #[.slice A (limbs p).length cap] w fun e w' => e = .returned (.string (dec p)) ∧ Below w.heap.size w w' := by
  by_cases hp : p = 0
  · subst hp
    rw [limbs_zero]
    go_enter Tryz.func81, Tryz.ntmps81
    go_wp2
    go_ret
    exact ⟨congrArg (fun l : List UInt8 => Ending.returned (.string ⟨l.toArray⟩)) (show [48] = Lib.itoa ((0 : Nat) : Int) by rw [Lib.itoa_nonneg, Lib.decDigits_one (by decide)]; rfl), (Below.refl _ _).alloc (Nat.le_refl _) _⟩
  · exact callsIn_wide.1 (text_in p hp A cap w ht hr hl)

end Go.Proofs.YtplonkeipdbchaaGreatDoor
