/- Package tuner: words for the two statements of run that write, whose operations may come up in more than one order. Conditions: those that each lemma names. -/
import Derived.Test.YtfickhncbahekaaDoorTunMem
import Derived.Deep.AppendLies
namespace Go.Proofs.YtfickhncbahekaaDoor
open Go.RowKit

theorem getBT {md : Region.Mode} {l : Array Bool} {es : Array Edge} {x : Bool} (h : ∀ e ∈ es, Region.binds md e = true → l.getD e.on false = true) (j : Nat) (hx : l.getD j false = x) (hm : (es.any fun e => e.on == j && Region.binds md e) = true := by kernel_rfl) : x = true := by
  obtain ⟨e, he, h2⟩ := Array.any_eq_true'.1 hm
  rw [Bool.and_eq_true, beq_iff_eq] at h2
  rw [← hx, ← h2.1]
  exact h e he h2.2
/-- A slot that is set if a mark is, and else as it was. -/
abbrev cw (b : Bool) (v x : Value) : Value := bif b then v else x
theorem infoIntT : (Tryd.prog.info? 3).map (fun i => (i.zero, i.size, i.bytes)) = some (some (.int .i64 0), 1, 8) := by kernel_rfl
theorem infoWayT : (Tryd.prog.info? 50).map (fun i => (i.zero, i.size, i.bytes)) = some (some (.agg #[.int .i64 0, .int .i64 0]), 2, 16) := by kernel_rfl

/-- While a redundant step is written down. -/
structure AgPack (w : World) (f : Int) (L : List (Int × Int)) (A : Option Addr) (n cap b k y7 y11 Z : Nat) (ta tb oa ob da db : Int) (GA : Option Addr) (gn gc : Nat) (DA : Option Addr) (dn dc : Nat)
    (u7 u8 u16 u17 u20 u23 : Bool) (g1 g2 : Nat) (A' : Option Addr) (c' : Nat) (D' : Option Addr) (e' : Nat) (W : World) : Prop where
  o : Blk W b 25 [.int .i64 f, .slice A n cap]
  m1 : MapC iK W (b + 1) (ents wv (stT f L k).ways)
  m2 : MapC iK W (b + 2) (ents i64v (stT f L k).fst)
  t : Blk W (b + 3) 100 [.map (some (b + 1)), .map (some (b + 2)), bif u20 then .slice A' (gn + 1) c' else .slice GA gn gc, bif u23 then .slice D' (dn + 1) e' else .slice DA dn dc]
  y : Blk W y7 50 [.int .i64 ta, .int .i64 tb]
  z : Blk W y11 50 [.int .i64 oa, .int .i64 ob]
  a0 : u8 = false → W.ownsRow (b + 4) 3 1 (.slice GA gn gc) gn ((stT f L k).again.map i64v)
  a1 : u8 = true → W.ownsRow (b + 4) 3 1 (.slice A' (gn + 1) c') (gn + 1) (((stT f L k).again ++ [(k : Int)]).map i64v)
  gp1 : u7 = true → u8 = false → Blk W g1 3 [.int .i64 (k : Int)]
  d0 : u17 = false → W.ownsRow (b + 4) 50 2 (.slice DA dn dc) dn (pcs (stT f L k).drift)
  d1 : u17 = true → W.ownsRow (b + 4) 50 2 (.slice D' (dn + 1) e') (dn + 1) (pcs ((stT f L k).drift ++ [(da, db)]))
  gp2 : u16 = true → u17 = false → Blk W g2 50 [.int .i64 da, .int .i64 db]
  low : Below w.heap.size w W
  size : Z ≤ W.heap.size
  g1z : u7 = true → Z ≤ g1
  g2z : u16 = true → Z ≤ g2

section
variable {w : World} {f : Int} {L : List (Int × Int)} {A : Option Addr} {n cap b k y7 y11 Z : Nat} {ta tb oa ob da db : Int} {GA : Option Addr} {gn gc : Nat} {DA : Option Addr} {dn dc : Nat}
    {u7 u8 u16 u17 u20 u23 : Bool} {g1 g2 : Nat} {A' : Option Addr} {c' : Nat} {D' : Option Addr} {e' : Nat} {W W' : World}
theorem AgPack.step (h : AgPack w f L A n cap b k y7 y11 Z ta tb oa ob da db GA gn gc DA dn dc u7 u8 u16 u17 u20 u23 g1 g2 A' c' D' e' W) (hb : Below W.heap.size W W') :
    AgPack w f L A n cap b k y7 y11 Z ta tb oa ob da db GA gn gc DA dn dc u7 u8 u16 u17 u20 u23 g1 g2 A' c' D' e' W' where
  o := h.o.step hb
  m1 := h.m1.step hb
  m2 := h.m2.step hb
  t := h.t.step hb
  y := h.y.step hb
  z := h.z.step hb
  a0 := fun e => own_below (h.a0 e) hb
  a1 := fun e => own_below (h.a1 e) hb
  gp1 := fun e e2 => (h.gp1 e e2).step hb
  d0 := fun e => own_below (h.d0 e) hb
  d1 := fun e => own_below (h.d1 e) hb
  gp2 := fun e e2 => (h.gp2 e e2).step hb
  low := h.low.trans (hb.mono h.low.size)
  size := Nat.le_trans h.size hb.size
  g1z := h.g1z
  g2z := h.g2z
theorem AgPack.new1 (h : AgPack w f L A n cap b k y7 y11 Z ta tb oa ob da db GA gn gc DA dn dc false false u16 u17 u20 u23 g1 g2 A' c' D' e' W) :
    AgPack w f L A n cap b k y7 y11 Z ta tb oa ob da db GA gn gc DA dn dc true false u16 u17 u20 u23 W.heap.size g2 A' c' D' e' (W.alloc (.cells #[.int .i64 (k : Int)] 3)) :=
  { h.step (bw_new (Below.refl _ _) _) with gp1 := fun _ _ => heap_alloc_new W _, g1z := fun _ => h.size }
theorem AgPack.new2 (h : AgPack w f L A n cap b k y7 y11 Z ta tb oa ob da db GA gn gc DA dn dc u7 u8 false false u20 u23 g1 g2 A' c' D' e' W) :
    AgPack w f L A n cap b k y7 y11 Z ta tb oa ob da db GA gn gc DA dn dc u7 u8 true false u20 u23 g1 W.heap.size A' c' D' e' (W.alloc (.cells #[.int .i64 da, .int .i64 db] 50)) :=
  { h.step (bw_new (Below.refl _ _) _) with gp2 := fun _ _ => heap_alloc_new W _, g2z := fun _ => h.size }
/-- A block of other elements is none of a row's. -/
theorem Blk.off_own {w : World} {g base : Nat} {t e : TypeId} {cs xs : List Value} {size n : Nat} {v : Value} (h : Blk w g t cs) (hv : w.ownsRow base e size v n xs) (hne : t ≠ e) : some g ≠ v.ownBlock := by
  rcases hv.2 with ⟨rfl, _⟩ | ⟨g', cap, cur, rfl, _, hh, _⟩
  · intro e; cases e
  · intro e'
    have : g' = g := by simpa [Value.ownBlock] using e'.symm
    subst this
    unfold Blk at h
    rw [h] at hh
    injection hh with hh
    injection hh with _ hh
    exact hne hh
theorem own_away {w : World} {b1 b2 : Nat} {e1 e2 : TypeId} {s1 s2 n1 n2 : Nat} {v1 v2 : Value} {x1 x2 : List Value} (h1 : w.ownsRow b1 e1 s1 v1 n1 x1) (h2 : w.ownsRow b2 e2 s2 v2 n2 x2) (hne : e1 ≠ e2) : ∀ g, v1.ownBlock = some g → v2.ownBlock ≠ some g := own_apart h1 h2 hne
theorem AgPack.app1 (h : AgPack w f L A n cap b k y7 y11 Z ta tb oa ob da db GA gn gc DA dn dc true false u16 u17 false u23 g1 g2 A' c' D' e' W) (hbz : b + 4 ≤ Z) (hwb : w.heap.size ≤ b) {g : Nat} {c2 : Nat}
    (hown : W'.ownsRow (b + 4) 3 1 (.slice (some ⟨g, 0, none⟩) (gn + 1) c2) (gn + 1) ((stT f L k).again.map i64v ++ [.int .i64 (k : Int)])) (hgrow : W.grownBy W' (Value.slice GA gn gc).ownBlock) :
    AgPack w f L A n cap b k y7 y11 Z ta tb oa ob da db GA gn gc DA dn dc true true u16 u17 false u23 g1 g2 (some ⟨g, 0, none⟩) c2 D' e' W' where
  o := h.o.grw hgrow (h.o.off_own (h.a0 rfl) (by decide))
  m1 := h.m1.grown hgrow (fun e => by have := ((h.a0 rfl).lt _ e.symm).1; omega)
  m2 := h.m2.grown hgrow (fun e => by have := ((h.a0 rfl).lt _ e.symm).1; omega)
  t := h.t.grw hgrow (h.t.off_own (h.a0 rfl) (by decide))
  y := h.y.grw hgrow (h.y.off_own (h.a0 rfl) (by decide))
  z := h.z.grw hgrow (h.z.off_own (h.a0 rfl) (by decide))
  a0 := fun e => absurd e (by simp)
  a1 := fun _ => by rw [List.map_append]; exact hown
  gp1 := fun _ e => absurd e (by simp)
  d0 := fun e => own_grown (h.d0 e) hgrow (own_away (h.d0 e) (h.a0 rfl) (by decide))
  d1 := fun e => own_grown (h.d1 e) hgrow (own_away (h.d1 e) (h.a0 rfl) (by decide))
  gp2 := fun e e2 => (h.gp2 e e2).grw hgrow ((h.gp2 e e2).off_own (h.a0 rfl) (by decide))
  low := h.low.grown hgrow h.low.size (fun r e => by have := ((h.a0 rfl).lt _ e).1; omega)
  size := Nat.le_trans h.size hgrow.size
  g1z := h.g1z
  g2z := h.g2z
theorem AgPack.app2 (h : AgPack w f L A n cap b k y7 y11 Z ta tb oa ob da db GA gn gc DA dn dc u7 u8 true false u20 false g1 g2 A' c' D' e' W) (hbz : b + 4 ≤ Z) (hwb : w.heap.size ≤ b) {Z0 : Nat} (hoff : ROff GA gn gc DA dn dc Z0) (h7 : Z0 ≤ y7) (h11 : Z0 ≤ y11) {g : Nat} {c2 : Nat}
    (hown : W'.ownsRow (b + 4) 50 2 (.slice (some ⟨g, 0, none⟩) (dn + 1) c2) (dn + 1) (pcs (stT f L k).drift ++ [.int .i64 da, .int .i64 db])) (hgrow : W.grownBy W' (Value.slice DA dn dc).ownBlock) :
    AgPack w f L A n cap b k y7 y11 Z ta tb oa ob da db GA gn gc DA dn dc u7 u8 true true u20 false g1 g2 A' c' (some ⟨g, 0, none⟩) c2 W' where
  o := h.o.grw hgrow (h.o.off_own (h.d0 rfl) (by decide))
  m1 := h.m1.grown hgrow (fun e => by have := ((h.d0 rfl).lt _ e.symm).1; omega)
  m2 := h.m2.grown hgrow (fun e => by have := ((h.d0 rfl).lt _ e.symm).1; omega)
  t := h.t.grw hgrow (h.t.off_own (h.d0 rfl) (by decide))
  y := h.y.grw hgrow (fun e => by have := hoff.2 _ e.symm; omega)
  z := h.z.grw hgrow (fun e => by have := hoff.2 _ e.symm; omega)
  a0 := fun e => own_grown (h.a0 e) hgrow (own_away (h.a0 e) (h.d0 rfl) (by decide))
  a1 := fun e => own_grown (h.a1 e) hgrow (own_away (h.a1 e) (h.d0 rfl) (by decide))
  gp1 := fun e e2 => (h.gp1 e e2).grw hgrow ((h.gp1 e e2).off_own (h.d0 rfl) (by decide))
  d0 := fun e => absurd e (by simp)
  d1 := fun _ => by rw [← pcs_snoc]; exact hown
  gp2 := fun _ e => absurd e (by simp)
  low := h.low.grown hgrow h.low.size (fun r e => by have := ((h.d0 rfl).lt _ e).1; omega)
  size := Nat.le_trans h.size hgrow.size
  g1z := h.g1z
  g2z := h.g2z
theorem AgPack.put {j : Nat} {v : Value} {v20 v23 : Bool} (h : AgPack w f L A n cap b k y7 y11 Z ta tb oa ob da db GA gn gc DA dn dc u7 u8 u16 u17 u20 u23 g1 g2 A' c' D' e' W) (hwb : w.heap.size ≤ b) (hbz : b + 4 ≤ Z) (h7 : b + 4 ≤ y7) (h11 : b + 4 ≤ y11)
    (ht : ([.map (some (b + 1)), .map (some (b + 2)), bif u20 then .slice A' (gn + 1) c' else .slice GA gn gc, bif u23 then .slice D' (dn + 1) e' else .slice DA dn dc] : List Value).set j v = [.map (some (b + 1)), .map (some (b + 2)), bif v20 then .slice A' (gn + 1) c' else .slice GA gn gc, bif v23 then .slice D' (dn + 1) e' else .slice DA dn dc]) :
    AgPack w f L A n cap b k y7 y11 Z ta tb oa ob da db GA gn gc DA dn dc u7 u8 u16 u17 v20 v23 g1 g2 A' c' D' e' (W.setCell ⟨b + 3, j, none⟩ v) where
  o := h.o.far (by simp) v
  m1 := h.m1.set (by omega) v
  m2 := h.m2.set (by omega) v
  t := by rw [← ht]; exact h.t.put j v
  y := h.y.far (by simp; omega) v
  z := h.z.far (by simp; omega) v
  a0 := fun e => own_far (h.a0 e) (by simp)
  a1 := fun e => own_far (h.a1 e) (by simp)
  gp1 := fun e e2 => (h.gp1 e e2).far (by have := h.g1z e; simp; omega) v
  d0 := fun e => own_far (h.d0 e) (by simp)
  d1 := fun e => own_far (h.d1 e) (by simp)
  gp2 := fun e e2 => (h.gp2 e e2).far (by have := h.g2z e; simp; omega) v
  low := bw_set h.low (by omega) v
  size := by have := h.size; simpa using this
  g1z := h.g1z
  g2z := h.g2z
end

/-- While a new note is written down: marks of the two entries and the two stores. -/
structure NwPack (w : World) (f : Int) (L : List (Int × Int)) (A : Option Addr) (n cap b k S y7 : Nat) (p q ta tb : Int) (GA : Option Addr) (gn gc : Nat) (DA : Option Addr) (dn dc : Nat)
    (u14 u16 u17 u19 : Bool) (s1 s2 : Nat) (W : World) : Prop where
  o : Blk W b 25 [.int .i64 f, .slice A n cap]
  a1 : u14 = false → MapC iK W (b + 1) (ents wv (stT f L k).ways)
  a2 : u14 = true → u16 = false → MapE iK W (b + 1) (ents wv (stT f L k).ways) q s1
  a3 : u16 = true → MapC iK W (b + 1) (ents wv ((stT f L k).ways ++ [(q, (ta, tb))]))
  b1 : u17 = false → MapC iK W (b + 2) (ents i64v (stT f L k).fst)
  b2 : u17 = true → u19 = false → MapE iK W (b + 2) (ents i64v (stT f L k).fst) q s2
  b3 : u19 = true → MapC iK W (b + 2) (ents i64v ((stT f L k).fst ++ [(q, (k : Int))]))
  t : Blk W (b + 3) 100 [.map (some (b + 1)), .map (some (b + 2)), .slice GA gn gc, .slice DA dn dc]
  s : Blk W S 27 [.int .i64 p, .int .i64 q]
  y : Blk W y7 50 [.int .i64 ta, .int .i64 tb]
  a : W.ownsRow (b + 4) 3 1 (.slice GA gn gc) gn ((stT f L k).again.map i64v)
  d : W.ownsRow (b + 4) 50 2 (.slice DA dn dc) dn (pcs (stT f L k).drift)
  low : Below w.heap.size w W
  size : b + 4 ≤ W.heap.size

section
variable {w : World} {f : Int} {L : List (Int × Int)} {A : Option Addr} {n cap b k S y7 : Nat} {p q ta tb : Int} {GA : Option Addr} {gn gc : Nat} {DA : Option Addr} {dn dc : Nat}
    {u14 u16 u17 u19 v14 v16 v17 v19 : Bool} {s1 s2 t1 t2 : Nat} {W W' : World}
/-- A map has changed. -/
theorem NwPack.turn (h : NwPack w f L A n cap b k S y7 p q ta tb GA gn gc DA dn dc u14 u16 u17 u19 s1 s2 W) {j : Nat} (hj : j = b + 1 ∨ j = b + 2) (hwb : w.heap.size ≤ b) (h7 : b + 4 ≤ y7) (hS : b + 4 ≤ S) (hgrow : W.grownBy W' (some j))
    (a1 : v14 = false → MapC iK W' (b + 1) (ents wv (stT f L k).ways)) (a2 : v14 = true → v16 = false → MapE iK W' (b + 1) (ents wv (stT f L k).ways) q t1) (a3 : v16 = true → MapC iK W' (b + 1) (ents wv ((stT f L k).ways ++ [(q, (ta, tb))])))
    (b1 : v17 = false → MapC iK W' (b + 2) (ents i64v (stT f L k).fst)) (b2 : v17 = true → v19 = false → MapE iK W' (b + 2) (ents i64v (stT f L k).fst) q t2) (b3 : v19 = true → MapC iK W' (b + 2) (ents i64v ((stT f L k).fst ++ [(q, (k : Int))]))) :
    NwPack w f L A n cap b k S y7 p q ta tb GA gn gc DA dn dc v14 v16 v17 v19 t1 t2 W' where
  o := h.o.grw hgrow (fun e => by cases e; omega)
  a1 := a1
  a2 := a2
  a3 := a3
  b1 := b1
  b2 := b2
  b3 := b3
  t := h.t.grw hgrow (fun e => by cases e; omega)
  s := h.s.grw hgrow (fun e => by cases e; omega)
  y := h.y.grw hgrow (fun e => by cases e; omega)
  a := own_grown h.a hgrow (fun g e e2 => by cases e2; have := (h.a.lt _ e).1; omega)
  d := own_grown h.d hgrow (fun g e e2 => by cases e2; have := (h.d.lt _ e).1; omega)
  low := h.low.grown hgrow h.low.size (fun r e => by cases e; omega)
  size := Nat.le_trans h.size hgrow.size
end

theorem stT_old {f : Int} {L : List (Int × Int)} {k : Nat} {p q oa ob ta tb : Int} (hx : (p, q) = L.getD k (0, 0)) (hl : lkz q (stT f L k).ways = some (oa, ob)) (ht : toW (stT f L k) (p, q) = (ta, tb)) :
    stT f L (k + 1) = ⟨(stT f L k).ways, (stT f L k).fst, (stT f L k).again ++ [(k : Int)], (stT f L k).drift ++ [(ta + -1 * oa, tb + -1 * ob)]⟩ := by
  rw [show stT f L (k + 1) = stepT (stT f L k) k (L.getD k (0, 0)) from rfl, ← hx]
  unfold stepT
  rw [hl]
  simp only
  rw [ht]
  unfold subW
  simp only [show ta - oa = ta + -1 * oa by omega, show tb - ob = tb + -1 * ob by omega]
theorem stT_new {f : Int} {L : List (Int × Int)} {k : Nat} {p q ta tb : Int} (hx : (p, q) = L.getD k (0, 0)) (hl : lkz q (stT f L k).ways = none) (ht : toW (stT f L k) (p, q) = (ta, tb)) :
    stT f L (k + 1) = ⟨(stT f L k).ways ++ [(q, (ta, tb))], (stT f L k).fst ++ [(q, (k : Int))], (stT f L k).again, (stT f L k).drift⟩ := by
  rw [show stT f L (k + 1) = stepT (stT f L k) k (L.getD k (0, 0)) from rfl, ← hx]
  unfold stepT
  rw [hl]
  simp only
  rw [ht]
theorem AgPack.done {w : World} {f : Int} {L : List (Int × Int)} {A : Option Addr} {n cap b k y7 y11 Z : Nat} {p q ta tb oa ob da db : Int} {GA : Option Addr} {gn gc : Nat} {DA : Option Addr} {dn dc : Nat} {g1 g2 : Nat} {A' : Option Addr} {c' : Nat} {D' : Option Addr} {e' : Nat} {W : World}
    (h : AgPack w f L A n cap b k y7 y11 Z ta tb oa ob da db GA gn gc DA dn dc true true true true true true g1 g2 A' c' D' e' W) (hwb : w.heap.size ≤ b) (hbz : b + 4 ≤ Z) (hx : (p, q) = L.getD k (0, 0)) (hl : lkz q (stT f L k).ways = some (oa, ob)) (ht : toW (stT f L k) (p, q) = (ta, tb))
    (ha : da = ta + -1 * oa) (hb : db = tb + -1 * ob) (hg : gn = (stT f L k).again.length) (hd : dn = (stT f L k).drift.length) : RPack w f L A n cap b (k + 1) A' (gn + 1) c' D' (dn + 1) e' W := by
  have e := stT_old hx hl ht
  refine ⟨h.o, ?_, ?_, h.t, ?_, ?_, h.low, Nat.le_trans hbz h.size, hwb, ?_, ?_⟩
  · rw [e]; exact h.m1
  · rw [e]; exact h.m2
  · rw [e]; exact h.a1 rfl
  · rw [e]; have := h.d1 rfl; rw [ha, hb] at this; exact this
  · rw [e, hg]; simp
  · rw [e, hd]; simp
theorem NwPack.done {w : World} {f : Int} {L : List (Int × Int)} {A : Option Addr} {n cap b k S y7 : Nat} {p q ta tb : Int} {GA : Option Addr} {gn gc : Nat} {DA : Option Addr} {dn dc : Nat} {s1 s2 : Nat} {W : World}
    (h : NwPack w f L A n cap b k S y7 p q ta tb GA gn gc DA dn dc true true true true s1 s2 W) (hwb : w.heap.size ≤ b) (hx : (p, q) = L.getD k (0, 0)) (hl : lkz q (stT f L k).ways = none) (ht : toW (stT f L k) (p, q) = (ta, tb))
    (hg : gn = (stT f L k).again.length) (hd : dn = (stT f L k).drift.length) : RPack w f L A n cap b (k + 1) GA gn gc DA dn dc W := by
  have e := stT_new hx hl ht
  refine ⟨h.o, ?_, ?_, h.t, ?_, ?_, h.low, h.size, hwb, ?_, ?_⟩
  · rw [e]; exact h.a3 rfl
  · rw [e]; exact h.b3 rfl
  · rw [e]; exact h.a
  · rw [e]; exact h.d
  · rw [e]; exact hg
  · rw [e]; exact hd
theorem lkz_old {q oa ob : Int} {m : List (Int × (Int × Int))} (h1 : true = (lkz q m).isSome) (h2 : (oa, ob) = (lkz q m).getD (0, 0)) : lkz q m = some (oa, ob) := by
  cases h : lkz q m with
  | none => rw [h] at h1; cases h1
  | some x => rw [h] at h2; rw [h2]; rfl

theorem own_low {w : World} {base base' : Nat} {e : TypeId} {size n : Nat} {v : Value} {xs : List Value} (h : w.ownsRow base e size v n xs) (hb : base' ≤ base) : w.ownsRow base' e size v n xs := by
  refine ⟨h.1, ?_⟩
  rcases h.2 with h0 | ⟨g, cap, cur, hv, hbs, hg, hr⟩
  · exact .inl h0
  · exact .inr ⟨g, cap, cur, hv, by omega, hg, hr⟩
theorem st_len (f : Int) (L : List (Int × Int)) : ∀ k, (stT f L k).again.length ≤ k ∧ (stT f L k).drift.length ≤ k
  | 0 => ⟨by simp [stT, tn0], by simp [stT, tn0]⟩
  | k + 1 => by
    obtain ⟨h1, h2⟩ := st_len f L k
    rw [show stT f L (k + 1) = stepT (stT f L k) k (L.getD k (0, 0)) from rfl]
    unfold stepT
    cases lkz (L.getD k (0, 0)).2 (stT f L k).ways with
    | some old => simp only [List.length_append, List.length_cons, List.length_nil]; omega
    | none => exact ⟨Nat.le_succ_of_le h1, Nat.le_succ_of_le h2⟩

end Go.Proofs.YtfickhncbahekaaDoor
