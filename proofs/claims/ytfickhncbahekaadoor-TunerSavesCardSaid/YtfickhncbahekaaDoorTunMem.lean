/- Words for memory: a slice that reads as pairs of ints, and what run leaves. No function of the program is named in this text but by the numbers of its types. Conditions: those that each lemma names. -/
import Derived.Test.YtfickhncbahekaaDoorMapC
import Derived.Test.YtfickhncbahekaaDoorTunNum2
import Derived.Test.YtfickhncbahekaaDoorTunSmall
import Derived.Test.YtfickhncbahekaaDoorRegI
namespace Go.Proofs.YtfickhncbahekaaDoor
open Go.RowKit

abbrev i64v : Int → Value := fun x => .int .i64 x
def SAt (w : World) (b o : Nat) (x : Int × Int) : Prop := w.cell? ⟨b, o, none⟩ = some (.int .i64 x.1) ∧ w.cell? ⟨b, o + 1, none⟩ = some (.int .i64 x.2)
theorem SAt.keep {w w' : World} {b o : Nat} {x : Int × Int} (h : SAt w b o x) (hk : ∀ o, w'.cell? ⟨b, o, none⟩ = w.cell? ⟨b, o, none⟩) : SAt w' b o x := ⟨(hk _).trans h.1, (hk _).trans h.2⟩
/-- The slice whose address is A holds the pairs L, below block Bd. -/
def SRd (w : World) (Bd : Nat) (A : Option Addr) (L : List (Int × Int)) : Prop :=
  0 < L.length → ∃ b off, A = some ⟨b, off, none⟩ ∧ b < Bd ∧ ∀ i, i < L.length → SAt w b (off + i * 2) (L.getD i (0, 0))
section
variable {w w' : World} {Bd Bd' : Nat} {A : Option Addr} {L : List (Int × Int)}
theorem SRd.nil : SRd w Bd A [] := fun h => absurd h (by simp)
theorem SRd.keep (h : SRd w Bd A L) (hk : ∀ b o, b < Bd → w'.cell? ⟨b, o, none⟩ = w.cell? ⟨b, o, none⟩) : SRd w' Bd A L := fun hl => by
  obtain ⟨b, off, rfl, hb, hc⟩ := h hl
  exact ⟨b, off, rfl, hb, fun i hi => (hc i hi).keep fun o => hk _ _ hb⟩
theorem SRd.below (h : SRd w Bd A L) (hb : Below Bd w w') : SRd w' Bd A L := h.keep fun b o hp => hb.cell (p := ⟨b, o, none⟩) hp
theorem SRd.more (h : SRd w Bd A L) (hB : Bd ≤ Bd') : SRd w Bd' A L := fun hl => by
  obtain ⟨b, off, rfl, hb, hc⟩ := h hl
  exact ⟨b, off, rfl, by omega, hc⟩
theorem SRd.at_ (h : SRd w Bd A L) (hl : 0 < L.length) : ∃ b off, A = some ⟨b, off, none⟩ ∧ b < Bd ∧ ∀ i, i < L.length → SAt w b (off + i * 2) (L.getD i (0, 0)) := h hl
end
/-- The cells of some pairs. -/
def pcs (L : List (Int × Int)) : List Value := L.flatMap fun x => [.int .i64 x.1, .int .i64 x.2]
theorem pcs_snoc (L : List (Int × Int)) (x : Int × Int) : pcs L ++ [.int .i64 x.1, .int .i64 x.2] = pcs (L ++ [x]) := by simp [pcs]
theorem pcs_len : ∀ L : List (Int × Int), (pcs L).length = L.length * 2
  | [] => rfl
  | x :: l => by
    have e : pcs (x :: l) = [.int .i64 x.1, .int .i64 x.2] ++ pcs l := rfl
    rw [e, List.length_append, pcs_len l, List.length_cons]
    simp; omega
theorem pcs_get : ∀ (L : List (Int × Int)) (i : Nat), i < L.length → (pcs L)[i * 2]? = some (.int .i64 (L.getD i (0, 0)).1) ∧ (pcs L)[i * 2 + 1]? = some (.int .i64 (L.getD i (0, 0)).2)
  | [], i, h => by simp at h
  | x :: l, 0, _ => ⟨rfl, rfl⟩
  | x :: l, i + 1, h => by
    have := pcs_get l i (by simpa using h)
    have e : pcs (x :: l) = .int .i64 x.1 :: .int .i64 x.2 :: pcs l := rfl
    rw [e, show (i + 1) * 2 = i * 2 + 1 + 1 by omega, List.getElem?_cons_succ, List.getElem?_cons_succ, List.getElem?_cons_succ, List.getElem?_cons_succ]
    simpa using this
theorem SRd.of_own {w : World} {base : Nat} {e : TypeId} {A : Option Addr} {n m c : Nat} {L : List (Int × Int)} (h : w.ownsRow base e 2 (.slice A n c) m (pcs L)) (hn : m = L.length) : SRd w w.heap.size A L := fun hl => by
  rcases h.2 with ⟨hv, h0⟩ | ⟨g, cap, cur, hv, hb, hg, hnc, _, hs, ht⟩
  · omega
  · injection hv with h1 h2 h3
    subst h1
    refine ⟨g, 0, rfl, ?_, fun i hi => ?_⟩
    · rcases Nat.lt_or_ge g w.heap.size with hlt | hge
      · exact hlt
      · rw [Array.getElem?_eq_none hge] at hg; cases hg
    · have hx := pcs_get L i hi
      have h2 : ∀ j, j < L.length * 2 → w.cell? ⟨g, 0 + j, none⟩ = (pcs L)[j]? := fun j hj => by
        rw [cell_of_row w g _ cur e (0, 0) hg, Nat.zero_add, ← ht, List.getElem?_take, if_pos (by omega)]
        simp
      refine ⟨by have := h2 (i * 2) (by omega); rw [this]; exact hx.1, by have := h2 (i * 2 + 1) (by omega); rw [Nat.add_assoc]; rw [this]; exact hx.2⟩
theorem own_below {w w' : World} {base : Nat} {e : TypeId} {size n : Nat} {v : Value} {xs : List Value} (h : w.ownsRow base e size v n xs) (hb : Below w.heap.size w w') : w'.ownsRow base e size v n xs := by
  refine ⟨h.1, ?_⟩
  rcases h.2 with h0 | ⟨g, cap, cur, hv, hbs, hg, hr⟩
  · exact .inl h0
  · refine .inr ⟨g, cap, cur, hv, hbs, ?_, hr⟩
    have hlt : g < w.heap.size := (Array.getElem?_eq_some_iff.1 hg).1
    exact (hb.block g hlt).trans hg
theorem own_grown {w w' : World} {base : Nat} {e : TypeId} {size n : Nat} {v : Value} {xs : List Value} {row : Option Nat} (h : w.ownsRow base e size v n xs) (hg : w.grownBy w' row) (hr : ∀ g, v.ownBlock = some g → row ≠ some g) : w'.ownsRow base e size v n xs := by
  refine ⟨h.1, ?_⟩
  rcases h.2 with h0 | ⟨g, cap, cur, hv, hbs, hgg, hr2⟩
  · exact .inl h0
  · refine .inr ⟨g, cap, cur, hv, hbs, ?_, hr2⟩
    have hlt : g < w.heap.size := (Array.getElem?_eq_some_iff.1 hgg).1
    exact (hg.block g hlt (fun e => hr g (by rw [hv]; rfl) e.symm)).trans hgg
theorem own_far {w : World} {base : Nat} {e : TypeId} {size n : Nat} {v u : Value} {xs : List Value} {p : Addr} (h : w.ownsRow base e size v n xs) (hp : p.block < base) : (w.setCell p u).ownsRow base e size v n xs := by
  refine ⟨h.1, ?_⟩
  rcases h.2 with h0 | ⟨g, cap, cur, hv, hbs, hgg, hr2⟩
  · exact .inl h0
  · exact .inr ⟨g, cap, cur, hv, hbs, (Below.heap_setCell w p u g (by omega)).trans hgg, hr2⟩
/-- Rows of unlike elements lie in unlike blocks. -/
theorem own_apart {w : World} {b1 b2 : Nat} {e1 e2 : TypeId} {s1 s2 n1 n2 : Nat} {v1 v2 : Value} {x1 x2 : List Value} (h1 : w.ownsRow b1 e1 s1 v1 n1 x1) (h2 : w.ownsRow b2 e2 s2 v2 n2 x2) (hne : e1 ≠ e2) : ∀ g, v1.ownBlock = some g → v2.ownBlock ≠ some g := by
  intro g hg hg2
  rcases h1.2 with ⟨rfl, _⟩ | ⟨g1, cap1, cur1, rfl, _, hh1, _⟩
  · cases hg
  · rcases h2.2 with ⟨rfl, _⟩ | ⟨g2, cap2, cur2, rfl, _, hh2, _⟩
    · cases hg2
    · have e1' : g1 = g := by simpa [Value.ownBlock] using hg
      have e2' : g2 = g := by simpa [Value.ownBlock] using hg2
      subst e1'; subst e2'
      rw [hh1] at hh2
      injection hh2 with hh2
      injection hh2 with _ hh2
      exact hne hh2

/-- A row of the call's own, that is none of these blocks, has grown. -/
theorem Hp.grown {w W W' : World} {L : List (Nat × TypeId × List Value)} (h : Hp w L W) {row : Option Nat} (hg : W.grownBy W' row) (hr : ∀ q, row = some q → w.heap.size ≤ q ∧ ∀ p ∈ L, p.1 ≠ q) : Hp w L W' :=
  ⟨h.below.grown hg h.below.size (fun k e => (hr k e).1), fun p hp => ⟨(hg.block p.1 (h.blk p hp).1.lt (fun e => (hr _ e.symm).2 p hp rfl)).trans (h.blk p hp).1, (h.blk p hp).2⟩, h.apart⟩
/-- The two maps, the box of the result, and the two slices behind k steps. -/
structure RPack (w : World) (f : Int) (L : List (Int × Int)) (A : Option Addr) (n cap : Nat) (b : Nat) (k : Nat) (GA : Option Addr) (gn gc : Nat) (DA : Option Addr) (dn dc : Nat) (W : World) : Prop where
  o : Blk W b 25 [.int .i64 f, .slice A n cap]
  m1 : MapC (intKeys Tryd.underlying3 : KeyKind Int Tryd.prog 3) W (b + 1) (ents wv (stT f L k).ways)
  m2 : MapC (intKeys Tryd.underlying3 : KeyKind Int Tryd.prog 3) W (b + 2) (ents i64v (stT f L k).fst)
  t : Blk W (b + 3) 100 [.map (some (b + 1)), .map (some (b + 2)), .slice GA gn gc, .slice DA dn dc]
  a : W.ownsRow (b + 4) 3 1 (.slice GA gn gc) gn ((stT f L k).again.map i64v)
  d : W.ownsRow (b + 4) 50 2 (.slice DA dn dc) dn (pcs (stT f L k).drift)
  low : Below w.heap.size w W
  size : b + 4 ≤ W.heap.size
  low0 : w.heap.size ≤ b
  al : gn = (stT f L k).again.length
  dl : dn = (stT f L k).drift.length
theorem mget_nil (k : Int) : mget ([] : List (Int × Value)) k = none := rfl
abbrev iK : KeyKind Int Tryd.prog 3 := intKeys Tryd.underlying3
theorem look_wv {W : World} {b : Nat} {m : List (Int × (Int × Int))} (h : MapC iK W b (ents wv m)) (p : Int) :
    (Instr.lookup 97 (.map (some b)) (.int .i64 p) true).run Tryd.prog W = .ok (.tuple #[.agg #[.int .i64 ((lkz p m).getD (0, 0)).1, .int .i64 ((lkz p m).getD (0, 0)).2], .bool (lkz p m).isSome]) W := by
  have := run_look iK Tryd.underlying97 (z := wv (0, 0)) (fun w => by first | exact Tryd.zeroValue50 w | kernel_rfl) h.mapB p true
  rw [ents_get] at this
  have e1 : ((lkz p m).map wv).getD (wv (0, 0)) = wv ((lkz p m).getD (0, 0)) := by cases lkz p m <;> rfl
  have e2 : ((lkz p m).map wv).isSome = (lkz p m).isSome := by cases lkz p m <;> rfl
  rw [e1, e2] at this
  exact this
theorem Blk.step {w w' : World} {g : Nat} {t : TypeId} {cs : List Value} (h : Blk w g t cs) (hb : Below w.heap.size w w') : Blk w' g t cs := h.below hb h.lt
theorem Blk.grw {w w' : World} {g : Nat} {t : TypeId} {cs : List Value} {row : Option Nat} (h : Blk w g t cs) (hb : w.grownBy w' row) (hg : some g ≠ row) : Blk w' g t cs := (hb.block g h.lt hg).trans h
theorem RPack.step {w W W' : World} {f : Int} {L : List (Int × Int)} {A : Option Addr} {n cap b k : Nat} {GA : Option Addr} {gn gc : Nat} {DA : Option Addr} {dn dc : Nat}
    (h : RPack w f L A n cap b k GA gn gc DA dn dc W) (hb : Below W.heap.size W W') : RPack w f L A n cap b k GA gn gc DA dn dc W' where
  o := h.o.step hb
  m1 := h.m1.step hb
  m2 := h.m2.step hb
  t := h.t.step hb
  a := own_below h.a hb
  d := own_below h.d hb
  low := h.low.trans (hb.mono h.low.size)
  size := Nat.le_trans h.size hb.size
  low0 := h.low0
  al := h.al
  dl := h.dl

theorem own_far2 {w : World} {base : Nat} {e : TypeId} {size n : Nat} {v u : Value} {xs : List Value} {p : Addr} (h : w.ownsRow base e size v n xs) (hp : v.ownBlock ≠ some p.block) : (w.setCell p u).ownsRow base e size v n xs := by
  refine ⟨h.1, ?_⟩
  rcases h.2 with h0 | ⟨g, cap, cur, hv, hbs, hgg, hr2⟩
  · exact .inl h0
  · subst hv
    exact .inr ⟨g, cap, cur, rfl, hbs, (Below.heap_setCell w p u g (fun e => hp (by rw [e]; rfl))).trans hgg, hr2⟩
/-- The two slices lie below a block. -/
def ROff (GA : Option Addr) (gn gc : Nat) (DA : Option Addr) (dn dc : Nat) (g : Nat) : Prop := (∀ r, (Value.slice GA gn gc).ownBlock = some r → r < g) ∧ ∀ r, (Value.slice DA dn dc).ownBlock = some r → r < g
section
variable {w W W' : World} {f : Int} {L : List (Int × Int)} {A : Option Addr} {n cap b k : Nat} {GA : Option Addr} {gn gc : Nat} {DA : Option Addr} {dn dc : Nat}
theorem RPack.off (h : RPack w f L A n cap b k GA gn gc DA dn dc W) : ROff GA gn gc DA dn dc W.heap.size := ⟨fun r e => (h.a.lt r e).2, fun r e => (h.d.lt r e).2⟩
theorem RPack.set (h : RPack w f L A n cap b k GA gn gc DA dn dc W) {g o : Nat} (hg : b + 4 ≤ g) {g0 : Nat} (ho : ROff GA gn gc DA dn dc g0) (hg0 : g0 ≤ g) (u : Value) : RPack w f L A n cap b k GA gn gc DA dn dc (W.setCell ⟨g, o, none⟩ u) where
  o := h.o.far (by simp; omega) u
  m1 := h.m1.set (by omega) u
  m2 := h.m2.set (by omega) u
  t := h.t.far (by simp; omega) u
  a := own_far2 h.a (fun e => by have := ho.1 _ e; simp at this; omega)
  d := own_far2 h.d (fun e => by have := ho.2 _ e; simp at this; omega)
  low := bw_set h.low (by have := h.low0; omega) u
  size := by have := h.size; simpa using this
  low0 := h.low0
  al := h.al
  dl := h.dl
end

end Go.Proofs.YtfickhncbahekaaDoor
