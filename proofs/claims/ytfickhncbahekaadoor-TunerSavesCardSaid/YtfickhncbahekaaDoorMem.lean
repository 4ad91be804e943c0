/- Words for memory: a slice that reads as a list; a block that is known whole. No function of the program is named in this text. Conditions: those that each lemma names.
A box of two ints, open for writing, carried from call to call. Conditions: none. -/
import Derived.WalkKit
import Derived.WalkSpells
import Derived.WalkLawsBesides
import Derived.Laws.OwnMore
import Derived.Laws.Rows
import Derived.Lib.Hide
import Derived.Laws.IdiomStrings
namespace Go.Proofs.YtfickhncbahekaaDoor
open Go.RowKit

/-- The slice whose address is A holds the list L, one cell an element, below block Bd. -/
def Rd {α : Type} (enc : α → Value) (w : World) (Bd : Nat) (A : Option Addr) (L : List α) : Prop :=
  0 < L.length → ∃ b off, A = some ⟨b, off, none⟩ ∧ b < Bd ∧ ∀ i (h : i < L.length), w.cell? ⟨b, off + i, none⟩ = some (enc L[i])

section
variable {α : Type} {enc : α → Value} {w w' : World} {Bd Bd' : Nat} {A : Option Addr} {L : List α}
theorem Rd.nil : Rd enc w Bd A [] := fun h => absurd h (by simp)
theorem Rd.keep (h : Rd enc w Bd A L) (hk : ∀ b o, b < Bd → w'.cell? ⟨b, o, none⟩ = w.cell? ⟨b, o, none⟩) : Rd enc w' Bd A L := fun hl => by
  obtain ⟨b, off, rfl, hb, hc⟩ := h hl
  exact ⟨b, off, rfl, hb, fun i hi => (hk _ _ hb).trans (hc i hi)⟩
theorem Rd.below (h : Rd enc w Bd A L) (hb : Below Bd w w') : Rd enc w' Bd A L := h.keep fun b o hp => hb.cell (p := ⟨b, o, none⟩) hp
theorem Rd.more (h : Rd enc w Bd A L) (hB : Bd ≤ Bd') : Rd enc w Bd' A L := fun hl => by
  obtain ⟨b, off, rfl, hb, hc⟩ := h hl
  exact ⟨b, off, rfl, by omega, hc⟩
theorem Rd.take (h : Rd enc w Bd A L) (k : Nat) : Rd enc w Bd A (L.take k) := fun hl => by
  have hlt : 0 < L.length := by rw [List.length_take] at hl; omega
  obtain ⟨b, off, rfl, hb, hc⟩ := h hlt
  refine ⟨b, off, rfl, hb, fun i hi => ?_⟩
  rw [List.getElem_take]
  exact hc i (by rw [List.length_take] at hi; omega)
theorem Rd.at_ (h : Rd enc w Bd A L) (hl : 0 < L.length) : ∃ b off, A = some ⟨b, off, none⟩ ∧ b < Bd ∧ ∀ i (h : i < L.length), w.cell? ⟨b, off + i, none⟩ = some (enc L[i]) := h hl
end

/-- Block g is just the cells cs of element type t, none frozen. -/
def Blk (w : World) (g : Nat) (t : TypeId) (cs : List Value) : Prop := w.heap[g]? = some (.cells cs.toArray t (0, 0))

section
variable {w w' : World} {g : Nat} {t : TypeId} {cs : List Value}
theorem Blk.lt (h : Blk w g t cs) : g < w.heap.size := by
  rcases Nat.lt_or_ge g w.heap.size with hlt | hge
  · exact hlt
  · unfold Blk at h; rw [Array.getElem?_eq_none hge] at h; cases h
theorem Blk.cell (h : Blk w g t cs) (i : Nat) : w.cell? ⟨g, i, none⟩ = cs[i]? := by
  rw [cell_of_row w g i cs.toArray t (0, 0) h]; simp
theorem Blk.frozen (h : Blk w g t cs) (i : Nat) : w.frozen? ⟨g, i, none⟩ = false := by
  unfold Blk at h
  simp [World.frozen?, h]
theorem Blk.drew (h : Blk w g t cs) : Blk w.drew g t cs := h
theorem Blk.alloc (h : Blk w g t cs) (o : Obj) : Blk (w.alloc o) g t cs := (Below.heap_alloc w o g h.lt).trans h
theorem Blk.put (h : Blk w g t cs) (i : Nat) (u : Value) : Blk (w.setCell ⟨g, i, none⟩ u) g t (cs.set i u) := by
  unfold Blk at h ⊢
  simp [World.setCell, Array.getElem?_modify, h]
theorem Blk.put_eq (h : Blk w g t cs) (i : Nat) {u u' : Value} (e : u = u') : Blk (w.setCell ⟨g, i, none⟩ u) g t (cs.set i u') := e ▸ h.put i u
theorem Blk.far (h : Blk w g t cs) {p : Addr} (hp : g ≠ p.block) (u : Value) : Blk (w.setCell p u) g t cs := (Below.heap_setCell w p u g hp).trans h
theorem Blk.below {B : Nat} (h : Blk w g t cs) (hb : Below B w w') (hg : g < B) : Blk w' g t cs := (hb.block g hg).trans h
theorem Blk.rd {α : Type} {enc : α → Value} {L : List α} (h : Blk w g t (L.map enc)) : Rd enc w w.heap.size (some ⟨g, 0, none⟩) L := fun _ =>
  ⟨g, 0, rfl, h.lt, fun i hi => by rw [h.cell]; simp [hi]⟩
theorem Blk.of_own {base : Nat} {e : TypeId} {n : Nat} {xs : List Value} (h : w.ownsRow base e 1 (.slice (some ⟨g, 0, none⟩) n n) n xs) : Blk w g e xs := by
  rcases h.2 with ⟨h', _⟩ | ⟨g', cap, cur, h', _, hg, _, _, hs, ht⟩
  · cases h'
  · injection h' with h1 h2 h3
    injection h1 with h1
    injection h1 with h1 _ _
    subst h1; subst h3
    unfold Blk
    have e1 : cur.toList.take (n * 1) = cur.toList := List.take_of_length_le (by simp [hs])
    rw [e1] at ht
    rw [← ht]
    exact hg
end

theorem Rd.of_own {α : Type} {enc : α → Value} {w : World} {base : Nat} {e : TypeId} {A : Option Addr} {n m c : Nat} {L : List α} (h : w.ownsRow base e 1 (.slice A n c) m (L.map enc)) (hn : m = L.length) : Rd enc w w.heap.size A L := fun hl => by
  rcases h.2 with ⟨hv, h0⟩ | ⟨g, cap, cur, hv, hb, hg, hnc, _, hs, ht⟩
  · omega
  · injection hv with h1 h2 h3
    subst h1
    refine ⟨g, 0, rfl, ?_, fun i hi => ?_⟩
    · rcases Nat.lt_or_ge g w.heap.size with hlt | hge
      · exact hlt
      · rw [Array.getElem?_eq_none hge] at hg; cases hg
    · have h2 : (cur.toList.take (m * 1))[i]? = (L.map enc)[i]? := by rw [ht]
      rw [List.getElem?_take, if_pos (by omega)] at h2
      rw [cell_of_row w g _ cur e (0, 0) hg, Nat.zero_add]
      simpa [hi] using h2
/-- The shape of an owned value of at least one element. -/
theorem own_form {w : World} {base : Nat} {e : TypeId} {size n : Nat} {v : Value} {xs : List Value} (h : w.ownsRow base e size v n xs) (hn : 0 < n) : ∃ g cap, v = .slice (some ⟨g, 0, none⟩) n cap ∧ n ≤ cap := by
  rcases h.2 with ⟨_, h0⟩ | ⟨g, cap, cur, hv, _, _, hnc, _⟩
  · omega
  · exact ⟨g, cap, hv, hnc⟩
theorem own_cap {w : World} {base : Nat} {e : TypeId} {size n c m : Nat} {A : Option Addr} {xs : List Value} (h : w.ownsRow base e size (.slice A n c) m xs) : n ≤ c := by
  rcases h.2 with ⟨hv, h0⟩ | ⟨g, cap, cur, hv, _, _, hnc, _⟩
  · injection hv; omega
  · injection hv; omega
/-- The bytes of a string, laid as a new row, read as its bytes. -/
theorem conv_rd (w : World) (s : ByteArray) (cap : Nat) (e : TypeId) (fr : Nat × Nat) :
    Rd (fun c : UInt8 => .int .u8 (c.toNat : Int)) (w.alloc (.cells (bytesRow s cap) e fr)).drew (w.heap.size + 1) (some ⟨w.heap.size, 0, none⟩) s.data.toList := fun _ => by
  refine ⟨_, 0, rfl, by omega, fun i hi => ?_⟩
  have hi' : i < s.data.size := by simpa using hi
  have hh : (w.alloc (.cells (bytesRow s cap) e fr)).drew.heap[w.heap.size]? = some (.cells (bytesRow s cap) e fr) := heap_alloc_new w _
  rw [cell_of_row _ w.heap.size _ _ e fr hh, Nat.zero_add, bytesRow_at s cap i hi']
  simp

/-- What lay below B lies as it lay: the two rules by which the walk reads an old cell. -/
theorem bcell {W w1 : World} {B : Nat} (hb : Below B W w1) : (∀ b o, b < B → w1.cell? ⟨b, o, none⟩ = W.cell? ⟨b, o, none⟩) ∧ (∀ b o, b < B → w1.frozen? ⟨b, o, none⟩ = W.frozen? ⟨b, o, none⟩) :=
  ⟨fun b o h => hb.cell (p := ⟨b, o, none⟩) h, fun b o h => hb.frozen (p := ⟨b, o, none⟩) h⟩
theorem below_drewN (B : Nat) (w : World) (k : Nat) : Below B w (w.drewN k) := ⟨rfl, rfl, rfl, Nat.le_refl _, fun _ _ => rfl⟩
theorem bw_new {a w : World} (h : Below a.heap.size a w) (o : Obj) : Below a.heap.size a (w.alloc o) := h.alloc h.size o
theorem bw_set {B : Nat} {a w : World} {b o : Nat} (h : Below B a w) (hb : B ≤ b) (u : Value) : Below B a (w.setCell ⟨b, o, none⟩ u) := h.setCell (p := ⟨b, o, none⟩) hb u
theorem bw_drewN {B : Nat} {a w : World} (h : Below B a w) (k : Nat) : Below B a (w.drewN k) := h.trans (below_drewN _ _ _)
theorem bw_drew {B : Nat} {a w : World} (h : Below B a w) : Below B a w.drew := h.drew
theorem ret_int {k : IntKind} {a b : Int} (h : a = b) : Ending.returned (.int k a) = .returned (.int k b) := by rw [h]
theorem ret_of {u v : Value} (h : u = v) : Ending.returned u = .returned v := by rw [h]
theorem ret_slice {A : Option Addr} {n m cap : Nat} (h : n = m) : Ending.returned (.slice A n cap) = .returned (.slice A m cap) := by rw [h]
/-- The length in a slot, for a loop's measure. -/
def lenOf : Value → Nat | .slice _ n _ => n | _ => 0

end Go.Proofs.YtfickhncbahekaaDoor

namespace Go.Proofs.YtfickhncbahekaaDoor
open Go.RowKit

/-- A box of two ints, open for writing. -/
def Two (w : World) (b : Nat) (x y : Int) : Prop :=
  w.cell? ⟨b, 0, none⟩ = some (.int .i64 x) ∧ w.cell? ⟨b, 1, none⟩ = some (.int .i64 y) ∧ w.frozen? ⟨b, 0, none⟩ = false ∧ w.frozen? ⟨b, 1, none⟩ = false ∧ b < w.heap.size
theorem Two.new (w : World) (x y : Int) (t : TypeId) : Two (w.alloc (.cells #[.int .i64 x, .int .i64 y] t)) w.heap.size x y :=
  ⟨by rw [World.cell?_alloc_new]; rfl, by rw [World.cell?_alloc_new]; rfl, World.frozen?_alloc_new _ _ _ _, World.frozen?_alloc_new _ _ _ _, by simp⟩
theorem Two.below {w w' : World} {b : Nat} {x y : Int} (h : Two w b x y) (hb : Below w.heap.size w w') : Two w' b x y := by
  obtain ⟨h1, h2, h3, h4, h5⟩ := h
  obtain ⟨hc, hf⟩ := bcell hb
  exact ⟨by rw [hc _ _ h5]; exact h1, by rw [hc _ _ h5]; exact h2, by rw [hf _ _ h5]; exact h3, by rw [hf _ _ h5]; exact h4, Nat.lt_of_lt_of_le h5 hb.size⟩
theorem Two.alloc {w : World} {b : Nat} {x y : Int} (h : Two w b x y) (o : Obj) : Two (w.alloc o) b x y := h.below (bw_new (Below.refl _ _) o)

end Go.Proofs.YtfickhncbahekaaDoor
