/- A list of the call's own, sorted or turned round by the library. Conditions: it has at most maxLen elements. -/
import Derived.Test.YtfickhncbahekaaDoorTunBfs2
import Derived.Test.YtfickhncbahekaaDoorTunReg
import Derived.Test.YtfickhncbahekaaDoorShelf
import Derived.Sort.OwnSortedInts
namespace Go.Proofs.YtfickhncbahekaaDoor
open Go.RowKit Go.Sort

/-- A list of the call's own behind a turn of its cells. -/
def Turned (w : World) (base : Nat) (v : Value) (l : List Int) (e : Ending) (w' : World) : Prop :=
  e = .returned (.tuple #[]) ∧ w'.ownsRow base 3 1 v l.length (l.map i64v) ∧ w.grownBy w' v.ownBlock
theorem sort_own {w : World} {base c : Nat} {A : Option Addr} (l : List Int) (h : w.ownsRow base 3 1 (.slice A l.length c) l.length (l.map i64v)) (h0 : 0 < l.length) (hmx : l.length ≤ 1000000) :
    Calls Tryd.prog 60 #[.slice A l.length c] w (Turned w base (.slice A l.length c) (srt l)) := by
  rcases h.2 with ⟨_, h1⟩ | ⟨g, cap, cur, hv, hb, hg, hnc, hm, hs, ht⟩
  · omega
  · injection hv with e1 e2 e3
    subst e1; subst e3
    have hblk : g < w.heap.size := (Array.getElem?_eq_some_iff.1 hg).1
    rw [Nat.mul_one] at ht
    have hH := holds_of_blockI hg ht
    have hlen : (srt l).length = l.length := (srt_perm l).length_eq
    refine (Tryd.slices_Sort_int g 0 c l w hH hblk (by omega)).mono ?_
    rintro e w' ⟨rfl, n, os, rfl⟩
    refine ⟨rfl, ?_, grownBy_sortedI _⟩
    have := ownsRow_sortedI (w := w) (base := base) (n := n) (os := os) hlen hb hg hnc hm hs
    rw [hlen]
    exact this
theorem rev_own {w : World} {base c : Nat} {A : Option Addr} (l : List Int) (h : w.ownsRow base 3 1 (.slice A l.length c) l.length (l.map i64v)) :
    Calls Tryd.prog 56 #[.slice A l.length c] w (Turned w base (.slice A l.length c) l.reverse) := by
  by_cases h0 : l = []
  · subst h0
    refine (Tryd.slices_Reverse_int_empty A c w).mono ?_
    rintro e w' ⟨rfl, rfl⟩
    exact ⟨rfl, h, ⟨rfl, rfl, rfl, Nat.le_refl _, fun _ _ _ => rfl⟩⟩
  · have hpos : 0 < l.length := List.length_pos_iff.2 h0
    rcases h.2 with ⟨_, h1⟩ | ⟨g, cap, cur, hv, hb, hg, hnc, hm, hs, ht⟩
    · omega
    · injection hv with e1 e2 e3
      subst e1; subst e3
      rw [Nat.mul_one] at ht
      have hH := holds_of_blockI hg ht
      have hlen : l.reverse.length = l.length := List.length_reverse
      refine (Tryd.slices_Reverse_int g 0 c l w hH (by unfold maxLen at hm; omega)).mono ?_
      rintro e w' ⟨rfl, n, rfl⟩
      have hgr : ∀ W : World, grow W #[] = W := fun W => by unfold grow; simp
      have h1 := ownsRow_sortedI (w := w) (base := base) (n := n) (os := #[]) hlen hb hg hnc hm hs
      have h2 := grownBy_sortedI (w := w) (g := g) (n := n) (os := #[]) l.reverse.toArray
      rw [hgr] at h1 h2
      refine ⟨rfl, ?_, h2⟩
      rw [hlen]
      exact h1

end Go.Proofs.YtfickhncbahekaaDoor
