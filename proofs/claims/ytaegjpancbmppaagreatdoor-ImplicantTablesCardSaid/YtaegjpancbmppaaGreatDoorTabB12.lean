/- Part 12 of 33 of the proof of the law: contracts of the functions that it reaches, and plain facts. Conditions: those that each contract names. -/
import Derived.Test.YtaegjpancbmppaaGreatDoorTabB10
import Derived.Test.YtaegjpancbmppaaGreatDoorTabB01
import Derived.Test.YtaegjpancbmppaaGreatDoorTabB11
set_option linter.unusedVariables false
set_option linter.unusedSimpArgs false
namespace Go.Proofs.YtaegjpancbmppaaGreatDoor
open Go.RowKit Go.Shelf Go.Sort
abbrev PmS := { x : Nat × Nat // x.1 < 256 }
instance : Inhabited PmS := ⟨⟨(0, 0), by decide⟩⟩
def encP (n : Nat) (x : PmS) : List Value := pmL n x.1
def cfP (x y : PmS) : Int := ordZ x.1 y.1
instance (a b : Nat × Nat) : Decidable (cLt a b) := by unfold cLt; infer_instance
theorem ltP (x y : PmS) : ltOf cfP x y = decide (cLt x.1 y.1) := by
 unfold ltOf cfP ordZ cLt or3 Lib.compareInt
 apply decide_eq_decide.2
 generalize popc x.1.1 = a0
 generalize popc y.1.1 = b0
 generalize x.1.1 = a1
 generalize y.1.1 = b1
 generalize x.1.2 = a2
 generalize y.1.2 = b2
 repeat' split
 all_goals omega
theorem swoP : SWO (ltOf cfP) where
 irrefl x := by rw [ltP]; exact decide_eq_false (cLt_irr _)
 trans x y z h1 h2 := by
  rw [ltP] at h1 h2 ⊢
  simp only [decide_eq_true_eq] at h1 h2 ⊢
  unfold cLt at h1 h2 ⊢
  omega
 ntrans x y z h1 h2 := by
  rw [ltP] at h1 h2 ⊢
  simp only [decide_eq_false_iff_not] at h1 h2 ⊢
  unfold cLt at h1 h2 ⊢
  omega
theorem swp_block {n : Nat} {w : World} {g m j : Nat} {d : Array PmS} {os : Array Obj} (hj : j < w.heap.size) (hne : j ≠ g) : (sortWorldK (encP n) 6 w g 0 m d os).heap[j]? = w.heap[j]? := by
 unfold sortWorldK
 rw [heap_grow_old _ _ (by rw [size_putRowK]; exact hj)]
 simp [putRowK, putRow, mapBlock, Sort.ahead, Array.getElem?_modify, Ne.symm hne]
theorem swp_grown {n : Nat} {w : World} {g m : Nat} {d : Array PmS} {os : Array Obj} : w.grownBy (sortWorldK (encP n) 6 w g 0 m d os) (some g) :=
 ⟨rfl, rfl, rfl, size_sortWorldK_c (encP n) 6 w g 0 m d os, fun j hj hne => swp_block hj (fun e => hne (by rw [e]))⟩
abbrev pmC (n : Nat) (L : List (Nat × Nat)) : List Value := L.flatMap (pmL n)
theorem pmL_len (n : Nat) (x : Nat × Nat) : (pmL n x).length = 6 := rfl
theorem pmC_get (n : Nat) : ∀ (L : List (Nat × Nat)) (i j : Nat), i < L.length → j < 6 → (pmC n L)[i * 6 + j]? = (pmL n (L.getD i (0, 0)))[j]?
 | [], _, _, h, _ => absurd h (Nat.not_lt_zero _)
 | x :: L, 0, j, _, hj => by
  rw [Nat.zero_mul, Nat.zero_add, pmC, List.flatMap_cons, List.getElem?_append_left (by rw [pmL_len]; exact hj)]
  rfl
 | x :: L, i + 1, j, h, hj => by
  rw [pmC, List.flatMap_cons, List.getElem?_append_right (by rw [pmL_len]; omega), pmL_len, show (i + 1) * 6 + j - 6 = i * 6 + j by omega]
  exact pmC_get n L i j (by simpa using h) hj
def PRd (n : Nat) (w : World) (Bd : Nat) (A : Option Addr) (L : List (Nat × Nat)) : Prop :=
 0 < L.length → ∃ g, A = some ⟨g, 0, none⟩ ∧ g < Bd ∧ ∀ i, i < L.length → ∀ j, j < 6 → w.cell? ⟨g, i * 6 + j, none⟩ = (pmL n (L.getD i (0, 0)))[j]?
theorem PRd.below {n : Nat} {w w' : World} {Bd : Nat} {A : Option Addr} {L : List (Nat × Nat)} (h : PRd n w Bd A L) (hb : Below Bd w w') : PRd n w' Bd A L := fun hl => by
 obtain ⟨g, rfl, hg, hc⟩ := h hl
 exact ⟨g, rfl, hg, fun i hi j hj => (hb.cell (p := ⟨g, _, none⟩) hg).trans (hc i hi j hj)⟩
theorem PRd.more {n : Nat} {w : World} {Bd Bd' : Nat} {A : Option Addr} {L : List (Nat × Nat)} (h : PRd n w Bd A L) (hb : Bd ≤ Bd') : PRd n w Bd' A L := fun hl => by
 obtain ⟨g, rfl, hg, hc⟩ := h hl
 exact ⟨g, rfl, by omega, hc⟩
theorem holdsP_of {n : Nat} {w : World} {g : Nat} {cur : Array Value} {e : TypeId} {L : List PmS} (hg : w.heap[g]? = some (.cells cur e (0, 0))) (ht : cur.toList.take (L.length * 6) = pmC n (L.map (·.1))) : HoldsK (encP n) 6 w g 0 L.toArray := by
 intro j hj
 rw [size_flatK] at hj
 have hj' : j < L.length * 6 := by simpa using hj
 refine ⟨?_, by simp [World.frozen?, hg]⟩
 rw [get_flatK _ _ _ _ hj, cell_of_row w g _ cur e (0, 0) hg, Nat.zero_add]
 have h1 : cur.toList[j]? = (pmC n (L.map (·.1)))[j]? := by
  rw [← ht, List.getElem?_take, if_pos hj']
 have hq : j / 6 < L.length := by omega
 have h2 := pmC_get n (L.map (·.1)) (j / 6) (j % 6) (by simpa using hq) (Nat.mod_lt _ (by decide))
 have h3 : (L.map (·.1)).getD (j / 6) (0, 0) = (L[j / 6]).1 := by simp [hq]
 rw [h3, show j / 6 * 6 + j % 6 = j by omega] at h2
 have h4 : L.toArray[j / 6]! = L[j / 6] := by simp [hq]
 rw [h4, ← Array.getElem?_toList, h1, h2]
 have hm : j % 6 < 6 := Nat.mod_lt _ (by decide)
 unfold encP
 rw [List.getElem?_eq_getElem (by rw [pmL_len]; exact hm), getElem!_pos (pmL n L[j / 6].val) (j % 6) (by rw [pmL_len]; exact hm)]
 rfl
def SortedP (n base : Nat) (A : Option Addr) (c : Nat) (L : List PmS) (w : World) (e : Ending) (w' : World) : Prop :=
 e = .returned (.tuple #[]) ∧ ∃ L' : List PmS, L'.Perm L ∧ L'.Pairwise (fun x y => ¬ cLt y.1 x.1) ∧ PRd n w' w'.heap.size A (L'.map (·.1)) ∧ w.grownBy w' (Value.slice A L.length c).ownBlock
set_option maxRecDepth 100000 in
set_option maxHeartbeats 2000000 in
theorem isort_any (n base c : Nat) (A : Option Addr) (L : List PmS) (w : World) (hown : w.ownsRow base 86 6 (.slice A L.length c) L.length (pmC n (L.map (·.1)))) (hlen : L.length ≤ 1000000) :
  Calls Tryz.prog 66 #[.slice A L.length c, .func (.func 67) #[] #[]] w (SortedP n base A c L w) := by
 by_cases h0 : L = []
 ·subst h0
  have h := AnyF.slices_SortFunc_none Tryz.sortF A c (.func (.func 67) #[] #[]) w
  change Calls Tryz.prog 66 _ _ _ at h
  refine h.mono ?_
  rintro e w' ⟨rfl, rfl⟩
  exact ⟨rfl, [], List.Perm.refl _, List.Pairwise.nil, fun h => absurd h (by simp), ⟨rfl, rfl, rfl, Nat.le_refl _, fun _ _ _ => rfl⟩⟩
 ·have hpos : 0 < L.length := List.length_pos_iff.2 h0
  rcases hown.2 with ⟨_, h1⟩ | ⟨g, cap, cur, hv, hb, hg, hnc, hmx, hs, ht⟩
  ·omega
  ·injection hv with e1 e2 e3
   subst e1; subst e3
   have hH := holdsP_of hg ht
   have hblk : g < w.heap.size := (Array.getElem?_eq_some_iff.1 hg).1
   have eg : ∀ args w, (callFunc 67 args).run Tryz.prog w = .ok (.enter 67 args) w := enters_of Tryz.func67 (by kernel_rfl) rfl
   have hcmp : CmpLays Tryz.prog 67 #[] (encP n) 6 cfP g 0 L.toArray.size w := fun mm os dk _ x y => iprcmp_any n x.1 y.1 _ x.2 y.2
   have h := AnyQ.slices_SortFunc Tryz.sortF 6 Tryz.isAgg86 Tryz.sizeOf86 (encP n) (fun _ => rfl) (fun x v hv => by simp [encP, pmL, setL] at hv; rcases hv with rfl | rfl | rfl | rfl | rfl | rfl <;> rfl) cfP swoP 67 #[] g 0 c L.toArray w eg hcmp hH hblk (by simp; omega)
   change Calls Tryz.prog 66 _ _ _ at h
   have hsz : L.toArray.size = L.length := by simp
   rw [hsz] at h
   refine h.mono ?_
   rintro e w' ⟨rfl, d', nn, os, hp, hso, rfl⟩
   have hd : d'.size = L.length := by rw [hp.1, hsz]
   refine ⟨rfl, d'.toList, ?_, ?_, ?_, swp_grown⟩
   ·have h3 := hp.2.2
    have e1 : d'.extract 0 L.length = d' := by rw [← hd]; simp
    have e2 : L.toArray.extract 0 L.length = L.toArray := by rw [← hsz]; simp
    rw [e1, e2] at h3
    exact h3
   ·rw [List.pairwise_iff_getElem]
    intro i j hi hj hij
    simp only [Array.length_toList] at hi hj
    have h3 := hso i j (Nat.zero_le _) hij (by rw [← hd]; exact hj)
    rw [getElem!_pos d' i hi, getElem!_pos d' j hj, ltP] at h3
    simpa using h3
   ·intro _
    have hK := holdsK_sortWorldK_c (encP n) 6 w g 0 L.toArray d' nn os hH hblk (by rw [hd, hsz])
    refine ⟨g, rfl, Nat.lt_of_lt_of_le hblk (size_sortWorldK_c (encP n) 6 w g 0 nn d' os), fun i hi j hj => ?_⟩
    rw [List.length_map, Array.length_toList] at hi
    have e1 := (HoldsK.cell hK hi hj).1
    have e3 : (List.map (fun x : PmS => x.1) d'.toList).getD i (0, 0) = (d'[i]).1 := by simp [hi]
    rw [getElem!_pos d' i hi] at e1
    rw [e3]
    rw [show (0 + i * 6 + j) = i * 6 + j by omega] at e1
    rw [e1]
    unfold encP
    rw [List.getElem?_eq_getElem (by rw [pmL_len]; exact hj), getElem!_pos (pmL n d'[i].val) j (by rw [pmL_len]; exact hj)]
theorem attach_map {l : List (Nat × Nat)} (h : ∀ x ∈ l, x.1 < 256) : ∃ L : List PmS, L.map (·.1) = l := by
 refine ⟨l.attach.map fun x => ⟨x.1, h x.1 x.2⟩, ?_⟩
 rw [List.map_map]
 exact List.attach_map_subtype_val l
end Go.Proofs.YtaegjpancbmppaaGreatDoor
