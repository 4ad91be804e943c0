/- Package tuner: the order of the planned steps, and how the library lays them in it. Conditions: the steps lead between notes; no note is more than 127 steps away. -/
import Derived.Test.YtfickhncbahekaaDoorTunOpen
namespace Go.Proofs.YtfickhncbahekaaDoor
open Go.RowKit Go.Shelf Go.Sort

/-- A step between notes. -/
abbrev NSt := { x : Int × Int // isN x.1 ∧ isN x.2 }
instance : Inhabited NSt := ⟨⟨(0, 0), by decide⟩⟩
def encN (x : NSt) : List Value := [.int .i64 x.1.1, .int .i64 x.1.2]
/-- How far away a note is. -/
def awy (m : List (Int × Int)) (k : Int) : Int := (lkz k m).getD 0
def orZ (a b : Int) : Int := if a ≠ 0 then a else b
def cfN (m : List (Int × Int)) (x y : NSt) : Int := orZ (awy m x.1.2 - awy m y.1.2) (x.1.2 - y.1.2)
theorem ltN (m : List (Int × Int)) (x y : NSt) : ltOf (cfN m) x y = decide (awy m x.1.2 < awy m y.1.2 ∨ (awy m x.1.2 = awy m y.1.2 ∧ x.1.2 < y.1.2)) := by
  unfold ltOf cfN orZ
  apply decide_eq_decide.2
  split <;> omega
theorem swoN (m : List (Int × Int)) : SWO (ltOf (cfN m)) where
  irrefl x := by rw [ltN]; simp
  trans x y z h1 h2 := by rw [ltN] at *; simp only [decide_eq_true_eq] at *; omega
  ntrans x y z h1 h2 := by rw [ltN] at *; simp only [decide_eq_false_iff_not] at *; omega

set_option maxRecDepth 100000 in
set_option maxHeartbeats 1000000 in
theorem cmpOr_any (a b : Int) (g : Nat) (w : World) (h : Blk w g 3 [.int .i64 a, .int .i64 b]) :
    Calls Tryd.prog 47 #[.slice (some ⟨g, 0, none⟩) 2 2] w fun e w' => e = .returned (.int .i64 (orZ a b)) ∧ w = w' := by
  have c0 : w.cell? ⟨g, 0, none⟩ = some (.int .i64 a) := h.cell 0
  have c1 : w.cell? ⟨g, 1, none⟩ = some (.int .i64 b) := h.cell 1
  clear h
  go_enter Tryd.func47, Tryd.ntmps47
  go_wp2
  go_loop [8] (fun v => ∃ k : Nat, k ≤ 2 ∧ v = .int .i64 (k : Int) ∧ (1 ≤ k → a = 0) ∧ (2 ≤ k → b = 0)) (fun v => 2 - (intOf v).toNat)
  case atStart => exact ⟨0, by omega, rfl, fun h => by omega, fun h => by omega⟩
  case round =>
    obtain ⟨k, hk, rfl, h1, h2⟩ := hrel
    have H1 := Lib.hid h1
    have H2 := Lib.hid h2
    clear h1 h2
    have hkk : k = 0 ∨ k = 1 ∨ k = 2 := by omega
    rcases hkk with rfl | rfl | rfl
    · by_cases ha : a = 0
      · subst ha
        have ht : ((0 : Int) != 0) = false := by decide
        go_wp2
        go_round
        case rel => exact ⟨1, by omega, rfl, by simp, by simp⟩
        case measure => simp [intOf]
      · have ht : (a != 0) = true := by simpa using ha
        have HO := Lib.hid (show orZ a b = a from if_pos ha)
        clear ha
        go_wp2
        go_ret
        exact ⟨by rw [HO.out]; rfl, rfl⟩
    · have HA := Lib.hid (H1.out (Nat.le_refl _))
      by_cases hb : b = 0
      · subst hb
        go_wp2
        go_round
        case rel => exact ⟨2, by omega, rfl, fun _ => HA.out, by simp⟩
        case measure => simp [intOf]
      · have ht : (b != 0) = true := by simpa using hb
        have HO := Lib.hid (show orZ a b = b by unfold orZ; rw [if_neg (fun e => e HA.out)])
        clear hb
        go_wp2
        go_ret
        exact ⟨by rw [HO.out]; rfl, rfl⟩
    · have HO := Lib.hid (show orZ a b = 0 by unfold orZ; rw [if_neg (fun e => e (H1.out (by omega))), H2.out (Nat.le_refl _)])
      go_wp2
      go_ret
      exact ⟨by rw [HO.out]; rfl, rfl⟩

set_option maxRecDepth 100000 in
set_option maxHeartbeats 2000000 in
theorem closure_any (m : List (Int × Int)) (hm : ∀ k, 0 ≤ awy m k ∧ awy m k ≤ 127) (sb m1 m2 : Nat) (x y : NSt) (X : World) (hS : Blk X sb 103 [.map (some m1), .map (some m2)]) (hM : MapC iK X m1 (ents i64v m)) :
    Calls Tryd.prog 46 #[.agg (encN x).toArray, .agg (encN y).toArray, .pointer (some ⟨sb, 0, none⟩)] X fun e w' => e = .returned (.int .i64 (cfN m x y)) ∧ ∃ q os', w' = grow (X.drewN q) os' := by
  obtain ⟨⟨p, q⟩, hp, hq⟩ := x
  obtain ⟨⟨p2, q2⟩, hp2, hq2⟩ := y
  unfold isN at hp hq hp2 hq2
  dsimp only at hp hq hp2 hq2
  have hcf : cfN m ⟨(p, q), hp, hq⟩ ⟨(p2, q2), hp2, hq2⟩ = orZ (awy m q - awy m q2) (q - q2) := rfl
  obtain ⟨hq0, hq1⟩ := hq
  obtain ⟨hr0, hr1⟩ := hq2
  have hXM : MapC iK ((X.alloc (.cells #[.int .i64 p, .int .i64 q] 27)).alloc (.cells #[.int .i64 p2, .int .i64 q2] 27)) m1 (ents i64v m) := (hM.alloc _).alloc _
  have hl1 := (look_iv hXM q).2
  have hl2 := (look_iv hXM q2).2
  have c0 : X.cell? ⟨sb, 0, none⟩ = some (.map (some m1)) := hS.cell 0
  have hlt : sb < X.heap.size := hS.lt
  have e1 : (lkz q m).getD 0 = awy m q := rfl
  have e2 : (lkz q2 m).getD 0 = awy m q2 := rfl
  rw [e1] at hl1
  rw [e2] at hl2
  obtain ⟨ha0, ha1⟩ := hm q
  obtain ⟨hb0, hb1⟩ := hm q2
  generalize awy m q = a at *
  generalize awy m q2 = b at *
  have hO := cmpOr_any (a - b) (q - q2) (X.heap.size + 2) (((X.alloc (.cells #[.int .i64 p, .int .i64 q] 27)).alloc (.cells #[.int .i64 p2, .int .i64 q2] 27)).alloc (.cells #[.int .i64 (a - b), .int .i64 (q - q2)] 3)) (by
    have := heap_alloc_new ((X.alloc (.cells #[.int .i64 p, .int .i64 q] 27)).alloc (.cells #[.int .i64 p2, .int .i64 q2] 27)) (.cells #[.int .i64 (a - b), .int .i64 (q - q2)] 3)
    rw [World.size_alloc, World.size_alloc] at this
    exact this)
  have HO := Lib.hid hO
  obtain ⟨r, hr⟩ : ∃ r, r = orZ (a - b) (q - q2) := ⟨_, rfl⟩
  rw [← hr] at HO hcf
  rw [hcf]
  unfold encN
  dsimp only
  clear hO hXM hM hS hcf e1 e2 hm hr hp hp2
  go_enter Tryd.func46, Tryd.ntmps46
  go_wp2_with fail
  refine HO.out.mono ?_
  rintro e w1 ⟨rfl, rfl⟩
  go_wp2
  go_ret
  exact ⟨rfl, 0, _, by rw [alloc_eq_grow, alloc_eq_grow, alloc_eq_grow, grow_grow, grow_grow]; rfl⟩
theorem swk_block {w : World} {g n j : Nat} {d : Array NSt} {os : Array Obj} (hj : j < w.heap.size) (hne : j ≠ g) : (sortWorldK encN 2 w g 0 n d os).heap[j]? = w.heap[j]? := by
  unfold sortWorldK
  rw [heap_grow_old _ _ (by rw [size_putRowK]; exact hj)]
  simp [putRowK, putRow, mapBlock, Sort.ahead, Array.getElem?_modify, Ne.symm hne]
theorem swk_grown {w : World} {g n : Nat} {d : Array NSt} {os : Array Obj} : w.grownBy (sortWorldK encN 2 w g 0 n d os) (some g) :=
  ⟨rfl, rfl, rfl, size_sortWorldK_c encN 2 w g 0 n d os, fun j hj hne => swk_block hj (fun e => hne (by rw [e]))⟩
theorem holdsN_of {w : World} {g : Nat} {cur : Array Value} {e : TypeId} {L : List NSt} (hg : w.heap[g]? = some (.cells cur e (0, 0))) (ht : cur.toList.take (L.length * 2) = pcs (L.map (·.1))) : HoldsK encN 2 w g 0 L.toArray := by
  intro j hj
  rw [size_flatK] at hj
  have hj' : j < L.length * 2 := by simpa using hj
  refine ⟨?_, by simp [World.frozen?, hg]⟩
  rw [get_flatK _ _ _ _ hj, cell_of_row w g _ cur e (0, 0) hg, Nat.zero_add]
  have h1 : cur.toList[j]? = (pcs (L.map (·.1)))[j]? := by
    rw [← ht, List.getElem?_take, if_pos hj']
  have hq : j / 2 < L.length := by omega
  have h2 := pcs_get (L.map (·.1)) (j / 2) (by simpa using hq)
  have h3 : (L.map (·.1)).getD (j / 2) (0, 0) = (L[j / 2]).1 := by simp [hq]
  rw [h3] at h2
  have h4 : L.toArray[j / 2]! = L[j / 2] := by simp [hq]
  rw [h4]
  rw [← Array.getElem?_toList, h1]
  have hm : j % 2 = 0 ∨ j % 2 = 1 := by omega
  rcases hm with hm | hm
  · have e1 : j = j / 2 * 2 := by omega
    rw [hm]
    conv => lhs; rw [e1]
    rw [h2.1]; rfl
  · have e1 : j = j / 2 * 2 + 1 := by omega
    rw [hm]
    conv => lhs; rw [e1]
    rw [h2.2]; rfl
/-- The steps in order. -/
def StLt (m : List (Int × Int)) (x y : NSt) : Prop := awy m x.1.2 < awy m y.1.2 ∨ (awy m x.1.2 = awy m y.1.2 ∧ x.1.2 < y.1.2)
def Sorted (m : List (Int × Int)) (base : Nat) (A : Option Addr) (c : Nat) (L : List NSt) (w : World) (e : Ending) (w' : World) : Prop :=
  e = .returned (.tuple #[]) ∧ ∃ L' : List NSt, L'.Perm L ∧ L'.Pairwise (fun x y => ¬ StLt m y x) ∧ SRd w' w'.heap.size A (L'.map (·.1)) ∧ w.grownBy w' (Value.slice A L.length c).ownBlock
set_option maxRecDepth 100000 in
set_option maxHeartbeats 2000000 in
theorem sortSteps_any (m : List (Int × Int)) (hm : ∀ k, 0 ≤ awy m k ∧ awy m k ≤ 127) (sb m1 m2 base c : Nat) (A : Option Addr) (L : List NSt) (w : World) (hown : w.ownsRow base 27 2 (.slice A L.length c) L.length (pcs (L.map (·.1)))) (hS : Blk w sb 103 [.map (some m1), .map (some m2)]) (hM : MapC iK w m1 (ents i64v m)) (hmb : m1 < base) (hlen : L.length ≤ 1000000) :
    Calls Tryd.prog 45 #[.slice A L.length c, .func (.func 46) #[] #[.pointer (some ⟨sb, 0, none⟩)]] w (Sorted m base A c L w) := by
  by_cases h0 : L = []
  · subst h0
    have h := AnyF.slices_SortFunc_none Tryd.sortF A c (.func (.func 46) #[] #[.pointer (some ⟨sb, 0, none⟩)]) w
    change Calls Tryd.prog 45 _ _ _ at h
    refine h.mono ?_
    rintro e w' ⟨rfl, rfl⟩
    exact ⟨rfl, [], List.Perm.refl _, List.Pairwise.nil, SRd.nil, ⟨rfl, rfl, rfl, Nat.le_refl _, fun _ _ _ => rfl⟩⟩
  · have hpos : 0 < L.length := List.length_pos_iff.2 h0
    rcases hown.2 with ⟨_, h1⟩ | ⟨g, cap, cur, hv, hb, hg, hnc, hmx, hs, ht⟩
    · omega
    · injection hv with e1 e2 e3
      subst e1; subst e3
      have hH := holdsN_of hg ht
      have hblk : g < w.heap.size := (Array.getElem?_eq_some_iff.1 hg).1
      have hgs : sb ≠ g := fun e => by
        subst e
        unfold Blk at hS
        rw [hS] at hg
        injection hg with hg
        injection hg with _ hg
        exact absurd hg (by decide)
      have eg : ∀ args w, (callFunc 46 args).run Tryd.prog w = .ok (.enter 46 args) w := enters_of Tryd.func46 (by kernel_rfl) rfl
      have hcmp : CmpLays Tryd.prog 46 #[.pointer (some ⟨sb, 0, none⟩)] encN 2 (cfN m) g 0 L.toArray.size w := fun mm os dk _ x y => by
        have h1 : Blk (sortWorldK encN 2 w g 0 mm dk os) sb 103 [.map (some m1), .map (some m2)] := (swk_block hS.lt hgs).trans hS
        have h2 : MapC iK (sortWorldK encN 2 w g 0 mm dk os) m1 (ents i64v m) := hM.keep (swk_block hM.lt (by omega))
        exact closure_any m hm sb m1 m2 x y _ h1 h2
      have h := AnyQ.slices_SortFunc Tryd.sortF 2 Tryd.isAgg27 Tryd.sizeOf27 encN (fun _ => rfl) (fun x v hv => by simp [encN] at hv; rcases hv with rfl | rfl <;> rfl) (cfN m) (swoN m) 46 #[.pointer (some ⟨sb, 0, none⟩)] g 0 c L.toArray w eg hcmp hH hblk (by simp; omega)
      change Calls Tryd.prog 45 _ _ _ at h
      have hsz : L.toArray.size = L.length := by simp
      rw [hsz] at h
      refine h.mono ?_
      rintro e w' ⟨rfl, d', nn, os, hp, hso, rfl⟩
      have hd : d'.size = L.length := by rw [hp.1, hsz]
      refine ⟨rfl, d'.toList, ?_, ?_, ?_, swk_grown⟩
      · have h3 := hp.2.2
        have e1 : d'.extract 0 L.length = d' := by rw [← hd]; simp
        have e2 : L.toArray.extract 0 L.length = L.toArray := by rw [← hsz]; simp
        rw [e1, e2] at h3
        exact h3
      · rw [List.pairwise_iff_getElem]
        intro i j hi hj hij
        simp only [Array.length_toList] at hi hj
        have h3 := hso i j (Nat.zero_le _) hij (by rw [← hd]; exact hj)
        rw [getElem!_pos d' i hi, getElem!_pos d' j hj, ltN] at h3
        unfold StLt
        simpa using h3
      · intro _
        have hK := holdsK_sortWorldK_c encN 2 w g 0 L.toArray d' nn os hH hblk (by rw [hd, hsz])
        refine ⟨g, 0, rfl, Nat.lt_of_lt_of_le hblk (size_sortWorldK_c encN 2 w g 0 nn d' os), fun i hi => ?_⟩
        rw [List.length_map, Array.length_toList] at hi
        have e1 := (HoldsK.cell hK hi (show 0 < 2 by decide)).1
        have e2 := (HoldsK.cell hK hi (show 1 < 2 by decide)).1
        have e3 : (List.map (fun x : NSt => x.1) d'.toList).getD i (0, 0) = (d'[i]).1 := by simp [hi]
        rw [getElem!_pos d' i hi] at e1 e2
        rw [e3]
        exact ⟨e1, e2⟩

end Go.Proofs.YtfickhncbahekaaDoor
