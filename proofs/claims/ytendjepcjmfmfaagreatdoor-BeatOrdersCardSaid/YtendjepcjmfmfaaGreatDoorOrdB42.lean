/- Part 42 of 47 of the proof of the law: contracts of the functions that it reaches, and plain facts. Conditions: those that each contract names. -/
import Derived.Test.YtendjepcjmfmfaaGreatDoorOrdB40
import Derived.Test.YtendjepcjmfmfaaGreatDoorOrdB41
namespace Go.Proofs.YtendjepcjmfmfaaGreatDoor
open Go.RowKit Go.Shelf Go.Sort
abbrev NK (lo : Int) (n : Nat) := { x : Int // lo ≤ x ∧ x < lo + n }
def encK {lo : Int} {n : Nat} (x : NK lo n) : Value := .int .i64 x.1
def cfK (v0 v1 : Nat → Int) (lo : Int) (n : Nat) (x y : NK lo n) : Int := cfB v0 v1 lo x.1 y.1
def LtB (v0 v1 : Nat → Int) (lo a b : Int) : Prop := v0 (a - lo).toNat < v0 (b - lo).toNat ∨ (v0 (a - lo).toNat = v0 (b - lo).toNat ∧ (v1 (a - lo).toNat < v1 (b - lo).toNat ∨ (v1 (a - lo).toNat = v1 (b - lo).toNat ∧ a < b)))
instance (v0 v1 : Nat → Int) (lo a b : Int) : Decidable (LtB v0 v1 lo a b) := by unfold LtB; infer_instance
theorem ltK (v0 v1 : Nat → Int) (lo : Int) (n : Nat) (x y : NK lo n) : ltOf (cfK v0 v1 lo n) x y = decide (LtB v0 v1 lo x.1 y.1) := by
 unfold ltOf cfK cfB LtB or3 Lib.compareInt
 apply decide_eq_decide.2
 generalize v0 (x.1 - lo).toNat = a0
 generalize v0 (y.1 - lo).toNat = b0
 generalize v1 (x.1 - lo).toNat = a1
 generalize v1 (y.1 - lo).toNat = b1
 repeat' split
 all_goals omega
theorem swoK (v0 v1 : Nat → Int) (lo : Int) (n : Nat) : SWO (ltOf (cfK v0 v1 lo n)) where
 irrefl x := by rw [ltK]; simp [LtB]
 trans x y z h1 h2 := by
  rw [ltK] at h1 h2 ⊢
  simp only [decide_eq_true_eq] at h1 h2 ⊢
  unfold LtB at h1 h2 ⊢
  omega
 ntrans x y z h1 h2 := by
  rw [ltK] at h1 h2 ⊢
  simp only [decide_eq_false_iff_not] at h1 h2 ⊢
  unfold LtB at h1 h2 ⊢
  omega
theorem sw1_block {α : Type} [Inhabited α] {enc : α → Value} {w : World} {g n j : Nat} {d : Array α} {os : Array Obj} (hj : j < w.heap.size) (hne : j ≠ g) : (sortWorld enc w g 0 n d os).heap[j]? = w.heap[j]? := by
 unfold sortWorld
 rw [heap_grow_old _ _ (by simpa [putRow, mapBlock, Sort.ahead] using hj)]
 simp [putRow, mapBlock, Sort.ahead, Array.getElem?_modify, Ne.symm hne]
theorem sw1_size {α : Type} [Inhabited α] {enc : α → Value} {w : World} {g n : Nat} {d : Array α} {os : Array Obj} : w.heap.size ≤ (sortWorld enc w g 0 n d os).heap.size := by
 simp [sortWorld, grow, putRow, mapBlock, Sort.ahead]
theorem sw1_grown {α : Type} [Inhabited α] {enc : α → Value} {w : World} {g n : Nat} {d : Array α} {os : Array Obj} : w.grownBy (sortWorld enc w g 0 n d os) (some g) :=
 ⟨rfl, rfl, rfl, sw1_size, fun j hj hne => sw1_block hj (fun e => hne (by rw [e]))⟩
theorem holds1_of {lo : Int} {n : Nat} [Inhabited (NK lo n)] {w : World} {base g c : Nat} {t : TypeId} {L : List (NK lo n)} (h : w.ownsRow base t 1 (.slice (some ⟨g, 0, none⟩) L.length c) L.length (L.map encK)) : Holds (encK (lo := lo) (n := n)) w g 0 L.toArray := by
 intro j hj
 have hj' : j < L.length := by simpa using hj
 rcases h.2 with ⟨hv, _⟩ | ⟨g', cap, cur, hv, _, hg, _, _, _, ht⟩
 ·cases hv
 ·injection hv with e1 e2 e3
  injection e1 with e1
  injection e1 with e1 _ _
  subst e1
  refine ⟨?_, by simp [World.frozen?, hg]⟩
  rw [cell_of_row w g _ cur t (0, 0) hg, Nat.zero_add]
  have h2 : (cur.toList.take (L.length * 1))[j]? = (L.map encK)[j]? := by rw [ht]
  rw [List.getElem?_take, if_pos (by omega)] at h2
  rw [← Array.getElem?_toList, h2]
  simp [hj']
set_option maxRecDepth 100000 in
set_option maxHeartbeats 2000000 in
theorem sort42 (lo hi : Int) (n c g tb kb g2 c2 base : Nat) (v0 v1 : Nat → Int) (L : List (NK lo n)) (w : World) (h0 : 0 ≤ lo ∧ lo ≤ 127) (hn : 0 < n ∧ n ≤ 128) (hL : 0 < L.length ∧ L.length ≤ 128)
  (hown : w.ownsRow base 3 1 (.slice (some ⟨g2, 0, none⟩) L.length c2) L.length (L.map encK)) (hT : Blk w tb 91 [.slice (some ⟨g, 0, none⟩) n c]) (hK : Blk w kb 80 [.int .i64 lo, .int .i64 hi]) (hI : IvsAt w g (bdL v0 v1 n))
  (ht : tb < base) (hk : kb < base) (hg : g < base) :
  Calls Tryz.prog 71 #[.slice (some ⟨g2, 0, none⟩) L.length c2, .func (.func 72) #[] #[.pointer (some ⟨tb, 0, none⟩), .pointer (some ⟨kb, 0, none⟩)]] w fun e w' => e = .returned (.tuple #[]) ∧ ∃ L' : List (NK lo n), L'.Perm L ∧ L'.Pairwise (fun x y => ¬ LtB v0 v1 lo y.1 x.1) ∧ (∀ i (h : i < L'.length), w'.cell? ⟨g2, i, none⟩ = some (.int .i64 (L'[i]).1)) ∧ w.grownBy w' (some g2) := by
 haveI : Inhabited (NK lo n) := ⟨⟨lo, by omega⟩⟩
 have hb : base ≤ g2 ∧ g2 < w.heap.size := hown.lt g2 rfl
 have hH := holds1_of hown
 have hblk : ∀ {j : Nat} {t : TypeId} {cs : List Value}, Blk w j t cs → j < base → ∀ mm os dk, Blk (sortWorld (encK (lo := lo) (n := n)) w g2 0 mm dk os) j t cs := fun h hj mm os dk => (sw1_block h.lt (by omega)).trans h
 have eg : ∀ args w, (callFunc 72 args).run Tryz.prog w = .ok (.enter 72 args) w := enters_of Tryz.func72 (by kernel_rfl) rfl
 have hcmp : CmpLays1 Tryz.prog 72 #[.pointer (some ⟨tb, 0, none⟩), .pointer (some ⟨kb, 0, none⟩)] (encK (lo := lo) (n := n)) (cfK v0 v1 lo n) g2 0 L.toArray.size w := fun mm os dk _ x y => by
  have hI' : IvsAt (sortWorld (encK (lo := lo) (n := n)) w g2 0 mm dk os) g (bdL v0 v1 n) := by
   refine ⟨Nat.lt_of_lt_of_le hI.1 sw1_size, fun i hi => ?_⟩
   have e : ∀ o, (sortWorld (encK (lo := lo) (n := n)) w g2 0 mm dk os).cell? ⟨g, o, none⟩ = w.cell? ⟨g, o, none⟩ := fun o => by
    unfold World.cell?
    rw [sw1_block hI.1 (by omega)]
   rw [e, e]
   exact hI.2 i hi
  exact clo42 lo hi n c g tb kb v0 v1 x.1 y.1 _ h0 hn.2 x.2 y.2 (hblk hT ht mm os dk) (hblk hK hk mm os dk) hI'
 have h := Any.slices_SortFunc Tryz.sortZ (encK (lo := lo) (n := n)) (fun _ => rfl) (cfK v0 v1 lo n) (swoK v0 v1 lo n) 72 #[.pointer (some ⟨tb, 0, none⟩), .pointer (some ⟨kb, 0, none⟩)] g2 0 c2 L.toArray w eg hcmp hH hb.2 (by simp; omega)
 change Calls Tryz.prog 71 _ _ _ at h
 have hsz : L.toArray.size = L.length := by simp
 rw [hsz] at h
 refine h.mono ?_
 rintro e w' ⟨rfl, d', nn, os, hp, hso, rfl⟩
 have hd : d'.size = L.length := by rw [hp.1, hsz]
 refine ⟨rfl, d'.toList, ?_, ?_, ?_, sw1_grown⟩
 ·have h3 := hp.2.2
  have e1 : d'.extract 0 L.length = d' := by rw [← hd]; simp
  have e2 : L.toArray.extract 0 L.length = L.toArray := by rw [← hsz]; simp
  rw [e1, e2] at h3
  exact h3
 ·rw [List.pairwise_iff_getElem]
  intro i j hi hj hij
  simp only [Array.length_toList] at hi hj
  have h3 := hso i j (Nat.zero_le _) hij (by rw [← hd]; exact hj)
  rw [getElem!_pos d' i hi, getElem!_pos d' j hj, ltK] at h3
  simpa using h3
 ·intro i hi
  have hi' : i < d'.size := by simpa using hi
  have hK2 := holds_sortWorld (encK (lo := lo) (n := n)) w g2 0 nn L.toArray d' os hb.2 hH (by rw [hd, hsz])
  have := (hK2 i hi').1
  rw [Nat.zero_add, getElem!_pos d' i hi'] at this
  rw [Array.getElem_toList]
  exact this
end Go.Proofs.YtendjepcjmfmfaaGreatDoor
namespace Go.Proofs.YtendjepcjmfmfaaGreatDoor
open Go.RowKit
def kyL (lo : Int) (n k : Nat) (h : k ≤ n) : List (NK lo n) := (List.range k).attach.map fun i => ⟨lo + (i.1 : Nat), by have := List.mem_range.1 i.2; omega⟩
def kzL (lo : Int) (k : Nat) : List Int := (List.range k).map fun i : Nat => lo + i
theorem kzL_succ (lo : Int) (k : Nat) : kzL lo (k + 1) = kzL lo k ++ [lo + k] := by unfold kzL; rw [List.range_succ, List.map_append]; rfl
theorem kyL_val (lo : Int) (n k : Nat) (h : k ≤ n) : (kyL lo n k h).map (·.1) = kzL lo k := by
 unfold kyL kzL
 rw [List.map_map]
 show (List.range k).attach.map (fun i => lo + (i.1 : Int)) = _
 conv => rhs; rw [← List.attach_map_subtype_val (List.range k), List.map_map]
 rfl
theorem kyL_len (lo : Int) (n k : Nat) (h : k ≤ n) : (kyL lo n k h).length = k := by simp [kyL]
theorem kyL_enc (lo : Int) (n k : Nat) (h : k ≤ n) : (kyL lo n k h).map encK = (kzL lo k).map i64z := by
 rw [← kyL_val lo n k h, List.map_map]
 rfl
def OdRel (W1 : World) (lo : Int) (n : Nat) (u v : Value) (W : World) : Prop :=
 ∃ (k : Nat) (A : Option Addr) (c : Nat), k ≤ n ∧ v = .int .i64 (k : Int) ∧ u = .slice A k c ∧ W.ownsRow W1.heap.size 3 1 (.slice A k c) k ((kzL lo k).map i64z) ∧ Hp W1 [] W
set_option maxRecDepth 1000000 in
set_option maxHeartbeats 8000000 in
theorem border_ok (C : Nat → Tm) (p s lo hi : Int) (n : Nat) (v0 v1 : Nat → Int) (w : World) (ht : Tab w) (h0 : 0 ≤ lo ∧ lo ≤ 127) (hn : 0 < n ∧ n ≤ 128)
  (hA : ∀ W, Tab W → Calls Tryz.prog 67 #[.agg (tuL C p).toArray, .int .i64 s, .agg #[.int .i64 lo, .int .i64 hi]] W fun e w' => ∃ (A : Option Addr) (c : Nat), e = .returned (.tuple #[.slice A n c, .int .i64 0]) ∧ w'.ownsRow W.heap.size 53 2 (.slice A n c) n (prs42 (bdL v0 v1 n)) ∧ Below W.heap.size W w') :
  Calls Tryz.prog 36 #[.agg (tuL C p).toArray, .int .i64 s, .agg #[.int .i64 lo, .int .i64 hi]] w fun e w' => ∃ (g c : Nat) (L : List (NK lo n)), e = .returned (.tuple #[.slice (some ⟨g, 0, none⟩) n c, .int .i64 0]) ∧ n ≤ c ∧ c ≤ maxLen ∧ L.Perm (kyL lo n n (Nat.le_refl n)) ∧ L.Pairwise (fun x y => ¬ LtB v0 v1 lo y.1 x.1) ∧ (g < w'.heap.size ∧ ∀ i (h : i < L.length), w'.cell? ⟨g, i, none⟩ = some (.int .i64 (L[i]).1)) ∧ Below w.heap.size w w' := by
 have HA := Lib.hid hA
 have HT := Lib.hid ht
 have HR := Lib.hid (And.intro h0 hn)
 obtain ⟨i0, hi0, hz0, hz1, hz2⟩ := info_parts infoIntZ
 have HI0 := Lib.hid hi0
 have HZ0 := Lib.hid hz0
 have HZ1 := Lib.hid hz1
 have HZ2 := Lib.hid hz2
 have hm0 := ((Hp.start w).new 41 (tuL C p)).new 80 [.int .i64 lo, .int .i64 hi]
 simp only [World.size_alloc, List.nil_append, List.cons_append] at hm0
 have HM0 := Lib.hid hm0
 obtain ⟨y0, y1⟩ := two_of (hm0.at_ 1 rfl)
 clear hm0 hA ht h0 hn hi0 hz0 hz1 hz2
 go_enter Tryz.func36, Tryz.ntmps36
 go_wp2_with (refine wpList_load_row rfl 41 _ rfl w.heap.size rfl 41 (tuL C p).toArray (0, 0) _ (HM0.out.at_ 0 rfl) Tryz.underlying41 rfl (by rw [infoTun, List.size_toArray, tuL_len]) ?_)
 refine (HA.out _ (HT.out.below HM0.out.below)).mono ?_
 rintro e W0 ⟨A, c, rfl, hown, hb1⟩
 obtain ⟨g, c2, hv, hc2⟩ := own_form hown HR.out.2.1
 injection hv with e1 e2 e3
 subst e1 e3
 have hiv0 := ivs_own hown (bdL_len v0 v1 n).symm
 have hm1 := (HM0.out.step hb1).new 91 [.slice (some ⟨g, 0, none⟩) n c]
 simp only [List.nil_append, List.cons_append] at hm1
 have HM1 := Lib.hid hm1
 have HIV := Lib.hid (hiv0.below (bw_new (Below.refl _ _) (.cells #[.slice (some ⟨g, 0, none⟩) n c] 91)))
 have c0 : (W0.alloc (.cells #[.slice (some ⟨g, 0, none⟩) n c] 91)).cell? ⟨W0.heap.size, 0, none⟩ = some (.slice (some ⟨g, 0, none⟩) n c) := (hm1.at_ 2 rfl).cell 0
 clear hown hb1 HM0 y0 y1 e2 hc2 hm1 hiv0
 go_wp2_with fail
 obtain ⟨W1, hW1⟩ : ∃ W1, W1 = W0.alloc (.cells #[.slice (some ⟨g, 0, none⟩) n c] 91) := ⟨_, rfl⟩
 rw [← hW1] at HM1 HIV ⊢
 clear hW1 c0
 go_loopw [10, 24] (fun u v wr => OdRel W1 lo n u v wr) (fun _ v _ => n - (intOf v).toNat)
 case atStart => exact ⟨0, none, 0, by omega, rfl, rfl, World.ownsRow_nil _ _ _ _, Hp.start W1⟩
 case round =>
  obtain ⟨k, A, c3, hk, rfl, rfl, hown, hm⟩ := hrel
  have HM := Lib.hid hm
  have HO := Lib.hid hown
  have hcp := own_cap hown
  have HMM := Lib.hid (HM1.out.step hm.below)
  clear hm hown
  by_cases hlt : k < n
  ·obtain ⟨y0, y1⟩ := two_of (HMM.out.at_ 1 rfl)
   have hlk : (k : Int) < (n : Int) := by omega
   obtain ⟨z, hz⟩ : ∃ z, z = lo + (k : Int) := ⟨_, rfl⟩
   have hwz : IntKind.i64.wrap (lo + (k : Int)) = z := by rw [hz]; exact IntWalk.i64_in _ (by have := HR.out; omega)
   have HZV := Lib.hid hz
   have HLT := Lib.hid hlt
   have hk128 : k ≤ 128 := by have := HR.out; omega
   clear hz hk hlt
   go_wp2_with (at_builtin; refine wpList_append_own _ rfl _ _ 83 rfl W1.heap.size 3 i0 (.int .i64 0) 1 8 Tryz.underlying83 HI0.out HZ0.out HZ1.out HZ2.out rfl (by decide) _ _ _ rfl (own_bl HO.out (bw_new (Below.refl _ _) _)) ⟨wr.heap.size, 0, none⟩ 1 1 [.int .i64 z] rfl rfl (World.news_of_block (cs := #[.int .i64 z]) (t := 3) (fr := (0, 0)) (heap_alloc_new wr _)) (by simp [Value.oneCell']) (by unfold maxLen; omega) (by omega) (by simp; have := HM.out.below.size; omega) ?_)
   intro v' w4 hown hgrow _
   obtain ⟨g3, c4, hv, hc4⟩ := own_form hown (by omega)
   subst hv
   have hm4 : Hp W1 [] w4 := (HM.out.alloc _).grw hgrow (fun q hq => ⟨(HO.out.lt _ hq).1, fun p hp => absurd hp List.not_mem_nil⟩)
   have HM4 := Lib.hid hm4
   have HO4 := Lib.hid hown
   clear hown hgrow hm4 y0 y1
   go_wp2_with fail
   go_roundw
   case rel =>
    refine ⟨k + 1, _, _, by have := HLT.out; omega, rfl, rfl, ?_, HM4.out⟩
    rw [kzL_succ, List.map_append, ← HZV.out]
    exact HO4.out
   case measure => have := HLT.out; simp only [intOf]; omega
  ·obtain rfl : k = n := by omega
   obtain ⟨g3, c4, hv, hc4⟩ := own_form HO.out HR.out.2.1
   injection hv with e1 e2 e3
   subst e1 e3
   have hmx : c3 ≤ maxLen := by
    rcases HO.out.2 with ⟨hq, _⟩ | ⟨g', cap, cur, hq, _, _, _, hx, _⟩
    ·cases hq
    ·injection hq with _ _ h3
     omega
   have hlen := kyL_len lo k k (Nat.le_refl k)
   have hown := HO.out
   rw [← kyL_enc lo k k (Nat.le_refl k)] at hown
   have hs := sort42 lo hi k c g W0.heap.size (w.heap.size + 1) g3 c3 W1.heap.size v0 v1 (kyL lo k k (Nat.le_refl k)) wr HR.out.1 HR.out.2 (by rw [hlen]; exact HR.out.2) (by rw [hlen]; exact hown) (HMM.out.at_ 2 rfl) (HMM.out.at_ 1 rfl) (HIV.out.below HM.out.below) (HM1.out.at_ 2 rfl).lt (HM1.out.at_ 1 rfl).lt HIV.out.1
   rw [hlen] at hs
   have HS := Lib.hid hs
   have HG := Lib.hid (show W1.heap.size ≤ g3 from (HO.out.lt g3 rfl).1)
   have HCC := Lib.hid (And.intro hcp hmx)
   clear hs hown hlen hlt hk hcp hc4 e2 hmx
   go_wp2_with fail
   refine HS.out.mono ?_
   rintro e w5 ⟨rfl, L', hperm, hpair, hcell, hgr⟩
   have hm5 : Hp W1 [] w5 := HM.out.grw hgr (fun q hq => by
    injection hq with hq
    subst hq
    exact ⟨HG.out, fun p hp => absurd hp List.not_mem_nil⟩)
   have HZ := Lib.hid (HM1.out.step hm5.below)
   have HPOST := Lib.hid (show L'.Perm (kyL lo k k (Nat.le_refl k)) ∧ L'.Pairwise (fun x y => ¬ LtB v0 v1 lo y.1 x.1) ∧ (g3 < w5.heap.size ∧ ∀ i (h : i < L'.length), w5.cell? ⟨g3, i, none⟩ = some (.int .i64 (L'[i]).1)) from ⟨hperm, hpair, Nat.lt_of_lt_of_le (HO.out.lt g3 rfl).2 hgr.size, hcell⟩)
   clear hperm hpair hcell hgr hm5
   go_wp2_with fail
   exact bodyPost_ret (v := .tuple #[.slice (some ⟨g3, 0, none⟩) k c3, .int .i64 0]) (by simp [results, Tryz.results36, go_sem]) rfl ⟨g3, c3, L', rfl, HCC.out.1, HCC.out.2, HPOST.out.1, HPOST.out.2.1, HPOST.out.2.2, HZ.out.below⟩
end Go.Proofs.YtendjepcjmfmfaaGreatDoor
