/- Part 20 of 22 of the proof of the law: contracts of the functions that it reaches, and plain facts. Conditions: those that each contract names. -/
import Derived.Test.YtkamepalomkpbaaDoorWChkB15
import Derived.Deep.OwnRows
import Derived.Deep.DeepCutAuto
import Derived.Deep.QuietTactic
namespace Go.Proofs.YtkamepalomkpbaaDoor
section
open Go.RowKit
def plA (n : Nat) : List Int → Option Int → List (List Int) → Int × List Int
  | used, _, [] => (0, used)
  | used, p, g :: r => if gpE n g ≠ 0 then (gpE n g, used) else if g.any (fun x => decide (x ∈ used)) then (9, used) else if lastLe p (g.headD 0) then (6, used) else plA n (used ++ g) g.head? r
def badG (ws : List Wsh) (rules : List Int) (g : List Int) : Bool := (fstP ws rules g).isSome || decide (128 < costZ ws g)
def plE (ws : List Wsh) (rules : List Int) (gs : List (List Int)) : Int :=
  if pbE ws rules ≠ 0 then pbE ws rules else if (plA ws.length [] none gs).1 ≠ 0 then (plA ws.length [] none gs).1 else if (plA ws.length [] none gs).2.length < ws.length then 5 else if gs.any (badG ws rules) then 14 else 0
theorem plA_nil (n : Nat) (used : List Int) (p : Option Int) : plA n used p [] = (0, used) := rfl
theorem plA_cons (n : Nat) (used : List Int) (p : Option Int) (g : List Int) (r : List (List Int)) : plA n used p (g :: r) = if gpE n g ≠ 0 then (gpE n g, used) else if g.any (fun x => decide (x ∈ used)) then (9, used) else if lastLe p (g.headD 0) then (6, used) else plA n (used ++ g) g.head? r := rfl
def GRd (w : World) (Bd : Nat) (A : Option Addr) (gs : List (List Int)) : Prop :=
  0 < gs.length → ∃ b off, A = some ⟨b, off, none⟩ ∧ b < Bd ∧ ∀ i (h : i < gs.length), ∃ GA gc, w.cell? ⟨b, off + i, none⟩ = some (.slice GA gs[i].length gc) ∧ Rd i64v w Bd GA gs[i] ∧ gs[i].length ≤ gc ∧ gc ≤ maxLen
section
variable {w w' : World} {Bd Bd' : Nat} {A : Option Addr} {gs : List (List Int)}
theorem GRd.below (h : GRd w Bd A gs) (hb : Below Bd w w') : GRd w' Bd A gs := fun hl => by
  obtain ⟨b, off, rfl, hbb, hc⟩ := h hl
  refine ⟨b, off, rfl, hbb, fun i hi => ?_⟩
  obtain ⟨GA, gc, h1, h2, h3⟩ := hc i hi
  exact ⟨GA, gc, (hb.cell (p := ⟨b, off + i, none⟩) hbb).trans h1, h2.below hb, h3⟩
end
theorem infoBool : (Tryd.prog.info? 4).map (fun i => (i.zero, i.size, i.bytes)) = some (some (.bool false), 1, 1) := by kernel_rfl
def usedC (n : Nat) (used : List Int) : List Value := (List.range n).map fun i : Nat => .bool (decide ((i : Int) ∈ used))
theorem usedC_get (n : Nat) (used : List Int) (i : Nat) (h : i < n) : (usedC n used)[i]? = some (.bool (decide ((i : Int) ∈ used))) := by
  unfold usedC; simp [h]
theorem usedC_nil (n : Nat) : usedC n [] = List.replicate n (.bool false) := by
  unfold usedC
  rw [List.eq_replicate_iff]
  refine ⟨by simp, fun b hb => ?_⟩
  obtain ⟨i, _, rfl⟩ := List.mem_map.1 hb
  simp
theorem usedC_set (n : Nat) (used : List Int) (i : Nat) : (usedC n used).set i (.bool true) = usedC n (used ++ [(i : Int)]) := by
  apply List.ext_getElem?
  intro j
  rw [List.getElem?_set]
  unfold usedC
  by_cases e : i = j
  · subst e
    by_cases h : i < n
    · simp [h]
    · simp [h]
  · simp only [if_neg e]
    by_cases h : j < n
    · simp only [List.getElem?_map, List.getElem?_range h, Option.map_some, List.mem_append, List.mem_singleton]
      congr 3
      simp
      omega
    · simp [h]
def PlMem (w : World) (Bd : Nat) (A : Option Addr) (n cap : Nat) (B : Option Addr) (m c2 : Nat) (ws : List Wsh) (rules : List Int) (LA : Option Addr) (gs : List (List Int)) (gU : Nat) (used : List Int) (W : World) : Prop :=
  Blk W w.heap.size 29 [.slice A n cap, .slice B m c2] ∧ Blk W gU 4 (usedC n used) ∧ Pb W Bd A n cap B m c2 ws rules ∧ GRd W Bd LA gs ∧ Tab W ∧ Below w.heap.size w W ∧ w.heap.size < gU
section
variable {w W W' : World} {Bd : Nat} {A : Option Addr} {n cap : Nat} {B : Option Addr} {m c2 : Nat} {ws : List Wsh} {rules : List Int} {LA : Option Addr} {gs : List (List Int)} {gU : Nat} {used : List Int}
theorem PlMem.below (h : PlMem w Bd A n cap B m c2 ws rules LA gs gU used W) (hB : Bd ≤ w.heap.size) (hb : Below W.heap.size W W') : PlMem w Bd A n cap B m c2 ws rules LA gs gU used W' := by
  obtain ⟨h1, h2, h3, h4, h5, h6, h7⟩ := h
  exact ⟨h1.keep hb, h2.keep hb, h3.keep (Nat.le_trans hB h6.size) hb, h4.below (hb.mono (Nat.le_trans hB h6.size)), h5.below hb, h6.trans (hb.mono h6.size), h7⟩
theorem PlMem.mark (h : PlMem w Bd A n cap B m c2 ws rules LA gs gU used W) (ht : Tab w) (hB : Bd ≤ w.heap.size) (i : Nat) : PlMem w Bd A n cap B m c2 ws rules LA gs gU (used ++ [(i : Int)]) (W.setCell ⟨gU, i, none⟩ (.bool true)) := by
  obtain ⟨h1, h2, h3, h4, h5, h6, h7⟩ := h
  have hb : Below w.heap.size W (W.setCell ⟨gU, i, none⟩ (.bool true)) := bw_set (Below.refl _ _) (by omega) _
  have h2' := h2.put i (.bool true)
  rw [usedC_set] at h2'
  exact ⟨h1.far (by show w.heap.size ≠ gU; omega) _, h2', h3.below (hb.mono hB), h4.below (hb.mono hB), ht.below (h6.trans hb), h6.trans hb, h7⟩
end
theorem GRd.at_ {w : World} {Bd : Nat} {A : Option Addr} {gs : List (List Int)} (h : GRd w Bd A gs) (hl : 0 < gs.length) : ∃ b off, A = some ⟨b, off, none⟩ ∧ b < Bd ∧ ∀ i (h : i < gs.length), ∃ GA gc, w.cell? ⟨b, off + i, none⟩ = some (.slice GA gs[i].length gc) ∧ Rd i64v w Bd GA gs[i] ∧ gs[i].length ≤ gc ∧ gc ≤ maxLen := h hl
def prevH (gs : List (List Int)) (k : Nat) : Option Int := (gs.take k).getLast?.bind List.head?
theorem prevH_succ {gs : List (List Int)} {k : Nat} (h : k < gs.length) : prevH gs (k + 1) = gs[k].head? := by unfold prevH; rw [getLast_take gs k h]; rfl
theorem pbE_len {ws : List Wsh} {rules : List Int} (h : pbE ws rules = 0) : ws.length ≤ 12 := by
  unfold pbE at h
  split at h
  · omega
  · omega
theorem sqE_pw {top e : Int} (he : e ≠ 0) : ∀ {l : List Int} {p : Option Int}, sqE top e p l = 0 → l.Pairwise (· < ·) ∧ (∀ q, p = some q → ∀ x ∈ l, q < x)
  | [], _, _ => ⟨List.Pairwise.nil, fun _ _ x hx => (by cases hx)⟩
  | y :: r, p, h => by
    rw [sqE_cons] at h
    split at h
    · exact absurd h he
    · split at h
      · omega
      · rename_i h1 h2
        obtain ⟨h3, h4⟩ := sqE_pw he h
        refine ⟨List.pairwise_cons.2 ⟨h4 y rfl, h3⟩, fun q hq x hx => ?_⟩
        subst hq
        have hqy : q < y := by
          have : lastLe (some q) y = false := by simpa using h2
          have := of_decide_eq_false this
          omega
        rcases List.mem_cons.1 hx with rfl | hx
        · exact hqy
        · have := h4 y rfl x hx; omega
theorem gpE_pw {n : Nat} {g : List Int} (h : gpE n g = 0) : g.Pairwise (· < ·) := by
  unfold gpE at h
  split at h
  · omega
  · exact (sqE_pw (by decide) h).1
theorem nodup_len : ∀ (n : Nat) (l : List Int), l.Nodup → (∀ x ∈ l, 0 ≤ x ∧ x < (n : Int)) → l.length ≤ n
  | 0, l, _, h => by
    cases l with
    | nil => exact Nat.le_refl _
    | cons x r => have := h x List.mem_cons_self; omega
  | n + 1, l, hn, h => by
    have h1 : (l.erase (n : Int)).length ≤ n := nodup_len n _ (hn.erase _) (fun x hx => by
      have hx2 := (hn.mem_erase_iff).1 hx
      have := h x hx2.2
      have := hx2.1
      omega)
    have h2 : l.length ≤ (l.erase (n : Int)).length + 1 := by
      by_cases hm : (n : Int) ∈ l
      · rw [List.length_erase_of_mem hm]; omega
      · rw [List.erase_of_not_mem hm]; omega
    omega
theorem nodup_add {used g : List Int} (h1 : used.Nodup) (h2 : g.Pairwise (· < ·)) (h3 : ∀ x ∈ g, x ∉ used) : (used ++ g).Nodup := by
  rw [List.nodup_append]
  refine ⟨h1, h2.imp (fun h e => by omega), fun a ha b hb e => ?_⟩
  subst e
  exact h3 a hb ha
theorem plA_ok {n : Nat} : ∀ {gs : List (List Int)} {used : List Int} {p : Option Int}, (plA n used p gs).1 = 0 → ∀ g ∈ gs, gpE n g = 0
  | [], _, _, _, g, hg => by cases hg
  | x :: r, used, p, h, g, hg => by
    rw [plA_cons] at h
    split at h
    · rename_i hx; exact absurd h hx
    · split at h
      · exact absurd h (show (9 : Int) ≠ 0 by decide)
      · split at h
        · exact absurd h (show (6 : Int) ≠ 0 by decide)
        · rename_i hx _ _
          rcases List.mem_cons.1 hg with rfl | hg
          · omega
          · exact plA_ok h g hg
theorem headD_get (g : List Int) (h : 0 < g.length) : g.headD 0 = g[0] ∧ g.head? = some g[0] := by
  cases g with
  | nil => simp at h
  | cons x r => exact ⟨rfl, rfl⟩
set_option maxRecDepth 100000 in
set_option maxHeartbeats 16000000 in
theorem plan_any (A : Option Addr) (n cap : Nat) (B : Option Addr) (m c2 : Nat) (ws : List Wsh) (rules : List Int) (LA : Option Addr) (ln lc : Nat) (gs : List (List Int)) (Bd : Nat) (w : World) (hp : Pb w Bd A n cap B m c2 ws rules) (hB : Bd ≤ w.heap.size)
    (hgl : gs.length = ln) (hgr : GRd w Bd LA gs) (hgc : ln ≤ lc) (hgm : lc ≤ maxLen) (ht : Tab w) :
    Calls Tryd.prog 20 #[.agg #[.slice A n cap, .slice B m c2], .slice LA ln lc] w fun e w' => e = .returned (.int .i64 (plE ws rules gs)) ∧ Below w.heap.size w w' := by
  have hb0 := bw_new (Below.refl _ w) (.cells #[.slice A n cap, .slice B m c2] 29)
  have hbx : Blk (w.alloc (.cells #[.slice A n cap, .slice B m c2] 29)) w.heap.size 29 [.slice A n cap, .slice B m c2] := Blk.new
  have HP := Lib.hid (hp.keep hB hb0)
  have HG := Lib.hid (hgr.below (hb0.mono hB))
  have H1 := Lib.hid (wcheck_any A n cap B m c2 ws rules Bd _ HP.out (by simp; omega))
  have HT := Lib.hid ht
  have HB := Lib.hid hbx
  have HB0 := Lib.hid hb0
  have HWL := Lib.hid hp.wl
  have HGL := Lib.hid hgl
  unfold maxLen at hgm
  have hE : plE ws rules gs = if pbE ws rules ≠ 0 then pbE ws rules else if (plA n [] none gs).1 ≠ 0 then (plA n [] none gs).1 else if (plA n [] none gs).2.length < n then 5 else if gs.any (badG ws rules) then 14 else 0 := by unfold plE; rw [hp.wl]
  have HR := Lib.hid (@pbE_right ws rules)
  obtain ⟨z, hz⟩ : ∃ z, z = pbE ws rules := ⟨_, rfl⟩
  have HZ0 := Lib.hid hz
  rw [← hz] at H1 hE HR
  have HE := Lib.hid hE
  clear hE hz hgr hb0 hbx ht
  by_cases hz0 : z = 0
  · have hz1 : (z == 0) = true := by simpa using hz0
    have hz2 : (z != 0) = false := by simpa using hz0
    subst hz0
    have HRW := Lib.hid (HR.out rfl)
    clear HR
    have hn12 : n ≤ 12 := by rw [← hp.wl]; exact pbE_len HZ0.out.symm
    have HE2 := Lib.hid (show plE ws rules gs = if (plA n [] none gs).1 ≠ 0 then (plA n [] none gs).1 else if (plA n [] none gs).2.length < n then 5 else if gs.any (badG ws rules) then 14 else 0 by rw [HE.out, if_neg (fun h => h rfl)])
    clear hp HE HZ0
    have hmk := run_make_row' (P := Tryd.prog) 80 4 (.bool false) 1 Tryd.underlying80 infoBool rfl .i64 .i64 n (by omega) (by omega)
    go_enter Tryd.func20, Tryd.ntmps20
    go_wp2_with fail
    refine H1.out.mono ?_
    rintro e w1 ⟨rfl, hk⟩
    obtain ⟨p0, p1⟩ := (HB.out.keep hk).two
    have hb1 := HB0.out.trans (hk.mono (by simp))
    have hM0 : PlMem w Bd A n cap B m c2 ws rules LA gs w1.heap.size [] (w1.alloc (.cells (madeCells #[.bool false] n) 4)) := by
      have hbu : Blk (w1.alloc (.cells (madeCells #[.bool false] n) 4)) w1.heap.size 4 (usedC n []) := by
        unfold Blk
        rw [heap_alloc_new]
        congr 2
        apply Array.toList_inj.1
        rw [toList_madeCells_one, usedC_nil]
      exact ⟨(HB.out.keep hk).alloc _, hbu, (HP.out.keep (by simp; omega) hk).alloc (Nat.le_trans hB hb1.size) _, (HG.out.below (hk.mono (by simp; omega))).below (bw_new (Below.refl _ _) _ |>.mono (Nat.le_trans hB hb1.size)), HT.out.below (bw_new hb1 _), bw_new hb1 _, by have := hk.size; simp at this; omega⟩
    have HM0 := Lib.hid hM0
    obtain ⟨gU, hgU⟩ : ∃ q, q = w1.heap.size := ⟨_, rfl⟩
    rw [← hgU] at HM0
    clear hk hb1 hM0
    go_wp2_with fail
    rw [← hgU]
    clear hmk p0 p1 hgU
    go_loopw [7, 31] (fun c v wx => ∃ (k : Nat) (used : List Int), k ≤ ln ∧ v = .int .i64 k ∧ c = .int .i64 used.length ∧ Lib.Kept (plA n [] none gs = plA n used (prevH gs k) (gs.drop k)) ∧ Lib.Kept (used.Nodup ∧ ∀ x ∈ used, 0 ≤ x ∧ x < (n : Int)) ∧ Lib.Kept (∀ i, i < k → ∃ q r, gs[i]? = some (q :: r)) ∧ PlMem w Bd A n cap B m c2 ws rules LA gs gU used wx) (fun _ v _ => ln - (intOf v).toNat)
    case atStart => exact ⟨0, [], by omega, rfl, rfl, rfl, ⟨List.nodup_nil, fun x hx => (by cases hx)⟩, (show ∀ i, i < 0 → _ from fun i h => absurd h (by omega)), HM0.out⟩
    case round =>
      obtain ⟨k, used, hk, rfl, rfl, hpl, hnd, hne, hrel⟩ := hrel
      have HPL : Hid (plA n [] none gs = plA n used (prevH gs k) (gs.drop k)) := hpl
      have HND : Hid (used.Nodup ∧ ∀ x ∈ used, 0 ≤ x ∧ x < (n : Int)) := hnd
      have HNE : Hid (∀ i, i < k → ∃ q r, gs[i]? = some (q :: r)) := hne
      have hul : used.length ≤ n := nodup_len n used HND.out.1 HND.out.2
      have HM := Lib.hid hrel
      have hs : w.heap.size < wr.heap.size := hrel.1.lt
      clear hrel hpl hnd hne
      by_cases hlt : k < ln
      · have hltg : k < gs.length := by rw [HGL.out]; exact hlt
        obtain ⟨b, off, rfl, hbd, hcell⟩ := HM.out.2.2.2.1.at_ (by omega)
        obtain ⟨GA, gc, hck, hrd, hgc1, hgm1⟩ := hcell k hltg
        obtain ⟨g, hg⟩ : ∃ g, g = gs[k] := ⟨_, rfl⟩
        rw [← hg] at hck hrd hgc1
        have HGK := Lib.hid hg
        have HST := Lib.hid (show plA n [] none gs = if gpE n g ≠ 0 then (gpE n g, used) else if g.any (fun x => decide (x ∈ used)) then (9, used) else if lastLe (prevH gs k) (g.headD 0) then (6, used) else plA n (used ++ g) g.head? (gs.drop (k + 1)) by
          rw [HPL.out, drop_cons gs k hltg, plA_cons, ← hg])
        have HRD := Lib.hid hrd
        have HCELL := Lib.hid hcell
        have hbw : b < wr.heap.size := by omega
        obtain ⟨p0, p1⟩ := HM.out.1.two
        clear hg hcell hrd
        have HRT := Lib.hid (right_any A n cap B m c2 g GA g.length gc Bd wr rfl HRD.out hgc1 hgm1 (by omega))
        obtain ⟨z, hz⟩ : ∃ z, z = gpE n g := ⟨_, rfl⟩
        rw [← hz] at HRT HST
        by_cases hz0 : z = 0
        · have hz3 : (z == 0) = true := by simpa using hz0
          have hz4 : (z != 0) = false := by simpa using hz0
          have hgz : gpE n g = 0 := by rw [← hz]; exact hz0
          subst hz0
          obtain ⟨hg0, hgr⟩ := gpE_zero hgz
          have HGR := Lib.hid hgr
          have HGP := Lib.hid (gpE_pw hgz)
          have HG0 := Lib.hid hg0
          have hgl1 : 0 < g.length := List.length_pos_iff.2 hg0
          have hgl2 : g.length ≤ n := nodup_len n g ((gpE_pw hgz).imp (fun h e => by omega)) hgr
          have HST2 := Lib.hid (show plA n [] none gs = if g.any (fun x => decide (x ∈ used)) then (9, used) else if lastLe (prevH gs k) (g.headD 0) then (6, used) else plA n (used ++ g) g.head? (gs.drop (k + 1)) by rw [HST.out, if_neg (fun h => h rfl)])
          clear hz hgz hg0 hgr HST
          go_wp2_with fail
          refine HRT.out.mono ?_
          rintro e w2 ⟨rfl, hk2⟩
          have HM2 := Lib.hid (HM.out.below hB hk2)
          have HRD2 := Lib.hid (HRD.out.below (hk2.mono (by omega)))
          have hs2 : wr.heap.size ≤ w2.heap.size := hk2.size
          clear hk2 p0 p1 hck
          obtain ⟨gb, go, rfl, hgb, hgcell⟩ := rd_at HRD2.out hgl1
          have HGC := Lib.hid hgcell
          have hgbw : gb < w2.heap.size := by omega
          clear hgcell
          go_wp2_with fail
          go_loop [44] (fun v => ∃ j : Nat, j ≤ g.length ∧ v = .int .i64 j ∧ Lib.Kept (∀ x ∈ g.take j, x ∉ used)) (fun v => g.length - (intOf v).toNat)
          case atStart => exact ⟨0, by omega, rfl, (show ∀ x ∈ g.take 0, x ∉ used from fun x hx => (by simp at hx))⟩
          case round =>
            obtain ⟨j, hj, rfl, hfr⟩ := hrel
            have HFR : Hid (∀ x ∈ g.take j, x ∉ used) := hfr
            clear hfr
            by_cases hlt2 : j < g.length
            · have hcj := HGC.out j hlt2
              have hin := HGR.out g[j] (List.getElem_mem hlt2)
              obtain ⟨i, hi⟩ : ∃ i : Nat, (i : Int) = g[j] := ⟨g[j].toNat, by omega⟩
              rw [← hi] at hcj hin
              have hin' : i < n := by omega
              have hci : w2.cell? ⟨gU, i, none⟩ = some (.bool (decide ((i : Int) ∈ used))) := by rw [HM2.out.2.1.cell]; exact usedC_get n used i hin'
              have HI := Lib.hid hi
              clear hi hin
              by_cases hu : (i : Int) ∈ used
              · rw [decide_eq_true hu] at hci
                have HRES := Lib.hid (show plE ws rules gs = 9 by
                  have ha : g.any (fun x => decide (x ∈ used)) = true := by
                    rw [List.any_eq_true]
                    exact ⟨g[j], List.getElem_mem hlt2, by rw [← HI.out]; exact decide_eq_true hu⟩
                  have h2 := HST2.out
                  rw [ha, if_pos rfl] at h2
                  rw [HE2.out, h2]; rfl)
                clear hu
                go_wp2
                go_ret
                exact ⟨ret_int HRES.out.symm, HM2.out.2.2.2.2.2.1⟩
              · rw [decide_eq_false hu] at hci
                have HU := Lib.hid hu
                clear hu
                go_wp2
                go_round
                case rel =>
                  refine ⟨j + 1, by omega, by go_num, (show ∀ x ∈ g.take (j + 1), x ∉ used from fun x hx => ?_)⟩
                  rw [take_snoc g j hlt2, List.mem_append, List.mem_singleton] at hx
                  rcases hx with hx | hx
                  · exact HFR.out x hx
                  · rw [hx, ← HI.out]; exact HU.out
                case measure => simp [intOf]; omega
            · have hfa : ∀ x ∈ g, x ∉ used := by
                have := HFR.out
                rwa [List.take_of_length_le (by omega)] at this
              have HFA := Lib.hid hfa
              have HST3 := Lib.hid (show plA n [] none gs = if lastLe (prevH gs k) (g.headD 0) then (6, used) else plA n (used ++ g) g.head? (gs.drop (k + 1)) by
                have ha : g.any (fun x => decide (x ∈ used)) = false := by
                  rw [List.any_eq_false]
                  intro x hx
                  simpa using HFA.out x hx
                rw [HST2.out, ha]; rfl)
              clear hfa
              have hc0 := HGC.out 0 hgl1
              rw [Nat.add_zero] at hc0
              obtain ⟨y, hy⟩ : ∃ y, y = g[0] := ⟨_, rfl⟩
              rw [← hy] at hc0
              have HY := Lib.hid (show g.headD 0 = y by rw [hy]; exact (headD_get g hgl1).1)
              have HY2 := Lib.hid (show g.head? = some y by rw [hy]; exact (headD_get g hgl1).2)
              clear hy
              go_upto_region 18 with fail
              go_cut [67] (fun s67 wx => s67 = .bool (lastLe (prevH gs k) y) ∧ ∃ q, wx = w2.drewN q)
              case first =>
                by_cases hk0 : k = 0
                · subst hk0
                  have hd : decide ((0 : Int) < ((0 : Nat) : Int)) = false := by simp
                  have HR0 := Lib.hid (show lastLe (prevH gs 0) y = false from rfl)
                  go_quiet (fail)
                  go_wp2_with fail
                  go_meet
                  case rel => exact ⟨by rw [HR0.out], _, rfl⟩
                · obtain ⟨m', rfl⟩ : ∃ m', k = m' + 1 := ⟨k - 1, by omega⟩
                  have hltm : m' < gs.length := by omega
                  obtain ⟨q, r, hqr⟩ := HNE.out m' (by omega)
                  rw [List.getElem?_eq_getElem hltm] at hqr
                  injection hqr with hqr
                  obtain ⟨b', off', e, _, hcell'⟩ := HM2.out.2.2.2.1.at_ (by omega)
                  injection e with e
                  injection e with e1 e2 e3
                  subst e1
                  subst e2
                  obtain ⟨GA', gc', hcm, hrd', hgc', _⟩ := hcell' m' hltm
                  rw [hqr] at hcm hrd' hgc'
                  obtain ⟨gb', go', rfl, _, hgc2⟩ := rd_at hrd' (by simp)
                  have hcq := hgc2 0 (by simp)
                  rw [Nat.add_zero, List.getElem_cons_zero] at hcq
                  obtain ⟨gl', hgl'⟩ : ∃ l, l = (q :: r).length := ⟨_, rfl⟩
                  rw [← hgl'] at hcm
                  have hgl0 : 0 < gl' := by rw [hgl']; simp
                  have hgl0' : (0 : Int) < (gl' : Int) := by omega
                  have hg0' : (0 : Int) < (g.length : Int) := by omega
                  have hm0 : (0 : Int) ≤ (m' : Int) := by omega
                  have hm1 : (m' : Int) < (ln : Int) := by omega
                  have hd : decide ((0 : Int) < ((m' + 1 : Nat) : Int)) = true := by simp
                  have HR0 := Lib.hid (show lastLe (prevH gs (m' + 1)) y = decide (y ≤ q) by rw [prevH_succ hltm, hqr]; rfl)
                  have hw : IntKind.i64.wrap (((m' + 1 : Nat) : Int) - 1) = (m' : Int) := by rw [IntWalk.i64_in _ (by omega)]; omega
                  have hw2 : IntKind.i64.wrap ((m' : Int) + 1 - 1) = (m' : Int) := by rw [IntWalk.i64_in _ (by omega)]; omega
                  clear hqr e3 hcell' hrd' hgc2 hgl' hgc'
                  go_quiet (fail)
                  go_wp2_with fail
                  go_meet
                  case rel => exact ⟨by rw [HR0.out], _, rfl⟩
              case rest =>
                obtain ⟨hs67, q, rfl⟩ := hcut
                have HST4 := HST3.out
                rw [HY.out, HY2.out] at HST4
                cases hle : lastLe (prevH gs k) y with
                | true =>
                  rw [hle] at hs67 HST4
                  subst hs67
                  have HRES := Lib.hid (show plE ws rules gs = 6 by
                    rw [if_pos rfl] at HST4
                    rw [HE2.out, HST4]; rfl)
                  clear HST4 hle
                  go_wp2
                  go_ret
                  exact ⟨ret_int HRES.out.symm, bw_drewN HM2.out.2.2.2.2.2.1 _⟩
                | false =>
                  rw [hle] at hs67 HST4
                  subst hs67
                  have HST5 := Lib.hid (show plA n [] none gs = plA n (used ++ g) (some y) (gs.drop (k + 1)) by rw [HST4]; rfl)
                  clear HST4 hle hc0
                  have hbB : Bd ≤ w2.heap.size := by omega
                  have HMS := Lib.hid (HM2.out.below hB (below_drewN _ _ q))
                  have HRS := Lib.hid (HRD2.out.below ((below_drewN Bd w2 q)))
                  go_wp2_with fail
                  go_loopw [7, 70] (fun c v wx => ∃ j : Nat, j ≤ g.length ∧ v = .int .i64 j ∧ c = .int .i64 ((used.length : Int) + (j : Int)) ∧ PlMem w Bd A n cap B m c2 ws rules (some ⟨b, off, none⟩) gs gU (used ++ g.take j) wx ∧ Rd i64v wx Bd (some ⟨gb, go, none⟩) g) (fun _ v _ => g.length - (intOf v).toNat)
                  case atStart => exact ⟨0, by omega, rfl, by simp, by rw [List.take_zero, List.append_nil]; exact HMS.out, HRS.out⟩
                  case round =>
                    obtain ⟨j, hj, rfl, rfl, hm3, hr3⟩ := hrel
                    have HM3 := Lib.hid hm3
                    have HR3 := Lib.hid hr3
                    have hs3 : gU < wr.heap.size := hm3.2.1.lt
                    have hgU := hm3.2.2.2.2.2.2
                    clear hm3 hr3
                    by_cases hlt2 : j < g.length
                    · obtain ⟨gb2, go2, e, _, hgc3⟩ := rd_at HR3.out hgl1
                      injection e with e
                      injection e with e1 e2 e3
                      subst e1
                      subst e2
                      have hcj := hgc3 j hlt2
                      have hin := HGR.out g[j] (List.getElem_mem hlt2)
                      obtain ⟨i, hi⟩ : ∃ i : Nat, (i : Int) = g[j] := ⟨g[j].toNat, by omega⟩
                      rw [← hi] at hcj hin
                      have hin' : i < n := by omega
                      have hci := HM3.out.2.1.cell i
                      rw [usedC_get n _ i hin'] at hci
                      have hfi := HM3.out.2.1.frozen i
                      have hgbx : gb < wr.heap.size := by omega
                      have HM4 := Lib.hid (HM3.out.mark HT.out hB i)
                      have HR4 := Lib.hid (HR3.out.below (bw_set (Below.refl Bd wr) (b := gU) (o := i) (by omega) (.bool true)))
                      have HI := Lib.hid hi
                      clear hi hin hgc3 e3
                      go_wp2_with fail
                      go_wp2
                      go_roundw
                      case rel =>
                        refine ⟨j + 1, by omega, by go_num, by first | (congr 1; done) | (congr 1; omega), ?_, HR4.out⟩
                        rw [take_snoc g j hlt2, ← List.append_assoc, ← HI.out]
                        exact HM4.out
                      case measure => simp [intOf]; omega
                    · have hjg : j = g.length := by omega
                      subst hjg
                      have HM5 : Hid (PlMem w Bd A n cap B m c2 ws rules (some ⟨b, off, none⟩) gs gU (used ++ g) wr) := Lib.hid (by
                        have := HM3.out
                        rwa [List.take_length] at this)
                      go_wp2_with fail
                      go_wp2
                      go_roundw
                      case rel =>
                        refine ⟨k + 1, used ++ g, by omega, by go_num, by rw [List.length_append]; congr 1, ?_, ?_, ?_, HM5.out⟩
                        · show plA n [] none gs = plA n (used ++ g) (prevH gs (k + 1)) (gs.drop (k + 1))
                          rw [HST5.out, prevH_succ hltg, ← HGK.out, HY2.out]
                        · exact ⟨nodup_add HND.out.1 HGP.out HFA.out, fun x hx => by
                            rcases List.mem_append.1 hx with h | h
                            · exact HND.out.2 x h
                            · exact HGR.out x h⟩
                        · show ∀ i, i < k + 1 → ∃ q r, gs[i]? = some (q :: r)
                          intro i hi
                          rcases Nat.lt_or_ge i k with h | h
                          · exact HNE.out i h
                          · rw [show i = k by omega, List.getElem?_eq_getElem hltg, ← HGK.out]
                            cases hgg : g with
                            | nil => exact absurd hgg HG0.out
                            | cons q r => exact ⟨q, r, rfl⟩
                      case measure => simp [intOf]; omega
        · have hz3 : (z == 0) = false := by simpa using hz0
          have hz4 : (z != 0) = true := by simpa using hz0
          have HRES := Lib.hid (show plE ws rules gs = z by
            have h2 := HST.out
            rw [if_pos hz0] at h2
            rw [HE2.out, h2]
            show (if z ≠ 0 then z else _) = z
            rw [if_pos hz0])
          clear hz0 hz
          go_wp2_with fail
          refine HRT.out.mono ?_
          rintro e w2 ⟨rfl, hk2⟩
          have HM2 := Lib.hid (HM.out.below hB hk2)
          clear hk2
          go_wp2
          go_ret
          exact ⟨ret_int HRES.out.symm, HM2.out.2.2.2.2.2.1⟩
      · have hkl : k = ln := by omega
        subst hkl
        have hA : plA n [] none gs = (0, used) := by rw [HPL.out, List.drop_eq_nil_of_le (by rw [HGL.out]; exact Nat.le_refl _)]; rfl
        have HE3 := Lib.hid (show plE ws rules gs = if used.length < n then 5 else if gs.any (badG ws rules) then 14 else 0 by rw [HE2.out, hA]; rfl)
        have HOK := Lib.hid (plA_ok (n := n) (gs := gs) (used := []) (p := none) (by rw [hA]))
        obtain ⟨p0, p1⟩ := HM.out.1.two
        clear hA
        by_cases hc5 : used.length < n
        · have HRES := Lib.hid (show plE ws rules gs = 5 by rw [HE3.out, if_pos hc5])
          go_wp2
          go_ret
          exact ⟨ret_int HRES.out.symm, HM.out.2.2.2.2.2.1⟩
        · have HE4 := Lib.hid (show plE ws rules gs = if gs.any (badG ws rules) then 14 else 0 by rw [HE3.out, if_neg hc5])
          go_wp2_with fail
          obtain ⟨wo, rfl⟩ : ∃ wo : World, wo = wr := ⟨_, rfl⟩
          go_loopw [88] (fun v wx => ∃ j : Nat, j ≤ k ∧ v = .int .i64 j ∧ Lib.Kept ((gs.take j).any (badG ws rules) = false) ∧ PlMem w Bd A n cap B m c2 ws rules LA gs gU used wx) (fun v _ => k - (intOf v).toNat)
          case atStart => exact ⟨0, by omega, rfl, rfl, HM.out⟩
          case round =>
            obtain ⟨j, hj, rfl, hbad, hrel⟩ := hrel
            have HBAD : Hid ((gs.take j).any (badG ws rules) = false) := hbad
            have HX := Lib.hid hrel
            have hsx : w.heap.size < wr.heap.size := hrel.1.lt
            clear hrel hbad p0 p1
            by_cases hltj : j < k
            · have hltg : j < gs.length := by rw [HGL.out]; exact hltj
              obtain ⟨b, off, rfl, hbd, hcell⟩ := HX.out.2.2.2.1.at_ (by omega)
              obtain ⟨GA, gc, hck, hrd, hgc1, hgm1⟩ := hcell j hltg
              obtain ⟨g, hg⟩ : ∃ g, g = gs[j] := ⟨_, rfl⟩
              rw [← hg] at hck hrd hgc1
              have hgr := (gpE_zero (HOK.out g (by rw [hg]; exact List.getElem_mem hltg))).2
              have HGK := Lib.hid hg
              have HRD := Lib.hid hrd
              have hbw : b < wr.heap.size := by omega
              obtain ⟨p0, p1⟩ := HX.out.1.two
              have HF := Lib.hid (first_any A n cap B m c2 ws rules GA g.length gc g Bd wr HX.out.2.2.1 (by omega) HRW.out hgr rfl HRD.out hgc1 hgm1 HX.out.2.2.2.2.1)
              have HC := Lib.hid (fun W hp hB2 hr ht => cost_any A n cap B m c2 ws rules GA g.length gc g Bd W hp hB2 HRW.out hgr rfl hr hgc1 hgm1 ht)
              obtain ⟨c, hc⟩ : ∃ c, c = costZ ws g := ⟨_, rfl⟩
              rw [← hc] at HC
              have HCV := Lib.hid hc
              clear hg hcell hrd hgr hc
              have HNEXT := Lib.hid (fun (hb : badG ws rules g = false) => show (gs.take (j + 1)).any (badG ws rules) = false by
                rw [take_snoc gs j hltg, List.any_append, HBAD.out, ← HGK.out]; simp [hb])
              have HBADG := Lib.hid (fun (hb : badG ws rules g = true) => show plE ws rules gs = 14 by
                have : gs.any (badG ws rules) = true := by rw [List.any_eq_true]; exact ⟨g, by rw [HGK.out]; exact List.getElem_mem hltg, hb⟩
                rw [HE4.out, this]; rfl)
              cases hq : fstP ws rules g with
              | some ab =>
                have hf := HF.out
                rw [hq] at hf
                have hf := Lib.hid hf
                have HRES := Lib.hid (HBADG.out (by unfold badG; rw [hq]; rfl))
                clear hq HF
                go_wp2_with fail
                refine hf.out.mono ?_
                rintro e w2 ⟨rfl, hk2⟩
                have HB2 := Lib.hid (HX.out.below hB hk2).2.2.2.2.2.1
                clear hk2
                unfold fstVal
                go_wp2
                go_ret
                exact ⟨ret_int HRES.out.symm, HB2.out⟩
              | none =>
                have hf := HF.out
                rw [hq] at hf
                have hf := Lib.hid hf
                have HQ := Lib.hid hq
                clear hq HF
                go_wp2_with fail
                refine hf.out.mono ?_
                rintro e w2 ⟨rfl, hk2⟩
                have HX2 := Lib.hid (HX.out.below hB hk2)
                have HRD2 := Lib.hid (HRD.out.below (hk2.mono (by omega)))
                have hs2 : wr.heap.size ≤ w2.heap.size := hk2.size
                clear hk2 p0 p1
                obtain ⟨p0, p1⟩ := HX2.out.1.two
                unfold fstVal
                go_wp2_with fail
                refine (HC.out _ HX2.out.2.2.1 (by omega) HRD2.out HX2.out.2.2.2.2.1).mono ?_
                rintro e w3 ⟨rfl, hk3⟩
                have HX3 := Lib.hid (HX2.out.below hB hk3)
                clear hk3 p0 p1
                by_cases hc128 : 128 < c
                · have HRES := Lib.hid (HBADG.out (by unfold badG; rw [← HCV.out, decide_eq_true hc128]; simp))
                  go_wp2
                  go_ret
                  exact ⟨ret_int HRES.out.symm, HX3.out.2.2.2.2.2.1⟩
                · have HNX := Lib.hid (HNEXT.out (by unfold badG; rw [← HCV.out, decide_eq_false hc128, HQ.out]; rfl))
                  go_wp2
                  go_roundw
                  case rel => exact ⟨j + 1, by omega, by go_num, HNX.out, HX3.out⟩
                  case measure => simp [intOf]; omega
            · have HRES := Lib.hid (show plE ws rules gs = 0 by
                have := HBAD.out
                rw [List.take_of_length_le (by rw [HGL.out]; omega)] at this
                rw [HE4.out, this]; rfl)
              go_wp2
              go_ret
              exact ⟨ret_int HRES.out.symm, HX.out.2.2.2.2.2.1⟩
  · have hz1 : (z == 0) = false := by simpa using hz0
    have hz2 : (z != 0) = true := by simpa using hz0
    have HR2 := Lib.hid (show plE ws rules gs = z by rw [HE.out, if_pos hz0])
    clear hz0 hp
    go_enter Tryd.func20, Tryd.ntmps20
    go_wp2_with fail
    refine H1.out.mono ?_
    rintro e w1 ⟨rfl, hk⟩
    have HB1 := Lib.hid (HB0.out.trans (hk.mono (by simp)))
    clear hk
    go_wp2
    go_ret
    exact ⟨ret_int HR2.out.symm, HB1.out⟩
end
section
open Go.RowKit
theorem plA_facts {n : Nat} : ∀ {gs : List (List Int)} {used : List Int} {p : Option Int}, (plA n used p gs).1 = 0 → used.Nodup → (∀ x ∈ used, 0 ≤ x ∧ x < (n : Int)) →
    (plA n used p gs).2.Nodup ∧ (∀ x ∈ (plA n used p gs).2, 0 ≤ x ∧ x < (n : Int)) ∧ gs.length + used.length ≤ (plA n used p gs).2.length
  | [], used, p, _, h1, h2 => ⟨h1, h2, by rw [plA_nil]; simp⟩
  | g :: r, used, p, h, h1, h2 => by
    rw [plA_cons] at h ⊢
    split at h
    · rename_i hx; exact absurd h hx
    · rename_i hz
      rw [if_neg hz]
      split at h
      · exact absurd h (show (9 : Int) ≠ 0 by decide)
      · rename_i hu
        rw [if_neg hu]
        split at h
        · exact absurd h (show (6 : Int) ≠ 0 by decide)
        · rename_i hl
          rw [if_neg hl]
          have hz' : gpE n g = 0 := by omega
          obtain ⟨hg0, hgr⟩ := gpE_zero hz'
          have hfr : ∀ x ∈ g, x ∉ used := by
            intro x hx hxu
            apply hu
            rw [List.any_eq_true]
            exact ⟨x, hx, decide_eq_true hxu⟩
          obtain ⟨k1, k2, k3⟩ := plA_facts h (nodup_add h1 (gpE_pw hz') hfr) (fun x hx => by
            rcases List.mem_append.1 hx with hh | hh
            · exact h2 x hh
            · exact hgr x hh)
          refine ⟨k1, k2, ?_⟩
          have := List.length_pos_iff.2 hg0
          rw [List.length_append] at k3
          rw [List.length_cons]
          omega
theorem plE_zero {ws : List Wsh} {rules : List Int} {gs : List (List Int)} (h : plE ws rules gs = 0) : pbE ws rules = 0 ∧ (plA ws.length [] none gs).1 = 0 ∧ gs.length ≤ ws.length ∧ ∀ g ∈ gs, ∀ i ∈ g, 0 ≤ i ∧ i < (ws.length : Int) := by
  unfold plE at h
  split at h
  · omega
  · rename_i h0
    split at h
    · omega
    · rename_i h1
      have h1' : (plA ws.length [] none gs).1 = 0 := by omega
      obtain ⟨k1, k2, k3⟩ := plA_facts h1' List.nodup_nil (fun x hx => by cases hx)
      have := nodup_len _ _ k1 k2
      exact ⟨by omega, h1', by simp at k3; omega, fun g hg => (gpE_zero (plA_ok h1' g hg)).2⟩
def totZ (ws : List Wsh) (gs : List (List Int)) : Int := (gs.map (costZ ws)).sum
theorem totZ_snoc (ws : List Wsh) (gs : List (List Int)) (g : List Int) : totZ ws (gs ++ [g]) = totZ ws gs + costZ ws g := by simp [totZ]
theorem totZ_bd {ws : List Wsh} (hr : ∀ x ∈ ws, WR x) : ∀ {gs : List (List Int)}, (∀ g ∈ gs, ∀ i ∈ g, 0 ≤ i ∧ i < (ws.length : Int)) → -2000 * (gs.length : Int) ≤ totZ ws gs ∧ totZ ws gs ≤ 2000 * (gs.length : Int)
  | [], _ => by simp [totZ]
  | g :: r, h => by
    have h1 := cost_bd hr (h g List.mem_cons_self)
    have h2 := totZ_bd hr (fun x hx => h x (List.mem_cons_of_mem _ hx)) (gs := r)
    have e : totZ ws (g :: r) = costZ ws g + totZ ws r := by simp [totZ]
    rw [e, List.length_cons]
    omega
def TtMem (w : World) (Bd : Nat) (A : Option Addr) (n cap : Nat) (B : Option Addr) (m c2 : Nat) (ws : List Wsh) (rules : List Int) (LA : Option Addr) (gs : List (List Int)) (W : World) : Prop :=
  Blk W w.heap.size 29 [.slice A n cap, .slice B m c2] ∧ Pb W Bd A n cap B m c2 ws rules ∧ GRd W Bd LA gs ∧ Tab W ∧ Below w.heap.size w W
theorem TtMem.below {w W W' : World} {Bd : Nat} {A : Option Addr} {n cap : Nat} {B : Option Addr} {m c2 : Nat} {ws : List Wsh} {rules : List Int} {LA : Option Addr} {gs : List (List Int)}
    (h : TtMem w Bd A n cap B m c2 ws rules LA gs W) (hB : Bd ≤ w.heap.size) (hb : Below W.heap.size W W') : TtMem w Bd A n cap B m c2 ws rules LA gs W' := by
  obtain ⟨h1, h3, h4, h5, h6⟩ := h
  exact ⟨h1.keep hb, h3.keep (Nat.le_trans hB h6.size) hb, h4.below (hb.mono (Nat.le_trans hB h6.size)), h5.below hb, h6.trans (hb.mono h6.size)⟩
set_option maxRecDepth 100000 in
set_option maxHeartbeats 8000000 in
theorem total_any (A : Option Addr) (n cap : Nat) (B : Option Addr) (m c2 : Nat) (ws : List Wsh) (rules : List Int) (LA : Option Addr) (ln lc : Nat) (gs : List (List Int)) (Bd : Nat) (w : World) (hp : Pb w Bd A n cap B m c2 ws rules) (hB : Bd ≤ w.heap.size)
    (hgl : gs.length = ln) (hgr : GRd w Bd LA gs) (hgc : ln ≤ lc) (hgm : lc ≤ maxLen) (ht : Tab w) :
    Calls Tryd.prog 13 #[.agg #[.slice A n cap, .slice B m c2], .slice LA ln lc] w fun e w' => e = .returned (.tuple #[.int .i64 (if plE ws rules gs = 0 then totZ ws gs else 0), .int .i64 (plE ws rules gs)]) ∧ Below w.heap.size w w' := by
  have hb0 := bw_new (Below.refl _ w) (.cells #[.slice A n cap, .slice B m c2] 29)
  have hm0 : TtMem w Bd A n cap B m c2 ws rules LA gs (w.alloc (.cells #[.slice A n cap, .slice B m c2] 29)) := ⟨Blk.new, hp.keep hB hb0, hgr.below (hb0.mono hB), ht.below hb0, hb0⟩
  have HM0 := Lib.hid hm0
  have H1 := Lib.hid (plan_any A n cap B m c2 ws rules LA ln lc gs Bd _ hm0.2.1 (by simp; omega) hgl hm0.2.2.1 hgc hgm hm0.2.2.2.1)
  have HZ := Lib.hid (@plE_zero ws rules gs)
  have HWL := Lib.hid hp.wl
  have HGL := Lib.hid hgl
  unfold maxLen at hgm
  obtain ⟨z, hz⟩ : ∃ z, z = plE ws rules gs := ⟨_, rfl⟩
  rw [← hz] at H1 HZ ⊢
  clear hz hp hgr hb0 hm0 ht
  by_cases hz0 : z = 0
  · have hz1 : (z == 0) = true := by simpa using hz0
    have hz2 : (z != 0) = false := by simpa using hz0
    subst hz0
    obtain ⟨hpz, _, hlen, hin⟩ := HZ.out rfl
    rw [if_pos rfl]
    have hn12 := pbE_len hpz
    have hln : ln ≤ 12 := by rw [← hgl]; omega
    have HWR := Lib.hid (pbE_right hpz)
    have HIN := Lib.hid hin
    clear hpz hlen hin hgl
    go_enter Tryd.func13, Tryd.ntmps13
    go_wp2_with fail
    refine H1.out.mono ?_
    rintro e w1 ⟨rfl, hk⟩
    have HM1 := Lib.hid (HM0.out.below hB hk)
    clear hk
    go_wp2_with fail
    go_loopw [7, 18] (fun c v wx => ∃ k : Nat, k ≤ ln ∧ v = .int .i64 k ∧ c = .int .i64 (totZ ws (gs.take k)) ∧ TtMem w Bd A n cap B m c2 ws rules LA gs wx) (fun _ v _ => ln - (intOf v).toNat)
    case atStart => exact ⟨0, by omega, rfl, rfl, HM1.out⟩
    case round =>
      obtain ⟨k, hk, rfl, rfl, hrel⟩ := hrel
      have HX := Lib.hid hrel
      have hsx : w.heap.size < wr.heap.size := hrel.1.lt
      have hbd := totZ_bd HWR.out (gs := gs.take k) (fun g hg => HIN.out g (List.mem_of_mem_take hg))
      have hkl : (gs.take k).length ≤ 12 := by rw [List.length_take]; omega
      obtain ⟨t, ht⟩ : ∃ t, t = totZ ws (gs.take k) := ⟨_, rfl⟩
      rw [← ht] at hbd ⊢
      have hb0 : -24000 ≤ t := by omega
      have hb1 : t ≤ 24000 := by omega
      have HTT := Lib.hid ht
      clear hrel ht hbd hkl
      by_cases hltj : k < ln
      · have hltg : k < gs.length := by rw [HGL.out]; exact hltj
        obtain ⟨b, off, rfl, hbb, hcell⟩ := HX.out.2.2.1.at_ (by omega)
        obtain ⟨GA, gc, hck, hrd, hgc1, hgm1⟩ := hcell k hltg
        obtain ⟨g, hg⟩ : ∃ g, g = gs[k] := ⟨_, rfl⟩
        rw [← hg] at hck hrd hgc1
        have hgr := HIN.out g (by rw [hg]; exact List.getElem_mem hltg)
        have hcb := cost_bd HWR.out hgr
        rw [HWL.out] at hgr
        have HC := Lib.hid (cost_any A n cap B m c2 ws rules GA g.length gc g Bd wr HX.out.2.1 (by omega) HWR.out hgr rfl hrd hgc1 hgm1 HX.out.2.2.2.1)
        have hbw : b < wr.heap.size := by omega
        obtain ⟨p0, p1⟩ := HX.out.1.two
        have HS := Lib.hid (show t + costZ ws g = totZ ws (gs.take (k + 1)) by rw [take_snoc gs k hltg, totZ_snoc, HTT.out, hg])
        obtain ⟨c, hc⟩ : ∃ c, c = costZ ws g := ⟨_, rfl⟩
        rw [← hc] at HC HS hcb
        obtain ⟨hc0, hc1⟩ := hcb
        clear hg hcell hrd hgr hc
        go_wp2_with fail
        refine HC.out.mono ?_
        rintro e w2 ⟨rfl, hk2⟩
        have HX2 := Lib.hid (HX.out.below hB hk2)
        clear hk2 p0 p1 hck
        go_wp2
        go_roundw
        case rel => exact ⟨k + 1, by omega, by go_num, by rw [← HS.out], HX2.out⟩
        case measure => simp [intOf]; omega
      · have HS := Lib.hid (show t = totZ ws gs by rw [HTT.out, List.take_of_length_le (by rw [HGL.out]; omega)])
        go_wp2
        go_ret2
        exact ⟨by rw [← HS.out]; rfl, HX.out.2.2.2.2⟩
  · have hz1 : (z == 0) = false := by simpa using hz0
    have hz2 : (z != 0) = true := by simpa using hz0
    rw [if_neg hz0]
    clear hz0
    go_enter Tryd.func13, Tryd.ntmps13
    go_wp2_with fail
    refine H1.out.mono ?_
    rintro e w1 ⟨rfl, hk⟩
    have HM1 := Lib.hid (HM0.out.below hB hk)
    clear hk
    go_wp2
    go_ret2
    exact ⟨rfl, HM1.out.2.2.2.2⟩
end
end Go.Proofs.YtkamepalomkpbaaDoor
