/- Package tuner: Tuned. Conditions: the steps lie in a slice of at most maxLen cells. -/
import Derived.Test.YtfickhncbahekaaDoorTunFur
import Derived.Test.YtfickhncbahekaaDoorMapR
import Derived.Test.YtfickhncbahekaaDoorNsetF
import Derived.Outline
namespace Go.Proofs.YtfickhncbahekaaDoor
open Go.RowKit

/-- All notes that an order tunes. -/
def tunV (f : Int) (L : List (Int × Int)) : Nat × Nat := setN (f :: L.map (·.2)) (0, 0)
theorem fz_mem {f : Int} {L : List (Int × Int)} {n : Int} : fz f L n ≠ -2 ↔ n = f ∨ n ∈ L.map (·.2) := by
  unfold fz
  constructor
  · intro h
    rcases firstZ_cases f L n L.length with ⟨e, _⟩ | ⟨_, e⟩ | ⟨_, k, _, hk, _, e⟩
    · exact .inl e
    · exact absurd e h
    · right
      rw [← e, List.getD_eq_getElem?_getD, List.getElem?_eq_getElem hk, Option.getD_some]
      exact List.mem_map_of_mem (List.getElem_mem hk)
  · intro h e
    unfold firstZ at e
    by_cases hn : n = f
    · rw [if_pos hn] at e; cases e
    · rw [if_neg hn, List.take_of_length_le (Nat.le_refl _)] at e
      have hm := h.resolve_left hn
      obtain ⟨x, hx, hxe⟩ := List.mem_map.1 hm
      have : ∀ (l : List (Int × Int)) (i : Nat), x ∈ l → toIx n l i ≠ -2 := by
        intro l
        induction l with
        | nil => intro i h; cases h
        | cons y r ih =>
          intro i hm
          show (if y.2 = n then (i : Int) else toIx n r (i + 1)) ≠ -2
          by_cases q : y.2 = n
          · rw [if_pos q]; omega
          · rw [if_neg q]
            rcases List.mem_cons.1 hm with h | h
            · rw [← h] at q; exact absurd hxe q
            · exact ih (i + 1) h
      exact this L 0 hx e
theorem ways_keys (f : Int) (L : List (Int × Int)) (n : Int) : n ∈ (stT f L L.length).ways.map (·.1) ↔ n = f ∨ n ∈ L.map (·.2) := by
  rw [← fz_mem]
  have h1 := lkz_none (k := n) (m := (stT f L L.length).ways)
  have h2 := (st_fst f L L.length (Nat.le_refl _) n).2
  constructor
  · intro h e
    exact h1.1 (h2.2 e) h
  · intro h
    refine Classical.byContradiction fun hn => h (h2.1 (h1.2 hn))
theorem ofV_tun {f : Int} {L : List (Int × Int)} (hf : isN f) (ho : Ord f L) {l : List Int} (hl : ∀ n, n ∈ l ↔ n = f ∨ n ∈ L.map (·.2)) : ofV l = tunV f L ∧ ofE l = 0 := by
  have hall : l.all nB = true := by
    rw [List.all_eq_true]
    intro n hn
    unfold nB
    rw [decide_eq_true_eq]
    rcases (hl n).1 hn with rfl | h
    · exact hf
    · obtain ⟨x, hx, rfl⟩ := List.mem_map.1 h
      obtain ⟨k, hk, rfl⟩ := List.getElem_of_mem hx
      have := (chkE_zero (ho k hk)).2.1
      rw [List.getD_eq_getElem?_getD, List.getElem?_eq_getElem hk, Option.getD_some] at this
      exact this
  have h0 : NOk (0, 0) := by unfold NOk; omega
  unfold ofV ofE tunV
  rw [if_pos hall, if_pos hall]
  refine ⟨hasZ_ext (setN_ok _ h0) (setN_ok _ h0) fun n => ?_, rfl⟩
  rw [hasZ_set, hasZ_set]
  have : l.contains n = (f :: L.map (·.2)).contains n := by
    rw [Bool.eq_iff_iff, List.contains_iff_mem, List.contains_iff_mem, hl, List.mem_cons]
  rw [this]

theorem st_wl (f : Int) (L : List (Int × Int)) : ∀ k, (stT f L k).ways.length ≤ k + 1
  | 0 => by simp [stT, tn0]
  | k + 1 => by
    have h1 := st_wl f L k
    rw [show stT f L (k + 1) = stepT (stT f L k) k (L.getD k (0, 0)) from rfl]
    unfold stepT
    cases lkz (L.getD k (0, 0)).2 (stT f L k).ways with
    | some old => simp only; omega
    | none => simp only [List.length_append, List.length_cons, List.length_nil]; omega
def tunX (f : Int) (L : List (Int × Int)) : Nat × Nat := if runE f L = 0 then tunV f L else (0, 0)
/-- The keys of some entries. -/
def kyS (m : List (Int × (Int × Int))) (js : List Nat) : List Int := js.map fun j => (m.getD j (0, (0, 0))).1
/-- What the loop over the map keeps. -/
def TdL (w w1 : World) (f : Int) (L : List (Int × Int)) (A : Option Addr) (n cap : Nat) (u : Value) (wx : World) : Prop := ∃ (js : List Nat) (LA : Option Addr) (lc : Nat), u = .slice LA js.length lc ∧ wx.ownsRow (w1.heap.size + 1) 3 1 (.slice LA js.length lc) js.length ((kyS (stT f L n).ways js).map i64v) ∧
  MapI iK wx (w.heap.size + 1 + 1 + 1) w1.heap.size (ents wv (stT f L n).ways) js ∧ Hp w [(w.heap.size, 25, [.int .i64 f, .slice A n cap]), (w.heap.size + 1, 39, ncs (0, 0))] wx ∧ w1.heap.size + 1 ≤ wx.heap.size

set_option maxRecDepth 100000 in
set_option maxHeartbeats 1000000 in
theorem tuned_any (f : Int) (A : Option Addr) (n cap : Nat) (L : List (Int × Int)) (w : World) (h : OArg w w.heap.size A n cap L) :
    Calls Tryd.prog 22 #[.agg #[.int .i64 f, .slice A n cap]] w fun e w' => e = .returned (.tuple #[nv (tunX f L), .int .i64 (runE f L)]) ∧ Below w.heap.size w w' := by
  have hb := bw_new (Below.refl _ w) (.cells #[.int .i64 f, .slice A n cap] 25)
  have hbo := ((Hp.start w).new 25 [.int .i64 f, .slice A n cap]).new 39 (ncs (0, 0))
  simp only [World.size_alloc, List.nil_append, List.cons_append] at hbo
  have HR := Lib.hid (run_arg (f := f) (h.step (hbo.below)))
  have HM := Lib.hid hbo
  have HA := Lib.hid h
  obtain ⟨i0, hi, hz0, hz1, hz2⟩ := info_parts infoIntT
  have HI0 := Lib.hid hi
  have HZ0 := Lib.hid hz0
  have HZ1 := Lib.hid hz1
  have HZ2 := Lib.hid hz2
  clear hi hz0 hz1 hz2
  clear h hb hbo
  go_enter Tryd.func22, Tryd.ntmps22
  go_wp2_with fail
  refine HR.out.mono ?_
  rintro e w1 ⟨hb1, ⟨h0, rfl⟩ | ⟨h0, GA, gn, gc, DA, dn, dc, rfl, hp⟩⟩
  · have H0 := Lib.hid h0
    have HM1 := Lib.hid (HM.out.step hb1)
    obtain ⟨x, hx⟩ : ∃ x, x = runE f L := ⟨_, rfl⟩
    rw [← hx] at h0 H0 ⊢
    have hz : (x != 0) = true := by simpa using h0
    have HX := Lib.hid hx
    have d0 : w1.cell? ⟨w.heap.size + 1, 0, none⟩ = some (.int .u64 0) := (HM1.out.at_ 1 rfl).cell 0
    have d1 : w1.cell? ⟨w.heap.size + 1, 1, none⟩ = some (.int .u64 0) := (HM1.out.at_ 1 rfl).cell 1
    have f0 := (HM1.out.at_ 1 rfl).frozen 0
    have f1 := (HM1.out.at_ 1 rfl).frozen 1
    clear hb1 h0 hx
    go_wp2
    refine bodyPost_ret (v := .tuple #[.agg #[.int .u64 0, .int .u64 0], .int .i64 x]) (by simp [results, Tryd.results22, go_sem, d0, d1]) rfl ⟨by unfold tunX; rw [← HX.out, if_neg H0.out]; rfl, ?_⟩
    exact (HM1.out.put2 1 rfl (.int .u64 0) (.int .u64 0)).below
  · have hm1 := HM.out.step hb1
    have hsz : ((w.alloc (.cells #[.int .i64 f, .slice A n cap] 25)).alloc (.cells (ncs (0, 0)).toArray 39)).heap.size = w.heap.size + 1 + 1 := by simp
    rw [hsz] at hp
    have t0 : w1.cell? ⟨w.heap.size + 1 + 1 + 3, 0, none⟩ = some (.map (some (w.heap.size + 1 + 1 + 1))) := hp.t.cell 0
    obtain ⟨ck, hrg, hI⟩ := MapI.start Tryd.underlying97 hp.m1
    have HI := Lib.hid hI
    have HM1 := Lib.hid (hm1.step (bw_new (Below.refl _ _) (.mapIter (some (w.heap.size + 1 + 1 + 1)) ck #[] ck)))
    have hlt1 : w.heap.size + 1 + 1 + 1 < w1.heap.size := hp.m1.lt
    obtain ⟨W0, hW0⟩ : ∃ W0, W0 = w1.alloc (.mapIter (some (w.heap.size + 1 + 1 + 1)) ck #[] ck) := ⟨_, rfl⟩
    have HRE := Lib.hid h0
    have hwl : (stT f L n).ways.length ≤ 1000 := by
      have := st_wl f L n
      have := (runE_ord h0).2.1
      rw [HA.out.len] at this
      omega
    clear hp hI hb1 hm1 hsz hW0 W0 h0
    go_wp2_with fail
    go_loopw [6] (fun u wx => TdL w w1 f L A n cap u wx) (fun u _ => (stT f L n).ways.length - lenOf u)
    case atStart => exact ⟨[], none, 0, rfl, World.ownsRow_nil _ _ _ _, HI.out, HM1.out, by simp⟩
    case round =>
      obtain ⟨js, LA, lc, rfl, hown, hI, hm, hsz⟩ := hrel
      have HM := Lib.hid hm
      have HO := Lib.hid hown
      have hjl := hI.lens
      have HML := Lib.hid (show (ents wv (stT f L n).ways).length = (stT f L n).ways.length by simp [ents])
      rw [HML.out] at hjl
      obtain ⟨jn, hjn⟩ : ∃ jn, jn = js.length := ⟨_, rfl⟩
      rw [← hjn] at hjl ⊢
      have HJ := Lib.hid hjn
      rcases hI.next (by omega) 0 with ⟨hr, hall⟩ | ⟨j, hj, w', hnj, hr, he, hI', hg, hsz'⟩
      · have HIM := Lib.hid (show ∀ x, x ∈ kyS (stT f L n).ways js ↔ x = f ∨ x ∈ L.map (·.2) by
          intro x
          have hw := ways_keys f L x
          rw [HA.out.len] at hw
          rw [← hw]
          unfold kyS
          rw [List.mem_map]
          constructor
          · rintro ⟨j, hj, rfl⟩
            have hjm : j < (stT f L n).ways.length := by
              obtain ⟨_, _, _, _, _, _, _, _, _, _, _, _, _, h8, _⟩ := hI
              rw [← HML.out]; exact h8 j hj
            rw [List.getD_eq_getElem?_getD, List.getElem?_eq_getElem hjm, Option.getD_some]
            exact List.mem_map_of_mem (List.getElem_mem hjm)
          · intro hx
            obtain ⟨p, hp, rfl⟩ := List.mem_map.1 hx
            obtain ⟨j, hj, rfl⟩ := List.getElem_of_mem hp
            refine ⟨j, hall j (by rw [HML.out]; exact hj), ?_⟩
            rw [List.getD_eq_getElem?_getD, List.getElem?_eq_getElem hj, Option.getD_some])
        obtain ⟨o1, _, o3⟩ := runE_ord HRE.out
        obtain ⟨v1, v2⟩ := ofV_tun o1 o3 HIM.out
        have HN := Lib.hid (nOf_any LA jn lc (kyS (stT f L n).ways js) wr (by unfold kyS; rw [List.length_map, ← HJ.out]) (by have := own_cap HO.out; rw [← HJ.out] at this; exact this) (own_mxT HO.out) (Rd.of_own HO.out (by unfold kyS; rw [List.length_map])))
        rw [v1, v2] at HN
        obtain ⟨s, hs⟩ : ∃ s, s = tunV f L := ⟨_, rfl⟩
        rw [← hs] at HN
        have HS := Lib.hid hs
        obtain ⟨s1, s2⟩ := s
        unfold nv at HN
        dsimp only at HN
        clear hown hI hm hjn hall v1 v2 hs o1 o3
        go_wp2_with fail
        refine HN.out.mono ?_
        rintro e w2 ⟨rfl, hb2⟩
        have HM2 := Lib.hid (HM.out.step hb2)
        have d0 : w2.cell? ⟨w.heap.size + 1, 0, none⟩ = some (.int .u64 0) := (HM2.out.at_ 1 rfl).cell 0
        have d1 : w2.cell? ⟨w.heap.size + 1, 1, none⟩ = some (.int .u64 0) := (HM2.out.at_ 1 rfl).cell 1
        have f0 := (HM2.out.at_ 1 rfl).frozen 0
        have f1 := (HM2.out.at_ 1 rfl).frozen 1
        clear hb2 hr
        go_wp2
        refine bodyPost_ret (v := .tuple #[.agg #[.int .u64 (s1 : Int), .int .u64 (s2 : Int)], .int .i64 0]) (by simp [results, Tryd.results22, go_sem, d0, d1]) rfl ⟨by unfold tunX; rw [HRE.out, if_pos rfl, ← HS.out]; rfl, ?_⟩
        exact (HM2.out.put2 1 rfl (.int .u64 (s1 : Int)) (.int .u64 (s2 : Int))).below
      · have hjm : j < (stT f L n).ways.length := by rw [← HML.out]; exact hj
        obtain ⟨x, hx⟩ : ∃ x, x = ((stT f L n).ways.getD j (0, (0, 0))).1 := ⟨_, rfl⟩
        have hk : iK.enc (ents wv (stT f L n).ways)[j].1 = .int .i64 x := by
          rw [hx, List.getD_eq_getElem?_getD, List.getElem?_eq_getElem hjm, Option.getD_some]
          simp [ents]
          rfl
        rw [hk] at hr he
        obtain ⟨v, hv⟩ : ∃ v, v = (ents wv (stT f L n).ways)[j].2 := ⟨_, rfl⟩
        rw [← hv] at hr he
        have HX := Lib.hid hx
        have HI' := Lib.hid hI'
        have hlt2 : (js ++ [j]).length ≤ (stT f L n).ways.length := by have := hI'.lens; rw [HML.out] at this; exact this
        rw [List.length_append, ← hjn] at hlt2
        have hown' := own_grown hown hg (fun g e e2 => by have := (hown.lt g e).1; cases e2; omega)
        rw [← hjn] at hown'
        have hm' := hm.grown hg (fun r e => by
          cases e
          refine ⟨by omega, fun p hp => ?_⟩
          simp only [List.mem_cons, List.not_mem_nil, or_false] at hp
          rcases hp with rfl | rfl <;> simp <;> omega)
        have hszq : w1.heap.size + 1 ≤ w'.heap.size := by omega
        clear hsz'
        have HO' := Lib.hid hown'
        have HM' := Lib.hid hm'
        clear hown hI hm hjn hI' hg hx hk hv hown' hm' hnj
        simp only [List.length_cons, List.length_nil, Nat.zero_add] at hlt2
        go_wp2_with (at_builtin; refine wpList_append_own _ rfl _ _ 46 rfl (w1.heap.size + 1) 3 i0 (.int .i64 0) 1 8 Tryd.underlying46 HI0.out HZ0.out HZ1.out HZ2.out rfl (by decide) _ _ _ rfl (own_below HO'.out (bw_new (Below.refl _ _) _)) ⟨w'.heap.size, 0, none⟩ 1 1 [.int .i64 x] rfl rfl (World.news_of_block (cs := #[.int .i64 x]) (t := 3) (fr := (0, 0)) (heap_alloc_new w' _)) (by simp [Value.oneCell']) (by unfold maxLen; omega) (by omega) (by simp; omega) ?_)
        intro v' w4 hown4 hgrow _
        obtain ⟨g, rc2, hv, hrc2⟩ := own_form hown4 (by omega)
        subst hv
        have hgg := fun q e => (HO'.out.lt q e).1
        have hm4 := (HM'.out.alloc (.cells #[.int .i64 x] 3)).grown hgrow (fun r e => by
          have := hgg r e
          refine ⟨by omega, fun p hp => ?_⟩
          simp only [List.mem_cons, List.not_mem_nil, or_false] at hp
          rcases hp with rfl | rfl <;> simp <;> omega)
        have hi4 := (HI'.out.step (bw_new (Below.refl _ _) (.cells #[.int .i64 x] 3))).grown hgrow (fun e => by have := hgg _ e.symm; omega) (fun e => by have := hgg _ e.symm; omega)
        have hs4 : w1.heap.size + 1 ≤ w4.heap.size := by have := hgrow.size; rw [World.size_alloc] at this; omega
        have HM4 := Lib.hid hm4
        have HI4 := Lib.hid hi4
        have HO4 := Lib.hid hown4
        clear hown4 hgrow hgg hm4 hi4 hr he
        go_wp2
        go_roundw
        case rel =>
          have e1 : (js ++ [j]).length = jn + 1 := by rw [List.length_append, ← HJ.out]; rfl
          have e2 : kyS (stT f L n).ways (js ++ [j]) = kyS (stT f L n).ways js ++ [x] := by unfold kyS; rw [List.map_append, HX.out]; rfl
          refine ⟨js ++ [j], _, rc2, by rw [e1], ?_, HI4.out, HM4.out, hs4⟩
          rw [e1, e2, List.map_append]
          exact HO4.out
        case measure => simp [lenOf]; omega
end Go.Proofs.YtfickhncbahekaaDoor
