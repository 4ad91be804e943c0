/- Package tuner: Missed. Conditions: the steps lie in a slice of at most maxLen cells. -/
import Derived.Test.YtfickhncbahekaaDoorTunAt
import Derived.Test.YtfickhncbahekaaDoorIvCheck
namespace Go.Proofs.YtfickhncbahekaaDoor
open Go.RowKit

theorem iof_small (x y : Int) (w : World) (hx : -6000 ≤ x ∧ x ≤ 6000) (hy : -6000 ≤ y ∧ y ≤ 6000) :
    Calls Tryd.prog 30 #[.int .i64 x, .int .i64 y, .int .i64 0] w fun e w' => e = .returned (.tuple #[.agg #[.int .i64 x, .int .i64 1, .int .i64 y, .int .i64 1, .int .i64 0, .int .i64 1], .int .i64 0]) ∧ Below w.heap.size w w' := by
  have h := iof_any x y 0 w ⟨by omega, by omega⟩ ⟨by omega, by omega⟩ ⟨by decide, by decide⟩
  have hr : ∀ z : Int, -6000 ≤ z ∧ z ≤ 6000 → Right z 1 := fun z hz => by
    refine ⟨by decide, by decide, by omega, by omega, by simp⟩
  have hp : prt [(x, 1), (y, 1), ((0 : Int), 1)] ≠ none := by
    have e : prt [(x, 1), (y, 1), ((0 : Int), 1)] = some ([x, y, 0], 1) := by
      unfold prt
      rw [show prD [(x, 1), (y, 1), ((0 : Int), 1)] 1 = some 1 by simp [prD, lcmA]]
      simp only
      unfold prN
      rw [if_neg (by simp; omega)]
      unfold prN
      rw [if_neg (by simp; omega)]
      unfold prN
      rw [if_neg (by simp)]
      simp [prN]
    rw [e]; simp
  have he : ivE [(x, 1), (y, 1), ((0 : Int), 1)] = 0 := ivE_ok (by
    intro q hq
    simp only [List.mem_cons, List.not_mem_nil, or_false] at hq
    rcases hq with rfl | rfl | rfl
    · exact hr _ hx
    · exact hr _ hy
    · exact hr _ (by omega)) hp
  rw [show ivR x 1 y 1 0 1 = .tuple #[szv x 1 y 1 0 1, .int .i64 0] by unfold ivR; rw [if_pos he]] at h
  exact h
/-- What some ways miss. -/
def scs (D : List (Int × Int)) : List Value := D.flatMap fun d => [.int .i64 (d.2 - d.1), .int .i64 1, .int .i64 d.1, .int .i64 1, .int .i64 0, .int .i64 1]
theorem scs_snoc (D : List (Int × Int)) (a b : Int) : scs D ++ [.int .i64 (b - a), .int .i64 1, .int .i64 a, .int .i64 1, .int .i64 0, .int .i64 1] = scs (D ++ [(a, b)]) := by simp [scs]
theorem infoSizeT : (Tryd.prog.info? 81).map (fun i => (i.zero, i.size, i.bytes)) = some (some (.agg #[.int .i64 0, .int .i64 0, .int .i64 0, .int .i64 0, .int .i64 0, .int .i64 0]), 6, 48) := by kernel_rfl
/-- A list of sizes or an error. -/
def SizesOr (w : World) (x : Int) (D : List (Int × Int)) (e : Ending) (w' : World) : Prop :=
  Below w.heap.size w w' ∧ ((x ≠ 0 ∧ e = .returned (.tuple #[.slice none 0 0, .int .i64 x])) ∨
    (x = 0 ∧ ∃ (GA : Option Addr) (gc : Nat), e = .returned (.tuple #[.slice GA D.length gc, .int .i64 0]) ∧ w'.ownsRow w.heap.size 81 6 (.slice GA D.length gc) D.length (scs D)))
theorem drift_small {f : Int} {L : List (Int × Int)} (h2 : L.length ≤ 200) (h3 : Ord f L) : ∀ x ∈ (stT f L L.length).drift, -401 ≤ x.1 ∧ x.1 ≤ 401 ∧ -401 ≤ x.2 ∧ x.2 ≤ 401 := by
  intro x hx
  rw [(st_again h3 L.length (Nat.le_refl _)).2] at hx
  obtain ⟨i, hi, rfl⟩ := List.mem_map.1 hx
  have := redN_lt hi
  have := drift_semi h3 this.1 this.2
  omega

set_option maxRecDepth 100000 in
set_option maxHeartbeats 1000000 in
theorem missed_any (f : Int) (A : Option Addr) (n cap : Nat) (L : List (Int × Int)) (w : World) (h : OArg w w.heap.size A n cap L) :
    Calls Tryd.prog 27 #[.agg #[.int .i64 f, .slice A n cap]] w (SizesOr w (runE f L) (stT f L n).drift) := by
  have hb := bw_new (Below.refl _ w) (.cells #[.int .i64 f, .slice A n cap] 25)
  have HR := Lib.hid (drifts_any f A n cap L _ (h.step hb))
  have HB := Lib.hid hb
  have HA := Lib.hid h
  have HOF := Lib.hid (fun (x y : Int) W hx hy => iof_small x y W hx hy)
  obtain ⟨i0, hi, hz0, hz1, hz2⟩ := info_parts infoSizeT
  have HI0 := Lib.hid hi
  have HZ0 := Lib.hid hz0
  have HZ1 := Lib.hid hz1
  have HZ2 := Lib.hid hz2
  clear h hb hi hz0 hz1 hz2
  go_enter Tryd.func27, Tryd.ntmps27
  go_wp2_with fail
  refine HR.out.mono ?_
  rintro e w1 ⟨hb1, ⟨h0, rfl⟩ | ⟨h0, GA, gc, rfl, hsr, hgc, hgm⟩⟩
  · have HB1 := Lib.hid (HB.out.trans (hb1.mono HB.out.size))
    have H0 := Lib.hid h0
    obtain ⟨x, hx⟩ : ∃ x, x = runE f L := ⟨_, rfl⟩
    rw [← hx] at h0 H0 ⊢
    have hz : (x != 0) = true := by simpa using h0
    have HX := Lib.hid hx
    clear hb1 h0 hx
    go_wp2
    go_ret2
    rw [← HX.out]
    exact ⟨HB1.out, .inl ⟨H0.out, rfl⟩⟩
  · have HB1 := Lib.hid (HB.out.trans (hb1.mono HB.out.size))
    have H0 := Lib.hid h0
    obtain ⟨_, h2, h3⟩ := runE_ord h0
    have hsm := drift_small h2 h3
    rw [HA.out.len] at hsm h2
    have hdl : (stT f L n).drift.length ≤ 200 := by have := (st_len f L n).2; omega
    obtain ⟨D, hD⟩ : ∃ D, D = (stT f L n).drift := ⟨_, rfl⟩
    rw [← hD] at hsr hgc hsm hdl ⊢
    have HD := Lib.hid hD
    have HSM := Lib.hid hsm
    have HSR := Lib.hid hsr
    obtain ⟨dn, hdn⟩ : ∃ dn, dn = D.length := ⟨_, rfl⟩
    rw [← hdn] at hgc hdl ⊢
    have HDN := Lib.hid hdn
    clear hb1 h0 h3 hsm hD hsr hdn
    go_wp2_with fail
    go_loopw [6, 21] (fun u v wx => ∃ (k : Nat) (OA : Option Addr) (oc : Nat), v = .int .i64 (k : Int) ∧ k ≤ dn ∧ u = .slice OA k oc ∧ wx.ownsRow w1.heap.size 81 6 (.slice OA k oc) k (scs (D.take k)) ∧ Below w1.heap.size w1 wx) (fun _ v _ => dn - (intOf v).toNat)
    case atStart => exact ⟨0, none, 0, rfl, by omega, rfl, World.ownsRow_nil _ _ _ _, Below.refl _ _⟩
    case round =>
      obtain ⟨k, OA, oc, rfl, hk, rfl, hown, hbw⟩ := hrel
      have HO := Lib.hid hown
      have HBW := Lib.hid hbw
      clear hown hbw
      by_cases hkn : k < dn
      · obtain ⟨b, off, rfl, hbl, hs⟩ := HSR.out.at_ (by rw [← HDN.out]; omega)
        have hq := (hs k (by rw [← HDN.out]; omega)).keep (fun o => (HBW.out.cell (p := ⟨b, o, none⟩) hbl))
        have hqs := HSM.out (D.getD k (0, 0)) (by
          have hkl : k < D.length := by rw [← HDN.out]; omega
          rw [List.getD_eq_getElem?_getD, List.getElem?_eq_getElem hkl, Option.getD_some]; exact List.getElem_mem hkl)
        obtain ⟨x, hx⟩ : ∃ x, x = D.getD k (0, 0) := ⟨_, rfl⟩
        rw [← hx] at hq hqs
        have HTK := Lib.hid (show D.take (k + 1) = D.take k ++ [x] by rw [take_getD D k (by rw [← HDN.out]; omega), hx])
        obtain ⟨p, q⟩ := x
        obtain ⟨s1, s2, s3, s4⟩ := hqs
        have hq0 : wr.cell? ⟨b, off + k * 2, none⟩ = some (.int .i64 p) := hq.1
        have hq1 : wr.cell? ⟨b, off + k * 2 + 1, none⟩ = some (.int .i64 q) := hq.2
        dsimp only at s1 s2 s3 s4
        clear hs hq hx
        go_wp2_with fail
        refine (HOF.out _ _ _ (by omega) (by omega)).mono ?_
        rintro e w3 ⟨rfl, hb3⟩
        have HB3 := Lib.hid ((HBW.out.alloc HBW.out.size (.cells #[.int .i64 p, .int .i64 q] 50)).trans (hb3.mono (by have := HBW.out.size; rw [World.size_alloc]; omega)))
        have HO3 := Lib.hid (own_below (own_below HO.out (bw_new (Below.refl _ _) _)) hb3)
        clear hb3 hq0 hq1
        go_wp2_with (at_builtin; refine wpList_append_own _ rfl _ _ 72 rfl w1.heap.size 81 i0 (.agg #[.int .i64 0, .int .i64 0, .int .i64 0, .int .i64 0, .int .i64 0, .int .i64 0]) 6 48 Tryd.underlying72 HI0.out HZ0.out HZ1.out HZ2.out rfl (by decide) _ _ _ rfl (own_below (own_below HO3.out (bw_new (Below.refl _ _) _)) (bw_new (Below.refl _ _) _)) ⟨w3.heap.size + 1, 0, none⟩ 1 1 [.int .i64 (q - p), .int .i64 1, .int .i64 p, .int .i64 1, .int .i64 0, .int .i64 1] rfl rfl (World.news_of_block (cs := #[.int .i64 (q - p), .int .i64 1, .int .i64 p, .int .i64 1, .int .i64 0, .int .i64 1]) (t := 81) (fr := (0, 0)) (by rw [← World.size_alloc]; exact heap_alloc_new _ _)) (by simp [Value.oneCell']) (by unfold maxLen; omega) (by omega) (by have := HB3.out.size; simp; omega) ?_)
        intro v' w4 hown4 hgrow _
        obtain ⟨g, rc2, hv, hrc2⟩ := own_form hown4 (by omega)
        subst hv
        have hb4 := (HB3.out.alloc HB3.out.size (.cells #[.int .i64 (q - p), .int .i64 1, .int .i64 p, .int .i64 1, .int .i64 0, .int .i64 1] 81))
        have hb5 := (hb4.alloc hb4.size (.cells #[.int .i64 (q - p), .int .i64 1, .int .i64 p, .int .i64 1, .int .i64 0, .int .i64 1] 81)).grown hgrow (by have := hb4.size; simp at this ⊢; omega) (fun g hg => (HO3.out.lt g hg).1)
        rw [show scs (D.take k) ++ [.int .i64 (q - p), .int .i64 1, .int .i64 p, .int .i64 1, .int .i64 0, .int .i64 1] = scs (D.take (k + 1)) from by rw [HTK.out, ← scs_snoc]] at hown4
        have HB5 := Lib.hid hb5
        have HO5 := Lib.hid hown4
        clear hown4 hgrow hb4 hb5
        go_wp2
        go_roundw
        case rel => exact ⟨k + 1, _, rc2, by go_num, by omega, rfl, HO5.out, HB5.out⟩
        case measure => simp [intOf]; omega
      · obtain rfl : k = dn := by omega
        rw [show D.take k = D from List.take_of_length_le (by rw [← HDN.out]; exact Nat.le_refl _)] at HO
        go_wp2
        go_ret2
        rw [← HD.out]
        refine ⟨HB1.out.trans (HBW.out.mono HB1.out.size), .inr ⟨H0.out, OA, oc, by rw [← HDN.out]; rfl, ?_⟩⟩
        rw [← HDN.out]
        exact own_low HO.out HB1.out.size
end Go.Proofs.YtfickhncbahekaaDoor
