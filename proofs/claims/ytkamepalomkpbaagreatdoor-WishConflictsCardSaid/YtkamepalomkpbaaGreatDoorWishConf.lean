/- Package wish: Conflicts. Conditions: the problem is right. -/
import Derived.Test.YtkamepalomkpbaaGreatDoorWishLPerm
import Derived.Deep.OwnRows
import Derived.Deep.DeepCutAuto
namespace Go.Proofs.YtkamepalomkpbaaGreatDoor
open Go.RowKit

theorem infoPair : (Tryz.prog.info? 35).map (fun i => (i.zero, i.size, i.bytes)) = some (some (.agg #[.int .i64 0, .int .i64 0]), 2, 16) := by kernel_rfl
theorem pbE_lenC {ws : List Wsh} {rules : List Int} (h : pbE ws rules = 0) : ws.length ≤ 12 := by
  unfold pbE at h
  split at h
  · omega
  · omega
theorem own_mxC {w : World} {base : Nat} {e : TypeId} {size n c m : Nat} {A : Option Addr} {xs : List Value} (h : w.ownsRow base e size (.slice A n c) m xs) : c ≤ maxLen := by
  rcases h.2 with ⟨e, _⟩ | ⟨g, cap, cur, e, _, _, _, _, _, h8⟩
  · injection e with _ _ e3
    subst e3
    decide
  · injection e with _ _ e3
    omega
theorem ints_rdC {w : World} {t : TypeId} (cs : List Int) : Rd i64v (w.alloc (.cells (cs.map i64v).toArray t)) (w.heap.size + 1) (some ⟨w.heap.size, 0, none⟩) cs := by
  have h := Blk.rd (enc := i64v) (L := cs) (Blk.new (w := w) (t := t) (cs := cs.map i64v))
  rw [World.size_alloc] at h
  exact h
/-- Two wishes may not stand in one group. -/
def badB (ws : List Wsh) (rules : List Int) (a b : Int) : Bool := apB rules (wat ws a) (wat ws b) || decide (128 < costZ ws [a, b])
def cfJ (ws : List Wsh) (rules : List Int) (a j : Nat) : List (Int × Int) := ((List.range j).filter fun b : Nat => decide (a < b) && badB ws rules a b).map fun b : Nat => ((a : Int), (b : Int))
def cfA (ws : List Wsh) (rules : List Int) (n a : Nat) : List (Int × Int) := (List.range a).flatMap fun i => cfJ ws rules i n
def prs (L : List (Int × Int)) : List Value := L.flatMap fun p => [.int .i64 p.1, .int .i64 p.2]
theorem prs_app (L M : List (Int × Int)) : prs (L ++ M) = prs L ++ prs M := List.flatMap_append
theorem cfJ_zero (ws : List Wsh) (rules : List Int) (a : Nat) : cfJ ws rules a (a + 1) = [] := by
  unfold cfJ
  rw [List.map_eq_nil_iff, List.filter_eq_nil_iff]
  intro b hb
  have := List.mem_range.1 hb
  simp
  omega
theorem cfJ_yes {ws : List Wsh} {rules : List Int} {a j : Nat} (h : a < j) (hb : badB ws rules a j = true) : cfJ ws rules a (j + 1) = cfJ ws rules a j ++ [((a : Int), (j : Int))] := by
  unfold cfJ
  rw [List.range_succ, List.filter_append, List.map_append, List.filter_cons_of_pos (by rw [hb]; simpa using h), List.filter_nil]
  rfl
theorem cfJ_no {ws : List Wsh} {rules : List Int} {a j : Nat} (hb : badB ws rules a j = false) : cfJ ws rules a (j + 1) = cfJ ws rules a j := by
  unfold cfJ
  rw [List.range_succ, List.filter_append, List.map_append, List.filter_cons_of_neg (by rw [hb]; simp), List.filter_nil, List.map_nil, List.append_nil]
theorem cfA_succ (ws : List Wsh) (rules : List Int) (n a : Nat) : cfA ws rules n (a + 1) = cfA ws rules n a ++ cfJ ws rules a n := by
  unfold cfA
  rw [List.range_succ, List.flatMap_append, List.flatMap_singleton]
theorem cfJ_len (ws : List Wsh) (rules : List Int) (a j : Nat) : (cfJ ws rules a j).length ≤ j := by
  unfold cfJ
  rw [List.length_map]
  have := List.length_filter_le (fun b : Nat => decide (a < b) && badB ws rules a b) (List.range j)
  rw [List.length_range] at this
  exact this
theorem cfA_len (ws : List Wsh) (rules : List Int) (n : Nat) : ∀ a, (cfA ws rules n a).length ≤ a * n
  | 0 => by simp [cfA]
  | a + 1 => by
    rw [cfA_succ, List.length_append, Nat.succ_mul]
    have h1 := cfA_len ws rules n a
    have h2 := cfJ_len ws rules a n
    omega
theorem cf_len {ws : List Wsh} {rules : List Int} {n a j : Nat} (hn : n ≤ 14) (ha : a ≤ n) (hj : j ≤ n) : (cfA ws rules n a ++ cfJ ws rules a j).length ≤ 210 := by
  rw [List.length_append]
  have h1 := cfA_len ws rules n a
  have h2 := cfJ_len ws rules a j
  have h3 : a * n ≤ 14 * 14 := Nat.mul_le_mul (by omega) hn
  omega
/-- What the loops of Conflicts carry. -/
def CoRel (w : World) (bX : Nat) (A : Option Addr) (n cap : Nat) (B : Option Addr) (m c2 : Nat) (L : List (Int × Int)) (OA : Option Addr) (oc : Nat) (wx : World) : Prop :=
  wx.ownsRow (bX + 1) 35 2 (.slice OA L.length oc) L.length (prs L) ∧ Blk wx bX 29 [.slice A n cap, .slice B m c2] ∧ Below w.heap.size w wx ∧ w.heap.size ≤ bX ∧ bX + 1 ≤ wx.heap.size
theorem CoRel.below {w wx w' : World} {bX : Nat} {A : Option Addr} {n cap : Nat} {B : Option Addr} {m c2 : Nat} {L : List (Int × Int)} {OA : Option Addr} {oc : Nat} (h : CoRel w bX A n cap B m c2 L OA oc wx) (hb : Below wx.heap.size wx w') : CoRel w bX A n cap B m c2 L OA oc w' :=
  ⟨own_below h.1 hb, h.2.1.keep hb, h.2.2.1.trans (hb.mono h.2.2.1.size), h.2.2.2.1, Nat.le_trans h.2.2.2.2 hb.size⟩
theorem CoRel.step {w wx w3 : World} {bX : Nat} {A : Option Addr} {n cap : Nat} {B : Option Addr} {m c2 : Nat} {L : List (Int × Int)} {OA : Option Addr} {oc : Nat} {a b : Int} {OA2 : Option Addr} {oc2 : Nat}
    (h : CoRel w bX A n cap B m c2 L OA oc wx) (hgrow : (wx.alloc (.cells #[.int .i64 a, .int .i64 b] 35)).grownBy w3 (Value.slice OA L.length oc).ownBlock)
    (hown : w3.ownsRow (bX + 1) 35 2 (.slice OA2 (L.length + 1) oc2) (L.length + 1) (prs L ++ [.int .i64 a, .int .i64 b])) : CoRel w bX A n cap B m c2 (L ++ [(a, b)]) OA2 oc2 w3 := by
  obtain ⟨h1, h3, h4, h5, h6⟩ := h
  have hsz := hgrow.size
  simp only [World.size_alloc] at hsz
  have hne : ∀ b, b < bX + 1 → some b ≠ (Value.slice OA L.length oc).ownBlock := fun b hb e => by have := (h1.lt _ e.symm).1; omega
  have hbg : Below w.heap.size wx w3 := ((Below.refl w.heap.size wx).alloc (by omega) _).trans ((Below.refl w.heap.size _).grown hgrow (by simp; omega) (fun r e => by have := (h1.lt _ e).1; omega))
  refine ⟨?_, (h3.alloc _).grown hgrow (hne _ (by omega)), h4.trans hbg, h5, by omega⟩
  rw [prs_app, List.length_append]
  exact hown
theorem fst_two (ws : List Wsh) (rules : List Int) (a b : Int) : fstP ws rules [a, b] = if apB rules (wat ws a) (wat ws b) = true then some (a, b) else none := by
  rw [fstP_cons, fstP_cons]
  unfold pairOf
  rw [List.find?_cons]
  cases apB rules (wat ws a) (wat ws b) <;> rfl

set_option maxRecDepth 100000 in
set_option maxHeartbeats 4000000 in
/-- Conflicts: each pair that may not stand in one group. -/
theorem wconf_any (A : Option Addr) (n cap : Nat) (B : Option Addr) (m c2 : Nat) (ws : List Wsh) (rules : List Int) (Bd : Nat) (w : World) (hp : Pb w Bd A n cap B m c2 ws rules) (hB : Bd ≤ w.heap.size) (ht : Tab w) (h0 : pbE ws rules = 0) :
    Calls Tryz.prog 19 #[.agg #[.slice A n cap, .slice B m c2]] w fun e w' => ∃ OA oc, e = .returned (.tuple #[.slice OA (cfA ws rules n n).length oc, .int .i64 0]) ∧ CoRel w w.heap.size A n cap B m c2 (cfA ws rules n n) OA oc w' := by
  have hb0 := bw_new (Below.refl _ w) (.cells #[.slice A n cap, .slice B m c2] 29)
  have hbx : Blk (w.alloc (.cells #[.slice A n cap, .slice B m c2] 29)) w.heap.size 29 [.slice A n cap, .slice B m c2] := Blk.new
  have H1 := Lib.hid (wcheck_any A n cap B m c2 ws rules Bd _ (hp.keep hB hb0) (by simp; omega))
  rw [h0] at H1
  have hn12 : n ≤ 12 := by rw [← hp.wl]; exact pbE_lenC h0
  have hr := pbE_right h0
  have HPB := Lib.hid hp
  have HWR := Lib.hid hr
  have HB := Lib.hid hbx
  have HB0 := Lib.hid hb0
  have HT := Lib.hid ht
  obtain ⟨i1, hi1, hy0, hy1, hy2⟩ := info_parts infoPair
  have HI1 := Lib.hid hi1
  have HY0 := Lib.hid hy0
  have HY1 := Lib.hid hy1
  have HY2 := Lib.hid hy2
  clear hi1 hy0 hy1 hy2 hp hb0 hbx h0 hr ht
  go_enter Tryz.func19, Tryz.ntmps19
  go_wp2_with fail
  refine H1.out.mono ?_
  rintro e w1 ⟨rfl, hk⟩
  have HREL := Lib.hid (show CoRel w w.heap.size A n cap B m c2 (cfA ws rules n 0) none 0 w1 from ⟨World.ownsRow_nil _ _ _ _, HB.out.keep hk, HB0.out.trans (hk.mono (by simp)), Nat.le_refl _, by have := hk.size; simp at this; omega⟩)
  obtain ⟨p0, p1⟩ := HREL.out.2.1.two
  clear hk
  go_wp2_with fail
  go_loopw [5, 16] (fun u v wx => ∃ (k : Nat) (OA : Option Addr) (oc : Nat), k ≤ n ∧ v = .int .i64 k ∧ u = .slice OA (cfA ws rules n k).length oc ∧ CoRel w w.heap.size A n cap B m c2 (cfA ws rules n k) OA oc wx) (fun _ v _ => n - (intOf v).toNat)
  case atStart => exact ⟨0, _, _, by omega, rfl, rfl, HREL.out⟩
  case round =>
    clear HREL
    obtain ⟨k, OA, oc, hk, rfl, rfl, hrel⟩ := hrel
    have HX := Lib.hid hrel
    clear hrel
    by_cases hlt : k < n
    · go_wp2_with fail
      go_loopw [5, 7] (fun u v wx => ∃ (j : Nat) (OA : Option Addr) (oc : Nat), k < j ∧ j ≤ n ∧ v = .int .i64 j ∧ u = .slice OA (cfA ws rules n k ++ cfJ ws rules k j).length oc ∧ CoRel w w.heap.size A n cap B m c2 (cfA ws rules n k ++ cfJ ws rules k j) OA oc wx) (fun _ v _ => n - (intOf v).toNat)
      case atStart => exact ⟨k + 1, OA, oc, by omega, by omega, by go_num, by rw [cfJ_zero, List.append_nil], by rw [cfJ_zero, List.append_nil]; exact HX.out⟩
      case round =>
        clear HX
        obtain ⟨j, OA, oc, hkj, hj, rfl, rfl, hrel⟩ := hrel
        have HX := Lib.hid hrel
        have hmx := own_mxC hrel.1
        have hcp := own_cap hrel.1
        have hlen := cf_len (ws := ws) (rules := rules) (a := k) (j := j) (show n ≤ 14 by omega) hk hj
        obtain ⟨p0, p1⟩ := hrel.2.1.two
        have HPW := Lib.hid (HPB.out.keep hB hrel.2.2.1)
        have hBd : Bd ≤ wr.heap.size := Nat.le_trans hB hrel.2.2.1.size
        have HTW := Lib.hid (HT.out.below hrel.2.2.1)
        obtain ⟨L, hL⟩ : ∃ L, L = cfA ws rules n k ++ cfJ ws rules k j := ⟨_, rfl⟩
        rw [← hL] at HX hlen hcp ⊢
        have HLE := Lib.hid hL
        clear hrel hL
        by_cases hjn : j < n
        · go_wp2_with fail
          refine (apart_any A n cap B m c2 ws rules Bd _ HPW.out hBd HWR.out (k : Int) (j : Int) (by omega) (by omega) HTW.out).mono ?_
          rintro e w2 ⟨rfl, hk2⟩
          have HX2 := Lib.hid (HX.out.below hk2)
          have HPW2 := Lib.hid (HPW.out.keep hBd hk2)
          have HTW2 := Lib.hid (HTW.out.below hk2)
          have hBd2 : Bd ≤ w2.heap.size := Nat.le_trans hBd hk2.size
          obtain ⟨q0, q1⟩ := HX2.out.2.1.two
          clear hk2 p0 p1
          cases hap : apB rules (wat ws (k : Int)) (wat ws (j : Int)) with
          | true =>
            have HBAD := Lib.hid (show badB ws rules (k : Int) (j : Int) = true by unfold badB; rw [hap]; rfl)
            clear hap
            go_wp2_with (at_builtin; refine wpList_append_own _ rfl _ _ 56 rfl (w.heap.size + 1) 35 i1 (.agg #[.int .i64 0, .int .i64 0]) 2 16 Tryz.underlying56 HI1.out HY0.out HY1.out HY2.out rfl (by decide) _ _ _ rfl (own_below HX2.out.1 (bw_new (Below.refl _ _) _)) ⟨w2.heap.size, 0, none⟩ 1 1 [.int .i64 k, .int .i64 j] rfl rfl (World.news_of_block (cs := #[.int .i64 (k : Int), .int .i64 (j : Int)]) (t := 35) (fr := (0, 0)) (heap_alloc_new w2 _)) (by simp [Value.oneCell']) (by unfold maxLen; omega) (by omega) (by simp; have := HX2.out.2.2.2.2; omega) ?_)
            intro v' w9 hown hgrow _
            obtain ⟨g, oc2, hv, hoc2⟩ := own_form hown (by omega)
            subst hv
            have HX9 := Lib.hid (HX2.out.step hgrow hown)
            have HL9 := Lib.hid (show L ++ [((k : Int), (j : Int))] = cfA ws rules n k ++ cfJ ws rules k (j + 1) by rw [cfJ_yes hkj HBAD.out, ← List.append_assoc, HLE.out])
            have HN9 := Lib.hid (show L.length + 1 = (cfA ws rules n k ++ cfJ ws rules k (j + 1)).length by rw [← HL9.out, List.length_append]; rfl)
            clear hown hgrow
            go_wp2
            go_roundw
            case rel => exact ⟨j + 1, _, _, by omega, by omega, by go_num, by rw [← HN9.out], HL9.out ▸ HX9.out⟩
            case measure => simp [intOf]; omega
          | false =>
            have HAP := Lib.hid hap
            clear hap
            go_wp2_with fail
            refine (cost_any A n cap B m c2 ws rules (some ⟨w2.heap.size, 0, none⟩) 2 2 [(k : Int), (j : Int)] (w2.heap.size + 1) _ ((HPW2.out.keep hBd2 (bw_new (Below.refl _ _) _)).more (by omega)) (by simp) HWR.out (by intro i hi; simp only [List.mem_cons, List.not_mem_nil, or_false] at hi; rcases hi with rfl | rfl <;> omega) rfl (ints_rdC [(k : Int), (j : Int)]) (Nat.le_refl _) (by decide) (HTW2.out.below (bw_new (Below.refl _ _) _))).mono ?_
            rintro e w3 ⟨rfl, hk3⟩
            have HX3 := Lib.hid ((HX2.out.below (bw_new (Below.refl _ _) _)).below hk3)
            clear hk3 q0 q1
            obtain ⟨q0, q1⟩ := HX3.out.2.1.two
            by_cases hc : 128 < costZ ws [(k : Int), (j : Int)]
            · have HBAD := Lib.hid (show badB ws rules (k : Int) (j : Int) = true by unfold badB; rw [HAP.out, decide_eq_true hc]; rfl)
              go_wp2_with (at_builtin; refine wpList_append_own _ rfl _ _ 56 rfl (w.heap.size + 1) 35 i1 (.agg #[.int .i64 0, .int .i64 0]) 2 16 Tryz.underlying56 HI1.out HY0.out HY1.out HY2.out rfl (by decide) _ _ _ rfl (own_below HX3.out.1 (bw_new (Below.refl _ _) _)) ⟨w3.heap.size, 0, none⟩ 1 1 [.int .i64 k, .int .i64 j] rfl rfl (World.news_of_block (cs := #[.int .i64 (k : Int), .int .i64 (j : Int)]) (t := 35) (fr := (0, 0)) (heap_alloc_new w3 _)) (by simp [Value.oneCell']) (by unfold maxLen; omega) (by omega) (by simp; have := HX3.out.2.2.2.2; omega) ?_)
              intro v' w9 hown hgrow _
              obtain ⟨g, oc2, hv, hoc2⟩ := own_form hown (by omega)
              subst hv
              have HX9 := Lib.hid (HX3.out.step hgrow hown)
              have HL9 := Lib.hid (show L ++ [((k : Int), (j : Int))] = cfA ws rules n k ++ cfJ ws rules k (j + 1) by rw [cfJ_yes hkj HBAD.out, ← List.append_assoc, HLE.out])
              have HN9 := Lib.hid (show L.length + 1 = (cfA ws rules n k ++ cfJ ws rules k (j + 1)).length by rw [← HL9.out, List.length_append]; rfl)
              clear hown hgrow
              go_wp2
              go_roundw
              case rel => exact ⟨j + 1, _, _, by omega, by omega, by go_num, by rw [← HN9.out], HL9.out ▸ HX9.out⟩
              case measure => simp [intOf]; omega
            · have HBAD := Lib.hid (show badB ws rules (k : Int) (j : Int) = false by unfold badB; rw [HAP.out, decide_eq_false hc]; rfl)
              have HL9 := Lib.hid (show L = cfA ws rules n k ++ cfJ ws rules k (j + 1) by rw [cfJ_no HBAD.out, HLE.out])
              go_wp2
              go_roundw
              case rel => exact ⟨j + 1, _, _, by omega, by omega, by go_num, by rw [← HL9.out], HL9.out ▸ HX3.out⟩
              case measure => simp [intOf]; omega
        · have hjn' : j = n := by omega
          subst hjn'
          have HL9 := Lib.hid (show L = cfA ws rules j (k + 1) by rw [cfA_succ, HLE.out])
          go_wp2
          go_roundw
          case rel => exact ⟨k + 1, OA, oc, by omega, by go_num, by rw [← HL9.out], HL9.out ▸ HX.out⟩
          case measure => simp [intOf]; omega
    · have hkn : k = n := by omega
      subst hkn
      go_wp2
      go_ret2
      exact ⟨OA, oc, rfl, HX.out⟩
end Go.Proofs.YtkamepalomkpbaaGreatDoor
