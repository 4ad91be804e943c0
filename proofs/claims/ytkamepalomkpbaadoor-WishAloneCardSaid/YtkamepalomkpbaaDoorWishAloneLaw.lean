/- The statement WishAlone: the walk. For any plan the call returns true. Conditions: the library's table of powers of ten reads as its text lays it. -/
import Derived.Test.YtkamepalomkpbaaDoorWishAlone
namespace Go.Proofs.YtkamepalomkpbaaDoor
open Go.RowKit

theorem cost_one {ws : List Wsh} {i : Nat} (h : i < ws.length) : costZ ws [(i : Int)] = ws[i].hi - ws[i].lo + 1 := by
  unfold costZ his los
  simp only [List.map_cons, List.map_nil, mxL_one, mnL_one, wat_eq h]
  unfold hiH loH
  omega
theorem sing_plA (n : Nat) : ∀ (m i : Nat) (used : List Int) (p : Option Int), i + m = n → (∀ x ∈ used, x < (i : Int)) → (∀ q, p = some q → q < (i : Int)) → used.length = i →
    ∃ u, plA n used p ((List.range' i m).map fun j : Nat => [(j : Int)]) = (0, u) ∧ u.length = n
  | 0, i, used, p, h, _, _, hl => ⟨used, rfl, by omega⟩
  | m + 1, i, used, p, h, h1, h2, hl => by
    have hg : gpE n [(i : Int)] = 0 := gp_of (by simp) (fun x hx => by rw [List.mem_singleton] at hx; omega) (by simp)
    have ha : ([(i : Int)] : List Int).any (fun x => decide (x ∈ used)) = false := by
      rw [List.any_eq_false]
      intro x hx
      rw [List.mem_singleton] at hx
      subst hx
      simp only [decide_eq_true_eq]
      intro hm
      have := h1 _ hm
      omega
    have hp : lastLe p (i : Int) = false := by
      cases p with
      | none => rfl
      | some q => have := h2 q rfl; exact decide_eq_false (by omega)
    obtain ⟨u, hu, hul⟩ := sing_plA n m (i + 1) (used ++ [(i : Int)]) (some (i : Int)) (by omega) (fun x hx => by
      rcases List.mem_append.1 hx with hh | hh
      · have := h1 x hh; omega
      · rw [List.mem_singleton] at hh; omega) (fun q hq => by injection hq with hq; omega) (by rw [List.length_append, List.length_singleton]; omega)
    refine ⟨u, ?_, hul⟩
    rw [List.range'_succ, List.map_cons, plA_cons, hg, ha, if_neg (fun k => k rfl), if_neg (by decide)]
    show (if lastLe p (i : Int) = true then _ else _) = _
    rw [hp]
    exact hu
theorem sing_plan {ws : List Wsh} {rules : List Int} (h : pbE ws rules = 0) (hk : ∀ x ∈ ws, x.hi - x.lo + 1 ≤ 128) : plE ws rules (sing ws.length) = 0 := by
  obtain ⟨u, hu, hul⟩ := sing_plA ws.length ws.length 0 [] none (by omega) (fun x hx => by cases hx) (fun q hq => by cases hq) rfl
  have e : sing ws.length = (List.range' 0 ws.length).map fun j : Nat => [(j : Int)] := by unfold sing; rw [List.range_eq_range']
  have hb : (sing ws.length).any (badG ws rules) = false := by
    rw [List.any_eq_false]
    intro g hg
    unfold sing at hg
    obtain ⟨i, hi, rfl⟩ := List.mem_map.1 hg
    have hi' := List.mem_range.1 hi
    unfold badG
    rw [cost_one hi']
    have := hk _ (List.getElem_mem hi')
    rw [decide_eq_false (by omega)]
    simp [fstP, pairOf]
  unfold plE
  rw [if_neg (by omega), e, hu]
  rw [if_neg (fun k => k rfl), if_neg (by show ¬ u.length < _; omega), ← e, hb]
  rfl
/-- The sum of the numbers of keys. -/
def keysZ (ws : List Wsh) : Int := (ws.map fun x => x.hi - x.lo + 1).sum
theorem keysZ_snoc (ws : List Wsh) (x : Wsh) : keysZ (ws ++ [x]) = keysZ ws + (x.hi - x.lo + 1) := by simp [keysZ]
theorem tot_sing (ws : List Wsh) : totZ ws (sing ws.length) = keysZ ws := by
  unfold totZ keysZ sing
  congr 1
  apply List.ext_getElem
  · simp
  · intro i h1 h2
    rw [List.length_map] at h2
    rw [List.getElem_map, List.getElem_map, List.getElem_map, List.getElem_range]
    exact cost_one h2
theorem keysZ_bd : ∀ {ws : List Wsh}, (∀ x ∈ ws, 0 ≤ x.hi - x.lo + 1 ∧ x.hi - x.lo + 1 ≤ 128) → 0 ≤ keysZ ws ∧ keysZ ws ≤ 128 * (ws.length : Int)
  | [], _ => by simp [keysZ]
  | x :: r, h => by
    have h1 := h x List.mem_cons_self
    have h2 := keysZ_bd (fun y hy => h y (List.mem_cons_of_mem _ hy)) (ws := r)
    have e : keysZ (x :: r) = x.hi - x.lo + 1 + keysZ r := by simp [keysZ]
    rw [e, List.length_cons]
    omega

/-- slices.Equal of a row of one int and a new one. -/
theorem equal_one (GA : Option Addr) (gc Bd i : Nat) (W : World) (hr : Rd i64v W Bd GA [(i : Int)]) (hB : Bd ≤ W.heap.size) :
    Calls Tryd.prog 14 #[.slice GA 1 gc, .slice (some ⟨W.heap.size, 0, none⟩) 1 1] (W.alloc (.cells #[.int .i64 (i : Int)] 3)) fun e w' => e = .returned (.bool true) ∧ Below W.heap.size W w' := by
  obtain ⟨b, off, rfl, hb, hc⟩ := rd_at hr (by simp)
  have hc0 := hc 0 (by simp)
  have hb0 := bw_new (Below.refl _ W) (.cells #[.int .i64 (i : Int)] 3)
  have h := Tryd.slices_Equal_int b off 1 gc W.heap.size 0 1 1 [(i : Int)] [(i : Int)] (W.alloc (.cells #[.int .i64 (i : Int)] 3)) (by simp) (by simp) (by omega) (by omega)
    (fun j hj => by
      obtain rfl : j = 0 := by simpa using hj
      exact (hb0.cell (p := ⟨b, off + 0, none⟩) (by show b < _; omega)).trans hc0)
    (fun j hj => by
      obtain rfl : j = 0 := by simpa using hj
      exact (Blk.new (w := W) (cs := [.int .i64 (i : Int)])).cell 0)
  refine h.mono fun e w' ⟨he, q, hw⟩ => ⟨?_, by rw [hw]; exact bw_drewN hb0 q⟩
  rw [he]
  simp

/-- What the loop of WishAlone carries. -/
def WaRel (w : World) (bX Bd : Nat) (A : Option Addr) (n cap : Nat) (B : Option Addr) (m c2 : Nat) (ws : List Wsh) (rules : List Int) (OA : Option Addr) (W : World) : Prop :=
  Blk W bX 29 [.slice A n cap, .slice B m c2] ∧ Pb W Bd A n cap B m c2 ws rules ∧ GRd W Bd OA (sing n) ∧ Below w.heap.size w W ∧ Bd ≤ W.heap.size
theorem WaRel.below {w W W' : World} {bX Bd : Nat} {A : Option Addr} {n cap : Nat} {B : Option Addr} {m c2 : Nat} {ws : List Wsh} {rules : List Int} {OA : Option Addr}
    (h : WaRel w bX Bd A n cap B m c2 ws rules OA W) (hb : Below W.heap.size W W') : WaRel w bX Bd A n cap B m c2 ws rules OA W' := by
  obtain ⟨h1, h2, h3, h4, h5⟩ := h
  exact ⟨h1.keep hb, h2.keep h5 hb, h3.below (hb.mono h5), h4.trans (hb.mono h4.size), Nat.le_trans h5 hb.size⟩

set_option maxRecDepth 100000 in
set_option maxHeartbeats 8000000 in
theorem walone_any (XA : Option Addr) (xn xc bR : Nat) (L : List Wnt) (w : World) (hL : L.length = xn) (hxc : xn ≤ xc) (hxm : xc ≤ maxLen) (hr : NRd w w.heap.size XA L) (hbR : bR ≤ 255) (ht : Tab w) :
    Calls Tryd.prog 4 #[.agg #[.slice XA xn xc, .int .u8 bR]] w fun e w' => e = .returned (.bool true) ∧ Below w.heap.size w w' := by
  have hb0 := bw_new (Below.refl _ w) (.cells #[.slice XA xn xc, .int .u8 bR] 24)
  have hbx : Blk (w.alloc (.cells #[.slice XA xn xc, .int .u8 bR] 24)) w.heap.size 24 [.slice XA xn xc, .int .u8 bR] := Blk.new
  have HB0 := Lib.hid hb0
  have HBX := Lib.hid hbx
  have HT0 := Lib.hid (ht.below hb0)
  have HR0 := Lib.hid (hr.below hb0)
  have HL := Lib.hid hL
  have HT := Lib.hid ht
  clear hb0 hbx ht hr hL
  go_enter Tryd.func4, Tryd.ntmps4
  go_wp2_with fail
  refine (wknown_any _ HT0.out).mono ?_
  rintro e w1 ⟨rfl, hk1⟩
  have HB1 := Lib.hid (HB0.out.trans (hk1.mono HB0.out.size))
  have HR1 := Lib.hid ((HR0.out.below (hk1.mono HB0.out.size)).more (Nat.le_trans HB0.out.size hk1.size))
  obtain ⟨x0, x1⟩ := (HBX.out.keep hk1).two
  clear hk1
  go_wp2_with fail
  refine (make_any XA xn xc bR L _ HL.out hxc hxm HR1.out hbR).mono ?_
  rintro e w3 ⟨A, n, cap, RA, rn, rc, rfl, hn, hpb, hk3⟩
  have hn5 : n ≤ 5 := by omega
  have hlt : (L.take n).length = n := by rw [List.length_take, HL.out]; omega
  have hright := mk_right (L := L.take n) (by rw [hlt]; exact hn5) bR
  obtain ⟨ws, hws⟩ : ∃ ws, ws = mkWs 0 (L.take n) := ⟨_, rfl⟩
  obtain ⟨rules, hrules⟩ : ∃ r, r = ruP bR 5 := ⟨_, rfl⟩
  rw [← hws, ← hrules] at hpb hright
  have hwl := hpb.wl
  have hwr := pbE_right hright
  have HWR := Lib.hid hwr
  have hkeys : ∀ x ∈ ws, 0 ≤ x.hi - x.lo + 1 ∧ x.hi - x.lo + 1 ≤ 128 := fun x hx => by
    obtain ⟨_, k1, k2, k3, _⟩ := hwr x hx
    omega
  have hpl := sing_plan hright (fun x hx => (hkeys x hx).2)
  rw [hwl] at hpl
  have htot := tot_sing ws
  rw [hwl] at htot
  have HKEY := Lib.hid hkeys
  have HPL := Lib.hid hpl
  have HTOT := Lib.hid htot
  have HRIGHT := Lib.hid hright
  have HWL := Lib.hid hwl
  have hb3 := HB1.out.trans (hk3.mono HB1.out.size)
  have HB3 := Lib.hid hb3
  have HPB := Lib.hid hpb
  clear hk3 hb3 hpb x0 x1 hws hrules hwl hn hlt hright hwr hkeys hpl htot
  go_wp2_with fail
  have hb4 := bw_new (Below.refl _ w3) (.cells #[.slice A n cap, .slice RA rn rc] 29)
  have hbx4 : Blk (w3.alloc (.cells #[.slice A n cap, .slice RA rn rc] 29)) w3.heap.size 29 [.slice A n cap, .slice RA rn rc] := Blk.new
  refine (alone_any A n cap RA rn rc ws rules w3.heap.size _ (HPB.out.below hb4) (by simp) HRIGHT.out).mono ?_
  rintro e w5 ⟨OA, oc, rfl, hgrd, hoc1, hoc2, hk5⟩
  have HW5 : Hid (WaRel w w3.heap.size w5.heap.size A n cap RA rn rc ws rules OA w5) := Lib.hid
    ⟨hbx4.keep hk5, ((HPB.out.below hb4).keep (by simp) hk5).more (by have := hk5.size; simp at this; omega), hgrd, (bw_new HB3.out _).trans (hk5.mono (by have := HB3.out.size; simp; omega)), Nat.le_refl _⟩
  have HOC := Lib.hid (And.intro hoc1 hoc2)
  have HT5 := Lib.hid (HT.out.below HW5.out.2.2.2.1)
  obtain ⟨p0, p1⟩ := HW5.out.1.two
  clear hb4 hbx4 hgrd hoc1 hoc2 hk5
  go_wp2_with fail
  have T1 := Lib.hid (total_any A n cap RA rn rc ws rules OA n oc (sing n) w5.heap.size w5 HW5.out.2.1 (Nat.le_refl _) (sing_len n) HW5.out.2.2.1 HOC.out.1 HOC.out.2 HT5.out)
  rw [HPL.out, if_pos rfl, HTOT.out] at T1
  refine T1.out.mono ?_
  rintro e w6 ⟨rfl, hk6⟩
  have HW6 := Lib.hid (HW5.out.below hk6)
  clear hk6 p0 p1 T1
  obtain ⟨p0, p1⟩ := HW6.out.1.two
  obtain ⟨tot, htot⟩ : ∃ t, t = keysZ ws := ⟨_, rfl⟩
  rw [← htot]
  have HTT := Lib.hid htot
  clear htot
  go_wp2_with fail
  go_loopw [8, 29] (fun c v wx => ∃ k : Nat, k ≤ n ∧ v = .int .i64 k ∧ c = .int .i64 (keysZ (ws.take k)) ∧ WaRel w w3.heap.size w5.heap.size A n cap RA rn rc ws rules OA wx) (fun _ v _ => n - (intOf v).toNat)
  case atStart => exact ⟨0, by omega, rfl, rfl, HW6.out⟩
  case round =>
    obtain ⟨k, hk, rfl, rfl, hrel⟩ := hrel
    have HX := Lib.hid hrel
    have hsx := hrel.2.2.2.2
    have hkb := keysZ_bd (ws := ws.take k) (fun x hx => HKEY.out x (List.mem_of_mem_take hx))
    have hkl : (ws.take k).length ≤ 5 := by rw [List.length_take, HWL.out]; omega
    obtain ⟨t, ht⟩ : ∃ t, t = keysZ (ws.take k) := ⟨_, rfl⟩
    rw [← ht] at hkb ⊢
    have ht0 : 0 ≤ t := hkb.1
    have ht1 : t ≤ 640 := by omega
    have HTV := Lib.hid ht
    clear hrel ht hkb hkl p0 p1
    obtain ⟨p0, p1⟩ := HX.out.1.two
    by_cases hlt : k < n
    · have hltw : k < ws.length := by rw [HWL.out]; exact hlt
      obtain ⟨b, off, rfl, hbd, hcell⟩ := HX.out.2.1.wr.at_ (by omega)
      have hat := hcell k hltw
      have hkx := HKEY.out ws[k] (List.getElem_mem hltw)
      obtain ⟨_, hw1, hw2, hw3, _⟩ := HWR.out ws[k] (List.getElem_mem hltw)
      have HS := Lib.hid (show keysZ (ws.take (k + 1)) = t + (ws[k].hi - ws[k].lo + 1) by rw [take_snoc ws k hltw, keysZ_snoc, HTV.out])
      obtain ⟨x, hx⟩ : ∃ x, x = ws[k] := ⟨_, rfl⟩
      rw [← hx] at hat HS hw1 hw2 hw3
      clear hx hcell hkx
      obtain ⟨nm, dv, tn, fn, fd, lo, hi⟩ := x
      obtain ⟨a0, a1, a2, a3, a4, a5, a6⟩ := hat
      dsimp only at a0 a1 a2 a3 a4 a5 a6 HS hw1 hw2 hw3
      obtain ⟨lb, lo2, rfl, hlb, hlc⟩ := HX.out.2.2.1.at_ (by rw [sing_len]; omega)
      obtain ⟨GA, gc, hck, hrd, _, _⟩ := hlc k (by rw [sing_len]; exact hlt)
      rw [sing_get (by rw [sing_len]; exact hlt)] at hck hrd
      have hck' : wr.cell? ⟨lb, lo2 + k, none⟩ = some (.slice GA 1 gc) := hck
      have hbw : b < wr.heap.size := by omega
      have hlw : lb < wr.heap.size := by omega
      have HRD := Lib.hid hrd
      clear hlc hck hrd
      go_wp2_with fail
      have hba := bw_new (Below.refl wr.heap.size wr) (.cells #[.string nm, .int .i64 dv, .string tn, .int .i64 fn, .int .i64 fd, .int .i64 lo, .int .i64 hi] 48)
      have E := equal_one GA gc w5.heap.size k _ (HRD.out.below (hba.mono hsx)) (Nat.le_trans hsx hba.size)
      rw [World.size_alloc] at E
      refine E.mono ?_
      rintro e w7 ⟨rfl, hk7⟩
      have HX7 := Lib.hid (HX.out.below (hba.trans (hk7.mono (by simp))))
      clear hba E hk7 p0 p1 a0 a1 a2 a3 a4 a5 a6 hck'
      go_wp2
      go_roundw
      case rel =>
        refine ⟨k + 1, by omega, by go_num, ?_, HX7.out⟩
        rw [HS.out]
      case measure => simp [intOf]; omega
    · have hkn : k = n := by omega
      subst hkn
      have htt : t = tot := by rw [HTV.out, HTT.out, List.take_of_length_le (by rw [HWL.out]; exact Nat.le_refl _)]
      subst htt
      go_wp2
      go_ret
      exact ⟨rfl, HX.out.2.2.2.1⟩
end Go.Proofs.YtkamepalomkpbaaDoor
