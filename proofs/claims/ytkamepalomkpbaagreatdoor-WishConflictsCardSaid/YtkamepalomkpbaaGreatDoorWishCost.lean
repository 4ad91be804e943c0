/- Package wish: shift and cost of right problems. Conditions: the problem is right; the library's table of powers of ten reads as its text lays it. -/
import Derived.Test.YtkamepalomkpbaaGreatDoorWishCheck
import Derived.Test.YtkamepalomkpbaaGreatDoorPitch2
namespace Go.Proofs.YtkamepalomkpbaaGreatDoor
open Go.RowKit

theorem pr81 : PR (8 : Nat) (1 : Nat) := ⟨by decide, by decide, by decide, by decide⟩
set_option maxRecDepth 100000 in
set_option maxHeartbeats 1000000 in
theorem wshift_any (nm : ByteArray) (dv : Int) (tn : ByteArray) (fn fd lo hi : Int) (w : World) (ht : Tab w) (hp : PR fn fd) :
    Calls Tryz.prog 33 #[.agg #[.string nm, .int .i64 dv, .string tn, .int .i64 fn, .int .i64 fd, .int .i64 lo, .int .i64 hi]] w fun e w' =>
      e = .returned (.int .i64 (shF fn fd)) ∧ Below w.heap.size w w' := by
  obtain ⟨a, rfl⟩ := Int.eq_ofNat_of_zero_le (a := fn) (by have := hp.2.1; omega)
  obtain ⟨b, rfl⟩ := Int.eq_ofNat_of_zero_le (a := fd) (by have := hp.1.1; omega)
  have s1 : ∀ W, Tab W → Calls Tryz.prog 45 #[.agg #[.int .i64 (a : Int), .int .i64 (b : Int)], .agg #[.int .i64 8, .int .i64 1]] W fun e W' => e = .returned (.tuple #[.int .i64 (shF (a : Int) (b : Int)), .int .i64 0]) ∧ Below W.heap.size W W' := fun W hW =>
    (pshift_ok a b 8 1 W hW hp pr81).mono fun e W' ⟨s, hs, h1, h2, he, hb⟩ => ⟨by rw [he, shF_eq (s := s) (by simpa using hs) h1 h2], hb⟩
  obtain ⟨s, hs⟩ : ∃ s, s = shF (a : Int) (b : Int) := ⟨_, rfl⟩
  rw [← hs] at s1 ⊢
  have S1 := Lib.hid s1
  have HT := Lib.hid (ht.alloc (.cells #[.string nm, .int .i64 dv, .string tn, .int .i64 (a : Int), .int .i64 (b : Int), .int .i64 lo, .int .i64 hi] 51))
  clear s1 hs hp ht
  go_enter Tryz.func33, Tryz.ntmps33
  go_wp2_with fail
  refine (S1.out _ HT.out).mono ?_
  rintro e w1 ⟨rfl, hb⟩
  go_wp2
  go_ret
  exact ⟨rfl, (bw_new (Below.refl _ w) _).trans (hb.mono (by simp))⟩

/-- A right wish. -/
def WR (x : Wsh) : Prop := PR x.fn x.fd ∧ 0 ≤ x.lo ∧ x.lo ≤ x.hi ∧ x.hi ≤ 127 ∧ nameB x.nm = true ∧ nameB x.tn = true ∧ 0 ≤ x.dv ∧ x.dv < 8
theorem wE_right {x : Wsh} (h : wE x = 0) (hn : nameB x.nm = true) : WR x := by
  unfold wE at h
  split at h
  · omega
  · split at h
    · omega
    · split at h
      · omega
      · rename_i h1 h2 h3
        unfold cmE at h
        split at h
        · omega
        · split at h
          · omega
          · exact ⟨PR_of (by omega), by omega, by omega, by omega, hn, by simpa using h2, by omega, by omega⟩
theorem wsE_right {ws : List Wsh} {seen : List ByteArray} (h : wsE seen ws = 0) : ∀ x ∈ ws, WR x := by
  induction ws generalizing seen with
  | nil => intro x hx; cases hx
  | cons y r ih =>
    rw [wsE_cons] at h
    split at h
    · omega
    · split at h
      · omega
      · split at h
        · omega
        · rename_i h1 _ h3
          intro x hx
          rcases List.mem_cons.1 hx with rfl | hx
          · exact wE_right (by omega) (by simpa using h1)
          · exact ih h x hx
theorem pbE_right {ws : List Wsh} {rules : List Int} (h : pbE ws rules = 0) : ∀ x ∈ ws, WR x := by
  unfold pbE at h
  split at h
  · omega
  · split at h
    · omega
    · exact wsE_right (seen := []) (by omega)

theorem los_bd {ws : List Wsh} (hr : ∀ x ∈ ws, WR x) {g : List Int} (hg : ∀ i ∈ g, 0 ≤ i ∧ i < (ws.length : Int)) : ∀ y ∈ los ws g, -300 ≤ y ∧ y ≤ 727 := by
  intro y hy
  unfold los at hy
  obtain ⟨i, hi, rfl⟩ := List.mem_map.1 hy
  obtain ⟨k, rfl⟩ := Int.eq_ofNat_of_zero_le (hg i hi).1
  have hk : k < ws.length := by have := (hg _ hi).2; omega
  rw [wat_eq hk]
  have h1 := hr _ (List.getElem_mem hk)
  have h2 := shF_bd ws[k].fn ws[k].fd
  unfold loH shW
  obtain ⟨_, h3, h4, h5, _⟩ := h1
  omega
theorem his_bd {ws : List Wsh} (hr : ∀ x ∈ ws, WR x) {g : List Int} (hg : ∀ i ∈ g, 0 ≤ i ∧ i < (ws.length : Int)) : ∀ y ∈ his ws g, -300 ≤ y ∧ y ≤ 727 := by
  intro y hy
  unfold his at hy
  obtain ⟨i, hi, rfl⟩ := List.mem_map.1 hy
  obtain ⟨k, rfl⟩ := Int.eq_ofNat_of_zero_le (hg i hi).1
  have hk : k < ws.length := by have := (hg _ hi).2; omega
  rw [wat_eq hk]
  have h1 := hr _ (List.getElem_mem hk)
  have h2 := shF_bd ws[k].fn ws[k].fd
  unfold hiH shW
  obtain ⟨_, h3, h4, h5, _⟩ := h1
  omega
theorem cost_bd {ws : List Wsh} (hr : ∀ x ∈ ws, WR x) {g : List Int} (hg : ∀ i ∈ g, 0 ≤ i ∧ i < (ws.length : Int)) : -2000 ≤ costZ ws g ∧ costZ ws g ≤ 2000 := by
  have h1 := mnL_bd (a := -300) (b := 727) (by decide) (los_bd hr hg)
  have h2 := mxL_bd (a := -300) (b := 727) (by decide) (his_bd hr hg)
  unfold costZ
  omega
/-- One wish more. -/
theorem los_snoc (ws : List Wsh) (g : List Int) (i : Int) : los ws (g ++ [i]) = los ws g ++ [loH (wat ws i)] := by simp [los]
theorem his_snoc (ws : List Wsh) (g : List Int) (i : Int) : his ws (g ++ [i]) = his ws g ++ [hiH (wat ws i)] := by simp [his]

theorem los_ne {ws : List Wsh} {g : List Int} {k : Nat} (h : k < g.length) (h0 : k ≠ 0) : los ws (g.take k) ≠ [] := fun e => by
  have h1 := congrArg List.length e
  unfold los at h1
  rw [List.length_map, List.length_take, List.length_nil] at h1
  omega
theorem his_ne {ws : List Wsh} {g : List Int} {k : Nat} (h : k < g.length) (h0 : k ≠ 0) : his ws (g.take k) ≠ [] := fun e => by
  have h1 := congrArg List.length e
  unfold his at h1
  rw [List.length_map, List.length_take, List.length_nil] at h1
  omega

/-- What the loop over a group carries. -/
def CostRel (w : World) (Bd : Nat) (A : Option Addr) (n cap : Nat) (B : Option Addr) (m c2 : Nat) (ws : List Wsh) (rules : List Int) (G : Option Addr) (g : List Int) (wr : World) : Prop :=
  Blk wr w.heap.size 29 [.slice A n cap, .slice B m c2] ∧ Pb wr Bd A n cap B m c2 ws rules ∧ Rd i64v wr Bd G g ∧ Below w.heap.size w wr ∧ w.heap.size + 1 ≤ wr.heap.size ∧ Tab wr
theorem CostRel.below {w : World} {Bd : Nat} {A : Option Addr} {n cap : Nat} {B : Option Addr} {m c2 : Nat} {ws : List Wsh} {rules : List Int} {G : Option Addr} {g : List Int} {wr w' : World}
    (h : CostRel w Bd A n cap B m c2 ws rules G g wr) (hB : Bd ≤ w.heap.size) (hb : Below wr.heap.size wr w') : CostRel w Bd A n cap B m c2 ws rules G g w' := by
  obtain ⟨h1, h2, h3, h4, h5, h6⟩ := h
  exact ⟨h1.keep hb, h2.keep (by omega) hb, h3.below (hb.mono (by omega)), h4.trans (hb.mono h4.size), by have := hb.size; omega, h6.below hb⟩

set_option maxRecDepth 100000 in
set_option maxHeartbeats 4000000 in
/-- cost: the cost of a right group. -/
theorem cost_any (A : Option Addr) (n cap : Nat) (B : Option Addr) (m c2 : Nat) (ws : List Wsh) (rules : List Int) (G : Option Addr) (gn gc : Nat) (g : List Int) (Bd : Nat) (w : World) (hp : Pb w Bd A n cap B m c2 ws rules) (hB : Bd ≤ w.heap.size)
    (hr : ∀ x ∈ ws, WR x) (hg : ∀ i ∈ g, 0 ≤ i ∧ i < (n : Int)) (hgl : g.length = gn) (hgr : Rd i64v w Bd G g) (hgc : gn ≤ gc) (hgm : gc ≤ maxLen) (ht : Tab w) :
    Calls Tryz.prog 30 #[.agg #[.slice A n cap, .slice B m c2], .slice G gn gc] w fun e w' => e = .returned (.int .i64 (costZ ws g)) ∧ Below w.heap.size w w' := by
  have hl := hp.wl
  have hcm := hp.wm
  have hnc := hp.wc
  unfold maxLen at hcm hgm
  have hb0 := bw_new (Below.refl _ w) (.cells #[.slice A n cap, .slice B m c2] 29)
  have hrel : CostRel w Bd A n cap B m c2 ws rules G g (w.alloc (.cells #[.slice A n cap, .slice B m c2] 29)) :=
    ⟨Blk.new (cs := [.slice A n cap, .slice B m c2]), hp.keep hB hb0, hgr.below (hb0.mono hB), hb0, by simp, ht.alloc _⟩
  have HREL := Lib.hid hrel
  have HL := Lib.hid hl
  have HGL := Lib.hid hgl
  have HR := Lib.hid hr
  have HG := Lib.hid hg
  clear hp hl hgl hr hg hgr hb0 hrel ht
  go_enter Tryz.func30, Tryz.ntmps30
  go_wp2_with fail
  go_loopw [5, 6, 13] (fun a b v wr => ∃ k : Nat, k ≤ gn ∧ v = .int .i64 k ∧ a = .int .i64 (mnL (los ws (g.take k))) ∧ b = .int .i64 (mxL (his ws (g.take k))) ∧ CostRel w Bd A n cap B m c2 ws rules G g wr) (fun _ _ v _ => gn - (intOf v).toNat)
  case atStart => exact ⟨0, by omega, rfl, rfl, rfl, HREL.out⟩
  case round =>
    obtain ⟨k, hk, rfl, rfl, rfl, hrel⟩ := hrel
    have HRL := Lib.hid hrel
    have hs : w.heap.size + 1 ≤ wr.heap.size := hrel.2.2.2.2.1
    clear hrel
    have hbd : ∀ i ∈ g.take k, 0 ≤ i ∧ i < (ws.length : Int) := fun i hi => by rw [HL.out]; exact HG.out i (List.mem_of_mem_take hi)
    have hmn := mnL_bd (a := -300) (b := 727) (by decide) (los_bd HR.out hbd)
    have hmx := mxL_bd (a := -300) (b := 727) (by decide) (his_bd HR.out hbd)
    obtain ⟨u, hu⟩ : ∃ u, u = mnL (los ws (g.take k)) := ⟨_, rfl⟩
    obtain ⟨v, hv⟩ : ∃ v, v = mxL (his ws (g.take k)) := ⟨_, rfl⟩
    rw [← hu] at hmn ⊢
    rw [← hv] at hmx ⊢
    obtain ⟨hu0, hu1⟩ := hmn
    obtain ⟨hv0, hv1⟩ := hmx
    have HU := Lib.hid hu
    have HV := Lib.hid hv
    clear hu hv hbd
    obtain ⟨p0, p1⟩ := HRL.out.1.two
    by_cases hlt : k < gn
    · have hltg : k < g.length := by rw [HGL.out]; exact hlt
      obtain ⟨gb, go, rfl, hgb, hgcell⟩ := rd_at HRL.out.2.2.1 (by omega)
      have hck := hgcell k hltg
      have hin := HG.out g[k] (List.getElem_mem hltg)
      obtain ⟨i, hi⟩ : ∃ i : Nat, (i : Int) = g[k] := ⟨g[k].toNat, by omega⟩
      rw [← hi] at hck hin
      have HI := Lib.hid hi
      have hin' : i < n := by omega
      have hltw : i < ws.length := by rw [HL.out]; exact hin'
      obtain ⟨b, off, rfl, hbd, hcell⟩ := HRL.out.2.1.wr.at_ (by omega)
      have hat := hcell i hltw
      have hwr := HR.out ws[i] (List.getElem_mem hltw)
      obtain ⟨x, hx⟩ : ∃ x, x = ws[i] := ⟨_, rfl⟩
      rw [← hx] at hat hwr
      have HX := Lib.hid (show wat ws g[k] = x by rw [← hi, wat_eq hltw, hx])
      clear hx hcell hgcell hi
      obtain ⟨nm, dv, tn, fn, fd, lo, hi⟩ := x
      obtain ⟨a0, a1, a2, a3, a4, a5, a6⟩ := hat
      obtain ⟨hpr, hlo, hlh, hhi, _⟩ := hwr
      dsimp only at a0 a1 a2 a3 a4 a5 a6 hpr hlo hlh hhi
      have hShift := Lib.hid (fun W h => wshift_any nm dv tn fn fd lo hi W h hpr)
      obtain ⟨s, hs'⟩ : ∃ s, s = shF fn fd := ⟨_, rfl⟩
      have hsb := shF_bd fn fd
      rw [← hs'] at hsb hShift
      obtain ⟨hsb0, hsb1⟩ := hsb
      have HLO := Lib.hid (show loH (wat ws g[k]) = lo + s by rw [HX.out, hs']; rfl)
      have HHI := Lib.hid (show hiH (wat ws g[k]) = hi + s by rw [HX.out, hs']; rfl)
      have hbw : b < wr.heap.size := by omega
      have hgbw : gb < wr.heap.size := by omega
      clear hs' hpr hin
      go_wp2_with fail
      refine (hShift.out _ (HRL.out.2.2.2.2.2.alloc _)).mono ?_
      rintro e w2 ⟨rfl, hb2⟩
      have HX2 := Lib.hid ((Blk.new (w := wr) (t := 51) (cs := [.string nm, .int .i64 dv, .string tn, .int .i64 fn, .int .i64 fd, .int .i64 lo, .int .i64 hi])).keep hb2)
      have HR2 := Lib.hid ((HRL.out.below hB (bw_new (Below.refl _ _) (.cells #[.string nm, .int .i64 dv, .string tn, .int .i64 fn, .int .i64 fd, .int .i64 lo, .int .i64 hi] 51))).below hB hb2)
      obtain ⟨x0, x1, x2, x3, x4, x5, x6⟩ := HX2.out.wish
      clear hb2 a0 a1 a2 a3 a4 a5 a6 hck p0 p1 x0 x1 x2 x3 x4
      have hw1 : IntKind.i64.wrap (lo + s) = lo + s := IntWalk.i64_in _ (by omega)
      have hw2 : IntKind.i64.wrap (hi + s) = hi + s := IntWalk.i64_in _ (by omega)
      by_cases hk0 : k = 0
      · have hkb : ((k : Int) == 0) = true := by rw [beq_iff_eq]; omega
        have HMN := Lib.hid (show lo + s = mnL (los ws (g.take (k + 1))) by rw [take_snoc g k hltg, los_snoc, HLO.out, show g.take k = [] by rw [hk0]; rfl]; rfl)
        have HMX := Lib.hid (show hi + s = mxL (his ws (g.take (k + 1))) by rw [take_snoc g k hltg, his_snoc, HHI.out, show g.take k = [] by rw [hk0]; rfl]; rfl)
        clear hk0
        go_wp2_with fail
        go_quiet (fail)
        go_wp2_with fail
        go_quiet (fail)
        go_wp2
        go_roundw
        case rel => exact ⟨k + 1, by omega, by go_num, by rw [HMN.out], by rw [HMX.out], HR2.out.below hB (below_drewN _ _ _)⟩
        case measure => simp [intOf]; omega
      · have hkb : ((k : Int) == 0) = false := by rw [beq_eq_false_iff_ne]; omega
        have HMN := Lib.hid (show min u (lo + s) = mnL (los ws (g.take (k + 1))) by rw [take_snoc g k hltg, los_snoc, mnL_snoc _ _ (los_ne hltg hk0), ← HU.out, HLO.out])
        have HMX := Lib.hid (show max v (hi + s) = mxL (his ws (g.take (k + 1))) by rw [take_snoc g k hltg, his_snoc, mxL_snoc _ _ (his_ne hltg hk0), ← HV.out, HHI.out])
        clear hk0
        go_wp2_with fail
        go_quiet (fail)
        go_wp2
        go_roundw
        case rel => exact ⟨k + 1, by omega, by go_num, by rw [HMN.out], by rw [HMX.out], HR2.out.below hB (below_drewN _ _ _)⟩
        case measure => simp [intOf]; omega
    · have hkg : k = gn := by omega
      have HC := Lib.hid (show v - u + 1 = costZ ws g by rw [HU.out, HV.out, List.take_of_length_le (by rw [HGL.out]; omega)]; rfl)
      go_wp2
      go_ret
      exact ⟨ret_int HC.out, HRL.out.2.2.2.1⟩
end Go.Proofs.YtkamepalomkpbaaGreatDoor
