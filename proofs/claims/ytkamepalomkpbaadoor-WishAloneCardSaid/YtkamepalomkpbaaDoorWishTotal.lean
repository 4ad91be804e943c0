/- Package wish: Total. Conditions: the groups' numbers are ints; the library's table of powers of ten reads as its text lays it. -/
import Derived.Test.YtkamepalomkpbaaDoorWishPlan
namespace Go.Proofs.YtkamepalomkpbaaDoor
open Go.RowKit

theorem plA_facts {n : Nat} : ∀ {gs : List (List Int)} {used : List Int} {p : Option Int}, (plA n used p gs).1 = 0 → used.Nodup → (∀ x ∈ used, 0 ≤ x ∧ x < (n : Int)) →
    (plA n used p gs).2.Nodup ∧ (∀ x ∈ (plA n used p gs).2, 0 ≤ x ∧ x < (n : Int)) ∧ gs.length + used.length ≤ (plA n used p gs).2.length
  | [], used, p, _, h1, h2 => ⟨h1, h2, by rw [plA_nil]; simp⟩
  | g :: r, used, p, h, h1, h2 => by
    rw [plA_cons] at h ⊢
    split at h
    · rename_i hx; exact absurd h hx
    · rename_i hz
      rw [if_neg hz]
      split at h
      · exact absurd h (show (9 : Int) ≠ 0 by decide)
      · rename_i hu
        rw [if_neg hu]
        split at h
        · exact absurd h (show (6 : Int) ≠ 0 by decide)
        · rename_i hl
          rw [if_neg hl]
          have hz' : gpE n g = 0 := by omega
          obtain ⟨hg0, hgr⟩ := gpE_zero hz'
          have hfr : ∀ x ∈ g, x ∉ used := by
            intro x hx hxu
            apply hu
            rw [List.any_eq_true]
            exact ⟨x, hx, decide_eq_true hxu⟩
          obtain ⟨k1, k2, k3⟩ := plA_facts h (nodup_add h1 (gpE_pw hz') hfr) (fun x hx => by
            rcases List.mem_append.1 hx with hh | hh
            · exact h2 x hh
            · exact hgr x hh)
          refine ⟨k1, k2, ?_⟩
          have := List.length_pos_iff.2 hg0
          rw [List.length_append] at k3
          rw [List.length_cons]
          omega
theorem plE_zero {ws : List Wsh} {rules : List Int} {gs : List (List Int)} (h : plE ws rules gs = 0) : pbE ws rules = 0 ∧ (plA ws.length [] none gs).1 = 0 ∧ gs.length ≤ ws.length ∧ ∀ g ∈ gs, ∀ i ∈ g, 0 ≤ i ∧ i < (ws.length : Int) := by
  unfold plE at h
  split at h
  · omega
  · rename_i h0
    split at h
    · omega
    · rename_i h1
      have h1' : (plA ws.length [] none gs).1 = 0 := by omega
      obtain ⟨k1, k2, k3⟩ := plA_facts h1' List.nodup_nil (fun x hx => by cases hx)
      have := nodup_len _ _ k1 k2
      exact ⟨by omega, h1', by simp at k3; omega, fun g hg => (gpE_zero (plA_ok h1' g hg)).2⟩
/-- The total of a plan. -/
def totZ (ws : List Wsh) (gs : List (List Int)) : Int := (gs.map (costZ ws)).sum
theorem totZ_snoc (ws : List Wsh) (gs : List (List Int)) (g : List Int) : totZ ws (gs ++ [g]) = totZ ws gs + costZ ws g := by simp [totZ]
theorem totZ_bd {ws : List Wsh} (hr : ∀ x ∈ ws, WR x) : ∀ {gs : List (List Int)}, (∀ g ∈ gs, ∀ i ∈ g, 0 ≤ i ∧ i < (ws.length : Int)) → -2000 * (gs.length : Int) ≤ totZ ws gs ∧ totZ ws gs ≤ 2000 * (gs.length : Int)
  | [], _ => by simp [totZ]
  | g :: r, h => by
    have h1 := cost_bd hr (h g List.mem_cons_self)
    have h2 := totZ_bd hr (fun x hx => h x (List.mem_cons_of_mem _ hx)) (gs := r)
    have e : totZ ws (g :: r) = costZ ws g + totZ ws r := by simp [totZ]
    rw [e, List.length_cons]
    omega

/-- What Total carries. -/
def TtMem (w : World) (Bd : Nat) (A : Option Addr) (n cap : Nat) (B : Option Addr) (m c2 : Nat) (ws : List Wsh) (rules : List Int) (LA : Option Addr) (gs : List (List Int)) (W : World) : Prop :=
  Blk W w.heap.size 29 [.slice A n cap, .slice B m c2] ∧ Pb W Bd A n cap B m c2 ws rules ∧ GRd W Bd LA gs ∧ Tab W ∧ Below w.heap.size w W
theorem TtMem.below {w W W' : World} {Bd : Nat} {A : Option Addr} {n cap : Nat} {B : Option Addr} {m c2 : Nat} {ws : List Wsh} {rules : List Int} {LA : Option Addr} {gs : List (List Int)}
    (h : TtMem w Bd A n cap B m c2 ws rules LA gs W) (hB : Bd ≤ w.heap.size) (hb : Below W.heap.size W W') : TtMem w Bd A n cap B m c2 ws rules LA gs W' := by
  obtain ⟨h1, h3, h4, h5, h6⟩ := h
  exact ⟨h1.keep hb, h3.keep (Nat.le_trans hB h6.size) hb, h4.below (hb.mono (Nat.le_trans hB h6.size)), h5.below hb, h6.trans (hb.mono h6.size)⟩

set_option maxRecDepth 100000 in
set_option maxHeartbeats 8000000 in
/-- Total: the total of a right plan, or the first error. -/
theorem total_any (A : Option Addr) (n cap : Nat) (B : Option Addr) (m c2 : Nat) (ws : List Wsh) (rules : List Int) (LA : Option Addr) (ln lc : Nat) (gs : List (List Int)) (Bd : Nat) (w : World) (hp : Pb w Bd A n cap B m c2 ws rules) (hB : Bd ≤ w.heap.size)
    (hgl : gs.length = ln) (hgr : GRd w Bd LA gs) (hgc : ln ≤ lc) (hgm : lc ≤ maxLen) (ht : Tab w) :
    Calls Tryd.prog 13 #[.agg #[.slice A n cap, .slice B m c2], .slice LA ln lc] w fun e w' => e = .returned (.tuple #[.int .i64 (if plE ws rules gs = 0 then totZ ws gs else 0), .int .i64 (plE ws rules gs)]) ∧ Below w.heap.size w w' := by
  have hb0 := bw_new (Below.refl _ w) (.cells #[.slice A n cap, .slice B m c2] 29)
  have hm0 : TtMem w Bd A n cap B m c2 ws rules LA gs (w.alloc (.cells #[.slice A n cap, .slice B m c2] 29)) := ⟨Blk.new, hp.keep hB hb0, hgr.below (hb0.mono hB), ht.below hb0, hb0⟩
  have HM0 := Lib.hid hm0
  have H1 := Lib.hid (plan_any A n cap B m c2 ws rules LA ln lc gs Bd _ hm0.2.1 (by simp; omega) hgl hm0.2.2.1 hgc hgm hm0.2.2.2.1)
  have HZ := Lib.hid (@plE_zero ws rules gs)
  have HWL := Lib.hid hp.wl
  have HGL := Lib.hid hgl
  unfold maxLen at hgm
  obtain ⟨z, hz⟩ : ∃ z, z = plE ws rules gs := ⟨_, rfl⟩
  rw [← hz] at H1 HZ ⊢
  clear hz hp hgr hb0 hm0 ht
  by_cases hz0 : z = 0
  · have hz1 : (z == 0) = true := by simpa using hz0
    have hz2 : (z != 0) = false := by simpa using hz0
    subst hz0
    obtain ⟨hpz, _, hlen, hin⟩ := HZ.out rfl
    rw [if_pos rfl]
    have hn12 := pbE_len hpz
    have hln : ln ≤ 12 := by rw [← hgl]; omega
    have HWR := Lib.hid (pbE_right hpz)
    have HIN := Lib.hid hin
    clear hpz hlen hin hgl
    go_enter Tryd.func13, Tryd.ntmps13
    go_wp2_with fail
    refine H1.out.mono ?_
    rintro e w1 ⟨rfl, hk⟩
    have HM1 := Lib.hid (HM0.out.below hB hk)
    clear hk
    go_wp2_with fail
    go_loopw [7, 18] (fun c v wx => ∃ k : Nat, k ≤ ln ∧ v = .int .i64 k ∧ c = .int .i64 (totZ ws (gs.take k)) ∧ TtMem w Bd A n cap B m c2 ws rules LA gs wx) (fun _ v _ => ln - (intOf v).toNat)
    case atStart => exact ⟨0, by omega, rfl, rfl, HM1.out⟩
    case round =>
      obtain ⟨k, hk, rfl, rfl, hrel⟩ := hrel
      have HX := Lib.hid hrel
      have hsx : w.heap.size < wr.heap.size := hrel.1.lt
      have hbd := totZ_bd HWR.out (gs := gs.take k) (fun g hg => HIN.out g (List.mem_of_mem_take hg))
      have hkl : (gs.take k).length ≤ 12 := by rw [List.length_take]; omega
      obtain ⟨t, ht⟩ : ∃ t, t = totZ ws (gs.take k) := ⟨_, rfl⟩
      rw [← ht] at hbd ⊢
      have hb0 : -24000 ≤ t := by omega
      have hb1 : t ≤ 24000 := by omega
      have HTT := Lib.hid ht
      clear hrel ht hbd hkl
      by_cases hltj : k < ln
      · have hltg : k < gs.length := by rw [HGL.out]; exact hltj
        obtain ⟨b, off, rfl, hbb, hcell⟩ := HX.out.2.2.1.at_ (by omega)
        obtain ⟨GA, gc, hck, hrd, hgc1, hgm1⟩ := hcell k hltg
        obtain ⟨g, hg⟩ : ∃ g, g = gs[k] := ⟨_, rfl⟩
        rw [← hg] at hck hrd hgc1
        have hgr := HIN.out g (by rw [hg]; exact List.getElem_mem hltg)
        have hcb := cost_bd HWR.out hgr
        rw [HWL.out] at hgr
        have HC := Lib.hid (cost_any A n cap B m c2 ws rules GA g.length gc g Bd wr HX.out.2.1 (by omega) HWR.out hgr rfl hrd hgc1 hgm1 HX.out.2.2.2.1)
        have hbw : b < wr.heap.size := by omega
        obtain ⟨p0, p1⟩ := HX.out.1.two
        have HS := Lib.hid (show t + costZ ws g = totZ ws (gs.take (k + 1)) by rw [take_snoc gs k hltg, totZ_snoc, HTT.out, hg])
        obtain ⟨c, hc⟩ : ∃ c, c = costZ ws g := ⟨_, rfl⟩
        rw [← hc] at HC HS hcb
        obtain ⟨hc0, hc1⟩ := hcb
        clear hg hcell hrd hgr hc
        go_wp2_with fail
        refine HC.out.mono ?_
        rintro e w2 ⟨rfl, hk2⟩
        have HX2 := Lib.hid (HX.out.below hB hk2)
        clear hk2 p0 p1 hck
        go_wp2
        go_roundw
        case rel => exact ⟨k + 1, by omega, by go_num, by rw [← HS.out], HX2.out⟩
        case measure => simp [intOf]; omega
      · have HS := Lib.hid (show t = totZ ws gs by rw [HTT.out, List.take_of_length_le (by rw [HGL.out]; omega)])
        go_wp2
        go_ret2
        exact ⟨by rw [← HS.out]; rfl, HX.out.2.2.2.2⟩
  · have hz1 : (z == 0) = false := by simpa using hz0
    have hz2 : (z != 0) = true := by simpa using hz0
    rw [if_neg hz0]
    clear hz0
    go_enter Tryd.func13, Tryd.ntmps13
    go_wp2_with fail
    refine H1.out.mono ?_
    rintro e w1 ⟨rfl, hk⟩
    have HM1 := Lib.hid (HM0.out.below hB hk)
    clear hk
    go_wp2
    go_ret2
    exact ⟨rfl, HM1.out.2.2.2.2⟩
end Go.Proofs.YtkamepalomkpbaaDoor
