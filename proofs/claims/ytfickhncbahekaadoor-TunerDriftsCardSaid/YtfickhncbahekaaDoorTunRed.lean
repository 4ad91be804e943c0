/- The law's redundant. Conditions: the steps lie in a slice of at most a million. -/
import Derived.Test.YtfickhncbahekaaDoorTunChk
import Derived.Test.YtfickhncbahekaaDoorNsetD
namespace Go.Proofs.YtfickhncbahekaaDoor
open Go.RowKit

def rzN (f : Int) (L : List (Int × Int)) (k : Nat) : List Int := (redN f L k).map fun i : Nat => (i : Int)
theorem rzN_succ (f : Int) (L : List (Int × Int)) (k : Nat) : rzN f L (k + 1) = rzN f L k ++ if firstZ f L (L.getD k (0, 0)).2 k ≠ -2 then [(k : Int)] else [] := by
  unfold rzN
  rw [redN_succ, List.map_append]
  split <;> rfl
theorem rzN_len (f : Int) (L : List (Int × Int)) (k : Nat) : (rzN f L k).length ≤ k := by
  unfold rzN redN
  rw [List.length_map]
  exact Nat.le_trans (List.length_filter_le _ _) (by simp)
/-- What the region of the test keeps. -/
abbrev RdH (w : World) (f : Int) (b off m cap k : Nat) (q : Int) (GA : Option Addr) (gn gc : Nat) (G : List Int) (w' : World) : Prop := w'.cell? ⟨w.heap.size, 0, none⟩ = some (.int .i64 f) ∧ w'.cell? ⟨w.heap.size, 1, none⟩ = some (.slice (some ⟨b, off, none⟩) m cap) ∧ w'.cell? ⟨b, off + k * 2 + 1, none⟩ = some (.int .i64 q) ∧ Hp w [(w.heap.size, 25, [.int .i64 f, .slice (some ⟨b, off, none⟩) m cap])] w' ∧ w'.ownsRow (w.heap.size + 1) 3 1 (.slice GA gn gc) gn (G.map i64v) ∧ w.heap.size + 1 ≤ w'.heap.size
theorem RdH.below {w : World} {f : Int} {b off m cap k : Nat} {q : Int} {GA : Option Addr} {gn gc : Nat} {G : List Int} {w1 w2 : World} (h : RdH w f b off m cap k q GA gn gc G w1) (hbw : b < w.heap.size) (hb : Below w1.heap.size w1 w2) : RdH w f b off m cap k q GA gn gc G w2 := by
  obtain ⟨_, _, h3, h4, h5, h6⟩ := h
  have h4' := h4.step hb
  exact ⟨(h4'.at_ 0 rfl).cell 0, (h4'.at_ 0 rfl).cell 1, (hb.cell (p := ⟨b, off + k * 2 + 1, none⟩) (by show b < w1.heap.size; omega)).trans h3, h4', own_below h5 hb, Nat.le_trans h6 hb.size⟩

theorem RdH.arg {w : World} {f : Int} {b off m cap k : Nat} {q : Int} {GA : Option Addr} {gn gc : Nat} {G : List Int} {w1 : World} {L : List (Int × Int)} (ha : OArg w w.heap.size (some ⟨b, off, none⟩) m cap L) (h : RdH w f b off m cap k q GA gn gc G w1) : OArg w1 w1.heap.size (some ⟨b, off, none⟩) m cap L := ha.step h.2.2.2.1.below

set_option maxRecDepth 1000000 in
set_option maxHeartbeats 8000000 in
theorem lredundant_any (f : Int) (A : Option Addr) (m cap : Nat) (L : List (Int × Int)) (w : World) (ha : OArg w w.heap.size A m cap L) (hmb : m ≤ 1000000) :
    Calls Tryd.prog 28 #[.agg #[.int .i64 f, .slice A m cap]] w (RetInts w (rzN f L m)) := by
  have HF := Lib.hid (fun (p : Int) (k : Nat) W (hW : OArg W W.heap.size A m cap L) (hk : (k : Int) ≤ 9223372036854775807) => lfirst_any f p k A m cap L W hW hk)
  have hm0 := (Hp.start w).new 25 [.int .i64 f, .slice A m cap]
  simp only [List.nil_append] at hm0
  have HM := Lib.hid hm0
  have HA := Lib.hid ha
  obtain ⟨i0, hi, hz0, hz1, hz2⟩ := info_parts infoIntT
  have HI0 := Lib.hid hi
  have HZ0 := Lib.hid hz0
  have HZ1 := Lib.hid hz1
  have HZ2 := Lib.hid hz2
  clear hm0 ha hi hz0 hz1 hz2
  go_enter Tryd.func28, Tryd.ntmps28
  go_wp2_with fail
  go_loopw [3, 4] (fun u v wx => ∃ (k : Nat) (GA : Option Addr) (gc : Nat), k ≤ m ∧ v = .int .i64 (k : Int) ∧ u = .slice GA (rzN f L k).length gc ∧ wx.ownsRow (w.heap.size + 1) 3 1 (.slice GA (rzN f L k).length gc) (rzN f L k).length ((rzN f L k).map i64v) ∧ Hp w [(w.heap.size, 25, [.int .i64 f, .slice A m cap])] wx ∧ w.heap.size + 1 ≤ wx.heap.size) (fun _ v _ => m - (intOf v).toNat)
  case atStart => exact ⟨0, none, 0, by omega, rfl, rfl, World.ownsRow_nil _ _ _ _, HM.out, by simp⟩
  case round =>
    obtain ⟨k, GA, gc, hk, rfl, rfl, hown, hm, hsz⟩ := hrel
    obtain ⟨G, hG⟩ : ∃ G, G = rzN f L k := ⟨_, rfl⟩
    have hll : G.length ≤ 1000000 := by rw [hG]; have := rzN_len f L k; omega
    rw [← hG] at hown ⊢
    obtain ⟨gn, hgn⟩ : ∃ gn, gn = G.length := ⟨_, rfl⟩
    rw [← hgn] at hown hll ⊢
    have HG := Lib.hid (And.intro hG hgn)
    have HO := Lib.hid hown
    have HMR := Lib.hid hm
    have c1' : wr.cell? ⟨w.heap.size, 1, none⟩ = some (.slice A m cap) := (hm.at_ 0 rfl).cell 1
    clear hown hm hG hgn
    by_cases hkm : k < m
    · obtain ⟨b, off, rfl, hb, hs⟩ := HA.out.rd.at_ (by rw [HA.out.len]; omega)
      have hq := (hs k (by rw [HA.out.len]; omega)).keep (fun o => (HMR.out.below.cell (p := ⟨b, o, none⟩) hb))
      obtain ⟨q, hqq⟩ : ∃ y, y = (L.getD k (0, 0)).2 := ⟨_, rfl⟩
      have hT : RdH w f b off m cap k q GA gn gc G wr := ⟨(HMR.out.at_ 0 rfl).cell 0, (HMR.out.at_ 0 rfl).cell 1, by rw [hqq]; exact hq.2, HMR.out, HO.out, hsz⟩
      obtain ⟨z, hz⟩ : ∃ z, z = firstZ f L q k := ⟨_, rfl⟩
      have HFF := Lib.hid (fun W (hW : OArg W W.heap.size (some ⟨b, off, none⟩) m cap L) => HF.out q k W hW (by omega))
      rw [← hz] at HFF
      have HS := Lib.hid (rzN_succ f L k)
      rw [← hqq, ← hz] at HS
      have HB := Lib.hid hb
      have hk0 : (0 : Int) ≤ (k : Int) := by omega
      have hkn : (k : Int) < (m : Int) := by omega
      clear hs hq hqq hz
      go_wp2_with fail
      go_region_held3 (fun w' => w'.cell? ⟨w.heap.size, 0, none⟩ = some (.int .i64 f) ∧ w'.cell? ⟨w.heap.size, 1, none⟩ = some (.slice (some ⟨b, off, none⟩) m cap) ∧ w'.cell? ⟨b, off + k * 2 + 1, none⟩ = some (.int .i64 q) ∧ Hp w [(w.heap.size, 25, [.int .i64 f, .slice (some ⟨b, off, none⟩) m cap])] w' ∧ w'.ownsRow (w.heap.size + 1) 3 1 (.slice GA gn gc) gn (G.map i64v) ∧ w.heap.size + 1 ≤ w'.heap.size) (first | assumption | exact RdH.below hT HB.out (bw_drew (Below.refl _ _)) | exact RdH.below (by assumption) HB.out hbel)
        (first
         | (go_at_call 40; refine (HFF.out _ (RdH.arg HA.out (by assumption))).mono ?_; rintro e w' ⟨rfl, hbel⟩))
      have hf : RdH w f b off m cap k q GA gn gc G w' := by assumption
      have HR := Lib.hid hf
      have hsz2 : w.heap.size + 1 ≤ w'.heap.size := hf.2.2.2.2.2
      clear hf hT
      by_cases hz2 : z = -2
      · subst hz2
        go_wp2
        go_roundw
        case rel =>
          obtain ⟨rfl, rfl⟩ := HG.out
          have e : rzN f L (k + 1) = rzN f L k := by rw [HS.out]; simp
          refine ⟨k + 1, _, _, by omega, by go_num, by rw [e], ?_, HR.out.2.2.2.1, hsz2⟩
          rw [e]
          exact HR.out.2.2.2.2.1
        case measure => simp [intOf]; omega
      · have hzb : (z != -2) = true := by simpa using hz2
        have HZN := Lib.hid hz2
        clear hz2
        go_wp2_with (at_builtin; refine wpList_append_own _ rfl _ _ 46 rfl (w.heap.size + 1) 3 i0 (.int .i64 0) 1 8 Tryd.underlying46 HI0.out HZ0.out HZ1.out HZ2.out rfl (by decide) _ _ _ rfl (own_below HR.out.2.2.2.2.1 (bw_new (Below.refl _ _) _)) ⟨w'.heap.size, 0, none⟩ 1 1 [.int .i64 (k : Int)] rfl rfl (World.news_of_block (cs := #[.int .i64 (k : Int)]) (t := 3) (fr := (0, 0)) (heap_alloc_new w' _)) (by simp [Value.oneCell']) (by unfold maxLen; omega) (by omega) (by simp; omega) ?_)
        intro v' w4 hown hgrow _
        obtain ⟨g, rc2, hv, hrc2⟩ := own_form hown (by omega)
        subst hv
        have hm4 : Hp w [(w.heap.size, 25, [.int .i64 f, .slice (some ⟨b, off, none⟩) m cap])] w4 := (HR.out.2.2.2.1.alloc _).grown hgrow (fun q hq => by have := (HR.out.2.2.2.2.1.lt _ hq).1; refine ⟨by omega, fun p hp => ?_⟩; rw [List.mem_singleton] at hp; rw [hp]; show w.heap.size ≠ q; omega)
        have HM4 := Lib.hid hm4
        have hs4 := hgrow.size
        rw [World.size_alloc] at hs4
        have HO4 := Lib.hid hown
        clear hown hgrow hm4
        go_wp2
        go_roundw
        case rel =>
          obtain ⟨rfl, rfl⟩ := HG.out
          have e : rzN f L (k + 1) = rzN f L k ++ [(k : Int)] := by rw [HS.out, if_pos HZN.out]
          refine ⟨k + 1, _, _, by omega, by go_num, by rw [e, List.length_append]; rfl, ?_, HM4.out, by omega⟩
          rw [e, List.length_append, List.map_append]
          exact HO4.out
        case measure => simp [intOf]; omega
    · obtain rfl : k = m := by omega
      go_wp2
      go_ret
      obtain ⟨rfl, rfl⟩ := HG.out
      exact ⟨GA, gc, rfl, own_low HO.out (Nat.le_succ _), HMR.out.below⟩
end Go.Proofs.YtfickhncbahekaaDoor
