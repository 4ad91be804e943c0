/- Package noteset's reference: List, Of, Same; noteset.Of. Conditions: the words of a set are of 64 bits; a list that is compared has at most maxLen cells. -/
import Derived.Test.YtfickhncbahekaaDoorNsetC
import Derived.Test.YtfickhncbahekaaDoorTunReg
import Derived.Deep.AppendLies
import Derived.OwnWalk
namespace Go.Proofs.YtfickhncbahekaaDoor
open Go.RowKit

/-- The notes of a set below k. -/
def listK (s : Nat × Nat) (k : Nat) : List Int := ((List.range k).filter (hasN s)).map fun n : Nat => (n : Int)
theorem listK_succ (s : Nat × Nat) (k : Nat) : listK s (k + 1) = listK s k ++ if hasN s k = true then [(k : Int)] else [] := by
  unfold listK
  rw [List.range_succ, List.filter_append, List.map_append, List.filter_cons]
  cases hasN s k <;> simp
theorem listK_len (s : Nat × Nat) (k : Nat) : (listK s k).length ≤ k := by
  unfold listK
  rw [List.length_map]
  have := List.length_filter_le (hasN s) (List.range k)
  rwa [List.length_range] at this
/-- A new list of ints. -/
def RetInts (w : World) (l : List Int) (e : Ending) (w' : World) : Prop :=
  ∃ (A : Option Addr) (c : Nat), e = .returned (.slice A l.length c) ∧ w'.ownsRow w.heap.size 3 1 (.slice A l.length c) l.length (l.map i64v) ∧ Below w.heap.size w w'
set_option maxRecDepth 100000 in
set_option maxHeartbeats 2000000 in
theorem refList_any (s : Nat × Nat) (w : World) (hs : NOk s) :
    Calls Tryd.prog 23 #[nv s] w (RetInts w (listN s)) := by
  have HH := Lib.hid (fun (n : Int) W => refHas_any s n W hs)
  obtain ⟨hasB, hh⟩ : ∃ f : Int → Bool, f = hasZ s := ⟨_, rfl⟩
  rw [← hh] at HH
  have hm := (Hp.start w).new 39 (ncs s)
  simp only [List.nil_append] at hm
  have HM := Lib.hid hm
  have HHB := Lib.hid hh
  obtain ⟨s1, s2⟩ := s
  unfold nv at HH
  unfold nv
  dsimp only at HH ⊢
  obtain ⟨i0, hi, hz0, hz1, hz2⟩ := info_parts infoIntT
  have HI0 := Lib.hid hi
  have HZ0 := Lib.hid hz0
  have HZ1 := Lib.hid hz1
  have HZ2 := Lib.hid hz2
  clear hm hh hs hi hz0 hz1 hz2
  go_enter Tryd.func23, Tryd.ntmps23
  go_wp2_with fail
  go_loopw [3, 4] (fun u v wx => ∃ (k : Nat) (A : Option Addr) (c : Nat), k ≤ 128 ∧ v = .int .i64 (k : Int) ∧ u = .slice A (listK (s1, s2) k).length c ∧ wx.ownsRow (w.heap.size + 1) 3 1 (.slice A (listK (s1, s2) k).length c) (listK (s1, s2) k).length ((listK (s1, s2) k).map i64v) ∧ Hp w [(w.heap.size, 39, ncs (s1, s2))] wx ∧ w.heap.size + 1 ≤ wx.heap.size) (fun _ v _ => 128 - (intOf v).toNat)
  case atStart => exact ⟨0, none, 0, by omega, rfl, rfl, World.ownsRow_nil _ _ _ _, HM.out, by simp⟩
  case round =>
    obtain ⟨k, A, c, hk, rfl, rfl, hown, hm, hsz⟩ := hrel
    obtain ⟨l, hl⟩ : ∃ l, l = listK (s1, s2) k := ⟨_, rfl⟩
    have hll : l.length ≤ 128 := by rw [hl]; exact Nat.le_trans (listK_len _ _) hk
    rw [← hl] at hown ⊢
    obtain ⟨m, hmm⟩ : ∃ m, m = l.length := ⟨_, rfl⟩
    rw [← hmm] at hown hll ⊢
    have HO := Lib.hid hown
    have HMR := Lib.hid hm
    have z0 : wr.cell? ⟨w.heap.size, 0, none⟩ = some (.int .u64 (s1 : Int)) := (hm.at_ 0 rfl).cell 0
    have z1 : wr.cell? ⟨w.heap.size, 1, none⟩ = some (.int .u64 (s2 : Int)) := (hm.at_ 0 rfl).cell 1
    have HL := Lib.hid (And.intro hl hmm)
    clear hown hm hl hmm
    by_cases hlt : k < 128
    · go_wp2_with fail
      refine (HH.out _ _).mono ?_
      rintro e w2 ⟨rfl, hb2⟩
      have HO2 := Lib.hid (own_below HO.out hb2)
      have HM2 := Lib.hid (HMR.out.step hb2)
      have hsz2 : w.heap.size + 1 ≤ w2.heap.size := Nat.le_trans hsz hb2.size
      have hkz : hasB (k : Int) = hasN (s1, s2) k := by
        rw [HHB.out]; unfold hasZ nB; rw [decide_eq_true (by omega)]; simp
      have HS := Lib.hid (listK_succ (s1, s2) k)
      clear hb2 z0 z1
      cases hh : hasN (s1, s2) k with
      | true =>
        rw [hh] at hkz HS
        rw [hkz]
        clear hkz hh
        go_wp2_with (at_builtin; refine wpList_append_own _ rfl _ _ 46 rfl (w.heap.size + 1) 3 i0 (.int .i64 0) 1 8 Tryd.underlying46 HI0.out HZ0.out HZ1.out HZ2.out rfl (by decide) _ _ _ rfl (own_below HO2.out (bw_new (Below.refl _ _) _)) ⟨w2.heap.size, 0, none⟩ 1 1 [.int .i64 (k : Int)] rfl rfl (World.news_of_block (cs := #[.int .i64 (k : Int)]) (t := 3) (fr := (0, 0)) (heap_alloc_new w2 _)) (by simp [Value.oneCell']) (by unfold maxLen; omega) (by omega) (by simp; omega) ?_)
        intro v' w4 hown hgrow _
        obtain ⟨g, rc2, hv, hrc2⟩ := own_form hown (by omega)
        subst hv
        have hm4 : Hp w [(w.heap.size, 39, ncs (s1, s2))] w4 := (HM2.out.alloc _).grown hgrow (fun q hq => by have := (HO2.out.lt _ hq).1; refine ⟨by omega, fun p hp => ?_⟩; rw [List.mem_singleton] at hp; rw [hp]; show w.heap.size ≠ q; omega)
        have HM4 := Lib.hid hm4
        have hs4 := hgrow.size
        rw [World.size_alloc] at hs4
        have HO4 := Lib.hid hown
        clear hown hgrow hm4
        go_wp2
        go_roundw
        case rel =>
          obtain ⟨rfl, rfl⟩ := HL.out
          have e : listK (s1, s2) (k + 1) = listK (s1, s2) k ++ [(k : Int)] := by rw [HS.out]; rfl
          refine ⟨k + 1, _, _, by omega, by go_num, by rw [e, List.length_append]; rfl, ?_, HM4.out, by omega⟩
          rw [e, List.length_append, List.map_append]
          exact HO4.out
        case measure => simp [intOf]; omega
      | false =>
        rw [hh] at hkz HS
        rw [hkz]
        clear hkz hh
        go_wp2
        go_roundw
        case rel =>
          obtain ⟨rfl, rfl⟩ := HL.out
          have e : listK (s1, s2) (k + 1) = listK (s1, s2) k := by rw [HS.out]; simp
          refine ⟨k + 1, _, _, by omega, by go_num, by rw [e], ?_, HM2.out, by omega⟩
          rw [e]
          exact HO2.out
        case measure => simp [intOf]; omega
    · obtain rfl : k = 128 := by omega
      go_wp2
      go_ret
      obtain ⟨rfl, rfl⟩ := HL.out
      exact ⟨A, c, rfl, own_low HO.out (Nat.le_succ _), HMR.out.below⟩

end Go.Proofs.YtfickhncbahekaaDoor
