/- Package noteset: Of; the reference's Same. Conditions: the lists have at most maxLen cells. -/
import Derived.Test.YtfickhncbahekaaDoorNsetE
namespace Go.Proofs.YtfickhncbahekaaDoor
open Go.RowKit

/-- What Of answers. -/
def ofE (l : List Int) : Int := if l.all nB = true then 0 else 3
def ofV (l : List Int) : Nat × Nat := if l.all nB = true then setN l (0, 0) else (0, 0)
set_option maxRecDepth 100000 in
set_option maxHeartbeats 2000000 in
theorem nOf_any (A : Option Addr) (n cap : Nat) (l : List Int) (w : World) (hl : l.length = n) (hc : n ≤ cap) (hm : cap ≤ maxLen) (hr : Rd i64v w w.heap.size A l) :
    Calls Tryd.prog 48 #[.slice A n cap] w fun e w' => e = .returned (.tuple #[nv (ofV l), .int .i64 (ofE l)]) ∧ Below w.heap.size w w' := by
  have HN := Lib.hid (fun (x : Int) W => isNoteN_any x W)
  have hm0 := ((Hp.start w).new 39 (ncs (0, 0))).new 39 (ncs (0, 0))
  simp only [World.size_alloc, List.nil_append, List.cons_append] at hm0
  have HP := Lib.hid (show OfPack w A l (0, 0) _ from ⟨hm0, hr.below hm0.below⟩)
  have HL := Lib.hid hl
  unfold maxLen at hm
  clear hm0 hr hl
  go_enter Tryd.func48, Tryd.ntmps48
  go_wp2_with fail
  go_loopw [9] (fun v wx => ∃ k : Nat, k ≤ n ∧ v = .int .i64 (k : Int) ∧ (l.take k).all nB = true ∧ OfPack w A l (setN (l.take k) (0, 0)) wx) (fun v _ => n - (intOf v).toNat)
  case atStart => exact ⟨0, by omega, rfl, by simp, HP.out⟩
  case round =>
    obtain ⟨k, hk, rfl, hall, hp⟩ := hrel
    have HA := Lib.hid hall
    clear hall
    by_cases hlt : k < n
    · obtain ⟨b, off, rfl, hb, hcs⟩ := hp.2.at_ (by have := HL.out; omega)
      have hx0 := hcs k (by have := HL.out; omega)
      obtain ⟨x, hx⟩ : ∃ x, x = l.getD k 0 := ⟨_, rfl⟩
      have hx1 : wr.cell? ⟨b, off + k, none⟩ = some (.int .i64 x) := by rw [hx0, hx]; simp [show k < l.length by have := HL.out; omega]
      have htk : l.take (k + 1) = l.take k ++ [x] := by rw [take_snocD l k 0 (by have := HL.out; omega), ← hx]
      have hsn : setN (l.take (k + 1)) (0, 0) = addN (setN (l.take k) (0, 0)) x := by
        rw [htk, setN_snoc]
      have hok : NOk (setN (l.take k) (0, 0)) := setN_ok _ ⟨by decide, by decide⟩
      obtain ⟨s, hs⟩ : ∃ s, s = setN (l.take k) (0, 0) := ⟨_, rfl⟩
      rw [← hs] at hsn hp hok
      have HS := Lib.hid hsn
      have HQ := Lib.hid hp
      have HTK := Lib.hid htk
      have hmem : x ∈ l := by rw [hx]; simp [List.getD, show k < l.length by have := HL.out; omega]
      have HME := Lib.hid hmem
      clear hcs hx0 hx hsn hs hp htk hmem
      by_cases hx2 : nB x = true
      · have hx3 : 0 ≤ x ∧ x ≤ 127 := by unfold nB at hx2; exact of_decide_eq_true hx2
        obtain ⟨y, rfl⟩ := Int.eq_ofNat_of_zero_le hx3.1
        have hy : y < 128 := by have := hx3.2; omega
        have HW := Lib.hid (fun W => with_any s y W hok hy)
        obtain ⟨t, ht⟩ : ∃ t, t = withN s y := ⟨_, rfl⟩
        have hat : addN s (y : Int) = t := by rw [ht]; unfold addN; rw [if_pos hx2]; simp
        rw [← ht] at HW
        rw [hat] at HS
        have HX2 := Lib.hid hx2
        have z0 : wr.cell? ⟨w.heap.size + 1, 0, none⟩ = some (.int .u64 (s.1 : Int)) := (HQ.out.1.at_ 1 rfl).cell 0
        have z1 : wr.cell? ⟨w.heap.size + 1, 1, none⟩ = some (.int .u64 (s.2 : Int)) := (HQ.out.1.at_ 1 rfl).cell 1
        obtain ⟨s1, s2⟩ := s
        obtain ⟨t1, t2⟩ := t
        unfold nv at HW
        dsimp only at HW z0 z1
        clear ht hat hok hx2 hx3
        go_wp2_with fail
        refine (HN.out _ _).mono ?_
        rintro e w2 ⟨rfl, rfl⟩
        rw [HX2.out]
        go_wp2_with fail
        refine (HW.out _).mono ?_
        rintro e w2 ⟨rfl, hk2⟩
        have hp2 := HQ.out.step hk2
        have y0 : w2.cell? ⟨w.heap.size + 1, 0, none⟩ = some (.int .u64 (s1 : Int)) := (hp2.1.at_ 1 rfl).cell 0
        have y1 : w2.cell? ⟨w.heap.size + 1, 1, none⟩ = some (.int .u64 (s2 : Int)) := (hp2.1.at_ 1 rfl).cell 1
        have f0 := (hp2.1.at_ 1 rfl).frozen 0
        have f1 := (hp2.1.at_ 1 rfl).frozen 1
        have HP2 := Lib.hid (show OfPack w (some ⟨b, off, none⟩) l (t1, t2) ((w2.setCell ⟨w.heap.size + 1, 0, none⟩ (.int .u64 (t1 : Int))).setCell ⟨w.heap.size + 1, 1, none⟩ (.int .u64 (t2 : Int))) from
            ⟨hp2.1.put2 1 rfl (.int .u64 (t1 : Int)) (.int .u64 (t2 : Int)), hp2.2.below (bw_set (bw_set (Below.refl _ _) (by omega) _) (by omega) _)⟩)
        clear hp2 hk2 z0 z1
        go_wp2
        go_roundw
        case rel => exact ⟨k + 1, by omega, by go_num, by rw [HTK.out, List.all_append, HA.out]; simpa using HX2.out, by rw [HS.out]; exact HP2.out⟩
        case measure => simp [intOf]; omega
      · have hx3 : nB x = false := by simpa using hx2
        have HX2 := Lib.hid hx3
        have hno : ¬ l.all nB = true := fun e => hx2 (List.all_eq_true.1 e x HME.out)
        have HV := Lib.hid (show ofV l = (0, 0) from if_neg hno)
        have HE := Lib.hid (show ofE l = 3 from if_neg hno)
        have d0 : wr.cell? ⟨w.heap.size, 0, none⟩ = some (.int .u64 0) := (HQ.out.1.at_ 0 rfl).cell 0
        have d1 : wr.cell? ⟨w.heap.size, 1, none⟩ = some (.int .u64 0) := (HQ.out.1.at_ 0 rfl).cell 1
        have f0 := (HQ.out.1.at_ 0 rfl).frozen 0
        have f1 := (HQ.out.1.at_ 0 rfl).frozen 1
        clear hx2 hx3 hno hok
        go_wp2_with fail
        refine (HN.out _ _).mono ?_
        rintro e w2 ⟨rfl, rfl⟩
        rw [HX2.out]
        go_wp2
        refine bodyPost_ret (v := .tuple #[.agg #[.int .u64 0, .int .u64 0], .int .i64 3]) (by simp [results, Tryd.results48, go_sem, d0, d1]) rfl ⟨by rw [HV.out, HE.out]; rfl, ?_⟩
        exact (HQ.out.1.put2 0 rfl (.int .u64 0) (.int .u64 0)).below
    · obtain rfl : k = n := by omega
      have hll : l.take k = l := List.take_of_length_le (by have := HL.out; omega)
      rw [hll] at hp HA
      have HV := Lib.hid (show ofV l = setN l (0, 0) from if_pos HA.out)
      have HE := Lib.hid (show ofE l = 0 from if_pos HA.out)
      obtain ⟨s, hs⟩ : ∃ s, s = setN l (0, 0) := ⟨_, rfl⟩
      rw [← hs] at hp HV
      have HQ := Lib.hid hp
      have z0 : wr.cell? ⟨w.heap.size + 1, 0, none⟩ = some (.int .u64 (s.1 : Int)) := (hp.1.at_ 1 rfl).cell 0
      have z1 : wr.cell? ⟨w.heap.size + 1, 1, none⟩ = some (.int .u64 (s.2 : Int)) := (hp.1.at_ 1 rfl).cell 1
      have d0 : wr.cell? ⟨w.heap.size, 0, none⟩ = some (.int .u64 0) := (hp.1.at_ 0 rfl).cell 0
      have d1 : wr.cell? ⟨w.heap.size, 1, none⟩ = some (.int .u64 0) := (hp.1.at_ 0 rfl).cell 1
      have f0 := (hp.1.at_ 0 rfl).frozen 0
      have f1 := (hp.1.at_ 0 rfl).frozen 1
      obtain ⟨s1, s2⟩ := s
      dsimp only at z0 z1
      clear hp hs hll
      go_wp2
      refine bodyPost_ret (v := .tuple #[.agg #[.int .u64 (s1 : Int), .int .u64 (s2 : Int)], .int .i64 0]) (by simp [results, Tryd.results48, go_sem, d0, d1]) rfl ⟨by rw [HV.out, HE.out]; rfl, ?_⟩
      exact (HQ.out.1.put2 0 rfl (.int .u64 (s1 : Int)) (.int .u64 (s2 : Int))).below

/-- Lists are the same. -/
def sameB (l m : List Int) : Bool := decide (l = m)
theorem ne_at {l m : List Int} {k : Nat} (h : l.getD k 0 ≠ m.getD k 0) : l ≠ m := fun e => h (by rw [e])
set_option maxRecDepth 100000 in
set_option maxHeartbeats 2000000 in
theorem refSame_any (A B : Option Addr) (n c1 m c2 : Nat) (l r : List Int) (w : World) (hl : l.length = n) (hr : r.length = m) (hc1 : n ≤ c1) (hc2 : m ≤ c2) (hm1 : c1 ≤ maxLen) (hm2 : c2 ≤ maxLen) (hA : Rd i64v w w.heap.size A l) (hB : Rd i64v w w.heap.size B r) :
    Calls Tryd.prog 18 #[.slice A n c1, .slice B m c2] w fun e w' => e = .returned (.bool (sameB l r)) ∧ Below w.heap.size w w' := by
  unfold maxLen at hm1 hm2
  have HL := Lib.hid hl
  have HR := Lib.hid hr
  have HA := Lib.hid hA
  have HB := Lib.hid hB
  clear hl hr hA hB
  by_cases hnm : n = m
  · subst hnm
    go_enter Tryd.func18, Tryd.ntmps18
    go_wp2_with fail
    go_loopw [5] (fun v wx => ∃ k : Nat, k ≤ n ∧ v = .int .i64 (k : Int) ∧ l.take k = r.take k ∧ Below w.heap.size w wx) (fun v _ => n - (intOf v).toNat)
    case atStart => exact ⟨0, by omega, rfl, by simp, Below.refl _ _⟩
    case round =>
      obtain ⟨k, hk, rfl, ht, hb⟩ := hrel
      have HT := Lib.hid ht
      have HBB := Lib.hid hb
      clear ht
      by_cases hlt : k < n
      · obtain ⟨ba, offa, rfl, hba, hca⟩ := (HA.out.below hb).at_ (by have := HL.out; omega)
        obtain ⟨bb, offb, rfl, hbb, hcb⟩ := (HB.out.below hb).at_ (by have := HR.out; omega)
        have hx0 := hca k (by have := HL.out; omega)
        have hy0 := hcb k (by have := HR.out; omega)
        obtain ⟨x, hx⟩ : ∃ x, x = l.getD k 0 := ⟨_, rfl⟩
        obtain ⟨y, hy⟩ : ∃ y, y = r.getD k 0 := ⟨_, rfl⟩
        have hx1 : wr.cell? ⟨ba, offa + k, none⟩ = some (.int .i64 x) := by rw [hx0, hx]; simp [show k < l.length by have := HL.out; omega]
        have hy1 : wr.cell? ⟨bb, offb + k, none⟩ = some (.int .i64 y) := by rw [hy0, hy]; simp [show k < r.length by have := HR.out; omega]
        have HX := Lib.hid hx
        have HY := Lib.hid hy
        have hk0 : (0 : Int) ≤ (k : Int) := by omega
        have hkn : (k : Int) < (n : Int) := by omega
        clear hca hcb hx0 hy0 hx hy hb
        by_cases hxy : x = y
        · subst hxy
          have htest : (x != x) = false := by simp
          clear htest
          go_wp2_with fail
          go_region
          all_goals
            go_wp2
            go_roundw
            case rel => exact ⟨k + 1, by omega, by go_num, by rw [take_snocD l k 0 (by have := HL.out; omega), take_snocD r k 0 (by have := HR.out; omega), HT.out, ← HX.out, ← HY.out], HBB.out.drew⟩
            case measure => simp [intOf]; omega
        · have htest : (x != y) = true := by simpa using hxy
          have HE := Lib.hid (show sameB l r = false by unfold sameB; exact decide_eq_false (ne_at (k := k) (by rw [← HX.out, ← HY.out]; exact hxy)))
          clear hxy
          go_wp2_with fail
          go_region
          all_goals
            go_wp2
            go_ret
            exact ⟨by rw [HE.out]; rfl, HBB.out.drew⟩
      · obtain rfl : k = n := by omega
        have HE := Lib.hid (show sameB l r = true by
          unfold sameB
          have h1 : l.take k = l := List.take_of_length_le (by have := HL.out; omega)
          have h2 : r.take k = r := List.take_of_length_le (by have := HR.out; omega)
          exact decide_eq_true (by rw [← h1, ← h2]; exact HT.out))
        clear hb
        go_wp2
        go_ret
        exact ⟨by rw [HE.out]; rfl, HBB.out⟩
  · have HE := Lib.hid (show sameB l r = false by unfold sameB; exact decide_eq_false (fun e => hnm (by rw [← HL.out, ← HR.out, e])))
    have hne : ((n : Int) != (m : Int)) = true := by simp; omega
    clear hnm
    go_enter Tryd.func18, Tryd.ntmps18
    go_wp2
    go_ret
    exact ⟨by rw [HE.out]; rfl, Below.refl _ _⟩

end Go.Proofs.YtfickhncbahekaaDoor
