/- Package tuner, the law's part: steps. Conditions: the notes lie in a slice. -/
import Derived.Test.YtfickhncbahekaaDoorTunPlan
namespace Go.Proofs.YtfickhncbahekaaDoor
open Go.RowKit

/-- The steps from each of some notes to the next one. -/
def stpL : List Int → List (Int × Int)
  | a :: b :: r => (a, b) :: stpL (b :: r)
  | _ => []
theorem stpL_len : ∀ l : List Int, (stpL l).length = l.length - 1
  | [] => rfl
  | [_] => rfl
  | a :: b :: r => by simp [stpL, stpL_len (b :: r)]
theorem stpL_take : ∀ (l : List Int) (i : Nat), i + 1 < l.length → (stpL l).take (i + 1) = (stpL l).take i ++ [(l.getD i 0, l.getD (i + 1) 0)]
  | [], _, h => absurd h (by simp)
  | [_], _, h => absurd h (by simp)
  | a :: b :: r, 0, _ => by simp [stpL]
  | a :: b :: r, i + 1, h => by
    have := stpL_take (b :: r) i (by simpa using h)
    rw [stpL, List.take_succ_cons, this]
    simp [stpL]
/-- A list of pairs. -/
def RetPairs (w : World) (l : List (Int × Int)) (e : Ending) (w' : World) : Prop :=
  ∃ (A : Option Addr) (c : Nat), e = .returned (.slice A l.length c) ∧ w'.ownsRow w.heap.size 27 2 (.slice A l.length c) l.length (pcs l) ∧ Below w.heap.size w w'

set_option maxRecDepth 1000000 in
set_option maxHeartbeats 8000000 in
theorem steps_any (l : List Int) (A : Option Addr) (c : Nat) (w : World) (hrd : Rd i64v w w.heap.size A l) (hl : l.length ≤ 1000000) :
    Calls Tryd.prog 32 #[.slice A l.length c] w (RetPairs w (stpL l)) := by
  have HRD := Lib.hid hrd
  go_enter Tryd.func32, Tryd.ntmps32
  go_wp2_with fail
  go_loopw [3, 4] (fun u v wx => ∃ (i : Nat) (OA : Option Addr) (oc : Nat), (i = 0 ∨ i + 1 ≤ l.length) ∧ v = .int .i64 ((i : Int) + 1) ∧ u = .slice OA ((stpL l).take i).length oc ∧ wx.ownsRow w.heap.size 27 2 (.slice OA ((stpL l).take i).length oc) ((stpL l).take i).length (pcs ((stpL l).take i)) ∧ Below w.heap.size w wx) (fun _ v _ => l.length - (intOf v).toNat)
  case atStart => exact ⟨0, none, 0, .inl rfl, rfl, rfl, World.ownsRow_nil _ _ _ _, Below.refl _ _⟩
  case round =>
    obtain ⟨i, OA, oc, hi, rfl, rfl, hown, hb⟩ := hrel
    by_cases hil : i + 1 < l.length
    · obtain ⟨b, off, hA, hbb, hcs⟩ := (HRD.out.below hb).at_ (by omega)
      subst hA
      have hx0 := hcs i (by omega)
      have hx1 := hcs (i + 1) (by omega)
      obtain ⟨p, hp⟩ : ∃ p, p = l.getD i 0 := ⟨_, rfl⟩
      obtain ⟨q, hq⟩ : ∃ q, q = l.getD (i + 1) 0 := ⟨_, rfl⟩
      have hy0 : wr.drew.cell? ⟨b, off + i, none⟩ = some (.int .i64 p) := by rw [hp]; simp [hx0, show i < l.length by omega]
      have hy1 : wr.drew.cell? ⟨b, off + (i + 1), none⟩ = some (.int .i64 q) := by rw [hq]; simp [hx1, hil]
      have htk := stpL_take l i hil
      have htl : ((stpL l).take i).length = i := by rw [List.length_take, stpL_len]; omega
      rw [← hp, ← hq] at htk
      have HTK := Lib.hid htk
      rw [htl] at hown ⊢
      have HO := Lib.hid hown
      have HB := Lib.hid hb
      obtain ⟨i0, hi0, hz0, hz1, hz2⟩ := info_parts infoStepT
      have HI0 := Lib.hid hi0
      have HZ0 := Lib.hid hz0
      have HZ1 := Lib.hid hz1
      have HZ2 := Lib.hid hz2
      have hwa : IntKind.i64.wrap ((i : Int) + 1) = (i : Int) + 1 := IntWalk.i64_in _ (by omega)
      have hil0 : i < l.length := by omega
      have hnn : (0 : Int) ≤ (i : Int) + 1 := by omega
      have hwb : IntKind.i64.wrap (i : Int) = (i : Int) := IntWalk.i64_in _ (by omega)
      clear hcs hx0 hx1 hp hq htk hown hb hi0 hz0 hz1 hz2
      go_wp2_with fail
      go_region_law (refine step_append_lies _ rfl (.tmp 11) (.tmp 22) 23 rfl w.heap.size 27 i0 (.agg #[.int .i64 0, .int .i64 0]) 2 16 Tryd.underlying23 HI0.out HZ0.out HZ1.out HZ2.out rfl (by decide) (.slice OA i oc) i _ (by simp [Act.eval, Act.put]) (by first | exact (HO.out.drew).alloc _ | exact (HO.out.alloc _).drew) ⟨wr.heap.size, 0, none⟩ 1 1 [.int .i64 p, .int .i64 q] (by simp [Act.eval, Act.put]) rfl (World.news_of_block (cs := #[.int .i64 p, .int .i64 q]) (t := 27) (fr := (0, 0)) (heap_alloc_new wr _)) (by simp [Value.oneCell']) (by omega) (by unfold maxLen; omega) (by omega) (by have := HB.out.size; simp; omega) _ rfl ?_; intro g' cap' w3 hown' hgrow hat' hlt')
      all_goals
        have hb3 : Below w.heap.size w w3 := ((HB.out.alloc HB.out.size _).drew).grown hgrow (by have := HB.out.size; simp; omega) (fun g hg => (HO.out.lt g hg).1)
        rw [show pcs ((stpL l).take i) ++ [.int .i64 p, .int .i64 q] = pcs ((stpL l).take (i + 1)) from by rw [HTK.out, ← pcs_snoc]] at hown'
        have hlen2 : ((stpL l).take (i + 1)).length = i + 1 := by rw [HTK.out]; simp [htl]
        have HB3 := Lib.hid hb3
        have HO3 := Lib.hid hown'
        have HL2 := Lib.hid hlen2
        clear hown' hgrow hat' hlt' hb3 hlen2
        go_wp2
        go_roundw
        case rel => exact ⟨i + 1, _, cap', .inr (by omega), by simp, by rw [HL2.out], by rw [HL2.out]; exact HO3.out, HB3.out⟩
        case measure => simp [intOf]; omega
    · have hfull : (stpL l).take i = stpL l := List.take_of_length_le (by rw [stpL_len]; omega)
      rw [hfull] at hown ⊢
      have HO := Lib.hid hown
      have HB := Lib.hid hb
      clear hown hb
      go_wp2
      go_ret
      exact ⟨OA, oc, rfl, HO.out, HB.out⟩
end Go.Proofs.YtfickhncbahekaaDoor
