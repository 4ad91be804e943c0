/- integer.magnitude.trim: what it returns. Conditions: the limbs are below the base, and the list is no longer than its capacity. -/
import Derived.Test.YtkamepalomkpbaaGreatDoorRows
import Derived.Test.YtkamepalomkpbaaGreatDoorNum
import Derived.Test.YtkamepalomkpbaaGreatDoorMem
import Derived.BigQuiet
namespace Go.Proofs.YtkamepalomkpbaaGreatDoor
open Go.RowKit

abbrev u64v : Nat → Value := fun x => .int .u64 (x : Int)

set_option maxHeartbeats 400000 in
theorem trim_any (L : List Nat) (A : Option Addr) (cap Bd : Nat) (w : World) (hr : Rd u64v w Bd A L) (hsm : Small L) (hcap : L.length ≤ cap) (hmax : L.length ≤ 1000000000000) :
    Calls Tryz.prog 89 #[.slice A L.length cap] w fun e w' => e = .returned (.slice A (limbs (lv L)).length cap) ∧ w = w' := by
  go_enter Tryz.func89, Tryz.ntmps89
  go_wp2
  go_loop [0] (fun v => ∃ k : Nat, k ≤ L.length ∧ lv (L.take k) = lv L ∧ v = .slice A k cap) (fun v => lenOf v)
  case atStart => exact ⟨L.length, Nat.le_refl _, by rw [List.take_length], rfl⟩
  case round =>
    obtain ⟨k, hk, he, rfl⟩ := hrel
    have HE := Lib.hid he
    clear he
    by_cases hk0 : k = 0
    · subst hk0
      go_wp2
      go_ret
      exact ⟨ret_slice (limbs_len_of L hsm 0 (Nat.zero_le _) HE.out (fun h => absurd h (by omega))).symm, rfl⟩
    · obtain ⟨j, rfl⟩ : ∃ j, k = j + 1 := ⟨k - 1, by omega⟩
      obtain ⟨b, off, rfl, hb, hc⟩ := hr.at_ (by omega)
      obtain ⟨x, hx⟩ : ∃ x, x = L[j] := ⟨_, rfl⟩
      have hcj : w.cell? ⟨b, off + j, none⟩ = some (.int .u64 (x : Int)) := by rw [hc j (by omega), hx]
      have HX := Lib.hid hx
      clear hx hc
      by_cases hx0 : x = 0
      · have h0 : ((x : Int) == 0) = true := by subst hx0; rfl
        go_wp2
        go_round
        case rel => exact ⟨j, by omega, by rw [← HE.out, lv_take_succ L j (by omega), ← HX.out, hx0]; simp, rfl⟩
        case measure => simp [lenOf]
      · have h0 : ((x : Int) == 0) = false := by simp; exact hx0
        go_wp2
        go_ret
        exact ⟨ret_slice (limbs_len_of L hsm (j + 1) hk HE.out (fun _ => by rw [show L[j + 1 - 1]'(by omega) = x from HX.out.symm]; exact hx0)).symm, rfl⟩

/-- The same, the length by another name. -/
theorem trim_len (L : List Nat) (n : Nat) (hn : L.length = n) (A : Option Addr) (cap Bd : Nat) (w : World) (hr : Rd u64v w Bd A L) (hsm : Small L) (hcap : n ≤ cap) (hmax : n ≤ 1000000000000) :
    Calls Tryz.prog 89 #[.slice A n cap] w fun e w' => e = .returned (.slice A (limbs (lv L)).length cap) ∧ w = w' := by
  subst hn
  exact trim_any L A cap Bd w hr hsm hcap hmax

end Go.Proofs.YtkamepalomkpbaaGreatDoor
