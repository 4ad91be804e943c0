/- Package rank: letter and IsName; package noteset: CheckCompass. Conditions: the text is no longer than a thousand million bytes. -/
import Derived.Test.YtkamepalomkpbaaGreatDoorWishMem
import Derived.BigQuiet
namespace Go.Proofs.YtkamepalomkpbaaGreatDoor
open Go.RowKit

theorem letB_cases (b : Nat) : (65 ≤ b ∧ b ≤ 90 ∧ letB b = true) ∨ (b < 65 ∧ letB b = false) ∨ (90 < b ∧ b < 97 ∧ letB b = false) ∨ (97 ≤ b ∧ b ≤ 122 ∧ letB b = true) ∨ (122 < b ∧ letB b = false) := by
  unfold letB
  by_cases h1 : 65 ≤ b <;> by_cases h2 : b ≤ 90 <;> by_cases h3 : 97 ≤ b <;> by_cases h4 : b ≤ 122 <;> simp [h1, h2, h3, h4] <;> omega

theorem letter_any (b : Nat) (w : World) :
    Calls Tryz.prog 49 #[.int .u8 (b : Int)] w fun e w' => e = .returned (.bool (letB b)) ∧ w = w' := by
  rcases letB_cases b with ⟨h1, h2, h⟩ | ⟨h1, h⟩ | ⟨h1, h2, h⟩ | ⟨h1, h2, h⟩ | ⟨h1, h⟩
  all_goals
    have HE := Lib.hid h
    clear h
    go_enter Tryz.func49, Tryz.ntmps49
    go_wp2
    go_ret
    exact ⟨ret_bool (by first | (rw [HE.out]; done) | (rw [HE.out]; simp; omega)), rfl⟩

/-- CheckCompass: the error of a compass. -/
theorem compass_any (lo hi : Int) (w : World) :
    Calls Tryz.prog 51 #[.agg #[.int .i64 lo, .int .i64 hi]] w fun e w' => e = .returned (.int .i64 (cmE lo hi)) ∧ Below w.heap.size w w' := by
  have h : (lo < 0 ∧ cmE lo hi = 3) ∨ (0 ≤ lo ∧ 127 < hi ∧ cmE lo hi = 3) ∨ (0 ≤ lo ∧ hi ≤ 127 ∧ hi < lo ∧ cmE lo hi = 23) ∨ (0 ≤ lo ∧ hi ≤ 127 ∧ lo ≤ hi ∧ cmE lo hi = 0) := by
    unfold cmE
    by_cases h1 : lo < 0
    · left; exact ⟨h1, if_pos (.inl h1)⟩
    · by_cases h2 : 127 < hi
      · right; left; exact ⟨by omega, h2, if_pos (.inr h2)⟩
      · by_cases h3 : hi < lo
        · right; right; left; exact ⟨by omega, by omega, h3, by rw [if_neg (by omega), if_pos h3]⟩
        · right; right; right; exact ⟨by omega, by omega, by omega, by rw [if_neg (by omega), if_neg h3]⟩
  rcases h with ⟨h1, h⟩ | ⟨h1, h2, h⟩ | ⟨h1, h2, h3, h⟩ | ⟨h1, h2, h3, h⟩
  all_goals
    have HE := Lib.hid h
    clear h
    go_enter Tryz.func51, Tryz.ntmps51
    go_wp2
    go_ret
    exact ⟨ret_int HE.out.symm, bw_new (Below.refl _ w) _⟩

theorem name_step {s : ByteArray} {k : Nat} (h : k < s.size) : (s.data.toList.drop k).all (fun d => restB d.toNat) = (restB s[k].toNat && (s.data.toList.drop (k + 1)).all fun d => restB d.toNat) := by
  rw [List.drop_eq_getElem_cons (by simpa using h), List.all_cons]; rfl
theorem name_head {s : ByteArray} (h : 0 < s.size) : nameL s.data.toList = (letB s[0].toNat && (s.data.toList.drop 1).all fun d => restB d.toNat) := by
  obtain ⟨⟨l⟩⟩ := s
  cases l with
  | nil => exact absurd h (by decide)
  | cons c r => rfl
theorem bytes_nil {s : ByteArray} (h : s.size = 0) : s = ⟨#[]⟩ := by
  apply ByteArray.ext
  exact Array.eq_empty_of_size_eq_zero h
theorem bytes_pos {s : ByteArray} (h : s.size ≠ 0) : s.toList.isEmpty = false := by
  rw [ByteArray.toList_eq]
  cases hl : s.data.toList with
  | nil =>
    exfalso
    apply h
    have := congrArg List.length hl
    simpa using this
  | cons c r => rfl
theorem restB_cases (b : Nat) : (letB b = true ∧ restB b = true) ∨ (letB b = false ∧ b < 48 ∧ restB b = false) ∨ (letB b = false ∧ 48 ≤ b ∧ b ≤ 57 ∧ restB b = true) ∨ (letB b = false ∧ 57 < b ∧ b = 95 ∧ restB b = true) ∨ (letB b = false ∧ 57 < b ∧ b ≠ 95 ∧ restB b = false) := by
  unfold restB
  cases letB b
  · by_cases h1 : 48 ≤ b <;> by_cases h2 : b ≤ 57 <;> by_cases h3 : b = 95 <;> simp [h1, h2, h3] <;> omega
  · left; simp

set_option maxRecDepth 100000 in
set_option maxHeartbeats 1000000 in
theorem name_any (s : ByteArray) (w : World) (hs : s.size ≤ 1000000000) :
    Calls Tryz.prog 43 #[.string s] w fun e w' => e = .returned (.bool (nameB s)) ∧ w = w' := by
  by_cases h0 : s.size = 0
  · have hE : nameB s = false := by rw [bytes_nil h0]; rfl
    have he : s.toList.isEmpty = true := by rw [bytes_nil h0, ByteArray.toList_eq]; rfl
    have HE := Lib.hid hE
    clear hE h0
    go_enter Tryz.func43, Tryz.ntmps43
    go_wp2
    go_ret
    exact ⟨ret_bool HE.out.symm, rfl⟩
  · have he := bytes_pos h0
    have hp : 0 < s.size := by omega
    clear h0
    by_cases h1 : 32 < s.size
    · have HE := Lib.hid (show nameB s = false by unfold nameB; rw [decide_eq_false (by omega)]; rfl)
      go_enter Tryz.func43, Tryz.ntmps43
      go_wp2
      go_ret
      exact ⟨ret_bool HE.out.symm, rfl⟩
    · have hb : nameB s = nameL s.data.toList := by unfold nameB; rw [decide_eq_true (by omega)]; rfl
      rw [name_head hp] at hb
      have hl := fun W => letter_any s[0].toNat W
      have h2 : s.size ≤ 32 := by omega
      cases hq : letB s[0].toNat with
      | false =>
        rw [hq] at hl hb
        have HL := Lib.hid hl
        have HE := Lib.hid hb
        clear hl hb hq
        go_enter Tryz.func43, Tryz.ntmps43
        go_wp2_with fail
        refine (HL.out _).mono ?_
        rintro e w' ⟨rfl, rfl⟩
        go_wp2
        go_ret
        exact ⟨ret_bool HE.out.symm, rfl⟩
      | true =>
        rw [hq] at hl hb
        have HL := Lib.hid hl
        have HE := Lib.hid hb
        clear hl hb hq
        go_enter Tryz.func43, Tryz.ntmps43
        go_wp2_with fail
        refine (HL.out _).mono ?_
        rintro e w' ⟨rfl, rfl⟩
        go_wp2
        go_loop [3] (fun v => ∃ k : Nat, 1 ≤ k ∧ k ≤ s.size ∧ v = .int .i64 k ∧ nameB s = (s.data.toList.drop k).all fun d => restB d.toNat) (fun v => s.size - (intOf v).toNat)
        case atStart => exact ⟨1, by omega, by omega, rfl, by rw [HE.out]; rfl⟩
        case round =>
          obtain ⟨k, hk1, hk, rfl, ho⟩ := hrel
          by_cases hlt : k < s.size
          · rw [name_step hlt] at ho
            have hl := fun W => letter_any s[k].toNat W
            rcases restB_cases s[k].toNat with ⟨a1, a⟩ | ⟨a1, a2, a⟩ | ⟨a1, a2, a3, a⟩ | ⟨a1, a2, a3, a⟩ | ⟨a1, a2, a3, a⟩
            · rw [a] at ho
              rw [a1] at hl
              have HL := Lib.hid hl
              have HO := Lib.hid ho
              clear hl ho a a1
              go_wp2_with fail
              refine (HL.out _).mono ?_
              rintro e w' ⟨rfl, rfl⟩
              go_wp2
              go_round
              case rel => exact ⟨k + 1, by omega, by omega, by go_num, by rw [HO.out]; rfl⟩
              case measure => simp [intOf]; omega
            · rw [a] at ho
              rw [a1] at hl
              have HL := Lib.hid hl
              have HO := Lib.hid ho
              clear hl ho a a1
              go_wp2_with fail
              refine (HL.out _).mono ?_
              rintro e w' ⟨rfl, rfl⟩
              have hne : (((s[k].toNat : Nat) : Int) != 95) = true := by rw [bne_iff_ne]; omega
              go_wp2
              go_ret
              exact ⟨ret_bool HO.out.symm, rfl⟩
            · rw [a] at ho
              rw [a1] at hl
              have HL := Lib.hid hl
              have HO := Lib.hid ho
              clear hl ho a a1
              go_wp2_with fail
              refine (HL.out _).mono ?_
              rintro e w' ⟨rfl, rfl⟩
              go_wp2
              go_round
              case rel => exact ⟨k + 1, by omega, by omega, by go_num, by rw [HO.out]; rfl⟩
              case measure => simp [intOf]; omega
            · rw [a] at ho
              rw [a1] at hl
              have HL := Lib.hid hl
              have HO := Lib.hid ho
              have hne : (((s[k].toNat : Nat) : Int) != 95) = false := by rw [a3]; rfl
              clear hl ho a a1 a3
              go_wp2_with fail
              refine (HL.out _).mono ?_
              rintro e w' ⟨rfl, rfl⟩
              go_wp2
              go_round
              case rel => exact ⟨k + 1, by omega, by omega, by go_num, by rw [HO.out]; rfl⟩
              case measure => simp [intOf]; omega
            · rw [a] at ho
              rw [a1] at hl
              have HL := Lib.hid hl
              have HO := Lib.hid ho
              have hne : (((s[k].toNat : Nat) : Int) != 95) = true := by rw [bne_iff_ne]; omega
              clear hl ho a a1 a3
              go_wp2_with fail
              refine (HL.out _).mono ?_
              rintro e w' ⟨rfl, rfl⟩
              go_wp2
              go_ret
              exact ⟨ret_bool HO.out.symm, rfl⟩
          · have HO := Lib.hid (show nameB s = true by rw [ho, List.drop_eq_nil_of_le (by simp; omega)]; rfl)
            clear ho
            go_wp2
            go_ret
            exact ⟨ret_bool HO.out.symm, rfl⟩
end Go.Proofs.YtkamepalomkpbaaGreatDoor
