/- The statement ImplicantSums: whatever the input, the law returns true and the input reads as it did. Conditions: the row's own list of package-level variables, tied to the program's text by the card. -/
import Derived.Test.YtaegjpancbmppaaGreatDoorSumB04
import Derived.Test.YtaegjpancbmppaaGreatDoorSumB09
import Derived.Test.YtaegjpancbmppaaGreatDoorSumB32
set_option linter.unusedVariables false
set_option linter.unusedSimpArgs false
namespace Go.Proofs.YtaegjpancbmppaaGreatDoor
open Go.ChangeShapes Go.WideShapes Go.ChangeAt Go.WideMaps Go.WideElems Go.RowKit Go.Joins
set_option linter.unusedVariables false
set_option maxRecDepth 100000 in
theorem implicantSums_lifted (os : Os) (started : os.Started) (H : Type) (enc : TypeId × Value → H) :
  ReturnsInHanded {} Tryz.checked os 11 .any (fun w args => (Rows.implicantSumsSpec.pre enc Tryz.prog Tryz.f11 [] false w args ∧ laidMetH Tryz.prog laidList w) ∧ sizedMet enc Tryz.prog Tryz.f11 (OpenSpec.ofChange Rows.implicantSumsSpec) false w args)
   (Rows.implicantSumsSpec.post enc Tryz.prog Tryz.f11 false true false false) := by
 refine returnsInHanded_of_change_and (C := Tryz.checked) (X := fun w _ => laidMetH Tryz.prog laidList w) (fun _ _ _ hh h => h.of_heap hh) frame_own started (by kernel_rfl) Tryz.func11
  (ChangeSpec.witness_shaped (enc := enc) (C := Tryz.checked) (os := os) (X := fun w _ => laidMetH Tryz.prog laidList w) false (World.doorLaid Tryz.prog 4000 os) #[.int .u8 0, .int .u16 0, .int .u16 0] 8 rfl (World.shaped_of_RefB (by kernel_rfl) (by kernel_rfl)) (by kernel_rfl) (by kernel_rfl) (by kernel_rfl) (door_met os _)) ?_
 intro W base args ds gs before hval0 hW _ hsz hL _
 have hval : ∀ (j : Nat) t v, Tryz.f11.params[j]? = some t → args[j]? = some v → Value.okWide Tryz.prog W .any base t v := hval0
 have hW' := hW
 obtain ⟨p, q, hA0, hV, rfl, hfz, hnd⟩ := hW
 have hA : DataW.TrodAll enc Tryz.prog W 0 (fun _ => true) true Tryz.f11.params.toList args.toList ds p := hA0
 have hAk := hA
 rw [Tryz.params11] at hA hval
 obtain ⟨rfl, rfl⟩ := trodVars_none hV
 have hlt : ∀ x ∈ p, x.block < W.heap.size := fun x hx => hW'.lt x (by simpa using hx)
 obtain ⟨v0, vs0, d0, ds0, p0, q0, hargs, rfl, rfl, h0, r0⟩ := trodAll_cons hA
 obtain ⟨v1, vs1, d1, ds1, p1, q1, rfl, rfl, rfl, h1, r1⟩ := trodAll_cons r0
 obtain ⟨v2, vs2, d2, ds2, p2, q2, rfl, rfl, rfl, h2, r2⟩ := trodAll_cons r1
 obtain ⟨rfl, rfl, rfl⟩ := trodAll_nil r2
 obtain rfl : args = #[v0, v1, v2] := by cases args; simp_all
 have hlt0 : ∀ x ∈ p0, x.block < W.heap.size := fun x hx => hlt x (by simp [hx])
 have hlt1 : ∀ x ∈ p1, x.block < W.heap.size := fun x hx => hlt x (by simp [hx])
 have hlt2 : ∀ x ∈ p2, x.block < W.heap.size := fun x hx => hlt x (by simp [hx])
 have hT := tab_of_laid hL
 clear hA0 hval0 hL
 simp only [List.append_nil] at hW'
 obtain ⟨a, rfl, rfl, rfl, wa⟩ := open_int Tryz.underlying5 (hval 0 5 v0 rfl rfl) h0
 obtain ⟨b, rfl, rfl, rfl, wb⟩ := open_int Tryz.underlying22 (hval 1 22 v1 rfl rfl) h1
 obtain ⟨c, rfl, rfl, rfl, wc⟩ := open_int Tryz.underlying22 (hval 2 22 v2 rfl rfl) h2
 obtain ⟨ha1, ha2⟩ := u8_bnd wa
 obtain ⟨hb1, hb2⟩ := u16_bnd wb
 obtain ⟨hc1, hc2⟩ := u16_bnd wc
 obtain ⟨na, rfl⟩ : ∃ m : Nat, a = (m : Int) := ⟨a.toNat, by omega⟩
 obtain ⟨nb, rfl⟩ : ∃ m : Nat, b = (m : Int) := ⟨b.toNat, by omega⟩
 obtain ⟨nc, rfl⟩ : ∃ m : Nat, c = (m : Int) := ⟨c.toNat, by omega⟩
 refine (lsums_any na nb nc W (by omega) (by omega) (by omega)).mono fun e' W' ⟨he, hb⟩ => ?_
 subst he
 exact ⟨_, rfl, post_below (pv := []) hW' hb (fun _ _ _ => trodAll_mk1 (shut_bool Tryz.underlying4 _)) (args_again (by rw [Tryz.params11]; decide) hAk hlt hb) rfl⟩
theorem implicantSums_row : Rows.ImplicantSumsSaid :=
 OpenClaim.holds_of_wide 11 Tryz.f11 rfl rfl rfl rfl rfl rfl rfl ⟨rfl, rfl, rfl, rfl, rfl⟩ rfl rfl rfl rfl rfl (by kernel_rfl) Tryz.func11 (by kernel_rfl)
  (of_decide_eq_true (by kernel_rfl)) (by unfold Func.isWrapper; first | (rw [if_pos (by decide +kernel)]; kernel_rfl) | (rw [if_neg (by decide +kernel)]; exact ⟨rfl, rfl⟩))
  (fun os started H enc _ => implicantSums_lifted os started H enc)
theorem implicantSums_proved : Rows.ImplicantSumsCardSaid :=
 Claim7.holds_tied_plain_at .later [] laidKindsHere true laidHarness laidLooksHere
  implicantSums_row (fun _ h => by cases h) (by kernel_rfl) (fun _ h => by cases h) implicantSums_row_tie rfl ⟨rfl, rfl⟩ (by kernel_rfl) rfl
  (fun f fn hf hfn => by
   obtain rfl : f = 11 := Option.some.inj ((show Tryz.prog.funcNamed "bombarde/bombardelaw12.ImplicantSums" = some 11 by kernel_rfl).symm.trans hf) |>.symm
   obtain rfl : fn = Tryz.f11 := (Option.some.inj (Tryz.func11.symm.trans hfn)).symm
   exact ⟨by kernel_rfl, fun j t ht => by
    rw [Tryz.params11] at ht
    have hm : t ∈ [5, 22, 22] := by simpa using Array.mem_of_getElem? ht
    have hall : ([5, 22, 22].all fun u => !Tryz.prog.wantsStandIn u) = true := by kernel_rfl
    exact (show Tryz.prog.wantsStandIn t = false by simpa using List.all_eq_true.1 hall t hm)⟩)
  (by kernel_rfl)
#print axioms implicantSums_proved
end Go.Proofs.YtaegjpancbmppaaGreatDoor
