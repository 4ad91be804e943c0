/- The statement BeatRatios: whatever the input, the law returns true and the input reads as it did. Conditions: the row's own list of package-level variables, tied to the program's text by the card. -/
import Derived.Test.YtendjepcjmfmfaaGreatDoorRatB08
import Derived.Test.YtendjepcjmfmfaaGreatDoorRatB41
namespace Go.Proofs.YtendjepcjmfmfaaGreatDoor
open Go.ChangeShapes Go.WideShapes Go.ChangeAt Go.WideMaps Go.WideElems Go.RowKit Go.Joins
set_option linter.unusedVariables false
set_option maxRecDepth 100000 in
theorem beatRatios_lifted (os : Os) (started : os.Started) (H : Type) (enc : TypeId × Value → H) :
  ReturnsInHanded {} Tryz.checked os 4 .any (fun w args => (Rows.beatRatiosSpec.pre enc Tryz.prog Tryz.f4 [] false w args ∧ laidMetH Tryz.prog laidList w) ∧ sizedMet enc Tryz.prog Tryz.f4 (OpenSpec.ofChange Rows.beatRatiosSpec) false w args)
   (Rows.beatRatiosSpec.post enc Tryz.prog Tryz.f4 false true false false) := by
 refine returnsInHanded_of_change_and (C := Tryz.checked) (X := fun w _ => laidMetH Tryz.prog laidList w) (fun _ _ _ hh h => h.of_heap hh) frame_own started (by kernel_rfl) Tryz.func4
  (ChangeSpec.witness_shaped (enc := enc) (C := Tryz.checked) (os := os) (X := fun w _ => laidMetH Tryz.prog laidList w) false (World.doorLaid Tryz.prog 4000 os) #[.agg #[.int .i8 0, .int .i8 0, .int .i8 0, .int .u8 0], .agg #[.int .i64 0, .int .i64 0, .int .i64 0, .int .i64 0, .int .i64 0, .int .i64 0]] 8 rfl (World.shaped_of_RefB (by kernel_rfl) (by kernel_rfl)) (by kernel_rfl) (by kernel_rfl) (by kernel_rfl) (door_met os _)) ?_
 intro W base args ds gs before hval0 hW _ hsz hL _
 have hval : ∀ (j : Nat) t v, Tryz.f4.params[j]? = some t → args[j]? = some v → Value.okWide Tryz.prog W .any base t v := hval0
 have hW' := hW
 obtain ⟨p, q, hA0, hV, rfl, hfz, hnd⟩ := hW
 have hA : DataW.TrodAll enc Tryz.prog W 0 (fun _ => true) true Tryz.f4.params.toList args.toList ds p := hA0
 have hAk := hA
 rw [Tryz.params4] at hA hval
 obtain ⟨rfl, rfl⟩ := trodVars_none hV
 have hlt : ∀ x ∈ p, x.block < W.heap.size := fun x hx => hW'.lt x (by simpa using hx)
 obtain ⟨v0, vs0, d0, ds0, p0, q0, hargs, rfl, rfl, h0, r0⟩ := trodAll_cons hA
 obtain ⟨v1, vs1, d1, ds1, p1, q1, rfl, rfl, rfl, h1, r1⟩ := trodAll_cons r0
 obtain ⟨rfl, rfl, rfl⟩ := trodAll_nil r1
 obtain rfl : args = #[v0, v1] := by cases args; simp_all
 have hlt0 : ∀ x ∈ p0, x.block < W.heap.size := fun x hx => hlt x (by simp [hx])
 have hlt1 : ∀ x ∈ p1, x.block < W.heap.size := fun x hx => hlt x (by simp [hx])
 have hT := tab_of_laid hL
 clear hA0 hval0 hL
 simp only [List.append_nil] at hW'
 obtain ⟨a, b, c, e, rfl, wa, wb, wc, we⟩ := open_plan5 (hval 0 47 v0 rfl rfl) h0
 obtain ⟨s0, s1, s2, s3, s4, s5, rfl, hS⟩ := open_size (hval 1 49 v1 rfl rfl) h1
 refine (lratios_any a b c e s0 s1 s2 s3 s4 s5 W hT wa wb wc we hS.1.1 hS.1.2 hS.2.1.1 hS.2.1.2 hS.2.2.1 hS.2.2.2).mono fun e' W' ⟨he, hb⟩ => ?_
 subst he
 exact ⟨_, rfl, post_below (pv := []) hW' hb (fun _ _ _ => trodAll_mk1 (shut_bool Tryz.underlying4 _)) (args_again (by rw [Tryz.params4]; decide) hAk hlt hb) rfl⟩
theorem beatRatios_row : Rows.BeatRatiosSaid :=
 OpenClaim.holds_of_wide 4 Tryz.f4 rfl rfl rfl rfl rfl rfl rfl ⟨rfl, rfl, rfl, rfl, rfl⟩ rfl rfl rfl rfl rfl (by kernel_rfl) Tryz.func4 (by kernel_rfl)
  (of_decide_eq_true (by kernel_rfl)) (by unfold Func.isWrapper; first | (rw [if_pos (by decide +kernel)]; kernel_rfl) | (rw [if_neg (by decide +kernel)]; exact ⟨rfl, rfl⟩))
  (fun os started H enc _ => beatRatios_lifted os started H enc)
theorem beatRatios_proved : Rows.BeatRatiosCardSaid :=
 Claim7.holds_tied_plain_at .later [] laidKindsHere true laidHarness laidLooksHere
  beatRatios_row (fun _ h => by cases h) (by kernel_rfl) (fun _ h => by cases h) beatRatios_row_tie rfl ⟨rfl, rfl⟩ (by kernel_rfl) rfl
  (fun f fn hf hfn => by
   obtain rfl : f = 4 := Option.some.inj ((show Tryz.prog.funcNamed "bombarde/bombardelaw42.BeatRatios" = some 4 by kernel_rfl).symm.trans hf) |>.symm
   obtain rfl : fn = Tryz.f4 := (Option.some.inj (Tryz.func4.symm.trans hfn)).symm
   exact ⟨by kernel_rfl, fun j t ht => by
    rw [Tryz.params4] at ht
    have hm : t ∈ [47, 49] := by simpa using Array.mem_of_getElem? ht
    have hall : ([47, 49].all fun u => !Tryz.prog.wantsStandIn u) = true := by kernel_rfl
    exact (show Tryz.prog.wantsStandIn t = false by simpa using List.all_eq_true.1 hall t hm)⟩)
  (by kernel_rfl)
#print axioms beatRatios_proved
end Go.Proofs.YtendjepcjmfmfaaGreatDoor
