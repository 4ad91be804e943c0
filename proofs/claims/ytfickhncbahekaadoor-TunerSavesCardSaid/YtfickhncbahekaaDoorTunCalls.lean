/- Package tuner: Check, Redundant, Drifts and Reached. Conditions: the steps lie in a slice of at most maxLen cells. -/
import Derived.Test.YtfickhncbahekaaDoorTunRun
namespace Go.Proofs.YtfickhncbahekaaDoor
open Go.RowKit

/-- An order by value: its steps. -/
structure OArg (w : World) (Bd : Nat) (A : Option Addr) (n cap : Nat) (L : List (Int × Int)) : Prop where
  len : L.length = n
  rd : SRd w Bd A L
  cp : n ≤ cap
  mx : cap ≤ maxLen
theorem OArg.below {w w' : World} {Bd : Nat} {A : Option Addr} {n cap : Nat} {L : List (Int × Int)} (h : OArg w Bd A n cap L) (hb : Below Bd w w') : OArg w' Bd A n cap L := ⟨h.len, h.rd.below hb, h.cp, h.mx⟩
theorem OArg.more {w : World} {Bd Bd' : Nat} {A : Option Addr} {n cap : Nat} {L : List (Int × Int)} (h : OArg w Bd A n cap L) (hb : Bd ≤ Bd') : OArg w Bd' A n cap L := ⟨h.len, h.rd.more hb, h.cp, h.mx⟩
theorem OArg.step {w w' : World} {A : Option Addr} {n cap : Nat} {L : List (Int × Int)} (h : OArg w w.heap.size A n cap L) (hb : Below w.heap.size w w') : OArg w' w'.heap.size A n cap L := (h.below hb).more hb.size
/-- run, where the steps are known to lie below the memory's end. -/
theorem run_arg {f : Int} {A : Option Addr} {n cap : Nat} {L : List (Int × Int)} {w : World} (h : OArg w w.heap.size A n cap L) :
    Calls Tryd.prog 33 #[.agg #[.int .i64 f, .slice A n cap]] w (RunPost w f L A n cap) := run_any f A n cap L w h.len h.rd h.cp h.mx

set_option maxRecDepth 100000 in
theorem tcheck_any (f : Int) (A : Option Addr) (n cap : Nat) (L : List (Int × Int)) (w : World) (h : OArg w w.heap.size A n cap L) :
    Calls Tryd.prog 11 #[.agg #[.int .i64 f, .slice A n cap]] w fun e w' => e = .returned (.int .i64 (runE f L)) ∧ Below w.heap.size w w' := by
  have hb := bw_new (Below.refl _ w) (.cells #[.int .i64 f, .slice A n cap] 25)
  have HR := Lib.hid (run_arg (f := f) (h.step hb))
  have HB := Lib.hid hb
  clear h hb
  go_enter Tryd.func11, Tryd.ntmps11
  go_wp2_with fail
  refine HR.out.mono ?_
  rintro e w1 ⟨hb1, ⟨_, rfl⟩ | ⟨h0, GA, gn, gc, DA, dn, dc, rfl, _⟩⟩
  · have HB1 := Lib.hid (HB.out.trans (hb1.mono HB.out.size))
    clear hb1
    go_wp2
    go_ret
    exact ⟨rfl, HB1.out⟩
  · have HB1 := Lib.hid (HB.out.trans (hb1.mono HB.out.size))
    have H0 := Lib.hid h0
    clear hb1 h0
    go_wp2
    go_ret
    exact ⟨by rw [H0.out]; rfl, HB1.out⟩

/-- A list of ints or an error. -/
def IntsOr (w : World) (x : Int) (l : List Int) (e : Ending) (w' : World) : Prop :=
  Below w.heap.size w w' ∧ ((x ≠ 0 ∧ e = .returned (.tuple #[.slice none 0 0, .int .i64 x])) ∨
    (x = 0 ∧ ∃ (GA : Option Addr) (gc : Nat), e = .returned (.tuple #[.slice GA l.length gc, .int .i64 0]) ∧ Rd i64v w' w'.heap.size GA l ∧ l.length ≤ gc ∧ gc ≤ maxLen))
/-- A list of pairs or an error. -/
def PairsOr (w : World) (x : Int) (l : List (Int × Int)) (e : Ending) (w' : World) : Prop :=
  Below w.heap.size w w' ∧ ((x ≠ 0 ∧ e = .returned (.tuple #[.slice none 0 0, .int .i64 x])) ∨
    (x = 0 ∧ ∃ (GA : Option Addr) (gc : Nat), e = .returned (.tuple #[.slice GA l.length gc, .int .i64 0]) ∧ SRd w' w'.heap.size GA l ∧ l.length ≤ gc ∧ gc ≤ maxLen))
theorem own_mxT {w : World} {base : Nat} {e : TypeId} {size n c m : Nat} {A : Option Addr} {xs : List Value} (h : w.ownsRow base e size (.slice A n c) m xs) : c ≤ maxLen := by
  rcases h.2 with ⟨hv, _⟩ | ⟨g', c', cur, hv, _, _, _, hm, _⟩
  · injection hv with _ _ h3; subst h3; unfold maxLen; omega
  · injection hv with _ _ h3; subst h3; exact hm

set_option maxRecDepth 100000 in
theorem redundant_any (f : Int) (A : Option Addr) (n cap : Nat) (L : List (Int × Int)) (w : World) (h : OArg w w.heap.size A n cap L) :
    Calls Tryd.prog 21 #[.agg #[.int .i64 f, .slice A n cap]] w (IntsOr w (runE f L) (stT f L n).again) := by
  have hb := bw_new (Below.refl _ w) (.cells #[.int .i64 f, .slice A n cap] 25)
  have HR := Lib.hid (run_arg (f := f) (h.step hb))
  have HB := Lib.hid hb
  clear h hb
  go_enter Tryd.func21, Tryd.ntmps21
  go_wp2_with fail
  refine HR.out.mono ?_
  rintro e w1 ⟨hb1, ⟨h0, rfl⟩ | ⟨h0, GA, gn, gc, DA, dn, dc, rfl, hp⟩⟩
  · have HB1 := Lib.hid (HB.out.trans (hb1.mono HB.out.size))
    have H0 := Lib.hid h0
    obtain ⟨x, hx⟩ : ∃ x, x = runE f L := ⟨_, rfl⟩
    rw [← hx] at h0 H0 ⊢
    have hz : (x != 0) = true := by simpa using h0
    have HX := Lib.hid hx
    clear hb1 h0 hx
    go_wp2
    go_ret2
    rw [← HX.out]
    exact ⟨HB1.out, .inl ⟨H0.out, rfl⟩⟩
  · have HB1 := Lib.hid (HB.out.trans (hb1.mono HB.out.size))
    have H0 := Lib.hid h0
    have HP := Lib.hid hp
    have t2 : w1.cell? ⟨(w.alloc (.cells #[.int .i64 f, .slice A n cap] 25)).heap.size + 3, 2, none⟩ = some (.slice GA gn gc) := hp.t.cell 2
    rw [World.size_alloc] at t2
    clear hb1 h0 hp
    go_wp2
    go_ret2
    have hal := HP.out.al
    subst hal
    exact ⟨HB1.out, .inr ⟨H0.out, GA, gc, rfl, Rd.of_own HP.out.a rfl, own_cap HP.out.a, own_mxT HP.out.a⟩⟩

set_option maxRecDepth 100000 in
theorem drifts_any (f : Int) (A : Option Addr) (n cap : Nat) (L : List (Int × Int)) (w : World) (h : OArg w w.heap.size A n cap L) :
    Calls Tryd.prog 26 #[.agg #[.int .i64 f, .slice A n cap]] w (PairsOr w (runE f L) (stT f L n).drift) := by
  have hb := bw_new (Below.refl _ w) (.cells #[.int .i64 f, .slice A n cap] 25)
  have HR := Lib.hid (run_arg (f := f) (h.step hb))
  have HB := Lib.hid hb
  clear h hb
  go_enter Tryd.func26, Tryd.ntmps26
  go_wp2_with fail
  refine HR.out.mono ?_
  rintro e w1 ⟨hb1, ⟨h0, rfl⟩ | ⟨h0, GA, gn, gc, DA, dn, dc, rfl, hp⟩⟩
  · have HB1 := Lib.hid (HB.out.trans (hb1.mono HB.out.size))
    have H0 := Lib.hid h0
    obtain ⟨x, hx⟩ : ∃ x, x = runE f L := ⟨_, rfl⟩
    rw [← hx] at h0 H0 ⊢
    have hz : (x != 0) = true := by simpa using h0
    have HX := Lib.hid hx
    clear hb1 h0 hx
    go_wp2
    go_ret2
    rw [← HX.out]
    exact ⟨HB1.out, .inl ⟨H0.out, rfl⟩⟩
  · have HB1 := Lib.hid (HB.out.trans (hb1.mono HB.out.size))
    have H0 := Lib.hid h0
    have HP := Lib.hid hp
    have t2 : w1.cell? ⟨(w.alloc (.cells #[.int .i64 f, .slice A n cap] 25)).heap.size + 3, 3, none⟩ = some (.slice DA dn dc) := hp.t.cell 3
    rw [World.size_alloc] at t2
    clear hb1 h0 hp
    go_wp2
    go_ret2
    have hal := HP.out.dl
    subst hal
    exact ⟨HB1.out, .inr ⟨H0.out, DA, dc, rfl, SRd.of_own HP.out.d rfl, own_cap HP.out.d, own_mxT HP.out.d⟩⟩

/-- What Reached answers. -/
def rchE (f : Int) (L : List (Int × Int)) (note : Int) : Int := if runE f L ≠ 0 then runE f L else if (lkz note (stT f L L.length).ways).isSome then 0 else 11
def rchW (f : Int) (L : List (Int × Int)) (note : Int) : Int × Int := if runE f L ≠ 0 then (0, 0) else (lkz note (stT f L L.length).ways).getD (0, 0)
set_option maxRecDepth 100000 in
set_option maxHeartbeats 1000000 in
theorem reached_any (f note : Int) (A : Option Addr) (n cap : Nat) (L : List (Int × Int)) (w : World) (h : OArg w w.heap.size A n cap L) :
    Calls Tryd.prog 16 #[.agg #[.int .i64 f, .slice A n cap], .int .i64 note] w fun e w' => e = .returned (.tuple #[wv (rchW f L note), .int .i64 (rchE f L note)]) ∧ Below w.heap.size w w' := by
  have hb := bw_new (bw_new (Below.refl _ w) (.cells #[.int .i64 f, .slice A n cap] 25)) (.cells #[.int .i64 0, .int .i64 0] 50)
  have HR := Lib.hid (run_arg (f := f) (h.step hb))
  have hB : Blk ((w.alloc (.cells #[.int .i64 f, .slice A n cap] 25)).alloc (.cells #[.int .i64 0, .int .i64 0] 50)) (w.heap.size + 1) 50 [.int .i64 0, .int .i64 0] := by
    have := heap_alloc_new (w.alloc (.cells #[.int .i64 f, .slice A n cap] 25)) (.cells #[.int .i64 0, .int .i64 0] 50)
    rw [World.size_alloc] at this
    exact this
  have HBB := Lib.hid hB
  have HB := Lib.hid hb
  have HLN := Lib.hid h.len
  clear h hb hB
  go_enter Tryd.func16, Tryd.ntmps16
  go_wp2_with fail
  refine HR.out.mono ?_
  rintro e w1 ⟨hb1, ⟨h0, rfl⟩ | ⟨h0, GA, gn, gc, DA, dn, dc, rfl, hp⟩⟩
  · have HB1 := Lib.hid (HB.out.trans (hb1.mono HB.out.size))
    have hB1 := HBB.out.step hb1
    have hE : rchE f L note = runE f L := if_pos h0
    have hW : rchW f L note = (0, 0) := if_pos h0
    obtain ⟨x, hx⟩ : ∃ x, x = runE f L := ⟨_, rfl⟩
    rw [← hx] at h0 hE ⊢
    have HE := Lib.hid hE
    have HW := Lib.hid hW
    have hz : (x != 0) = true := by simpa using h0
    have z0 := hB1.cell 0
    have z1 := hB1.cell 1
    have y0 := hB1.frozen 0
    have y1 := hB1.frozen 1
    clear hb1 h0 hx hE hW hB1
    go_wp2
    refine bodyPost_ret (v := .tuple #[.agg #[.int .i64 0, .int .i64 0], .int .i64 x]) (by simp [results, Tryd.results16, go_sem, z0, z1]) rfl ⟨by rw [HE.out, HW.out]; rfl, ?_⟩
    exact bw_set (bw_set HB1.out (by omega) _) (by omega) _
  · have HB1 := Lib.hid (HB.out.trans (hb1.mono HB.out.size))
    have hB1 := HBB.out.step hb1
    have hz0 : ((w.alloc (.cells #[.int .i64 f, .slice A n cap] 25)).alloc (.cells #[.int .i64 0, .int .i64 0] 50)).heap.size = w.heap.size + 1 + 1 := by simp
    rw [hz0] at hp
    have t0 : w1.cell? ⟨w.heap.size + 1 + 1 + 3, 0, none⟩ = some (.map (some (w.heap.size + 1 + 1 + 1))) := hp.t.cell 0
    have hl := look_wv hp.m1 note
    have hE : rchE f L note = if (lkz note (stT f L n).ways).isSome then 0 else 11 := by
      unfold rchE; rw [if_neg (fun e => e h0), HLN.out]
    have hW : rchW f L note = (lkz note (stT f L n).ways).getD (0, 0) := by
      unfold rchW; rw [if_neg (fun e => e h0), HLN.out]
    have z0 := hB1.cell 0
    have z1 := hB1.cell 1
    have y0 := hB1.frozen 0
    have y1 := hB1.frozen 1
    have hlt := hB1.lt
    have hZ : (lkz note (stT f L n).ways).isSome = false → (lkz note (stT f L n).ways).getD (0, 0) = (0, 0) := fun e => by
      cases h : lkz note (stT f L n).ways with
      | none => rfl
      | some x => rw [h] at e; cases e
    obtain ⟨o, ho⟩ : ∃ o, o = (lkz note (stT f L n).ways).getD (0, 0) := ⟨_, rfl⟩
    obtain ⟨b, hbv⟩ : ∃ b, b = (lkz note (stT f L n).ways).isSome := ⟨_, rfl⟩
    rw [← ho, ← hbv] at hl hZ
    rw [← hbv] at hE
    rw [← ho] at hW
    have HE := Lib.hid hE
    have HW := Lib.hid hW
    obtain ⟨oa, ob⟩ := o
    have HZ := Lib.hid hZ
    dsimp only at hl
    have HLB := Lib.hid hB1
    clear hb1 h0 hE hW hB1 hp ho hbv hZ
    cases b with
    | true =>
      have z0' : w1.cell? ⟨w.heap.size + 1, 0, none⟩ = some (.int .i64 0) := z0
      have z1' : w1.cell? ⟨w.heap.size + 1, 1, none⟩ = some (.int .i64 0) := z1
      clear z0 z1
      go_wp2
      refine bodyPost_ret (v := .tuple #[.agg #[.int .i64 oa, .int .i64 ob], .int .i64 0]) (by simp [results, Tryd.results16, go_sem, hlt, z0', z1']) rfl ⟨by rw [HE.out, HW.out]; rfl, ?_⟩
      refine bw_new (bw_set (bw_set HB1.out ?_ _) ?_ _) _ <;> omega
    | false =>
      have z0' : w1.cell? ⟨w.heap.size + 1, 0, none⟩ = some (.int .i64 0) := z0
      have z1' : w1.cell? ⟨w.heap.size + 1, 1, none⟩ = some (.int .i64 0) := z1
      obtain ⟨rfl, rfl⟩ : oa = 0 ∧ ob = 0 := by have := HZ.out rfl; simpa using this
      clear z0 z1
      go_wp2
      refine bodyPost_ret (v := .tuple #[.agg #[.int .i64 0, .int .i64 0], .int .i64 11]) (by simp [results, Tryd.results16, go_sem, hlt, z0', z1']) rfl ⟨by rw [HE.out, HW.out]; rfl, ?_⟩
      refine bw_new (bw_set (bw_set HB1.out ?_ _) ?_ _) _ <;> omega

end Go.Proofs.YtfickhncbahekaaDoor
