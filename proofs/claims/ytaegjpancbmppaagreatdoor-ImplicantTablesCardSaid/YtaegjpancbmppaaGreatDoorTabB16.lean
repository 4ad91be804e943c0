/- Part 16 of 33 of the proof of the law: contracts of the functions that it reaches, and plain facts. Conditions: those that each contract names. -/
import Derived.Test.YtaegjpancbmppaaGreatDoorTabB14
import Derived.Deep.RegionLawGrows
set_option linter.unusedVariables false
set_option linter.unusedSimpArgs false
namespace Go.Proofs.YtaegjpancbmppaaGreatDoor
open Go.RowKit
abbrev fTg (ab tb mb : Nat) : Value := .func (.func 47) #[] #[.pointer (some ⟨ab, 0, none⟩), .pointer (some ⟨tb, 0, none⟩), .pointer (some ⟨mb, 0, none⟩)]
abbrev fSk (gB gT gS : Nat) : Value := .func (.func 50) #[] #[.pointer (some ⟨gB, 0, none⟩), .pointer (some ⟨gT, 0, none⟩), .pointer (some ⟨gS, 0, none⟩)]
structure SkS (X : World) (n M ab tb mb gB gT gS : Nat) : Prop where
 tg : TgAt X n M ab tb mb
 bT : Blk X gT 94 [fTg ab tb mb]
 bS : Blk X gS 95 [fSk gB gT gS]
 ne : gB ≠ ab ∧ gB ≠ tb ∧ gB ≠ mb ∧ gB ≠ gT ∧ gB ≠ gS
theorem TgAt.chs {X W : World} {g n M ab tb mb : Nat} (h : TgAt X n M ab tb mb) (hc : Chs g X W) (h1 : g ≠ ab) (h2 : g ≠ tb) (h3 : g ≠ mb) : TgAt W n M ab tb mb :=
 ⟨(hc.block ab h.all.lt (Ne.symm h1)).trans h.all, ⟨Nat.lt_of_lt_of_le h.tab.1 hc.size, by
  have := hc.block tb h.tab.1 (Ne.symm h2)
  have h3 := h.tab.2
  unfold World.cell? at h3 ⊢
  rw [this]; exact h3⟩, (hc.block mb h.may.lt (Ne.symm h3)).trans h.may⟩
theorem SkS.chs {X W : World} {n M ab tb mb gB gT gS : Nat} (h : SkS X n M ab tb mb gB gT gS) (hc : Chs gB X W) : SkS W n M ab tb mb gB gT gS :=
 ⟨h.tg.chs hc h.ne.1 h.ne.2.1 h.ne.2.2.1, (hc.block gT h.bT.lt (Ne.symm h.ne.2.2.2.1)).trans h.bT, (hc.block gS h.bS.lt (Ne.symm h.ne.2.2.2.2)).trans h.bS, h.ne⟩
theorem SkS.step {X W : World} {n M ab tb mb gB gT gS : Nat} (h : SkS X n M ab tb mb gB gT gS) (hb : Below X.heap.size X W) : SkS W n M ab tb mb gB gT gS := h.chs (.of_below hb)
def BsAt (X : World) (gB : Nat) (best : List Nat) : Prop := ∃ (A : Option Addr) (c : Nat), Blk X gB 24 [.slice A best.length c] ∧ Rd nv X X.heap.size A best
theorem BsAt.step {X W : World} {gB : Nat} {best : List Nat} (h : BsAt X gB best) (hb : Below X.heap.size X W) : BsAt W gB best := by
 obtain ⟨A, c, h1, h2⟩ := h
 exact ⟨A, c, (hb.block gB h1.lt).trans h1, (h2.below hb).more hb.size⟩
theorem Rd.chs {X W : World} {gB : Nat} {A A' : Option Addr} {l c : Nat} {L : List Nat} (h : Rd nv X X.heap.size A L) (hB : Blk X gB 24 [.slice A' l c]) (hc : Chs gB X W) : Rd nv W W.heap.size A L := fun hl => by
 obtain ⟨b, off, rfl, hb, hk⟩ := h hl
 have hne : b ≠ gB := fun e => by
  subst e
  have h0 := hk 0 hl
  rw [hB.cell] at h0
  rcases Nat.eq_zero_or_pos off with h1 | h1
  ·subst h1; simp at h0
  ·rw [List.getElem?_eq_none (by simp; omega)] at h0; cases h0
 refine ⟨b, off, rfl, Nat.lt_of_lt_of_le hb hc.size, fun i hi => ?_⟩
 have := hk i hi
 unfold World.cell? at this ⊢
 rw [hc.block b hb hne]; exact this
theorem own_form2 {w : World} {base : Nat} {e : TypeId} {size n : Nat} {v : Value} {xs : List Value} (h : w.ownsRow base e size v n xs) (hn : v ≠ .slice none 0 0) : ∃ g cap, v = .slice (some ⟨g, 0, none⟩) n cap ∧ n ≤ cap ∧ cap ≤ maxLen ∧ base ≤ g ∧ g < w.heap.size := by
 rcases h.2 with ⟨h', _⟩ | ⟨g, cap, cur, hv, hb, hg, hnc, hmx, _⟩
 ·exact absurd h' hn
 ·exact ⟨g, cap, hv, hnc, hmx, hb, (Array.getElem?_eq_some_iff.1 hg).1⟩
theorem elem24x : Tryz.prog.elem 24 = 3 := by unfold Program.elem; rw [Tryz.underlying24]
theorem slice_from (b off k l c : Nat) (k2 : Int) (hk : k2 = (k : Int)) (hl : k ≤ l) : ∃ o cr, (o = off + k ∨ c = k) ∧ ∀ W : World, (Instr.slice 24 (.slice (some ⟨b, off, none⟩) l c) (some (.int .i64 k2)) none none).run Tryz.prog W = .ok (.slice (some ⟨b, o, none⟩) (l - k) cr) W := by
 subst hk
 have h0 : (0 : Int) ≤ (k : Int) := by omega
 have h1 : (k : Int) ≤ (l : Int) := by omega
 by_cases hc : c = k
 ·refine ⟨off, c - k, .inr hc, fun W => ?_⟩
  rw [run_slice_l W 24 (some ⟨b, off, none⟩) l c (by rw [elem24x]; exact Tryz.underlying24) .i64 (k : Int) h0 h1]
  have hs : (sizeOf (Tryz.prog.elem 24)).run Tryz.prog W = .ok 1 W := by rw [elem24x]; exact Tryz.sizeOf3 W
  rw [hs]
  simp [Result.andThen, sliced, hc]
 ·refine ⟨off + k, c - k, .inl rfl, fun W => ?_⟩
  rw [run_slice_l W 24 (some ⟨b, off, none⟩) l c (by rw [elem24x]; exact Tryz.underlying24) .i64 (k : Int) h0 h1]
  have hs : (sizeOf (Tryz.prog.elem 24)).run Tryz.prog W = .ok 1 W := by rw [elem24x]; exact Tryz.sizeOf3 W
  rw [hs]
  simp [Result.andThen, sliced, hc, Addr.add]
theorem map_nat_nv (L : List Nat) : (L.map fun x : Nat => (x : Int)).map (Value.int .i64) = L.map nv := by rw [List.map_map]; rfl
theorem iclone_any (b off n c : Nat) (L : List Nat) (w : World) (hL : Rd nv w w.heap.size (some ⟨b, off, none⟩) L) (hn : n = L.length) (hn1 : n ≤ 100000) :
  Calls Tryz.prog 51 #[.slice (some ⟨b, off, none⟩) n c] w fun e w' => ∃ g c', e = .returned (.slice (some ⟨g, 0, none⟩) n c') ∧ w.heap.size ≤ g ∧ g < w'.heap.size ∧ RwF w' g n (fun t => L.getD t 0) ∧ n ≤ c' ∧ c' ≤ 9223372036854775807 ∧ Below w.heap.size w w' := by
 rcases Nat.eq_zero_or_pos n with h0 | h0
 ·subst h0
  refine (Tryz.slices_Clone_int_zero ⟨b, off, none⟩ c w).mono ?_
  rintro e w' ⟨v', rfl, hown, hne, hb⟩
  obtain ⟨g, cap, rfl, h1, h2, h3, h4⟩ := own_form2 hown hne
  have hL0 : L = [] := List.length_eq_zero_iff.1 hn.symm
  subst hL0
  unfold maxLen at h2
  exact ⟨g, cap, rfl, h3, h4, (RwF.of_own (L := []) hown rfl).1, h1, by omega, hb⟩
 ·obtain ⟨b', off', e1, e2, hk⟩ := hL (by omega)
  injection e1 with e1
  injection e1 with e1 e3 _
  subst e1; subst e3
  refine (Tryz.slices_Clone_int b off n c (L.map fun x : Nat => (x : Int)) w (by rw [List.length_map]; omega) (by omega) (fun j hj => by
   rw [List.length_map] at hj
   rw [hk j hj, List.getD_eq_getElem?_getD, List.getElem?_map, List.getElem?_eq_getElem hj]
   rfl)).mono ?_
  rintro e w' ⟨v', rfl, hown, hne, hb⟩
  obtain ⟨g, cap, rfl, h1, h2, h3, h4⟩ := own_form2 hown hne
  rw [List.take_of_length_le (by rw [List.length_map]; omega), map_nat_nv] at hown
  unfold maxLen at h2
  exact ⟨g, cap, rfl, h3, h4, (RwF.of_own hown hn).1, h1, by omega, hb⟩
theorem RwF.rd {W : World} {g n : Nat} {L : List Nat} (h : RwF W g n (fun t => L.getD t 0)) (hn : n = L.length) : Rd nv W W.heap.size (some ⟨g, 0, none⟩) L := fun _ => by
 refine ⟨g, 0, rfl, h.lt, fun i hi => ?_⟩
 rw [Nat.zero_add, (h.cell (t := i) (by omega)).1, List.getD_eq_getElem?_getD, List.getElem?_eq_getElem hi]
 rfl
def SkPost (gB : Nat) (r : List Nat) (X : World) (e : Ending) (w' : World) : Prop := e = .returned (.tuple #[]) ∧ Chs gB X w' ∧ BsAt w' gB r
theorem apGo_step {tg : Nat → Nat → Bool} {f k : Nat} {chosen bst rest : List Nat} (hk : k < rest.length) : apGo (apSeek tg f) tg chosen bst (rest.drop k) = if chosen.length + (rest.length - k) ≤ bst.length then bst else apGo (apSeek tg f) tg chosen (apSeek tg f bst (chosen ++ [rest.getD k 0]) ((rest.drop (k + 1)).filter fun x => !tg (rest.getD k 0) x)) (rest.drop (k + 1)) := by
 have e : rest.drop k = rest.getD k 0 :: rest.drop (k + 1) := by
  rw [List.drop_eq_getElem_cons hk, List.getD_eq_getElem?_getD, List.getElem?_eq_getElem hk]; rfl
 rw [e, apGo]
 have : (rest.drop (k + 1)).length + 1 = rest.length - k := by rw [List.length_drop]; omega
 rw [this]
theorem wp_ex {P : Program} {c : Code} {Q : Exit → Act → World → Prop} {w : World} {ι : Type} (F : ι → Act) {a : Act} (h : ∀ z, c.wp P Q (F z) w) (he : ∃ z, a = F z) : c.wp P Q a w := by
 obtain ⟨z, rfl⟩ := he
 exact h z
theorem slice_full (A : Option Addr) (l c : Nat) (hl : l ≤ c) : ∀ W : World, (Instr.slice 24 (.slice A l c) none (some (.int .i64 (l : Int))) (some (.int .i64 (l : Int)))).run Tryz.prog W = .ok (.slice A l l) W := fun W => by
 have h0 : (0 : Int) ≤ (l : Int) := by omega
 have h1 : (l : Int) ≤ (c : Int) := by omega
 rw [run_slice_hm W 24 A l c (by rw [elem24x]; exact Tryz.underlying24) .i64 .i64 (l : Int) (l : Int) h0 (Int.le_refl _) h1]
 have hs : (sizeOf (Tryz.prog.elem 24)).run Tryz.prog W = .ok 1 W := by rw [elem24x]; exact Tryz.sizeOf3 W
 rw [hs]
 by_cases e : l = 0
 ·subst e; simp [Result.andThen, sliced]
 ·cases A <;> simp [Result.andThen, sliced, Addr.add]
def SkP (W3 : World) (gB l1 row : Nat) (chosen nb : List Nat) (m8 m9 m11 : Bool) (gN : Nat) (Av : Option Addr) (cv : Nat) (W : World) : Prop :=
 (m11 = true → Chs gB W3 W ∧ BsAt W gB nb) ∧ (m11 = false → Below W3.heap.size W3 W ∧ (m8 = true → Blk W gN 3 [nv row]) ∧ (m9 = true → Rd nv W W.heap.size Av (chosen ++ [row]) ∧ l1 + 1 ≤ cv ∧ Av ≠ none))
theorem SkP.chs {W3 W : World} {gB l1 row : Nat} {chosen nb : List Nat} {m8 m9 m11 : Bool} {gN cv : Nat} {Av : Option Addr} (h : SkP W3 gB l1 row chosen nb m8 m9 m11 gN Av cv W) : Chs gB W3 W := by
 cases m11
 ·exact .of_below (h.2 rfl).1
 ·exact (h.1 rfl).1
theorem SkP.start {W3 W : World} {gB l1 row : Nat} {chosen nb : List Nat} {gN cv : Nat} {Av : Option Addr} (h : Below W3.heap.size W3 W) : SkP W3 gB l1 row chosen nb false false false gN Av cv W :=
 ⟨fun e => (by cases e), fun _ => ⟨h, fun e => (by cases e), fun e => (by cases e)⟩⟩
theorem SkP.s8 {W3 W : World} {gB l1 row : Nat} {chosen nb : List Nat} {gN cv : Nat} {Av : Option Addr} (h : SkP W3 gB l1 row chosen nb false false false gN Av cv W) : SkP W3 gB l1 row chosen nb true false false W.heap.size Av cv (W.alloc (.cells #[nv row] 3)) :=
 ⟨fun e => (by cases e), fun _ => ⟨bw_new (h.2 rfl).1 _, fun _ => heap_alloc_new W _, fun e => (by cases e)⟩⟩
theorem SkP.s9 {W3 W w' : World} {gB l1 row : Nat} {chosen nb : List Nat} {gN cv c : Nat} {Av A : Option Addr} {n : Nat} (h : SkP W3 gB l1 row chosen nb true false false gN Av cv W) (hg : W.grownBy w' none) (ho : w'.ownsRow W.heap.size 3 1 (.slice A n c) n (chosen.map nv ++ [nv row])) (hn : n = l1 + 1) (hl : l1 = chosen.length) : SkP W3 gB l1 row chosen nb true true false gN A c w' := by
 have hb : Below W.heap.size W w' := (Below.refl _ _).grown hg (Nat.le_refl _) (fun k e => (by cases e))
 have hb3 := (h.2 rfl).1
 refine ⟨fun e => (by cases e), fun _ => ⟨hb3.trans (hb.mono hb3.size), fun _ => (hb.block gN ((h.2 rfl).2.1 rfl).lt).trans ((h.2 rfl).2.1 rfl), fun _ => ⟨?_, ?_, ?_⟩⟩⟩
 ·refine Rd.of_own (L := chosen ++ [row]) (by rw [List.map_append]; exact ho) (by rw [List.length_append, hn, hl]; rfl)
 ·rw [← hn]; exact own_cap ho
 ·obtain ⟨g, cap, hv, -⟩ := own_form ho (by omega)
  injection hv with e1
  rw [e1]; simp
theorem SkP.s11 {W3 W w' : World} {gB l1 row : Nat} {chosen nb : List Nat} {m8 m9 : Bool} {gN cv : Nat} {Av : Option Addr} (h : SkP W3 gB l1 row chosen nb m8 m9 false gN Av cv W) (hc : Chs gB W w') (hb : BsAt w' gB nb) : SkP W3 gB l1 row chosen nb true true true gN Av cv w' :=
 ⟨fun _ => ⟨h.chs.trans hc, hb⟩, fun e => (by cases e)⟩
theorem add_pl (b o j : Nat) : (⟨b, o, none⟩ : Addr).add j = ⟨b, o + j, none⟩ := by
 by_cases h : j = 0
 ·subst h; simp [Addr.add]
 ·simp [Addr.add, h]
theorem infoIntS : (Tryz.prog.info? 3).map (fun i => (i.zero, i.size, i.bytes)) = some (some (.int .i64 0), 1, 8) := by kernel_rfl
set_option maxRecDepth 1000000 in
set_option maxHeartbeats 8000000 in
theorem iseek_any (n M ab tb mb gB gT gS : Nat) (hn : n ≤ 8) : ∀ (f : Nat) (best chosen rest : List Nat) (A1 A2 : Option Addr) (l1 c1 l2 c2 : Nat) (X : World), SkS X n M ab tb mb gB gT gS → BsAt X gB best →
  Rd nv X X.heap.size A1 chosen → l1 = chosen.length → (A1 = none → l1 = 0 ∧ c1 = 0) → l1 ≤ c1 → Rd nv X X.heap.size A2 rest → l2 = rest.length → l2 ≤ c2 → c2 ≤ 9223372036854775807 → (∀ r ∈ chosen, r < 256) → (∀ r ∈ rest, r < 256) → l1 + l2 ≤ 1000 → l2 < f →
  Calls Tryz.prog 50 #[.slice A1 l1 c1, .slice A2 l2 c2, .pointer (some ⟨gB, 0, none⟩), .pointer (some ⟨gT, 0, none⟩), .pointer (some ⟨gS, 0, none⟩)] X (SkPost gB (apSeek (togB n M) f best chosen rest) X) := by
 intro f
 induction f with
 | zero => intro best chosen rest A1 A2 l1 c1 l2 c2 X _ _ _ _ _ _ _ _ _ _ _ _ _ h; exact absurd h (Nat.not_lt_zero _)
 | succ f ih =>
  intro best chosen rest A1 A2 l1 c1 l2 c2 X hS hB h1 hl1 hA1 hc1 h2 hl2 hc2 hc9 hr1 hr2 hl hf
  obtain ⟨R, hR⟩ : ∃ R, R = apSeek (togB n M) (f + 1) best chosen rest := ⟨_, rfl⟩
  rw [← hR]
  rw [apSeek] at hR
  obtain ⟨bst0, hb0⟩ : ∃ b, b = if best.length < chosen.length then chosen else best := ⟨_, rfl⟩
  rw [← hb0] at hR
  have HR := Lib.hid hR
  have HIH := Lib.hid ih
  have HS := Lib.hid hS
  have HP := Lib.hid (And.intro hl1 (And.intro hl2 (And.intro hr1 (And.intro hr2 (And.intro hA1 (And.intro hl hf))))))
  have H1 := Lib.hid h1
  have H2 := Lib.hid h2
  have HB0 := Lib.hid hb0
  obtain ⟨A0, c0, hbB, hbR⟩ := hB
  obtain ⟨l0, hl0⟩ : ∃ l, l = best.length := ⟨_, rfl⟩
  rw [← hl0] at hbB
  have HBL := Lib.hid hl0
  have HBB := Lib.hid hbB
  have HBR := Lib.hid hbR
  have q0 : X.cell? ⟨gB, 0, none⟩ = some (.slice A0 l0 c0) := hbB.cell 0
  have q1 : X.frozen? ⟨gB, 0, none⟩ = false := hbB.frozen 0
  have hl1k : l1 ≤ 1000 := by omega
  obtain ⟨i0, hi0, hz0, hz1, hz2⟩ := info_parts infoIntS
  have HI0 := Lib.hid hi0
  have HZ0 := Lib.hid hz0
  have HZ1 := Lib.hid hz1
  have HZ2 := Lib.hid hz2
  have hl2k : l2 ≤ 1000 := by omega
  clear hi0 hz0 hz1 hz2 hR ih hS hl1 hl2 hr1 hr2 hA1 hf h1 h2 hb0 hbB hbR hl0
  by_cases hlt : l0 < l1
  ·have HBS := Lib.hid (show bst0 = chosen by rw [HB0.out, if_pos (by have := HP.out.1; have := HBL.out; omega)])
   obtain ⟨b1, off1, hA1e, hb1, -⟩ := H1.out (by have := HP.out.1; omega)
   have hcl0 := iclone_any b1 off1 l1 c1 chosen X (by rw [← hA1e]; exact H1.out) HP.out.1 (by omega)
   rw [← hA1e] at hcl0
   have HCL := Lib.hid hcl0
   have hltz : (l0 : Int) < (l1 : Int) := by omega
   have hgl : gB < X.heap.size := HBB.out.lt
   have HLT := Lib.hid hlt
   clear hb1 hlt hcl0 hA1e
   go_enter Tryz.func50, Tryz.ntmps50
   go_wp2_with fail
   refine HCL.out.mono ?_
   rintro e w1 ⟨g1, c1', rfl, hg1, hg1', hrw, hc1', hc19, hb1⟩
   have hbB1 : Blk w1 gB 24 [.slice A0 l0 c0] := (hb1.block gB hgl).trans HBB.out
   have q0 : w1.cell? ⟨gB, 0, none⟩ = some (.slice A0 l0 c0) := hbB1.cell 0
   have q1 : w1.frozen? ⟨gB, 0, none⟩ = false := hbB1.frozen 0
   obtain ⟨X1, hX1⟩ : ∃ W, W = w1.setCell ⟨gB, 0, none⟩ (.slice (some ⟨g1, 0, none⟩) l1 c1') := ⟨_, rfl⟩
   have hch : Chs gB X X1 := by rw [hX1]; exact (Chs.of_below hb1).set 0 _
   have hbs : BsAt X1 gB bst0 := by
    refine ⟨some ⟨g1, 0, none⟩, c1', ?_, ?_⟩
    ·have := hbB1.put 0 (.slice (some ⟨g1, 0, none⟩) l1 c1')
     rw [hX1, HBS.out, ← HP.out.1]; exact this
    ·have h3 : Chs gB w1 X1 := by rw [hX1]; exact (Chs.refl _ _).set 0 _
     rw [HBS.out]
     exact (hrw.rd HP.out.1).chs hbB1 h3
   have HCH := Lib.hid hch
   have HBS0 := Lib.hid hbs
   have HX1 := Lib.hid hX1
   clear hrw hb1 hbB1 hch hbs hX1 hgl hg1 hg1' hc1' hc19
   go_wp2_with fail
   rw [← HX1.out]
   refine wp_ex (fun z : Value × Value × Value => ({ tmps := #[Value.slice A1 l1 c1, Value.slice A2 l2 c2, .pointer (some ⟨gB, 0, none⟩), .pointer (some ⟨gT, 0, none⟩), .pointer (some ⟨gS, 0, none⟩), undef, undef, undef, undef, undef, Value.slice A1 l1 c1, .int .i64 (l1 : Int), Value.slice A0 l0 c0, .int .i64 (l0 : Int), z.1, z.2.1, z.2.2, Value.slice A2 l2 c2, .int .i64 (l2 : Int), .int .i64 0, undef, undef, undef, undef, undef, undef, undef, undef, undef, undef, undef, undef, undef, undef, undef, undef, undef, undef, undef, undef, undef, undef, undef, undef, undef, undef, undef, undef, undef, undef, undef, undef, undef, undef], defers := [] } : Act)) ?_ ⟨(_, _, _), rfl⟩
   rintro ⟨z14, z15, z16⟩
   dsimp only
   go_loopw [19] (fun x wr => ∃ (k : Nat) (bst : List Nat), k ≤ l2 ∧ x = .int .i64 (k : Int) ∧ Chs gB X wr ∧ BsAt wr gB bst ∧ R = apGo (apSeek (togB n M) f) (togB n M) chosen bst (rest.drop k)) (fun x _ => l2 - (intOf x).toNat)
   case atStart => exact ⟨0, bst0, Nat.zero_le _, rfl, HCH.out, HBS0.out, HR.out⟩
   case round =>
    obtain ⟨k, bst, hk, rfl, hch, hbs, hrr⟩ := hrel
    have HCHk := Lib.hid hch
    have HRR := Lib.hid hrr
    have HSk := Lib.hid (HS.out.chs hch)
    have HBk := Lib.hid hbs
    have H1k := Lib.hid (H1.out.chs HBB.out hch)
    have H2k := Lib.hid (H2.out.chs HBB.out hch)
    obtain ⟨A3, c3, hbB3, -⟩ := hbs
    obtain ⟨l3, hl3⟩ : ∃ l, l = bst.length := ⟨_, rfl⟩
    rw [← hl3] at hbB3
    have HL3 := Lib.hid hl3
    have HB3 := Lib.hid hbB3
    clear hch hrr hl3 HCH HBS0
    by_cases hkl : k < l2
    ·obtain ⟨b2, off2, hA2e, hb2, hcs⟩ := H2k.out (by have := HP.out.2.1; omega)
     have ck := hcs k (by have := HP.out.2.1; omega)
     have hrk : rest.getD k 0 = rest[k]'(by have := HP.out.2.1; omega) := by rw [List.getD_eq_getElem?_getD, List.getElem?_eq_getElem (by have := HP.out.2.1; omega)]; rfl
     rw [← hrk] at ck
     have HROW := Lib.hid (show rest.getD k 0 < 256 from HP.out.2.2.2.1 _ (by rw [hrk]; exact List.getElem_mem _))
     have HST := Lib.hid (HRR.out.trans (apGo_step (by have := HP.out.2.1; omega)))
     obtain ⟨row, hrow⟩ : ∃ r, r = rest.getD k 0 := ⟨_, rfl⟩
     rw [← hrow] at ck HROW HST
     have HRW := Lib.hid hrow
     have q2 : wr.cell? ⟨gB, 0, none⟩ = some (.slice A3 l3 c3) := hbB3.cell 0
     have hgl : gB < wr.heap.size := hbB3.lt
     subst hA2e
     have hkl2 : (k : Int) < (l2 : Int) := by omega
     obtain ⟨s1, hs1⟩ : ∃ z : Int, z = (l1 : Int) + l2 := ⟨_, rfl⟩
     obtain ⟨s2, hs2⟩ : ∃ z : Int, z = s1 - k := ⟨_, rfl⟩
     obtain ⟨k2, hk2⟩ : ∃ z : Int, z = (k : Int) + 1 := ⟨_, rfl⟩
     have hw1 : IntKind.i64.wrap ((l1 : Int) + (l2 : Int)) = s1 := by rw [hs1]; exact IntWalk.i64_in _ (by omega)
     have hw2 : IntKind.i64.wrap (s1 - (k : Int)) = s2 := by rw [hs2]; exact IntWalk.i64_in _ (by omega)
     have hwk : IntKind.i64.wrap ((k : Int) + 1) = k2 := by rw [hk2]; exact IntWalk.i64_in _ (by omega)
     have HKL := Lib.hid hkl
     have HK2 := Lib.hid hk2
     have HS2 := Lib.hid (show s2 = (l1 : Int) + l2 - k by rw [hs2, hs1])
     clear hk hkl hs1 hs2 hk2 hrk hrow hcs hbB3 hb2
     by_cases hcut : s2 ≤ (l3 : Int)
     ·have HE := Lib.hid (show R = bst by rw [HST.out, if_pos (by have h1 := HP.out.1; have h2 := HP.out.2.1; have h3 := HL3.out; have h4 := HS2.out; have h5 := HKL.out; omega)])
      go_wp2_with fail
      exact bodyPost_ret (v := .tuple #[]) (results_none rfl _ _ _) rfl ⟨rfl, HCHk.out.step (bw_new (Below.refl _ _) _), by rw [HE.out]; exact HBk.out.step (bw_new (Below.refl _ _) _)⟩
     ·have HNX := Lib.hid (show R = apGo (apSeek (togB n M) f) (togB n M) chosen (apSeek (togB n M) f bst (chosen ++ [row]) ((rest.drop (k + 1)).filter fun x => !togB n M row x)) (rest.drop (k + 1)) by rw [HST.out, if_neg (by have h1 := HP.out.1; have h2 := HP.out.2.1; have h3 := HL3.out; have h4 := HS2.out; have h5 := HKL.out; omega)])
      have hk20 : 0 ≤ k2 := by have := HK2.out; omega
      have hk2l : k2 ≤ (l2 : Int) := by have := HK2.out; have := HKL.out; omega
      have hk2n : k2.toNat = k + 1 := by have := HK2.out; omega
      have HSA := Lib.hid (HSk.out.step (bw_new (Below.refl _ _) (.cells #[.int .i64 (row : Int)] 3)))
      have HCA := Lib.hid (HCHk.out.step (bw_new (Below.refl _ _) (.cells #[.int .i64 (row : Int)] 3)))
      have HBA := Lib.hid (HBk.out.step (bw_new (Below.refl _ _) (.cells #[.int .i64 (row : Int)] 3)))
      have H1A := Lib.hid ((H1k.out.below (bw_new (Below.refl wr.heap.size wr) (.cells #[.int .i64 (row : Int)] 3))).more (bw_new (Below.refl wr.heap.size wr) (.cells #[.int .i64 (row : Int)] 3)).size)
      have hrdk : Rd nv wr wr.heap.size (some ⟨b2, off2 + (k + 1), none⟩) (rest.drop (k + 1)) := fun hl => by
       rw [List.length_drop] at hl
       obtain ⟨b', off', e1, e2, hk'⟩ := H2k.out (by omega)
       injection e1 with e1
       injection e1 with e1 e3 _
       subst e1; subst e3
       refine ⟨b2, off2 + (k + 1), rfl, e2, fun i hi => ?_⟩
       rw [List.length_drop] at hi
       rw [List.getElem_drop, Nat.add_assoc]
       exact hk' (k + 1 + i) (by omega)
      have hcl : ∀ o4 c4, (o4 = off2 + (k + 1) ∨ c2 = k + 1) → Calls Tryz.prog 51 #[.slice (some ⟨b2, o4, none⟩) (l2 - (k + 1)) c4] (wr.alloc (.cells #[.int .i64 (row : Int)] 3)) fun e w' => ∃ g c', e = .returned (.slice (some ⟨g, 0, none⟩) (l2 - (k + 1)) c') ∧ (wr.alloc (.cells #[.int .i64 (row : Int)] 3)).heap.size ≤ g ∧ g < w'.heap.size ∧ RwF w' g (l2 - (k + 1)) (fun t => (rest.drop (k + 1)).getD t 0) ∧ l2 - (k + 1) ≤ c' ∧ c' ≤ 9223372036854775807 ∧ Below (wr.alloc (.cells #[.int .i64 (row : Int)] 3)).heap.size (wr.alloc (.cells #[.int .i64 (row : Int)] 3)) w' := fun o4 c4 ho => by
       refine iclone_any b2 o4 (l2 - (k + 1)) c4 (rest.drop (k + 1)) _ ?_ (by rw [List.length_drop, HP.out.2.1]) (by omega)
       have hbw : Below wr.heap.size wr (wr.alloc (.cells #[.int .i64 (row : Int)] 3)) := bw_new (Below.refl _ _) _
       rcases ho with rfl | ho
       ·exact (hrdk.below hbw).more hbw.size
       ·have : rest.drop (k + 1) = [] := List.drop_eq_nil_of_le (by have := HP.out.2.1; omega)
        rw [this]; exact Rd.nil
      have HCL4 := Lib.hid hcl
      have hRB : Blk (wr.alloc (.cells #[.int .i64 (row : Int)] 3)) wr.heap.size 3 [.int .i64 (row : Int)] := heap_alloc_new wr _
      have HRB := Lib.hid hRB
      have hlfr := List.length_filter_le (fun x => !togB n M row x) (rest.drop (k + 1))
      obtain ⟨left, hleft⟩ : ∃ l, l = (rest.drop (k + 1)).filter fun x => !togB n M row x := ⟨_, rfl⟩
      rw [← hleft] at hlfr
      obtain ⟨lf, hlf⟩ : ∃ l, l = left.length := ⟨_, rfl⟩
      have HLF := Lib.hid (show lf = left.length ∧ lf ≤ l2 - (k + 1) ∧ left = (rest.drop (k + 1)).filter (fun x => !togB n M row x) from ⟨hlf, by rw [hlf]; rw [List.length_drop, ← HP.out.2.1] at hlfr; exact hlfr, hleft⟩)
      have hlr1 : l2 - (k + 1) ≤ 1000 := by omega
      obtain ⟨o4, c4s, ho4, hsl⟩ := slice_from b2 off2 (k + 1) l2 c2 k2 (by rw [HK2.out]; rfl) (by have := HKL.out; omega)
      have HO4 := Lib.hid ho4
      clear hcl hrdk hRB hlfr hleft hlf ho4
      go_wp2_with fail
      refine (HCL4.out _ _ HO4.out).mono ?_
      rintro e w4 ⟨g4, c4, rfl, hg4, hg4', hrw4, hc4, hc49, hb4⟩
      have HS4 := Lib.hid (HSA.out.step hb4)
      have HC4 := Lib.hid (HCA.out.step hb4)
      have HB4 := Lib.hid (HBA.out.step hb4)
      have H14 := Lib.hid ((H1A.out.below hb4).more hb4.size)
      have HR4 := Lib.hid ((hb4.block wr.heap.size (HRB.out.lt)).trans HRB.out)
      have hne4 : ∀ {b : Nat} {t : TypeId} {cs : List Value}, Blk (wr.alloc (.cells #[.int .i64 (row : Int)] 3)) b t cs → b ≠ g4 := fun h e => by have := h.lt; omega
      have hdl := idelete_any (fun x => togB n M row x) g4 gT wr.heap.size (l2 - (k + 1)) c4 (rest.drop (k + 1)) w4 hrw4 (by rw [List.length_drop, HP.out.2.1]) hlr1 hc4 hc49 (fun W hcW x hx => by
       have hx2 : x < 256 := HP.out.2.2.2.1 x (List.mem_of_mem_drop hx)
       refine idel_any n row x M ab tb mb gT wr.heap.size W hn HROW.out hx2 (HS4.out.tg.chs hcW (Ne.symm (hne4 HSA.out.tg.all)) ?_ (Ne.symm (hne4 HSA.out.tg.may))) ((hcW.block gT HS4.out.bT.lt (hne4 HSA.out.bT)).trans HS4.out.bT) ((hcW.block _ (Blk.lt HR4.out) (hne4 HRB.out)).trans HR4.out)
       have := HSA.out.tg.tab.1
       omega)
      have hdl2 : Calls Tryz.prog 52 #[.slice (some ⟨g4, 0, none⟩) (l2 - (k + 1)) c4, .func (.func 53) #[] #[.pointer (some ⟨gT, 0, none⟩), .pointer (some ⟨wr.heap.size, 0, none⟩)]] w4 fun e w' => ∃ (A' : Option Addr) (c' : Nat), e = .returned (.slice A' lf c') ∧ lf ≤ c' ∧ c' ≤ 9223372036854775807 ∧ A' ≠ none ∧ Rd nv w' w'.heap.size A' left ∧ Below (wr.alloc (.cells #[.int .i64 (row : Int)] 3)).heap.size w4 w' := hdl.mono fun e w' ⟨A', c', h1, h2, h9, h3, h4, h5⟩ => ⟨A', c', by rw [h1, HLF.out.1, HLF.out.2.2], by rw [HLF.out.1, HLF.out.2.2]; exact h2, h9, h3, by rw [HLF.out.2.2]; exact h4, h5.below hg4 hb4.size⟩
      have HDL := Lib.hid hdl2
      have HBW4 := Lib.hid hb4
      clear hdl hdl2 hg4 hg4' hrw4 hb4 hne4
      go_wp2_with fail
      refine HDL.out.mono ?_
      rintro e w5 ⟨A5, c5, rfl, hc5, hc59, hA5, hrd5, hb5⟩
      have hb45 := HBW4.out.trans hb5
      have HS5 := Lib.hid (HSA.out.step hb45)
      have HC5 := Lib.hid (HCA.out.step hb45)
      have HB5 := Lib.hid (HBA.out.step hb45)
      have H15 := Lib.hid ((H1A.out.below hb45).more hb45.size)
      have HR5 := Lib.hid ((hb45.block wr.heap.size (HRB.out.lt)).trans HRB.out)
      have HRD5 := Lib.hid hrd5
      have hs47 := slice_full A1 l1 c1 hc1
      have hgr : gB ≠ wr.heap.size := by omega
      have HGR := Lib.hid hgr
      clear hb45 hb5 hrd5 hgr
      go_upto_region 7 with fail
      refine wp_regionJ 12 #[false, false, false, false, false, false, false, false, false, false, false, false] (fun ll aa W => ∃ (m0 m1 m2 m3 m4 m5 m6 m7 m8 m9 m10 m11 : Bool) (gN : Nat) (Av : Option Addr) (cv : Nat), ll = #[m0, m1, m2, m3, m4, m5, m6, m7, m8, m9, m10, m11] ∧ aa = ({ tmps := #[Value.slice A1 l1 c1, Value.slice (some { block := b2, off := off2 }) l2 c2, Value.pointer (some { block := gB, off := 0 }), Value.pointer (some { block := gT, off := 0 }), Value.pointer (some { block := gS, off := 0 }), undef, undef, Value.int IntKind.i64 (k : Int), Value.pointer (some { block := wr.heap.size, off := 0 }), Value.slice A5 lf c5, Value.slice A1 l1 c1, Value.int IntKind.i64 (l1 : Int), Value.slice A0 l0 c0, Value.int IntKind.i64 (l0 : Int), z14, z15, z16, Value.slice (some { block := b2, off := off2 }) l2 c2, Value.int IntKind.i64 (l2 : Int), Value.int IntKind.i64 (k : Int), Value.bool true, Value.int IntKind.i64 (k : Int), Value.pointer (some { block := b2, off := off2 + k }), nv row, Value.slice A1 l1 c1, Value.int IntKind.i64 (l1 : Int), Value.slice (some { block := b2, off := off2 }) l2 c2, Value.int IntKind.i64 (l2 : Int), Value.int IntKind.i64 s1, Value.int IntKind.i64 (k : Int), Value.int IntKind.i64 s2, Value.slice A3 l3 c3, Value.int IntKind.i64 (l3 : Int), Value.bool false, Value.slice (some { block := b2, off := off2 }) l2 c2, Value.int IntKind.i64 (k : Int), Value.int IntKind.i64 k2, Value.slice (some { block := b2, off := o4 }) (l2 - (k + 1)) c4s, Value.slice (some { block := g4, off := 0 }) (l2 - (k + 1)) c4, Value.func (Fn.func 53) #[] #[Value.pointer (some { block := gT, off := 0 }), Value.pointer (some { block := wr.heap.size, off := 0 })], Value.slice A5 lf c5, cwX m0 (fSk gB gT gS) (u41), cwX m1 (.slice A1 l1 c1) (u42), cwX m2 (.slice A1 l1 c1) (u43), cwX m3 (.int .i64 (l1 : Int)) (u44), cwX m4 (.slice A1 l1 c1) (u45), cwX m5 (.int .i64 (l1 : Int)) (u46), cwX m6 (.slice A1 l1 l1) (u47), cwX m7 (nv row) (u48), cwX m8 (.slice (some ⟨gN, 0, none⟩) 1 1) (u49), cwX m9 (.slice Av (l1 + 1) cv) (u50), cwX m10 (.slice A5 lf c5) (u51), cwX m11 (.tuple #[]) (u52), u53], defers := [] } : Act) ∧ ((m9 = true → m8 = true) ∧ (m11 = true → m9 = true)) ∧ SkP w5 gB l1 row chosen (apSeek (togB n M) f bst (chosen ++ [row]) left) m8 m9 m11 gN Av cv W) (by kernel_rfl) (by kernel_rfl) (by kernel_rfl) (by kernel_rfl) ?_ ?_ ?_ ?_
      ·rintro ll aa W ⟨m0, m1, m2, m3, m4, m5, m6, m7, m8, m9, m10, m11, gN, Av, cv, rfl, _⟩
       rfl
      ·exact ⟨false, false, false, false, false, false, false, false, false, false, false, false, 0, none, 0, rfl, rfl, ⟨fun h => absurd h (by simp), fun h => absurd h (by simp)⟩, SkP.start (bw_drew (Below.refl _ _))⟩
      ·rintro ll aa W i o ⟨m0, m1, m2, m3, m4, m5, m6, m7, m8, m9, m10, m11, gN, Av, cv, rfl, rfl, hi0, hm⟩ ho hun hall K hK
       have hi : i < 12 := (Array.getElem?_eq_some_iff.1 ho).1
       have HM := Lib.hid hm
       have HI := Lib.hid hi0
       clear hm hi0
       rcases (show i = 0 ∨ i = 1 ∨ i = 2 ∨ i = 3 ∨ i = 4 ∨ i = 5 ∨ i = 6 ∨ i = 7 ∨ i = 8 ∨ i = 9 ∨ i = 10 ∨ i = 11 by omega) with rfl | rfl | rfl | rfl | rfl | rfl | rfl | rfl | rfl | rfl | rfl | rfl
       ·cases ho
        simp at hun; subst hun
        clear hall hi
        have q3 : W.cell? ⟨gS, 0, none⟩ = some (fSk gB gT gS) := (HS5.out.chs HM.out.chs).bS.cell 0
        go_simp
        exact hK.out _ _ ⟨true, m1, m2, m3, m4, m5, m6, m7, m8, m9, m10, m11, gN, Av, cv, rfl, rfl, by obtain ⟨h0, h1⟩ := HI.out; exact ⟨fun e => by first | rfl | exact h0 e | exact absurd e (by simp), fun e => by first | rfl | exact h1 e | exact absurd e (by simp)⟩, HM.out⟩
       ·cases ho
        simp at hun; subst hun
        clear hall hi
        go_simp
        exact hK.out _ _ ⟨m0, true, m2, m3, m4, m5, m6, m7, m8, m9, m10, m11, gN, Av, cv, rfl, rfl, by obtain ⟨h0, h1⟩ := HI.out; exact ⟨fun e => by first | rfl | exact h0 e | exact absurd e (by simp), fun e => by first | rfl | exact h1 e | exact absurd e (by simp)⟩, HM.out⟩
       ·cases ho
        simp at hun; subst hun
        clear hall hi
        go_simp
        exact hK.out _ _ ⟨m0, m1, true, m3, m4, m5, m6, m7, m8, m9, m10, m11, gN, Av, cv, rfl, rfl, by obtain ⟨h0, h1⟩ := HI.out; exact ⟨fun e => by first | rfl | exact h0 e | exact absurd e (by simp), fun e => by first | rfl | exact h1 e | exact absurd e (by simp)⟩, HM.out⟩
       ·cases ho
        cases (getBX hall 2 rfl : m2 = true)
        simp at hun; subst hun
        clear hall hi
        go_simp
        exact hK.out _ _ ⟨m0, m1, true, true, m4, m5, m6, m7, m8, m9, m10, m11, gN, Av, cv, rfl, rfl, by obtain ⟨h0, h1⟩ := HI.out; exact ⟨fun e => by first | rfl | exact h0 e | exact absurd e (by simp), fun e => by first | rfl | exact h1 e | exact absurd e (by simp)⟩, HM.out⟩
       ·cases ho
        simp at hun; subst hun
        clear hall hi
        go_simp
        exact hK.out _ _ ⟨m0, m1, m2, m3, true, m5, m6, m7, m8, m9, m10, m11, gN, Av, cv, rfl, rfl, by obtain ⟨h0, h1⟩ := HI.out; exact ⟨fun e => by first | rfl | exact h0 e | exact absurd e (by simp), fun e => by first | rfl | exact h1 e | exact absurd e (by simp)⟩, HM.out⟩
       ·cases ho
        cases (getBX hall 4 rfl : m4 = true)
        simp at hun; subst hun
        clear hall hi
        go_simp
        exact hK.out _ _ ⟨m0, m1, m2, m3, true, true, m6, m7, m8, m9, m10, m11, gN, Av, cv, rfl, rfl, by obtain ⟨h0, h1⟩ := HI.out; exact ⟨fun e => by first | rfl | exact h0 e | exact absurd e (by simp), fun e => by first | rfl | exact h1 e | exact absurd e (by simp)⟩, HM.out⟩
       ·cases ho
        cases (getBX hall 1 rfl : m1 = true)
        cases (getBX hall 3 rfl : m3 = true)
        cases (getBX hall 5 rfl : m5 = true)
        simp at hun; subst hun
        clear hall hi
        go_simp
        exact hK.out _ _ ⟨m0, true, m2, true, m4, true, true, m7, m8, m9, m10, m11, gN, Av, cv, rfl, rfl, by obtain ⟨h0, h1⟩ := HI.out; exact ⟨fun e => by first | rfl | exact h0 e | exact absurd e (by simp), fun e => by first | rfl | exact h1 e | exact absurd e (by simp)⟩, HM.out⟩
       ·cases ho
        simp at hun; subst hun
        clear hall hi
        have q3 : W.cell? ⟨wr.heap.size, 0, none⟩ = some (.int .i64 (row : Int)) := Blk.cell (cs := [.int .i64 (row : Int)]) ((HM.out.chs.block _ (Blk.lt HR5.out) (Ne.symm HGR.out)).trans HR5.out) 0
        go_simp
        exact hK.out _ _ ⟨m0, m1, m2, m3, m4, m5, m6, true, m8, m9, m10, m11, gN, Av, cv, rfl, rfl, by obtain ⟨h0, h1⟩ := HI.out; exact ⟨fun e => by first | rfl | exact h0 e | exact absurd e (by simp), fun e => by first | rfl | exact h1 e | exact absurd e (by simp)⟩, HM.out⟩
       ·cases ho
        cases (getBX hall 7 rfl : m7 = true)
        simp at hun; subst hun
        clear hall hi
        obtain rfl : m9 = false := by
         cases m9
         ·rfl
         ·exact absurd (HI.out.1 rfl) (by simp)
        obtain rfl : m11 = false := by
         cases m11
         ·rfl
         ·exact absurd (HI.out.2 rfl) (by simp)
        have HN := Lib.hid HM.out.s8
        go_simp
        exact hK.out _ _ ⟨m0, m1, m2, m3, m4, m5, m6, true, true, false, m10, false, W.heap.size, Av, cv, rfl, rfl, by obtain ⟨h0, h1⟩ := HI.out; exact ⟨fun e => by first | rfl | exact h0 e | exact absurd e (by simp), fun e => by first | rfl | exact h1 e | exact absurd e (by simp)⟩, HN.out⟩
       ·cases ho
        cases (getBX hall 6 rfl : m6 = true)
        cases (getBX hall 8 rfl : m8 = true)
        simp at hun; subst hun
        clear hall hi
        obtain rfl : m11 = false := by
         cases m11
         ·rfl
         ·exact absurd (HI.out.2 rfl) (by simp)
        have hbk := (HM.out.2 rfl).2.1 rfl
        have hrl := HP.out.1
        have hll := HP.out.2.2.2.2.2.1
        refine step_append_grows rfl (.tmp 47) (.tmp 49) 24 rfl 3 i0 (.int .i64 0) 1 8 Tryz.underlying24 HI0.out HZ0.out HZ1.out HZ2.out rfl (by decide) A1 l1 l1 (chosen.map nv) rfl (fun e => ⟨(HP.out.2.2.2.2.1 e).1, (HP.out.2.2.2.2.1 e).1⟩) (by rw [List.length_map]; omega) (fun b hb j u hu => ?_) ⟨gN, 0, none⟩ 1 1 [nv row] rfl rfl (fun j u hu => ?_) (by simp [Value.oneCell']) (by omega) (by unfold maxLen; omega) (by omega) ?_
        ·have hjl : j < chosen.length := by have := (List.getElem?_eq_some_iff.1 hu).1; rwa [List.length_map] at this
         obtain ⟨b', off', e1, e2, hk'⟩ := ((H15.out.below (HM.out.2 rfl).1).more (HM.out.2 rfl).1.size) (by omega)
         rw [hb] at e1
         injection e1 with e1
         subst e1
         rw [List.getElem?_map, List.getElem?_eq_getElem hjl] at hu
         rw [← hu, add_pl]
         exact hk' j hjl
        ·have := hbk.cell j
         rw [hu] at this
         rw [add_pl, Nat.zero_add]
         exact this
        ·intro v' w' ho hg
         obtain ⟨g', c', hv, -⟩ := own_form ho (by omega)
         subst hv
         have HN := Lib.hid (HM.out.s9 hg ho rfl hrl)
         exact hK.out _ _ ⟨m0, m1, m2, m3, m4, m5, true, m7, true, true, m10, false, gN, some ⟨g', 0, none⟩, c', rfl, rfl, by obtain ⟨h0, h1⟩ := HI.out; exact ⟨fun e => by first | rfl | exact h0 e | exact absurd e (by simp), fun e => by first | rfl | exact h1 e | exact absurd e (by simp)⟩, HN.out⟩
       ·cases ho
        simp at hun; subst hun
        clear hall hi
        go_simp
        exact hK.out _ _ ⟨m0, m1, m2, m3, m4, m5, m6, m7, m8, m9, true, m11, gN, Av, cv, rfl, rfl, by obtain ⟨h0, h1⟩ := HI.out; exact ⟨fun e => by first | rfl | exact h0 e | exact absurd e (by simp), fun e => by first | rfl | exact h1 e | exact absurd e (by simp)⟩, HM.out⟩
       ·cases ho
        cases (getBX hall 0 rfl : m0 = true)
        cases (getBX hall 9 rfl : m9 = true)
        cases (getBX hall 10 rfl : m10 = true)
        obtain rfl : m8 = true := HI.out.1 rfl
        simp at hun; subst hun
        clear hall hi
        have hm3 := (HM.out.2 rfl).2.2 rfl
        have hbw := (HM.out.2 rfl).1
        have hih := HIH.out bst (chosen ++ [row]) left Av A5 (l1 + 1) cv lf c5 W (HS5.out.step hbw) (HB5.out.step hbw) hm3.1 (by rw [List.length_append, HP.out.1]; rfl) (fun e => absurd e hm3.2.2) hm3.2.1 ((HRD5.out.below hbw).more hbw.size) HLF.out.1 hc5 hc59 (fun r hr => by
         rcases List.mem_append.1 hr with hr | hr
         ·exact HP.out.2.2.1 r hr
         ·rw [List.mem_singleton] at hr; rw [hr]; exact HROW.out) (fun r hr => by
         rw [HLF.out.2.2] at hr
         exact HP.out.2.2.2.1 r (List.mem_of_mem_drop (List.mem_filter.1 hr).1)) (by have h1 := HLF.out.2.1; have h2 := HP.out.2.2.2.2.2.1; have h3 := HKL.out; omega) (by have h1 := HLF.out.2.1; have h2 := HP.out.2.2.2.2.2.2; have h3 := HKL.out; omega)
        have HCC := Lib.hid hih
        clear hih hm3 hbw
        go_simp
        refine HCC.out.mono ?_
        rintro e W' ⟨rfl, hch', hbs'⟩
        have HN := Lib.hid (HM.out.s11 hch' hbs')
        exact hK.out _ _ ⟨true, m1, m2, m3, m4, m5, m6, m7, true, true, true, true, gN, Av, cv, rfl, rfl, by obtain ⟨h0, h1⟩ := HI.out; exact ⟨fun e => by first | rfl | exact h0 e | exact absurd e (by simp), fun e => by first | rfl | exact h1 e | exact absurd e (by simp)⟩, HN.out⟩
      ·rintro ll aa W ⟨m0, m1, m2, m3, m4, m5, m6, m7, m8, m9, m10, m11, gN, Av, cv, rfl, rfl, _, hm⟩ hall
       cases (hall 0 (by decide) : m0 = true)
       cases (hall 1 (by decide) : m1 = true)
       cases (hall 2 (by decide) : m2 = true)
       cases (hall 3 (by decide) : m3 = true)
       cases (hall 4 (by decide) : m4 = true)
       cases (hall 5 (by decide) : m5 = true)
       cases (hall 6 (by decide) : m6 = true)
       cases (hall 7 (by decide) : m7 = true)
       cases (hall 8 (by decide) : m8 = true)
       cases (hall 9 (by decide) : m9 = true)
       cases (hall 10 (by decide) : m10 = true)
       cases (hall 11 (by decide) : m11 = true)
       clear hall
       have HF := Lib.hid (hm.1 rfl)
       clear hm
       dsimp only [cwX, cond_true]
       go_wp2_with fail
       go_roundw
       case rel => exact ⟨k + 1, _, by have := HKL.out; omega, by rw [HK2.out]; rfl, HC5.out.trans HF.out.1, HF.out.2, by rw [HNX.out, HLF.out.2.2]⟩
       case measure => have := HKL.out; have := HK2.out; simp only [intOf]; omega
    ·have hke : k = l2 := by omega
     have hkn : ¬ (k : Int) < (l2 : Int) := by omega
     have HE := Lib.hid (show R = bst by rw [HRR.out, hke, HP.out.2.1, List.drop_length]; rfl)
     clear hke hkl hk
     go_wp2_with fail
     exact bodyPost_end (v := .tuple #[]) (results_none rfl _ _ _) rfl ⟨rfl, HCHk.out, by rw [HE.out]; exact HBk.out⟩
  ·have HBS := Lib.hid (show bst0 = best by rw [HB0.out, if_neg (by have := HP.out.1; have := HBL.out; omega)])
   have hltz : ¬ (l0 : Int) < (l1 : Int) := by omega
   clear hlt
   go_enter Tryz.func50, Tryz.ntmps50
   go_wp2_with fail
   have HCH := Lib.hid (Chs.refl gB X)
   have HBS0 := Lib.hid (show BsAt X gB bst0 by rw [HBS.out]; exact ⟨A0, c0, by rw [← HBL.out]; exact HBB.out, HBR.out⟩)
   refine wp_ex (fun z : Value × Value × Value => ({ tmps := #[Value.slice A1 l1 c1, Value.slice A2 l2 c2, .pointer (some ⟨gB, 0, none⟩), .pointer (some ⟨gT, 0, none⟩), .pointer (some ⟨gS, 0, none⟩), undef, undef, undef, undef, undef, Value.slice A1 l1 c1, .int .i64 (l1 : Int), Value.slice A0 l0 c0, .int .i64 (l0 : Int), z.1, z.2.1, z.2.2, Value.slice A2 l2 c2, .int .i64 (l2 : Int), .int .i64 0, undef, undef, undef, undef, undef, undef, undef, undef, undef, undef, undef, undef, undef, undef, undef, undef, undef, undef, undef, undef, undef, undef, undef, undef, undef, undef, undef, undef, undef, undef, undef, undef, undef, undef], defers := [] } : Act)) ?_ ⟨(_, _, _), rfl⟩
   rintro ⟨z14, z15, z16⟩
   dsimp only
   go_loopw [19] (fun x wr => ∃ (k : Nat) (bst : List Nat), k ≤ l2 ∧ x = .int .i64 (k : Int) ∧ Chs gB X wr ∧ BsAt wr gB bst ∧ R = apGo (apSeek (togB n M) f) (togB n M) chosen bst (rest.drop k)) (fun x _ => l2 - (intOf x).toNat)
   case atStart => exact ⟨0, bst0, Nat.zero_le _, rfl, HCH.out, HBS0.out, HR.out⟩
   case round =>
    obtain ⟨k, bst, hk, rfl, hch, hbs, hrr⟩ := hrel
    have HCHk := Lib.hid hch
    have HRR := Lib.hid hrr
    have HSk := Lib.hid (HS.out.chs hch)
    have HBk := Lib.hid hbs
    have H1k := Lib.hid (H1.out.chs HBB.out hch)
    have H2k := Lib.hid (H2.out.chs HBB.out hch)
    obtain ⟨A3, c3, hbB3, -⟩ := hbs
    obtain ⟨l3, hl3⟩ : ∃ l, l = bst.length := ⟨_, rfl⟩
    rw [← hl3] at hbB3
    have HL3 := Lib.hid hl3
    have HB3 := Lib.hid hbB3
    clear hch hrr hl3 HCH HBS0
    by_cases hkl : k < l2
    ·obtain ⟨b2, off2, hA2e, hb2, hcs⟩ := H2k.out (by have := HP.out.2.1; omega)
     have ck := hcs k (by have := HP.out.2.1; omega)
     have hrk : rest.getD k 0 = rest[k]'(by have := HP.out.2.1; omega) := by rw [List.getD_eq_getElem?_getD, List.getElem?_eq_getElem (by have := HP.out.2.1; omega)]; rfl
     rw [← hrk] at ck
     have HROW := Lib.hid (show rest.getD k 0 < 256 from HP.out.2.2.2.1 _ (by rw [hrk]; exact List.getElem_mem _))
     have HST := Lib.hid (HRR.out.trans (apGo_step (by have := HP.out.2.1; omega)))
     obtain ⟨row, hrow⟩ : ∃ r, r = rest.getD k 0 := ⟨_, rfl⟩
     rw [← hrow] at ck HROW HST
     have HRW := Lib.hid hrow
     have q2 : wr.cell? ⟨gB, 0, none⟩ = some (.slice A3 l3 c3) := hbB3.cell 0
     have hgl : gB < wr.heap.size := hbB3.lt
     subst hA2e
     have hkl2 : (k : Int) < (l2 : Int) := by omega
     obtain ⟨s1, hs1⟩ : ∃ z : Int, z = (l1 : Int) + l2 := ⟨_, rfl⟩
     obtain ⟨s2, hs2⟩ : ∃ z : Int, z = s1 - k := ⟨_, rfl⟩
     obtain ⟨k2, hk2⟩ : ∃ z : Int, z = (k : Int) + 1 := ⟨_, rfl⟩
     have hw1 : IntKind.i64.wrap ((l1 : Int) + (l2 : Int)) = s1 := by rw [hs1]; exact IntWalk.i64_in _ (by omega)
     have hw2 : IntKind.i64.wrap (s1 - (k : Int)) = s2 := by rw [hs2]; exact IntWalk.i64_in _ (by omega)
     have hwk : IntKind.i64.wrap ((k : Int) + 1) = k2 := by rw [hk2]; exact IntWalk.i64_in _ (by omega)
     have HKL := Lib.hid hkl
     have HK2 := Lib.hid hk2
     have HS2 := Lib.hid (show s2 = (l1 : Int) + l2 - k by rw [hs2, hs1])
     clear hk hkl hs1 hs2 hk2 hrk hrow hcs hbB3 hb2
     by_cases hcut : s2 ≤ (l3 : Int)
     ·have HE := Lib.hid (show R = bst by rw [HST.out, if_pos (by have h1 := HP.out.1; have h2 := HP.out.2.1; have h3 := HL3.out; have h4 := HS2.out; have h5 := HKL.out; omega)])
      go_wp2_with fail
      exact bodyPost_ret (v := .tuple #[]) (results_none rfl _ _ _) rfl ⟨rfl, HCHk.out.step (bw_new (Below.refl _ _) _), by rw [HE.out]; exact HBk.out.step (bw_new (Below.refl _ _) _)⟩
     ·have HNX := Lib.hid (show R = apGo (apSeek (togB n M) f) (togB n M) chosen (apSeek (togB n M) f bst (chosen ++ [row]) ((rest.drop (k + 1)).filter fun x => !togB n M row x)) (rest.drop (k + 1)) by rw [HST.out, if_neg (by have h1 := HP.out.1; have h2 := HP.out.2.1; have h3 := HL3.out; have h4 := HS2.out; have h5 := HKL.out; omega)])
      have hk20 : 0 ≤ k2 := by have := HK2.out; omega
      have hk2l : k2 ≤ (l2 : Int) := by have := HK2.out; have := HKL.out; omega
      have hk2n : k2.toNat = k + 1 := by have := HK2.out; omega
      have HSA := Lib.hid (HSk.out.step (bw_new (Below.refl _ _) (.cells #[.int .i64 (row : Int)] 3)))
      have HCA := Lib.hid (HCHk.out.step (bw_new (Below.refl _ _) (.cells #[.int .i64 (row : Int)] 3)))
      have HBA := Lib.hid (HBk.out.step (bw_new (Below.refl _ _) (.cells #[.int .i64 (row : Int)] 3)))
      have H1A := Lib.hid ((H1k.out.below (bw_new (Below.refl wr.heap.size wr) (.cells #[.int .i64 (row : Int)] 3))).more (bw_new (Below.refl wr.heap.size wr) (.cells #[.int .i64 (row : Int)] 3)).size)
      have hrdk : Rd nv wr wr.heap.size (some ⟨b2, off2 + (k + 1), none⟩) (rest.drop (k + 1)) := fun hl => by
       rw [List.length_drop] at hl
       obtain ⟨b', off', e1, e2, hk'⟩ := H2k.out (by omega)
       injection e1 with e1
       injection e1 with e1 e3 _
       subst e1; subst e3
       refine ⟨b2, off2 + (k + 1), rfl, e2, fun i hi => ?_⟩
       rw [List.length_drop] at hi
       rw [List.getElem_drop, Nat.add_assoc]
       exact hk' (k + 1 + i) (by omega)
      have hcl : ∀ o4 c4, (o4 = off2 + (k + 1) ∨ c2 = k + 1) → Calls Tryz.prog 51 #[.slice (some ⟨b2, o4, none⟩) (l2 - (k + 1)) c4] (wr.alloc (.cells #[.int .i64 (row : Int)] 3)) fun e w' => ∃ g c', e = .returned (.slice (some ⟨g, 0, none⟩) (l2 - (k + 1)) c') ∧ (wr.alloc (.cells #[.int .i64 (row : Int)] 3)).heap.size ≤ g ∧ g < w'.heap.size ∧ RwF w' g (l2 - (k + 1)) (fun t => (rest.drop (k + 1)).getD t 0) ∧ l2 - (k + 1) ≤ c' ∧ c' ≤ 9223372036854775807 ∧ Below (wr.alloc (.cells #[.int .i64 (row : Int)] 3)).heap.size (wr.alloc (.cells #[.int .i64 (row : Int)] 3)) w' := fun o4 c4 ho => by
       refine iclone_any b2 o4 (l2 - (k + 1)) c4 (rest.drop (k + 1)) _ ?_ (by rw [List.length_drop, HP.out.2.1]) (by omega)
       have hbw : Below wr.heap.size wr (wr.alloc (.cells #[.int .i64 (row : Int)] 3)) := bw_new (Below.refl _ _) _
       rcases ho with rfl | ho
       ·exact (hrdk.below hbw).more hbw.size
       ·have : rest.drop (k + 1) = [] := List.drop_eq_nil_of_le (by have := HP.out.2.1; omega)
        rw [this]; exact Rd.nil
      have HCL4 := Lib.hid hcl
      have hRB : Blk (wr.alloc (.cells #[.int .i64 (row : Int)] 3)) wr.heap.size 3 [.int .i64 (row : Int)] := heap_alloc_new wr _
      have HRB := Lib.hid hRB
      have hlfr := List.length_filter_le (fun x => !togB n M row x) (rest.drop (k + 1))
      obtain ⟨left, hleft⟩ : ∃ l, l = (rest.drop (k + 1)).filter fun x => !togB n M row x := ⟨_, rfl⟩
      rw [← hleft] at hlfr
      obtain ⟨lf, hlf⟩ : ∃ l, l = left.length := ⟨_, rfl⟩
      have HLF := Lib.hid (show lf = left.length ∧ lf ≤ l2 - (k + 1) ∧ left = (rest.drop (k + 1)).filter (fun x => !togB n M row x) from ⟨hlf, by rw [hlf]; rw [List.length_drop, ← HP.out.2.1] at hlfr; exact hlfr, hleft⟩)
      have hlr1 : l2 - (k + 1) ≤ 1000 := by omega
      obtain ⟨o4, c4s, ho4, hsl⟩ := slice_from b2 off2 (k + 1) l2 c2 k2 (by rw [HK2.out]; rfl) (by have := HKL.out; omega)
      have HO4 := Lib.hid ho4
      clear hcl hrdk hRB hlfr hleft hlf ho4
      go_wp2_with fail
      refine (HCL4.out _ _ HO4.out).mono ?_
      rintro e w4 ⟨g4, c4, rfl, hg4, hg4', hrw4, hc4, hc49, hb4⟩
      have HS4 := Lib.hid (HSA.out.step hb4)
      have HC4 := Lib.hid (HCA.out.step hb4)
      have HB4 := Lib.hid (HBA.out.step hb4)
      have H14 := Lib.hid ((H1A.out.below hb4).more hb4.size)
      have HR4 := Lib.hid ((hb4.block wr.heap.size (HRB.out.lt)).trans HRB.out)
      have hne4 : ∀ {b : Nat} {t : TypeId} {cs : List Value}, Blk (wr.alloc (.cells #[.int .i64 (row : Int)] 3)) b t cs → b ≠ g4 := fun h e => by have := h.lt; omega
      have hdl := idelete_any (fun x => togB n M row x) g4 gT wr.heap.size (l2 - (k + 1)) c4 (rest.drop (k + 1)) w4 hrw4 (by rw [List.length_drop, HP.out.2.1]) hlr1 hc4 hc49 (fun W hcW x hx => by
       have hx2 : x < 256 := HP.out.2.2.2.1 x (List.mem_of_mem_drop hx)
       refine idel_any n row x M ab tb mb gT wr.heap.size W hn HROW.out hx2 (HS4.out.tg.chs hcW (Ne.symm (hne4 HSA.out.tg.all)) ?_ (Ne.symm (hne4 HSA.out.tg.may))) ((hcW.block gT HS4.out.bT.lt (hne4 HSA.out.bT)).trans HS4.out.bT) ((hcW.block _ (Blk.lt HR4.out) (hne4 HRB.out)).trans HR4.out)
       have := HSA.out.tg.tab.1
       omega)
      have hdl2 : Calls Tryz.prog 52 #[.slice (some ⟨g4, 0, none⟩) (l2 - (k + 1)) c4, .func (.func 53) #[] #[.pointer (some ⟨gT, 0, none⟩), .pointer (some ⟨wr.heap.size, 0, none⟩)]] w4 fun e w' => ∃ (A' : Option Addr) (c' : Nat), e = .returned (.slice A' lf c') ∧ lf ≤ c' ∧ c' ≤ 9223372036854775807 ∧ A' ≠ none ∧ Rd nv w' w'.heap.size A' left ∧ Below (wr.alloc (.cells #[.int .i64 (row : Int)] 3)).heap.size w4 w' := hdl.mono fun e w' ⟨A', c', h1, h2, h9, h3, h4, h5⟩ => ⟨A', c', by rw [h1, HLF.out.1, HLF.out.2.2], by rw [HLF.out.1, HLF.out.2.2]; exact h2, h9, h3, by rw [HLF.out.2.2]; exact h4, h5.below hg4 hb4.size⟩
      have HDL := Lib.hid hdl2
      have HBW4 := Lib.hid hb4
      clear hdl hdl2 hg4 hg4' hrw4 hb4 hne4
      go_wp2_with fail
      refine HDL.out.mono ?_
      rintro e w5 ⟨A5, c5, rfl, hc5, hc59, hA5, hrd5, hb5⟩
      have hb45 := HBW4.out.trans hb5
      have HS5 := Lib.hid (HSA.out.step hb45)
      have HC5 := Lib.hid (HCA.out.step hb45)
      have HB5 := Lib.hid (HBA.out.step hb45)
      have H15 := Lib.hid ((H1A.out.below hb45).more hb45.size)
      have HR5 := Lib.hid ((hb45.block wr.heap.size (HRB.out.lt)).trans HRB.out)
      have HRD5 := Lib.hid hrd5
      have hs47 := slice_full A1 l1 c1 hc1
      have hgr : gB ≠ wr.heap.size := by omega
      have HGR := Lib.hid hgr
      clear hb45 hb5 hrd5 hgr
      go_upto_region 7 with fail
      refine wp_regionJ 12 #[false, false, false, false, false, false, false, false, false, false, false, false] (fun ll aa W => ∃ (m0 m1 m2 m3 m4 m5 m6 m7 m8 m9 m10 m11 : Bool) (gN : Nat) (Av : Option Addr) (cv : Nat), ll = #[m0, m1, m2, m3, m4, m5, m6, m7, m8, m9, m10, m11] ∧ aa = ({ tmps := #[Value.slice A1 l1 c1, Value.slice (some { block := b2, off := off2 }) l2 c2, Value.pointer (some { block := gB, off := 0 }), Value.pointer (some { block := gT, off := 0 }), Value.pointer (some { block := gS, off := 0 }), undef, undef, Value.int IntKind.i64 (k : Int), Value.pointer (some { block := wr.heap.size, off := 0 }), Value.slice A5 lf c5, Value.slice A1 l1 c1, Value.int IntKind.i64 (l1 : Int), Value.slice A0 l0 c0, Value.int IntKind.i64 (l0 : Int), z14, z15, z16, Value.slice (some { block := b2, off := off2 }) l2 c2, Value.int IntKind.i64 (l2 : Int), Value.int IntKind.i64 (k : Int), Value.bool true, Value.int IntKind.i64 (k : Int), Value.pointer (some { block := b2, off := off2 + k }), nv row, Value.slice A1 l1 c1, Value.int IntKind.i64 (l1 : Int), Value.slice (some { block := b2, off := off2 }) l2 c2, Value.int IntKind.i64 (l2 : Int), Value.int IntKind.i64 s1, Value.int IntKind.i64 (k : Int), Value.int IntKind.i64 s2, Value.slice A3 l3 c3, Value.int IntKind.i64 (l3 : Int), Value.bool false, Value.slice (some { block := b2, off := off2 }) l2 c2, Value.int IntKind.i64 (k : Int), Value.int IntKind.i64 k2, Value.slice (some { block := b2, off := o4 }) (l2 - (k + 1)) c4s, Value.slice (some { block := g4, off := 0 }) (l2 - (k + 1)) c4, Value.func (Fn.func 53) #[] #[Value.pointer (some { block := gT, off := 0 }), Value.pointer (some { block := wr.heap.size, off := 0 })], Value.slice A5 lf c5, cwX m0 (fSk gB gT gS) (u41), cwX m1 (.slice A1 l1 c1) (u42), cwX m2 (.slice A1 l1 c1) (u43), cwX m3 (.int .i64 (l1 : Int)) (u44), cwX m4 (.slice A1 l1 c1) (u45), cwX m5 (.int .i64 (l1 : Int)) (u46), cwX m6 (.slice A1 l1 l1) (u47), cwX m7 (nv row) (u48), cwX m8 (.slice (some ⟨gN, 0, none⟩) 1 1) (u49), cwX m9 (.slice Av (l1 + 1) cv) (u50), cwX m10 (.slice A5 lf c5) (u51), cwX m11 (.tuple #[]) (u52), u53], defers := [] } : Act) ∧ ((m9 = true → m8 = true) ∧ (m11 = true → m9 = true)) ∧ SkP w5 gB l1 row chosen (apSeek (togB n M) f bst (chosen ++ [row]) left) m8 m9 m11 gN Av cv W) (by kernel_rfl) (by kernel_rfl) (by kernel_rfl) (by kernel_rfl) ?_ ?_ ?_ ?_
      ·rintro ll aa W ⟨m0, m1, m2, m3, m4, m5, m6, m7, m8, m9, m10, m11, gN, Av, cv, rfl, _⟩
       rfl
      ·exact ⟨false, false, false, false, false, false, false, false, false, false, false, false, 0, none, 0, rfl, rfl, ⟨fun h => absurd h (by simp), fun h => absurd h (by simp)⟩, SkP.start (bw_drew (Below.refl _ _))⟩
      ·rintro ll aa W i o ⟨m0, m1, m2, m3, m4, m5, m6, m7, m8, m9, m10, m11, gN, Av, cv, rfl, rfl, hi0, hm⟩ ho hun hall K hK
       have hi : i < 12 := (Array.getElem?_eq_some_iff.1 ho).1
       have HM := Lib.hid hm
       have HI := Lib.hid hi0
       clear hm hi0
       rcases (show i = 0 ∨ i = 1 ∨ i = 2 ∨ i = 3 ∨ i = 4 ∨ i = 5 ∨ i = 6 ∨ i = 7 ∨ i = 8 ∨ i = 9 ∨ i = 10 ∨ i = 11 by omega) with rfl | rfl | rfl | rfl | rfl | rfl | rfl | rfl | rfl | rfl | rfl | rfl
       ·cases ho
        simp at hun; subst hun
        clear hall hi
        have q3 : W.cell? ⟨gS, 0, none⟩ = some (fSk gB gT gS) := (HS5.out.chs HM.out.chs).bS.cell 0
        go_simp
        exact hK.out _ _ ⟨true, m1, m2, m3, m4, m5, m6, m7, m8, m9, m10, m11, gN, Av, cv, rfl, rfl, by obtain ⟨h0, h1⟩ := HI.out; exact ⟨fun e => by first | rfl | exact h0 e | exact absurd e (by simp), fun e => by first | rfl | exact h1 e | exact absurd e (by simp)⟩, HM.out⟩
       ·cases ho
        simp at hun; subst hun
        clear hall hi
        go_simp
        exact hK.out _ _ ⟨m0, true, m2, m3, m4, m5, m6, m7, m8, m9, m10, m11, gN, Av, cv, rfl, rfl, by obtain ⟨h0, h1⟩ := HI.out; exact ⟨fun e => by first | rfl | exact h0 e | exact absurd e (by simp), fun e => by first | rfl | exact h1 e | exact absurd e (by simp)⟩, HM.out⟩
       ·cases ho
        simp at hun; subst hun
        clear hall hi
        go_simp
        exact hK.out _ _ ⟨m0, m1, true, m3, m4, m5, m6, m7, m8, m9, m10, m11, gN, Av, cv, rfl, rfl, by obtain ⟨h0, h1⟩ := HI.out; exact ⟨fun e => by first | rfl | exact h0 e | exact absurd e (by simp), fun e => by first | rfl | exact h1 e | exact absurd e (by simp)⟩, HM.out⟩
       ·cases ho
        cases (getBX hall 2 rfl : m2 = true)
        simp at hun; subst hun
        clear hall hi
        go_simp
        exact hK.out _ _ ⟨m0, m1, true, true, m4, m5, m6, m7, m8, m9, m10, m11, gN, Av, cv, rfl, rfl, by obtain ⟨h0, h1⟩ := HI.out; exact ⟨fun e => by first | rfl | exact h0 e | exact absurd e (by simp), fun e => by first | rfl | exact h1 e | exact absurd e (by simp)⟩, HM.out⟩
       ·cases ho
        simp at hun; subst hun
        clear hall hi
        go_simp
        exact hK.out _ _ ⟨m0, m1, m2, m3, true, m5, m6, m7, m8, m9, m10, m11, gN, Av, cv, rfl, rfl, by obtain ⟨h0, h1⟩ := HI.out; exact ⟨fun e => by first | rfl | exact h0 e | exact absurd e (by simp), fun e => by first | rfl | exact h1 e | exact absurd e (by simp)⟩, HM.out⟩
       ·cases ho
        cases (getBX hall 4 rfl : m4 = true)
        simp at hun; subst hun
        clear hall hi
        go_simp
        exact hK.out _ _ ⟨m0, m1, m2, m3, true, true, m6, m7, m8, m9, m10, m11, gN, Av, cv, rfl, rfl, by obtain ⟨h0, h1⟩ := HI.out; exact ⟨fun e => by first | rfl | exact h0 e | exact absurd e (by simp), fun e => by first | rfl | exact h1 e | exact absurd e (by simp)⟩, HM.out⟩
       ·cases ho
        cases (getBX hall 1 rfl : m1 = true)
        cases (getBX hall 3 rfl : m3 = true)
        cases (getBX hall 5 rfl : m5 = true)
        simp at hun; subst hun
        clear hall hi
        go_simp
        exact hK.out _ _ ⟨m0, true, m2, true, m4, true, true, m7, m8, m9, m10, m11, gN, Av, cv, rfl, rfl, by obtain ⟨h0, h1⟩ := HI.out; exact ⟨fun e => by first | rfl | exact h0 e | exact absurd e (by simp), fun e => by first | rfl | exact h1 e | exact absurd e (by simp)⟩, HM.out⟩
       ·cases ho
        simp at hun; subst hun
        clear hall hi
        have q3 : W.cell? ⟨wr.heap.size, 0, none⟩ = some (.int .i64 (row : Int)) := Blk.cell (cs := [.int .i64 (row : Int)]) ((HM.out.chs.block _ (Blk.lt HR5.out) (Ne.symm HGR.out)).trans HR5.out) 0
        go_simp
        exact hK.out _ _ ⟨m0, m1, m2, m3, m4, m5, m6, true, m8, m9, m10, m11, gN, Av, cv, rfl, rfl, by obtain ⟨h0, h1⟩ := HI.out; exact ⟨fun e => by first | rfl | exact h0 e | exact absurd e (by simp), fun e => by first | rfl | exact h1 e | exact absurd e (by simp)⟩, HM.out⟩
       ·cases ho
        cases (getBX hall 7 rfl : m7 = true)
        simp at hun; subst hun
        clear hall hi
        obtain rfl : m9 = false := by
         cases m9
         ·rfl
         ·exact absurd (HI.out.1 rfl) (by simp)
        obtain rfl : m11 = false := by
         cases m11
         ·rfl
         ·exact absurd (HI.out.2 rfl) (by simp)
        have HN := Lib.hid HM.out.s8
        go_simp
        exact hK.out _ _ ⟨m0, m1, m2, m3, m4, m5, m6, true, true, false, m10, false, W.heap.size, Av, cv, rfl, rfl, by obtain ⟨h0, h1⟩ := HI.out; exact ⟨fun e => by first | rfl | exact h0 e | exact absurd e (by simp), fun e => by first | rfl | exact h1 e | exact absurd e (by simp)⟩, HN.out⟩
       ·cases ho
        cases (getBX hall 6 rfl : m6 = true)
        cases (getBX hall 8 rfl : m8 = true)
        simp at hun; subst hun
        clear hall hi
        obtain rfl : m11 = false := by
         cases m11
         ·rfl
         ·exact absurd (HI.out.2 rfl) (by simp)
        have hbk := (HM.out.2 rfl).2.1 rfl
        have hrl := HP.out.1
        have hll := HP.out.2.2.2.2.2.1
        refine step_append_grows rfl (.tmp 47) (.tmp 49) 24 rfl 3 i0 (.int .i64 0) 1 8 Tryz.underlying24 HI0.out HZ0.out HZ1.out HZ2.out rfl (by decide) A1 l1 l1 (chosen.map nv) rfl (fun e => ⟨(HP.out.2.2.2.2.1 e).1, (HP.out.2.2.2.2.1 e).1⟩) (by rw [List.length_map]; omega) (fun b hb j u hu => ?_) ⟨gN, 0, none⟩ 1 1 [nv row] rfl rfl (fun j u hu => ?_) (by simp [Value.oneCell']) (by omega) (by unfold maxLen; omega) (by omega) ?_
        ·have hjl : j < chosen.length := by have := (List.getElem?_eq_some_iff.1 hu).1; rwa [List.length_map] at this
         obtain ⟨b', off', e1, e2, hk'⟩ := ((H15.out.below (HM.out.2 rfl).1).more (HM.out.2 rfl).1.size) (by omega)
         rw [hb] at e1
         injection e1 with e1
         subst e1
         rw [List.getElem?_map, List.getElem?_eq_getElem hjl] at hu
         rw [← hu, add_pl]
         exact hk' j hjl
        ·have := hbk.cell j
         rw [hu] at this
         rw [add_pl, Nat.zero_add]
         exact this
        ·intro v' w' ho hg
         obtain ⟨g', c', hv, -⟩ := own_form ho (by omega)
         subst hv
         have HN := Lib.hid (HM.out.s9 hg ho rfl hrl)
         exact hK.out _ _ ⟨m0, m1, m2, m3, m4, m5, true, m7, true, true, m10, false, gN, some ⟨g', 0, none⟩, c', rfl, rfl, by obtain ⟨h0, h1⟩ := HI.out; exact ⟨fun e => by first | rfl | exact h0 e | exact absurd e (by simp), fun e => by first | rfl | exact h1 e | exact absurd e (by simp)⟩, HN.out⟩
       ·cases ho
        simp at hun; subst hun
        clear hall hi
        go_simp
        exact hK.out _ _ ⟨m0, m1, m2, m3, m4, m5, m6, m7, m8, m9, true, m11, gN, Av, cv, rfl, rfl, by obtain ⟨h0, h1⟩ := HI.out; exact ⟨fun e => by first | rfl | exact h0 e | exact absurd e (by simp), fun e => by first | rfl | exact h1 e | exact absurd e (by simp)⟩, HM.out⟩
       ·cases ho
        cases (getBX hall 0 rfl : m0 = true)
        cases (getBX hall 9 rfl : m9 = true)
        cases (getBX hall 10 rfl : m10 = true)
        obtain rfl : m8 = true := HI.out.1 rfl
        simp at hun; subst hun
        clear hall hi
        have hm3 := (HM.out.2 rfl).2.2 rfl
        have hbw := (HM.out.2 rfl).1
        have hih := HIH.out bst (chosen ++ [row]) left Av A5 (l1 + 1) cv lf c5 W (HS5.out.step hbw) (HB5.out.step hbw) hm3.1 (by rw [List.length_append, HP.out.1]; rfl) (fun e => absurd e hm3.2.2) hm3.2.1 ((HRD5.out.below hbw).more hbw.size) HLF.out.1 hc5 hc59 (fun r hr => by
         rcases List.mem_append.1 hr with hr | hr
         ·exact HP.out.2.2.1 r hr
         ·rw [List.mem_singleton] at hr; rw [hr]; exact HROW.out) (fun r hr => by
         rw [HLF.out.2.2] at hr
         exact HP.out.2.2.2.1 r (List.mem_of_mem_drop (List.mem_filter.1 hr).1)) (by have h1 := HLF.out.2.1; have h2 := HP.out.2.2.2.2.2.1; have h3 := HKL.out; omega) (by have h1 := HLF.out.2.1; have h2 := HP.out.2.2.2.2.2.2; have h3 := HKL.out; omega)
        have HCC := Lib.hid hih
        clear hih hm3 hbw
        go_simp
        refine HCC.out.mono ?_
        rintro e W' ⟨rfl, hch', hbs'⟩
        have HN := Lib.hid (HM.out.s11 hch' hbs')
        exact hK.out _ _ ⟨true, m1, m2, m3, m4, m5, m6, m7, true, true, true, true, gN, Av, cv, rfl, rfl, by obtain ⟨h0, h1⟩ := HI.out; exact ⟨fun e => by first | rfl | exact h0 e | exact absurd e (by simp), fun e => by first | rfl | exact h1 e | exact absurd e (by simp)⟩, HN.out⟩
      ·rintro ll aa W ⟨m0, m1, m2, m3, m4, m5, m6, m7, m8, m9, m10, m11, gN, Av, cv, rfl, rfl, _, hm⟩ hall
       cases (hall 0 (by decide) : m0 = true)
       cases (hall 1 (by decide) : m1 = true)
       cases (hall 2 (by decide) : m2 = true)
       cases (hall 3 (by decide) : m3 = true)
       cases (hall 4 (by decide) : m4 = true)
       cases (hall 5 (by decide) : m5 = true)
       cases (hall 6 (by decide) : m6 = true)
       cases (hall 7 (by decide) : m7 = true)
       cases (hall 8 (by decide) : m8 = true)
       cases (hall 9 (by decide) : m9 = true)
       cases (hall 10 (by decide) : m10 = true)
       cases (hall 11 (by decide) : m11 = true)
       clear hall
       have HF := Lib.hid (hm.1 rfl)
       clear hm
       dsimp only [cwX, cond_true]
       go_wp2_with fail
       go_roundw
       case rel => exact ⟨k + 1, _, by have := HKL.out; omega, by rw [HK2.out]; rfl, HC5.out.trans HF.out.1, HF.out.2, by rw [HNX.out, HLF.out.2.2]⟩
       case measure => have := HKL.out; have := HK2.out; simp only [intOf]; omega
    ·have hke : k = l2 := by omega
     have hkn : ¬ (k : Int) < (l2 : Int) := by omega
     have HE := Lib.hid (show R = bst by rw [HRR.out, hke, HP.out.2.1, List.drop_length]; rfl)
     clear hke hkl hk
     go_wp2_with fail
     exact bodyPost_end (v := .tuple #[]) (results_none rfl _ _ _) rfl ⟨rfl, HCHk.out, by rw [HE.out]; exact HBk.out⟩
end Go.Proofs.YtaegjpancbmppaaGreatDoor
