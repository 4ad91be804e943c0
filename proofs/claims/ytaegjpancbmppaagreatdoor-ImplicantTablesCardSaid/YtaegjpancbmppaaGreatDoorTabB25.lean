/- Part 25 of 33 of the proof of the law: contracts of the functions that it reaches, and plain facts. Conditions: those that each contract names. -/
import Derived.Test.YtaegjpancbmppaaGreatDoorTabB15
import Derived.Test.YtaegjpancbmppaaGreatDoorTabB24
set_option linter.unusedVariables false
set_option linter.unusedSimpArgs false
namespace Go.Proofs.YtaegjpancbmppaaGreatDoor
open Go.RowKit
def TrPost (t : Fm) (X : World) (e : Ending) (w' : World) : Prop :=
 ∃ (A' : Option Addr) (cp : Nat), e = .returned (.agg #[.int .i64 t.k, .int .i64 t.a, .slice A' t.l.length cp]) ∧ t.l.length ≤ cp ∧ FsR w' (fun b => X.heap.size ≤ b ∧ b < w'.heap.size) A' t.l ∧ Below X.heap.size X w'
abbrev trB (X : World) (k a : Int) (A : Option Addr) (n c : Nat) (At : Option Addr) (i ct : Nat) : List (Nat × TypeId × List Value) :=
 [(X.heap.size, 53, fcL k a A n c), (X.heap.size + 1, 69, fcL 0 0 none 0 0), (X.heap.size + 1 + 1, 69, fcL k a At i ct)]
abbrev trS (X : World) (N : Nat) (v : Value) : Nat → Prop := SoB X.heap.size (X.heap.size + 1) (X.heap.size + 1 + 1) N v
def TrRel (X : World) (k a : Int) (A : Option Addr) (n c : Nat) (l : List Fm) (x : Value) (W : World) : Prop :=
 ∃ (i : Nat) (At : Option Addr) (ct : Nat), i ≤ n ∧ x = .int .i64 (i : Int) ∧
  RowT W (X.heap.size + 3) (trS X W.heap.size (.slice At i ct)) At i ct (l.take i) ∧ Hp X (trB X k a A n c At i ct) W
def TrF0 (X wo : World) (k a : Int) (A : Option Addr) (n c : Nat) (At : Option Addr) (i ct : Nat) (W : World) : Prop := Hp X (trB X k a A n c At i ct) W ∧ Below wo.heap.size wo W
def TrF7 (X wo : World) (k a : Int) (A : Option Addr) (n c : Nat) (At : Option Addr) (i ct : Nat) (s : Fm) (A2 : Option Addr) (c2 : Nat) (W : World) : Prop :=
 TrF0 X wo k a A n c At i ct W ∧ FsR W (fun b => wo.heap.size ≤ b ∧ b < W.heap.size) A2 s.l ∧ s.l.length ≤ c2
def TrF9 (X : World) (k a : Int) (A : Option Addr) (n c : Nat) (At : Option Addr) (i ct : Nat) (L : List Fm) (g4 c4 : Nat) (W : World) : Prop :=
 W.cell? ⟨X.heap.size + 1 + 1, 2, none⟩ = some (.slice At i ct) ∧ W.frozen? ⟨X.heap.size + 1 + 1, 2, none⟩ = false ∧
 RowT (W.setCell ⟨X.heap.size + 1 + 1, 2, none⟩ (.slice (some ⟨g4, 0, none⟩) (i + 1) c4)) (X.heap.size + 3) (trS X (W.setCell ⟨X.heap.size + 1 + 1, 2, none⟩ (.slice (some ⟨g4, 0, none⟩) (i + 1) c4)).heap.size (.slice (some ⟨g4, 0, none⟩) (i + 1) c4)) (some ⟨g4, 0, none⟩) (i + 1) c4 L ∧
 Hp X (trB X k a A n c (some ⟨g4, 0, none⟩) (i + 1) c4) (W.setCell ⟨X.heap.size + 1 + 1, 2, none⟩ (.slice (some ⟨g4, 0, none⟩) (i + 1) c4))
def TrPk (X wo : World) (k a : Int) (A : Option Addr) (n c : Nat) (At : Option Addr) (i ct : Nat) (s : Fm) (L : List Fm) (m7 m8 m9 m11 : Bool) (A2 : Option Addr) (c2 bs g4 c4 : Nat) (W : World) : Prop :=
 match m9, m11, m8, m7 with
 | true, true, _, _ => RowT W (X.heap.size + 3) (trS X W.heap.size (.slice (some ⟨g4, 0, none⟩) (i + 1) c4)) (some ⟨g4, 0, none⟩) (i + 1) c4 L ∧ Hp X (trB X k a A n c (some ⟨g4, 0, none⟩) (i + 1) c4) W
 | true, false, _, _ => TrF9 X k a A n c At i ct L g4 c4 W
 | false, _, true, _ => TrF7 X wo k a A n c At i ct s A2 c2 W ∧ Blk W bs 69 (fcL s.k s.a A2 s.l.length c2)
 | false, _, false, true => TrF7 X wo k a A n c At i ct s A2 c2 W
 | false, _, false, false => TrF0 X wo k a A n c At i ct W
theorem TrPk.t {X wo : World} {k a : Int} {A : Option Addr} {n c : Nat} {At : Option Addr} {i ct : Nat} {s : Fm} {L : List Fm} {m7 m8 m11 : Bool} {A2 : Option Addr} {c2 bs g4 c4 : Nat} {W : World} (h : TrPk X wo k a A n c At i ct s L m7 m8 false m11 A2 c2 bs g4 c4 W) : W.cell? ⟨X.heap.size + 1 + 1, 2, none⟩ = some (.slice At i ct) := by
 cases m8 <;> cases m7
 ·exact (h.1.at_ 2 rfl).cell 2
 ·exact (h.1.1.at_ 2 rfl).cell 2
 ·exact (h.1.1.1.at_ 2 rfl).cell 2
 ·exact (h.1.1.1.at_ 2 rfl).cell 2
theorem TrF0.step {X wo : World} {k a : Int} {A : Option Addr} {n c : Nat} {At : Option Addr} {i ct : Nat} {W W' : World} (h : TrF0 X wo k a A n c At i ct W) (hb : Below W.heap.size W W') : TrF0 X wo k a A n c At i ct W' := ⟨h.1.step hb, h.2.trans (hb.mono h.2.size)⟩
theorem TrF7.step {X wo : World} {k a : Int} {A : Option Addr} {n c : Nat} {At : Option Addr} {i ct : Nat} {s : Fm} {A2 : Option Addr} {c2 : Nat} {W W' : World} (h : TrF7 X wo k a A n c At i ct s A2 c2 W) (hb : Below W.heap.size W W') : TrF7 X wo k a A n c At i ct s A2 c2 W' :=
 ⟨h.1.step hb, (h.2.1.keep fun b hx => hb.block b hx.2).mono fun b hx => ⟨hx.1, Nat.lt_of_lt_of_le hx.2 hb.size⟩, h.2.2⟩
set_option maxRecDepth 1000000 in
set_option maxHeartbeats 8000000 in
theorem ltree_any : ∀ (F : Nat) (t : Fm), t.size ≤ F → t.size ≤ 10000 → ∀ (A : Option Addr) (c : Nat) (X : World), FsR X (lowB X.heap.size) A t.l →
  Calls Tryz.prog 37 #[.agg (fcL t.k t.a A t.l.length c).toArray] X (TrPost t X) := by
 intro F
 induction F with
 | zero => intro t h; have := size_pos t; omega
 | succ F ih =>
  intro t hF hs A c X hA
  have hkids : ∀ s ∈ t.l, ∀ (A : Option Addr) (c : Nat) (X : World), FsR X (lowB X.heap.size) A s.l → Calls Tryz.prog 37 #[.agg (fcL s.k s.a A s.l.length c).toArray] X (TrPost s X) := fun s hs' => by
   have h1 := size_mem hs'
   have h2 : t.size = 1 + sizeL t.l := Fm.size_eq t
   exact ih s (by omega) (by omega)
  have hll := len_size t.l
  have h2 : t.size = 1 + sizeL t.l := Fm.size_eq t
  obtain ⟨k, a, l⟩ := t
  replace hA : FsR X (lowB X.heap.size) A l := hA
  replace hkids : ∀ s ∈ l, ∀ (A : Option Addr) (c : Nat) (X : World), FsR X (lowB X.heap.size) A s.l → Calls Tryz.prog 37 #[.agg (fcL s.k s.a A s.l.length c).toArray] X (TrPost s X) := hkids
  replace hll : l.length ≤ sizeL l := hll
  replace h2 : (Fm.nd k a l).size = 1 + sizeL l := h2
  obtain ⟨n, hn⟩ : ∃ n, n = l.length := ⟨_, rfl⟩
  have hl1 : n ≤ 10000 := by omega
  show Calls Tryz.prog 37 #[.agg #[.int .i64 k, .int .i64 a, .slice A l.length c]] X _
  rw [← hn]
  have hm0 := (((Hp.start X).new 53 (fcL k a A n c)).new 69 (fcL 0 0 none 0 0)).new 69 (fcL k a none 0 0)
  simp only [World.size_alloc, List.nil_append, List.cons_append] at hm0
  have HM0 := Lib.hid hm0
  have HA := Lib.hid hA
  have HKID := Lib.hid hkids
  have HN := Lib.hid hn
  obtain ⟨i0, hi0, hz0, hz1, hz2⟩ := info_parts infoTr
  have HI0 := Lib.hid hi0
  have HZ0 := Lib.hid hz0
  have HZ1 := Lib.hid hz1
  have HZ2 := Lib.hid hz2
  clear ih hF hs hll h2 hA hkids hn hm0 hi0 hz0 hz1 hz2
  go_enter Tryz.func37, Tryz.ntmps37
  go_wp2_with fail
  go_loopw [4] (fun y wr => TrRel X k a A n c l y wr) (fun y _ => n - (intOf y).toNat)
  case atStart => exact ⟨0, none, 0, Nat.zero_le _, rfl, RowT.nil _ _ _, HM0.out⟩
  case round =>
   obtain ⟨wo, rfl⟩ : ∃ W, W = wr := ⟨_, rfl⟩
   obtain ⟨i, At, ct, hi, rfl, hrow, hp⟩ := hrel
   have HROW := Lib.hid hrow
   have HP := Lib.hid hp
   have q0 : wo.cell? ⟨X.heap.size, 2, none⟩ = some (.slice A n c) := (hp.at_ 0 rfl).cell 2
   have hxl : X.heap.size < wo.heap.size := (hp.at_ 0 rfl).lt
   clear hrow hp HM0
   by_cases hlt : i < n
   ·have hil : i < l.length := by rw [← HN.out]; exact hlt
    have hiz : (i : Int) < (n : Int) := by omega
    have HIL := Lib.hid hlt
    obtain ⟨i2, hi2⟩ : ∃ z : Int, z = (i : Int) + 1 := ⟨_, rfl⟩
    have hwi : IntKind.i64.wrap ((i : Int) + 1) = i2 := by rw [hi2]; exact IntWalk.i64_in _ (by omega)
    have HI2 := Lib.hid hi2
    obtain ⟨g1, o1, As1, cs1, hAe, hg1, hc1, hk1⟩ := (HA.out.step HP.out.below).at_ (by omega)
    obtain ⟨a0, a1, a2, -⟩ := hc1 i hil
    have e1 := hk1 i hil
    have hcall := HKID.out _ (List.getElem_mem hil)
    have htk := List.take_succ_eq_append_getElem hil
    obtain ⟨s, hs⟩ : ∃ s, s = l[i] := ⟨_, rfl⟩
    rw [← hs] at a0 a1 a2 e1 hcall htk
    have HTK := Lib.hid htk
    obtain ⟨m, hm⟩ : ∃ m, m = s.l.length := ⟨_, rfl⟩
    obtain ⟨k', hk'⟩ : ∃ z, z = s.k := ⟨_, rfl⟩
    obtain ⟨a', ha'⟩ : ∃ z, z = s.a := ⟨_, rfl⟩
    obtain ⟨A', hA'⟩ : ∃ z, z = As1 i := ⟨_, rfl⟩
    obtain ⟨c', hc'⟩ : ∃ z, z = cs1 i := ⟨_, rfl⟩
    rw [← hk'] at a0
    rw [← ha'] at a1
    rw [← hA', ← hc', ← hm] at a2
    rw [← hA'] at e1
    have HCL := Lib.hid (show ∀ Y, FsR Y (lowB Y.heap.size) A' s.l → Calls Tryz.prog 37 #[.agg #[.int .i64 k', .int .i64 a', .slice A' m c']] Y (TrPost s Y) from fun Y hY => by
     have := hcall A' c' Y hY
     rw [← hk', ← ha', ← hm] at this
     exact this)
    have HE1 := Lib.hid e1
    subst hAe
    have hg1' : g1 < wo.heap.size := hg1
    have HCE := Lib.hid (show ∀ W, Below wo.heap.size wo W → g1 < W.heap.size ∧ W.cell? ⟨g1, o1 + i * 3, none⟩ = some (.int .i64 k') ∧ W.cell? ⟨g1, o1 + i * 3 + 1, none⟩ = some (.int .i64 a') ∧ W.cell? ⟨g1, o1 + i * 3 + 2, none⟩ = some (.slice A' m c') from fun W h => ⟨Nat.lt_of_lt_of_le hg1' h.size, (h.cell (p := ⟨g1, o1 + i * 3, none⟩) hg1').trans a0, (h.cell (p := ⟨g1, o1 + i * 3 + 1, none⟩) hg1').trans a1, (h.cell (p := ⟨g1, o1 + i * 3 + 2, none⟩) hg1').trans a2⟩)
    have HSM := Lib.hid (And.intro hk' (And.intro ha' hm))
    have hi4 : i ≤ 10000 := by omega
    clear hi2 hlt hi hc1 hk1 e1 hs hil htk hm hk' ha' hA' hc' hcall hg1
    go_upto_region 5 with fail
    --R5
    refine wp_regionJ 12 #[false, false, false, false, false, false, false, false, false, false, false, false] (fun ll aa W => ∃ (m0 m1 m2 m3 m4 m5 m6 m7 m8 m9 m10 m11 : Bool) (A2 : Option Addr) (c2 : Nat) (bs : Nat) (g4 : Nat) (c4 : Nat), ll = #[m0, m1, m2, m3, m4, m5, m6, m7, m8, m9, m10, m11] ∧ aa = ({ tmps := #[Value.agg #[Value.int IntKind.i64 k, Value.int IntKind.i64 a, Value.slice (some { block := g1, off := o1 }) n c], Value.pointer (some { block := X.heap.size, off := 0 }), Value.pointer (some { block := X.heap.size + 1, off := 0 }), Value.pointer (some { block := X.heap.size + 1 + 1, off := 0 }), Value.int IntKind.i64 (i : Int), Value.pointer (some { block := X.heap.size, off := 0 }), Value.int IntKind.i64 k, Value.pointer (some { block := X.heap.size, off := 1 }), Value.int IntKind.i64 a, Value.agg #[Value.int IntKind.i64 k, Value.int IntKind.i64 a, Value.slice none 0 0], Value.int IntKind.i64 (i : Int), Value.pointer (some { block := X.heap.size, off := 2 }), Value.slice (some { block := g1, off := o1 }) n c, Value.int IntKind.i64 (n : Int), Value.bool true, u15, u16, cwX m0 (Value.pointer (some ⟨X.heap.size + 1 + 1, 2, none⟩)) (u17), cwX m1 (Value.slice At i ct) (u18), cwX m2 (Value.pointer (some ⟨X.heap.size, 2, none⟩)) (u19), cwX m3 (Value.slice (some ⟨g1, o1, none⟩) n c) (u20), cwX m4 (Value.int IntKind.i64 (i : Int)) (u21), cwX m5 (Value.pointer (some ⟨g1, o1 + i * 3, none⟩)) (u22), cwX m6 (Value.agg #[.int .i64 k', .int .i64 a', .slice A' m c']) (u23), cwX m7 (Value.agg #[.int .i64 k', .int .i64 a', .slice A2 m c2]) (u24), cwX m8 (Value.slice (some ⟨bs, 0, none⟩) 1 1) (u25), cwX m9 (Value.slice (some ⟨g4, 0, none⟩) (i + 1) c4) (u26), cwX m10 (Value.pointer (some ⟨X.heap.size + 1 + 1, 2, none⟩)) (u27), undef], defers := [] } : Act) ∧ ((m5 = true → m3 = true) ∧ (m6 = true → m5 = true) ∧ (m7 = true → m6 = true) ∧ (m8 = true → m7 = true) ∧ (m9 = true → m8 = true) ∧ (m9 = true → m1 = true) ∧ (m11 = true → m9 = true)) ∧ TrPk X wo k a (some ⟨g1, o1, none⟩) n c At i ct s (l.take (i + 1)) m7 m8 m9 m11 A2 c2 bs g4 c4 W) (by kernel_rfl) (by kernel_rfl) (by kernel_rfl) (by kernel_rfl) ?_ ?_ ?_ ?_
    ·rintro ll aa W ⟨m0, m1, m2, m3, m4, m5, m6, m7, m8, m9, m10, m11, A2, c2, bs, g4, c4, rfl, _⟩
     rfl
    ·exact ⟨false, false, false, false, false, false, false, false, false, false, false, false, none, 0, 0, 0, 0, rfl, rfl, ⟨fun h => absurd h (by simp), fun h => absurd h (by simp), fun h => absurd h (by simp), fun h => absurd h (by simp), fun h => absurd h (by simp), fun h => absurd h (by simp), fun h => absurd h (by simp)⟩, (TrF0.step ⟨HP.out, Below.refl _ _⟩ (bw_drew (Below.refl _ _)))⟩
    ·rintro ll aa W i o ⟨m0, m1, m2, m3, m4, m5, m6, m7, m8, m9, m10, m11, A2, c2, bs, g4, c4, rfl, rfl, hi0, hm⟩ ho hun hall K hK
     have hi : i < 12 := (Array.getElem?_eq_some_iff.1 ho).1
     have HM := Lib.hid hm
     have HI := Lib.hid hi0
     clear hm hi0
     rcases (show i = 0 ∨ i = 1 ∨ i = 2 ∨ i = 3 ∨ i = 4 ∨ i = 5 ∨ i = 6 ∨ i = 7 ∨ i = 8 ∨ i = 9 ∨ i = 10 ∨ i = 11 by omega) with rfl | rfl | rfl | rfl | rfl | rfl | rfl | rfl | rfl | rfl | rfl | rfl
     ·cases ho
      simp at hun; subst hun
      clear hall hi
      go_simp
      exact hK.out _ _ ⟨true, m1, m2, m3, m4, m5, m6, m7, m8, m9, m10, m11, A2, c2, bs, g4, c4, rfl, rfl, by obtain ⟨h0, h1, h2, h3, h4, h5, h6⟩ := HI.out; exact ⟨fun e => by first | rfl | exact h0 e | exact absurd e (by simp), fun e => by first | rfl | exact h1 e | exact absurd e (by simp), fun e => by first | rfl | exact h2 e | exact absurd e (by simp), fun e => by first | rfl | exact h3 e | exact absurd e (by simp), fun e => by first | rfl | exact h4 e | exact absurd e (by simp), fun e => by first | rfl | exact h5 e | exact absurd e (by simp), fun e => by first | rfl | exact h6 e | exact absurd e (by simp)⟩, HM.out⟩
     ·cases ho
      cases (getBX hall 0 rfl : m0 = true)
      simp at hun; subst hun
      clear hall hi
      obtain rfl : m9 = false := by
       cases m9
       ·rfl
       ·exact absurd (HI.out.2.2.2.2.2.1 rfl) (by simp)
      have x0 := TrPk.t HM.out
      go_simp
      exact hK.out _ _ ⟨true, true, m2, m3, m4, m5, m6, m7, m8, false, m10, m11, A2, c2, bs, g4, c4, rfl, rfl, by obtain ⟨h0, h1, h2, h3, h4, h5, h6⟩ := HI.out; exact ⟨fun e => by first | rfl | exact h0 e | exact absurd e (by simp), fun e => by first | rfl | exact h1 e | exact absurd e (by simp), fun e => by first | rfl | exact h2 e | exact absurd e (by simp), fun e => by first | rfl | exact h3 e | exact absurd e (by simp), fun e => by first | rfl | exact h4 e | exact absurd e (by simp), fun e => by first | rfl | exact h5 e | exact absurd e (by simp), fun e => by first | rfl | exact h6 e | exact absurd e (by simp)⟩, HM.out⟩
     ·cases ho
      simp at hun; subst hun
      clear hall hi
      go_simp
      exact hK.out _ _ ⟨m0, m1, true, m3, m4, m5, m6, m7, m8, m9, m10, m11, A2, c2, bs, g4, c4, rfl, rfl, by obtain ⟨h0, h1, h2, h3, h4, h5, h6⟩ := HI.out; exact ⟨fun e => by first | rfl | exact h0 e | exact absurd e (by simp), fun e => by first | rfl | exact h1 e | exact absurd e (by simp), fun e => by first | rfl | exact h2 e | exact absurd e (by simp), fun e => by first | rfl | exact h3 e | exact absurd e (by simp), fun e => by first | rfl | exact h4 e | exact absurd e (by simp), fun e => by first | rfl | exact h5 e | exact absurd e (by simp), fun e => by first | rfl | exact h6 e | exact absurd e (by simp)⟩, HM.out⟩
     ·cases ho
      cases (getBX hall 2 rfl : m2 = true)
      simp at hun; subst hun
      clear hall hi
      obtain rfl : m5 = false := by
       cases m5
       ·rfl
       ·exact absurd (HI.out.1 rfl) (by simp)
      obtain rfl : m6 = false := by
       cases m6
       ·rfl
       ·exact absurd (HI.out.2.1 rfl) (by simp)
      obtain rfl : m7 = false := by
       cases m7
       ·rfl
       ·exact absurd (HI.out.2.2.1 rfl) (by simp)
      obtain rfl : m8 = false := by
       cases m8
       ·rfl
       ·exact absurd (HI.out.2.2.2.1 rfl) (by simp)
      obtain rfl : m9 = false := by
       cases m9
       ·rfl
       ·exact absurd (HI.out.2.2.2.2.1 rfl) (by simp)
      have x1 : W.cell? ⟨X.heap.size, 2, none⟩ = some (.slice (some ⟨g1, o1, none⟩) n c) := (HM.out.1.at_ 0 rfl).cell 2
      go_simp
      exact hK.out _ _ ⟨m0, m1, true, true, m4, false, false, false, false, false, m10, m11, A2, c2, bs, g4, c4, rfl, rfl, by obtain ⟨h0, h1, h2, h3, h4, h5, h6⟩ := HI.out; exact ⟨fun e => by first | rfl | exact h0 e | exact absurd e (by simp), fun e => by first | rfl | exact h1 e | exact absurd e (by simp), fun e => by first | rfl | exact h2 e | exact absurd e (by simp), fun e => by first | rfl | exact h3 e | exact absurd e (by simp), fun e => by first | rfl | exact h4 e | exact absurd e (by simp), fun e => by first | rfl | exact h5 e | exact absurd e (by simp), fun e => by first | rfl | exact h6 e | exact absurd e (by simp)⟩, HM.out⟩
     ·cases ho
      simp at hun; subst hun
      clear hall hi
      go_simp
      exact hK.out _ _ ⟨m0, m1, m2, m3, true, m5, m6, m7, m8, m9, m10, m11, A2, c2, bs, g4, c4, rfl, rfl, by obtain ⟨h0, h1, h2, h3, h4, h5, h6⟩ := HI.out; exact ⟨fun e => by first | rfl | exact h0 e | exact absurd e (by simp), fun e => by first | rfl | exact h1 e | exact absurd e (by simp), fun e => by first | rfl | exact h2 e | exact absurd e (by simp), fun e => by first | rfl | exact h3 e | exact absurd e (by simp), fun e => by first | rfl | exact h4 e | exact absurd e (by simp), fun e => by first | rfl | exact h5 e | exact absurd e (by simp), fun e => by first | rfl | exact h6 e | exact absurd e (by simp)⟩, HM.out⟩
     ·cases ho
      cases (getBX hall 3 rfl : m3 = true)
      cases (getBX hall 4 rfl : m4 = true)
      simp at hun; subst hun
      clear hall hi
      go_simp
      exact hK.out _ _ ⟨m0, m1, m2, true, true, true, m6, m7, m8, m9, m10, m11, A2, c2, bs, g4, c4, rfl, rfl, by obtain ⟨h0, h1, h2, h3, h4, h5, h6⟩ := HI.out; exact ⟨fun e => by first | rfl | exact h0 e | exact absurd e (by simp), fun e => by first | rfl | exact h1 e | exact absurd e (by simp), fun e => by first | rfl | exact h2 e | exact absurd e (by simp), fun e => by first | rfl | exact h3 e | exact absurd e (by simp), fun e => by first | rfl | exact h4 e | exact absurd e (by simp), fun e => by first | rfl | exact h5 e | exact absurd e (by simp), fun e => by first | rfl | exact h6 e | exact absurd e (by simp)⟩, HM.out⟩
     ·cases ho
      cases (getBX hall 5 rfl : m5 = true)
      simp at hun; subst hun
      clear hall hi
      obtain rfl : m7 = false := by
       cases m7
       ·rfl
       ·exact absurd (HI.out.2.2.1 rfl) (by simp)
      obtain rfl : m8 = false := by
       cases m8
       ·rfl
       ·exact absurd (HI.out.2.2.2.1 rfl) (by simp)
      obtain rfl : m9 = false := by
       cases m9
       ·rfl
       ·exact absurd (HI.out.2.2.2.2.1 rfl) (by simp)
      obtain ⟨glt, b0, b1, b2⟩ := HCE.out W HM.out.2
      go_simp
      exact hK.out _ _ ⟨m0, m1, m2, m3, m4, true, true, false, false, false, m10, m11, A2, c2, bs, g4, c4, rfl, rfl, by obtain ⟨h0, h1, h2, h3, h4, h5, h6⟩ := HI.out; exact ⟨fun e => by first | rfl | exact h0 e | exact absurd e (by simp), fun e => by first | rfl | exact h1 e | exact absurd e (by simp), fun e => by first | rfl | exact h2 e | exact absurd e (by simp), fun e => by first | rfl | exact h3 e | exact absurd e (by simp), fun e => by first | rfl | exact h4 e | exact absurd e (by simp), fun e => by first | rfl | exact h5 e | exact absurd e (by simp), fun e => by first | rfl | exact h6 e | exact absurd e (by simp)⟩, HM.out⟩
     ·cases ho
      cases (getBX hall 6 rfl : m6 = true)
      simp at hun; subst hun
      clear hall hi
      obtain rfl : m8 = false := by
       cases m8
       ·rfl
       ·exact absurd (HI.out.2.2.2.1 rfl) (by simp)
      obtain rfl : m9 = false := by
       cases m9
       ·rfl
       ·exact absurd (HI.out.2.2.2.2.1 rfl) (by simp)
      go_simp
      refine (HCL.out W (HE1.out.step HM.out.2)).mono ?_
      rintro e W' ⟨A2', c2', rfl, hcp, hF, hb⟩
      have HN' := Lib.hid (show TrF7 X wo k a (some ⟨g1, o1, none⟩) n c At i ct s A2' c2' W' from ⟨HM.out.step hb, hF.mono fun b h => ⟨Nat.le_trans HM.out.2.size h.1, h.2⟩, hcp⟩)
      rw [← HSM.out.1, ← HSM.out.2.1, ← HSM.out.2.2]
      exact hK.out _ _ ⟨m0, m1, m2, m3, m4, m5, true, true, false, false, m10, m11, A2', c2', bs, g4, c4, rfl, rfl, by obtain ⟨h0, h1, h2, h3, h4, h5, h6⟩ := HI.out; exact ⟨fun e => by first | rfl | exact h0 e | exact absurd e (by simp), fun e => by first | rfl | exact h1 e | exact absurd e (by simp), fun e => by first | rfl | exact h2 e | exact absurd e (by simp), fun e => by first | rfl | exact h3 e | exact absurd e (by simp), fun e => by first | rfl | exact h4 e | exact absurd e (by simp), fun e => by first | rfl | exact h5 e | exact absurd e (by simp), fun e => by first | rfl | exact h6 e | exact absurd e (by simp)⟩, HN'.out⟩
     ·cases ho
      cases (getBX hall 7 rfl : m7 = true)
      simp at hun; subst hun
      clear hall hi
      obtain rfl : m9 = false := by
       cases m9
       ·rfl
       ·exact absurd (HI.out.2.2.2.2.1 rfl) (by simp)
      go_simp
      have hb8 := bw_new (Below.refl W.heap.size W) (.cells #[.int .i64 k', .int .i64 a', .slice A2 m c2] 69)
      have HN' := Lib.hid (show TrF7 X wo k a (some ⟨g1, o1, none⟩) n c At i ct s A2 c2 _ ∧ Blk _ W.heap.size 69 (fcL s.k s.a A2 s.l.length c2) from ⟨HM.out.step hb8, by rw [← HSM.out.1, ← HSM.out.2.1, ← HSM.out.2.2]; exact heap_alloc_new W _⟩)
      clear hb8
      exact hK.out _ _ ⟨m0, m1, m2, m3, m4, m5, m6, true, true, false, m10, m11, A2, c2, W.heap.size, g4, c4, rfl, rfl, by obtain ⟨h0, h1, h2, h3, h4, h5, h6⟩ := HI.out; exact ⟨fun e => by first | rfl | exact h0 e | exact absurd e (by simp), fun e => by first | rfl | exact h1 e | exact absurd e (by simp), fun e => by first | rfl | exact h2 e | exact absurd e (by simp), fun e => by first | rfl | exact h3 e | exact absurd e (by simp), fun e => by first | rfl | exact h4 e | exact absurd e (by simp), fun e => by first | rfl | exact h5 e | exact absurd e (by simp), fun e => by first | rfl | exact h6 e | exact absurd e (by simp)⟩, HN'.out⟩
     ·cases ho
      cases (getBX hall 1 rfl : m1 = true)
      cases (getBX hall 7 rfl : m7 = true)
      cases (getBX hall 8 rfl : m8 = true)
      simp at hun; subst hun
      clear hall hi
      obtain rfl : m11 = false := by
       cases m11
       ·rfl
       ·exact absurd (HI.out.2.2.2.2.2.2 rfl) (by simp)
      obtain ⟨⟨hf7, hF, hcp⟩, hbk⟩ := HM.out
      obtain ⟨As, cs, hown, hnl, hks⟩ := HROW.out
      have hnl2 : i = (l.take i).length := hnl
      have hown7 := own_blI hown hf7.2
      rw [← HSM.out.1, ← HSM.out.2.1, ← HSM.out.2.2] at hbk
      refine wp_append_lies W _ _ 67 rfl (X.heap.size + 3) 69 i0 (.agg #[.int .i64 0, .int .i64 0, .slice none 0 0]) 3 40 Tryz.underlying67 HI0.out HZ0.out HZ1.out HZ2.out rfl (by decide) (.slice At i ct) i _ rfl hown7 ⟨bs, 0, none⟩ 1 1 (fcL k' a' A2 m c2) rfl rfl (World.news_of_block (cs := (fcL k' a' A2 m c2).toArray) (fr := (0, 0)) hbk) (by simp [Value.oneCell']) (by decide) (by unfold maxLen; omega) (by omega) (by have := (hf7.1.at_ 2 rfl).lt; omega) _ rfl ?_
      intro g4' c4' w4 hown4 hgrow4 hor4 hlt4
      have hx0 : X.heap.size + 1 + 1 < wo.heap.size := (HP.out.at_ 2 rfl).lt
      have hst := rowT_step (g1 := X.heap.size + 1) (g2 := X.heap.size + 1 + 1) (B0 := X.heap.size) HP.out (j := 2) rfl (base := X.heap.size + 3) (by intro p hp; simp only [List.mem_cons, List.not_mem_nil, or_false] at hp; rcases hp with rfl | rfl | rfl <;> (dsimp only; omega)) (by omega) (.inr rfl) hf7.2 hown hnl hks (t := s) (At := A2) (ct := c2) (hF.mono fun b h => ⟨by omega, h.2, fun e => by have := (hown.lt _ e.symm).2; omega, by omega, by omega⟩) hcp (by rw [← HSM.out.1, ← HSM.out.2.1, ← HSM.out.2.2]; exact hown4) hgrow4 hor4
      rw [← HTK.out] at hst
      have hpg := hp_grown HP.out (base := X.heap.size + 3) (by intro p hp; simp only [List.mem_cons, List.not_mem_nil, or_false] at hp; rcases hp with rfl | rfl | rfl <;> (dsimp only; omega)) (by omega) hf7.2 hown hgrow4
      have HN' := Lib.hid (show TrF9 X k a (some ⟨g1, o1, none⟩) n c At i ct (l.take (i + 1)) g4' c4' w4 from ⟨(hpg.at_ 2 rfl).cell 2, (hpg.at_ 2 rfl).frozen 2, hst.1, hst.2⟩)
      exact hK.out _ _ ⟨m0, true, m2, m3, m4, m5, m6, true, true, true, m10, false, A2, c2, bs, g4', c4', rfl, rfl, by obtain ⟨h0, h1, h2, h3, h4, h5, h6⟩ := HI.out; exact ⟨fun e => by first | rfl | exact h0 e | exact absurd e (by simp), fun e => by first | rfl | exact h1 e | exact absurd e (by simp), fun e => by first | rfl | exact h2 e | exact absurd e (by simp), fun e => by first | rfl | exact h3 e | exact absurd e (by simp), fun e => by first | rfl | exact h4 e | exact absurd e (by simp), fun e => by first | rfl | exact h5 e | exact absurd e (by simp), fun e => by first | rfl | exact h6 e | exact absurd e (by simp)⟩, HN'.out⟩
     ·cases ho
      cases (getBX hall 0 rfl : m0 = true)
      cases (getBX hall 1 rfl : m1 = true)
      cases (getBX hall 2 rfl : m2 = true)
      cases (getBX hall 3 rfl : m3 = true)
      cases (getBX hall 4 rfl : m4 = true)
      cases (getBX hall 5 rfl : m5 = true)
      cases (getBX hall 6 rfl : m6 = true)
      cases (getBX hall 7 rfl : m7 = true)
      cases (getBX hall 8 rfl : m8 = true)
      cases (getBX hall 9 rfl : m9 = true)
      simp at hun; subst hun
      clear hall hi
      go_simp
      exact hK.out _ _ ⟨true, true, true, true, true, true, true, true, true, true, true, m11, A2, c2, bs, g4, c4, rfl, rfl, by obtain ⟨h0, h1, h2, h3, h4, h5, h6⟩ := HI.out; exact ⟨fun e => by first | rfl | exact h0 e | exact absurd e (by simp), fun e => by first | rfl | exact h1 e | exact absurd e (by simp), fun e => by first | rfl | exact h2 e | exact absurd e (by simp), fun e => by first | rfl | exact h3 e | exact absurd e (by simp), fun e => by first | rfl | exact h4 e | exact absurd e (by simp), fun e => by first | rfl | exact h5 e | exact absurd e (by simp), fun e => by first | rfl | exact h6 e | exact absurd e (by simp)⟩, HM.out⟩
     ·cases ho
      cases (getBX hall 7 rfl : m7 = true)
      cases (getBX hall 8 rfl : m8 = true)
      cases (getBX hall 9 rfl : m9 = true)
      cases (getBX hall 10 rfl : m10 = true)
      simp at hun; subst hun
      clear hall hi
      obtain ⟨x0, x1, hr, hq⟩ := HM.out
      go_simp
      exact hK.out _ _ ⟨m0, m1, m2, m3, m4, m5, m6, true, true, true, true, true, A2, c2, bs, g4, c4, rfl, rfl, by obtain ⟨h0, h1, h2, h3, h4, h5, h6⟩ := HI.out; exact ⟨fun e => by first | rfl | exact h0 e | exact absurd e (by simp), fun e => by first | rfl | exact h1 e | exact absurd e (by simp), fun e => by first | rfl | exact h2 e | exact absurd e (by simp), fun e => by first | rfl | exact h3 e | exact absurd e (by simp), fun e => by first | rfl | exact h4 e | exact absurd e (by simp), fun e => by first | rfl | exact h5 e | exact absurd e (by simp), fun e => by first | rfl | exact h6 e | exact absurd e (by simp)⟩, ⟨hr, hq⟩⟩
    ·rintro ll aa W ⟨m0, m1, m2, m3, m4, m5, m6, m7, m8, m9, m10, m11, A2, c2, bs, g4, c4, rfl, rfl, _, hm⟩ hall
     cases (hall 0 (by decide) : m0 = true)
     cases (hall 1 (by decide) : m1 = true)
     cases (hall 2 (by decide) : m2 = true)
     cases (hall 3 (by decide) : m3 = true)
     cases (hall 4 (by decide) : m4 = true)
     cases (hall 5 (by decide) : m5 = true)
     cases (hall 6 (by decide) : m6 = true)
     cases (hall 7 (by decide) : m7 = true)
     cases (hall 8 (by decide) : m8 = true)
     cases (hall 9 (by decide) : m9 = true)
     cases (hall 10 (by decide) : m10 = true)
     cases (hall 11 (by decide) : m11 = true)
     clear hall
     obtain ⟨hr, hq⟩ := hm
     have HR := Lib.hid hr
     have HQ := Lib.hid hq
     clear hr hq
     dsimp only [cwX, cond_true]
     go_wp2_with fail
     go_roundw
     case rel => exact ⟨i + 1, some ⟨g4, 0, none⟩, c4, HIL.out, by rw [HI2.out]; rfl, HR.out, HQ.out⟩
     case measure => have := HIL.out; have := HI2.out; simp only [intOf]; omega
   ·obtain rfl : n = i := by omega
    have hiz : ¬ (n : Int) < (n : Int) := by omega
    have hrow := HROW.out
    have hp := HP.out
    have hll : l.take n = l := List.take_of_length_le (by rw [HN.out]; exact Nat.le_refl _)
    rw [hll] at hrow
    have t0 : wo.cell? ⟨X.heap.size + 1 + 1, 0, none⟩ = some (.int .i64 k) := (hp.at_ 2 rfl).cell 0
    have t1 : wo.cell? ⟨X.heap.size + 1 + 1, 1, none⟩ = some (.int .i64 a) := (hp.at_ 2 rfl).cell 1
    have t2 : wo.cell? ⟨X.heap.size + 1 + 1, 2, none⟩ = some (.slice At n ct) := (hp.at_ 2 rfl).cell 2
    have hwl : X.heap.size + 1 + 1 < wo.heap.size := (hp.at_ 2 rfl).lt
    have v0 : wo.frozen? ⟨X.heap.size + 1, 0, none⟩ = false := (hp.at_ 1 rfl).frozen 0
    have v1 : wo.frozen? ⟨X.heap.size + 1, 1, none⟩ = false := (hp.at_ 1 rfl).frozen 1
    have v2 : wo.frozen? ⟨X.heap.size + 1, 2, none⟩ = false := (hp.at_ 1 rfl).frozen 2
    have s0 : wo.cell? ⟨X.heap.size + 1, 0, none⟩ = some (.int .i64 0) := (hp.at_ 1 rfl).cell 0
    have s1 : wo.cell? ⟨X.heap.size + 1, 1, none⟩ = some (.int .i64 0) := (hp.at_ 1 rfl).cell 1
    have s2 : wo.cell? ⟨X.heap.size + 1, 2, none⟩ = some (.slice none 0 0) := (hp.at_ 1 rfl).cell 2
    have hpf := hp.put3 1 rfl (.int .i64 k) (.int .i64 a) (.slice At n ct)
    have HPF := Lib.hid hpf
    have hne : some (X.heap.size + 1) ≠ (Value.slice At n ct).ownBlock := fun e => by have := (hrow.own _ e.symm).1; omega
    have HRW := Lib.hid (((hrow.set (o := 0) (u := .int .i64 k) (fun b h => h.2.2.2.1) hne).set (o := 1) (u := .int .i64 a) (fun b h => h.2.2.2.1) hne).set (o := 2) (u := .slice At n ct) (fun b h => h.2.2.2.1) hne)
    have HOWN := Lib.hid hrow.own
    clear hi hlt hrow hp hll hpf hne
    go_wp2_with fail
    have bF := HPF.out.at_ 1 rfl
    have r0 := bF.cell 0
    have r1 := bF.cell 1
    have r2 := bF.cell 2
    simp only [List.getElem?_cons_zero, List.getElem?_cons_succ] at r0 r1 r2
    have hsz : ∀ x y z : Value, (((wo.setCell ⟨X.heap.size + 1, 0, none⟩ x).setCell ⟨X.heap.size + 1, 1, none⟩ y).setCell ⟨X.heap.size + 1, 2, none⟩ z).heap.size = wo.heap.size := fun x y z => by simp
    exact bodyPost_ret (v := .agg #[.int .i64 k, .int .i64 a, .slice At n ct]) (by simp [results, Tryz.results37, go_sem, r0, r1, r2]) rfl ⟨At, ct, by show _ = Ending.returned (.agg #[.int .i64 k, .int .i64 a, .slice At l.length ct]); rw [← HN.out], by show l.length ≤ ct; rw [← HN.out]; exact HRW.out.cap.2, (HRW.out.fs (fun b h => ⟨h.1, by rw [hsz]; exact h.2.1⟩) fun g hg => ⟨Nat.le_trans (by omega) (HOWN.out g hg).1, by rw [hsz]; exact (HOWN.out g hg).2⟩), HPF.out.below⟩
end Go.Proofs.YtaegjpancbmppaaGreatDoor
