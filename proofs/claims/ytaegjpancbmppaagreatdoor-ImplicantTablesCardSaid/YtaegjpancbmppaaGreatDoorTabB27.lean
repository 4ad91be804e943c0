/- Part 27 of 33 of the proof of the law: contracts of the functions that it reaches, and plain facts. Conditions: those that each contract names. -/
import Derived.Test.YtaegjpancbmppaaGreatDoorTabB16
import Derived.Test.YtaegjpancbmppaaGreatDoorTabB22
import Derived.Test.YtaegjpancbmppaaGreatDoorTabB06
import Derived.Deep.DeepCutAuto
set_option linter.unusedVariables false
set_option linter.unusedSimpArgs false
namespace Go.Proofs.YtaegjpancbmppaaGreatDoor
open Go.RowKit
structure LcAt (X : World) (q gs nl no : Nat) (AL AO : Option Addr) (L0 : List (Nat × Nat)) (on : List Nat) : Prop where
 pr : PRd q X X.heap.size AL L0
 onr : Rd nv X X.heap.size AO on
 nl : nl = L0.length
 no : no = on.length
 nep : 0 < L0.length → ∀ p, AL = some p → p.block ≠ gs
 neo : 0 < on.length → ∀ p, AO = some p → p.block ≠ gs
theorem cell_chs {X W : World} {g b o : Nat} (hc : Chs g X W) (hb : b < X.heap.size) (hne : b ≠ g) : W.cell? ⟨b, o, none⟩ = X.cell? ⟨b, o, none⟩ := by
 unfold World.cell?
 rw [hc.block b hb hne]
theorem Rd.chsN {X W : World} {g : Nat} {A : Option Addr} {L : List Nat} (h : Rd nv X X.heap.size A L) (hn : 0 < L.length → ∀ p, A = some p → p.block ≠ g) (hc : Chs g X W) : Rd nv W W.heap.size A L := fun hl => by
 obtain ⟨b, off, rfl, hb, hk⟩ := h hl
 exact ⟨b, off, rfl, Nat.lt_of_lt_of_le hb hc.size, fun i hi => (cell_chs hc hb (hn hl _ rfl)).trans (hk i hi)⟩
theorem PRd.chsN {q : Nat} {X W : World} {g : Nat} {A : Option Addr} {L : List (Nat × Nat)} (h : PRd q X X.heap.size A L) (hn : 0 < L.length → ∀ p, A = some p → p.block ≠ g) (hc : Chs g X W) : PRd q W W.heap.size A L := fun hl => by
 obtain ⟨b, rfl, hb, hk⟩ := h hl
 exact ⟨b, rfl, Nat.lt_of_lt_of_le hb hc.size, fun i hi j hj => (cell_chs hc hb (hn hl _ rfl)).trans (hk i hi j hj)⟩
theorem LcAt.chs {X W : World} {q gs nl no : Nat} {AL AO : Option Addr} {L0 : List (Nat × Nat)} {on : List Nat} (h : LcAt X q gs nl no AL AO L0 on) (hc : Chs gs X W) : LcAt W q gs nl no AL AO L0 on :=
 ⟨h.pr.chsN h.nep hc, h.onr.chsN h.neo hc, h.nl, h.no, h.nep, h.neo⟩
def LkAt (X : World) (gs nl cl no co : Nat) (AL AO : Option Addr) (s : LsS) : Prop :=
 ∃ (AB : Option Addr) (nb cb lit : Nat) (fd : Bool), Blk X gs 81 [.slice AL nl cl, .slice AO no co, .slice AB nb cb, nv lit, .bool fd] ∧ (∀ p, AB = some p → p.block ≠ gs) ∧
  ((s = none ∧ fd = false ∧ nb = 0) ∨ ∃ b : List Nat, s = some (b, lit) ∧ fd = true ∧ nb = b.length ∧ nb ≤ 4000 ∧ Rd nv X X.heap.size AB b)
theorem LkAt.step {X W : World} {gs nl cl no co : Nat} {AL AO : Option Addr} {s : LsS} (h : LkAt X gs nl cl no co AL AO s) (hb : Below X.heap.size X W) : LkAt W gs nl cl no co AL AO s := by
 obtain ⟨AB, nb, cb, lit, fd, h1, h2, h3⟩ := h
 refine ⟨AB, nb, cb, lit, fd, (hb.block gs h1.lt).trans h1, h2, h3.imp_right ?_⟩
 rintro ⟨b, e1, e2, e3, e4, e5⟩
 exact ⟨b, e1, e2, e3, e4, (e5.below hb).more hb.size⟩
theorem five_of {W : World} {g : Nat} {ty : TypeId} {a b c d e : Value} (h : Blk W g ty [a, b, c, d, e]) : W.cell? ⟨g, 0, none⟩ = some a ∧ W.cell? ⟨g, 1, none⟩ = some b ∧ W.cell? ⟨g, 2, none⟩ = some c ∧ W.cell? ⟨g, 3, none⟩ = some d ∧ W.cell? ⟨g, 4, none⟩ = some e := ⟨h.cell 0, h.cell 1, h.cell 2, h.cell 3, h.cell 4⟩
theorem lsP_get (q : Nat) (L0 : List (Nat × Nat)) (i : Nat) (h : i < L0.length) : (lsP q L0).getD i (0, 0) = (cM q (L0.getD i (0, 0)).1 (L0.getD i (0, 0)).2, popc (L0.getD i (0, 0)).1) := by
 unfold lsP
 rw [List.getD_eq_getElem?_getD, List.getElem?_map, List.getD_eq_getElem?_getD, List.getElem?_eq_getElem h]
 rfl
def LkPost (gs nl cl no co : Nat) (AL AO : Option Addr) (r : LsS) (X : World) (e : Ending) (w' : World) : Prop := e = .returned (.tuple #[]) ∧ Chs gs X w' ∧ LkAt w' gs nl cl no co AL AO r
theorem lsRow_step (P : List (Nat × Nat)) (hv : Nat) {on : List Nat} {k : Nat} (hk : k < on.length) (s : Option (Nat × Nat)) : lsRow P hv (on.drop k) s = lsRow P hv (on.drop (k + 1)) (if hv.testBit (on.getD k 0) then s else match s with
   | none => some (on.getD k 0, P.countP fun p => p.1.testBit (on.getD k 0))
   | some (y, l) => if P.countP (fun p => p.1.testBit (on.getD k 0)) < l then some (on.getD k 0, P.countP fun p => p.1.testBit (on.getD k 0)) else some (y, l)) := by
 have e : on.drop k = on.getD k 0 :: on.drop (k + 1) := by
  rw [List.drop_eq_getElem_cons hk, List.getD_eq_getElem?_getD, List.getElem?_eq_getElem hk]; rfl
 rw [e, lsRow]
 rfl
theorem lsGo_step (rec : LsS → List Nat → Nat → Nat → LsS) (row : Nat) (chosen : List Nat) (hv count : Nat) {P : List (Nat × Nat)} {k : Nat} (hk : k < P.length) (s : LsS) : lsGo rec row chosen hv count (P.drop k) k s = lsGo rec row chosen hv count (P.drop (k + 1)) (k + 1) (if (P.getD k (0, 0)).1.testBit row then rec s (chosen ++ [k]) (hv ||| (P.getD k (0, 0)).1) (count + (P.getD k (0, 0)).2) else s) := by
 have e : P.drop k = P.getD k (0, 0) :: P.drop (k + 1) := by
  rw [List.drop_eq_getElem_cons hk, List.getD_eq_getElem?_getD, List.getElem?_eq_getElem hk]; rfl
 rw [e, lsGo]
def lsEB : LsS → List Nat → Nat → Bool
 | none, _, _ => true
 | some (b, k), ch, n => decide (ch.length < b.length ∨ ch.length = b.length ∧ (n < k ∨ n = k ∧ lexLt (sortN ch) b = true))
theorem lsEnd_eb : ∀ (s : LsS) (ch : List Nat) (n : Nat), lsEnd s ch n = if lsEB s ch n then some (sortN ch, n) else s
 | none, _, _ => rfl
 | some (b, k), ch, n => by
  rw [lsEnd, lsEB]
  by_cases hc : ch.length < b.length ∨ ch.length = b.length ∧ (n < k ∨ n = k ∧ lexLt (sortN ch) b = true)
  ·rw [if_pos hc, decide_eq_true hc]; rfl
  ·rw [if_neg hc, decide_eq_false hc]; rfl
theorem popc_le8 (a : Nat) : popc a ≤ 8 := by
 unfold popc
 have := List.countP_le_length (p := fun i => a.testBit i) (l := List.range 8)
 simpa using this
def SlP (W3 : World) (gs nl cl no co : Nat) (AL AO : Option Addr) (l1 j : Nat) (chosen : List Nat) (nb : LsS) (m8 m9 m19 : Bool) (gN : Nat) (Av : Option Addr) (cv : Nat) (W : World) : Prop :=
 (m19 = true → Chs gs W3 W ∧ LkAt W gs nl cl no co AL AO nb) ∧ (m19 = false → Below W3.heap.size W3 W ∧ (m8 = true → Blk W gN 3 [nv j]) ∧ (m9 = true → Rd nv W W.heap.size Av (chosen ++ [j]) ∧ l1 + 1 ≤ cv ∧ Av ≠ none ∧ ∀ p, Av = some p → W3.heap.size ≤ p.block))
section
variable {W3 W w' : World} {gs nl cl no co l1 j gN cv : Nat} {AL AO Av : Option Addr} {chosen : List Nat} {nb : LsS} {m8 m9 m19 : Bool}
theorem SlP.chs (h : SlP W3 gs nl cl no co AL AO l1 j chosen nb m8 m9 m19 gN Av cv W) : Chs gs W3 W := by
 cases m19
 ·exact .of_below (h.2 rfl).1
 ·exact (h.1 rfl).1
theorem SlP.start (h : Below W3.heap.size W3 W) : SlP W3 gs nl cl no co AL AO l1 j chosen nb false false false gN Av cv W :=
 ⟨fun e => (by cases e), fun _ => ⟨h, fun e => (by cases e), fun e => (by cases e)⟩⟩
theorem SlP.step (h : SlP W3 gs nl cl no co AL AO l1 j chosen nb m8 m9 false gN Av cv W) (hb : Below W.heap.size W w') : SlP W3 gs nl cl no co AL AO l1 j chosen nb m8 m9 false gN Av cv w' := by
 obtain ⟨h1, h2, h3⟩ := h.2 rfl
 exact ⟨fun e => (by cases e), fun _ => ⟨h1.trans (hb.mono h1.size), fun e => (hb.block gN (h2 e).lt).trans (h2 e), fun e => ⟨((h3 e).1.below hb).more hb.size, (h3 e).2⟩⟩⟩
theorem SlP.s8 (h : SlP W3 gs nl cl no co AL AO l1 j chosen nb false false false gN Av cv W) : SlP W3 gs nl cl no co AL AO l1 j chosen nb true false false W.heap.size Av cv (W.alloc (.cells #[nv j] 3)) :=
 ⟨fun e => (by cases e), fun _ => ⟨bw_new (h.2 rfl).1 _, fun _ => heap_alloc_new W _, fun e => (by cases e)⟩⟩
theorem SlP.s9 {c n : Nat} {A : Option Addr} (h : SlP W3 gs nl cl no co AL AO l1 j chosen nb true false false gN Av cv W) (hg : W.grownBy w' none) (ho : w'.ownsRow W.heap.size 3 1 (.slice A n c) n (chosen.map nv ++ [nv j])) (hn : n = l1 + 1) (hl : l1 = chosen.length) : SlP W3 gs nl cl no co AL AO l1 j chosen nb true true false gN A c w' := by
 have hb : Below W.heap.size W w' := (Below.refl _ _).grown hg (Nat.le_refl _) (fun k e => (by cases e))
 have hb3 := (h.2 rfl).1
 obtain ⟨g, cap, hv, -⟩ := own_form ho (by omega)
 injection hv with e1
 refine ⟨fun e => (by cases e), fun _ => ⟨hb3.trans (hb.mono hb3.size), fun _ => (hb.block gN ((h.2 rfl).2.1 rfl).lt).trans ((h.2 rfl).2.1 rfl), fun _ => ⟨?_, ?_, ?_, fun p hp => ?_⟩⟩⟩
 ·refine Rd.of_own (L := chosen ++ [j]) (by rw [List.map_append]; exact ho) (by rw [List.length_append, hn, hl]; rfl)
 ·rw [← hn]; exact own_cap ho
 ·rw [e1]; simp
 ·rw [e1] at hp ho
  cases hp
  exact Nat.le_trans hb3.size (ho.lt g rfl).1
theorem SlP.s19 (h : SlP W3 gs nl cl no co AL AO l1 j chosen nb m8 m9 false gN Av cv W) (hc : Chs gs W w') (hb : LkAt w' gs nl cl no co AL AO nb) : SlP W3 gs nl cl no co AL AO l1 j chosen nb true true true gN Av cv w' :=
 ⟨fun _ => ⟨h.chs.trans hc, hb⟩, fun e => (by cases e)⟩
end
def cntP (P : List (Nat × Nat)) (x j : Nat) : Nat := (P.take j).countP fun p => p.1.testBit x
theorem cntP_le (P : List (Nat × Nat)) (x j : Nat) : cntP P x j ≤ j := by
 unfold cntP
 have h1 := List.countP_le_length (p := fun p : Nat × Nat => p.1.testBit x) (l := P.take j)
 rw [List.length_take] at h1
 omega
theorem cntP_succ (P : List (Nat × Nat)) (x j : Nat) (h : j < P.length) : cntP P x (j + 1) = cntP P x j + if (P.getD j (0, 0)).1.testBit x then 1 else 0 := by
 unfold cntP
 have e : P.take (j + 1) = P.take j ++ [P.getD j (0, 0)] := by
  rw [List.take_succ_eq_append_getElem h, List.getD_eq_getElem?_getD, List.getElem?_eq_getElem h]; rfl
 rw [e, List.countP_append, List.countP_cons, List.countP_nil]
 simp
theorem cntP_all (P : List (Nat × Nat)) (x j : Nat) (h : P.length ≤ j) : cntP P x j = P.countP fun p => p.1.testBit x := by
 unfold cntP; rw [List.take_of_length_le h]
theorem lsP_len (q : Nat) (L0 : List (Nat × Nat)) : (lsP q L0).length = L0.length := by unfold lsP; rw [List.length_map]
def rwV : Option (Nat × Nat) → Int × Int
 | none => (-1, 0)
 | some (y, l) => ((y : Int), (l : Int))
set_option maxRecDepth 1000000 in
set_option maxHeartbeats 16000000 in
theorem iseekr_any (q gs nl cl no co : Nat) (AL AO : Option Addr) (L0 : List (Nat × Nat)) (on : List Nat) (hq : q ≤ 8) (hL0 : ∀ x ∈ L0, x.1 < 256) (hLl : L0.length ≤ 65536) (hon : ∀ r ∈ on, r < 256) (hol : on.length ≤ 1000) :
  ∀ (f : Nat) (s : LsS) (chosen : List Nat) (hv count : Nat) (A1 : Option Addr) (l1 c1 : Nat) (X : World), LcAt X q gs nl no AL AO L0 on → LkAt X gs nl cl no co AL AO s →
  Rd nv X X.heap.size A1 chosen → l1 = chosen.length → (A1 = none → l1 = 0 ∧ c1 = 0) → l1 ≤ c1 → (∀ p, A1 = some p → p.block ≠ gs) → l1 + f ≤ 1000 → count ≤ 8 * l1 → (on.filter fun x => !hv.testBit x).length < f →
  Calls Tryz.prog 43 #[.pointer (some ⟨gs, 0, none⟩), .slice A1 l1 c1, .agg (setL hv).toArray, nv count] X (LkPost gs nl cl no co AL AO (lsSeek (lsP q L0) on f s chosen hv count) X) := by
 intro f
 induction f with
 | zero => intro s chosen hv count A1 l1 c1 X _ _ _ _ _ _ _ _ _ h; exact absurd h (Nat.not_lt_zero _)
 | succ f ih =>
  intro s chosen hv count A1 l1 c1 X hLc hLk h1 hl1 hA1 hc1 hne1 hl hcn hf
  obtain ⟨R, hR⟩ : ∃ R, R = lsSeek (lsP q L0) on (f + 1) s chosen hv count := ⟨_, rfl⟩
  rw [← hR]
  rw [lsSeek] at hR
  have HR := Lib.hid hR
  have HIH := Lib.hid ih
  have HC := Lib.hid (And.intro hq (And.intro hL0 (And.intro hLl (And.intro hon hol))))
  have HP := Lib.hid (And.intro hl1 (And.intro hA1 (And.intro hne1 (And.intro hl (And.intro hcn hf)))))
  have hgl : gs < X.heap.size := by obtain ⟨AB, nb, cb, lit, fd, h, -⟩ := hLk; exact h.lt
  have hbw := bw_new (Below.refl X.heap.size X) (.cells (setL hv).toArray 84)
  obtain ⟨X0, hX0⟩ : ∃ W, W = X.alloc (.cells (setL hv).toArray 84) := ⟨_, rfl⟩
  have hX0' : X.alloc (.cells (setL hv).toArray 84) = X0 := hX0.symm
  rw [← hX0] at hbw
  have HB0 := Lib.hid hbw
  have hHb : Blk X0 X.heap.size 84 (setL hv) := by rw [hX0]; exact heap_alloc_new X _
  have HHB := Lib.hid hHb
  have HLC := Lib.hid (hLc.chs (.of_below hbw))
  have hlk0 := hLk.step hbw
  have HLK := Lib.hid hlk0
  have HG := Lib.hid (Nat.lt_of_lt_of_le hgl hbw.size)
  have HGX := Lib.hid hgl
  have H1 := Lib.hid ((h1.below hbw).more hbw.size)
  have hl1k : l1 ≤ 1000 := by omega
  obtain ⟨i0, hi0, hz0, hz1, hz2⟩ := info_parts infoIntS
  have HI0 := Lib.hid hi0
  have HZ0 := Lib.hid hz0
  have HZ1 := Lib.hid hz1
  have HZ2 := Lib.hid hz2
  have hcnk : count ≤ 16000 := by omega
  obtain ⟨AB, nb, cb, lit, fd, hbk, hbn, hbs⟩ := hlk0
  have HBS := Lib.hid hbs
  obtain ⟨d0, d1, d2, d3, d4⟩ := five_of hbk
  have HD := Lib.hid hbk
  have HX0 := Lib.hid hX0'
  obtain ⟨cutB, hcb⟩ : ∃ b, b = lsCut s chosen count := ⟨_, rfl⟩
  have HCB := Lib.hid hcb
  clear hi0 hz0 hz1 hz2 hR ih hLc hLk h1 hl1 hA1 hne1 hl hcn hf hgl hbw hX0 hHb hbk hbs hbn hcb hq hL0 hLl hon hol
  go_enter Tryz.func43, Tryz.ntmps43
  go_upto_region 1 with fail
  clear hX0'
  go_cut [49] from 18 to 48 (fun s49 wx => s49 = .bool cutB ∧ X0 = wx)
  case first =>
   rcases HBS.out with ⟨hs, rfl, -⟩ | ⟨b, hs, rfl, hnb, -, -⟩
   ·have HE := Lib.hid (show false = cutB by rw [HCB.out, hs]; rfl)
    go_wp2_with fail
    go_meet
    exact ⟨by rw [← HE.out], rfl⟩
   ·have hcu : cutB = decide (b.length < chosen.length ∨ chosen.length = b.length ∧ lit < count) := by rw [HCB.out, hs]; rfl
    rw [← hnb, ← HP.out.1] at hcu
    have HCU := Lib.hid hcu
    clear hcu hnb hs
    by_cases h1 : nb < l1
    ·have HE := Lib.hid (show true = cutB by rw [HCU.out]; exact (decide_eq_true (.inl h1)).symm)
     have h1z : (nb : Int) < (l1 : Int) := by omega
     go_wp2_with fail
     go_meet
     exact ⟨by rw [← HE.out], rfl⟩
    ·have h1z : ¬ (nb : Int) < (l1 : Int) := by omega
     by_cases h2 : l1 = nb
     ·have h2z : ((l1 : Int) == (nb : Int)) = true := by rw [h2]; simp
      by_cases h3 : lit < count
      ·have HE := Lib.hid (show true = cutB by rw [HCU.out]; exact (decide_eq_true (.inr ⟨h2, h3⟩)).symm)
       have h3z : (lit : Int) < (count : Int) := by omega
       clear h1 h2 h3
       go_wp2_with fail
       go_meet
       exact ⟨by rw [← HE.out], rfl⟩
      ·have HE := Lib.hid (show false = cutB by rw [HCU.out]; exact (decide_eq_false (by omega)).symm)
       have h3z : ¬ (lit : Int) < (count : Int) := by omega
       clear h1 h2 h3
       go_wp2_with fail
       go_meet
       exact ⟨by rw [← HE.out], rfl⟩
     ·have h2z : ((l1 : Int) == (nb : Int)) = false := by rw [beq_eq_false_iff_ne]; intro e; exact h2 (Int.natCast_inj.1 e)
      have HE := Lib.hid (show false = cutB by rw [HCU.out]; exact (decide_eq_false (by omega)).symm)
      clear h1 h2
      go_wp2_with fail
      go_meet
      exact ⟨by rw [← HE.out], rfl⟩
  case rest =>
  obtain ⟨rfl, rfl⟩ := hcut
  cases cutB with
  | true =>
   have HE := Lib.hid (show R = s by rw [HR.out, if_pos HCB.out.symm])
   go_wp2_with fail
   exact bodyPost_ret (v := .tuple #[]) (results_none rfl _ _ _) rfl ⟨rfl, .of_below HB0.out, by rw [HE.out]; exact HLK.out⟩
  | false =>
  have HR1 := Lib.hid (HR.out.trans (if_neg (by rw [← HCB.out]; simp)))
  clear HR HCB
  go_wp2_with fail
  go_loopw [8, 9, 55] (fun u v x wr => ∃ (k : Nat) (st : Option (Nat × Nat)), k ≤ no ∧ x = .int .i64 (k : Int) ∧ u = .int .i64 (rwV st).1 ∧ v = .int .i64 (rwV st).2 ∧ lsRow (lsP q L0) hv (on.drop k) st = lsRow (lsP q L0) hv on none ∧ (∀ y l, st = some (y, l) → y < 256 ∧ l ≤ 65536) ∧ Below X0.heap.size X0 wr) (fun _ _ x _ => no - (intOf x).toNat)
  case atStart => exact ⟨0, none, Nat.zero_le _, rfl, rfl, rfl, rfl, (fun y l h => by cases h), Below.refl _ _⟩
  case round =>
   obtain ⟨k, st, hk, rfl, rfl, rfl, hrow, hst, hb⟩ := hrel
   have HROW := Lib.hid hrow
   have HST := Lib.hid hst
   have HBW := Lib.hid hb
   clear hrow hst hb
   by_cases hkl : k < no
   ·have hlc := HLC.out.chs (.of_below HBW.out)
    have hkon : k < on.length := by rw [← hlc.no]; exact hkl
    obtain ⟨b2, off2, hA2e, hb2, hcs⟩ := hlc.onr (by omega)
    have ck := hcs k hkon
    have hrk : on.getD k 0 = on[k]'hkon := by rw [List.getD_eq_getElem?_getD, List.getElem?_eq_getElem hkon]; rfl
    rw [← hrk] at ck
    have hx256 : on.getD k 0 < 256 := HC.out.2.2.2.1 _ (by rw [hrk]; exact List.getElem_mem _)
    have hstep := lsRow_step (lsP q L0) hv hkon st
    have hkk : k ≤ 1000 := by have := HC.out.2.2.2.2; omega
    obtain ⟨x, hx⟩ : ∃ r, r = on.getD k 0 := ⟨_, rfl⟩
    rw [← hx] at ck hx256 hstep
    have HSTEP := Lib.hid hstep
    have HHAS := Lib.hid (show ∀ W, Calls Tryz.prog 56 #[.agg #[.int .u64 (wd hv 0 : Nat), .int .u64 (wd hv 1 : Nat), .int .u64 (wd hv 2 : Nat), .int .u64 (wd hv 3 : Nat)], .int .i64 (x : Int)] W fun e w' => e = .returned (.bool (hv.testBit x)) ∧ Below W.heap.size W w' from fun W => ihas_any hv x W hx256)
    obtain ⟨v0, v1, v2, v3⟩ := set_of ((HBW.out.block _ HHB.out.lt).trans HHB.out)
    subst hA2e
    have hkl2 : (k : Int) < (no : Int) := by omega
    obtain ⟨k2, hk2⟩ : ∃ z : Int, z = (k : Int) + 1 := ⟨_, rfl⟩
    have hwk : IntKind.i64.wrap ((k : Int) + 1) = k2 := by rw [hk2]; exact IntWalk.i64_in _ (by omega)
    have HKL := Lib.hid hkl
    have HK2 := Lib.hid hk2
    have HX := Lib.hid hx256
    clear hk hkl hk2 hrk hx hx256 hcs hb2 hlc hkon hstep hkk
    go_wp2_with fail
    refine (HHAS.out _).mono ?_
    rintro e w2 ⟨rfl, hb2⟩
    have HBW2 := Lib.hid (HBW.out.trans (hb2.mono HBW.out.size))
    clear hb2 v0 v1 v2 v3 ck
    obtain ⟨t0, ht0⟩ : ∃ b, b = hv.testBit x := ⟨_, rfl⟩
    rw [← ht0] at HSTEP ⊢
    have HT0 := Lib.hid ht0
    clear ht0
    cases t0 with
    | true =>
     go_wp2_with fail
     go_roundw
     case rel => exact ⟨k + 1, st, by have := HKL.out; omega, by rw [HK2.out]; rfl, rfl, rfl, by rw [← HROW.out, HSTEP.out]; first | rw [if_pos rfl] | rw [if_pos trivial], HST.out, HBW2.out⟩
     case measure => have := HKL.out; have := HK2.out; simp only [intOf]; omega
    | false =>
     obtain ⟨e0, e1, e2, e3, e4⟩ := five_of ((HBW2.out.block gs HG.out).trans HD.out)
     have hbl : ∀ W, Below X0.heap.size X0 W → LcAt W q gs nl no AL (some ⟨b2, off2, none⟩) L0 on := fun W h => HLC.out.chs (.of_below h)
     have HBL := Lib.hid hbl
     have HNL := Lib.hid (And.intro HLC.out.nl (HLC.out.nl ▸ HC.out.2.2.1))
     have hnl6 : nl ≤ 65536 := HNL.out.2
     clear hbl
     go_wp2_with fail
     go_loopw [12, 67] (fun u y wx => ∃ j : Nat, j ≤ nl ∧ y = .int .i64 (j : Int) ∧ u = .int .i64 (cntP (lsP q L0) x j : Int) ∧ Below X0.heap.size X0 wx) (fun _ y _ => nl - (intOf y).toNat)
     case atStart => exact ⟨0, Nat.zero_le _, rfl, rfl, HBW2.out⟩
     case round =>
      obtain ⟨j, hj, rfl, rfl, hb⟩ := hrel
      have HBJ := Lib.hid hb
      clear hb e0 e1 e2 e3 e4
      have hcl := cntP_le (lsP q L0) x j
      have HCS := Lib.hid (fun h => cntP_succ (lsP q L0) x j h)
      have HCA := Lib.hid (fun h => cntP_all (lsP q L0) x j h)
      obtain ⟨n, hn⟩ : ∃ n, n = cntP (lsP q L0) x j := ⟨_, rfl⟩
      rw [← hn] at hcl HCS HCA
      rw [← hn]
      clear hn
      by_cases hjl : j < nl
      ·have hjL : j < L0.length := by rw [← HNL.out.1]; exact hjl
       obtain ⟨g, hA, hg, q0, q1, q2, q3, q4, q5⟩ := prd_at (HBL.out _ HBJ.out).pr hjL
       subst hA
       have hget := lsP_get q L0 j hjL
       have hcs := HCS.out (by rw [lsP_len]; exact hjL)
       rw [hget] at hcs
       obtain ⟨z, hz⟩ : ∃ z, z = L0.getD j (0, 0) := ⟨_, rfl⟩
       rw [← hz] at q0 q1 q2 q3 q4 q5 hcs
       obtain ⟨a, b⟩ := z
       dsimp only at q0 q1 q2 q3 q4 q5 hcs
       obtain ⟨t1, ht1⟩ : ∃ t, t = (cM q a b).testBit x := ⟨_, rfl⟩
       have hha := fun W => ihas_any (cM q a b) x W HX.out
       rw [← ht1] at hha hcs
       have HHA := Lib.hid (show ∀ W, Calls Tryz.prog 56 #[.agg #[.int .u64 (wd (cM q a b) 0 : Nat), .int .u64 (wd (cM q a b) 1 : Nat), .int .u64 (wd (cM q a b) 2 : Nat), .int .u64 (wd (cM q a b) 3 : Nat)], .int .i64 (x : Int)] W fun e w' => e = .returned (.bool t1) ∧ Below W.heap.size W w' from hha)
       have HCS1 := Lib.hid hcs
       have hjlz : (j : Int) < (nl : Int) := by omega
       obtain ⟨j2, hj2⟩ : ∃ z : Int, z = (j : Int) + 1 := ⟨_, rfl⟩
       have hwj : IntKind.i64.wrap ((j : Int) + 1) = j2 := by rw [hj2]; exact IntWalk.i64_in _ (by omega)
       obtain ⟨n2, hn2⟩ : ∃ z : Int, z = (n : Int) + 1 := ⟨_, rfl⟩
       have hwn : IntKind.i64.wrap ((n : Int) + 1) = n2 := by rw [hn2]; exact IntWalk.i64_in _ (by omega)
       have HJ2 := Lib.hid hj2
       have HN2 := Lib.hid hn2
       have HJL := Lib.hid hjl
       clear hjl hjL hget hz ht1 hha hcs hj2 hn2 hj hg
       go_wp2_with fail
       refine (HHA.out _).mono ?_
       rintro e w3 ⟨rfl, hb3⟩
       have HB3 := Lib.hid ((bw_new HBJ.out (.cells #[.int .i64 (a : Int), .int .i64 (b : Int), .int .u64 (wd (cM q a b) 0 : Nat), .int .u64 (wd (cM q a b) 1 : Nat), .int .u64 (wd (cM q a b) 2 : Nat), .int .u64 (wd (cM q a b) 3 : Nat)] 86)).trans (hb3.mono (by simp; exact Nat.le_succ_of_le HBJ.out.size)))
       clear hb3 q0 q1 q2 q3 q4 q5
       cases t1 with
       | true =>
        go_wp2_with fail
        go_roundw
        case rel => exact ⟨j + 1, by have := HJL.out; omega, by rw [HJ2.out]; rfl, by rw [HN2.out, HCS1.out]; rfl, HB3.out⟩
        case measure => have := HJL.out; have := HJ2.out; simp only [intOf]; omega
       | false =>
        go_wp2_with fail
        go_roundw
        case rel => exact ⟨j + 1, by have := HJL.out; omega, by rw [HJ2.out]; rfl, by rw [HCS1.out]; rfl, HB3.out⟩
        case measure => have := HJL.out; have := HJ2.out; simp only [intOf]; omega
      ·have HNE := Lib.hid (show (lsP q L0).countP (fun p => p.1.testBit x) = n from (HCA.out (by rw [lsP_len]; have := HNL.out.1; omega)).symm)
       have hjn : ¬ (j : Int) < (nl : Int) := by omega
       have hn65 : n ≤ 65536 := by omega
       have hst2 := HSTEP.out
       rw [HNE.out] at hst2
       have HSTEP2 := Lib.hid (hst2.symm.trans HROW.out)
       clear hst2 hjl hj
       cases st with
       | none =>
        have HFI := Lib.hid (show lsRow (lsP q L0) hv (on.drop (k + 1)) (some (x, n)) = lsRow (lsP q L0) hv on none by rw [← HSTEP2.out]; rfl)
        dsimp only [rwV]
        clear HSTEP2
        go_wp2_with fail
        go_roundw
        case rel => exact ⟨k + 1, some (x, n), by have := HKL.out; omega, by rw [HK2.out]; rfl, rfl, rfl, HFI.out, (fun y l h => by cases h; exact ⟨HX.out, hn65⟩), HBJ.out⟩
        case measure => have := HKL.out; have := HK2.out; simp only [intOf]; omega
       | some yl =>
        obtain ⟨y, l⟩ := yl
        dsimp only [rwV]
        have hy0 : ¬ (y : Int) < 0 := by omega
        have hsyl := HST.out y l rfl
        have HYL := Lib.hid hsyl
        clear hsyl
        by_cases hnl2 : n < l
        ·have hnlz : (n : Int) < (l : Int) := by omega
         have HFI := Lib.hid (show lsRow (lsP q L0) hv (on.drop (k + 1)) (some (x, n)) = lsRow (lsP q L0) hv on none by rw [← HSTEP2.out]; dsimp only; rw [if_pos hnl2]; rfl)
         clear hnl2 HSTEP2
         go_wp2_with fail
         go_roundw
         case rel => exact ⟨k + 1, some (x, n), by have := HKL.out; omega, by rw [HK2.out]; rfl, rfl, rfl, HFI.out, (fun y l h => by cases h; exact ⟨HX.out, hn65⟩), HBJ.out⟩
         case measure => have := HKL.out; have := HK2.out; simp only [intOf]; omega
        ·have hnlz : ¬ (n : Int) < (l : Int) := by omega
         have HFI := Lib.hid (show lsRow (lsP q L0) hv (on.drop (k + 1)) (some (y, l)) = lsRow (lsP q L0) hv on none by rw [← HSTEP2.out]; dsimp only; rw [if_neg hnl2]; rfl)
         clear hnl2 HSTEP2
         go_wp2_with fail
         go_roundw
         case rel => exact ⟨k + 1, some (y, l), by have := HKL.out; omega, by rw [HK2.out]; rfl, rfl, rfl, HFI.out, (fun y' l' h => by cases h; exact HYL.out), HBJ.out⟩
         case measure => have := HKL.out; have := HK2.out; simp only [intOf]; omega
   ·have HRW := Lib.hid (show lsRow (lsP q L0) hv on none = st by
     rw [← HROW.out, List.drop_eq_nil_of_le (by have := HLC.out.no; omega)]; rfl)
    have hkn : ¬ (k : Int) < (no : Int) := by omega
    have hr2 := HR1.out
    rw [HRW.out] at hr2
    have HR2 := Lib.hid hr2
    clear hr2 hkl hk HROW HR1
    cases st with
    | none =>
     dsimp only [rwV]
     have HR3 := Lib.hid (show R = lsEnd s chosen count from HR2.out)
     clear HR2 HRW
     obtain ⟨endB, heb⟩ : ∃ b : Bool, b = lsEB s chosen count := ⟨_, rfl⟩
     have HEB := Lib.hid heb
     have HRE := Lib.hid (show R = if endB then some (sortN chosen, count) else s by rw [HR3.out, heb]; exact lsEnd_eb s chosen count)
     have HVL := Lib.hid (fun W (h : Below X0.heap.size X0 W) => sorted_any A1 l1 c1 chosen HP.out.1 hl1k W ((H1.out.below h).more h.size))
     clear heb HR3
     go_wp2_with fail
     refine (HVL.out _ HBW.out).mono ?_
     rintro e w5 ⟨rfl, hb5, hsd⟩
     have HSD := Lib.hid hsd
     have HB5 := Lib.hid (HBW.out.trans (hb5.mono HBW.out.size))
     clear hb5 hsd
     go_wp2_with fail
     refine HSD.out.mono ?_
     rintro e w6 ⟨A6, c6, rfl, hrd6, hne6, hb6⟩
     have HB6 := Lib.hid (HB5.out.trans (hb6.mono HB5.out.size))
     have HRD6 := Lib.hid hrd6
     have HNE6 := Lib.hid (fun p hp => Nat.le_trans HBW.out.size (hne6 p hp))
     clear hrd6 hne6 hb6
     go_upto_region 19 with fail
     go_cut [142] from 93 to 141 (fun s142 wx => s142 = .bool endB ∧ Below w6.heap.size w6 wx)
     case first =>
      obtain ⟨e0, e1, e2, e3, e4⟩ := five_of ((HB6.out.block gs HG.out).trans HD.out)
      rcases HBS.out with ⟨hs, rfl, -⟩ | ⟨b, hs, rfl, hnb, hnb4, hrb⟩
      ·have HE := Lib.hid (show true = endB by rw [HEB.out, hs]; rfl)
       clear hs
       go_wp2_with fail
       go_meet
       exact ⟨by rw [← HE.out], Below.refl _ _⟩
      ·have hcu : endB = decide (chosen.length < b.length ∨ chosen.length = b.length ∧ (count < lit ∨ count = lit ∧ lexLt (sortN chosen) b = true)) := by rw [HEB.out, hs]; rfl
       rw [← hnb, ← HP.out.1] at hcu
       have HCU := Lib.hid hcu
       have HRB := Lib.hid ((hrb.below HB6.out).more HB6.out.size)
       have HNB := Lib.hid hnb
       clear hcu hnb hs hrb
       by_cases h1 : l1 < nb
       ·have HE := Lib.hid (show true = endB by rw [HCU.out]; exact (decide_eq_true (.inl h1)).symm)
        have h1z : (l1 : Int) < (nb : Int) := by omega
        go_wp2_with fail
        go_meet
        exact ⟨by rw [← HE.out], Below.refl _ _⟩
       ·have h1z : ¬ (l1 : Int) < (nb : Int) := by omega
        by_cases h2 : l1 = nb
        ·have h2z : ((l1 : Int) == (nb : Int)) = true := by rw [h2]; simp
         by_cases h3 : count < lit
         ·have HE := Lib.hid (show true = endB by rw [HCU.out]; exact (decide_eq_true (.inr ⟨h2, .inl h3⟩)).symm)
          have h3z : (count : Int) < (lit : Int) := by omega
          clear h1 h2 h3
          go_wp2_with fail
          go_meet
          exact ⟨by rw [← HE.out], Below.refl _ _⟩
         ·have h3z : ¬ (count : Int) < (lit : Int) := by omega
          by_cases h4 : count = lit
          ·have h4z : ((count : Int) == (lit : Int)) = true := by rw [h4]; simp
           have hlx : endB = lexLt (sortN chosen) b := by
            rw [HCU.out]
            cases hx : lexLt (sortN chosen) b with
            | true => exact decide_eq_true (.inr ⟨h2, .inr ⟨h4, rfl⟩⟩)
            | false => exact decide_eq_false (fun h => by
              rcases h with h | ⟨_, h | ⟨_, h⟩⟩
              ·exact h1 h
              ·exact h3 h
              ·cases h)
           have hcn := cmpL_neg (sortN chosen) b
           have HCM := Lib.hid (compare_any A6 AB c6 cb l1 nb (sortN chosen) b w6 HRD6.out HRB.out (by rw [(sortN_perm chosen).length_eq]; exact HP.out.1) HNB.out hl1k)
           obtain ⟨r, hr⟩ : ∃ r, r = cmpL (sortN chosen) b := ⟨_, rfl⟩
           rw [← hr] at hcn HCM
           rw [← hlx] at hcn
           cases endB with
           | true =>
            have hrz : r < 0 := of_decide_eq_true hcn
            clear h1 h2 h3 h4 hlx hcn hr HCU HEB HRE
            go_wp2_with fail
            refine HCM.out.mono ?_
            rintro e w7 ⟨rfl, hb7⟩
            have HB7 := Lib.hid hb7
            clear hb7
            go_wp2_with fail
            go_meet
            exact ⟨rfl, HB7.out⟩
           | false =>
            have hrz : ¬ r < 0 := of_decide_eq_false hcn
            clear h1 h2 h3 h4 hlx hcn hr HCU HEB HRE
            go_wp2_with fail
            refine HCM.out.mono ?_
            rintro e w7 ⟨rfl, hb7⟩
            have HB7 := Lib.hid hb7
            clear hb7
            go_wp2_with fail
            go_meet
            exact ⟨by rw [decide_eq_false (Int.not_lt.2 hrz)], HB7.out⟩
          ·have h4z : ((count : Int) == (lit : Int)) = false := by rw [beq_eq_false_iff_ne]; intro e; exact h4 (Int.natCast_inj.1 e)
           have HE := Lib.hid (show false = endB by rw [HCU.out]; exact (decide_eq_false (by omega)).symm)
           clear h1 h2 h3 h4
           go_wp2_with fail
           go_meet
           exact ⟨by rw [← HE.out], Below.refl _ _⟩
        ·have h2z : ((l1 : Int) == (nb : Int)) = false := by rw [beq_eq_false_iff_ne]; intro e; exact h2 (Int.natCast_inj.1 e)
         have HE := Lib.hid (show false = endB by rw [HCU.out]; exact (decide_eq_false (by omega)).symm)
         clear h1 h2
         go_wp2_with fail
         go_meet
         exact ⟨by rw [← HE.out], Below.refl _ _⟩
     case rest =>
     obtain ⟨rfl, hb7⟩ := hcut
     have HB7 := Lib.hid (HB6.out.trans (hb7.mono HB6.out.size))
     have HRD7 := Lib.hid ((HRD6.out.below hb7).more hb7.size)
     clear hb7
     cases endB with
     | true =>
      have HE := Lib.hid (show R = some (sortN chosen, count) by rw [HRE.out]; rfl)
      have hbk7 : Blk wc gs 81 [.slice AL nl cl, .slice AO no co, .slice AB nb cb, nv lit, .bool fd] := (HB7.out.block gs HG.out).trans HD.out
      obtain ⟨e0, e1, e2, e3, e4⟩ := five_of hbk7
      have f2 := hbk7.frozen 2
      have f3 := hbk7.frozen 3
      have f4 := hbk7.frozen 4
      have HBK := Lib.hid hbk7
      have hnec : ∀ p, A6 = some p → p.block ≠ gs := fun p hp e => by have h1 := HNE6.out p hp; have h2 := HG.out; omega
      have HCHF := Lib.hid ((((Chs.of_below (g := gs) (HB0.out.trans (HB7.out.mono HB0.out.size))).set 2 (.slice A6 l1 c6)).set 3 (.int .i64 (count : Int))).set 4 (.bool true))
      have HLKF := Lib.hid (show LkAt (((wc.setCell ⟨gs, 2, none⟩ (.slice A6 l1 c6)).setCell ⟨gs, 3, none⟩ (.int .i64 (count : Int))).setCell ⟨gs, 4, none⟩ (.bool true)) gs nl cl no co AL AO R from
       ⟨A6, l1, c6, count, true, (((HBK.out.put 2 (.slice A6 l1 c6)).put 3 (.int .i64 (count : Int))).put 4 (.bool true)), hnec, .inr ⟨sortN chosen, HE.out, rfl, by rw [(sortN_perm chosen).length_eq]; exact HP.out.1, by omega, HRD7.out.chsN (fun _ => hnec) ((((Chs.refl gs wc).set 2 _).set 3 _).set 4 _)⟩⟩)
      clear hbk7 hnec
      go_wp2_with fail
      exact bodyPost_ret (v := .tuple #[]) (results_none rfl _ _ _) rfl ⟨rfl, HCHF.out, HLKF.out⟩
     | false =>
      have HE := Lib.hid (show R = s by rw [HRE.out]; rfl)
      go_wp2_with fail
      exact bodyPost_ret (v := .tuple #[]) (results_none rfl _ _ _) rfl ⟨rfl, .of_below (HB0.out.trans (HB7.out.mono HB0.out.size)), by rw [HE.out]; exact HLK.out.step HB7.out⟩
    | some yl =>
     obtain ⟨row, lst⟩ := yl
     dsimp only [rwV]
     have HR3 := Lib.hid (show R = if lsFull s chosen then s else lsGo (lsSeek (lsP q L0) on f) row chosen hv count (lsP q L0) 0 s from HR2.out)
     have HROWK := Lib.hid (HST.out row lst rfl).1
     have hrow0 : ¬ (row : Int) < 0 := by omega
     have HNR := Lib.hid (show row ∈ on ∧ hv.testBit row = false by
      rcases lsRow_some (lsP q L0) hv on none row lst HRW.out with ⟨l', h⟩ | h
      ·cases h
      ·exact h)
     obtain ⟨fullB, hfb⟩ : ∃ b, b = lsFull s chosen := ⟨_, rfl⟩
     have HFB := Lib.hid hfb
     have HR4 := Lib.hid (show R = if fullB then s else lsGo (lsSeek (lsP q L0) on f) row chosen hv count (lsP q L0) 0 s by rw [hfb]; exact HR3.out)
     clear hfb HR2 HR3 HRW HST
     obtain ⟨e0, e1, e2, e3, e4⟩ := five_of ((HBW.out.block gs HG.out).trans HD.out)
     go_upto_region 21 with fail
     go_cut [167] from 154 to 166 (fun s167 wx => s167 = .bool fullB ∧ wr = wx)
     case first =>
      rcases HBS.out with ⟨hs, rfl, -⟩ | ⟨b, hs, rfl, hnb, hnb4, hrb⟩
      ·have HE := Lib.hid (show false = fullB by rw [HFB.out, hs]; rfl)
       clear hs
       go_wp2_with fail
       go_meet
       exact ⟨by rw [← HE.out], rfl⟩
      ·have hcu : fullB = decide (b.length ≤ chosen.length) := by rw [HFB.out, hs]; rfl
       rw [← hnb, ← HP.out.1] at hcu
       have HCU := Lib.hid hcu
       clear hcu hnb hs hrb
       by_cases h1 : nb ≤ l1
       ·have HE := Lib.hid (show true = fullB by rw [HCU.out]; exact (decide_eq_true h1).symm)
        have h1z : (nb : Int) ≤ (l1 : Int) := by omega
        go_wp2_with fail
        go_meet
        exact ⟨by rw [← HE.out], rfl⟩
       ·have HE := Lib.hid (show false = fullB by rw [HCU.out]; exact (decide_eq_false h1).symm)
        have h1z : ¬ (nb : Int) ≤ (l1 : Int) := by omega
        go_wp2_with fail
        go_meet
        exact ⟨by rw [← HE.out], rfl⟩
     case rest =>
     obtain ⟨rfl, rfl⟩ := hcut
     cases fullB with
     | true =>
      have HE := Lib.hid (show R = s by rw [HR4.out]; rfl)
      go_wp2_with fail
      exact bodyPost_ret (v := .tuple #[]) (results_none rfl _ _ _) rfl ⟨rfl, .of_below (HB0.out.trans (HBW.out.mono HB0.out.size)), by rw [HE.out]; exact HLK.out.step HBW.out⟩
     | false =>
      have HRG := Lib.hid (show R = lsGo (lsSeek (lsP q L0) on f) row chosen hv count (lsP q L0) 0 s by rw [HR4.out]; rfl)
      clear HR4 HFB
      have HNL := Lib.hid (And.intro HLC.out.nl (HLC.out.nl ▸ HC.out.2.2.1))
      have hnl6 : nl ≤ 65536 := HNL.out.2
      go_wp2_with fail
      go_loopw [173] (fun x wx => ∃ (j : Nat) (sk : LsS), j ≤ nl ∧ x = .int .i64 (j : Int) ∧ R = lsGo (lsSeek (lsP q L0) on f) row chosen hv count ((lsP q L0).drop j) j sk ∧ Chs gs X0 wx ∧ LkAt wx gs nl cl no co AL AO sk) (fun x _ => nl - (intOf x).toNat)
      case atStart => exact ⟨0, s, Nat.zero_le _, rfl, HRG.out, .of_below HBW.out, HLK.out.step HBW.out⟩
      case round =>
       obtain ⟨j, sk, hj, rfl, hrr, hch, hlk⟩ := hrel
       have HRR := Lib.hid hrr
       have HCHJ := Lib.hid hch
       have HLKJ := Lib.hid hlk
       clear hrr hch hlk e0 e1 e2 e3 e4
       by_cases hjl : j < nl
       ·have hjL : j < L0.length := by rw [← HNL.out.1]; exact hjl
        obtain ⟨g, hA, hg, q0, q1, q2, q3, q4, q5⟩ := prd_at (HLC.out.chs HCHJ.out).pr hjL
        subst hA
        have ha256 : (L0.getD j (0, 0)).1 < 256 := HC.out.2.1 _ (by rw [List.getD_eq_getElem?_getD, List.getElem?_eq_getElem hjL]; exact List.getElem_mem _)
        have hget := lsP_get q L0 j hjL
        have hst := lsGo_step (lsSeek (lsP q L0) on f) row chosen hv count (P := lsP q L0) (k := j) (by rw [lsP_len]; exact hjL) sk
        rw [hget] at hst
        have hfl : (cM q (L0.getD j (0, 0)).1 (L0.getD j (0, 0)).2).testBit row = true → (on.filter fun x => !(hv ||| cM q (L0.getD j (0, 0)).1 (L0.getD j (0, 0)).2).testBit x).length < f := fun hb => by
         have := filter_less (fun x => !hv.testBit x) (fun x => !(hv ||| cM q (L0.getD j (0, 0)).1 (L0.getD j (0, 0)).2).testBit x) on (fun x _ hx => by
            rw [Nat.testBit_or] at hx
            cases hh : hv.testBit x with
            | false => rfl
            | true => rw [hh] at hx; cases hx) ⟨row, HNR.out.1, by rw [HNR.out.2]; rfl, by rw [Nat.testBit_or, hb]; simp⟩
         have := HP.out.2.2.2.2.2
         omega
        obtain ⟨z, hz⟩ : ∃ z, z = L0.getD j (0, 0) := ⟨_, rfl⟩
        rw [← hz] at q0 q1 q2 q3 q4 q5 hst hfl ha256
        obtain ⟨a, b⟩ := z
        dsimp only at q0 q1 q2 q3 q4 q5 hst hfl ha256
        have HFL := Lib.hid hfl
        have HA256 := Lib.hid ha256
        have HST := Lib.hid (HRR.out.trans hst)
        obtain ⟨t1, ht1⟩ : ∃ t, t = (cM q a b).testBit row := ⟨_, rfl⟩
        have hha := fun W => ihas_any (cM q a b) row W HROWK.out
        rw [← ht1] at hha hst
        have HT1 := Lib.hid ht1
        have HHA := Lib.hid (show ∀ W, Calls Tryz.prog 56 #[.agg #[.int .u64 (wd (cM q a b) 0 : Nat), .int .u64 (wd (cM q a b) 1 : Nat), .int .u64 (wd (cM q a b) 2 : Nat), .int .u64 (wd (cM q a b) 3 : Nat)], .int .i64 (row : Int)] W fun e w' => e = .returned (.bool t1) ∧ Below W.heap.size W w' from hha)
        have hjlz : (j : Int) < (nl : Int) := by omega
        obtain ⟨j2, hj2⟩ : ∃ z : Int, z = (j : Int) + 1 := ⟨_, rfl⟩
        have hwj : IntKind.i64.wrap ((j : Int) + 1) = j2 := by rw [hj2]; exact IntWalk.i64_in _ (by omega)
        have HJ2 := Lib.hid hj2
        have HJL := Lib.hid hjl
        have HPB := Lib.hid (show Blk (wr.alloc (.cells (pmL q (a, b)).toArray 86)) wr.heap.size 86 (pmL q (a, b)) from heap_alloc_new wr _)
        have HBA := Lib.hid (bw_new (Below.refl wr.heap.size wr) (.cells (pmL q (a, b)).toArray 86))
        clear hjl hjL hget hz ht1 hha hst hfl hj2 hj hg ha256
        go_wp2_with fail
        refine (HHA.out _).mono ?_
        rintro e w3 ⟨rfl, hb3⟩
        have HCH3 := Lib.hid ((HCHJ.out.step HBA.out).step hb3)
        have HLK3 := Lib.hid ((HLKJ.out.step HBA.out).step hb3)
        have HPB3 := Lib.hid ((hb3.block wr.heap.size HPB.out.lt).trans HPB.out)
        have HB33 := Lib.hid hb3
        clear hb3 q0 q1 q2 q3 q4 q5
        cases t1 with
        | false =>
         go_wp2_with fail
         go_roundw
         case rel => exact ⟨j + 1, sk, by have := HJL.out; omega, by rw [HJ2.out]; rfl, by rw [HST.out]; rw [← HT1.out]; rfl, HCH3.out, HLK3.out⟩
         case measure => have := HJL.out; have := HJ2.out; simp only [intOf]; omega
        | true =>
         have HST2 := Lib.hid (show R = lsGo (lsSeek (lsP q L0) on f) row chosen hv count ((lsP q L0).drop (j + 1)) (j + 1) (lsSeek (lsP q L0) on f sk (chosen ++ [j]) (hv ||| cM q a b) (count + popc a)) by rw [HST.out]; rw [← HT1.out]; rfl)
         have hpop := popc_le8 a
         obtain ⟨c2n, hc2n⟩ : ∃ c, c = count + popc a := ⟨_, rfl⟩
         have hwc : IntKind.i64.wrap ((count : Int) + (popc a : Int)) = (c2n : Int) := by rw [hc2n]; exact (IntWalk.i64_in _ (by omega)).trans (by omega)
         have HC2 := Lib.hid (And.intro hc2n hpop)
         have hs188 := slice_full A1 l1 c1 hc1
         have HFL2 := Lib.hid (HFL.out HT1.out.symm)
         obtain ⟨pb, hpb⟩ : ∃ b, b = wr.heap.size := ⟨_, rfl⟩
         rw [← hpb] at HPB3 ⊢
         have HPBN := Lib.hid (show pb ≠ gs ∧ X.heap.size ≠ gs by
          have h1 := HG.out
          have h2 := HCHJ.out.size
          have h3 := HGX.out
          omega)
         have HEI := Lib.hid (fun W => ieither_any hv (cM q a b) W)
         have HLI := Lib.hid (fun W => iliterals_any a (nv b) W HA256.out)
         have H13 := Lib.hid (((H1.out.chsN (fun _ => HP.out.2.2.1) HCHJ.out).below (HBA.out.trans (HB33.out.mono HBA.out.size))).more (Nat.le_trans HBA.out.size HB33.out.size))
         have HHB3 := Lib.hid (((HCHJ.out.step HBA.out).step HB33.out |>.block X.heap.size HHB.out.lt HPBN.out.2).trans HHB.out)
         clear hpop hc2n hpb HT1 HFL HST
         go_upto_region 26 with fail
         refine wp_regionJ 20 #[false, false, false, false, false, false, false, false, false, false, false, false, false, false, false, false, false, false, false, false] (fun ll aa W => ∃ (m0 m1 m2 m3 m4 m5 m6 m7 m8 m9 m10 m11 m12 m13 m14 m15 m16 m17 m18 m19 : Bool) (gN : Nat) (Av : Option Addr) (cv : Nat), ll = #[m0, m1, m2, m3, m4, m5, m6, m7, m8, m9, m10, m11, m12, m13, m14, m15, m16, m17, m18, m19] ∧ aa = ({ tmps := #[Value.pointer (some { block := gs, off := 0 }), Value.slice A1 l1 c1, Value.agg (setL hv).toArray, nv count, undef, undef, Value.pointer (some { block := X.heap.size, off := 0 }), undef, Value.int IntKind.i64 (row : Int), Value.int IntKind.i64 (lst : Int), undef, u11, u12, undef, u14, undef, Value.int IntKind.i64 (j : Int), Value.pointer (some { block := pb, off := 0 }), u18, u19, u20, u21, u22, u23, u24, u25, u26, u27, u28, u29, u30, u31, u32, u33, u34, u35, u36, u37, u38, u39, u40, u41, u42, u43, u44, u45, u46, u47, u48, Value.bool false, Value.pointer (some { block := gs, off := 0 }), Value.pointer (some { block := gs, off := 0 }), Value.pointer (some { block := gs, off := 1 }), Value.slice AO no co, Value.int IntKind.i64 (no : Int), Value.int IntKind.i64 (k : Int), Value.bool false, u57, u58, u59, u60, u61, u62, u63, u64, u65, u66, u67, u68, u69, u70, u71, u72, u73, u74, u75, u76, u77, u78, u79, u80, u81, u82, u83, u84, u85, u86, u87, Value.int IntKind.i64 (row : Int), Value.bool false, undef, undef, undef, undef, undef, undef, undef, undef, undef, undef, undef, undef, undef, undef, undef, undef, undef, undef, undef, undef, undef, undef, undef, undef, undef, undef, undef, undef, undef, undef, undef, undef, undef, undef, undef, undef, undef, undef, undef, undef, undef, undef, undef, undef, undef, undef, undef, undef, undef, undef, undef, undef, undef, undef, undef, undef, undef, undef, undef, undef, undef, undef, undef, undef, u154, u155, u156, u157, u158, u159, u160, u161, u162, u163, u164, u165, u166, Value.bool false, Value.pointer (some { block := gs, off := 0 }), Value.pointer (some { block := gs, off := 0 }), Value.pointer (some { block := gs, off := 0 }), Value.slice (some { block := g, off := 0 }) nl cl, Value.int IntKind.i64 (nl : Int), Value.int IntKind.i64 (j : Int), Value.bool true, Value.int IntKind.i64 (j : Int), Value.pointer (some { block := g, off := j * 6 }), Value.agg #[Value.int IntKind.i64 (a : Int), Value.int IntKind.i64 (b : Int), Value.int IntKind.u64 ↑(wd (cM q a b) 0), Value.int IntKind.u64 ↑(wd (cM q a b) 1), Value.int IntKind.u64 ↑(wd (cM q a b) 2), Value.int IntKind.u64 ↑(wd (cM q a b) 3)], Value.pointer (some { block := pb, off := 2 }), Value.agg #[Value.int IntKind.u64 ↑(wd (cM q a b) 0), Value.int IntKind.u64 ↑(wd (cM q a b) 1), Value.int IntKind.u64 ↑(wd (cM q a b) 2), Value.int IntKind.u64 ↑(wd (cM q a b) 3)], Value.int IntKind.i64 (row : Int), Value.bool true, cwX m0 (.pointer (some ⟨gs, 0, none⟩)) (u182), cwX m1 (.slice A1 l1 c1) (u183), cwX m2 (.slice A1 l1 c1) (u184), cwX m3 (.int .i64 (l1 : Int)) (u185), cwX m4 (.slice A1 l1 c1) (u186), cwX m5 (.int .i64 (l1 : Int)) (u187), cwX m6 (.slice A1 l1 l1) (u188), cwX m7 (nv j) (u189), cwX m8 (.slice (some ⟨gN, 0, none⟩) 1 1) (u190), cwX m9 (.slice Av (l1 + 1) cv) (u191), cwX m10 (.agg (setL hv).toArray) (u192), cwX m11 (.pointer (some ⟨pb, 2, none⟩)) (u193), cwX m12 (.agg (setL (cM q a b)).toArray) (u194), cwX m13 (.agg (setL (hv ||| cM q a b)).toArray) (u195), cwX m14 (nv count) (u196), cwX m15 (.pointer (some ⟨pb, 0, none⟩)) (u197), cwX m16 (.agg #[nv a, nv b]) (u198), cwX m17 (.int .i64 (popc a : Nat)) (u199), cwX m18 (nv c2n) (u200), cwX m19 (.tuple #[]) (u201), u202], defers := [] } : Act) ∧ ((m9 = true → m8 = true) ∧ (m19 = true → m9 = true) ∧ (m18 = true → m17 = true) ∧ (m19 = true → m13 = true) ∧ (m19 = true → m18 = true)) ∧ SlP w3 gs nl cl no co (some ⟨g, 0, none⟩) AO l1 j chosen (lsSeek (lsP q L0) on f sk (chosen ++ [j]) (hv ||| cM q a b) c2n) m8 m9 m19 gN Av cv W) (by kernel_rfl) (by kernel_rfl) (by kernel_rfl) (by kernel_rfl) ?_ ?_ ?_ ?_
         ·rintro ll aa W ⟨m0, m1, m2, m3, m4, m5, m6, m7, m8, m9, m10, m11, m12, m13, m14, m15, m16, m17, m18, m19, gN, Av, cv, rfl, _⟩
          rfl
         ·exact ⟨false, false, false, false, false, false, false, false, false, false, false, false, false, false, false, false, false, false, false, false, 0, none, 0, rfl, rfl, ⟨fun h => absurd h (by simp), fun h => absurd h (by simp), fun h => absurd h (by simp), fun h => absurd h (by simp), fun h => absurd h (by simp)⟩, SlP.start (bw_drew (Below.refl _ _))⟩
         ·rintro ll aa W i o ⟨m0, m1, m2, m3, m4, m5, m6, m7, m8, m9, m10, m11, m12, m13, m14, m15, m16, m17, m18, m19, gN, Av, cv, rfl, rfl, hi0, hm⟩ ho hun hall K hK
          have hi : i < 20 := (Array.getElem?_eq_some_iff.1 ho).1
          have HM := Lib.hid hm
          have HI := Lib.hid hi0
          clear hm hi0
          rcases (show i = 0 ∨ i = 1 ∨ i = 2 ∨ i = 3 ∨ i = 4 ∨ i = 5 ∨ i = 6 ∨ i = 7 ∨ i = 8 ∨ i = 9 ∨ i = 10 ∨ i = 11 ∨ i = 12 ∨ i = 13 ∨ i = 14 ∨ i = 15 ∨ i = 16 ∨ i = 17 ∨ i = 18 ∨ i = 19 by omega) with rfl | rfl | rfl | rfl | rfl | rfl | rfl | rfl | rfl | rfl | rfl | rfl | rfl | rfl | rfl | rfl | rfl | rfl | rfl | rfl
          ·cases ho
           simp at hun; subst hun
           clear hall hi
           go_simp
           exact hK.out _ _ ⟨true, m1, m2, m3, m4, m5, m6, m7, m8, m9, m10, m11, m12, m13, m14, m15, m16, m17, m18, m19, gN, Av, cv, rfl, rfl, by obtain ⟨h0, h1, h2, h3, h4⟩ := HI.out; exact ⟨fun e => by first | rfl | exact h0 e | exact absurd e (by simp), fun e => by first | rfl | exact h1 e | exact absurd e (by simp), fun e => by first | rfl | exact h2 e | exact absurd e (by simp), fun e => by first | rfl | exact h3 e | exact absurd e (by simp), fun e => by first | rfl | exact h4 e | exact absurd e (by simp)⟩, HM.out⟩
          ·cases ho
           simp at hun; subst hun
           clear hall hi
           go_simp
           exact hK.out _ _ ⟨m0, true, m2, m3, m4, m5, m6, m7, m8, m9, m10, m11, m12, m13, m14, m15, m16, m17, m18, m19, gN, Av, cv, rfl, rfl, by obtain ⟨h0, h1, h2, h3, h4⟩ := HI.out; exact ⟨fun e => by first | rfl | exact h0 e | exact absurd e (by simp), fun e => by first | rfl | exact h1 e | exact absurd e (by simp), fun e => by first | rfl | exact h2 e | exact absurd e (by simp), fun e => by first | rfl | exact h3 e | exact absurd e (by simp), fun e => by first | rfl | exact h4 e | exact absurd e (by simp)⟩, HM.out⟩
          ·cases ho
           simp at hun; subst hun
           clear hall hi
           go_simp
           exact hK.out _ _ ⟨m0, m1, true, m3, m4, m5, m6, m7, m8, m9, m10, m11, m12, m13, m14, m15, m16, m17, m18, m19, gN, Av, cv, rfl, rfl, by obtain ⟨h0, h1, h2, h3, h4⟩ := HI.out; exact ⟨fun e => by first | rfl | exact h0 e | exact absurd e (by simp), fun e => by first | rfl | exact h1 e | exact absurd e (by simp), fun e => by first | rfl | exact h2 e | exact absurd e (by simp), fun e => by first | rfl | exact h3 e | exact absurd e (by simp), fun e => by first | rfl | exact h4 e | exact absurd e (by simp)⟩, HM.out⟩
          ·cases ho
           cases (getBX hall 2 rfl : m2 = true)
           simp at hun; subst hun
           clear hall hi
           go_simp
           exact hK.out _ _ ⟨m0, m1, true, true, m4, m5, m6, m7, m8, m9, m10, m11, m12, m13, m14, m15, m16, m17, m18, m19, gN, Av, cv, rfl, rfl, by obtain ⟨h0, h1, h2, h3, h4⟩ := HI.out; exact ⟨fun e => by first | rfl | exact h0 e | exact absurd e (by simp), fun e => by first | rfl | exact h1 e | exact absurd e (by simp), fun e => by first | rfl | exact h2 e | exact absurd e (by simp), fun e => by first | rfl | exact h3 e | exact absurd e (by simp), fun e => by first | rfl | exact h4 e | exact absurd e (by simp)⟩, HM.out⟩
          ·cases ho
           simp at hun; subst hun
           clear hall hi
           go_simp
           exact hK.out _ _ ⟨m0, m1, m2, m3, true, m5, m6, m7, m8, m9, m10, m11, m12, m13, m14, m15, m16, m17, m18, m19, gN, Av, cv, rfl, rfl, by obtain ⟨h0, h1, h2, h3, h4⟩ := HI.out; exact ⟨fun e => by first | rfl | exact h0 e | exact absurd e (by simp), fun e => by first | rfl | exact h1 e | exact absurd e (by simp), fun e => by first | rfl | exact h2 e | exact absurd e (by simp), fun e => by first | rfl | exact h3 e | exact absurd e (by simp), fun e => by first | rfl | exact h4 e | exact absurd e (by simp)⟩, HM.out⟩
          ·cases ho
           cases (getBX hall 4 rfl : m4 = true)
           simp at hun; subst hun
           clear hall hi
           go_simp
           exact hK.out _ _ ⟨m0, m1, m2, m3, true, true, m6, m7, m8, m9, m10, m11, m12, m13, m14, m15, m16, m17, m18, m19, gN, Av, cv, rfl, rfl, by obtain ⟨h0, h1, h2, h3, h4⟩ := HI.out; exact ⟨fun e => by first | rfl | exact h0 e | exact absurd e (by simp), fun e => by first | rfl | exact h1 e | exact absurd e (by simp), fun e => by first | rfl | exact h2 e | exact absurd e (by simp), fun e => by first | rfl | exact h3 e | exact absurd e (by simp), fun e => by first | rfl | exact h4 e | exact absurd e (by simp)⟩, HM.out⟩
          ·cases ho
           cases (getBX hall 1 rfl : m1 = true)
           cases (getBX hall 3 rfl : m3 = true)
           cases (getBX hall 5 rfl : m5 = true)
           simp at hun; subst hun
           clear hall hi
           go_simp
           exact hK.out _ _ ⟨m0, true, m2, true, m4, true, true, m7, m8, m9, m10, m11, m12, m13, m14, m15, m16, m17, m18, m19, gN, Av, cv, rfl, rfl, by obtain ⟨h0, h1, h2, h3, h4⟩ := HI.out; exact ⟨fun e => by first | rfl | exact h0 e | exact absurd e (by simp), fun e => by first | rfl | exact h1 e | exact absurd e (by simp), fun e => by first | rfl | exact h2 e | exact absurd e (by simp), fun e => by first | rfl | exact h3 e | exact absurd e (by simp), fun e => by first | rfl | exact h4 e | exact absurd e (by simp)⟩, HM.out⟩
          ·cases ho
           simp at hun; subst hun
           clear hall hi
           go_simp
           exact hK.out _ _ ⟨m0, m1, m2, m3, m4, m5, m6, true, m8, m9, m10, m11, m12, m13, m14, m15, m16, m17, m18, m19, gN, Av, cv, rfl, rfl, by obtain ⟨h0, h1, h2, h3, h4⟩ := HI.out; exact ⟨fun e => by first | rfl | exact h0 e | exact absurd e (by simp), fun e => by first | rfl | exact h1 e | exact absurd e (by simp), fun e => by first | rfl | exact h2 e | exact absurd e (by simp), fun e => by first | rfl | exact h3 e | exact absurd e (by simp), fun e => by first | rfl | exact h4 e | exact absurd e (by simp)⟩, HM.out⟩
          ·cases ho
           cases (getBX hall 7 rfl : m7 = true)
           simp at hun; subst hun
           clear hall hi
           obtain rfl : m9 = false := by
            cases m9
            ·rfl
            ·exact absurd (HI.out.1 rfl) (by simp)
           obtain rfl : m19 = false := by
            cases m19
            ·rfl
            ·exact absurd (HI.out.2.1 rfl) (by simp)
           have HN := Lib.hid HM.out.s8
           go_simp
           exact hK.out _ _ ⟨m0, m1, m2, m3, m4, m5, m6, true, true, false, m10, m11, m12, m13, m14, m15, m16, m17, m18, false, W.heap.size, Av, cv, rfl, rfl, by obtain ⟨h0, h1, h2, h3, h4⟩ := HI.out; exact ⟨fun e => by first | rfl | exact h0 e | exact absurd e (by simp), fun e => by first | rfl | exact h1 e | exact absurd e (by simp), fun e => by first | rfl | exact h2 e | exact absurd e (by simp), fun e => by first | rfl | exact h3 e | exact absurd e (by simp), fun e => by first | rfl | exact h4 e | exact absurd e (by simp)⟩, HN.out⟩
          ·cases ho
           cases (getBX hall 6 rfl : m6 = true)
           cases (getBX hall 8 rfl : m8 = true)
           simp at hun; subst hun
           clear hall hi
           obtain rfl : m19 = false := by
            cases m19
            ·rfl
            ·exact absurd (HI.out.2.1 rfl) (by simp)
           have hbk := (HM.out.2 rfl).2.1 rfl
           have hrl := HP.out.1
           have hA1 := HP.out.2.1
           have hbw := (HM.out.2 rfl).1
           refine step_append_grows rfl (.tmp 188) (.tmp 190) 24 rfl 3 i0 (.int .i64 0) 1 8 Tryz.underlying24 HI0.out HZ0.out HZ1.out HZ2.out rfl (by decide) A1 l1 l1 (chosen.map nv) rfl (fun e => ⟨(hA1 e).1, (hA1 e).1⟩) (by rw [List.length_map]; omega) (fun bb hb jj u hu => ?_) ⟨gN, 0, none⟩ 1 1 [nv j] rfl rfl (fun jj u hu => ?_) (by simp [Value.oneCell']) (by omega) (by unfold maxLen; omega) (by omega) ?_
           ·have hjl : jj < chosen.length := by have := (List.getElem?_eq_some_iff.1 hu).1; rwa [List.length_map] at this
            obtain ⟨b', off', e1, e2, hk'⟩ := ((H13.out.below hbw).more hbw.size) (by omega)
            rw [hb] at e1
            injection e1 with e1
            subst e1
            rw [List.getElem?_map, List.getElem?_eq_getElem hjl] at hu
            rw [← hu, add_pl]
            exact hk' jj hjl
           ·have := hbk.cell jj
            rw [hu] at this
            rw [add_pl, Nat.zero_add]
            exact this
           ·intro v' w' ho hg
            obtain ⟨g', c', hv, -⟩ := own_form ho (by omega)
            subst hv
            have HN := Lib.hid (HM.out.s9 hg ho rfl hrl)
            exact hK.out _ _ ⟨m0, m1, m2, m3, m4, m5, true, m7, true, true, m10, m11, m12, m13, m14, m15, m16, m17, m18, false, gN, some ⟨g', 0, none⟩, c', rfl, rfl, by obtain ⟨h0, h1, h2, h3, h4⟩ := HI.out; exact ⟨fun e => by first | rfl | exact h0 e | exact absurd e (by simp), fun e => by first | rfl | exact h1 e | exact absurd e (by simp), fun e => by first | rfl | exact h2 e | exact absurd e (by simp), fun e => by first | rfl | exact h3 e | exact absurd e (by simp), fun e => by first | rfl | exact h4 e | exact absurd e (by simp)⟩, HN.out⟩
          ·cases ho
           simp at hun; subst hun
           clear hall hi
           obtain ⟨q2, q3, q4, q5⟩ := set_of ((HM.out.chs.block X.heap.size (Blk.lt HHB3.out) HPBN.out.2).trans HHB3.out)
           go_simp
           exact hK.out _ _ ⟨m0, m1, m2, m3, m4, m5, m6, m7, m8, m9, true, m11, m12, m13, m14, m15, m16, m17, m18, m19, gN, Av, cv, rfl, rfl, by obtain ⟨h0, h1, h2, h3, h4⟩ := HI.out; exact ⟨fun e => by first | rfl | exact h0 e | exact absurd e (by simp), fun e => by first | rfl | exact h1 e | exact absurd e (by simp), fun e => by first | rfl | exact h2 e | exact absurd e (by simp), fun e => by first | rfl | exact h3 e | exact absurd e (by simp), fun e => by first | rfl | exact h4 e | exact absurd e (by simp)⟩, HM.out⟩
          ·cases ho
           simp at hun; subst hun
           clear hall hi
           go_simp
           exact hK.out _ _ ⟨m0, m1, m2, m3, m4, m5, m6, m7, m8, m9, m10, true, m12, m13, m14, m15, m16, m17, m18, m19, gN, Av, cv, rfl, rfl, by obtain ⟨h0, h1, h2, h3, h4⟩ := HI.out; exact ⟨fun e => by first | rfl | exact h0 e | exact absurd e (by simp), fun e => by first | rfl | exact h1 e | exact absurd e (by simp), fun e => by first | rfl | exact h2 e | exact absurd e (by simp), fun e => by first | rfl | exact h3 e | exact absurd e (by simp), fun e => by first | rfl | exact h4 e | exact absurd e (by simp)⟩, HM.out⟩
          ·cases ho
           cases (getBX hall 11 rfl : m11 = true)
           simp at hun; subst hun
           clear hall hi
           have hpw : Blk W pb 86 (pmL q (a, b)) := (HM.out.chs.block pb (Blk.lt HPB3.out) HPBN.out.1).trans HPB3.out
           have q2 : W.cell? ⟨pb, 2, none⟩ = some (.int .u64 (wd (cM q a b) 0 : Nat)) := hpw.cell 2
           have q3 : W.cell? ⟨pb, 3, none⟩ = some (.int .u64 (wd (cM q a b) 1 : Nat)) := hpw.cell 3
           have q4 : W.cell? ⟨pb, 4, none⟩ = some (.int .u64 (wd (cM q a b) 2 : Nat)) := hpw.cell 4
           have q5 : W.cell? ⟨pb, 5, none⟩ = some (.int .u64 (wd (cM q a b) 3 : Nat)) := hpw.cell 5
           clear hpw
           go_simp
           exact hK.out _ _ ⟨m0, m1, m2, m3, m4, m5, m6, m7, m8, m9, m10, true, true, m13, m14, m15, m16, m17, m18, m19, gN, Av, cv, rfl, rfl, by obtain ⟨h0, h1, h2, h3, h4⟩ := HI.out; exact ⟨fun e => by first | rfl | exact h0 e | exact absurd e (by simp), fun e => by first | rfl | exact h1 e | exact absurd e (by simp), fun e => by first | rfl | exact h2 e | exact absurd e (by simp), fun e => by first | rfl | exact h3 e | exact absurd e (by simp), fun e => by first | rfl | exact h4 e | exact absurd e (by simp)⟩, HM.out⟩
          ·cases ho
           cases (getBX hall 10 rfl : m10 = true)
           cases (getBX hall 12 rfl : m12 = true)
           simp at hun; subst hun
           clear hall hi
           obtain rfl : m19 = false := by
            cases m19
            ·rfl
            ·exact absurd (HI.out.2.2.2.1 rfl) (by simp)
           go_simp
           refine (HEI.out _).mono ?_
           rintro e W' ⟨rfl, hb⟩
           have HN := Lib.hid (HM.out.step hb)
           exact hK.out _ _ ⟨m0, m1, m2, m3, m4, m5, m6, m7, m8, m9, true, m11, true, true, m14, m15, m16, m17, m18, false, gN, Av, cv, rfl, rfl, by obtain ⟨h0, h1, h2, h3, h4⟩ := HI.out; exact ⟨fun e => by first | rfl | exact h0 e | exact absurd e (by simp), fun e => by first | rfl | exact h1 e | exact absurd e (by simp), fun e => by first | rfl | exact h2 e | exact absurd e (by simp), fun e => by first | rfl | exact h3 e | exact absurd e (by simp), fun e => by first | rfl | exact h4 e | exact absurd e (by simp)⟩, HN.out⟩
          ·cases ho
           simp at hun; subst hun
           clear hall hi
           go_simp
           exact hK.out _ _ ⟨m0, m1, m2, m3, m4, m5, m6, m7, m8, m9, m10, m11, m12, m13, true, m15, m16, m17, m18, m19, gN, Av, cv, rfl, rfl, by obtain ⟨h0, h1, h2, h3, h4⟩ := HI.out; exact ⟨fun e => by first | rfl | exact h0 e | exact absurd e (by simp), fun e => by first | rfl | exact h1 e | exact absurd e (by simp), fun e => by first | rfl | exact h2 e | exact absurd e (by simp), fun e => by first | rfl | exact h3 e | exact absurd e (by simp), fun e => by first | rfl | exact h4 e | exact absurd e (by simp)⟩, HM.out⟩
          ·cases ho
           simp at hun; subst hun
           clear hall hi
           go_simp
           exact hK.out _ _ ⟨m0, m1, m2, m3, m4, m5, m6, m7, m8, m9, m10, m11, m12, m13, m14, true, m16, m17, m18, m19, gN, Av, cv, rfl, rfl, by obtain ⟨h0, h1, h2, h3, h4⟩ := HI.out; exact ⟨fun e => by first | rfl | exact h0 e | exact absurd e (by simp), fun e => by first | rfl | exact h1 e | exact absurd e (by simp), fun e => by first | rfl | exact h2 e | exact absurd e (by simp), fun e => by first | rfl | exact h3 e | exact absurd e (by simp), fun e => by first | rfl | exact h4 e | exact absurd e (by simp)⟩, HM.out⟩
          ·cases ho
           cases (getBX hall 15 rfl : m15 = true)
           simp at hun; subst hun
           clear hall hi
           have hpw : Blk W pb 86 (pmL q (a, b)) := (HM.out.chs.block pb (Blk.lt HPB3.out) HPBN.out.1).trans HPB3.out
           have q2 : W.cell? ⟨pb, 0, none⟩ = some (.int .i64 (a : Int)) := hpw.cell 0
           have q3 : W.cell? ⟨pb, 1, none⟩ = some (.int .i64 (b : Int)) := hpw.cell 1
           clear hpw
           go_simp
           exact hK.out _ _ ⟨m0, m1, m2, m3, m4, m5, m6, m7, m8, m9, m10, m11, m12, m13, m14, true, true, m17, m18, m19, gN, Av, cv, rfl, rfl, by obtain ⟨h0, h1, h2, h3, h4⟩ := HI.out; exact ⟨fun e => by first | rfl | exact h0 e | exact absurd e (by simp), fun e => by first | rfl | exact h1 e | exact absurd e (by simp), fun e => by first | rfl | exact h2 e | exact absurd e (by simp), fun e => by first | rfl | exact h3 e | exact absurd e (by simp), fun e => by first | rfl | exact h4 e | exact absurd e (by simp)⟩, HM.out⟩
          ·cases ho
           cases (getBX hall 16 rfl : m16 = true)
           simp at hun; subst hun
           clear hall hi
           obtain rfl : m19 = false := by
            cases m19
            ·rfl
            ·exact absurd (HI.out.2.2.1 (HI.out.2.2.2.2 rfl)) (by simp)
           go_simp
           refine (HLI.out _).mono ?_
           rintro e W' ⟨rfl, rfl⟩
           have HN := Lib.hid (HM.out.step (bw_new (Below.refl W.heap.size W) (.cells #[nv a, nv b] 37)))
           exact hK.out _ _ ⟨m0, m1, m2, m3, m4, m5, m6, m7, m8, m9, m10, m11, m12, m13, m14, m15, true, true, m18, false, gN, Av, cv, rfl, rfl, by obtain ⟨h0, h1, h2, h3, h4⟩ := HI.out; exact ⟨fun e => by first | rfl | exact h0 e | exact absurd e (by simp), fun e => by first | rfl | exact h1 e | exact absurd e (by simp), fun e => by first | rfl | exact h2 e | exact absurd e (by simp), fun e => by first | rfl | exact h3 e | exact absurd e (by simp), fun e => by first | rfl | exact h4 e | exact absurd e (by simp)⟩, HN.out⟩
          ·cases ho
           cases (getBX hall 14 rfl : m14 = true)
           cases (getBX hall 17 rfl : m17 = true)
           simp at hun; subst hun
           clear hall hi
           go_simp
           exact hK.out _ _ ⟨m0, m1, m2, m3, m4, m5, m6, m7, m8, m9, m10, m11, m12, m13, true, m15, m16, true, true, m19, gN, Av, cv, rfl, rfl, by obtain ⟨h0, h1, h2, h3, h4⟩ := HI.out; exact ⟨fun e => by first | rfl | exact h0 e | exact absurd e (by simp), fun e => by first | rfl | exact h1 e | exact absurd e (by simp), fun e => by first | rfl | exact h2 e | exact absurd e (by simp), fun e => by first | rfl | exact h3 e | exact absurd e (by simp), fun e => by first | rfl | exact h4 e | exact absurd e (by simp)⟩, HM.out⟩
          ·cases ho
           cases (getBX hall 0 rfl : m0 = true)
           cases (getBX hall 9 rfl : m9 = true)
           cases (getBX hall 13 rfl : m13 = true)
           cases (getBX hall 18 rfl : m18 = true)
           obtain rfl : m8 = true := HI.out.1 rfl
           obtain rfl : m17 = true := HI.out.2.2.1 rfl
           simp at hun; subst hun
           clear hall hi
           have hm3 := (HM.out.2 rfl).2.2 rfl
           have hbw := (HM.out.2 rfl).1
           have hih := HIH.out sk (chosen ++ [j]) (hv ||| cM q a b) c2n Av (l1 + 1) cv W ((HLC.out.chs HCH3.out).chs (.of_below hbw)) (HLK3.out.step hbw) hm3.1 (by rw [List.length_append, HP.out.1]; rfl) (fun e => absurd e hm3.2.2.1) hm3.2.1 (fun p hp e => by have h1 := hm3.2.2.2 p hp; have h2 := HG.out; have h3 := HCH3.out.size; omega) (by have := HP.out.2.2.2.1; omega) (by have h1 := HP.out.2.2.2.2.1; have h2 := HC2.out; omega) HFL2.out
           have HCC := Lib.hid hih
           clear hih hm3 hbw
           go_simp
           refine HCC.out.mono ?_
           rintro e W' ⟨rfl, hch', hbs'⟩
           have HN := Lib.hid (HM.out.s19 hch' hbs')
           exact hK.out _ _ ⟨true, m1, m2, m3, m4, m5, m6, m7, true, true, m10, m11, m12, true, m14, m15, m16, true, true, true, gN, Av, cv, rfl, rfl, by obtain ⟨h0, h1, h2, h3, h4⟩ := HI.out; exact ⟨fun e => by first | rfl | exact h0 e | exact absurd e (by simp), fun e => by first | rfl | exact h1 e | exact absurd e (by simp), fun e => by first | rfl | exact h2 e | exact absurd e (by simp), fun e => by first | rfl | exact h3 e | exact absurd e (by simp), fun e => by first | rfl | exact h4 e | exact absurd e (by simp)⟩, HN.out⟩
         ·rintro ll aa W ⟨m0, m1, m2, m3, m4, m5, m6, m7, m8, m9, m10, m11, m12, m13, m14, m15, m16, m17, m18, m19, gN, Av, cv, rfl, rfl, _, hm⟩ hall
          cases (hall 0 (by decide) : m0 = true)
          cases (hall 1 (by decide) : m1 = true)
          cases (hall 2 (by decide) : m2 = true)
          cases (hall 3 (by decide) : m3 = true)
          cases (hall 4 (by decide) : m4 = true)
          cases (hall 5 (by decide) : m5 = true)
          cases (hall 6 (by decide) : m6 = true)
          cases (hall 7 (by decide) : m7 = true)
          cases (hall 8 (by decide) : m8 = true)
          cases (hall 9 (by decide) : m9 = true)
          cases (hall 10 (by decide) : m10 = true)
          cases (hall 11 (by decide) : m11 = true)
          cases (hall 12 (by decide) : m12 = true)
          cases (hall 13 (by decide) : m13 = true)
          cases (hall 14 (by decide) : m14 = true)
          cases (hall 15 (by decide) : m15 = true)
          cases (hall 16 (by decide) : m16 = true)
          cases (hall 17 (by decide) : m17 = true)
          cases (hall 18 (by decide) : m18 = true)
          cases (hall 19 (by decide) : m19 = true)
          clear hall
          have HF := Lib.hid (hm.1 rfl)
          clear hm
          dsimp only [cwX, cond_true]
          go_wp2_with fail
          go_roundw
          case rel => exact ⟨j + 1, _, by have := HJL.out; omega, by rw [HJ2.out]; rfl, by rw [HST2.out, HC2.out.1], HCH3.out.trans HF.out.1, HF.out.2⟩
          case measure => have := HJL.out; have := HJ2.out; simp only [intOf]; omega
       ·have HE := Lib.hid (show R = sk by rw [HRR.out, List.drop_eq_nil_of_le (by rw [lsP_len]; have := HNL.out.1; omega)]; rfl)
        have hjn : ¬ (j : Int) < (nl : Int) := by omega
        clear hjl hj
        go_wp2_with fail
        exact bodyPost_end (v := .tuple #[]) (results_none rfl _ _ _) rfl ⟨rfl, (Chs.of_below HB0.out).trans HCHJ.out, by rw [HE.out]; exact HLKJ.out⟩
end Go.Proofs.YtaegjpancbmppaaGreatDoor
