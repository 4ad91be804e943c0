/- Words for memory: a slice that reads as a list of wishes, and a problem. No function of the program is named in this text. Conditions: those that each lemma names. -/
import Derived.Test.YtkamepalomkpbaaGreatDoorWishNum
import Derived.Test.YtkamepalomkpbaaGreatDoorMem
namespace Go.Proofs.YtkamepalomkpbaaGreatDoor
open Go.RowKit

abbrev i64v : Int → Value := fun x => .int .i64 x

/-- A wish's cells. -/
def Wsh.cells (x : Wsh) : List Value := [.string x.nm, .int .i64 x.dv, .string x.tn, .int .i64 x.fn, .int .i64 x.fd, .int .i64 x.lo, .int .i64 x.hi]
/-- The cells at an address are those of a wish. -/
def WAt (w : World) (b o : Nat) (x : Wsh) : Prop :=
  w.cell? ⟨b, o, none⟩ = some (.string x.nm) ∧ w.cell? ⟨b, o + 1, none⟩ = some (.int .i64 x.dv) ∧ w.cell? ⟨b, o + 2, none⟩ = some (.string x.tn) ∧
  w.cell? ⟨b, o + 3, none⟩ = some (.int .i64 x.fn) ∧ w.cell? ⟨b, o + 4, none⟩ = some (.int .i64 x.fd) ∧ w.cell? ⟨b, o + 5, none⟩ = some (.int .i64 x.lo) ∧ w.cell? ⟨b, o + 6, none⟩ = some (.int .i64 x.hi)
theorem WAt.keep {w w' : World} {b o : Nat} {x : Wsh} (h : WAt w b o x) (hk : ∀ o, w'.cell? ⟨b, o, none⟩ = w.cell? ⟨b, o, none⟩) : WAt w' b o x := by
  obtain ⟨h0, h1, h2, h3, h4, h5, h6⟩ := h
  exact ⟨(hk _).trans h0, (hk _).trans h1, (hk _).trans h2, (hk _).trans h3, (hk _).trans h4, (hk _).trans h5, (hk _).trans h6⟩

/-- The slice whose address is A holds the wishes ws, below block Bd. -/
def WRd (w : World) (Bd : Nat) (A : Option Addr) (ws : List Wsh) : Prop :=
  0 < ws.length → ∃ b off, A = some ⟨b, off, none⟩ ∧ b < Bd ∧ ∀ i (h : i < ws.length), WAt w b (off + i * 7) ws[i]
section
variable {w w' : World} {Bd Bd' : Nat} {A : Option Addr} {ws : List Wsh}
theorem WRd.nil : WRd w Bd A [] := fun h => absurd h (by simp)
theorem WRd.keep (h : WRd w Bd A ws) (hk : ∀ b o, b < Bd → w'.cell? ⟨b, o, none⟩ = w.cell? ⟨b, o, none⟩) : WRd w' Bd A ws := fun hl => by
  obtain ⟨b, off, rfl, hb, hc⟩ := h hl
  exact ⟨b, off, rfl, hb, fun i hi => (hc i hi).keep fun o => hk _ _ hb⟩
theorem WRd.below (h : WRd w Bd A ws) (hb : Below Bd w w') : WRd w' Bd A ws := h.keep fun b o hp => hb.cell (p := ⟨b, o, none⟩) hp
theorem WRd.more (h : WRd w Bd A ws) (hB : Bd ≤ Bd') : WRd w Bd' A ws := fun hl => by
  obtain ⟨b, off, rfl, hb, hc⟩ := h hl
  exact ⟨b, off, rfl, by omega, hc⟩
theorem WRd.at_ (h : WRd w Bd A ws) (hl : 0 < ws.length) : ∃ b off, A = some ⟨b, off, none⟩ ∧ b < Bd ∧ ∀ i (h : i < ws.length), WAt w b (off + i * 7) ws[i] := h hl
end

/-- A problem in memory: its two slices, below block Bd; the parts of its wishes are ints. -/
structure Pb (w : World) (Bd : Nat) (A : Option Addr) (n cap : Nat) (B : Option Addr) (m c2 : Nat) (ws : List Wsh) (rules : List Int) : Prop where
  wl : ws.length = n
  rl : rules.length = m
  wr : WRd w Bd A ws
  rr : Rd i64v w Bd B rules
  wc : n ≤ cap
  rc : m ≤ c2
  wm : cap ≤ maxLen
  rm : c2 ≤ maxLen
  ok : ∀ x ∈ ws, I64 x.fn ∧ I64 x.fd ∧ x.nm.size ≤ 1000000000 ∧ x.tn.size ≤ 1000000000
section
variable {w w' : World} {Bd Bd' : Nat} {A B : Option Addr} {n cap m c2 : Nat} {ws : List Wsh} {rules : List Int}
theorem Pb.below (h : Pb w Bd A n cap B m c2 ws rules) (hb : Below Bd w w') : Pb w' Bd A n cap B m c2 ws rules := { h with wr := h.wr.below hb, rr := h.rr.below hb }
theorem Pb.more (h : Pb w Bd A n cap B m c2 ws rules) (hB : Bd ≤ Bd') : Pb w Bd' A n cap B m c2 ws rules := { h with wr := h.wr.more hB, rr := h.rr.more hB }
theorem Pb.keep (h : Pb w Bd A n cap B m c2 ws rules) (hB : Bd ≤ w.heap.size) (hb : Below w.heap.size w w') : Pb w' Bd A n cap B m c2 ws rules := h.below (hb.mono hB)
theorem Pb.alloc (h : Pb w Bd A n cap B m c2 ws rules) (hB : Bd ≤ w.heap.size) (o : Obj) : Pb (w.alloc o) Bd A n cap B m c2 ws rules := h.keep hB (bw_new (Below.refl _ _) o)
end

theorem ret_bool {a b : Bool} (h : a = b) : Ending.returned (.bool a) = .returned (.bool b) := by rw [h]
end Go.Proofs.YtkamepalomkpbaaGreatDoor
