/- Part 8 of 22 of the proof of the law: contracts of the functions that it reaches, and plain facts. Conditions: those that each contract names. -/
import Derived.BigQuiet
import Derived.Test.YtkamepalomkpbaaDoorWChkB03
import Derived.Test.YtkamepalomkpbaaDoorWChkB06
import Derived.Test.YtkamepalomkpbaaDoorWChkB01
namespace Go.Proofs.YtkamepalomkpbaaDoor
open Go.RowKit
def oddOf (n : Nat) : Nat := if h : n = 0 then 0 else if n % 2 = 0 then oddOf (n / 2) else n
termination_by n
decreasing_by omega
def pErr (n d : Int) : Int := if ¬ Right n d then 2 else if n ≤ 0 ∨ 128 * d < n then 3 else if 128 < d then 4 else 0
def PR (n d : Int) : Prop := Right n d ∧ 0 < n ∧ n ≤ 128 * d ∧ d ≤ 128
theorem pErr_ok {n d : Int} (h : PR n d) : pErr n d = 0 := by
  unfold pErr; rw [if_neg (fun k => k h.1), if_neg (by have := h.2; omega), if_neg (by have := h.2; omega)]
theorem PR_of {n d : Int} (h : pErr n d = 0) : PR n d := by
  unfold pErr at h
  split at h
  · omega
  · split at h
    · omega
    · split at h
      · omega
      · rename_i h1 h2 h3
        exact ⟨by simpa using h1, by omega, by omega, by omega⟩
set_option maxRecDepth 100000 in
set_option maxHeartbeats 1000000 in
theorem pcheck_any (n d : Int) (w : World) (hn : I64 n) (hd : I64 d) :
    Calls Tryd.prog 30 #[.agg #[.int .i64 n, .int .i64 d]] w fun e w' => e = .returned (.int .i64 (pErr n d)) ∧ Below w.heap.size w w' := by
  have hc := fun W => fcheck_any n d W hn.1 hn.2 hd.1 hd.2
  by_cases hr : Right n d
  · have hd0 := hr.1
    have hd1 := hr.2.1
    have hn0 := hr.2.2.1
    have hn1 := hr.2.2.2.1
    rw [fErr_ok hr] at hc
    have HC := Lib.hid hc
    by_cases h1 : n ≤ 0
    · have HE := Lib.hid (show pErr n d = 3 by unfold pErr; rw [if_neg (fun k => k hr), if_pos (Or.inl h1)])
      clear hc hr hn hd
      go_enter Tryd.func30, Tryd.ntmps30
      go_wp2_with fail
      refine (HC.out _).mono ?_
      rintro e w1 ⟨rfl, hb⟩
      obtain ⟨hc1, hf1⟩ := bcell hb
      go_wp2
      go_ret
      exact ⟨ret_int HE.out.symm, (bw_new (Below.refl _ w) _).trans (hb.mono (by simp))⟩
    · by_cases h2 : 128 * d < n
      · have HE := Lib.hid (show pErr n d = 3 by unfold pErr; rw [if_neg (fun k => k hr), if_pos (Or.inr h2)])
        clear hc hr hn hd
        go_enter Tryd.func30, Tryd.ntmps30
        go_wp2_with fail
        refine (HC.out _).mono ?_
        rintro e w1 ⟨rfl, hb⟩
        obtain ⟨hc1, hf1⟩ := bcell hb
        go_wp2
        go_ret
        exact ⟨ret_int HE.out.symm, (bw_new (Below.refl _ w) _).trans (hb.mono (by simp))⟩
      · by_cases h3 : 128 < d
        · have HE := Lib.hid (show pErr n d = 4 by unfold pErr; rw [if_neg (fun k => k hr), if_neg (by omega), if_pos h3])
          clear hc hr hn hd
          go_enter Tryd.func30, Tryd.ntmps30
          go_wp2_with fail
          refine (HC.out _).mono ?_
          rintro e w1 ⟨rfl, hb⟩
          obtain ⟨hc1, hf1⟩ := bcell hb
          go_wp2
          go_ret
          exact ⟨ret_int HE.out.symm, (bw_new (Below.refl _ w) _).trans (hb.mono (by simp))⟩
        · have HE := Lib.hid (show pErr n d = 0 by unfold pErr; rw [if_neg (fun k => k hr), if_neg (by omega), if_neg h3])
          clear hc hr hn hd
          go_enter Tryd.func30, Tryd.ntmps30
          go_wp2_with fail
          refine (HC.out _).mono ?_
          rintro e w1 ⟨rfl, hb⟩
          obtain ⟨hc1, hf1⟩ := bcell hb
          go_wp2
          go_ret
          exact ⟨ret_int HE.out.symm, (bw_new (Below.refl _ w) _).trans (hb.mono (by simp))⟩
  · rw [fErr_no hr] at hc
    have HC := Lib.hid hc
    have HE := Lib.hid (show pErr n d = 2 by unfold pErr; rw [if_pos hr])
    clear hc hr hn hd
    go_enter Tryd.func30, Tryd.ntmps30
    go_wp2_with fail
    refine (HC.out _).mono ?_
    rintro e w1 ⟨rfl, hb⟩
    go_wp2
    go_ret
    exact ⟨ret_int HE.out.symm, (bw_new (Below.refl _ w) _).trans (hb.mono (by simp))⟩
end Go.Proofs.YtkamepalomkpbaaDoor
namespace Go.Proofs.YtkamepalomkpbaaDoor
open Go.RowKit
structure Wsh where
  nm : ByteArray
  dv : Int
  tn : ByteArray
  fn : Int
  fd : Int
  lo : Int
  hi : Int
def letB (c : Nat) : Bool := (decide (65 ≤ c) && decide (c ≤ 90)) || (decide (97 ≤ c) && decide (c ≤ 122))
def restB (c : Nat) : Bool := letB c || (decide (48 ≤ c) && decide (c ≤ 57)) || decide (c = 95)
def nameL : List UInt8 → Bool
  | [] => false
  | c :: r => letB c.toNat && r.all fun d => restB d.toNat
def nameB (s : ByteArray) : Bool := decide (s.size ≤ 32) && nameL s.data.toList
def cmE (lo hi : Int) : Int := if lo < 0 ∨ 127 < hi then 3 else if hi < lo then 23 else 0
def wE (x : Wsh) : Int := if x.dv < 0 ∨ 8 ≤ x.dv then 3 else if nameB x.tn = false then 8 else if pErr x.fn x.fd ≠ 0 then pErr x.fn x.fd else cmE x.lo x.hi
def seenB (seen : List ByteArray) (n : ByteArray) : Bool := seen.any fun q => decide (q = n)
def wsE : List ByteArray → List Wsh → Int
  | _, [] => 0
  | seen, x :: r => if nameB x.nm = false then 8 else if seenB seen x.nm then 9 else if wE x ≠ 0 then wE x else wsE (seen ++ [x.nm]) r
def lastLe : Option Int → Int → Bool
  | none, _ => false
  | some q, n => decide (n ≤ q)
def sqE (top e : Int) : Option Int → List Int → Int
  | _, [] => 0
  | p, x :: r => if x < 0 ∨ top ≤ x then e else if lastLe p x then 6 else sqE top e (some x) r
def pbE (ws : List Wsh) (rules : List Int) : Int :=
  if 12 < ws.length then 4 else if wsE [] ws ≠ 0 then wsE [] ws else if 48 < rules.length then 4 else sqE 128 3 none rules
def gpE (n : Nat) (g : List Int) : Int := if g.length = 0 then 13 else sqE n 10 none g
def bothE (ws : List Wsh) (rules : List Int) (g : List Int) : Int := if pbE ws rules ≠ 0 then pbE ws rules else gpE ws.length g
theorem wsE_cons (seen : List ByteArray) (x : Wsh) (r : List Wsh) : wsE seen (x :: r) = if nameB x.nm = false then 8 else if seenB seen x.nm then 9 else if wE x ≠ 0 then wE x else wsE (seen ++ [x.nm]) r := rfl
theorem sqE_cons (top e : Int) (p : Option Int) (x : Int) (r : List Int) : sqE top e p (x :: r) = if x < 0 ∨ top ≤ x then e else if lastLe p x then 6 else sqE top e (some x) r := rfl
theorem drop_cons {α : Type} (l : List α) (k : Nat) (h : k < l.length) : l.drop k = l[k] :: l.drop (k + 1) := List.drop_eq_getElem_cons h
theorem take_snoc {α : Type} (l : List α) (k : Nat) (h : k < l.length) : l.take (k + 1) = l.take k ++ [l[k]] := List.take_succ_eq_append_getElem h
theorem sqE_mem {top e : Int} (he : e ≠ 0) {l : List Int} {p : Option Int} (h : sqE top e p l = 0) : ∀ x ∈ l, 0 ≤ x ∧ x < top := by
  induction l generalizing p with
  | nil => intro x hx; cases hx
  | cons y r ih =>
    rw [sqE_cons] at h
    split at h
    · exact absurd h he
    · split at h
      · omega
      · rename_i h1 _
        intro x hx
        rcases List.mem_cons.1 hx with rfl | hx
        · omega
        · exact ih h x hx
def chkS (n d : Nat) (s : Int) : Bool := decide ((1 * n) ^ 24 * 4 ^ s.toNat < 2 * ((8 * d) ^ 24 * 4 ^ (-s).toNat)) && decide ((8 * d) ^ 24 * 4 ^ (-s).toNat < 2 * ((1 * n) ^ 24 * 4 ^ s.toNat))
theorem chkS_iff (n d : Nat) (s : Int) : chkS n d s = true ↔ IsShift (8 * d) (1 * n) s := by
  unfold chkS
  rw [Bool.and_eq_true, decide_eq_true_eq, decide_eq_true_eq]
  exact ⟨fun h => .mk s.toNat (-s).toNat (by omega) h.1 h.2, fun h => h s.toNat (-s).toNat (by omega)⟩
def shF (n d : Int) : Int := (((List.range 901).find? fun i : Nat => chkS n.toNat d.toNat ((i : Int) - 300)).map fun i : Nat => (i : Int) - 300).getD 0
theorem shF_eq {n d s : Int} (h : IsShift (8 * d.toNat) (1 * n.toNat) s) (h0 : -300 ≤ s) (h1 : s ≤ 600) : shF n d = s := by
  unfold shF
  cases hq : (List.range 901).find? fun i : Nat => chkS n.toNat d.toNat ((i : Int) - 300) with
  | none =>
    rw [List.find?_eq_none] at hq
    have := hq (s + 300).toNat (List.mem_range.2 (by omega))
    rw [show (((s + 300).toNat : Nat) : Int) - 300 = s by omega] at this
    exact absurd ((chkS_iff _ _ _).2 h) this
  | some i =>
    have h2 := List.find?_some hq
    exact ((chkS_iff _ _ _).1 h2).unique h
theorem shF_bd (n d : Int) : -300 ≤ shF n d ∧ shF n d ≤ 600 := by
  unfold shF
  cases hq : (List.range 901).find? fun i : Nat => chkS n.toNat d.toNat ((i : Int) - 300) with
  | none => exact ⟨by decide, by decide⟩
  | some i =>
    have h2 := List.mem_range.1 (List.mem_of_find?_eq_some hq)
    show -300 ≤ (i : Int) - 300 ∧ (i : Int) - 300 ≤ 600
    omega
def shW (x : Wsh) : Int := shF x.fn x.fd
def loH (x : Wsh) : Int := x.lo + shW x
def hiH (x : Wsh) : Int := x.hi + shW x
def dflt : Wsh := ⟨⟨#[]⟩, 0, ⟨#[]⟩, 0, 0, 0, 0⟩
def wat (ws : List Wsh) (i : Int) : Wsh := ws[i.toNat]?.getD dflt
theorem wat_eq {ws : List Wsh} {k : Nat} (h : k < ws.length) : wat ws (k : Int) = ws[k] := by
  unfold wat; rw [Int.toNat_natCast, List.getElem?_eq_getElem h]; rfl
def mnL : List Int → Int
  | [] => 0
  | a :: r => r.foldl min a
def mxL : List Int → Int
  | [] => 0
  | a :: r => r.foldl max a
theorem mnL_snoc (l : List Int) (x : Int) (h : l ≠ []) : mnL (l ++ [x]) = min (mnL l) x := by
  cases l with
  | nil => exact absurd rfl h
  | cons a r => simp [mnL, List.foldl_append]
theorem mxL_snoc (l : List Int) (x : Int) (h : l ≠ []) : mxL (l ++ [x]) = max (mxL l) x := by
  cases l with
  | nil => exact absurd rfl h
  | cons a r => simp [mxL, List.foldl_append]
theorem foldl_min (l : List Int) (a : Int) : l.foldl min a ≤ a ∧ (∀ x ∈ l, l.foldl min a ≤ x) ∧ (l.foldl min a = a ∨ l.foldl min a ∈ l) := by
  induction l generalizing a with
  | nil => exact ⟨Int.le_refl _, fun x hx => (by cases hx), .inl rfl⟩
  | cons y r ih =>
    obtain ⟨h1, h2, h3⟩ := ih (min a y)
    rw [List.foldl_cons]
    refine ⟨by omega, fun x hx => ?_, ?_⟩
    · rcases List.mem_cons.1 hx with rfl | hx
      · omega
      · exact h2 x hx
    · rcases h3 with h | h
      · by_cases e : a ≤ y
        · left; rw [h]; omega
        · right; rw [h, show min a y = y by omega]; exact List.mem_cons_self
      · exact .inr (List.mem_cons_of_mem _ h)
theorem foldl_max (l : List Int) (a : Int) : a ≤ l.foldl max a ∧ (∀ x ∈ l, x ≤ l.foldl max a) ∧ (l.foldl max a = a ∨ l.foldl max a ∈ l) := by
  induction l generalizing a with
  | nil => exact ⟨Int.le_refl _, fun x hx => (by cases hx), .inl rfl⟩
  | cons y r ih =>
    obtain ⟨h1, h2, h3⟩ := ih (max a y)
    rw [List.foldl_cons]
    refine ⟨by omega, fun x hx => ?_, ?_⟩
    · rcases List.mem_cons.1 hx with rfl | hx
      · omega
      · exact h2 x hx
    · rcases h3 with h | h
      · by_cases e : y ≤ a
        · left; rw [h]; omega
        · right; rw [h, show max a y = y by omega]; exact List.mem_cons_self
      · exact .inr (List.mem_cons_of_mem _ h)
theorem mnL_mem {l : List Int} (h : l ≠ []) : mnL l ∈ l := by
  cases l with
  | nil => exact absurd rfl h
  | cons a r =>
    rcases (foldl_min r a).2.2 with e | e
    · show r.foldl min a ∈ a :: r; rw [e]; exact List.mem_cons_self
    · exact List.mem_cons_of_mem _ e
theorem mxL_mem {l : List Int} (h : l ≠ []) : mxL l ∈ l := by
  cases l with
  | nil => exact absurd rfl h
  | cons a r =>
    rcases (foldl_max r a).2.2 with e | e
    · show r.foldl max a ∈ a :: r; rw [e]; exact List.mem_cons_self
    · exact List.mem_cons_of_mem _ e
theorem mnL_bd {l : List Int} {a b : Int} (h0 : a ≤ 0 ∧ 0 ≤ b) (h : ∀ x ∈ l, a ≤ x ∧ x ≤ b) : a ≤ mnL l ∧ mnL l ≤ b := by
  cases l with
  | nil => exact h0
  | cons y r => exact h _ (mnL_mem (by simp))
theorem mxL_bd {l : List Int} {a b : Int} (h0 : a ≤ 0 ∧ 0 ≤ b) (h : ∀ x ∈ l, a ≤ x ∧ x ≤ b) : a ≤ mxL l ∧ mxL l ≤ b := by
  cases l with
  | nil => exact h0
  | cons y r => exact h _ (mxL_mem (by simp))
def los (ws : List Wsh) (g : List Int) : List Int := g.map fun i => loH (wat ws i)
def his (ws : List Wsh) (g : List Int) : List Int := g.map fun i => hiH (wat ws i)
def costZ (ws : List Wsh) (g : List Int) : Int := mxL (his ws g) - mnL (los ws g) + 1
def absD (x y : Wsh) : Int := max (shW x - shW y) (-(shW x - shW y))
def apB (rules : List Int) (x y : Wsh) : Bool := if x.tn ≠ y.tn then true else decide (x.dv = y.dv) && decide (absD x y ∈ rules)
def pairOf (ws : List Wsh) (rules : List Int) (a : Int) (r : List Int) : Option Int := r.find? fun b => apB rules (wat ws a) (wat ws b)
def fstP (ws : List Wsh) (rules : List Int) : List Int → Option (Int × Int)
  | [] => none
  | a :: r => match pairOf ws rules a r with
    | some b => some (a, b)
    | none => fstP ws rules r
theorem fstP_cons (ws : List Wsh) (rules : List Int) (a : Int) (r : List Int) : fstP ws rules (a :: r) = match pairOf ws rules a r with
    | some b => some (a, b)
    | none => fstP ws rules r := rfl
end Go.Proofs.YtkamepalomkpbaaDoor
namespace Go.Proofs.YtkamepalomkpbaaDoor
open Go.RowKit
abbrev i64v : Int → Value := fun x => .int .i64 x
def Wsh.cells (x : Wsh) : List Value := [.string x.nm, .int .i64 x.dv, .string x.tn, .int .i64 x.fn, .int .i64 x.fd, .int .i64 x.lo, .int .i64 x.hi]
def WAt (w : World) (b o : Nat) (x : Wsh) : Prop :=
  w.cell? ⟨b, o, none⟩ = some (.string x.nm) ∧ w.cell? ⟨b, o + 1, none⟩ = some (.int .i64 x.dv) ∧ w.cell? ⟨b, o + 2, none⟩ = some (.string x.tn) ∧
  w.cell? ⟨b, o + 3, none⟩ = some (.int .i64 x.fn) ∧ w.cell? ⟨b, o + 4, none⟩ = some (.int .i64 x.fd) ∧ w.cell? ⟨b, o + 5, none⟩ = some (.int .i64 x.lo) ∧ w.cell? ⟨b, o + 6, none⟩ = some (.int .i64 x.hi)
theorem WAt.keep {w w' : World} {b o : Nat} {x : Wsh} (h : WAt w b o x) (hk : ∀ o, w'.cell? ⟨b, o, none⟩ = w.cell? ⟨b, o, none⟩) : WAt w' b o x := by
  obtain ⟨h0, h1, h2, h3, h4, h5, h6⟩ := h
  exact ⟨(hk _).trans h0, (hk _).trans h1, (hk _).trans h2, (hk _).trans h3, (hk _).trans h4, (hk _).trans h5, (hk _).trans h6⟩
def WRd (w : World) (Bd : Nat) (A : Option Addr) (ws : List Wsh) : Prop :=
  0 < ws.length → ∃ b off, A = some ⟨b, off, none⟩ ∧ b < Bd ∧ ∀ i (h : i < ws.length), WAt w b (off + i * 7) ws[i]
section
variable {w w' : World} {Bd Bd' : Nat} {A : Option Addr} {ws : List Wsh}
theorem WRd.nil : WRd w Bd A [] := fun h => absurd h (by simp)
theorem WRd.keep (h : WRd w Bd A ws) (hk : ∀ b o, b < Bd → w'.cell? ⟨b, o, none⟩ = w.cell? ⟨b, o, none⟩) : WRd w' Bd A ws := fun hl => by
  obtain ⟨b, off, rfl, hb, hc⟩ := h hl
  exact ⟨b, off, rfl, hb, fun i hi => (hc i hi).keep fun o => hk _ _ hb⟩
theorem WRd.below (h : WRd w Bd A ws) (hb : Below Bd w w') : WRd w' Bd A ws := h.keep fun b o hp => hb.cell (p := ⟨b, o, none⟩) hp
theorem WRd.more (h : WRd w Bd A ws) (hB : Bd ≤ Bd') : WRd w Bd' A ws := fun hl => by
  obtain ⟨b, off, rfl, hb, hc⟩ := h hl
  exact ⟨b, off, rfl, by omega, hc⟩
theorem WRd.at_ (h : WRd w Bd A ws) (hl : 0 < ws.length) : ∃ b off, A = some ⟨b, off, none⟩ ∧ b < Bd ∧ ∀ i (h : i < ws.length), WAt w b (off + i * 7) ws[i] := h hl
end
structure Pb (w : World) (Bd : Nat) (A : Option Addr) (n cap : Nat) (B : Option Addr) (m c2 : Nat) (ws : List Wsh) (rules : List Int) : Prop where
  wl : ws.length = n
  rl : rules.length = m
  wr : WRd w Bd A ws
  rr : Rd i64v w Bd B rules
  wc : n ≤ cap
  rc : m ≤ c2
  wm : cap ≤ maxLen
  rm : c2 ≤ maxLen
  ok : ∀ x ∈ ws, I64 x.fn ∧ I64 x.fd ∧ x.nm.size ≤ 1000000000 ∧ x.tn.size ≤ 1000000000
section
variable {w w' : World} {Bd Bd' : Nat} {A B : Option Addr} {n cap m c2 : Nat} {ws : List Wsh} {rules : List Int}
theorem Pb.below (h : Pb w Bd A n cap B m c2 ws rules) (hb : Below Bd w w') : Pb w' Bd A n cap B m c2 ws rules := { h with wr := h.wr.below hb, rr := h.rr.below hb }
theorem Pb.more (h : Pb w Bd A n cap B m c2 ws rules) (hB : Bd ≤ Bd') : Pb w Bd' A n cap B m c2 ws rules := { h with wr := h.wr.more hB, rr := h.rr.more hB }
theorem Pb.keep (h : Pb w Bd A n cap B m c2 ws rules) (hB : Bd ≤ w.heap.size) (hb : Below w.heap.size w w') : Pb w' Bd A n cap B m c2 ws rules := h.below (hb.mono hB)
theorem Pb.alloc (h : Pb w Bd A n cap B m c2 ws rules) (hB : Bd ≤ w.heap.size) (o : Obj) : Pb (w.alloc o) Bd A n cap B m c2 ws rules := h.keep hB (bw_new (Below.refl _ _) o)
end
theorem ret_bool {a b : Bool} (h : a = b) : Ending.returned (.bool a) = .returned (.bool b) := by rw [h]
end Go.Proofs.YtkamepalomkpbaaDoor
namespace Go.Proofs.YtkamepalomkpbaaDoor
open Go.RowKit
theorem letB_cases (b : Nat) : (65 ≤ b ∧ b ≤ 90 ∧ letB b = true) ∨ (b < 65 ∧ letB b = false) ∨ (90 < b ∧ b < 97 ∧ letB b = false) ∨ (97 ≤ b ∧ b ≤ 122 ∧ letB b = true) ∨ (122 < b ∧ letB b = false) := by
  unfold letB
  by_cases h1 : 65 ≤ b <;> by_cases h2 : b ≤ 90 <;> by_cases h3 : 97 ≤ b <;> by_cases h4 : b ≤ 122 <;> simp [h1, h2, h3, h4] <;> omega
theorem letter_any (b : Nat) (w : World) :
    Calls Tryd.prog 39 #[.int .u8 (b : Int)] w fun e w' => e = .returned (.bool (letB b)) ∧ w = w' := by
  rcases letB_cases b with ⟨h1, h2, h⟩ | ⟨h1, h⟩ | ⟨h1, h2, h⟩ | ⟨h1, h2, h⟩ | ⟨h1, h⟩
  all_goals
    have HE := Lib.hid h
    clear h
    go_enter Tryd.func39, Tryd.ntmps39
    go_wp2
    go_ret
    exact ⟨ret_bool (by first | (rw [HE.out]; done) | (rw [HE.out]; simp; omega)), rfl⟩
theorem compass_any (lo hi : Int) (w : World) :
    Calls Tryd.prog 31 #[.agg #[.int .i64 lo, .int .i64 hi]] w fun e w' => e = .returned (.int .i64 (cmE lo hi)) ∧ Below w.heap.size w w' := by
  have h : (lo < 0 ∧ cmE lo hi = 3) ∨ (0 ≤ lo ∧ 127 < hi ∧ cmE lo hi = 3) ∨ (0 ≤ lo ∧ hi ≤ 127 ∧ hi < lo ∧ cmE lo hi = 23) ∨ (0 ≤ lo ∧ hi ≤ 127 ∧ lo ≤ hi ∧ cmE lo hi = 0) := by
    unfold cmE
    by_cases h1 : lo < 0
    · left; exact ⟨h1, if_pos (.inl h1)⟩
    · by_cases h2 : 127 < hi
      · right; left; exact ⟨by omega, h2, if_pos (.inr h2)⟩
      · by_cases h3 : hi < lo
        · right; right; left; exact ⟨by omega, by omega, h3, by rw [if_neg (by omega), if_pos h3]⟩
        · right; right; right; exact ⟨by omega, by omega, by omega, by rw [if_neg (by omega), if_neg h3]⟩
  rcases h with ⟨h1, h⟩ | ⟨h1, h2, h⟩ | ⟨h1, h2, h3, h⟩ | ⟨h1, h2, h3, h⟩
  all_goals
    have HE := Lib.hid h
    clear h
    go_enter Tryd.func31, Tryd.ntmps31
    go_wp2
    go_ret
    exact ⟨ret_int HE.out.symm, bw_new (Below.refl _ w) _⟩
theorem name_step {s : ByteArray} {k : Nat} (h : k < s.size) : (s.data.toList.drop k).all (fun d => restB d.toNat) = (restB s[k].toNat && (s.data.toList.drop (k + 1)).all fun d => restB d.toNat) := by
  rw [List.drop_eq_getElem_cons (by simpa using h), List.all_cons]; rfl
theorem name_head {s : ByteArray} (h : 0 < s.size) : nameL s.data.toList = (letB s[0].toNat && (s.data.toList.drop 1).all fun d => restB d.toNat) := by
  obtain ⟨⟨l⟩⟩ := s
  cases l with
  | nil => exact absurd h (by decide)
  | cons c r => rfl
theorem bytes_nil {s : ByteArray} (h : s.size = 0) : s = ⟨#[]⟩ := by
  apply ByteArray.ext
  exact Array.eq_empty_of_size_eq_zero h
theorem bytes_pos {s : ByteArray} (h : s.size ≠ 0) : s.toList.isEmpty = false := by
  rw [ByteArray.toList_eq]
  cases hl : s.data.toList with
  | nil =>
    exfalso
    apply h
    have := congrArg List.length hl
    simpa using this
  | cons c r => rfl
theorem restB_cases (b : Nat) : (letB b = true ∧ restB b = true) ∨ (letB b = false ∧ b < 48 ∧ restB b = false) ∨ (letB b = false ∧ 48 ≤ b ∧ b ≤ 57 ∧ restB b = true) ∨ (letB b = false ∧ 57 < b ∧ b = 95 ∧ restB b = true) ∨ (letB b = false ∧ 57 < b ∧ b ≠ 95 ∧ restB b = false) := by
  unfold restB
  cases letB b
  · by_cases h1 : 48 ≤ b <;> by_cases h2 : b ≤ 57 <;> by_cases h3 : b = 95 <;> simp [h1, h2, h3] <;> omega
  · left; simp
set_option maxRecDepth 100000 in
set_option maxHeartbeats 1000000 in
theorem name_any (s : ByteArray) (w : World) (hs : s.size ≤ 1000000000) :
    Calls Tryd.prog 28 #[.string s] w fun e w' => e = .returned (.bool (nameB s)) ∧ w = w' := by
  by_cases h0 : s.size = 0
  · have hE : nameB s = false := by rw [bytes_nil h0]; rfl
    have he : s.toList.isEmpty = true := by rw [bytes_nil h0, ByteArray.toList_eq]; rfl
    have HE := Lib.hid hE
    clear hE h0
    go_enter Tryd.func28, Tryd.ntmps28
    go_wp2
    go_ret
    exact ⟨ret_bool HE.out.symm, rfl⟩
  · have he := bytes_pos h0
    have hp : 0 < s.size := by omega
    clear h0
    by_cases h1 : 32 < s.size
    · have HE := Lib.hid (show nameB s = false by unfold nameB; rw [decide_eq_false (by omega)]; rfl)
      go_enter Tryd.func28, Tryd.ntmps28
      go_wp2
      go_ret
      exact ⟨ret_bool HE.out.symm, rfl⟩
    · have hb : nameB s = nameL s.data.toList := by unfold nameB; rw [decide_eq_true (by omega)]; rfl
      rw [name_head hp] at hb
      have hl := fun W => letter_any s[0].toNat W
      have h2 : s.size ≤ 32 := by omega
      cases hq : letB s[0].toNat with
      | false =>
        rw [hq] at hl hb
        have HL := Lib.hid hl
        have HE := Lib.hid hb
        clear hl hb hq
        go_enter Tryd.func28, Tryd.ntmps28
        go_wp2_with fail
        refine (HL.out _).mono ?_
        rintro e w' ⟨rfl, rfl⟩
        go_wp2
        go_ret
        exact ⟨ret_bool HE.out.symm, rfl⟩
      | true =>
        rw [hq] at hl hb
        have HL := Lib.hid hl
        have HE := Lib.hid hb
        clear hl hb hq
        go_enter Tryd.func28, Tryd.ntmps28
        go_wp2_with fail
        refine (HL.out _).mono ?_
        rintro e w' ⟨rfl, rfl⟩
        go_wp2
        go_loop [3] (fun v => ∃ k : Nat, 1 ≤ k ∧ k ≤ s.size ∧ v = .int .i64 k ∧ nameB s = (s.data.toList.drop k).all fun d => restB d.toNat) (fun v => s.size - (intOf v).toNat)
        case atStart => exact ⟨1, by omega, by omega, rfl, by rw [HE.out]; rfl⟩
        case round =>
          obtain ⟨k, hk1, hk, rfl, ho⟩ := hrel
          by_cases hlt : k < s.size
          · rw [name_step hlt] at ho
            have hl := fun W => letter_any s[k].toNat W
            rcases restB_cases s[k].toNat with ⟨a1, a⟩ | ⟨a1, a2, a⟩ | ⟨a1, a2, a3, a⟩ | ⟨a1, a2, a3, a⟩ | ⟨a1, a2, a3, a⟩
            · rw [a] at ho
              rw [a1] at hl
              have HL := Lib.hid hl
              have HO := Lib.hid ho
              clear hl ho a a1
              go_wp2_with fail
              refine (HL.out _).mono ?_
              rintro e w' ⟨rfl, rfl⟩
              go_wp2
              go_round
              case rel => exact ⟨k + 1, by omega, by omega, by go_num, by rw [HO.out]; rfl⟩
              case measure => simp [intOf]; omega
            · rw [a] at ho
              rw [a1] at hl
              have HL := Lib.hid hl
              have HO := Lib.hid ho
              clear hl ho a a1
              go_wp2_with fail
              refine (HL.out _).mono ?_
              rintro e w' ⟨rfl, rfl⟩
              have hne : (((s[k].toNat : Nat) : Int) != 95) = true := by rw [bne_iff_ne]; omega
              go_wp2
              go_ret
              exact ⟨ret_bool HO.out.symm, rfl⟩
            · rw [a] at ho
              rw [a1] at hl
              have HL := Lib.hid hl
              have HO := Lib.hid ho
              clear hl ho a a1
              go_wp2_with fail
              refine (HL.out _).mono ?_
              rintro e w' ⟨rfl, rfl⟩
              go_wp2
              go_round
              case rel => exact ⟨k + 1, by omega, by omega, by go_num, by rw [HO.out]; rfl⟩
              case measure => simp [intOf]; omega
            · rw [a] at ho
              rw [a1] at hl
              have HL := Lib.hid hl
              have HO := Lib.hid ho
              have hne : (((s[k].toNat : Nat) : Int) != 95) = false := by rw [a3]; rfl
              clear hl ho a a1 a3
              go_wp2_with fail
              refine (HL.out _).mono ?_
              rintro e w' ⟨rfl, rfl⟩
              go_wp2
              go_round
              case rel => exact ⟨k + 1, by omega, by omega, by go_num, by rw [HO.out]; rfl⟩
              case measure => simp [intOf]; omega
            · rw [a] at ho
              rw [a1] at hl
              have HL := Lib.hid hl
              have HO := Lib.hid ho
              have hne : (((s[k].toNat : Nat) : Int) != 95) = true := by rw [bne_iff_ne]; omega
              clear hl ho a a1 a3
              go_wp2_with fail
              refine (HL.out _).mono ?_
              rintro e w' ⟨rfl, rfl⟩
              go_wp2
              go_ret
              exact ⟨ret_bool HO.out.symm, rfl⟩
          · have HO := Lib.hid (show nameB s = true by rw [ho, List.drop_eq_nil_of_le (by simp; omega)]; rfl)
            clear ho
            go_wp2
            go_ret
            exact ⟨ret_bool HO.out.symm, rfl⟩
end Go.Proofs.YtkamepalomkpbaaDoor
namespace Go.Proofs.YtkamepalomkpbaaDoor
open Go.RowKit
set_option maxRecDepth 100000 in
set_option maxHeartbeats 1000000 in
theorem wchk_any (nm : ByteArray) (dv : Int) (tn : ByteArray) (fn fd lo hi : Int) (w : World) (hfn : I64 fn) (hfd : I64 fd) (ht : tn.size ≤ 1000000000) :
    Calls Tryd.prog 32 #[.agg #[.string nm, .int .i64 dv, .string tn, .int .i64 fn, .int .i64 fd, .int .i64 lo, .int .i64 hi]] w fun e w' =>
      e = .returned (.int .i64 (wE ⟨nm, dv, tn, fn, fd, lo, hi⟩)) ∧ Below w.heap.size w w' := by
  have hn := fun W => name_any tn W ht
  have hp := fun W => pcheck_any fn fd W hfn hfd
  have hc := fun W => compass_any lo hi W
  have hE : wE ⟨nm, dv, tn, fn, fd, lo, hi⟩ = if dv < 0 ∨ 8 ≤ dv then 3 else if nameB tn = false then 8 else if pErr fn fd ≠ 0 then pErr fn fd else cmE lo hi := rfl
  obtain ⟨r, hr⟩ : ∃ r, r = wE ⟨nm, dv, tn, fn, fd, lo, hi⟩ := ⟨_, rfl⟩
  rw [← hr] at hE ⊢
  obtain ⟨b, hb⟩ : ∃ b, b = nameB tn := ⟨_, rfl⟩
  obtain ⟨p, hpp⟩ : ∃ p, p = pErr fn fd := ⟨_, rfl⟩
  obtain ⟨c, hcc⟩ : ∃ c, c = cmE lo hi := ⟨_, rfl⟩
  rw [← hb] at hn hE
  rw [← hpp] at hp hE
  rw [← hcc] at hc hE
  have HN := Lib.hid hn
  have HP := Lib.hid hp
  have HC := Lib.hid hc
  have HE := Lib.hid hE
  clear hn hp hc hE hr hb hpp hcc hfn hfd ht
  by_cases h1 : dv < 0
  · have HR := Lib.hid (show r = 3 by rw [HE.out, if_pos (.inl h1)])
    go_enter Tryd.func32, Tryd.ntmps32
    go_wp2
    go_ret
    exact ⟨ret_int HR.out.symm, bw_new (Below.refl _ w) _⟩
  · by_cases h2 : 8 ≤ dv
    · have HR := Lib.hid (show r = 3 by rw [HE.out, if_pos (.inr h2)])
      go_enter Tryd.func32, Tryd.ntmps32
      go_wp2
      go_ret
      exact ⟨ret_int HR.out.symm, bw_new (Below.refl _ w) _⟩
    · have h1' : 0 ≤ dv := by omega
      have h2' : dv < 8 := by omega
      cases b with
      | false =>
        have HR := Lib.hid (show r = 8 by rw [HE.out, if_neg (by omega), if_pos rfl])
        go_enter Tryd.func32, Tryd.ntmps32
        go_wp2_with fail
        refine (HN.out _).mono ?_
        rintro e w' ⟨rfl, rfl⟩
        go_wp2
        go_ret
        exact ⟨ret_int HR.out.symm, bw_new (Below.refl _ w) _⟩
      | true =>
        by_cases h3 : p = 0
        · have HR := Lib.hid (show r = c by rw [HE.out, if_neg (by omega), if_neg (by decide), if_neg (by omega)])
          have hz : (p == 0) = true := by simpa using h3
          have hz2 : (p != 0) = false := by simpa using h3
          clear h3
          go_enter Tryd.func32, Tryd.ntmps32
          go_wp2_with fail
          refine (HN.out _).mono ?_
          rintro e w' ⟨rfl, rfl⟩
          go_wp2_with fail
          refine (HP.out _).mono ?_
          rintro e w1 ⟨rfl, hb1⟩
          obtain ⟨hc1, hf1⟩ := bcell hb1
          go_wp2_with fail
          refine (HC.out _).mono ?_
          rintro e w2 ⟨rfl, hb2⟩
          go_wp2
          go_ret
          exact ⟨ret_int HR.out.symm, ((bw_new (Below.refl _ w) _).trans (hb1.mono (by simp))).trans (hb2.mono (by have := hb1.size; simp at this; omega))⟩
        · have HR := Lib.hid (show r = p by rw [HE.out, if_neg (by omega), if_neg (by decide), if_pos h3])
          have hz : (p == 0) = false := by simpa using h3
          have hz2 : (p != 0) = true := by simpa using h3
          clear h3
          go_enter Tryd.func32, Tryd.ntmps32
          go_wp2_with fail
          refine (HN.out _).mono ?_
          rintro e w' ⟨rfl, rfl⟩
          go_wp2_with fail
          refine (HP.out _).mono ?_
          rintro e w1 ⟨rfl, hb1⟩
          go_wp2
          go_ret
          exact ⟨ret_int HR.out.symm, (bw_new (Below.refl _ w) _).trans (hb1.mono (by simp))⟩
theorem rd_at {w : World} {Bd : Nat} {A : Option Addr} {L : List Int} (h : Rd i64v w Bd A L) (hl : 0 < L.length) : ∃ b off, A = some ⟨b, off, none⟩ ∧ b < Bd ∧ ∀ i (hi : i < L.length), w.cell? ⟨b, off + i, none⟩ = some (.int .i64 L[i]) := h hl
theorem getLast_take {α : Type} (l : List α) (k : Nat) (h : k < l.length) : (l.take (k + 1)).getLast? = some l[k] := by
  rw [take_snoc l k h]; exact List.getLast?_concat
theorem sq_step {top e : Int} {l : List Int} {k : Nat} (h : k < l.length) (h0 : ¬ (l[k] < 0 ∨ top ≤ l[k])) (h1 : lastLe (l.take k).getLast? l[k] = false) :
    sqE top e (l.take k).getLast? (l.drop k) = sqE top e (l.take (k + 1)).getLast? (l.drop (k + 1)) := by
  rw [drop_cons l k h, sqE_cons, if_neg h0, h1, getLast_take l k h]; rfl
theorem sq_bad {top e : Int} {l : List Int} {k : Nat} (h : k < l.length) (h0 : l[k] < 0 ∨ top ≤ l[k]) : sqE top e (l.take k).getLast? (l.drop k) = e := by
  rw [drop_cons l k h, sqE_cons, if_pos h0]
theorem sq_ord {top e : Int} {l : List Int} {k : Nat} (h : k < l.length) (h0 : ¬ (l[k] < 0 ∨ top ≤ l[k])) (h1 : lastLe (l.take k).getLast? l[k] = true) : sqE top e (l.take k).getLast? (l.drop k) = 6 := by
  rw [drop_cons l k h, sqE_cons, if_neg h0, h1, if_pos rfl]
theorem last_zero (l : List Int) (x : Int) : lastLe (l.take 0).getLast? x = false := by simp [lastLe]
theorem last_succ (l : List Int) (k : Nat) (h : k < l.length) (x : Int) : lastLe (l.take (k + 1)).getLast? x = decide (x ≤ l[k]) := by rw [getLast_take l k h]; rfl
set_option maxRecDepth 100000 in
set_option maxHeartbeats 2000000 in
theorem right_any (A : Option Addr) (n cap : Nat) (B : Option Addr) (m c2 : Nat) (g : List Int) (G : Option Addr) (gn gc Bd : Nat) (w : World)
    (hg : g.length = gn) (hgr : Rd i64v w Bd G g) (hgc : gn ≤ gc) (hgm : gc ≤ maxLen) (hB : Bd ≤ w.heap.size) :
    Calls Tryd.prog 35 #[.agg #[.slice A n cap, .slice B m c2], .slice G gn gc] w fun e w' => e = .returned (.int .i64 (gpE n g)) ∧ Below w.heap.size w w' := by
  subst hg
  unfold maxLen at hgm
  by_cases h0 : g.length = 0
  · have HE := Lib.hid (show gpE n g = 13 from if_pos h0)
    have h0' : ((g.length : Int) == 0) = true := by rw [beq_iff_eq]; omega
    go_enter Tryd.func35, Tryd.ntmps35
    go_wp2
    go_ret
    exact ⟨ret_int HE.out.symm, bw_new (Below.refl _ w) _⟩
  · have HE := Lib.hid (show gpE n g = sqE n 10 none g from if_neg h0)
    have h0' : ((g.length : Int) == 0) = false := by rw [beq_eq_false_iff_ne]; omega
    obtain ⟨b, off, rfl, hb, hc⟩ := rd_at hgr (by omega)
    have HC := Lib.hid hc
    have hbw : b < w.heap.size := by omega
    clear hc h0 hgr
    go_enter Tryd.func35, Tryd.ntmps35
    go_wp2
    go_loop [12] (fun v => ∃ k : Nat, k ≤ g.length ∧ v = .int .i64 k ∧ gpE n g = sqE n 10 (g.take k).getLast? (g.drop k)) (fun v => g.length - (intOf v).toNat)
    case atStart => exact ⟨0, by omega, rfl, by rw [HE.out]; rfl⟩
    case round =>
      obtain ⟨k, hk, rfl, ho⟩ := hrel
      have HO := Lib.hid ho
      clear ho
      by_cases hlt : k < g.length
      · have hck : w.cell? ⟨b, off + k, none⟩ = some (.int .i64 g[k]) := HC.out k hlt
        obtain ⟨x, hx⟩ : ∃ x, x = g[k] := ⟨_, rfl⟩
        rw [← hx] at hck
        have HX := Lib.hid hx
        clear hx
        by_cases h1 : x < 0
        · have HR := Lib.hid (show gpE n g = 10 by rw [HO.out, sq_bad hlt (by rw [← HX.out]; exact .inl h1)])
          go_wp2
          go_ret
          exact ⟨ret_int HR.out.symm, bw_new (Below.refl _ w) _⟩
        · by_cases h2 : (n : Int) ≤ x
          · have HR := Lib.hid (show gpE n g = 10 by rw [HO.out, sq_bad hlt (by rw [← HX.out]; exact .inr h2)])
            go_wp2
            go_ret
            exact ⟨ret_int HR.out.symm, bw_new (Below.refl _ w) _⟩
          · have h1' : 0 ≤ x := by omega
            have h2' : x < (n : Int) := by omega
            have HN := Lib.hid (show ¬ (g[k] < 0 ∨ (n : Int) ≤ g[k]) by rw [← HX.out]; omega)
            cases k with
            | zero =>
              rw [Nat.add_zero] at hck
              have HS := Lib.hid (sq_step (e := 10) hlt HN.out (last_zero g _))
              go_wp2
              go_round
              case rel => exact ⟨1, by omega, rfl, by rw [HO.out, HS.out]⟩
              case measure => simp [intOf]; omega
            | succ j =>
              have hcj : w.cell? ⟨b, off + j, none⟩ = some (.int .i64 g[j]) := HC.out j (by omega)
              obtain ⟨y, hy⟩ : ∃ y, y = g[j]'(by omega) := ⟨_, rfl⟩
              rw [← hy] at hcj
              have HL := Lib.hid (last_succ g j (by omega) x)
              rw [HX.out] at HL
              have HY := Lib.hid hy
              clear hy
              by_cases h3 : x ≤ y
              · have HR := Lib.hid (show gpE n g = 6 by rw [HO.out, sq_ord hlt HN.out (by rw [HL.out, ← HX.out, ← HY.out]; exact decide_eq_true h3)])
                go_wp2
                go_ret
                exact ⟨ret_int HR.out.symm, bw_new (Below.refl _ w) _⟩
              · have h3' : y < x := by omega
                have HS := Lib.hid (sq_step (e := 10) hlt HN.out (by rw [HL.out, ← HX.out, ← HY.out]; exact decide_eq_false h3))
                go_wp2
                go_round
                case rel => exact ⟨j + 1 + 1, by omega, by go_num, by rw [HO.out, HS.out]⟩
                case measure => simp [intOf]; omega
      · have HR := Lib.hid (show gpE n g = 0 by rw [HO.out, List.drop_eq_nil_of_le (by omega)]; rfl)
        go_wp2
        go_ret
        exact ⟨ret_int HR.out.symm, bw_new (Below.refl _ w) _⟩
def ents (L : List Wsh) : List (ByteArray × Value) := L.map fun x => (x.nm, .bool true)
def nms (L : List Wsh) : List ByteArray := L.map Wsh.nm
theorem seenB_cons (q : ByteArray) (L : List ByteArray) (n : ByteArray) : seenB (q :: L) n = (decide (q = n) || seenB L n) := rfl
theorem fnd_ents (L : List Wsh) (n : ByteArray) (i : Nat) : (seenB (nms L) n = true ∧ ∃ j, fnd n (ents L) i = some (j, .bool true)) ∨ (seenB (nms L) n = false ∧ fnd n (ents L) i = none) := by
  induction L generalizing i with
  | nil => right; exact ⟨rfl, rfl⟩
  | cons x r ih =>
    have e1 : nms (x :: r) = x.nm :: nms r := rfl
    have e2 : ents (x :: r) = (x.nm, .bool true) :: ents r := rfl
    rw [e1, e2, seenB_cons]
    unfold fnd
    by_cases h : n = x.nm
    · left
      rw [decide_eq_true h.symm, if_pos h]
      exact ⟨rfl, i, rfl⟩
    · rw [decide_eq_false (fun k => h k.symm), if_neg h]
      rcases ih (i + 1) with ⟨h1, j, h2⟩ | ⟨h1, h2⟩
      · left; exact ⟨by rw [h1]; rfl, j, h2⟩
      · right; exact ⟨by rw [h1]; rfl, h2⟩
theorem mget_ents (L : List Wsh) (n : ByteArray) : (mget (ents L) n).getD (.bool false) = .bool (seenB (nms L) n) := by
  unfold mget
  rcases fnd_ents L n 0 with ⟨h1, j, h2⟩ | ⟨h1, h2⟩
  · rw [h1, h2]; rfl
  · rw [h1, h2]; rfl
theorem mput_ents (L : List Wsh) (x : Wsh) (h : seenB (nms L) x.nm = false) : mput (ents L) x.nm (.bool true) = ents (L ++ [x]) := by
  unfold mput
  rcases fnd_ents L x.nm 0 with ⟨h1, j, h2⟩ | ⟨h1, h2⟩
  · rw [h1] at h; cases h
  · rw [h2]; simp [ents]
theorem look_names {W : World} {b : Nat} {L : List Wsh} (h : MapB (strKeys Tryd.underlying9) W b (ents L)) (nm : ByteArray) :
    (Instr.lookup 75 (.map (some b)) (.string nm) false).run Tryd.prog W = .ok (.bool (seenB (nms L) nm)) W := by
  have hlk := run_look (strKeys Tryd.underlying9) Tryd.underlying75 (z := .bool false) (fun w => by first | exact Tryd.zeroValue4 w | kernel_rfl) h nm false
  rw [if_neg (by decide), mget_ents] at hlk
  exact hlk
theorem store_names {W : World} {b : Nat} {L : List Wsh} (h : MapB (strKeys Tryd.underlying9) W b (ents L)) (x : Wsh) (hs : seenB (nms L) x.nm = false) :
    ∃ w', (Instr.mapUpdate 75 (.map (some b)) (.string x.nm) (.bool true)).run Tryd.prog W = .ok () w' ∧ MapB (strKeys Tryd.underlying9) w' b (ents (L ++ [x])) ∧ W.grownBy w' (some b) := by
  obtain ⟨w', h1, h2, h3⟩ := run_store (strKeys Tryd.underlying9) Tryd.underlying75 h x.nm (.bool true)
  rw [mput_ents L x hs] at h2
  exact ⟨w', h1, h2, h3⟩
theorem nms_snoc (L : List Wsh) (x : Wsh) : nms (L ++ [x]) = nms L ++ [x.nm] := by simp [nms]
theorem ws_step {ws : List Wsh} {k : Nat} (h : k < ws.length) (h0 : nameB ws[k].nm = true) (h1 : seenB (nms (ws.take k)) ws[k].nm = false) (h2 : wE ws[k] = 0) :
    wsE (nms (ws.take k)) (ws.drop k) = wsE (nms (ws.take (k + 1))) (ws.drop (k + 1)) := by
  rw [drop_cons ws k h, wsE_cons, h0, h1, h2, take_snoc ws k h, nms_snoc]; rfl
theorem ws_name {ws : List Wsh} {k : Nat} (h : k < ws.length) (h0 : nameB ws[k].nm = false) (seen : List ByteArray) : wsE seen (ws.drop k) = 8 := by
  rw [drop_cons ws k h, wsE_cons, h0]; rfl
theorem ws_dup {ws : List Wsh} {k : Nat} (h : k < ws.length) (h0 : nameB ws[k].nm = true) {seen : List ByteArray} (h1 : seenB seen ws[k].nm = true) : wsE seen (ws.drop k) = 9 := by
  rw [drop_cons ws k h, wsE_cons, h0, h1]; rfl
theorem ws_err {ws : List Wsh} {k : Nat} (h : k < ws.length) (h0 : nameB ws[k].nm = true) {seen : List ByteArray} (h1 : seenB seen ws[k].nm = false) (h2 : wE ws[k] ≠ 0) : wsE seen (ws.drop k) = wE ws[k] := by
  rw [drop_cons ws k h, wsE_cons, h0, h1, if_pos h2]; rfl
theorem Blk.wish {w : World} {g : Nat} {t : TypeId} {nm : ByteArray} {dv : Int} {tn : ByteArray} {fn fd lo hi : Int} (h : Blk w g t [.string nm, .int .i64 dv, .string tn, .int .i64 fn, .int .i64 fd, .int .i64 lo, .int .i64 hi]) :
    w.cell? ⟨g, 0, none⟩ = some (.string nm) ∧ w.cell? ⟨g, 1, none⟩ = some (.int .i64 dv) ∧ w.cell? ⟨g, 2, none⟩ = some (.string tn) ∧ w.cell? ⟨g, 3, none⟩ = some (.int .i64 fn) ∧ w.cell? ⟨g, 4, none⟩ = some (.int .i64 fd) ∧
      w.cell? ⟨g, 5, none⟩ = some (.int .i64 lo) ∧ w.cell? ⟨g, 6, none⟩ = some (.int .i64 hi) :=
  ⟨h.cell 0, h.cell 1, h.cell 2, h.cell 3, h.cell 4, h.cell 5, h.cell 6⟩
theorem Blk.two {w : World} {g : Nat} {t : TypeId} {a b : Value} (h : Blk w g t [a, b]) : w.cell? ⟨g, 0, none⟩ = some a ∧ w.cell? ⟨g, 1, none⟩ = some b := ⟨h.cell 0, h.cell 1⟩
theorem Blk.new {w : World} {t : TypeId} {cs : List Value} : Blk (w.alloc (.cells cs.toArray t)) w.heap.size t cs := heap_alloc_new w _
theorem Blk.keep {w w' : World} {g : Nat} {t : TypeId} {cs : List Value} (h : Blk w g t cs) (hb : Below w.heap.size w w') : Blk w' g t cs := h.below hb h.lt
theorem Blk.grown {w w' : World} {g : Nat} {t : TypeId} {cs : List Value} {row : Option Nat} (h : Blk w g t cs) (hb : w.grownBy w' row) (hg : some g ≠ row) : Blk w' g t cs := (hb.block g h.lt hg).trans h
def ChkRel (w : World) (Bd : Nat) (A : Option Addr) (n cap : Nat) (B : Option Addr) (m c2 : Nat) (ws : List Wsh) (rules : List Int) (k : Nat) (wr : World) : Prop :=
  k ≤ n ∧ wsE [] ws = wsE (nms (ws.take k)) (ws.drop k) ∧ MapB (strKeys Tryd.underlying9) wr (w.heap.size + 1) (ents (ws.take k)) ∧ Blk wr w.heap.size 29 [.slice A n cap, .slice B m c2] ∧
    Pb wr Bd A n cap B m c2 ws rules ∧ Below w.heap.size w wr ∧ w.heap.size + 2 ≤ wr.heap.size
set_option maxRecDepth 100000 in
set_option maxHeartbeats 4000000 in
theorem wcheck_any (A : Option Addr) (n cap : Nat) (B : Option Addr) (m c2 : Nat) (ws : List Wsh) (rules : List Int) (Bd : Nat) (w : World) (hp : Pb w Bd A n cap B m c2 ws rules) (hB : Bd ≤ w.heap.size) :
    Calls Tryd.prog 17 #[.agg #[.slice A n cap, .slice B m c2]] w fun e w' => e = .returned (.int .i64 (pbE ws rules)) ∧ Below w.heap.size w w' := by
  have hl := hp.wl
  have hcm := hp.wm
  have hnc := hp.wc
  unfold maxLen at hcm
  by_cases h0 : 12 < n
  · have HE := Lib.hid (show pbE ws rules = 4 by unfold pbE; rw [if_pos (by omega)])
    clear hp hl
    go_enter Tryd.func17, Tryd.ntmps17
    go_wp2
    go_ret
    exact ⟨ret_int HE.out.symm, bw_new (Below.refl _ w) _⟩
  · have HE := Lib.hid (show pbE ws rules = if wsE [] ws ≠ 0 then wsE [] ws else if 48 < rules.length then 4 else sqE 128 3 none rules by unfold pbE; rw [if_neg (by omega)])
    have hn12 : n ≤ 12 := by omega
    have HL := Lib.hid hl
    have HP := Lib.hid hp
    have hmm := @run_makeMap Tryd.prog
    clear hl hp h0
    go_enter Tryd.func17, Tryd.ntmps17
    go_wp2_with fail
    clear hmm
    go_loopw [17] (fun v wr => ∃ k : Nat, v = .int .i64 k ∧ ChkRel w Bd A n cap B m c2 ws rules k wr) (fun v _ => n - (intOf v).toNat)
    case atStart =>
      have hb0 := bw_new (bw_new (Below.refl _ w) (.cells #[.slice A n cap, .slice B m c2] 29)) (.map #[] 0)
      refine ⟨0, rfl, by omega, rfl, ?_, ?_, HP.out.keep hB hb0, hb0, by simp⟩
      · have := MapB.new (strKeys Tryd.underlying9) (w.alloc (.cells #[.slice A n cap, .slice B m c2] 29))
        rw [World.size_alloc] at this
        exact this
      · exact (Blk.new (cs := [.slice A n cap, .slice B m c2])).alloc _
    case round =>
      obtain ⟨k, rfl, hk, ho, hm, hbx, hpr, hb, hs⟩ := hrel
      have HO := Lib.hid ho
      have HM := Lib.hid hm
      have HBX := Lib.hid hbx
      have HPR := Lib.hid hpr
      have HB := Lib.hid hb
      clear ho hm hbx hpr hb
      by_cases hlt : k < n
      · have hlt' : k < ws.length := by rw [HL.out]; exact hlt
        obtain ⟨b, off, rfl, hbd, hcell⟩ := HPR.out.wr.at_ (by omega)
        obtain ⟨hI1, hI2, hI3, hI4⟩ := HPR.out.ok ws[k] (List.getElem_mem hlt')
        have hat := hcell k hlt'
        obtain ⟨x, hx⟩ : ∃ x, x = ws[k] := ⟨_, rfl⟩
        rw [← hx] at hat hI1 hI2 hI3 hI4
        have HX := Lib.hid hx
        clear hx hcell
        obtain ⟨nm, dv, tn, fn, fd, lo, hi⟩ := x
        obtain ⟨a0, a1, a2, a3, a4, a5, a6⟩ := hat
        dsimp only at a0 a1 a2 a3 a4 a5 a6 hI1 hI2 hI3 hI4
        have hName := Lib.hid (fun W => name_any nm W hI3)
        have hChk := Lib.hid (fun W => wchk_any nm dv tn fn fd lo hi W hI1 hI2 hI4)
        obtain ⟨p0, p1⟩ := HBX.out.two
        have hbw : b < wr.heap.size := by omega
        have hxn : ws[k].nm = nm := by rw [← HX.out]
        have hxe : wE ws[k] = wE ⟨nm, dv, tn, fn, fd, lo, hi⟩ := by rw [← HX.out]
        have HXN := Lib.hid hxn
        have HXE := Lib.hid hxe
        clear hI1 hI2 hI3 hI4 hxn hxe
        cases hq : nameB nm with
        | false =>
          have hN := hName.out
          rw [hq] at hN
          have hN := Lib.hid hN
          have HR := Lib.hid (show pbE ws rules = 8 by
            rw [HE.out, HO.out, ws_name hlt' (by rw [HXN.out]; exact hq)]; rfl)
          clear hq hName
          go_wp2_with fail
          refine (hN.out _).mono ?_
          rintro e w' ⟨rfl, rfl⟩
          go_wp2
          go_ret
          exact ⟨ret_int HR.out.symm, bw_new HB.out _⟩
        | true =>
          have hN := hName.out
          rw [hq] at hN
          have hN := Lib.hid hN
          have HQ := Lib.hid (show nameB ws[k].nm = true by rw [HXN.out]; exact hq)
          have hM1 := HM.out.alloc (strKeys Tryd.underlying9) (.cells #[.string nm, .int .i64 dv, .string tn, .int .i64 fn, .int .i64 fd, .int .i64 lo, .int .i64 hi] 48)
          have hlk := look_names hM1 nm
          cases hsb : seenB (nms (ws.take k)) nm with
          | true =>
            rw [hsb] at hlk
            have HLK := Lib.hid hlk
            have HR := Lib.hid (show pbE ws rules = 9 by
              rw [HE.out, HO.out, ws_dup hlt' HQ.out (by rw [HXN.out]; exact hsb)]; rfl)
            clear hq hName hlk hsb
            go_wp2_with fail
            refine (hN.out _).mono ?_
            rintro e w' ⟨rfl, rfl⟩
            go_wp2_with fail
            rw [HLK.out]
            simp only [Result.andThen]
            rw [Oper.upon_value]
            go_wp2
            go_ret
            exact ⟨ret_int HR.out.symm, bw_new HB.out _⟩
          | false =>
            rw [hsb] at hlk
            have HLK := Lib.hid hlk
            obtain ⟨w3, hst, hM3, hg3⟩ := store_names hM1 ⟨nm, dv, tn, fn, fd, lo, hi⟩ hsb
            have HST := Lib.hid hst
            have hX3 : Blk w3 wr.heap.size 48 [.string nm, .int .i64 dv, .string tn, .int .i64 fn, .int .i64 fd, .int .i64 lo, .int .i64 hi] := (Blk.new (w := wr)).grown hg3 (by simp; omega)
            have hP3 := (HBX.out.alloc (.cells #[.string nm, .int .i64 dv, .string tn, .int .i64 fn, .int .i64 fd, .int .i64 lo, .int .i64 hi] 48)).grown hg3 (by simp)
            have hb3 := (bw_new HB.out (.cells #[.string nm, .int .i64 dv, .string tn, .int .i64 fn, .int .i64 fd, .int .i64 lo, .int .i64 hi] 48)).grown hg3 (by simp; omega) (by intro r e; cases e; omega)
            have hs3 : wr.heap.size + 1 ≤ w3.heap.size := by have := hg3.size; simp at this; omega
            have hpr3 := (HPR.out.alloc (by omega) (.cells #[.string nm, .int .i64 dv, .string tn, .int .i64 fn, .int .i64 fd, .int .i64 lo, .int .i64 hi] 48)).below (((Below.refl Bd _).grown hg3 (by simp; omega) (by intro r e; cases e; omega)))
            have HX3 := Lib.hid hX3
            have HP3 := Lib.hid hP3
            have HB3 := Lib.hid hb3
            have HM3 := Lib.hid hM3
            have HPR3 := Lib.hid hpr3
            have HSB := Lib.hid (show seenB (nms (ws.take k)) ws[k].nm = false by rw [HXN.out]; exact hsb)
            obtain ⟨x0, x1, x2, x3, x4, x5, x6⟩ := HX3.out.wish
            clear hq hName hlk hsb hst hX3 hP3 hb3 hM3 hpr3 hM1
            go_wp2_with fail
            refine (hN.out _).mono ?_
            rintro e w' ⟨rfl, rfl⟩
            go_wp2_with fail
            rw [HLK.out]
            simp only [Result.andThen]
            rw [Oper.upon_value]
            go_wp2_with fail
            rw [HST.out]
            simp only [Result.andThen]
            rw [Oper.upon_skip]
            clear a0 a1 a2 a3 a4 a5 a6
            go_wp2_with fail
            refine (hChk.out _).mono ?_
            rintro e w4 ⟨rfl, hb4⟩
            have HM4 := Lib.hid (HM3.out.below (strKeys Tryd.underlying9) hb4 (HM3.out.lt _))
            have HP4 := Lib.hid (HP3.out.keep hb4)
            have HPR4 := Lib.hid (HPR3.out.keep (by omega) hb4)
            have HB4 := Lib.hid (HB3.out.trans (hb4.mono HB3.out.size))
            have hs4 : w.heap.size + 2 ≤ w4.heap.size := by have := hb4.size; omega
            obtain ⟨z, hz⟩ : ∃ z, z = wE ⟨nm, dv, tn, fn, fd, lo, hi⟩ := ⟨_, rfl⟩
            rw [← hz]
            have HZ := Lib.hid (hz.trans HXE.out.symm)
            clear hz hb4 x0 x1 x2 x3 x4 x5 x6
            by_cases hz0 : z = 0
            · have hz1 : (z == 0) = true := by simpa using hz0
              have hz2 : (z != 0) = false := by simpa using hz0
              have HS := Lib.hid (ws_step hlt' HQ.out HSB.out (by rw [← HZ.out]; exact hz0))
              clear hz0
              go_wp2
              go_roundw
              case rel =>
                refine ⟨k + 1, by go_num, by omega, by rw [HO.out, HS.out], ?_, HP4.out, HPR4.out, HB4.out, hs4⟩
                rw [take_snoc ws k hlt', ← HX.out]
                exact HM4.out
              case measure => simp [intOf]; omega
            · have hz1 : (z == 0) = false := by simpa using hz0
              have hz2 : (z != 0) = true := by simpa using hz0
              have HR := Lib.hid (show pbE ws rules = z by
                have h1 := ws_err hlt' HQ.out HSB.out (by rw [← HZ.out]; exact hz0)
                rw [HE.out, HO.out, h1, ← HZ.out, if_pos hz0])
              clear hz0
              go_wp2
              go_ret
              exact ⟨ret_int HR.out.symm, HB4.out⟩
      · have hkn : k = n := by omega
        subst hkn
        have hE2 : pbE ws rules = if 48 < rules.length then 4 else sqE 128 3 none rules := by
          rw [HE.out, HO.out, List.drop_eq_nil_of_le (by rw [HL.out]; exact Nat.le_refl _)]
          rfl
        have HE2 := Lib.hid hE2
        obtain ⟨p0, p1⟩ := HBX.out.two
        have hml := HPR.out.rl
        have hmc := HPR.out.rc
        have hmm := HPR.out.rm
        unfold maxLen at hmm
        clear hE2
        by_cases hm48 : 48 < m
        · have HR := Lib.hid (show pbE ws rules = 4 by rw [HE2.out, if_pos (by omega)])
          clear hml
          go_wp2
          go_ret
          exact ⟨ret_int HR.out.symm, HB.out⟩
        · have HE3 := Lib.hid (show pbE ws rules = sqE 128 3 none rules by rw [HE2.out, if_neg (by omega)])
          have HML := Lib.hid hml
          clear hml
          go_wp2
          go_loop [47] (fun v => ∃ j : Nat, j ≤ m ∧ v = .int .i64 j ∧ pbE ws rules = sqE 128 3 (rules.take j).getLast? (rules.drop j)) (fun v => m - (intOf v).toNat)
          case atStart => exact ⟨0, by omega, rfl, by rw [HE3.out]; rfl⟩
          case round =>
            obtain ⟨j, hj, rfl, ho⟩ := hrel
            have HO := Lib.hid ho
            clear ho
            by_cases hlt : j < m
            · have hltr : j < rules.length := by rw [HML.out]; exact hlt
              obtain ⟨b, off, rfl, hb, hc⟩ := rd_at HPR.out.rr (by omega)
              have hcj := hc j hltr
              obtain ⟨x, hx⟩ : ∃ x, x = rules[j] := ⟨_, rfl⟩
              rw [← hx] at hcj
              have HX := Lib.hid hx
              have HC := Lib.hid hc
              clear hx hc
              by_cases h1 : x < 0
              · have HR := Lib.hid (show pbE ws rules = 3 by rw [HO.out, sq_bad hltr (by rw [← HX.out]; exact .inl h1)])
                go_wp2
                go_ret
                exact ⟨ret_int HR.out.symm, HB.out⟩
              · by_cases h2 : 128 ≤ x
                · have HR := Lib.hid (show pbE ws rules = 3 by rw [HO.out, sq_bad hltr (by rw [← HX.out]; exact .inr h2)])
                  go_wp2
                  go_ret
                  exact ⟨ret_int HR.out.symm, HB.out⟩
                · have h1' : 0 ≤ x := by omega
                  have h2' : x ≤ 127 := by omega
                  have HN := Lib.hid (show ¬ (rules[j] < 0 ∨ 128 ≤ rules[j]) by rw [← HX.out]; omega)
                  cases j with
                  | zero =>
                    rw [Nat.add_zero] at hcj
                    have HS := Lib.hid (sq_step (e := 3) hltr HN.out (last_zero rules _))
                    go_wp2
                    go_round
                    case rel => exact ⟨1, by omega, rfl, by rw [HO.out, HS.out]⟩
                    case measure => simp [intOf]; omega
                  | succ i =>
                    have hci : wr.cell? ⟨b, off + i, none⟩ = some (.int .i64 rules[i]) := HC.out i (by omega)
                    obtain ⟨y, hy⟩ : ∃ y, y = rules[i]'(by omega) := ⟨_, rfl⟩
                    rw [← hy] at hci
                    have hL := last_succ rules i (by omega) x
                    rw [HX.out] at hL
                    have HLs := Lib.hid hL
                    have HY := Lib.hid hy
                    clear hy hL
                    by_cases h3 : x ≤ y
                    · have HR := Lib.hid (show pbE ws rules = 6 by rw [HO.out, sq_ord hltr HN.out (by rw [HLs.out, ← HX.out, ← HY.out]; exact decide_eq_true h3)])
                      go_wp2
                      go_ret
                      exact ⟨ret_int HR.out.symm, HB.out⟩
                    · have h3' : y < x := by omega
                      have HS := Lib.hid (sq_step (e := 3) hltr HN.out (by rw [HLs.out, ← HX.out, ← HY.out]; exact decide_eq_false h3))
                      go_wp2
                      go_round
                      case rel => exact ⟨i + 1 + 1, by omega, by go_num, by rw [HO.out, HS.out]⟩
                      case measure => simp [intOf]; omega
            · have HR := Lib.hid (show pbE ws rules = 0 by rw [HO.out, List.drop_eq_nil_of_le (by rw [HML.out]; omega)]; rfl)
              go_wp2
              go_ret
              exact ⟨ret_int HR.out.symm, HB.out⟩
end Go.Proofs.YtkamepalomkpbaaDoor
