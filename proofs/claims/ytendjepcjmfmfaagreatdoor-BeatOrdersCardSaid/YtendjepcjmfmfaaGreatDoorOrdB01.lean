/- Part 1 of 47 of the proof of the law: contracts of the functions that it reaches, and plain facts. Conditions: those that each contract names. -/
import Derived.WalkKit
import Derived.WalkSpells
import Derived.WalkLawsBesides
import Derived.Laws.OwnMore
import Derived.Laws.Rows
import Derived.Lib.Hide
import Derived.Laws.IdiomStrings
import Derived.Maps.Own
namespace Go.Proofs.YtendjepcjmfmfaaGreatDoor
open Go.RowKit
def Rd {α : Type} (enc : α → Value) (w : World) (Bd : Nat) (A : Option Addr) (L : List α) : Prop :=
 0 < L.length → ∃ b off, A = some ⟨b, off, none⟩ ∧ b < Bd ∧ ∀ i (h : i < L.length), w.cell? ⟨b, off + i, none⟩ = some (enc L[i])
section
variable {α : Type} {enc : α → Value} {w w' : World} {Bd Bd' : Nat} {A : Option Addr} {L : List α}
theorem Rd.nil : Rd enc w Bd A [] := fun h => absurd h (by simp)
theorem Rd.keep (h : Rd enc w Bd A L) (hk : ∀ b o, b < Bd → w'.cell? ⟨b, o, none⟩ = w.cell? ⟨b, o, none⟩) : Rd enc w' Bd A L := fun hl => by
 obtain ⟨b, off, rfl, hb, hc⟩ := h hl
 exact ⟨b, off, rfl, hb, fun i hi => (hk _ _ hb).trans (hc i hi)⟩
theorem Rd.below (h : Rd enc w Bd A L) (hb : Below Bd w w') : Rd enc w' Bd A L := h.keep fun b o hp => hb.cell (p := ⟨b, o, none⟩) hp
theorem Rd.more (h : Rd enc w Bd A L) (hB : Bd ≤ Bd') : Rd enc w Bd' A L := fun hl => by
 obtain ⟨b, off, rfl, hb, hc⟩ := h hl
 exact ⟨b, off, rfl, by omega, hc⟩
theorem Rd.take (h : Rd enc w Bd A L) (k : Nat) : Rd enc w Bd A (L.take k) := fun hl => by
 have hlt : 0 < L.length := by rw [List.length_take] at hl; omega
 obtain ⟨b, off, rfl, hb, hc⟩ := h hlt
 refine ⟨b, off, rfl, hb, fun i hi => ?_⟩
 rw [List.getElem_take]
 exact hc i (by rw [List.length_take] at hi; omega)
theorem Rd.at_ (h : Rd enc w Bd A L) (hl : 0 < L.length) : ∃ b off, A = some ⟨b, off, none⟩ ∧ b < Bd ∧ ∀ i (h : i < L.length), w.cell? ⟨b, off + i, none⟩ = some (enc L[i]) := h hl
end
def Blk (w : World) (g : Nat) (t : TypeId) (cs : List Value) : Prop := w.heap[g]? = some (.cells cs.toArray t (0, 0))
section
variable {w w' : World} {g : Nat} {t : TypeId} {cs : List Value}
theorem Blk.lt (h : Blk w g t cs) : g < w.heap.size := by
 rcases Nat.lt_or_ge g w.heap.size with hlt | hge
 ·exact hlt
 ·unfold Blk at h; rw [Array.getElem?_eq_none hge] at h; cases h
theorem Blk.cell (h : Blk w g t cs) (i : Nat) : w.cell? ⟨g, i, none⟩ = cs[i]? := by
 rw [cell_of_row w g i cs.toArray t (0, 0) h]; simp
theorem Blk.frozen (h : Blk w g t cs) (i : Nat) : w.frozen? ⟨g, i, none⟩ = false := by
 unfold Blk at h
 simp [World.frozen?, h]
theorem Blk.drew (h : Blk w g t cs) : Blk w.drew g t cs := h
theorem Blk.alloc (h : Blk w g t cs) (o : Obj) : Blk (w.alloc o) g t cs := (Below.heap_alloc w o g h.lt).trans h
theorem Blk.put (h : Blk w g t cs) (i : Nat) (u : Value) : Blk (w.setCell ⟨g, i, none⟩ u) g t (cs.set i u) := by
 unfold Blk at h ⊢
 simp [World.setCell, Array.getElem?_modify, h]
theorem Blk.put_eq (h : Blk w g t cs) (i : Nat) {u u' : Value} (e : u = u') : Blk (w.setCell ⟨g, i, none⟩ u) g t (cs.set i u') := e ▸ h.put i u
theorem Blk.far (h : Blk w g t cs) {p : Addr} (hp : g ≠ p.block) (u : Value) : Blk (w.setCell p u) g t cs := (Below.heap_setCell w p u g hp).trans h
theorem Blk.below {B : Nat} (h : Blk w g t cs) (hb : Below B w w') (hg : g < B) : Blk w' g t cs := (hb.block g hg).trans h
theorem Blk.rd {α : Type} {enc : α → Value} {L : List α} (h : Blk w g t (L.map enc)) : Rd enc w w.heap.size (some ⟨g, 0, none⟩) L := fun _ =>
 ⟨g, 0, rfl, h.lt, fun i hi => by rw [h.cell]; simp [hi]⟩
theorem Blk.of_own {base : Nat} {e : TypeId} {n : Nat} {xs : List Value} (h : w.ownsRow base e 1 (.slice (some ⟨g, 0, none⟩) n n) n xs) : Blk w g e xs := by
 rcases h.2 with ⟨h', _⟩ | ⟨g', cap, cur, h', _, hg, _, _, hs, ht⟩
 ·cases h'
 ·injection h' with h1 h2 h3
  injection h1 with h1
  injection h1 with h1 _ _
  subst h1; subst h3
  unfold Blk
  have e1 : cur.toList.take (n * 1) = cur.toList := List.take_of_length_le (by simp [hs])
  rw [e1] at ht
  rw [← ht]
  exact hg
end
theorem Rd.of_own {α : Type} {enc : α → Value} {w : World} {base : Nat} {e : TypeId} {A : Option Addr} {n m c : Nat} {L : List α} (h : w.ownsRow base e 1 (.slice A n c) m (L.map enc)) (hn : m = L.length) : Rd enc w w.heap.size A L := fun hl => by
 rcases h.2 with ⟨hv, h0⟩ | ⟨g, cap, cur, hv, hb, hg, hnc, _, hs, ht⟩
 ·omega
 ·injection hv with h1 h2 h3
  subst h1
  refine ⟨g, 0, rfl, ?_, fun i hi => ?_⟩
  ·rcases Nat.lt_or_ge g w.heap.size with hlt | hge
   ·exact hlt
   ·rw [Array.getElem?_eq_none hge] at hg; cases hg
  ·have h2 : (cur.toList.take (m * 1))[i]? = (L.map enc)[i]? := by rw [ht]
   rw [List.getElem?_take, if_pos (by omega)] at h2
   rw [cell_of_row w g _ cur e (0, 0) hg, Nat.zero_add]
   simpa [hi] using h2
theorem own_form {w : World} {base : Nat} {e : TypeId} {size n : Nat} {v : Value} {xs : List Value} (h : w.ownsRow base e size v n xs) (hn : 0 < n) : ∃ g cap, v = .slice (some ⟨g, 0, none⟩) n cap ∧ n ≤ cap := by
 rcases h.2 with ⟨_, h0⟩ | ⟨g, cap, cur, hv, _, _, hnc, _⟩
 ·omega
 ·exact ⟨g, cap, hv, hnc⟩
theorem own_cap {w : World} {base : Nat} {e : TypeId} {size n c m : Nat} {A : Option Addr} {xs : List Value} (h : w.ownsRow base e size (.slice A n c) m xs) : n ≤ c := by
 rcases h.2 with ⟨hv, h0⟩ | ⟨g, cap, cur, hv, _, _, hnc, _⟩
 ·injection hv; omega
 ·injection hv; omega
theorem conv_rd (w : World) (s : ByteArray) (cap : Nat) (e : TypeId) (fr : Nat × Nat) :
  Rd (fun c : UInt8 => .int .u8 (c.toNat : Int)) (w.alloc (.cells (bytesRow s cap) e fr)).drew (w.heap.size + 1) (some ⟨w.heap.size, 0, none⟩) s.data.toList := fun _ => by
 refine ⟨_, 0, rfl, by omega, fun i hi => ?_⟩
 have hi' : i < s.data.size := by simpa using hi
 have hh : (w.alloc (.cells (bytesRow s cap) e fr)).drew.heap[w.heap.size]? = some (.cells (bytesRow s cap) e fr) := heap_alloc_new w _
 rw [cell_of_row _ w.heap.size _ _ e fr hh, Nat.zero_add, bytesRow_at s cap i hi']
 simp
theorem below_drewN (B : Nat) (w : World) (k : Nat) : Below B w (w.drewN k) := ⟨rfl, rfl, rfl, Nat.le_refl _, fun _ _ => rfl⟩
theorem bw_new {a w : World} (h : Below a.heap.size a w) (o : Obj) : Below a.heap.size a (w.alloc o) := h.alloc h.size o
theorem bw_set {B : Nat} {a w : World} {b o : Nat} (h : Below B a w) (hb : B ≤ b) (u : Value) : Below B a (w.setCell ⟨b, o, none⟩ u) := h.setCell (p := ⟨b, o, none⟩) hb u
theorem bw_drewN {B : Nat} {a w : World} (h : Below B a w) (k : Nat) : Below B a (w.drewN k) := h.trans (below_drewN _ _ _)
theorem bw_drew {B : Nat} {a w : World} (h : Below B a w) : Below B a w.drew := h.drew
theorem ret_int {k : IntKind} {a b : Int} (h : a = b) : Ending.returned (.int k a) = .returned (.int k b) := by rw [h]
theorem ret_slice {A : Option Addr} {n m cap : Nat} (h : n = m) : Ending.returned (.slice A n cap) = .returned (.slice A m cap) := by rw [h]
def lenOf : Value → Nat | .slice _ n _ => n | _ => 0
def Two (w : World) (b : Nat) (x y : Int) : Prop :=
 w.cell? ⟨b, 0, none⟩ = some (.int .i64 x) ∧ w.cell? ⟨b, 1, none⟩ = some (.int .i64 y) ∧ w.frozen? ⟨b, 0, none⟩ = false ∧ w.frozen? ⟨b, 1, none⟩ = false ∧ b < w.heap.size
section
variable {κ : Type} [DecidableEq κ]
def fnd (k : κ) : List (κ × Value) → Nat → Option (Nat × Value)
 | [], _ => none
 | p :: ps, i => if k = p.1 then some (i, p.2) else fnd k ps (i + 1)
def mget (m : List (κ × Value)) (k : κ) : Option Value := (fnd k m 0).map (·.2)
def mput (m : List (κ × Value)) (k : κ) (v : Value) : List (κ × Value) :=
 match fnd k m 0 with
 | some (i, _) => m.set i (k, v)
 | none => m ++ [(k, v)]
structure KeyKind (κ : Type) [DecidableEq κ] (P : Program) (kt : TypeId) where
 enc : κ → Value
 desc : TypeDesc
 und : P.underlying kt = some desc
 same : ∀ a b, Instr.sameNow desc (enc a) (enc b) = some (decide (a = b))
 check : ∀ (w : World) (em : Bool) a, (Instr.checkKey em 10000 kt (enc a)).run P w = .ok () w
 stays : ∀ (w : World) a, (Instr.keyThatStays (enc a) (enc a)).run P w = .ok (enc a) w
variable {P : Program} {kt : TypeId} (K : KeyKind κ P kt)
def MapB (K : KeyKind κ P kt) (w : World) (b : Nat) (m : List (κ × Value)) : Prop :=
 ∃ es clock, w.heap[b]? = some (.map es clock) ∧ es.toList.map (fun e => (e.key, e.val)) = m.map (fun p => (K.enc p.1, p.2))
theorem findNow_eq (k : κ) : ∀ (m : List (κ × Value)) (es : List MapEntry) (i : Nat), es.map (fun e => (e.key, e.val)) = m.map (fun p => (K.enc p.1, p.2)) →
  Instr.findNow K.desc (K.enc k) es i = some (fnd k m i)
 | [], [], i, _ => rfl
 | [], _ :: _, _, h => by simp at h
 | _ :: _, [], _, h => by simp at h
 | p :: m, e :: es, i, h => by
  simp only [List.map_cons, List.cons.injEq, Prod.mk.injEq] at h
  obtain ⟨⟨h1, h2⟩, h3⟩ := h
  unfold Instr.findNow fnd
  rw [h1, K.same, h2]
  by_cases e : k = p.1
  ·rw [decide_eq_true e, if_pos e]
  ·rw [decide_eq_false e, if_neg e]
   exact findNow_eq k m es (i + 1) h3
theorem fnd_some {k : κ} {v : Value} : ∀ {m : List (κ × Value)} {i j : Nat}, fnd k m i = some (j, v) → i ≤ j ∧ m[j - i]? = some (k, v)
 | [], _, _, h => by simp [fnd] at h
 | p :: m, i, j, h => by
  unfold fnd at h
  by_cases e : k = p.1
  ·rw [if_pos e] at h
   injection h with h; injection h with h1 h2
   subst h1; subst h2
   simp [e]
  ·rw [if_neg e] at h
   have := fnd_some h
   refine ⟨by omega, ?_⟩
   rw [show j - i = (j - (i + 1)) + 1 by omega, List.getElem?_cons_succ]
   exact this.2
variable {w : World} {b : Nat} {m : List (κ × Value)}
theorem run_getMap {es : Array MapEntry} {clock : Nat} (hb : w.heap[b]? = some (.map es clock)) : (getObj b).run P w = .ok (.map es clock) w := by
 simp [getObj, Sem.run, hb]
theorem run_setMap {es : Array MapEntry} {clock : Nat} (hb : w.heap[b]? = some (.map es clock)) (o : Obj) : (setObj b o).run P w = .ok () { w with heap := w.heap.setIfInBounds b o } := by
 simp [setObj, Sem.run, hb]
theorem run_look {t e : TypeId} (ht : P.underlying t = some (.map kt e)) {z : Value} (hz : ∀ w, (zeroValue e).run P w = .ok z w) (h : MapB K w b m) (k : κ) (ok : Bool) :
  (Instr.lookup t (.map (some b)) (K.enc k) ok).run P w = .ok (if ok then .tuple #[(mget m k).getD z, .bool (mget m k).isSome] else (mget m k).getD z) w := by
 obtain ⟨es, clock, hb, he⟩ := h
 have hf := findNow_eq K k m es.toList 0 he
 unfold mget
 cases hq : fnd k m 0 with
 | none =>
  rw [hq] at hf
  cases ok <;> simp [Instr.lookup, run_underlying ht, run_getMap hb, K.check, Instr.findKey, run_underlying K.und, hf, hz]
 | some q =>
  rw [hq] at hf
  cases ok <;> simp [Instr.lookup, run_underlying ht, run_getMap hb, K.check, Instr.findKey, run_underlying K.und, hf]
theorem run_store {t e : TypeId} (ht : P.underlying t = some (.map kt e)) (h : MapB K w b m) (k : κ) (v : Value) :
  ∃ w', (Instr.mapUpdate t (.map (some b)) (K.enc k) v).run P w = .ok () w' ∧ MapB K w' b (mput m k v) ∧ w.grownBy w' (some b) := by
 obtain ⟨es, clock, hb, he⟩ := h
 have hf := findNow_eq K k m es.toList 0 he
 unfold mput
 have hlt : b < w.heap.size := (Array.getElem?_eq_some_iff.1 hb).1
 cases hq : fnd k m 0 with
 | none =>
  rw [hq] at hf
  refine ⟨{ w with heap := w.heap.setIfInBounds b (.map (es.push { key := K.enc k, val := v, born := clock }) (clock + 1)) }, ?_, ?_, ?_⟩
  ·simp [Instr.mapUpdate, run_underlying ht, run_getMap hb, K.check, Instr.findKey, run_underlying K.und, hf, run_setMap hb]
  ·exact ⟨_, _, by simp [hlt]; exact ⟨rfl, rfl⟩, by simp [he]⟩
  ·exact ⟨rfl, rfl, rfl, by simp, fun i _ hi => by simp only [Array.getElem?_setIfInBounds]; rw [if_neg (fun e => hi (by rw [e]))]⟩
 | some q =>
  obtain ⟨i, u⟩ := q
  rw [hq] at hf
  have hs := (fnd_some hq).2
  rw [Nat.sub_zero] at hs
  have hk : (es[i]?).map (·.key) = some (K.enc k) := by
   have := congrArg (fun l => l[i]?) he
   simp only [List.getElem?_map, hs, Option.map_some] at this
   rw [Array.getElem?_toList] at this
   cases hx : es[i]? with
   | none => rw [hx] at this; simp at this
   | some x => rw [hx] at this; simp at this; simp [this.1]
  refine ⟨{ w with heap := w.heap.setIfInBounds b (.map (es.modify i fun e => { e with key := K.enc k, val := v }) clock) }, ?_, ?_, ?_⟩
  ·simp [Instr.mapUpdate, run_underlying ht, run_getMap hb, K.check, Instr.findKey, run_underlying K.und, hf, run_setMap hb, hk, K.stays]
  ·refine ⟨_, _, by simp [hlt]; exact ⟨rfl, rfl⟩, ?_⟩
   apply List.ext_getElem?
   intro j
   have hj := congrArg (fun l => l[j]?) he
   simp only [List.getElem?_map] at hj ⊢
   rw [Array.getElem?_toList] at hj ⊢
   rw [Array.getElem?_modify, List.getElem?_set]
   by_cases e : i = j
   ·subst e
    have hl : i < m.length := (List.getElem?_eq_some_iff.1 hs).1
    cases hx : es[i]? with
    | none => rw [hx] at hk; simp at hk
    | some x => simp [hl]
   ·simp only [if_neg e]
    exact hj
  ·exact ⟨rfl, rfl, rfl, by simp, fun i _ hi => by simp only [Array.getElem?_setIfInBounds]; rw [if_neg (fun e => hi (by rw [e]))]⟩
theorem MapB.new (w : World) : MapB K (w.alloc (.map #[] 0)) w.heap.size [] := ⟨#[], 0, heap_alloc_new w _, rfl⟩
end
theorem check_int {P : Program} {kt : TypeId} {q : IntKind} (h : P.underlying kt = some (.int q)) (w : World) (em : Bool) (a : Int) (n : Nat) : (Instr.checkKey em (n + 1) kt (.int q a)).run P w = .ok () w := by
 simp [Instr.checkKey, run_underlying h]
theorem check_str {P : Program} {kt : TypeId} (h : P.underlying kt = some .string) (w : World) (em : Bool) (a : ByteArray) (n : Nat) : (Instr.checkKey em (n + 1) kt (.string a)).run P w = .ok () w := by
 simp [Instr.checkKey, run_underlying h]
theorem bits_int {q : IntKind} (a : Int) (n : Nat) : Instr.sameBits (n + 1) (.int q a) (.int q a) = true := by simp [Instr.sameBits]
theorem beq_bytes (a b : ByteArray) : (a == b) = decide (a = b) := by
 obtain ⟨x⟩ := a
 obtain ⟨y⟩ := b
 have e : ((⟨x⟩ : ByteArray) == ⟨y⟩) = (x == y) := rfl
 rw [e]
 by_cases h : x = y
 ·subst h; simp
 ·rw [decide_eq_false (fun k => h (by injection k)), beq_eq_false_iff_ne]; exact h
theorem bits_str (a : ByteArray) (n : Nat) : Instr.sameBits (n + 1) (.string a) (.string a) = true := by simp [Instr.sameBits, beq_bytes]
def intKeys {P : Program} {kt : TypeId} {q : IntKind} (h : P.underlying kt = some (.int q)) : KeyKind Int P kt where
 enc := fun n => .int q n
 desc := .int q
 und := h
 same := fun a b => by simp [Instr.sameNow, Bool.beq_eq_decide_eq]
 check := fun w em a => check_int h w em a 9999
 stays := fun w a => by
  unfold Instr.keyThatStays
  rw [show Instr.sameBits 10000 (.int q a) (.int q a) = true from bits_int a 9999]
  simp
def strKeys {P : Program} {kt : TypeId} (h : P.underlying kt = some .string) : KeyKind ByteArray P kt where
 enc := fun s => .string s
 desc := .string
 und := h
 same := fun a b => by simp [Instr.sameNow, beq_bytes]
 check := fun w em a => check_str h w em a 9999
 stays := fun w a => by
  unfold Instr.keyThatStays
  rw [show Instr.sameBits 10000 (.string a) (.string a) = true from bits_str a 9999]
  simp
end Go.Proofs.YtendjepcjmfmfaaGreatDoor
