/- A map in a block, told as a list of its entries: look-up and store. No function of the program is named in this text. Conditions: the keys are integers of one kind, or strings. -/
import Derived.Test.YtfickhncbahekaaDoorMem
import Derived.Maps.Own
namespace Go.Proofs.YtfickhncbahekaaDoor
open Go.RowKit

section
variable {κ : Type} [DecidableEq κ]
/-- The first entry of a key, with its place. -/
def fnd (k : κ) : List (κ × Value) → Nat → Option (Nat × Value)
  | [], _ => none
  | p :: ps, i => if k = p.1 then some (i, p.2) else fnd k ps (i + 1)
/-- The value of a key. -/
def mget (m : List (κ × Value)) (k : κ) : Option Value := (fnd k m 0).map (·.2)
/-- The entries behind a store. -/
def mput (m : List (κ × Value)) (k : κ) (v : Value) : List (κ × Value) :=
  match fnd k m 0 with
  | some (i, _) => m.set i (k, v)
  | none => m ++ [(k, v)]

/-- A kind of keys: how they are written, and that equality is decided at once. -/
structure KeyKind (κ : Type) [DecidableEq κ] (P : Program) (kt : TypeId) where
  enc : κ → Value
  desc : TypeDesc
  und : P.underlying kt = some desc
  same : ∀ a b, Instr.sameNow desc (enc a) (enc b) = some (decide (a = b))
  check : ∀ (w : World) (em : Bool) a, (Instr.checkKey em 10000 kt (enc a)).run P w = .ok () w
  stays : ∀ (w : World) a, (Instr.keyThatStays (enc a) (enc a)).run P w = .ok (enc a) w

variable {P : Program} {kt : TypeId} (K : KeyKind κ P kt)

/-- Block b is a map with just these entries. -/
def MapB (K : KeyKind κ P kt) (w : World) (b : Nat) (m : List (κ × Value)) : Prop :=
  ∃ es clock, w.heap[b]? = some (.map es clock) ∧ es.toList.map (fun e => (e.key, e.val)) = m.map (fun p => (K.enc p.1, p.2))

theorem findNow_eq (k : κ) : ∀ (m : List (κ × Value)) (es : List MapEntry) (i : Nat), es.map (fun e => (e.key, e.val)) = m.map (fun p => (K.enc p.1, p.2)) →
    Instr.findNow K.desc (K.enc k) es i = some (fnd k m i)
  | [], [], i, _ => rfl
  | [], _ :: _, _, h => by simp at h
  | _ :: _, [], _, h => by simp at h
  | p :: m, e :: es, i, h => by
    simp only [List.map_cons, List.cons.injEq, Prod.mk.injEq] at h
    obtain ⟨⟨h1, h2⟩, h3⟩ := h
    unfold Instr.findNow fnd
    rw [h1, K.same, h2]
    by_cases e : k = p.1
    · rw [decide_eq_true e, if_pos e]
    · rw [decide_eq_false e, if_neg e]
      exact findNow_eq k m es (i + 1) h3

theorem fnd_some {k : κ} {v : Value} : ∀ {m : List (κ × Value)} {i j : Nat}, fnd k m i = some (j, v) → i ≤ j ∧ m[j - i]? = some (k, v)
  | [], _, _, h => by simp [fnd] at h
  | p :: m, i, j, h => by
    unfold fnd at h
    by_cases e : k = p.1
    · rw [if_pos e] at h
      injection h with h; injection h with h1 h2
      subst h1; subst h2
      simp [e]
    · rw [if_neg e] at h
      have := fnd_some h
      refine ⟨by omega, ?_⟩
      rw [show j - i = (j - (i + 1)) + 1 by omega, List.getElem?_cons_succ]
      exact this.2

variable {w : World} {b : Nat} {m : List (κ × Value)}

theorem run_getMap {es : Array MapEntry} {clock : Nat} (hb : w.heap[b]? = some (.map es clock)) : (getObj b).run P w = .ok (.map es clock) w := by
  simp [getObj, Sem.run, hb]
theorem run_setMap {es : Array MapEntry} {clock : Nat} (hb : w.heap[b]? = some (.map es clock)) (o : Obj) : (setObj b o).run P w = .ok () { w with heap := w.heap.setIfInBounds b o } := by
  simp [setObj, Sem.run, hb]

theorem run_look {t e : TypeId} (ht : P.underlying t = some (.map kt e)) {z : Value} (hz : ∀ w, (zeroValue e).run P w = .ok z w) (h : MapB K w b m) (k : κ) (ok : Bool) :
    (Instr.lookup t (.map (some b)) (K.enc k) ok).run P w = .ok (if ok then .tuple #[(mget m k).getD z, .bool (mget m k).isSome] else (mget m k).getD z) w := by
  obtain ⟨es, clock, hb, he⟩ := h
  have hf := findNow_eq K k m es.toList 0 he
  unfold mget
  cases hq : fnd k m 0 with
  | none =>
    rw [hq] at hf
    cases ok <;> simp [Instr.lookup, run_underlying ht, run_getMap hb, K.check, Instr.findKey, run_underlying K.und, hf, hz]
  | some q =>
    rw [hq] at hf
    cases ok <;> simp [Instr.lookup, run_underlying ht, run_getMap hb, K.check, Instr.findKey, run_underlying K.und, hf]

theorem run_store {t e : TypeId} (ht : P.underlying t = some (.map kt e)) (h : MapB K w b m) (k : κ) (v : Value) :
    ∃ w', (Instr.mapUpdate t (.map (some b)) (K.enc k) v).run P w = .ok () w' ∧ MapB K w' b (mput m k v) ∧ w.grownBy w' (some b) := by
  obtain ⟨es, clock, hb, he⟩ := h
  have hf := findNow_eq K k m es.toList 0 he
  unfold mput
  have hlt : b < w.heap.size := (Array.getElem?_eq_some_iff.1 hb).1
  cases hq : fnd k m 0 with
  | none =>
    rw [hq] at hf
    refine ⟨{ w with heap := w.heap.setIfInBounds b (.map (es.push { key := K.enc k, val := v, born := clock }) (clock + 1)) }, ?_, ?_, ?_⟩
    · simp [Instr.mapUpdate, run_underlying ht, run_getMap hb, K.check, Instr.findKey, run_underlying K.und, hf, run_setMap hb]
    · exact ⟨_, _, by simp [hlt]; exact ⟨rfl, rfl⟩, by simp [he]⟩
    · exact ⟨rfl, rfl, rfl, by simp, fun i _ hi => by simp only [Array.getElem?_setIfInBounds]; rw [if_neg (fun e => hi (by rw [e]))]⟩
  | some q =>
    obtain ⟨i, u⟩ := q
    rw [hq] at hf
    have hs := (fnd_some hq).2
    rw [Nat.sub_zero] at hs
    have hk : (es[i]?).map (·.key) = some (K.enc k) := by
      have := congrArg (fun l => l[i]?) he
      simp only [List.getElem?_map, hs, Option.map_some] at this
      rw [Array.getElem?_toList] at this
      cases hx : es[i]? with
      | none => rw [hx] at this; simp at this
      | some x => rw [hx] at this; simp at this; simp [this.1]
    refine ⟨{ w with heap := w.heap.setIfInBounds b (.map (es.modify i fun e => { e with key := K.enc k, val := v }) clock) }, ?_, ?_, ?_⟩
    · simp [Instr.mapUpdate, run_underlying ht, run_getMap hb, K.check, Instr.findKey, run_underlying K.und, hf, run_setMap hb, hk, K.stays]
    · refine ⟨_, _, by simp [hlt]; exact ⟨rfl, rfl⟩, ?_⟩
      apply List.ext_getElem?
      intro j
      have hj := congrArg (fun l => l[j]?) he
      simp only [List.getElem?_map] at hj ⊢
      rw [Array.getElem?_toList] at hj ⊢
      rw [Array.getElem?_modify, List.getElem?_set]
      by_cases e : i = j
      · subst e
        have hl : i < m.length := (List.getElem?_eq_some_iff.1 hs).1
        cases hx : es[i]? with
        | none => rw [hx] at hk; simp at hk
        | some x => simp [hl]
      · simp only [if_neg e]
        exact hj
    · exact ⟨rfl, rfl, rfl, by simp, fun i _ hi => by simp only [Array.getElem?_setIfInBounds]; rw [if_neg (fun e => hi (by rw [e]))]⟩

theorem MapB.lt (h : MapB K w b m) : b < w.heap.size := by
  obtain ⟨es, clock, hb, _⟩ := h
  exact (Array.getElem?_eq_some_iff.1 hb).1
theorem MapB.new (w : World) : MapB K (w.alloc (.map #[] 0)) w.heap.size [] := ⟨#[], 0, heap_alloc_new w _, rfl⟩
theorem MapB.keep {w' : World} (h : MapB K w b m) (he : w'.heap[b]? = w.heap[b]?) : MapB K w' b m := by
  obtain ⟨es, clock, hb, h2⟩ := h
  exact ⟨es, clock, he.trans hb, h2⟩
theorem MapB.alloc (h : MapB K w b m) (o : Obj) : MapB K (w.alloc o) b m := h.keep _ (Below.heap_alloc w o b (h.lt K))
theorem MapB.drew (h : MapB K w b m) : MapB K w.drew b m := h
theorem MapB.drewN (h : MapB K w b m) (n : Nat) : MapB K (w.drewN n) b m := h
theorem MapB.set (h : MapB K w b m) {g o : Nat} (hg : b ≠ g) (u : Value) : MapB K (w.setCell ⟨g, o, none⟩ u) b m := h.keep _ (Below.heap_setCell w ⟨g, o, none⟩ u b hg)
theorem MapB.below {w' : World} {B : Nat} (h : MapB K w b m) (hb : Below B w w') (hB : b < B) : MapB K w' b m := h.keep _ (hb.block b hB)
end

theorem check_int {P : Program} {kt : TypeId} {q : IntKind} (h : P.underlying kt = some (.int q)) (w : World) (em : Bool) (a : Int) (n : Nat) : (Instr.checkKey em (n + 1) kt (.int q a)).run P w = .ok () w := by
  simp [Instr.checkKey, run_underlying h]
theorem check_str {P : Program} {kt : TypeId} (h : P.underlying kt = some .string) (w : World) (em : Bool) (a : ByteArray) (n : Nat) : (Instr.checkKey em (n + 1) kt (.string a)).run P w = .ok () w := by
  simp [Instr.checkKey, run_underlying h]
theorem bits_int {q : IntKind} (a : Int) (n : Nat) : Instr.sameBits (n + 1) (.int q a) (.int q a) = true := by simp [Instr.sameBits]
theorem beq_bytes (a b : ByteArray) : (a == b) = decide (a = b) := by
  obtain ⟨x⟩ := a
  obtain ⟨y⟩ := b
  have e : ((⟨x⟩ : ByteArray) == ⟨y⟩) = (x == y) := rfl
  rw [e]
  by_cases h : x = y
  · subst h; simp
  · rw [decide_eq_false (fun k => h (by injection k)), beq_eq_false_iff_ne]; exact h
theorem bits_str (a : ByteArray) (n : Nat) : Instr.sameBits (n + 1) (.string a) (.string a) = true := by simp [Instr.sameBits, beq_bytes]
/-- Integers of a kind as keys. -/
def intKeys {P : Program} {kt : TypeId} {q : IntKind} (h : P.underlying kt = some (.int q)) : KeyKind Int P kt where
  enc := fun n => .int q n
  desc := .int q
  und := h
  same := fun a b => by simp [Instr.sameNow, Bool.beq_eq_decide_eq]
  check := fun w em a => check_int h w em a 9999
  stays := fun w a => by
    unfold Instr.keyThatStays
    rw [show Instr.sameBits 10000 (.int q a) (.int q a) = true from bits_int a 9999]
    simp
/-- Strings as keys. -/
def strKeys {P : Program} {kt : TypeId} (h : P.underlying kt = some .string) : KeyKind ByteArray P kt where
  enc := fun s => .string s
  desc := .string
  und := h
  same := fun a b => by simp [Instr.sameNow, beq_bytes]
  check := fun w em a => check_str h w em a 9999
  stays := fun w a => by
    unfold Instr.keyThatStays
    rw [show Instr.sameBits 10000 (.string a) (.string a) = true from bits_str a 9999]
    simp

end Go.Proofs.YtfickhncbahekaaDoor
