/- A map in a block, its entries stamped: a store of a new key in one step, or in two. No function of the program is named in this text. Conditions: the key is not there yet. -/
import Derived.Test.YtfickhncbahekaaDoorTunNum
namespace Go.Proofs.YtfickhncbahekaaDoor
open Go.RowKit

section
variable {κ : Type} [DecidableEq κ] {P : Program} {kt : TypeId} (K : KeyKind κ P kt)
/-- Stamps below a clock, none twice. -/
def Stp (l : List MapEntry) (c : Nat) : Prop := (∀ e ∈ l, e.born < c) ∧ (l.map (·.born)).Nodup
theorem Stp.push {l : List MapEntry} {st c : Nat} (h : Stp l st) (hc : st < c) (k v : Value) : Stp (l ++ [⟨k, v, st⟩]) c := by
  refine ⟨fun x hx => ?_, ?_⟩
  · rw [List.mem_append, List.mem_singleton] at hx
    rcases hx with hx | rfl
    · have := h.1 x hx; omega
    · exact hc
  · rw [List.map_append, List.nodup_append]
    refine ⟨h.2, by simp, fun a ha b hb => ?_⟩
    obtain ⟨e, he, rfl⟩ := List.mem_map.1 ha
    simp only [List.map_cons, List.map_nil, List.mem_singleton] at hb
    have := h.1 e he
    omega
/-- Block b is a map with just these entries, each stamped earlier than the map's clock. -/
def MapC (w : World) (b : Nat) (m : List (κ × Value)) : Prop :=
  ∃ (es : Array MapEntry) (clock : Nat), w.heap[b]? = some (.map es clock) ∧ es.toList.map (fun e => (e.key, e.val)) = m.map (fun p => (K.enc p.1, p.2)) ∧ Stp es.toList clock
/-- The same, and behind them an entry that is made, but not stored yet: its stamp. -/
def MapE (w : World) (b : Nat) (m : List (κ × Value)) (k : κ) (st : Nat) : Prop :=
  ∃ (es : Array MapEntry) (clock : Nat) (z : Value), w.heap[b]? = some (.map (es.push ⟨K.enc k, z, st⟩) clock) ∧ es.toList.map (fun e => (e.key, e.val)) = m.map (fun p => (K.enc p.1, p.2)) ∧ Stp es.toList st ∧ st < clock
/-- How many entries block b has. -/
def mlen (w : World) (b : Nat) : Nat := match w.heap[b]? with | some (.map es _) => es.size | _ => 0
variable {K}
variable {w w' : World} {b : Nat} {m : List (κ × Value)} {k : κ} {st : Nat}
theorem MapC.mapB (h : MapC K w b m) : MapB K w b m := by
  obtain ⟨es, c, h1, h2, _⟩ := h
  exact ⟨es, c, h1, h2⟩
theorem MapC.mlen (h : MapC K w b m) : mlen w b = m.length := by
  obtain ⟨es, c, h1, h2, _⟩ := h
  unfold Proofs.YtfickhncbahekaaDoor.mlen
  rw [h1]
  have := congrArg List.length h2
  simpa using this
theorem MapC.lt (h : MapC K w b m) : b < w.heap.size := h.mapB.lt K
theorem MapC.new (w : World) : MapC K (w.alloc (.map #[] 0)) w.heap.size [] := ⟨#[], 0, heap_alloc_new w _, rfl, fun _ h => by simp at h, by simp⟩
theorem MapC.keep (h : MapC K w b m) (he : w'.heap[b]? = w.heap[b]?) : MapC K w' b m := by
  obtain ⟨es, c, h1, h2, h3⟩ := h
  exact ⟨es, c, he.trans h1, h2, h3⟩
theorem MapC.alloc (h : MapC K w b m) (o : Obj) : MapC K (w.alloc o) b m := h.keep (Below.heap_alloc w o b h.lt)
theorem MapC.drew (h : MapC K w b m) : MapC K w.drew b m := h
theorem MapC.set (h : MapC K w b m) {g o : Nat} (hg : b ≠ g) (u : Value) : MapC K (w.setCell ⟨g, o, none⟩ u) b m := h.keep (Below.heap_setCell w ⟨g, o, none⟩ u b hg)
theorem MapC.below {B : Nat} (h : MapC K w b m) (hb : Below B w w') (hB : b < B) : MapC K w' b m := h.keep (hb.block b hB)
theorem MapC.step (h : MapC K w b m) (hb : Below w.heap.size w w') : MapC K w' b m := h.below hb h.lt
theorem MapC.grown (h : MapC K w b m) {row : Option Nat} (hg : w.grownBy w' row) (hr : some b ≠ row) : MapC K w' b m := h.keep (hg.block b h.lt hr)
theorem MapE.lt (h : MapE K w b m k st) : b < w.heap.size := by
  obtain ⟨es, c, z, h1, _⟩ := h
  exact (Array.getElem?_eq_some_iff.1 h1).1
theorem MapE.keep (h : MapE K w b m k st) (he : w'.heap[b]? = w.heap[b]?) : MapE K w' b m k st := by
  obtain ⟨es, c, z, h1, h2⟩ := h
  exact ⟨es, c, z, he.trans h1, h2⟩
theorem MapE.grown (h : MapE K w b m k st) {row : Option Nat} (hg : w.grownBy w' row) (hr : some b ≠ row) : MapE K w' b m k st := h.keep (hg.block b h.lt hr)

theorem fnd_none_of (h : mget m k = none) : fnd k m 0 = none := by
  unfold mget at h
  cases hq : fnd k m 0 with
  | none => rfl
  | some q => rw [hq] at h; cases h
theorem grown_set {es es' : Array MapEntry} {c c' : Nat} (_hb : w.heap[b]? = some (.map es c)) : w.grownBy { w with heap := w.heap.setIfInBounds b (.map es' c') } (some b) :=
  ⟨rfl, rfl, rfl, by simp, fun i _ hi => by simp only [Array.getElem?_setIfInBounds]; rw [if_neg (fun e => hi (by rw [e]))]⟩
/-- A store of a new key. -/
theorem run_store_new {t e : TypeId} (ht : P.underlying t = some (.map kt e)) (h : MapC K w b m) (hk : mget m k = none) (v : Value) :
    ∃ w', (Instr.mapUpdate t (.map (some b)) (K.enc k) v).run P w = .ok () w' ∧ MapC K w' b (m ++ [(k, v)]) ∧ w.grownBy w' (some b) ∧ w'.heap.size = w.heap.size := by
  obtain ⟨es, clock, hb, he, hs⟩ := h
  have hf := findNow_eq K k m es.toList 0 he
  rw [fnd_none_of hk] at hf
  have hlt : b < w.heap.size := (Array.getElem?_eq_some_iff.1 hb).1
  refine ⟨{ w with heap := w.heap.setIfInBounds b (.map (es.push { key := K.enc k, val := v, born := clock }) (clock + 1)) }, ?_, ?_, grown_set hb, by simp⟩
  · simp [Instr.mapUpdate, run_underlying ht, run_getMap hb, K.check, Instr.findKey, run_underlying K.und, hf, run_setMap hb]
  · refine ⟨_, _, by simp [hlt]; exact ⟨rfl, rfl⟩, by simp [he], ?_⟩
    rw [Array.toList_push]
    exact hs.push (Nat.lt_succ_self _) _ _
/-- A new key's entry. -/
theorem run_entry_new {t e : TypeId} (ht : P.underlying t = some (.map kt e)) {z : Value} (hz : ∀ w, (zeroValue e).run P w = .ok z w) (h : MapC K w b m) (hk : mget m k = none) :
    ∃ (st : Nat) (w' : World), (Instr.mapEntry t (.map (some b)) (K.enc k)).run P w = .ok (.tuple #[z, .int .i64 (st : Int)]) w' ∧ MapE K w' b m k st ∧ w.grownBy w' (some b) ∧ w'.heap.size = w.heap.size := by
  obtain ⟨es, clock, hb, he, hs⟩ := h
  have hf := findNow_eq K k m es.toList 0 he
  rw [fnd_none_of hk] at hf
  have hlt : b < w.heap.size := (Array.getElem?_eq_some_iff.1 hb).1
  refine ⟨clock, { w with heap := w.heap.setIfInBounds b (.map (es.push { key := K.enc k, val := z, born := clock }) (clock + 1)) }, ?_, ?_, grown_set hb, by simp⟩
  · simp [Instr.mapEntry, run_underlying ht, run_getMap hb, K.check, Instr.findKey, run_underlying K.und, hf, run_setMap hb, hz, goInt]
  · exact ⟨es, clock + 1, z, by simp [hlt], he, hs, by omega⟩
theorem find_last (es : List MapEntry) (x : MapEntry) (h : ∀ e ∈ es, e.born < x.born) : (es ++ [x]).findIdx? (fun e => ((e.born : Nat) : Int) == ((x.born : Nat) : Int)) = some es.length := by
  induction es with
  | nil => simp
  | cons a r ih =>
    rw [List.cons_append, List.findIdx?_cons, ih (fun e he => h e (List.mem_cons_of_mem _ he))]
    have := h a (List.mem_cons_self ..)
    rw [if_neg (by simp; omega)]
    simp
/-- The store into a new key's entry. -/
theorem run_estore {t : TypeId} (h : MapE K w b m k st) (v : Value) :
    ∃ w', (Instr.entryStore t (.map (some b)) (.int .i64 (st : Int)) v).run P w = .ok () w' ∧ MapC K w' b (m ++ [(k, v)]) ∧ w.grownBy w' (some b) ∧ w'.heap.size = w.heap.size := by
  obtain ⟨es, clock, z, hb, he, hs, hst⟩ := h
  have hlt : b < w.heap.size := (Array.getElem?_eq_some_iff.1 hb).1
  have hidx : (es.push ⟨K.enc k, z, st⟩).findIdx? (fun e => ((e.born : Nat) : Int) == ((st : Nat) : Int)) = some es.size := by
    have := find_last es.toList ⟨K.enc k, z, st⟩ hs.1
    have e : ∀ (xs : Array MapEntry) (p : MapEntry → Bool), xs.findIdx? p = xs.toList.findIdx? p := fun xs p => by cases xs; simp
    rw [e, Array.toList_push, this]
    simp
  have hmod : (es.push ⟨K.enc k, z, st⟩).modify es.size (fun e => { e with val := v }) = es.push ⟨K.enc k, v, st⟩ := by
    apply Array.ext'
    rw [Array.toList_modify, Array.toList_push, Array.toList_push, ← Array.length_toList]
    generalize es.toList = l
    induction l with
    | nil => rfl
    | cons a r ih => simpa [List.modify_succ_cons] using ih
  refine ⟨{ w with heap := w.heap.setIfInBounds b (.map (es.push ⟨K.enc k, v, st⟩) clock) }, ?_, ?_, grown_set hb, by simp⟩
  · simp [Instr.entryStore, run_getMap hb, asInt, asIntOf, hidx, hmod, run_setMap hb]
  · refine ⟨_, _, by simp [hlt]; exact ⟨rfl, rfl⟩, by simp [he], ?_⟩
    rw [Array.toList_push]
    exact hs.push hst _ _
end

/-- Entries with ints for keys. -/
def ents {β : Type} (enc : β → Value) (m : List (Int × β)) : List (Int × Value) := m.map fun p => (p.1, enc p.2)
theorem ents_get {β : Type} (enc : β → Value) (k : Int) (m : List (Int × β)) : mget (ents enc m) k = (lkz k m).map enc := mget_lkz enc k m
theorem ents_snoc {β : Type} (enc : β → Value) (m : List (Int × β)) (k : Int) (v : β) : ents enc m ++ [(k, enc v)] = ents enc (m ++ [(k, v)]) := by simp [ents]

end Go.Proofs.YtfickhncbahekaaDoor
