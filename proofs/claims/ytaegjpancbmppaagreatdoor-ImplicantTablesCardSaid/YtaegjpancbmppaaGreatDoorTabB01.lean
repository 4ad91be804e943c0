/- Part 1 of 33 of the proof of the law: contracts of the functions that it reaches, and plain facts. Conditions: those that each contract names. -/
import Derived.WalkKit
import Derived.WalkSpells
import Derived.WalkLawsBesides
import Derived.Laws.OwnMore
import Derived.Laws.Rows
import Derived.Lib.Hide
import Derived.Laws.IdiomStrings
set_option linter.unusedVariables false
set_option linter.unusedSimpArgs false
namespace Go.Proofs.YtaegjpancbmppaaGreatDoor
open Go.RowKit
def Rd {α : Type} (enc : α → Value) (w : World) (Bd : Nat) (A : Option Addr) (L : List α) : Prop :=
 0 < L.length → ∃ b off, A = some ⟨b, off, none⟩ ∧ b < Bd ∧ ∀ i (h : i < L.length), w.cell? ⟨b, off + i, none⟩ = some (enc L[i])
section
variable {α : Type} {enc : α → Value} {w w' : World} {Bd Bd' : Nat} {A : Option Addr} {L : List α}
theorem Rd.nil : Rd enc w Bd A [] := fun h => absurd h (by simp)
theorem Rd.keep (h : Rd enc w Bd A L) (hk : ∀ b o, b < Bd → w'.cell? ⟨b, o, none⟩ = w.cell? ⟨b, o, none⟩) : Rd enc w' Bd A L := fun hl => by
 obtain ⟨b, off, rfl, hb, hc⟩ := h hl
 exact ⟨b, off, rfl, hb, fun i hi => (hk _ _ hb).trans (hc i hi)⟩
theorem Rd.below (h : Rd enc w Bd A L) (hb : Below Bd w w') : Rd enc w' Bd A L := h.keep fun b o hp => hb.cell (p := ⟨b, o, none⟩) hp
theorem Rd.more (h : Rd enc w Bd A L) (hB : Bd ≤ Bd') : Rd enc w Bd' A L := fun hl => by
 obtain ⟨b, off, rfl, hb, hc⟩ := h hl
 exact ⟨b, off, rfl, by omega, hc⟩
theorem Rd.at_ (h : Rd enc w Bd A L) (hl : 0 < L.length) : ∃ b off, A = some ⟨b, off, none⟩ ∧ b < Bd ∧ ∀ i (h : i < L.length), w.cell? ⟨b, off + i, none⟩ = some (enc L[i]) := h hl
end
def Blk (w : World) (g : Nat) (t : TypeId) (cs : List Value) : Prop := w.heap[g]? = some (.cells cs.toArray t (0, 0))
section
variable {w w' : World} {g : Nat} {t : TypeId} {cs : List Value}
theorem Blk.lt (h : Blk w g t cs) : g < w.heap.size := by
 rcases Nat.lt_or_ge g w.heap.size with hlt | hge
 ·exact hlt
 ·unfold Blk at h; rw [Array.getElem?_eq_none hge] at h; cases h
theorem Blk.cell (h : Blk w g t cs) (i : Nat) : w.cell? ⟨g, i, none⟩ = cs[i]? := by
 rw [cell_of_row w g i cs.toArray t (0, 0) h]; simp
theorem Blk.frozen (h : Blk w g t cs) (i : Nat) : w.frozen? ⟨g, i, none⟩ = false := by
 unfold Blk at h
 simp [World.frozen?, h]
theorem Blk.alloc (h : Blk w g t cs) (o : Obj) : Blk (w.alloc o) g t cs := (Below.heap_alloc w o g h.lt).trans h
theorem Blk.put (h : Blk w g t cs) (i : Nat) (u : Value) : Blk (w.setCell ⟨g, i, none⟩ u) g t (cs.set i u) := by
 unfold Blk at h ⊢
 simp [World.setCell, Array.getElem?_modify, h]
theorem Blk.far (h : Blk w g t cs) {p : Addr} (hp : g ≠ p.block) (u : Value) : Blk (w.setCell p u) g t cs := (Below.heap_setCell w p u g hp).trans h
theorem Blk.below {B : Nat} (h : Blk w g t cs) (hb : Below B w w') (hg : g < B) : Blk w' g t cs := (hb.block g hg).trans h
theorem Blk.rd {α : Type} {enc : α → Value} {L : List α} (h : Blk w g t (L.map enc)) : Rd enc w w.heap.size (some ⟨g, 0, none⟩) L := fun _ =>
 ⟨g, 0, rfl, h.lt, fun i hi => by rw [h.cell]; simp [hi]⟩
end
theorem Rd.of_own {α : Type} {enc : α → Value} {w : World} {base : Nat} {e : TypeId} {A : Option Addr} {n m c : Nat} {L : List α} (h : w.ownsRow base e 1 (.slice A n c) m (L.map enc)) (hn : m = L.length) : Rd enc w w.heap.size A L := fun hl => by
 rcases h.2 with ⟨hv, h0⟩ | ⟨g, cap, cur, hv, hb, hg, hnc, _, hs, ht⟩
 ·omega
 ·injection hv with h1 h2 h3
  subst h1
  refine ⟨g, 0, rfl, ?_, fun i hi => ?_⟩
  ·rcases Nat.lt_or_ge g w.heap.size with hlt | hge
   ·exact hlt
   ·rw [Array.getElem?_eq_none hge] at hg; cases hg
  ·have h2 : (cur.toList.take (m * 1))[i]? = (L.map enc)[i]? := by rw [ht]
   rw [List.getElem?_take, if_pos (by omega)] at h2
   rw [cell_of_row w g _ cur e (0, 0) hg, Nat.zero_add]
   simpa [hi] using h2
theorem own_form {w : World} {base : Nat} {e : TypeId} {size n : Nat} {v : Value} {xs : List Value} (h : w.ownsRow base e size v n xs) (hn : 0 < n) : ∃ g cap, v = .slice (some ⟨g, 0, none⟩) n cap ∧ n ≤ cap := by
 rcases h.2 with ⟨_, h0⟩ | ⟨g, cap, cur, hv, _, _, hnc, _⟩
 ·omega
 ·exact ⟨g, cap, hv, hnc⟩
theorem own_cap {w : World} {base : Nat} {e : TypeId} {size n c m : Nat} {A : Option Addr} {xs : List Value} (h : w.ownsRow base e size (.slice A n c) m xs) : n ≤ c := by
 rcases h.2 with ⟨hv, h0⟩ | ⟨g, cap, cur, hv, _, _, hnc, _⟩
 ·injection hv; omega
 ·injection hv; omega
theorem below_drewN (B : Nat) (w : World) (k : Nat) : Below B w (w.drewN k) := ⟨rfl, rfl, rfl, Nat.le_refl _, fun _ _ => rfl⟩
theorem bw_new {a w : World} (h : Below a.heap.size a w) (o : Obj) : Below a.heap.size a (w.alloc o) := h.alloc h.size o
theorem bw_set {B : Nat} {a w : World} {b o : Nat} (h : Below B a w) (hb : B ≤ b) (u : Value) : Below B a (w.setCell ⟨b, o, none⟩ u) := h.setCell (p := ⟨b, o, none⟩) hb u
theorem bw_drew {B : Nat} {a w : World} (h : Below B a w) : Below B a w.drew := h.drew
def lenOf : Value → Nat | .slice _ n _ => n | _ => 0
end Go.Proofs.YtaegjpancbmppaaGreatDoor
namespace Go.Proofs.YtaegjpancbmppaaGreatDoor
open Go.RowKit
def Two (w : World) (b : Nat) (x y : Int) : Prop :=
 w.cell? ⟨b, 0, none⟩ = some (.int .i64 x) ∧ w.cell? ⟨b, 1, none⟩ = some (.int .i64 y) ∧ w.frozen? ⟨b, 0, none⟩ = false ∧ w.frozen? ⟨b, 1, none⟩ = false ∧ b < w.heap.size
end Go.Proofs.YtaegjpancbmppaaGreatDoor
namespace Go.Proofs.YtaegjpancbmppaaGreatDoor
open Go.RowKit
def adn (a b : Nat) : Nat := a ^^^ (a &&& b)
theorem adn_bit (a b i : Nat) : (adn a b).testBit i = (a.testBit i && !b.testBit i) := by
 unfold adn; rw [Nat.testBit_xor, Nat.testBit_and]; cases a.testBit i <;> cases b.testBit i <;> rfl
theorem adn_le (a b : Nat) : adn a b ≤ a := by
 apply Nat.le_of_testBit
 intro i h
 rw [adn_bit] at h
 exact (Bool.and_eq_true_iff.1 h).1
theorem i64_nat {x : Nat} (h : x < 9223372036854775808) : IntKind.i64.wrap (x : Int) = (x : Int) := IntWalk.i64_in _ (by omega)
theorem bv_nat (a : Nat) (h : a < 18446744073709551616) : (BitVec.ofInt 64 (a : Int)).toNat = a := by
 rw [BitVec.ofInt_natCast, BitVec.toNat_ofNat]; exact Nat.mod_eq_of_lt h
theorem and_i64 {a b : Nat} (ha : a < 9223372036854775808) (hb : b < 9223372036854775808) : bits .and .i64 (a : Int) (b : Int) = ((a &&& b : Nat) : Int) := by
 have h : bits .and .i64 (a : Int) (b : Int) = IntKind.i64.wrap (((BitVec.ofInt 64 (a : Int) &&& BitVec.ofInt 64 (b : Int)).toNat : Nat) : Int) := rfl
 rw [h, BitVec.toNat_and, bv_nat a (by omega), bv_nat b (by omega)]
 exact i64_nat (Nat.lt_of_le_of_lt Nat.and_le_left ha)
theorem xor_i64 {a b : Nat} (ha : a < 9223372036854775808) (hb : b < 9223372036854775808) : bits .xor .i64 (a : Int) (b : Int) = ((a ^^^ b : Nat) : Int) := by
 have h : bits .xor .i64 (a : Int) (b : Int) = IntKind.i64.wrap (((BitVec.ofInt 64 (a : Int) ^^^ BitVec.ofInt 64 (b : Int)).toNat : Nat) : Int) := rfl
 rw [h, BitVec.toNat_xor, bv_nat a (by omega), bv_nat b (by omega)]
 exact i64_nat (Nat.xor_lt_two_pow (n := 63) ha hb)
theorem bv_adn (a b : Nat) (ha : a < 18446744073709551616) (hb : b < 18446744073709551616) : (BitVec.ofInt 64 (a : Int) &&& ~~~BitVec.ofInt 64 (b : Int)).toNat = adn a b := by
 apply Nat.eq_of_testBit_eq
 intro i
 rw [BitVec.testBit_toNat, BitVec.getLsbD_and, BitVec.getLsbD_not, adn_bit, ← BitVec.testBit_toNat, ← BitVec.testBit_toNat, bv_nat a ha, bv_nat b hb]
 by_cases hi : i < 64
 ·simp [hi]
 ·have : a.testBit i = false := Nat.testBit_lt_two_pow (Nat.lt_of_lt_of_le ha (Nat.pow_le_pow_right (n := 2) (by decide) (show 64 ≤ i by omega)))
  simp [this]
theorem adn_i64 {a b : Nat} (ha : a < 9223372036854775808) (hb : b < 9223372036854775808) : bits .andNot .i64 (a : Int) (b : Int) = ((adn a b : Nat) : Int) := by
 have h : bits .andNot .i64 (a : Int) (b : Int) = IntKind.i64.wrap (((BitVec.ofInt 64 (a : Int) &&& ~~~BitVec.ofInt 64 (b : Int)).toNat : Nat) : Int) := rfl
 rw [h, bv_adn a b (by omega) (by omega)]
 exact i64_nat (Nat.lt_of_le_of_lt (adn_le a b) ha)
theorem u64_nat {x : Nat} (h : x < 18446744073709551616) : IntKind.u64.wrap (x : Int) = (x : Int) := by
 simp only [IntKind.wrap, IntKind.signed, IntKind.bits]
 simp
 omega
theorem and_u64 {a b : Nat} (ha : a < 18446744073709551616) (hb : b < 18446744073709551616) : bits .and .u64 (a : Int) (b : Int) = ((a &&& b : Nat) : Int) := by
 have h : bits .and .u64 (a : Int) (b : Int) = IntKind.u64.wrap (((BitVec.ofInt 64 (a : Int) &&& BitVec.ofInt 64 (b : Int)).toNat : Nat) : Int) := rfl
 rw [h, BitVec.toNat_and, bv_nat a ha, bv_nat b hb]
 exact u64_nat (Nat.lt_of_le_of_lt Nat.and_le_left ha)
theorem or_u64 {a b : Nat} (ha : a < 18446744073709551616) (hb : b < 18446744073709551616) : bits .or .u64 (a : Int) (b : Int) = ((a ||| b : Nat) : Int) := by
 have h : bits .or .u64 (a : Int) (b : Int) = IntKind.u64.wrap (((BitVec.ofInt 64 (a : Int) ||| BitVec.ofInt 64 (b : Int)).toNat : Nat) : Int) := rfl
 rw [h, BitVec.toNat_or, bv_nat a ha, bv_nat b hb]
 exact u64_nat (Nat.or_lt_two_pow (n := 64) ha hb)
theorem adn_u64 {a b : Nat} (ha : a < 18446744073709551616) (hb : b < 18446744073709551616) : bits .andNot .u64 (a : Int) (b : Int) = ((adn a b : Nat) : Int) := by
 have h : bits .andNot .u64 (a : Int) (b : Int) = IntKind.u64.wrap (((BitVec.ofInt 64 (a : Int) &&& ~~~BitVec.ofInt 64 (b : Int)).toNat : Nat) : Int) := rfl
 rw [h, bv_adn a b ha hb]
 exact u64_nat (Nat.lt_of_le_of_lt (adn_le a b) ha)
end Go.Proofs.YtaegjpancbmppaaGreatDoor
namespace Go.Proofs.YtaegjpancbmppaaGreatDoor
open Go.RowKit
def wd (M k : Nat) : Nat := (M >>> (64 * k)) % 2 ^ 64
theorem wd_lt (M k : Nat) : wd M k < 18446744073709551616 := Nat.mod_lt _ (by decide)
theorem wd_bit (M k i : Nat) : (wd M k).testBit i = (decide (i < 64) && M.testBit (64 * k + i)) := by
 unfold wd; rw [Nat.testBit_mod_two_pow, Nat.testBit_shiftRight]
theorem wd_zero (k : Nat) : wd 0 k = 0 := by unfold wd; rw [Nat.zero_shiftRight]
theorem wd_or (M N k : Nat) : wd (M ||| N) k = wd M k ||| wd N k := by
 apply Nat.eq_of_testBit_eq; intro i
 rw [Nat.testBit_or, wd_bit, wd_bit, wd_bit, Nat.testBit_or]
 cases decide (i < 64) <;> simp
theorem wd_and (M N k : Nat) : wd (M &&& N) k = wd M k &&& wd N k := by
 apply Nat.eq_of_testBit_eq; intro i
 rw [Nat.testBit_and, wd_bit, wd_bit, wd_bit, Nat.testBit_and]
 cases decide (i < 64) <;> simp
theorem wd_adn (M N k : Nat) : wd (adn M N) k = adn (wd M k) (wd N k) := by
 apply Nat.eq_of_testBit_eq; intro i
 rw [adn_bit, wd_bit, wd_bit, wd_bit, adn_bit]
 cases decide (i < 64) <;> simp
theorem wd_nil {M : Nat} (h : M < 2 ^ 256) : wd M 0 ||| wd M 1 ||| wd M 2 ||| wd M 3 = 0 ↔ M = 0 := by
 constructor
 ·intro e
  apply Nat.eq_of_testBit_eq; intro i
  rw [Nat.zero_testBit]
  have hb : ∀ k, k < 4 → ∀ j, j < 64 → M.testBit (64 * k + j) = false := by
   intro k hk j hj
   have e' := congrArg (fun x => x.testBit j) e
   simp only [Nat.testBit_or, Nat.zero_testBit, wd_bit, hj, decide_true, Bool.true_and, Bool.or_eq_false_iff] at e'
   rcases (show k = 0 ∨ k = 1 ∨ k = 2 ∨ k = 3 by omega) with rfl | rfl | rfl | rfl
   ·exact e'.1.1.1
   ·exact e'.1.1.2
   ·exact e'.1.2
   ·exact e'.2
  by_cases hi : i < 256
  ·have := hb (i / 64) (by omega) (i % 64) (Nat.mod_lt _ (by decide))
   rwa [Nat.div_add_mod] at this
  ·exact Nat.testBit_lt_two_pow (Nat.lt_of_lt_of_le h (Nat.pow_le_pow_right (n := 2) (by decide) (by omega)))
 ·rintro rfl
  simp only [wd_zero]; rfl
theorem adn_lt {M N : Nat} (h : M < 2 ^ 256) : adn M N < 2 ^ 256 := Nat.lt_of_le_of_lt (adn_le M N) h
theorem and_lt {M N : Nat} (h : M < 2 ^ 256) : M &&& N < 2 ^ 256 := Nat.lt_of_le_of_lt Nat.and_le_left h
theorem bit_lt {r : Nat} (h : r < 256) : 2 ^ r < 2 ^ 256 := Nat.pow_lt_pow_right (by decide) h
theorem or_lt {M N : Nat} (h : M < 2 ^ 256) (k : N < 2 ^ 256) : M ||| N < 2 ^ 256 := Nat.or_lt_two_pow h k
theorem two_bit (r i : Nat) : (2 ^ r).testBit i = decide (r = i) := by rw [Nat.testBit_two_pow]
theorem wd_add (M r k : Nat) : wd (M ||| 2 ^ r) k = if k = r / 64 then wd M k ||| 2 ^ (r % 64) else wd M k := by
 apply Nat.eq_of_testBit_eq; intro i
 by_cases hk : k = r / 64
 ·rw [if_pos hk, wd_or, Nat.testBit_or, Nat.testBit_or]
  congr 1
  rw [wd_bit, two_bit, two_bit, hk]
  by_cases hi : i < 64
  ·have e : (r = 64 * (r / 64) + i) ↔ (r % 64 = i) := by omega
   simp [hi, e]
  ·have : ¬ r % 64 = i := by omega
   simp [hi, this]
 ·rw [if_neg hk, wd_or, Nat.testBit_or]
  have : (wd (2 ^ r) k).testBit i = false := by
   rw [wd_bit, two_bit]
   by_cases hi : i < 64
   ·have : ¬ r = 64 * k + i := by omega
    simp [this]
   ·simp [hi]
  rw [this, Bool.or_false]
theorem wd_has (M r : Nat) : ((wd M (r / 64) / 2 ^ (r % 64)) &&& 1 = 1) ↔ M.testBit r = true := by
 have h : (wd M (r / 64)).testBit (r % 64) = M.testBit r := by
  rw [wd_bit, Nat.div_add_mod, decide_eq_true (Nat.mod_lt r (by decide : 0 < 64)), Bool.true_and]
 rw [← h, Nat.and_one_is_mod, Nat.testBit_eq_decide_div_mod_eq, decide_eq_true_iff]
def rowM : List Nat → Nat
 | [] => 0
 | r :: l => 2 ^ r ||| rowM l
theorem rowM_bit (l : List Nat) (i : Nat) : (rowM l).testBit i = decide (i ∈ l) := by
 induction l with
 | nil => simp [rowM]
 | cons r l ih =>
  rw [rowM, Nat.testBit_or, ih, two_bit]
  by_cases h : r = i
  ·subst h; simp
  ·have : ¬ i = r := fun e => h e.symm
   simp [h, this]
theorem rowM_lt {l : List Nat} (h : ∀ r ∈ l, r < 256) : rowM l < 2 ^ 256 := by
 induction l with
 | nil => exact Nat.two_pow_pos 256
 | cons r l ih => exact or_lt (bit_lt (h r (List.mem_cons_self ..))) (ih fun x hx => h x (List.mem_cons_of_mem _ hx))
theorem rowM_append (l : List Nat) (r : Nat) : rowM (l ++ [r]) = rowM l ||| 2 ^ r := by
 apply Nat.eq_of_testBit_eq; intro i
 rw [Nat.testBit_or, rowM_bit, rowM_bit, two_bit]
 by_cases h : r = i
 ·subst h; simp
 ·have : ¬ i = r := fun e => h e.symm
  simp [h, this]
theorem adn_nil {M N : Nat} : adn M N = 0 ↔ ∀ i, M.testBit i = true → N.testBit i = true := by
 constructor
 ·intro e i hi
  have := congrArg (fun x => x.testBit i) e
  simp only [adn_bit, Nat.zero_testBit, hi, Bool.true_and] at this
  simpa using this
 ·intro h
  apply Nat.eq_of_testBit_eq; intro i
  rw [adn_bit, Nat.zero_testBit]
  cases hm : M.testBit i with
  | false => rfl
  | true => rw [h i hm]; rfl
def setL (M : Nat) : List Value := [.int .u64 (wd M 0 : Nat), .int .u64 (wd M 1 : Nat), .int .u64 (wd M 2 : Nat), .int .u64 (wd M 3 : Nat)]
end Go.Proofs.YtaegjpancbmppaaGreatDoor
namespace Go.Proofs.YtaegjpancbmppaaGreatDoor
open Go.RowKit
theorem eq_of_strict {α : Type} {lt : α → α → Prop} (irr : ∀ a, ¬ lt a a) (asym : ∀ a b, lt a b → ¬ lt b a) : ∀ l1 l2 : List α, l1.Pairwise lt → l2.Pairwise lt → (∀ x, x ∈ l1 ↔ x ∈ l2) → l1 = l2
 | [], [], _, _, _ => rfl
 | [], b :: m, _, _, h => absurd ((h b).2 (List.mem_cons_self ..)) (by simp)
 | a :: l, [], _, _, h => absurd ((h a).1 (List.mem_cons_self ..)) (by simp)
 | a :: l, b :: m, h1, h2, h => by
  obtain ⟨ha, k1⟩ := List.pairwise_cons.1 h1
  obtain ⟨hb, k2⟩ := List.pairwise_cons.1 h2
  have hab : a = b := by
   rcases List.mem_cons.1 ((h a).1 (List.mem_cons_self ..)) with e | e
   ·exact e
   ·rcases List.mem_cons.1 ((h b).2 (List.mem_cons_self ..)) with e' | e'
    ·exact e'.symm
    ·exact absurd (ha b e') (asym _ _ (hb a e))
  subst hab
  congr 1
  refine eq_of_strict irr asym l m k1 k2 fun x => ⟨fun hx => ?_, fun hx => ?_⟩
  ·rcases List.mem_cons.1 ((h x).1 (List.mem_cons_of_mem _ hx)) with e | e
   ·subst e; exact absurd (ha _ hx) (irr _)
   ·exact e
  ·rcases List.mem_cons.1 ((h x).2 (List.mem_cons_of_mem _ hx)) with e | e
   ·subst e; exact absurd (hb _ hx) (irr _)
   ·exact e
def cRows (n c v : Nat) : List Nat := (List.range (2 ^ n)).filter fun r => r &&& c == v
def cM (n c v : Nat) : Nat := rowM (cRows n c v)
theorem cRows_mem {n c v r : Nat} : r ∈ cRows n c v ↔ r < 2 ^ n ∧ r &&& c = v := by
 unfold cRows; rw [List.mem_filter, List.mem_range, beq_iff_eq]
theorem pow_le8 {n : Nat} (h : n ≤ 8) : 2 ^ n ≤ 256 := by
 have := Nat.pow_le_pow_right (n := 2) (by decide) h
 simpa using this
theorem cM_lt {n c v : Nat} (h : n ≤ 8) : cM n c v < 2 ^ 256 := rowM_lt fun r hr => Nat.lt_of_lt_of_le (cRows_mem.1 hr).1 (pow_le8 h)
def impB (n may c v : Nat) : Bool := adn (cM n c v) may == 0
def prP (n on may c v : Nat) : Prop := impB n may c v = true ∧ cM n c v &&& on ≠ 0 ∧ ∀ i, i < 8 → c.testBit i = true → impB n may (adn c (2 ^ i)) (adn v (2 ^ i)) = false
instance (n on may c v : Nat) : Decidable (prP n on may c v) := by unfold prP; infer_instance
def prV (n on may c : Nat) : List Nat := (List.range (c + 1)).filter fun v => decide (adn v c = 0 ∧ prP n on may c v)
def prF (n on may : Nat) : List (Nat × Nat) := (List.range (2 ^ n)).flatMap fun c => (prV n on may c).map fun v => (c, v)
def popc (c : Nat) : Nat := (List.range 8).countP fun i => c.testBit i
def prS (n on may : Nat) : List (Nat × Nat) := (List.range (n + 1)).flatMap fun k => (List.range (2 ^ n)).flatMap fun c => if popc c = k then (prV n on may c).map fun v => (c, v) else []
def cLt (a b : Nat × Nat) : Prop := popc a.1 < popc b.1 ∨ popc a.1 = popc b.1 ∧ (a.1 < b.1 ∨ a.1 = b.1 ∧ a.2 < b.2)
theorem cLt_irr (a : Nat × Nat) : ¬ cLt a a := by unfold cLt; omega
theorem cLt_asym (a b : Nat × Nat) : cLt a b → ¬ cLt b a := by unfold cLt; omega
theorem cLt_tri {a b : Nat × Nat} (h : ¬ cLt b a) (hne : a ≠ b) : cLt a b := by
 unfold cLt at h ⊢
 have : ¬ (a.1 = b.1 ∧ a.2 = b.2) := fun k => hne (Prod.ext k.1 k.2)
 omega
theorem prF_mem {n on may : Nat} {x : Nat × Nat} : x ∈ prF n on may ↔ x.1 < 2 ^ n ∧ x.2 ∈ prV n on may x.1 := by
 unfold prF
 simp only [List.mem_flatMap, List.mem_range, List.mem_map]
 constructor
 ·rintro ⟨c, hc, v, hv, rfl⟩; exact ⟨hc, hv⟩
 ·rintro ⟨h1, h2⟩; exact ⟨x.1, h1, x.2, h2, rfl⟩
theorem popc_le (n c : Nat) (h : c < 2 ^ n) (hn : n ≤ 8) : popc c ≤ n := by
 unfold popc
 have hs : (List.range 8).countP (fun i => c.testBit i) = (List.range n ++ (List.range (8 - n)).map (fun i => n + i)).countP (fun i => c.testBit i) := by
  rw [← List.range_add]; congr 2; omega
 rw [hs, List.countP_append]
 have h0 : ((List.range (8 - n)).map (fun i => n + i)).countP (fun i => c.testBit i) = 0 := by
  rw [List.countP_eq_zero]
  intro i hi
  obtain ⟨j, _, rfl⟩ := List.mem_map.1 hi
  rw [Nat.testBit_lt_two_pow (Nat.lt_of_lt_of_le h (Nat.pow_le_pow_right (n := 2) (by decide) (show n ≤ n + j by omega)))]
  simp
 rw [h0]
 have := List.countP_le_length (p := fun i => c.testBit i) (l := List.range n)
 simpa using this
theorem prS_mem {n on may : Nat} (hn : n ≤ 8) {x : Nat × Nat} : x ∈ prS n on may ↔ x ∈ prF n on may := by
 rw [prF_mem]
 unfold prS
 simp only [List.mem_flatMap, List.mem_range]
 constructor
 ·rintro ⟨k, hk, c, hc, h⟩
  split at h
  ·obtain ⟨v, hv, rfl⟩ := List.mem_map.1 h; exact ⟨hc, hv⟩
  ·cases h
 ·rintro ⟨h1, h2⟩
  exact ⟨popc x.1, Nat.lt_succ_of_le (popc_le n _ h1 hn), x.1, h1, by rw [if_pos rfl]; exact List.mem_map.2 ⟨x.2, h2, rfl⟩⟩
theorem prV_sorted (n on may c : Nat) : (prV n on may c).Pairwise (· < ·) := List.Pairwise.filter _ List.pairwise_lt_range
theorem prS_sorted (n on may : Nat) : (prS n on may).Pairwise cLt := by
 unfold prS
 rw [List.pairwise_flatMap]
 refine ⟨fun k _ => ?_, List.pairwise_lt_range.imp ?_⟩
 ·rw [List.pairwise_flatMap]
  refine ⟨fun c _ => ?_, List.pairwise_lt_range.imp ?_⟩
  ·split
   ·rw [List.pairwise_map]
    exact (prV_sorted n on may c).imp fun h => .inr ⟨rfl, .inr ⟨rfl, h⟩⟩
   ·exact List.Pairwise.nil
  ·intro c c' hc x hx y hy
   split at hx
   ·rename_i h1
    split at hy
    ·rename_i h2
     obtain ⟨v, _, rfl⟩ := List.mem_map.1 hx
     obtain ⟨u, _, rfl⟩ := List.mem_map.1 hy
     exact .inr ⟨h1.trans h2.symm, .inl hc⟩
    ·cases hy
   ·cases hx
 ·intro k k' hk x hx y hy
  obtain ⟨c, _, hc⟩ := List.mem_flatMap.1 hx
  obtain ⟨c', _, hc'⟩ := List.mem_flatMap.1 hy
  split at hc
  ·rename_i h1
   split at hc'
   ·rename_i h2
    obtain ⟨v, _, rfl⟩ := List.mem_map.1 hc
    obtain ⟨u, _, rfl⟩ := List.mem_map.1 hc'
    exact .inl (by dsimp only; omega)
   ·cases hc'
  ·cases hc
theorem prF_sorted (n on may : Nat) : (prF n on may).Pairwise (fun a b => a ≠ b) := by
 unfold prF
 rw [List.pairwise_flatMap]
 refine ⟨fun c _ => ?_, List.pairwise_lt_range.imp ?_⟩
 ·rw [List.pairwise_map]
  exact (prV_sorted n on may c).imp fun h e => by cases e; exact Nat.lt_irrefl _ h
 ·intro c c' hc x hx y hy
  obtain ⟨v, _, rfl⟩ := List.mem_map.1 hx
  obtain ⟨u, _, rfl⟩ := List.mem_map.1 hy
  intro e
  cases e
  exact Nat.lt_irrefl _ hc
theorem prS_of {n on may : Nat} (hn : n ≤ 8) {l : List (Nat × Nat)} (hp : l.Perm (prF n on may)) (hs : l.Pairwise fun a b => ¬ cLt b a) : l = prS n on may := by
 refine eq_of_strict cLt_irr cLt_asym _ _ ?_ (prS_sorted n on may) fun x => (hp.mem_iff).trans (prS_mem hn).symm
 have hnd : l.Pairwise (fun a b => a ≠ b) := (hp.symm.pairwise_iff (fun h => h.symm)).1 (prF_sorted n on may)
 exact (hs.and hnd).imp fun h => cLt_tri h.1 h.2
theorem low_fact : ∀ r : Fin 256, r.val ≠ 0 → ∃ i : Fin 8, bits .and .i64 (r.val : Int) (IntKind.i64.wrap (-(r.val : Int))) = ((2 ^ i.val : Nat) : Int) ∧ r.val.testBit i.val = true ∧ r.val &&& (r.val - 1) = adn r.val (2 ^ i.val) := by decide +kernel
theorem low_of {r : Nat} (h : r < 256) (h0 : r ≠ 0) : ∃ i, i < 8 ∧ bits .and .i64 (r : Int) (IntKind.i64.wrap (-(r : Int))) = ((2 ^ i : Nat) : Int) ∧ r.testBit i = true ∧ r &&& (r - 1) = adn r (2 ^ i) := by
 obtain ⟨i, hi⟩ := low_fact ⟨r, h⟩ h0
 exact ⟨i.val, i.isLt, hi⟩
end Go.Proofs.YtaegjpancbmppaaGreatDoor
namespace Go.Proofs.YtaegjpancbmppaaGreatDoor
open Go.RowKit
def togB (n may a b : Nat) : Bool := impB n may (adn (2 ^ n - 1) (a ^^^ b)) (a &&& adn (2 ^ n - 1) (a ^^^ b))
def apGo (rec : List Nat → List Nat → List Nat → List Nat) (tg : Nat → Nat → Bool) (chosen : List Nat) : List Nat → List Nat → List Nat
 | best, [] => best
 | best, row :: r => if chosen.length + (r.length + 1) ≤ best.length then best else apGo rec tg chosen (rec best (chosen ++ [row]) (r.filter fun x => !tg row x)) r
def apSeek (tg : Nat → Nat → Bool) : Nat → List Nat → List Nat → List Nat → List Nat
 | 0, best, _, _ => best
 | f + 1, best, chosen, rest => apGo (apSeek tg f) tg chosen (if best.length < chosen.length then chosen else best) rest
def apL (n may : Nat) (on : List Nat) : List Nat := apSeek (togB n may) (on.length + 1) [] [] on
def lsRow (P : List (Nat × Nat)) (have_ : Nat) : List Nat → Option (Nat × Nat) → Option (Nat × Nat)
 | [], s => s
 | x :: r, s => lsRow P have_ r (if have_.testBit x then s else
   let k := P.countP fun p => p.1.testBit x
   match s with
   | none => some (x, k)
   | some (y, l) => if k < l then some (x, k) else some (y, l))
def lexLt : List Nat → List Nat → Bool
 | [], [] => false
 | [], _ :: _ => true
 | _ :: _, [] => false
 | a :: l, b :: m => if a = b then lexLt l m else decide (a < b)
def insN (x : Nat) : List Nat → List Nat
 | [] => [x]
 | y :: l => if x ≤ y then x :: y :: l else y :: insN x l
def sortN (l : List Nat) : List Nat := l.foldr insN []
abbrev LsS := Option (List Nat × Nat)
def lsCut : LsS → List Nat → Nat → Bool
 | none, _, _ => false
 | some (b, k), ch, n => decide (b.length < ch.length ∨ ch.length = b.length ∧ k < n)
def lsEnd : LsS → List Nat → Nat → LsS
 | none, ch, n => some (sortN ch, n)
 | some (b, k), ch, n => if ch.length < b.length ∨ ch.length = b.length ∧ (n < k ∨ n = k ∧ lexLt (sortN ch) b = true) then some (sortN ch, n) else some (b, k)
def lsFull : LsS → List Nat → Bool
 | none, _ => false
 | some (b, _), ch => decide (b.length ≤ ch.length)
def lsGo (rec : LsS → List Nat → Nat → Nat → LsS) (row : Nat) (chosen : List Nat) (have_ count : Nat) : List (Nat × Nat) → Nat → LsS → LsS
 | [], _, s => s
 | p :: r, i, s => lsGo rec row chosen have_ count r (i + 1) (if p.1.testBit row then rec s (chosen ++ [i]) (have_ ||| p.1) (count + p.2) else s)
def lsSeek (P : List (Nat × Nat)) (on : List Nat) : Nat → LsS → List Nat → Nat → Nat → LsS
 | 0, s, _, _, _ => s
 | f + 1, s, chosen, have_, count =>
  if lsCut s chosen count then s else
  match lsRow P have_ on none with
  | none => lsEnd s chosen count
  | some (row, _) => if lsFull s chosen then s else lsGo (lsSeek P on f) row chosen have_ count P 0 s
def lsP (n : Nat) (L : List (Nat × Nat)) : List (Nat × Nat) := L.map fun x => (cM n x.1 x.2, popc x.1)
def lsL (n may : Nat) (on : List Nat) : List (Nat × Nat) :=
 let L := prS n (rowM on) may
 match lsSeek (lsP n L) on (on.length + 1) none [] 0 0 with
 | none => []
 | some (b, _) => b.map fun i => L.getD i (0, 0)
end Go.Proofs.YtaegjpancbmppaaGreatDoor
namespace Go.Proofs.YtaegjpancbmppaaGreatDoor
open Go.RowKit
def prK (n on may k : Nat) : List (Nat × Nat) := (List.range k).flatMap fun c => (prV n on may c).map fun v => (c, v)
theorem prK_succ (n on may k : Nat) : prK n on may (k + 1) = prK n on may k ++ (prV n on may k).map fun v => (k, v) := by
 unfold prK; rw [List.range_succ, List.flatMap_append, List.flatMap_cons, List.flatMap_nil, List.append_nil]
theorem prK_all (n on may : Nat) : prK n on may (2 ^ n) = prF n on may := rfl
def prJ (n on may c j : Nat) : List (Nat × Nat) := ((List.range j).filter fun v => decide (adn v c = 0 ∧ prP n on may c v)).map fun v => (c, v)
theorem prJ_all (n on may c : Nat) : prJ n on may c (c + 1) = (prV n on may c).map fun v => (c, v) := rfl
theorem prJ_yes {n on may c j : Nat} (h : adn j c = 0 ∧ prP n on may c j) : prJ n on may c (j + 1) = prJ n on may c j ++ [(c, j)] := by
 unfold prJ
 rw [List.range_succ, List.filter_append, List.map_append, List.filter_cons, if_pos (decide_eq_true h), List.filter_nil]
 rfl
theorem prJ_no {n on may c j : Nat} (h : ¬ (adn j c = 0 ∧ prP n on may c j)) : prJ n on may c (j + 1) = prJ n on may c j := by
 unfold prJ
 rw [List.range_succ, List.filter_append, List.map_append, List.filter_cons, if_neg (by rw [decide_eq_false h]; simp), List.filter_nil]
 simp
def LeastI (n may c v rest : Nat) (least : Bool) : Prop :=
 (∀ i, rest.testBit i = true → c.testBit i = true) ∧
 (least = true → ∀ i, c.testBit i = true → rest.testBit i = false → impB n may (adn c (2 ^ i)) (adn v (2 ^ i)) = false) ∧
 (least = false → ∃ i, c.testBit i = true ∧ impB n may (adn c (2 ^ i)) (adn v (2 ^ i)) = true)
theorem LeastI.start (n may c v : Nat) : LeastI n may c v c true := by
 refine ⟨fun _ h => h, fun _ i h h' => ?_, fun h => by cases h⟩
 rw [h] at h'; cases h'
theorem LeastI.next {n may c v rest i : Nat} (h : LeastI n may c v rest true) (hi : rest.testBit i = true) : LeastI n may c v (adn rest (2 ^ i)) (!impB n may (adn c (2 ^ i)) (adn v (2 ^ i))) := by
 obtain ⟨h1, h2, h3⟩ := h
 refine ⟨fun j hj => ?_, fun hl j hc hj => ?_, fun hl => ⟨i, h1 i hi, ?_⟩⟩
 ·rw [adn_bit] at hj
  exact h1 j (Bool.and_eq_true_iff.1 hj).1
 ·rw [adn_bit, two_bit] at hj
  by_cases e : i = j
  ·subst e
   simpa using hl
  ·have : rest.testBit j = false := by simpa [e] using hj
   exact h2 rfl j hc this
 ·simpa using hl
theorem LeastI.done {n may c v : Nat} {rest : Nat} {least : Bool} (h : LeastI n may c v rest least) (h0 : rest = 0 ∨ least = false) (hc : c < 256) : least = true ↔ ∀ i, i < 8 → c.testBit i = true → impB n may (adn c (2 ^ i)) (adn v (2 ^ i)) = false := by
 obtain ⟨h1, h2, h3⟩ := h
 have hc8 : ∀ i, c.testBit i = true → i < 8 := fun i hi => by
  refine Classical.byContradiction fun hn => ?_
  have := Nat.testBit_lt_two_pow (x := c) (i := i) (Nat.lt_of_lt_of_le hc (by
   have := Nat.pow_le_pow_right (n := 2) (by decide) (show 8 ≤ i by omega)
   simpa using this))
  rw [this] at hi; cases hi
 constructor
 ·intro hl i _ hi
  rcases h0 with rfl | h0
  ·exact h2 hl i hi (Nat.zero_testBit i)
  ·rw [hl] at h0; cases h0
 ·intro hall
  cases hl : least with
  | true => rfl
  | false =>
   obtain ⟨i, hi, hb⟩ := h3 hl
   rw [hall i (hc8 i hi) hi] at hb; cases hb
theorem adn_less {r i : Nat} (h : r.testBit i = true) : adn r (2 ^ i) < r := by
 refine Nat.lt_of_le_of_ne (adn_le _ _) fun e => ?_
 have := congrArg (fun x => x.testBit i) e
 simp only [adn_bit, two_bit, h, decide_true] at this
 cases this
end Go.Proofs.YtaegjpancbmppaaGreatDoor
namespace Go.Proofs.YtaegjpancbmppaaGreatDoor
open Go.RowKit
def lexB (a b : List Nat) : Prop := ∃ p x y s t, a = p ++ x :: s ∧ b = p ++ y :: t ∧ x < y
def aptL (tg : Nat → Nat → Bool) (l : List Nat) : Prop := l.Pairwise fun a b => tg a b = false
def apX (tg : Nat → Nat → Bool) (chosen rest t : List Nat) : Prop := ∃ u, u.Sublist rest ∧ aptL tg u ∧ t = chosen ++ u
def apR (best : List Nat) (S : List Nat → Prop) (r : List Nat) : Prop :=
 (r = best ∧ ∀ t, S t → t.length ≤ best.length) ∨ (best.length < r.length ∧ S r ∧ ∀ t, S t → t.length ≤ r.length ∧ (t.length = r.length → t = r ∨ lexB r t))
def rowsM : List Nat → Nat → List Nat
 | [], _ => []
 | x :: l, m => if m.testBit l.length = true then x :: rowsM l m else rowsM l m
def apW (g : List Nat → Bool) (on : List Nat) : Nat → List Nat
 | 0 => []
 | m + 1 => if (apW g on m).length ≤ (rowsM on m).length ∧ g (rowsM on m) = true then rowsM on m else apW g on m
end Go.Proofs.YtaegjpancbmppaaGreatDoor
namespace Go.Proofs.YtaegjpancbmppaaGreatDoor
open Go.RowKit
def apartB (P : List (Nat × Nat)) (l : List Nat) : Bool := P.all fun x => decide (l.countP (fun r => r &&& x.1 == x.2) ≤ 1)
end Go.Proofs.YtaegjpancbmppaaGreatDoor
namespace Go.Proofs.YtaegjpancbmppaaGreatDoor
def allK (may c v : Nat) : Nat → Bool
 | 0 => true
 | k + 1 => allK may c v k && (!(k &&& c == v) || may.testBit k)
def someK (on c v : Nat) : Nat → Bool
 | 0 => false
 | k + 1 => someK on c v k || (k &&& c == v && on.testBit k)
def stayK (n may c v : Nat) : Nat → Bool
 | 0 => true
 | k + 1 => stayK n may c v k && (!c.testBit k || !impB n may (adn c (2 ^ k)) (adn v (2 ^ k)))
def priB (n on may c v : Nat) : Bool := impB n may c v && (cM n c v &&& on != 0) && stayK n may c v n
def pvK (n on may c m : Nat) : List Nat := (List.range m).filter fun v => decide (adn v c = 0 ∧ prP n on may c v)
def pcK (n on may k m : Nat) : List (Nat × Nat) := (List.range m).flatMap fun c => if popc c = k then (prV n on may c).map fun v => (c, v) else []
def plK (n on may j : Nat) : List (Nat × Nat) := (List.range j).flatMap fun k => pcK n on may k (2 ^ n)
def mkOn (on k : Nat) : List Nat := (List.range k).filter fun r => on.testBit r
def mkFr (on fr k : Nat) : List Nat := (List.range k).filter fun r => !on.testBit r && fr.testBit r
end Go.Proofs.YtaegjpancbmppaaGreatDoor
namespace Go.Proofs.YtaegjpancbmppaaGreatDoor
open Go.RowKit
theorem lexLt_trans : ∀ a b c, lexLt a b = true → lexLt b c = true → lexLt a c = true
 | [], [], _, h, _ => by cases h
 | [], _ :: _, [], _, h => by cases h
 | [], _ :: _, _ :: _, _, _ => rfl
 | _ :: _, [], _, h, _ => by cases h
 | _ :: _, _ :: _, [], _, h => by cases h
 | x :: a, y :: b, z :: c, h1, h2 => by
  rw [lexLt] at h1 h2 ⊢
  by_cases e1 : x = y
  ·subst e1
   rw [if_pos rfl] at h1
   by_cases e2 : x = z
   ·subst e2
    rw [if_pos rfl] at h2 ⊢
    exact lexLt_trans a b c h1 h2
   ·rw [if_neg e2] at h2 ⊢; exact h2
  ·rw [if_neg e1] at h1
   have h1' := of_decide_eq_true h1
   by_cases e2 : y = z
   ·subst e2
    rw [if_neg e1]; exact h1
   ·rw [if_neg e2] at h2
    have h2' := of_decide_eq_true h2
    rw [if_neg (by omega)]
    exact decide_eq_true (by omega)
theorem lexLt_tri : ∀ a b, a.length = b.length → lexLt a b = true ∨ a = b ∨ lexLt b a = true
 | [], [], _ => .inr (.inl rfl)
 | [], _ :: _, h => by cases h
 | _ :: _, [], h => by cases h
 | x :: a, y :: b, h => by
  rw [lexLt, lexLt]
  by_cases e : x = y
  ·subst e
   rw [if_pos rfl, if_pos rfl]
   rcases lexLt_tri a b (by simpa using h) with h | h | h
   ·exact .inl h
   ·exact .inr (.inl (by rw [h]))
   ·exact .inr (.inr h)
  ·rw [if_neg e, if_neg (fun k => e k.symm)]
   rcases Nat.lt_or_gt_of_ne e with h | h
   ·exact .inl (decide_eq_true h)
   ·exact .inr (.inr (decide_eq_true h))
def kLt (a b : List Nat × Nat) : Prop := a.1.length < b.1.length ∨ a.1.length = b.1.length ∧ (a.2 < b.2 ∨ a.2 = b.2 ∧ lexLt a.1 b.1 = true)
def kLe (a b : List Nat × Nat) : Prop := a = b ∨ kLt a b
theorem kLt_trans {a b c : List Nat × Nat} (h1 : kLt a b) (h2 : kLt b c) : kLt a c := by
 unfold kLt at *
 rcases h1 with h1 | ⟨e1, h1 | ⟨l1, h1⟩⟩ <;> rcases h2 with h2 | ⟨e2, h2 | ⟨l2, h2⟩⟩
 ·exact .inl (by omega)
 ·exact .inl (by omega)
 ·exact .inl (by omega)
 ·exact .inl (by omega)
 ·exact .inr ⟨by omega, .inl (by omega)⟩
 ·exact .inr ⟨by omega, .inl (by omega)⟩
 ·exact .inl (by omega)
 ·exact .inr ⟨by omega, .inl (by omega)⟩
 ·exact .inr ⟨by omega, .inr ⟨by omega, lexLt_trans _ _ _ h1 h2⟩⟩
theorem kLt_le {a b c : List Nat × Nat} (h1 : kLt a b) (h2 : kLe b c) : kLt a c := by
 rcases h2 with rfl | h2
 ·exact h1
 ·exact kLt_trans h1 h2
theorem kLe_of_not {a b : List Nat × Nat} (h : ¬ kLt a b) : kLe b a := by
 unfold kLe kLt at *
 by_cases e : b.1.length = a.1.length
 ·by_cases e2 : b.2 = a.2
  ·rcases lexLt_tri b.1 a.1 e with h1 | h1 | h1
   ·exact .inr (.inr ⟨e, .inr ⟨e2, h1⟩⟩)
   ·exact .inl (Prod.ext h1 e2)
   ·exact absurd (.inr ⟨e.symm, .inr ⟨e2.symm, h1⟩⟩) h
  ·rcases Nat.lt_or_gt_of_ne e2 with h1 | h1
   ·exact .inr (.inr ⟨e, .inl h1⟩)
   ·exact absurd (.inr ⟨e.symm, .inl h1⟩) h
 ·rcases Nat.lt_or_gt_of_ne e with h1 | h1
  ·exact .inr (.inl h1)
  ·exact absurd (.inl h1) h
def lsR (s : LsS) (T : List Nat × Nat → Prop) (s' : LsS) : Prop :=
 (s' = s ∧ ∀ t, T t → ∃ b, s = some b ∧ kLe b t) ∨ ∃ b', s' = some b' ∧ T b' ∧ (∀ b, s = some b → kLt b' b) ∧ ∀ t, T t → kLe b' t
theorem lsR.congr {s s' : LsS} {T T' : List Nat × Nat → Prop} (h : lsR s T s') (ht : ∀ t, T t ↔ T' t) : lsR s T' s' := by
 obtain rfl : T = T' := funext fun t => propext (ht t)
 exact h
theorem lsR.comp {s s1 s2 : LsS} {T1 T2 : List Nat × Nat → Prop} (h1 : lsR s T1 s1) (h2 : lsR s1 T2 s2) : lsR s (fun t => T1 t ∨ T2 t) s2 := by
 rcases h1 with ⟨rfl, k1⟩ | ⟨b1, rfl, t1, l1, k1⟩
 ·rcases h2 with ⟨rfl, k2⟩ | ⟨b2, rfl, t2, l2, k2⟩
  ·exact .inl ⟨rfl, fun t ht => ht.elim (k1 t) (k2 t)⟩
  ·refine .inr ⟨b2, rfl, .inr t2, l2, fun t ht => ht.elim (fun h => ?_) (k2 t)⟩
   obtain ⟨b, hb, hk⟩ := k1 t h
   exact .inr (kLt_le (l2 b hb) hk)
 ·rcases h2 with ⟨rfl, k2⟩ | ⟨b2, rfl, t2, l2, k2⟩
  ·refine .inr ⟨b1, rfl, .inl t1, l1, fun t ht => ht.elim (k1 t) (fun h => ?_)⟩
   obtain ⟨b, hb, hk⟩ := k2 t h
   cases hb
   exact hk
  ·refine .inr ⟨b2, rfl, .inr t2, fun b hb => kLt_trans (l2 b1 rfl) (l1 b hb), fun t ht => ht.elim (fun h => .inr (kLt_le (l2 b1 rfl) (k1 t h))) (k2 t)⟩
theorem insN_perm (x : Nat) : ∀ l, (insN x l).Perm (x :: l)
 | [] => .refl _
 | y :: l => by
  rw [insN]
  split
  ·exact .refl _
  ·exact ((insN_perm x l).cons y).trans (.swap x y l)
theorem sortN_perm : ∀ l, (sortN l).Perm l
 | [] => .refl _
 | x :: l => (insN_perm x (sortN l)).trans ((sortN_perm l).cons x)
theorem insN_sorted (x : Nat) : ∀ l : List Nat, l.Pairwise (· ≤ ·) → (insN x l).Pairwise (· ≤ ·)
 | [], _ => List.pairwise_singleton _ _
 | y :: l, h => by
  obtain ⟨h1, h2⟩ := List.pairwise_cons.1 h
  rw [insN]
  split
  ·rename_i hxy
   refine List.pairwise_cons.2 ⟨fun z hz => ?_, h⟩
   rcases List.mem_cons.1 hz with rfl | hz
   ·exact hxy
   ·exact Nat.le_trans hxy (h1 z hz)
  ·rename_i hxy
   refine List.pairwise_cons.2 ⟨fun z hz => ?_, insN_sorted x l h2⟩
   rcases List.mem_cons.1 ((insN_perm x l).mem_iff.1 hz) with rfl | hz
   ·omega
   ·exact h1 z hz
theorem sortN_sorted : ∀ l : List Nat, (sortN l).Pairwise (· ≤ ·)
 | [] => List.Pairwise.nil
 | x :: l => insN_sorted x _ (sortN_sorted l)
theorem sortN_strict {l : List Nat} (h : l.Nodup) : (sortN l).Pairwise (· < ·) := by
 have h1 := sortN_sorted l
 have h2 : (sortN l).Nodup := (sortN_perm l).nodup_iff.2 h
 exact (h1.and h2).imp fun ⟨a, b⟩ => Nat.lt_of_le_of_ne a b
theorem sub_sublist : ∀ B A : List Nat, A.Pairwise (· < ·) → B.Pairwise (· < ·) → (∀ x ∈ A, x ∈ B) → A.Sublist B
 | [], [], _, _, _ => List.Sublist.slnil
 | [], a :: _, _, _, h => absurd (h a (List.mem_cons_self ..)) (by simp)
 | b :: B, [], _, _, _ => List.nil_sublist _
 | b :: B, a :: A, hA, hB, h => by
  obtain ⟨a1, a2⟩ := List.pairwise_cons.1 hA
  obtain ⟨b1, b2⟩ := List.pairwise_cons.1 hB
  by_cases e : a = b
  ·subst e
   refine (sub_sublist B A a2 b2 fun x hx => ?_).cons_cons a
   rcases List.mem_cons.1 (h x (List.mem_cons_of_mem _ hx)) with e | e
   ·have := a1 x hx; omega
   ·exact e
  ·have ha : a ∈ B := (List.mem_cons.1 (h a (List.mem_cons_self ..))).resolve_left e
   have hba := b1 a ha
   refine (sub_sublist B (a :: A) hA b2 fun x hx => ?_).cons b
   refine (List.mem_cons.1 (h x hx)).resolve_left fun e' => ?_
   rcases List.mem_cons.1 hx with e2 | e2
   ·omega
   ·have := a1 x e2; omega
def lsLit (P : List (Nat × Nat)) (S : List Nat) : Nat := (S.map fun i => (P.getD i (0, 0)).2).sum
def lsCov (P : List (Nat × Nat)) (on S : List Nat) : Prop := ∀ x ∈ on, ∃ i ∈ S, (P.getD i (0, 0)).1.testBit x = true
def lsT (P : List (Nat × Nat)) (on chosen : List Nat) (t : List Nat × Nat) : Prop :=
 t.1.Pairwise (· < ·) ∧ (∀ i ∈ t.1, i < P.length) ∧ (∀ i ∈ chosen, i ∈ t.1) ∧ lsCov P on t.1 ∧ t.2 = lsLit P t.1
theorem lsLit_perm {P : List (Nat × Nat)} {S S' : List Nat} (h : S.Perm S') : lsLit P S = lsLit P S' := (h.map _).sum_nat
theorem lsT_len {P : List (Nat × Nat)} {on chosen : List Nat} {t : List Nat × Nat} (h : lsT P on chosen t) (hn : chosen.Nodup) : chosen.length < t.1.length ∨ (chosen.length = t.1.length ∧ t = (sortN chosen, lsLit P chosen)) := by
 have hs := sub_sublist t.1 (sortN chosen) (sortN_strict hn) h.1 fun x hx => h.2.2.1 x ((sortN_perm chosen).mem_iff.1 hx)
 have hl := (sortN_perm chosen).length_eq
 rcases Nat.lt_or_eq_of_le hs.length_le with k | k
 ·exact .inl (by omega)
 ·have e := hs.eq_of_length k
  exact .inr ⟨by omega, Prod.ext e.symm (by rw [h.2.2.2.2, ← e]; exact lsLit_perm (sortN_perm chosen))⟩
theorem lsRow_none (P : List (Nat × Nat)) (hv : Nat) : ∀ (on : List Nat) (s : Option (Nat × Nat)), lsRow P hv on s = none ↔ s = none ∧ ∀ x ∈ on, hv.testBit x = true
 | [], s => by rw [lsRow]; simp
 | x :: r, s => by
  rw [lsRow, lsRow_none P hv r]
  cases hx : hv.testBit x with
  | true => simp [hx]
  | false =>
   cases s with
   | none => simp [hx]
   | some y =>
    obtain ⟨y, l⟩ := y
    simp only [Bool.false_eq_true, if_false]
    split <;> simp
theorem lsRow_some (P : List (Nat × Nat)) (hv : Nat) : ∀ (on : List Nat) (s : Option (Nat × Nat)) (y l : Nat), lsRow P hv on s = some (y, l) → (∃ l', s = some (y, l')) ∨ (y ∈ on ∧ hv.testBit y = false)
 | [], s, y, l, h => .inl ⟨l, h⟩
 | x :: r, s, y, l, h => by
  rw [lsRow] at h
  cases hx : hv.testBit x with
  | true =>
   rw [hx, if_pos rfl] at h
   exact (lsRow_some P hv r s y l h).imp_right fun k => ⟨List.mem_cons_of_mem _ k.1, k.2⟩
  | false =>
   rw [hx, if_neg (by simp)] at h
   rcases lsRow_some P hv r _ y l h with ⟨l', h'⟩ | h'
   ·cases s with
    | none =>
     simp only [Option.some.injEq, Prod.mk.injEq] at h'
     exact .inr ⟨by rw [h'.1]; exact List.mem_cons_self .., by rw [← h'.1]; exact hx⟩
    | some z =>
     obtain ⟨z, l2⟩ := z
     dsimp only at h'
     split at h'
     ·simp only [Option.some.injEq, Prod.mk.injEq] at h'
      exact .inr ⟨by rw [h'.1]; exact List.mem_cons_self .., by rw [← h'.1]; exact hx⟩
     ·exact .inl ⟨l', h'⟩
   ·exact .inr ⟨List.mem_cons_of_mem _ h'.1, h'.2⟩
structure LsI (P : List (Nat × Nat)) (on chosen : List Nat) (hv count : Nat) : Prop where
 nd : chosen.Nodup
 lt : ∀ i ∈ chosen, i < P.length
 hv : ∀ x, hv.testBit x = true ↔ ∃ i ∈ chosen, (P.getD i (0, 0)).1.testBit x = true
 ct : count = lsLit P chosen
theorem LsI.next {P : List (Nat × Nat)} {on chosen : List Nat} {hv count i row : Nat} (h : LsI P on chosen hv count) (hi : i < P.length) (hr : (P.getD i (0, 0)).1.testBit row = true) (hn : hv.testBit row = false) : LsI P on (chosen ++ [i]) (hv ||| (P.getD i (0, 0)).1) (count + (P.getD i (0, 0)).2) where
 nd := by
  rw [List.nodup_append]
  refine ⟨h.nd, by simp, fun a ha b hb e => ?_⟩
  rw [List.mem_singleton] at hb
  subst e; subst hb
  rw [(h.hv row).2 ⟨a, ha, hr⟩] at hn
  cases hn
 lt := fun j hj => by
  rcases List.mem_append.1 hj with hj | hj
  ·exact h.lt j hj
  ·rw [List.mem_singleton] at hj; subst hj; exact hi
 hv := fun x => by
  rw [Nat.testBit_or, Bool.or_eq_true, h.hv x]
  constructor
  ·rintro (⟨j, h1, h2⟩ | h1)
   ·exact ⟨j, List.mem_append_left _ h1, h2⟩
   ·exact ⟨i, by simp, h1⟩
  ·rintro ⟨j, h1, h2⟩
   rcases List.mem_append.1 h1 with h1 | h1
   ·exact .inl ⟨j, h1, h2⟩
   ·rw [List.mem_singleton] at h1; subst h1; exact .inr h2
 ct := by rw [h.ct]; unfold lsLit; rw [List.map_append, List.sum_append]; simp
theorem lsGo_spec (P : List (Nat × Nat)) (on : List Nat) (f row : Nat) (chosen : List Nat) (hv count : Nat) (hI : LsI P on chosen hv count) (hn : hv.testBit row = false)
  (hrec : ∀ s i, i < P.length → (P.getD i (0, 0)).1.testBit row = true → lsR s (lsT P on (chosen ++ [i])) (lsSeek P on f s (chosen ++ [i]) (hv ||| (P.getD i (0, 0)).1) (count + (P.getD i (0, 0)).2))) :
  ∀ l i s, l = P.drop i → lsR s (fun t => lsT P on chosen t ∧ ∃ j ∈ t.1, i ≤ j ∧ (P.getD j (0, 0)).1.testBit row = true) (lsGo (lsSeek P on f) row chosen hv count l i s)
 | [], i, s, h => .inl ⟨rfl, fun t ⟨k, j, h1, h2, _⟩ => by
   have := k.2.1 j h1
   have h3 := congrArg List.length h
   rw [List.length_drop, List.length_nil] at h3
   omega⟩
 | p :: r, i, s, h => by
  have hi : i < P.length := by
   have h3 := congrArg List.length h
   rw [List.length_drop, List.length_cons] at h3
   omega
  have h' := h
  rw [List.drop_eq_getElem_cons hi] at h'
  injection h' with hp hr
  have hg : P.getD i (0, 0) = p := by rw [List.getD_eq_getElem?_getD, List.getElem?_eq_getElem hi, hp]; rfl
  rw [lsGo]
  cases hb : p.1.testBit row with
  | true =>
   rw [if_pos rfl]
   have h1 := hrec s i hi (by rw [hg]; exact hb)
   rw [hg] at h1
   have h2 := lsGo_spec P on f row chosen hv count hI hn hrec r (i + 1) (lsSeek P on f s (chosen ++ [i]) (hv ||| p.1) (count + p.2)) hr
   refine (h1.comp h2).congr fun t => ⟨?_, ?_⟩
   ·rintro (k | ⟨k, j, j1, j2, j3⟩)
    ·exact ⟨⟨k.1, k.2.1, fun x hx => k.2.2.1 x (List.mem_append_left _ hx), k.2.2.2⟩, i, k.2.2.1 i (by simp), Nat.le_refl _, by rw [hg]; exact hb⟩
    ·exact ⟨k, j, j1, by omega, j3⟩
   ·rintro ⟨k, j, j1, j2, j3⟩
    rcases Nat.lt_or_eq_of_le j2 with hlt | rfl
    ·exact .inr ⟨k, j, j1, hlt, j3⟩
    ·refine .inl ⟨k.1, k.2.1, fun x hx => ?_, k.2.2.2⟩
     rcases List.mem_append.1 hx with hx | hx
     ·exact k.2.2.1 x hx
     ·rw [List.mem_singleton] at hx; subst hx; exact j1
  | false =>
   rw [if_neg (by simp)]
   refine (lsGo_spec P on f row chosen hv count hI hn hrec r (i + 1) s hr).congr fun t => ⟨?_, ?_⟩
   ·rintro ⟨k, j, j1, j2, j3⟩; exact ⟨k, j, j1, by omega, j3⟩
   ·rintro ⟨k, j, j1, j2, j3⟩
    refine ⟨k, j, j1, ?_, j3⟩
    rcases Nat.lt_or_eq_of_le j2 with hlt | rfl
    ·exact hlt
    ·rw [hg, hb] at j3; cases j3
theorem filter_less {α : Type} (p q : α → Bool) : ∀ l : List α, (∀ x ∈ l, q x = true → p x = true) → (∃ x ∈ l, p x = true ∧ q x = false) → (l.filter q).length < (l.filter p).length
 | [], _, h => by obtain ⟨x, hx, _⟩ := h; cases hx
 | a :: l, h1, h2 => by
  have hle : (l.filter q).length ≤ (l.filter p).length := by
   rw [← List.countP_eq_length_filter, ← List.countP_eq_length_filter]
   exact List.countP_mono_left fun x hx => h1 x (List.mem_cons_of_mem _ hx)
  have ha := h1 a (List.mem_cons_self ..)
  rw [List.filter_cons, List.filter_cons]
  by_cases e : p a = true ∧ q a = false
  ·rw [if_pos e.1, if_neg (by rw [e.2]; simp), List.length_cons]
   omega
  ·have h3 : ∃ x ∈ l, p x = true ∧ q x = false := by
    obtain ⟨x, hx, k⟩ := h2
    rcases List.mem_cons.1 hx with rfl | hx
    ·exact absurd k e
    ·exact ⟨x, hx, k⟩
   have := filter_less p q l (fun x hx => h1 x (List.mem_cons_of_mem _ hx)) h3
   cases hq : q a with
   | true => rw [ha hq, if_pos rfl, if_pos rfl, List.length_cons, List.length_cons]; omega
   | false =>
    have hp : p a = false := by cases hp : p a with
     | false => rfl
     | true => exact absurd ⟨hp, hq⟩ e
    rw [hp, if_neg (by simp), if_neg (by simp)]
    exact this
theorem lsSeek_spec (P : List (Nat × Nat)) (on : List Nat) : ∀ f s chosen hv count, LsI P on chosen hv count → (on.filter fun x => !hv.testBit x).length < f → lsR s (lsT P on chosen) (lsSeek P on f s chosen hv count)
 | 0, _, _, _, _, _, h => absurd h (Nat.not_lt_zero _)
 | f + 1, s, chosen, hv, count, hI, hf => by
  rw [lsSeek]
  by_cases hc : lsCut s chosen count = true
  ·rw [if_pos hc]
   refine .inl ⟨rfl, fun t ht => ?_⟩
   cases s with
   | none => cases hc
   | some b =>
    obtain ⟨b, k⟩ := b
    refine ⟨_, rfl, .inr ?_⟩
    have hc' := of_decide_eq_true (show decide (b.length < chosen.length ∨ chosen.length = b.length ∧ k < count) = true from hc)
    unfold kLt
    rcases lsT_len ht hI.nd with h | ⟨h, rfl⟩
    ·exact .inl (by dsimp only; omega)
    ·have := (sortN_perm chosen).length_eq
     have hct := hI.ct
     dsimp only at h ⊢
     rcases hc' with h1 | ⟨h1, h2⟩
     ·exact .inl (by omega)
     ·exact .inr ⟨by omega, .inl (by omega)⟩
  ·rw [if_neg hc]
   cases hr : lsRow P hv on none with
   | none =>
    have hall := ((lsRow_none P hv on none).1 hr).2
    have hT0 : lsT P on chosen (sortN chosen, count) := by
     refine ⟨sortN_strict hI.nd, fun i hi => hI.lt i ((sortN_perm chosen).mem_iff.1 hi), fun i hi => (sortN_perm chosen).mem_iff.2 hi, fun x hx => ?_, ?_⟩
     ·obtain ⟨i, h1, h2⟩ := (hI.hv x).1 (hall x hx)
      exact ⟨i, (sortN_perm chosen).mem_iff.2 h1, h2⟩
     ·rw [hI.ct]; exact (lsLit_perm (sortN_perm chosen)).symm
    have hmin : ∀ t, lsT P on chosen t → kLe (sortN chosen, count) t := fun t ht => by
     rcases lsT_len ht hI.nd with h | ⟨_, rfl⟩
     ·have := (sortN_perm chosen).length_eq
      exact .inr (.inl (by dsimp only; omega))
     ·exact .inl (by rw [hI.ct])
    show lsR s (lsT P on chosen) (lsEnd s chosen count)
    cases s with
    | none => exact .inr ⟨_, rfl, hT0, (fun b hb => by cases hb), hmin⟩
    | some b =>
     obtain ⟨b, k⟩ := b
     have hl := (sortN_perm chosen).length_eq
     by_cases hk : kLt (sortN chosen, count) (b, k)
     ·have : lsEnd (some (b, k)) chosen count = some (sortN chosen, count) := by
       rw [lsEnd, if_pos]
       unfold kLt at hk
       dsimp only at hk
       rw [hl] at hk
       exact hk
      rw [this]
      exact .inr ⟨_, rfl, hT0, fun b' hb => by cases hb; exact hk, hmin⟩
     ·have : lsEnd (some (b, k)) chosen count = some (b, k) := by
       rw [lsEnd, if_neg]
       intro h
       apply hk
       unfold kLt
       dsimp only
       rw [hl]
       exact h
      rw [this]
      refine .inl ⟨rfl, fun t ht => ⟨_, rfl, ?_⟩⟩
      rcases kLe_of_not hk with e | e
      ·rw [e]; exact hmin t ht
      ·exact .inr (kLt_le e (hmin t ht))
   | some y =>
    obtain ⟨row, l⟩ := y
    obtain ⟨hon, hnr⟩ : row ∈ on ∧ hv.testBit row = false := by
     rcases lsRow_some P hv on none row l hr with ⟨l', h⟩ | h
     ·cases h
     ·exact h
    dsimp only
    by_cases hfu : lsFull s chosen = true
    ·rw [if_pos hfu]
     refine .inl ⟨rfl, fun t ht => ?_⟩
     cases s with
     | none => cases hfu
     | some b =>
      obtain ⟨b, k⟩ := b
      have hf' := of_decide_eq_true (show decide (b.length ≤ chosen.length) = true from hfu)
      refine ⟨_, rfl, .inr (.inl ?_)⟩
      rcases lsT_len ht hI.nd with h | ⟨_, rfl⟩
      ·dsimp only; omega
      ·exfalso
       obtain ⟨i, h1, h2⟩ := ht.2.2.2.1 row hon
       have := (hI.hv row).2 ⟨i, (sortN_perm chosen).mem_iff.1 h1, h2⟩
       rw [hnr] at this; cases this
    ·rw [if_neg hfu]
     have h1 := lsGo_spec P on f row chosen hv count hI hnr (fun s i hi hb => lsSeek_spec P on f s _ _ _ (hI.next hi hb hnr) (by
      have := filter_less (fun x => !hv.testBit x) (fun x => !(hv ||| (P.getD i (0, 0)).1).testBit x) on (fun x _ hx => by
       rw [Nat.testBit_or] at hx
       cases hh : hv.testBit x with
       | false => rfl
       | true => rw [hh] at hx; cases hx) ⟨row, hon, by rw [hnr]; rfl, by rw [Nat.testBit_or, hb]; simp⟩
      omega)) P 0 s rfl
     refine h1.congr fun t => ⟨fun h => h.1, fun h => ⟨h, ?_⟩⟩
     obtain ⟨j, j1, j2⟩ := h.2.2.2.1 row hon
     exact ⟨j, j1, Nat.zero_le _, j2⟩
end Go.Proofs.YtaegjpancbmppaaGreatDoor
namespace Go.Proofs.YtaegjpancbmppaaGreatDoor
open Go.RowKit
def costN : List (Nat × Nat) → Nat → Nat
 | [], rest => if rest = 0 then 0 else 1000000
 | p :: l, rest => if rest = 0 then 0 else if adn rest p.1 = rest then costN l rest else min (costN l rest) (100 + p.2 + costN l (adn rest p.1))
def grd : List (Nat × Nat) → Nat → Nat → List Nat
 | [], _, _ => []
 | p :: l, i, rest => if rest = 0 then [] else if adn rest p.1 ≠ rest ∧ 100 + p.2 + costN l (adn rest p.1) = costN (p :: l) rest then i :: grd l (i + 1) (adn rest p.1) else grd l (i + 1) rest
def cvS (Q : List (Nat × Nat)) (i rest : Nat) (S : List Nat) : Prop :=
 S.Pairwise (· < ·) ∧ (∀ j ∈ S, i ≤ j ∧ j < Q.length) ∧ ∀ x, rest.testBit x = true → ∃ j ∈ S, (Q.getD j (0, 0)).1.testBit x = true
def wtS (Q : List (Nat × Nat)) (S : List Nat) : Nat := (S.map fun j => 100 + (Q.getD j (0, 0)).2).sum
def onM (m : Nat) (on : List Nat) : Nat := rowM ((List.range on.length).filter fun y => m.testBit (on.getD y 0))
end Go.Proofs.YtaegjpancbmppaaGreatDoor
namespace Go.Proofs.YtaegjpancbmppaaGreatDoor
def hasB (x : Nat × Nat) (r : Nat) : Bool := r &&& x.1 == x.2
def cntE (P : List (Nat × Nat)) (r : Nat) : Nat := P.countP fun x => hasB x r
def aloB (P : List (Nat × Nat)) (rows : List Nat) (x : Nat × Nat) : Bool := rows.any fun r => cntE P r == 1 && hasB x r
def essL (P : List (Nat × Nat)) (rows : List Nat) : List (Nat × Nat) := P.filter (aloB P rows)
def onlyK (P : List (Nat × Nat)) (r : Nat) : Nat → Nat
 | 0 => 0
 | j + 1 => if hasB (P.getD j (0, 0)) r = true then j else onlyK P r j
def cntK (P : List (Nat × Nat)) (r j : Nat) : Nat := (P.take j).countP fun x => hasB x r
def needK (P : List (Nat × Nat)) (rows : List Nat) (i : Nat) : Nat → Bool
 | 0 => false
 | k + 1 => needK P rows i k || (cntE P (rows.getD k 0) == 1 && onlyK P (rows.getD k 0) P.length == i)
def essK (P : List (Nat × Nat)) (rows : List Nat) (j : Nat) : List (Nat × Nat) := (P.take j).filter (aloB P rows)
end Go.Proofs.YtaegjpancbmppaaGreatDoor
namespace Go.Proofs.YtaegjpancbmppaaGreatDoor
def remK (x : Nat × Nat) (on : List Nat) (rest : Nat) : Nat → Nat
 | 0 => rest
 | i + 1 => if hasB x (on.getD i 0) = true then adn (remK x on rest i) (2 ^ i) else remK x on rest i
def wtQ (n : Nat) (P : List (Nat × Nat)) (on : List Nat) : List (Nat × Nat) := P.map fun x => (onM (cM n x.1 x.2) on, popc x.1)
def csT (n : Nat) (P : List (Nat × Nat)) (on : List Nat) (i rest : Nat) : Nat := costN ((wtQ n P on).drop i) rest
def pkK (n : Nat) (P : List (Nat × Nat)) (on : List Nat) (full : Nat) : Nat → List (Nat × Nat) × Nat
 | 0 => ([], full)
 | i + 1 =>
  let s := pkK n P on full i
  let left := remK (P.getD i (0, 0)) on s.2 on.length
  if left ≠ s.2 ∧ 100 + popc (P.getD i (0, 0)).1 + csT n P on (i + 1) left = csT n P on i s.2 then (s.1 ++ [P.getD i (0, 0)], left) else s
end Go.Proofs.YtaegjpancbmppaaGreatDoor
