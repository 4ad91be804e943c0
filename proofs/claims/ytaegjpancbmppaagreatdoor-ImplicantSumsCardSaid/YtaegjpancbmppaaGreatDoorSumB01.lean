/- Part 1 of 33 of the proof of the law: contracts of the functions that it reaches, and plain facts. Conditions: those that each contract names. -/
import Derived.WalkKit
import Derived.WalkSpells
import Derived.WalkLawsBesides
import Derived.Laws.OwnMore
import Derived.Laws.Rows
import Derived.Lib.Hide
import Derived.Laws.IdiomStrings
set_option linter.unusedVariables false
set_option linter.unusedSimpArgs false
namespace Go.Proofs.YtaegjpancbmppaaGreatDoor
open Go.RowKit
def Rd {α : Type} (enc : α → Value) (w : World) (Bd : Nat) (A : Option Addr) (L : List α) : Prop :=
 0 < L.length → ∃ b off, A = some ⟨b, off, none⟩ ∧ b < Bd ∧ ∀ i (h : i < L.length), w.cell? ⟨b, off + i, none⟩ = some (enc L[i])
section
variable {α : Type} {enc : α → Value} {w w' : World} {Bd Bd' : Nat} {A : Option Addr} {L : List α}
theorem Rd.nil : Rd enc w Bd A [] := fun h => absurd h (by simp)
theorem Rd.keep (h : Rd enc w Bd A L) (hk : ∀ b o, b < Bd → w'.cell? ⟨b, o, none⟩ = w.cell? ⟨b, o, none⟩) : Rd enc w' Bd A L := fun hl => by
 obtain ⟨b, off, rfl, hb, hc⟩ := h hl
 exact ⟨b, off, rfl, hb, fun i hi => (hk _ _ hb).trans (hc i hi)⟩
theorem Rd.below (h : Rd enc w Bd A L) (hb : Below Bd w w') : Rd enc w' Bd A L := h.keep fun b o hp => hb.cell (p := ⟨b, o, none⟩) hp
theorem Rd.more (h : Rd enc w Bd A L) (hB : Bd ≤ Bd') : Rd enc w Bd' A L := fun hl => by
 obtain ⟨b, off, rfl, hb, hc⟩ := h hl
 exact ⟨b, off, rfl, by omega, hc⟩
theorem Rd.at_ (h : Rd enc w Bd A L) (hl : 0 < L.length) : ∃ b off, A = some ⟨b, off, none⟩ ∧ b < Bd ∧ ∀ i (h : i < L.length), w.cell? ⟨b, off + i, none⟩ = some (enc L[i]) := h hl
end
def Blk (w : World) (g : Nat) (t : TypeId) (cs : List Value) : Prop := w.heap[g]? = some (.cells cs.toArray t (0, 0))
section
variable {w w' : World} {g : Nat} {t : TypeId} {cs : List Value}
theorem Blk.lt (h : Blk w g t cs) : g < w.heap.size := by
 rcases Nat.lt_or_ge g w.heap.size with hlt | hge
 ·exact hlt
 ·unfold Blk at h; rw [Array.getElem?_eq_none hge] at h; cases h
theorem Blk.cell (h : Blk w g t cs) (i : Nat) : w.cell? ⟨g, i, none⟩ = cs[i]? := by
 rw [cell_of_row w g i cs.toArray t (0, 0) h]; simp
theorem Blk.frozen (h : Blk w g t cs) (i : Nat) : w.frozen? ⟨g, i, none⟩ = false := by
 unfold Blk at h
 simp [World.frozen?, h]
theorem Blk.alloc (h : Blk w g t cs) (o : Obj) : Blk (w.alloc o) g t cs := (Below.heap_alloc w o g h.lt).trans h
theorem Blk.put (h : Blk w g t cs) (i : Nat) (u : Value) : Blk (w.setCell ⟨g, i, none⟩ u) g t (cs.set i u) := by
 unfold Blk at h ⊢
 simp [World.setCell, Array.getElem?_modify, h]
theorem Blk.far (h : Blk w g t cs) {p : Addr} (hp : g ≠ p.block) (u : Value) : Blk (w.setCell p u) g t cs := (Below.heap_setCell w p u g hp).trans h
theorem Blk.below {B : Nat} (h : Blk w g t cs) (hb : Below B w w') (hg : g < B) : Blk w' g t cs := (hb.block g hg).trans h
theorem Blk.rd {α : Type} {enc : α → Value} {L : List α} (h : Blk w g t (L.map enc)) : Rd enc w w.heap.size (some ⟨g, 0, none⟩) L := fun _ =>
 ⟨g, 0, rfl, h.lt, fun i hi => by rw [h.cell]; simp [hi]⟩
end
theorem Rd.of_own {α : Type} {enc : α → Value} {w : World} {base : Nat} {e : TypeId} {A : Option Addr} {n m c : Nat} {L : List α} (h : w.ownsRow base e 1 (.slice A n c) m (L.map enc)) (hn : m = L.length) : Rd enc w w.heap.size A L := fun hl => by
 rcases h.2 with ⟨hv, h0⟩ | ⟨g, cap, cur, hv, hb, hg, hnc, _, hs, ht⟩
 ·omega
 ·injection hv with h1 h2 h3
  subst h1
  refine ⟨g, 0, rfl, ?_, fun i hi => ?_⟩
  ·rcases Nat.lt_or_ge g w.heap.size with hlt | hge
   ·exact hlt
   ·rw [Array.getElem?_eq_none hge] at hg; cases hg
  ·have h2 : (cur.toList.take (m * 1))[i]? = (L.map enc)[i]? := by rw [ht]
   rw [List.getElem?_take, if_pos (by omega)] at h2
   rw [cell_of_row w g _ cur e (0, 0) hg, Nat.zero_add]
   simpa [hi] using h2
theorem own_form {w : World} {base : Nat} {e : TypeId} {size n : Nat} {v : Value} {xs : List Value} (h : w.ownsRow base e size v n xs) (hn : 0 < n) : ∃ g cap, v = .slice (some ⟨g, 0, none⟩) n cap ∧ n ≤ cap := by
 rcases h.2 with ⟨_, h0⟩ | ⟨g, cap, cur, hv, _, _, hnc, _⟩
 ·omega
 ·exact ⟨g, cap, hv, hnc⟩
theorem own_cap {w : World} {base : Nat} {e : TypeId} {size n c m : Nat} {A : Option Addr} {xs : List Value} (h : w.ownsRow base e size (.slice A n c) m xs) : n ≤ c := by
 rcases h.2 with ⟨hv, h0⟩ | ⟨g, cap, cur, hv, _, _, hnc, _⟩
 ·injection hv; omega
 ·injection hv; omega
theorem below_drewN (B : Nat) (w : World) (k : Nat) : Below B w (w.drewN k) := ⟨rfl, rfl, rfl, Nat.le_refl _, fun _ _ => rfl⟩
theorem bw_new {a w : World} (h : Below a.heap.size a w) (o : Obj) : Below a.heap.size a (w.alloc o) := h.alloc h.size o
theorem bw_set {B : Nat} {a w : World} {b o : Nat} (h : Below B a w) (hb : B ≤ b) (u : Value) : Below B a (w.setCell ⟨b, o, none⟩ u) := h.setCell (p := ⟨b, o, none⟩) hb u
theorem bw_drewN {B : Nat} {a w : World} (h : Below B a w) (k : Nat) : Below B a (w.drewN k) := h.trans (below_drewN _ _ _)
theorem bw_drew {B : Nat} {a w : World} (h : Below B a w) : Below B a w.drew := h.drew
def lenOf : Value → Nat | .slice _ n _ => n | _ => 0
def Two (w : World) (b : Nat) (x y : Int) : Prop :=
 w.cell? ⟨b, 0, none⟩ = some (.int .i64 x) ∧ w.cell? ⟨b, 1, none⟩ = some (.int .i64 y) ∧ w.frozen? ⟨b, 0, none⟩ = false ∧ w.frozen? ⟨b, 1, none⟩ = false ∧ b < w.heap.size
def adn (a b : Nat) : Nat := a ^^^ (a &&& b)
theorem adn_bit (a b i : Nat) : (adn a b).testBit i = (a.testBit i && !b.testBit i) := by
 unfold adn; rw [Nat.testBit_xor, Nat.testBit_and]; cases a.testBit i <;> cases b.testBit i <;> rfl
theorem adn_le (a b : Nat) : adn a b ≤ a := by
 apply Nat.le_of_testBit
 intro i h
 rw [adn_bit] at h
 exact (Bool.and_eq_true_iff.1 h).1
theorem i64_nat {x : Nat} (h : x < 9223372036854775808) : IntKind.i64.wrap (x : Int) = (x : Int) := IntWalk.i64_in _ (by omega)
theorem bv_nat (a : Nat) (h : a < 18446744073709551616) : (BitVec.ofInt 64 (a : Int)).toNat = a := by
 rw [BitVec.ofInt_natCast, BitVec.toNat_ofNat]; exact Nat.mod_eq_of_lt h
theorem and_i64 {a b : Nat} (ha : a < 9223372036854775808) (hb : b < 9223372036854775808) : bits .and .i64 (a : Int) (b : Int) = ((a &&& b : Nat) : Int) := by
 have h : bits .and .i64 (a : Int) (b : Int) = IntKind.i64.wrap (((BitVec.ofInt 64 (a : Int) &&& BitVec.ofInt 64 (b : Int)).toNat : Nat) : Int) := rfl
 rw [h, BitVec.toNat_and, bv_nat a (by omega), bv_nat b (by omega)]
 exact i64_nat (Nat.lt_of_le_of_lt Nat.and_le_left ha)
theorem xor_i64 {a b : Nat} (ha : a < 9223372036854775808) (hb : b < 9223372036854775808) : bits .xor .i64 (a : Int) (b : Int) = ((a ^^^ b : Nat) : Int) := by
 have h : bits .xor .i64 (a : Int) (b : Int) = IntKind.i64.wrap (((BitVec.ofInt 64 (a : Int) ^^^ BitVec.ofInt 64 (b : Int)).toNat : Nat) : Int) := rfl
 rw [h, BitVec.toNat_xor, bv_nat a (by omega), bv_nat b (by omega)]
 exact i64_nat (Nat.xor_lt_two_pow (n := 63) ha hb)
theorem bv_adn (a b : Nat) (ha : a < 18446744073709551616) (hb : b < 18446744073709551616) : (BitVec.ofInt 64 (a : Int) &&& ~~~BitVec.ofInt 64 (b : Int)).toNat = adn a b := by
 apply Nat.eq_of_testBit_eq
 intro i
 rw [BitVec.testBit_toNat, BitVec.getLsbD_and, BitVec.getLsbD_not, adn_bit, ← BitVec.testBit_toNat, ← BitVec.testBit_toNat, bv_nat a ha, bv_nat b hb]
 by_cases hi : i < 64
 ·simp [hi]
 ·have : a.testBit i = false := Nat.testBit_lt_two_pow (Nat.lt_of_lt_of_le ha (Nat.pow_le_pow_right (n := 2) (by decide) (show 64 ≤ i by omega)))
  simp [this]
theorem adn_i64 {a b : Nat} (ha : a < 9223372036854775808) (hb : b < 9223372036854775808) : bits .andNot .i64 (a : Int) (b : Int) = ((adn a b : Nat) : Int) := by
 have h : bits .andNot .i64 (a : Int) (b : Int) = IntKind.i64.wrap (((BitVec.ofInt 64 (a : Int) &&& ~~~BitVec.ofInt 64 (b : Int)).toNat : Nat) : Int) := rfl
 rw [h, bv_adn a b (by omega) (by omega)]
 exact i64_nat (Nat.lt_of_le_of_lt (adn_le a b) ha)
theorem u64_nat {x : Nat} (h : x < 18446744073709551616) : IntKind.u64.wrap (x : Int) = (x : Int) := by
 simp only [IntKind.wrap, IntKind.signed, IntKind.bits]
 simp
 omega
theorem and_u64 {a b : Nat} (ha : a < 18446744073709551616) (hb : b < 18446744073709551616) : bits .and .u64 (a : Int) (b : Int) = ((a &&& b : Nat) : Int) := by
 have h : bits .and .u64 (a : Int) (b : Int) = IntKind.u64.wrap (((BitVec.ofInt 64 (a : Int) &&& BitVec.ofInt 64 (b : Int)).toNat : Nat) : Int) := rfl
 rw [h, BitVec.toNat_and, bv_nat a ha, bv_nat b hb]
 exact u64_nat (Nat.lt_of_le_of_lt Nat.and_le_left ha)
theorem or_u64 {a b : Nat} (ha : a < 18446744073709551616) (hb : b < 18446744073709551616) : bits .or .u64 (a : Int) (b : Int) = ((a ||| b : Nat) : Int) := by
 have h : bits .or .u64 (a : Int) (b : Int) = IntKind.u64.wrap (((BitVec.ofInt 64 (a : Int) ||| BitVec.ofInt 64 (b : Int)).toNat : Nat) : Int) := rfl
 rw [h, BitVec.toNat_or, bv_nat a ha, bv_nat b hb]
 exact u64_nat (Nat.or_lt_two_pow (n := 64) ha hb)
theorem adn_u64 {a b : Nat} (ha : a < 18446744073709551616) (hb : b < 18446744073709551616) : bits .andNot .u64 (a : Int) (b : Int) = ((adn a b : Nat) : Int) := by
 have h : bits .andNot .u64 (a : Int) (b : Int) = IntKind.u64.wrap (((BitVec.ofInt 64 (a : Int) &&& ~~~BitVec.ofInt 64 (b : Int)).toNat : Nat) : Int) := rfl
 rw [h, bv_adn a b ha hb]
 exact u64_nat (Nat.lt_of_le_of_lt (adn_le a b) ha)
def wd (M k : Nat) : Nat := (M >>> (64 * k)) % 2 ^ 64
theorem wd_lt (M k : Nat) : wd M k < 18446744073709551616 := Nat.mod_lt _ (by decide)
theorem wd_bit (M k i : Nat) : (wd M k).testBit i = (decide (i < 64) && M.testBit (64 * k + i)) := by
 unfold wd; rw [Nat.testBit_mod_two_pow, Nat.testBit_shiftRight]
theorem wd_zero (k : Nat) : wd 0 k = 0 := by unfold wd; rw [Nat.zero_shiftRight]
theorem wd_or (M N k : Nat) : wd (M ||| N) k = wd M k ||| wd N k := by
 apply Nat.eq_of_testBit_eq; intro i
 rw [Nat.testBit_or, wd_bit, wd_bit, wd_bit, Nat.testBit_or]
 cases decide (i < 64) <;> simp
theorem wd_and (M N k : Nat) : wd (M &&& N) k = wd M k &&& wd N k := by
 apply Nat.eq_of_testBit_eq; intro i
 rw [Nat.testBit_and, wd_bit, wd_bit, wd_bit, Nat.testBit_and]
 cases decide (i < 64) <;> simp
theorem wd_adn (M N k : Nat) : wd (adn M N) k = adn (wd M k) (wd N k) := by
 apply Nat.eq_of_testBit_eq; intro i
 rw [adn_bit, wd_bit, wd_bit, wd_bit, adn_bit]
 cases decide (i < 64) <;> simp
theorem wd_nil {M : Nat} (h : M < 2 ^ 256) : wd M 0 ||| wd M 1 ||| wd M 2 ||| wd M 3 = 0 ↔ M = 0 := by
 constructor
 ·intro e
  apply Nat.eq_of_testBit_eq; intro i
  rw [Nat.zero_testBit]
  have hb : ∀ k, k < 4 → ∀ j, j < 64 → M.testBit (64 * k + j) = false := by
   intro k hk j hj
   have e' := congrArg (fun x => x.testBit j) e
   simp only [Nat.testBit_or, Nat.zero_testBit, wd_bit, hj, decide_true, Bool.true_and, Bool.or_eq_false_iff] at e'
   rcases (show k = 0 ∨ k = 1 ∨ k = 2 ∨ k = 3 by omega) with rfl | rfl | rfl | rfl
   ·exact e'.1.1.1
   ·exact e'.1.1.2
   ·exact e'.1.2
   ·exact e'.2
  by_cases hi : i < 256
  ·have := hb (i / 64) (by omega) (i % 64) (Nat.mod_lt _ (by decide))
   rwa [Nat.div_add_mod] at this
  ·exact Nat.testBit_lt_two_pow (Nat.lt_of_lt_of_le h (Nat.pow_le_pow_right (n := 2) (by decide) (by omega)))
 ·rintro rfl
  simp only [wd_zero]; rfl
theorem adn_lt {M N : Nat} (h : M < 2 ^ 256) : adn M N < 2 ^ 256 := Nat.lt_of_le_of_lt (adn_le M N) h
theorem and_lt {M N : Nat} (h : M < 2 ^ 256) : M &&& N < 2 ^ 256 := Nat.lt_of_le_of_lt Nat.and_le_left h
theorem bit_lt {r : Nat} (h : r < 256) : 2 ^ r < 2 ^ 256 := Nat.pow_lt_pow_right (by decide) h
theorem or_lt {M N : Nat} (h : M < 2 ^ 256) (k : N < 2 ^ 256) : M ||| N < 2 ^ 256 := Nat.or_lt_two_pow h k
theorem two_bit (r i : Nat) : (2 ^ r).testBit i = decide (r = i) := by rw [Nat.testBit_two_pow]
theorem wd_add (M r k : Nat) : wd (M ||| 2 ^ r) k = if k = r / 64 then wd M k ||| 2 ^ (r % 64) else wd M k := by
 apply Nat.eq_of_testBit_eq; intro i
 by_cases hk : k = r / 64
 ·rw [if_pos hk, wd_or, Nat.testBit_or, Nat.testBit_or]
  congr 1
  rw [wd_bit, two_bit, two_bit, hk]
  by_cases hi : i < 64
  ·have e : (r = 64 * (r / 64) + i) ↔ (r % 64 = i) := by omega
   simp [hi, e]
  ·have : ¬ r % 64 = i := by omega
   simp [hi, this]
 ·rw [if_neg hk, wd_or, Nat.testBit_or]
  have : (wd (2 ^ r) k).testBit i = false := by
   rw [wd_bit, two_bit]
   by_cases hi : i < 64
   ·have : ¬ r = 64 * k + i := by omega
    simp [this]
   ·simp [hi]
  rw [this, Bool.or_false]
theorem wd_has (M r : Nat) : ((wd M (r / 64) / 2 ^ (r % 64)) &&& 1 = 1) ↔ M.testBit r = true := by
 have h : (wd M (r / 64)).testBit (r % 64) = M.testBit r := by
  rw [wd_bit, Nat.div_add_mod, decide_eq_true (Nat.mod_lt r (by decide : 0 < 64)), Bool.true_and]
 rw [← h, Nat.and_one_is_mod, Nat.testBit_eq_decide_div_mod_eq, decide_eq_true_iff]
def rowM : List Nat → Nat
 | [] => 0
 | r :: l => 2 ^ r ||| rowM l
theorem rowM_bit (l : List Nat) (i : Nat) : (rowM l).testBit i = decide (i ∈ l) := by
 induction l with
 | nil => simp [rowM]
 | cons r l ih =>
  rw [rowM, Nat.testBit_or, ih, two_bit]
  by_cases h : r = i
  ·subst h; simp
  ·have : ¬ i = r := fun e => h e.symm
   simp [h, this]
theorem rowM_lt {l : List Nat} (h : ∀ r ∈ l, r < 256) : rowM l < 2 ^ 256 := by
 induction l with
 | nil => exact Nat.two_pow_pos 256
 | cons r l ih => exact or_lt (bit_lt (h r (List.mem_cons_self ..))) (ih fun x hx => h x (List.mem_cons_of_mem _ hx))
theorem rowM_append (l : List Nat) (r : Nat) : rowM (l ++ [r]) = rowM l ||| 2 ^ r := by
 apply Nat.eq_of_testBit_eq; intro i
 rw [Nat.testBit_or, rowM_bit, rowM_bit, two_bit]
 by_cases h : r = i
 ·subst h; simp
 ·have : ¬ i = r := fun e => h e.symm
  simp [h, this]
theorem adn_nil {M N : Nat} : adn M N = 0 ↔ ∀ i, M.testBit i = true → N.testBit i = true := by
 constructor
 ·intro e i hi
  have := congrArg (fun x => x.testBit i) e
  simp only [adn_bit, Nat.zero_testBit, hi, Bool.true_and] at this
  simpa using this
 ·intro h
  apply Nat.eq_of_testBit_eq; intro i
  rw [adn_bit, Nat.zero_testBit]
  cases hm : M.testBit i with
  | false => rfl
  | true => rw [h i hm]; rfl
theorem and_nil {M N : Nat} : M &&& N ≠ 0 ↔ ∃ i, M.testBit i = true ∧ N.testBit i = true := by
 constructor
 ·intro e
  refine Classical.byContradiction fun hc => e ?_
  apply Nat.eq_of_testBit_eq; intro i
  rw [Nat.testBit_and, Nat.zero_testBit]
  cases hm : M.testBit i with
  | false => rfl
  | true =>
   cases hn : N.testBit i with
   | false => rfl
   | true => exact absurd ⟨i, hm, hn⟩ hc
 ·rintro ⟨i, hm, hn⟩ e
  have := congrArg (fun x => x.testBit i) e
  simp only [Nat.testBit_and, hm, hn, Nat.zero_testBit] at this
  cases this
def setL (M : Nat) : List Value := [.int .u64 (wd M 0 : Nat), .int .u64 (wd M 1 : Nat), .int .u64 (wd M 2 : Nat), .int .u64 (wd M 3 : Nat)]
theorem eq_of_strict {α : Type} {lt : α → α → Prop} (irr : ∀ a, ¬ lt a a) (asym : ∀ a b, lt a b → ¬ lt b a) : ∀ l1 l2 : List α, l1.Pairwise lt → l2.Pairwise lt → (∀ x, x ∈ l1 ↔ x ∈ l2) → l1 = l2
 | [], [], _, _, _ => rfl
 | [], b :: m, _, _, h => absurd ((h b).2 (List.mem_cons_self ..)) (by simp)
 | a :: l, [], _, _, h => absurd ((h a).1 (List.mem_cons_self ..)) (by simp)
 | a :: l, b :: m, h1, h2, h => by
  obtain ⟨ha, k1⟩ := List.pairwise_cons.1 h1
  obtain ⟨hb, k2⟩ := List.pairwise_cons.1 h2
  have hab : a = b := by
   rcases List.mem_cons.1 ((h a).1 (List.mem_cons_self ..)) with e | e
   ·exact e
   ·rcases List.mem_cons.1 ((h b).2 (List.mem_cons_self ..)) with e' | e'
    ·exact e'.symm
    ·exact absurd (ha b e') (asym _ _ (hb a e))
  subst hab
  congr 1
  refine eq_of_strict irr asym l m k1 k2 fun x => ⟨fun hx => ?_, fun hx => ?_⟩
  ·rcases List.mem_cons.1 ((h x).1 (List.mem_cons_of_mem _ hx)) with e | e
   ·subst e; exact absurd (ha _ hx) (irr _)
   ·exact e
  ·rcases List.mem_cons.1 ((h x).2 (List.mem_cons_of_mem _ hx)) with e | e
   ·subst e; exact absurd (hb _ hx) (irr _)
   ·exact e
def cRows (n c v : Nat) : List Nat := (List.range (2 ^ n)).filter fun r => r &&& c == v
def cM (n c v : Nat) : Nat := rowM (cRows n c v)
theorem cRows_mem {n c v r : Nat} : r ∈ cRows n c v ↔ r < 2 ^ n ∧ r &&& c = v := by
 unfold cRows; rw [List.mem_filter, List.mem_range, beq_iff_eq]
theorem pow_le8 {n : Nat} (h : n ≤ 8) : 2 ^ n ≤ 256 := by
 have := Nat.pow_le_pow_right (n := 2) (by decide) h
 simpa using this
theorem cM_lt {n c v : Nat} (h : n ≤ 8) : cM n c v < 2 ^ 256 := rowM_lt fun r hr => Nat.lt_of_lt_of_le (cRows_mem.1 hr).1 (pow_le8 h)
theorem cM_bit (n c v r : Nat) : (cM n c v).testBit r = true ↔ r < 2 ^ n ∧ r &&& c = v := by
 unfold cM; rw [rowM_bit, decide_eq_true_iff, cRows_mem]
def impB (n may c v : Nat) : Bool := adn (cM n c v) may == 0
theorem impB_iff {n may c v : Nat} : impB n may c v = true ↔ ∀ r, r < 2 ^ n → r &&& c = v → may.testBit r = true := by
 unfold impB
 rw [beq_iff_eq, adn_nil]
 exact ⟨fun h r h1 h2 => h r ((cM_bit n c v r).2 ⟨h1, h2⟩), fun h r hr => h r ((cM_bit n c v r).1 hr).1 ((cM_bit n c v r).1 hr).2⟩
def prP (n on may c v : Nat) : Prop := impB n may c v = true ∧ cM n c v &&& on ≠ 0 ∧ ∀ i, i < 8 → c.testBit i = true → impB n may (adn c (2 ^ i)) (adn v (2 ^ i)) = false
instance (n on may c v : Nat) : Decidable (prP n on may c v) := by unfold prP; infer_instance
def prV (n on may c : Nat) : List Nat := (List.range (c + 1)).filter fun v => decide (adn v c = 0 ∧ prP n on may c v)
def prF (n on may : Nat) : List (Nat × Nat) := (List.range (2 ^ n)).flatMap fun c => (prV n on may c).map fun v => (c, v)
def popc (c : Nat) : Nat := (List.range 8).countP fun i => c.testBit i
def prS (n on may : Nat) : List (Nat × Nat) := (List.range (n + 1)).flatMap fun k => (List.range (2 ^ n)).flatMap fun c => if popc c = k then (prV n on may c).map fun v => (c, v) else []
def cLt (a b : Nat × Nat) : Prop := popc a.1 < popc b.1 ∨ popc a.1 = popc b.1 ∧ (a.1 < b.1 ∨ a.1 = b.1 ∧ a.2 < b.2)
theorem cLt_irr (a : Nat × Nat) : ¬ cLt a a := by unfold cLt; omega
theorem cLt_asym (a b : Nat × Nat) : cLt a b → ¬ cLt b a := by unfold cLt; omega
theorem cLt_tri {a b : Nat × Nat} (h : ¬ cLt b a) (hne : a ≠ b) : cLt a b := by
 unfold cLt at h ⊢
 have : ¬ (a.1 = b.1 ∧ a.2 = b.2) := fun k => hne (Prod.ext k.1 k.2)
 omega
theorem prV_mem {n on may c v : Nat} : v ∈ prV n on may c ↔ v ≤ c ∧ adn v c = 0 ∧ prP n on may c v := by
 unfold prV; rw [List.mem_filter, List.mem_range, decide_eq_true_iff, Nat.lt_succ_iff]
theorem prF_mem {n on may : Nat} {x : Nat × Nat} : x ∈ prF n on may ↔ x.1 < 2 ^ n ∧ x.2 ∈ prV n on may x.1 := by
 unfold prF
 simp only [List.mem_flatMap, List.mem_range, List.mem_map]
 constructor
 ·rintro ⟨c, hc, v, hv, rfl⟩; exact ⟨hc, hv⟩
 ·rintro ⟨h1, h2⟩; exact ⟨x.1, h1, x.2, h2, rfl⟩
theorem popc_le (n c : Nat) (h : c < 2 ^ n) (hn : n ≤ 8) : popc c ≤ n := by
 unfold popc
 have hs : (List.range 8).countP (fun i => c.testBit i) = (List.range n ++ (List.range (8 - n)).map (fun i => n + i)).countP (fun i => c.testBit i) := by
  rw [← List.range_add]; congr 2; omega
 rw [hs, List.countP_append]
 have h0 : ((List.range (8 - n)).map (fun i => n + i)).countP (fun i => c.testBit i) = 0 := by
  rw [List.countP_eq_zero]
  intro i hi
  obtain ⟨j, _, rfl⟩ := List.mem_map.1 hi
  rw [Nat.testBit_lt_two_pow (Nat.lt_of_lt_of_le h (Nat.pow_le_pow_right (n := 2) (by decide) (show n ≤ n + j by omega)))]
  simp
 rw [h0]
 have := List.countP_le_length (p := fun i => c.testBit i) (l := List.range n)
 simpa using this
theorem prS_mem {n on may : Nat} (hn : n ≤ 8) {x : Nat × Nat} : x ∈ prS n on may ↔ x ∈ prF n on may := by
 rw [prF_mem]
 unfold prS
 simp only [List.mem_flatMap, List.mem_range]
 constructor
 ·rintro ⟨k, hk, c, hc, h⟩
  split at h
  ·obtain ⟨v, hv, rfl⟩ := List.mem_map.1 h; exact ⟨hc, hv⟩
  ·cases h
 ·rintro ⟨h1, h2⟩
  exact ⟨popc x.1, Nat.lt_succ_of_le (popc_le n _ h1 hn), x.1, h1, by rw [if_pos rfl]; exact List.mem_map.2 ⟨x.2, h2, rfl⟩⟩
theorem prV_sorted (n on may c : Nat) : (prV n on may c).Pairwise (· < ·) := List.Pairwise.filter _ List.pairwise_lt_range
theorem prS_sorted (n on may : Nat) : (prS n on may).Pairwise cLt := by
 unfold prS
 rw [List.pairwise_flatMap]
 refine ⟨fun k _ => ?_, List.pairwise_lt_range.imp ?_⟩
 ·rw [List.pairwise_flatMap]
  refine ⟨fun c _ => ?_, List.pairwise_lt_range.imp ?_⟩
  ·split
   ·rw [List.pairwise_map]
    exact (prV_sorted n on may c).imp fun h => .inr ⟨rfl, .inr ⟨rfl, h⟩⟩
   ·exact List.Pairwise.nil
  ·intro c c' hc x hx y hy
   split at hx
   ·rename_i h1
    split at hy
    ·rename_i h2
     obtain ⟨v, _, rfl⟩ := List.mem_map.1 hx
     obtain ⟨u, _, rfl⟩ := List.mem_map.1 hy
     exact .inr ⟨h1.trans h2.symm, .inl hc⟩
    ·cases hy
   ·cases hx
 ·intro k k' hk x hx y hy
  obtain ⟨c, _, hc⟩ := List.mem_flatMap.1 hx
  obtain ⟨c', _, hc'⟩ := List.mem_flatMap.1 hy
  split at hc
  ·rename_i h1
   split at hc'
   ·rename_i h2
    obtain ⟨v, _, rfl⟩ := List.mem_map.1 hc
    obtain ⟨u, _, rfl⟩ := List.mem_map.1 hc'
    exact .inl (by dsimp only; omega)
   ·cases hc'
  ·cases hc
theorem prF_sorted (n on may : Nat) : (prF n on may).Pairwise (fun a b => a ≠ b) := by
 unfold prF
 rw [List.pairwise_flatMap]
 refine ⟨fun c _ => ?_, List.pairwise_lt_range.imp ?_⟩
 ·rw [List.pairwise_map]
  exact (prV_sorted n on may c).imp fun h e => by cases e; exact Nat.lt_irrefl _ h
 ·intro c c' hc x hx y hy
  obtain ⟨v, _, rfl⟩ := List.mem_map.1 hx
  obtain ⟨u, _, rfl⟩ := List.mem_map.1 hy
  intro e
  cases e
  exact Nat.lt_irrefl _ hc
theorem prS_of {n on may : Nat} (hn : n ≤ 8) {l : List (Nat × Nat)} (hp : l.Perm (prF n on may)) (hs : l.Pairwise fun a b => ¬ cLt b a) : l = prS n on may := by
 refine eq_of_strict cLt_irr cLt_asym _ _ ?_ (prS_sorted n on may) fun x => (hp.mem_iff).trans (prS_mem hn).symm
 have hnd : l.Pairwise (fun a b => a ≠ b) := (hp.symm.pairwise_iff (fun h => h.symm)).1 (prF_sorted n on may)
 exact (hs.and hnd).imp fun h => cLt_tri h.1 h.2
theorem low_fact : ∀ r : Fin 256, r.val ≠ 0 → ∃ i : Fin 8, bits .and .i64 (r.val : Int) (IntKind.i64.wrap (-(r.val : Int))) = ((2 ^ i.val : Nat) : Int) ∧ r.val.testBit i.val = true ∧ r.val &&& (r.val - 1) = adn r.val (2 ^ i.val) := by decide +kernel
theorem low_of {r : Nat} (h : r < 256) (h0 : r ≠ 0) : ∃ i, i < 8 ∧ bits .and .i64 (r : Int) (IntKind.i64.wrap (-(r : Int))) = ((2 ^ i : Nat) : Int) ∧ r.testBit i = true ∧ r &&& (r - 1) = adn r (2 ^ i) := by
 obtain ⟨i, hi⟩ := low_fact ⟨r, h⟩ h0
 exact ⟨i.val, i.isLt, hi⟩
def togB (n may a b : Nat) : Bool := impB n may (adn (2 ^ n - 1) (a ^^^ b)) (a &&& adn (2 ^ n - 1) (a ^^^ b))
def apGo (rec : List Nat → List Nat → List Nat → List Nat) (tg : Nat → Nat → Bool) (chosen : List Nat) : List Nat → List Nat → List Nat
 | best, [] => best
 | best, row :: r => if chosen.length + (r.length + 1) ≤ best.length then best else apGo rec tg chosen (rec best (chosen ++ [row]) (r.filter fun x => !tg row x)) r
def apSeek (tg : Nat → Nat → Bool) : Nat → List Nat → List Nat → List Nat → List Nat
 | 0, best, _, _ => best
 | f + 1, best, chosen, rest => apGo (apSeek tg f) tg chosen (if best.length < chosen.length then chosen else best) rest
def apL (n may : Nat) (on : List Nat) : List Nat := apSeek (togB n may) (on.length + 1) [] [] on
def lsRow (P : List (Nat × Nat)) (have_ : Nat) : List Nat → Option (Nat × Nat) → Option (Nat × Nat)
 | [], s => s
 | x :: r, s => lsRow P have_ r (if have_.testBit x then s else
   let k := P.countP fun p => p.1.testBit x
   match s with
   | none => some (x, k)
   | some (y, l) => if k < l then some (x, k) else some (y, l))
def lexLt : List Nat → List Nat → Bool
 | [], [] => false
 | [], _ :: _ => true
 | _ :: _, [] => false
 | a :: l, b :: m => if a = b then lexLt l m else decide (a < b)
def insN (x : Nat) : List Nat → List Nat
 | [] => [x]
 | y :: l => if x ≤ y then x :: y :: l else y :: insN x l
def sortN (l : List Nat) : List Nat := l.foldr insN []
abbrev LsS := Option (List Nat × Nat)
def lsCut : LsS → List Nat → Nat → Bool
 | none, _, _ => false
 | some (b, k), ch, n => decide (b.length < ch.length ∨ ch.length = b.length ∧ k < n)
def lsEnd : LsS → List Nat → Nat → LsS
 | none, ch, n => some (sortN ch, n)
 | some (b, k), ch, n => if ch.length < b.length ∨ ch.length = b.length ∧ (n < k ∨ n = k ∧ lexLt (sortN ch) b = true) then some (sortN ch, n) else some (b, k)
def lsFull : LsS → List Nat → Bool
 | none, _ => false
 | some (b, _), ch => decide (b.length ≤ ch.length)
def lsGo (rec : LsS → List Nat → Nat → Nat → LsS) (row : Nat) (chosen : List Nat) (have_ count : Nat) : List (Nat × Nat) → Nat → LsS → LsS
 | [], _, s => s
 | p :: r, i, s => lsGo rec row chosen have_ count r (i + 1) (if p.1.testBit row then rec s (chosen ++ [i]) (have_ ||| p.1) (count + p.2) else s)
def lsSeek (P : List (Nat × Nat)) (on : List Nat) : Nat → LsS → List Nat → Nat → Nat → LsS
 | 0, s, _, _, _ => s
 | f + 1, s, chosen, have_, count =>
  if lsCut s chosen count then s else
  match lsRow P have_ on none with
  | none => lsEnd s chosen count
  | some (row, _) => if lsFull s chosen then s else lsGo (lsSeek P on f) row chosen have_ count P 0 s
def lsP (n : Nat) (L : List (Nat × Nat)) : List (Nat × Nat) := L.map fun x => (cM n x.1 x.2, popc x.1)
def lsL (n may : Nat) (on : List Nat) : List (Nat × Nat) :=
 let L := prS n (rowM on) may
 match lsSeek (lsP n L) on (on.length + 1) none [] 0 0 with
 | none => []
 | some (b, _) => b.map fun i => L.getD i (0, 0)
def prK (n on may k : Nat) : List (Nat × Nat) := (List.range k).flatMap fun c => (prV n on may c).map fun v => (c, v)
theorem prK_succ (n on may k : Nat) : prK n on may (k + 1) = prK n on may k ++ (prV n on may k).map fun v => (k, v) := by
 unfold prK; rw [List.range_succ, List.flatMap_append, List.flatMap_cons, List.flatMap_nil, List.append_nil]
theorem prK_all (n on may : Nat) : prK n on may (2 ^ n) = prF n on may := rfl
def prJ (n on may c j : Nat) : List (Nat × Nat) := ((List.range j).filter fun v => decide (adn v c = 0 ∧ prP n on may c v)).map fun v => (c, v)
theorem prJ_all (n on may c : Nat) : prJ n on may c (c + 1) = (prV n on may c).map fun v => (c, v) := rfl
theorem prJ_yes {n on may c j : Nat} (h : adn j c = 0 ∧ prP n on may c j) : prJ n on may c (j + 1) = prJ n on may c j ++ [(c, j)] := by
 unfold prJ
 rw [List.range_succ, List.filter_append, List.map_append, List.filter_cons, if_pos (decide_eq_true h), List.filter_nil]
 rfl
theorem prJ_no {n on may c j : Nat} (h : ¬ (adn j c = 0 ∧ prP n on may c j)) : prJ n on may c (j + 1) = prJ n on may c j := by
 unfold prJ
 rw [List.range_succ, List.filter_append, List.map_append, List.filter_cons, if_neg (by rw [decide_eq_false h]; simp), List.filter_nil]
 simp
def LeastI (n may c v rest : Nat) (least : Bool) : Prop :=
 (∀ i, rest.testBit i = true → c.testBit i = true) ∧
 (least = true → ∀ i, c.testBit i = true → rest.testBit i = false → impB n may (adn c (2 ^ i)) (adn v (2 ^ i)) = false) ∧
 (least = false → ∃ i, c.testBit i = true ∧ impB n may (adn c (2 ^ i)) (adn v (2 ^ i)) = true)
theorem LeastI.start (n may c v : Nat) : LeastI n may c v c true := by
 refine ⟨fun _ h => h, fun _ i h h' => ?_, fun h => by cases h⟩
 rw [h] at h'; cases h'
theorem LeastI.next {n may c v rest i : Nat} (h : LeastI n may c v rest true) (hi : rest.testBit i = true) : LeastI n may c v (adn rest (2 ^ i)) (!impB n may (adn c (2 ^ i)) (adn v (2 ^ i))) := by
 obtain ⟨h1, h2, h3⟩ := h
 refine ⟨fun j hj => ?_, fun hl j hc hj => ?_, fun hl => ⟨i, h1 i hi, ?_⟩⟩
 ·rw [adn_bit] at hj
  exact h1 j (Bool.and_eq_true_iff.1 hj).1
 ·rw [adn_bit, two_bit] at hj
  by_cases e : i = j
  ·subst e
   simpa using hl
  ·have : rest.testBit j = false := by simpa [e] using hj
   exact h2 rfl j hc this
 ·simpa using hl
theorem LeastI.done {n may c v : Nat} {rest : Nat} {least : Bool} (h : LeastI n may c v rest least) (h0 : rest = 0 ∨ least = false) (hc : c < 256) : least = true ↔ ∀ i, i < 8 → c.testBit i = true → impB n may (adn c (2 ^ i)) (adn v (2 ^ i)) = false := by
 obtain ⟨h1, h2, h3⟩ := h
 have hc8 : ∀ i, c.testBit i = true → i < 8 := fun i hi => by
  refine Classical.byContradiction fun hn => ?_
  have := Nat.testBit_lt_two_pow (x := c) (i := i) (Nat.lt_of_lt_of_le hc (by
   have := Nat.pow_le_pow_right (n := 2) (by decide) (show 8 ≤ i by omega)
   simpa using this))
  rw [this] at hi; cases hi
 constructor
 ·intro hl i _ hi
  rcases h0 with rfl | h0
  ·exact h2 hl i hi (Nat.zero_testBit i)
  ·rw [hl] at h0; cases h0
 ·intro hall
  cases hl : least with
  | true => rfl
  | false =>
   obtain ⟨i, hi, hb⟩ := h3 hl
   rw [hall i (hc8 i hi) hi] at hb; cases hb
theorem adn_less {r i : Nat} (h : r.testBit i = true) : adn r (2 ^ i) < r := by
 refine Nat.lt_of_le_of_ne (adn_le _ _) fun e => ?_
 have := congrArg (fun x => x.testBit i) e
 simp only [adn_bit, two_bit, h, decide_true] at this
 cases this
def lexB (a b : List Nat) : Prop := ∃ p x y s t, a = p ++ x :: s ∧ b = p ++ y :: t ∧ x < y
def aptL (tg : Nat → Nat → Bool) (l : List Nat) : Prop := l.Pairwise fun a b => tg a b = false
def apX (tg : Nat → Nat → Bool) (chosen rest t : List Nat) : Prop := ∃ u, u.Sublist rest ∧ aptL tg u ∧ t = chosen ++ u
def apR (best : List Nat) (S : List Nat → Prop) (r : List Nat) : Prop :=
 (r = best ∧ ∀ t, S t → t.length ≤ best.length) ∨ (best.length < r.length ∧ S r ∧ ∀ t, S t → t.length ≤ r.length ∧ (t.length = r.length → t = r ∨ lexB r t))
theorem apR.congr {best r : List Nat} {S S' : List Nat → Prop} (h : apR best S r) (hs : ∀ t, S t ↔ S' t) : apR best S' r := by
 obtain rfl : S = S' := funext fun t => propext (hs t)
 exact h
theorem apR.comp {best r1 r2 : List Nat} {S1 S2 : List Nat → Prop} (h1 : apR best S1 r1) (h2 : apR r1 S2 r2) (ho : ∀ a b, S1 a → S2 b → a.length = b.length → lexB a b) : apR best (fun t => S1 t ∨ S2 t) r2 := by
 rcases h1 with ⟨rfl, k1⟩ | ⟨l1, s1, k1⟩
 ·rcases h2 with ⟨rfl, k2⟩ | ⟨l2, s2, k2⟩
  ·exact .inl ⟨rfl, fun t ht => ht.elim (k1 t) (k2 t)⟩
  ·refine .inr ⟨l2, .inr s2, fun t ht => ht.elim (fun h => ?_) (k2 t)⟩
   have := k1 t h
   exact ⟨by omega, fun e => by omega⟩
 ·rcases h2 with ⟨rfl, k2⟩ | ⟨l2, s2, k2⟩
  ·refine .inr ⟨l1, .inl s1, fun t ht => ht.elim (k1 t) (fun h => ⟨k2 t h, fun e => .inr (ho _ _ s1 h e.symm)⟩)⟩
  ·refine .inr ⟨by omega, .inr s2, fun t ht => ht.elim (fun h => ?_) (k2 t)⟩
   have := (k1 t h).1
   exact ⟨by omega, fun e => by omega⟩
theorem apGo_spec (tg : Nat → Nat → Bool) (f : Nat) (chosen : List Nat) (hrec : ∀ best ch left, left.length < f → left.Pairwise (· < ·) → apR best (apX tg ch left) (apSeek tg f best ch left)) :
  ∀ rest best, rest.length ≤ f → rest.Pairwise (· < ·) → apR best (fun t => ∃ u, u ≠ [] ∧ u.Sublist rest ∧ aptL tg u ∧ t = chosen ++ u) (apGo (apSeek tg f) tg chosen best rest)
 | [], best, _, _ => .inl ⟨rfl, fun t ⟨u, h1, h2, _, _⟩ => absurd (List.sublist_nil.1 h2) h1⟩
 | row :: r, best, hl, hs => by
  obtain ⟨hrow, hsr⟩ := List.pairwise_cons.1 hs
  rw [apGo]
  by_cases hc : chosen.length + (r.length + 1) ≤ best.length
  ·rw [if_pos hc]
   refine .inl ⟨rfl, fun t ⟨u, _, h2, _, h4⟩ => ?_⟩
   have := h2.length_le
   rw [h4, List.length_append]
   simp only [List.length_cons] at this
   omega
  ·rw [if_neg hc]
   simp only [List.length_cons] at hl
   have h1 := hrec best (chosen ++ [row]) (r.filter fun x => !tg row x) (by have := List.length_filter_le (fun x => !tg row x) r; omega) (hsr.filter _)
   have h2 := apGo_spec tg f chosen hrec r (apSeek tg f best (chosen ++ [row]) (r.filter fun x => !tg row x)) (by omega) hsr
   refine (h1.comp h2 ?_).congr fun t => ⟨?_, ?_⟩
   ·rintro a b ⟨u, _, _, rfl⟩ ⟨v, v1, v2, _, rfl⟩ _
    cases v with
    | nil => exact absurd rfl v1
    | cons y v =>
     have hy : y ∈ r := v2.subset (List.mem_cons_self ..)
     exact ⟨chosen, row, y, u, v, by simp, rfl, hrow y hy⟩
   ·rintro (⟨u, u1, u2, rfl⟩ | ⟨u, u1, u2, u3, rfl⟩)
    ·refine ⟨row :: u, by simp, (u1.trans List.filter_sublist).cons_cons row, List.pairwise_cons.2 ⟨fun x hx => ?_, u2⟩, by simp⟩
     have := List.mem_filter.1 (u1.subset hx)
     simpa using this.2
    ·exact ⟨u, u1, u2.cons row, u3, rfl⟩
   ·rintro ⟨u, u1, u2, u3, rfl⟩
    cases u2 with
    | cons _ h => exact .inr ⟨u, u1, h, u3, rfl⟩
    | @cons_cons u' _ _ h =>
     obtain ⟨k1, k2⟩ := List.pairwise_cons.1 u3
     refine .inl ⟨u', ?_, k2, by simp⟩
     have := h.filter (fun x => !tg row x)
     rwa [List.filter_eq_self.2 (fun x hx => by rw [k1 x hx]; rfl)] at this
theorem apSeek_spec (tg : Nat → Nat → Bool) : ∀ f best chosen rest, rest.length < f → rest.Pairwise (· < ·) → apR best (apX tg chosen rest) (apSeek tg f best chosen rest)
 | 0, _, _, _, h, _ => absurd h (Nat.not_lt_zero _)
 | f + 1, best, chosen, rest, h, hs => by
  rw [apSeek]
  have h0 : apR best (fun t => t = chosen) (if best.length < chosen.length then chosen else best) := by
   by_cases hc : best.length < chosen.length
   ·rw [if_pos hc]; exact .inr ⟨hc, rfl, fun t e => by subst e; exact ⟨Nat.le_refl _, fun _ => .inl rfl⟩⟩
   ·rw [if_neg hc]; exact .inl ⟨rfl, fun t e => by subst e; omega⟩
  have h1 := apGo_spec tg f chosen (apSeek_spec tg f) rest (if best.length < chosen.length then chosen else best) (by omega) hs
  refine (h0.comp h1 ?_).congr fun t => ⟨?_, ?_⟩
  ·rintro a b rfl ⟨u, u1, _, _, rfl⟩ e
   rw [List.length_append] at e
   have : u.length ≠ 0 := fun h => u1 (List.length_eq_zero_iff.1 h)
   omega
  ·rintro (rfl | ⟨u, _, u2, u3, rfl⟩)
   ·exact ⟨[], List.nil_sublist _, List.Pairwise.nil, by simp⟩
   ·exact ⟨u, u2, u3, rfl⟩
  ·rintro ⟨u, u1, u2, rfl⟩
   cases u with
   | nil => exact .inl (by simp)
   | cons x u => exact .inr ⟨x :: u, by simp, u1, u2, rfl⟩
def rowsM : List Nat → Nat → List Nat
 | [], _ => []
 | x :: l, m => if m.testBit l.length = true then x :: rowsM l m else rowsM l m
theorem rowsM_sub : ∀ l m, (rowsM l m).Sublist l
 | [], _ => List.Sublist.slnil
 | x :: l, m => by
  rw [rowsM]
  split
  ·exact (rowsM_sub l m).cons_cons x
  ·exact (rowsM_sub l m).cons x
theorem rowsM_mod : ∀ l m k, l.length ≤ k → rowsM l (m % 2 ^ k) = rowsM l m
 | [], _, _, _ => rfl
 | x :: l, m, k, h => by
  simp only [List.length_cons] at h
  rw [rowsM, rowsM, rowsM_mod l m k (by omega), Nat.testBit_mod_two_pow, decide_eq_true (show l.length < k by omega), Bool.true_and]
theorem rowsM_of {l u : List Nat} (h : u.Sublist l) : ∃ m, m < 2 ^ l.length ∧ rowsM l m = u := by
 induction h with
 | slnil => exact ⟨0, by decide, rfl⟩
 | @cons u l x _ ih =>
  obtain ⟨m, h1, h2⟩ := ih
  refine ⟨m, by rw [List.length_cons, Nat.pow_succ]; omega, ?_⟩
  rw [rowsM, if_neg (by rw [Nat.testBit_lt_two_pow h1]; simp), h2]
 | @cons_cons u l x _ ih =>
  obtain ⟨m, h1, h2⟩ := ih
  refine ⟨2 ^ l.length + m, by rw [List.length_cons, Nat.pow_succ]; omega, ?_⟩
  rw [rowsM, if_pos (by rw [Nat.testBit_two_pow_add_eq, Nat.testBit_lt_two_pow h1]; rfl)]
  congr 1
  rw [← h2, ← rowsM_mod l (2 ^ l.length + m) l.length (Nat.le_refl _), Nat.add_mod_left, Nat.mod_eq_of_lt h1]
theorem lexB_irr_aux {a b : List Nat} (h : lexB a b) : a ≠ [] ∧ b ≠ [] := by
 obtain ⟨p, x, y, s, t, rfl, rfl, _⟩ := h
 exact ⟨by simp, by simp⟩
theorem lexB_cons {z : Nat} {a b : List Nat} (h : lexB (z :: a) (z :: b)) : lexB a b := by
 obtain ⟨p, x, y, s, t, h1, h2, h3⟩ := h
 cases p with
 | nil =>
  simp only [List.nil_append, List.cons.injEq] at h1 h2
  omega
 | cons q p =>
  simp only [List.cons_append, List.cons.injEq] at h1 h2
  exact ⟨p, x, y, s, t, h1.2, h2.2, h3⟩
theorem rowsM_lex : ∀ (l : List Nat), l.Pairwise (· < ·) → ∀ a b, a < 2 ^ l.length → b < 2 ^ l.length → lexB (rowsM l a) (rowsM l b) → b < a
 | [], _, _, _, _, _, h => absurd rfl (lexB_irr_aux h).1
 | x :: l, hs, a, b, ha, hb, h => by
  obtain ⟨hx, hl⟩ := List.pairwise_cons.1 hs
  rw [rowsM, rowsM] at h
  rw [List.length_cons, Nat.pow_succ] at ha hb
  have key : ∀ c, c < 2 ^ l.length * 2 → c.testBit l.length = true → 2 ^ l.length ≤ c := fun c _ h => Nat.ge_two_pow_of_testBit h
  have key2 : ∀ c, c < 2 ^ l.length * 2 → c.testBit l.length = false → c < 2 ^ l.length := fun c hc h => by
   refine Classical.byContradiction fun hn => ?_
   have : c.testBit l.length = true := by
    rw [Nat.testBit_eq_decide_div_mod_eq]
    have : c / 2 ^ l.length = 1 := by
     apply Nat.div_eq_of_lt_le <;> omega
    rw [this]; rfl
   rw [h] at this; cases this
  cases ta : a.testBit l.length with
  | true =>
   cases tb : b.testBit l.length with
   | true =>
    rw [ta, tb, if_pos rfl, if_pos rfl] at h
    have h' := lexB_cons h
    have e1 : a = 2 ^ l.length + (a - 2 ^ l.length) := by have := key a ha ta; omega
    have e2 : b = 2 ^ l.length + (b - 2 ^ l.length) := by have := key b hb tb; omega
    have r1 : rowsM l a = rowsM l (a - 2 ^ l.length) := by
     rw [← rowsM_mod l a l.length (Nat.le_refl _), e1, Nat.add_mod_left, Nat.mod_eq_of_lt (by omega), ← e1]
    have r2 : rowsM l b = rowsM l (b - 2 ^ l.length) := by
     rw [← rowsM_mod l b l.length (Nat.le_refl _), e2, Nat.add_mod_left, Nat.mod_eq_of_lt (by omega), ← e2]
    rw [r1, r2] at h'
    have := rowsM_lex l hl _ _ (by omega) (by omega) h'
    omega
   | false =>
    have := key a ha ta
    have := key2 b hb tb
    omega
  | false =>
   cases tb : b.testBit l.length with
   | true =>
    rw [ta, tb, if_neg (by simp), if_pos rfl] at h
    obtain ⟨p, y, z, s, t, h1, h2, h3⟩ := h
    exfalso
    cases p with
    | nil =>
     simp only [List.nil_append, List.cons.injEq] at h1 h2
     have hy : y ∈ l := (rowsM_sub l a).subset (by rw [h1]; exact List.mem_cons_self ..)
     have := hx y hy
     omega
    | cons q p =>
     simp only [List.cons_append, List.cons.injEq] at h1 h2
     have hy : q ∈ l := (rowsM_sub l a).subset (by rw [h1]; exact List.mem_cons_self ..)
     have := hx q hy
     omega
   | false =>
    rw [ta, tb, if_neg (by simp), if_neg (by simp)] at h
    exact rowsM_lex l hl a b (key2 a ha ta) (key2 b hb tb) h
def apW (g : List Nat → Bool) (on : List Nat) : Nat → List Nat
 | 0 => []
 | m + 1 => if (apW g on m).length ≤ (rowsM on m).length ∧ g (rowsM on m) = true then rowsM on m else apW g on m
theorem rowsM_zero : ∀ l, rowsM l 0 = []
 | [] => rfl
 | x :: l => by rw [rowsM, Nat.zero_testBit, if_neg (by simp), rowsM_zero l]
theorem apW_spec (g : List Nat → Bool) (on : List Nat) (h0 : g [] = true) : ∀ M, M ≤ 2 ^ on.length → ∃ a, a < 2 ^ on.length ∧ apW g on M = rowsM on a ∧ g (rowsM on a) = true ∧ ∀ m, m < M → g (rowsM on m) = true → (rowsM on m).length ≤ (rowsM on a).length ∧ ((rowsM on m).length = (rowsM on a).length → m ≤ a)
 | 0, _ => ⟨0, Nat.two_pow_pos _, by rw [rowsM_zero]; rfl, by rw [rowsM_zero]; exact h0, fun _ h => absurd h (Nat.not_lt_zero _)⟩
 | M + 1, hM => by
  obtain ⟨a, a1, a2, a3, a4⟩ := apW_spec g on h0 M (by omega)
  rw [apW]
  by_cases hc : (apW g on M).length ≤ (rowsM on M).length ∧ g (rowsM on M) = true
  ·rw [if_pos hc]
   refine ⟨M, by omega, rfl, hc.2, fun m hm hg => ?_⟩
   rcases Nat.lt_succ_iff_lt_or_eq.1 hm with h | rfl
   ·have := (a4 m h hg).1
    have h2 := hc.1
    rw [a2] at h2
    exact ⟨by omega, fun _ => by omega⟩
   ·exact ⟨Nat.le_refl _, fun _ => Nat.le_refl _⟩
  ·rw [if_neg hc]
   refine ⟨a, a1, a2, a3, fun m hm hg => ?_⟩
   rcases Nat.lt_succ_iff_lt_or_eq.1 hm with h | rfl
   ·exact a4 m h hg
   ·rw [a2] at hc
    have : ¬ (rowsM on a).length ≤ (rowsM on m).length := fun h => hc ⟨h, hg⟩
    exact ⟨by omega, fun _ => by omega⟩
theorem apW_eq (tg : Nat → Nat → Bool) (g : List Nat → Bool) (on : List Nat) (hs : on.Pairwise (· < ·)) (hg : ∀ u, u.Sublist on → (g u = true ↔ aptL tg u)) : apW g on (2 ^ on.length) = apSeek tg (on.length + 1) [] [] on := by
 have hr := apSeek_spec tg (on.length + 1) [] [] on (Nat.lt_succ_self _) hs
 obtain ⟨a, a1, a2, a3, a4⟩ := apW_spec g on ((hg [] (List.nil_sublist _)).2 List.Pairwise.nil) (2 ^ on.length) (Nat.le_refl _)
 rw [a2]
 have hx : apX tg [] on (rowsM on a) := ⟨_, rowsM_sub on a, (hg _ (rowsM_sub on a)).1 a3, rfl⟩
 rcases hr with ⟨h1, h2⟩ | ⟨h1, ⟨u, u1, u2, u3⟩, h3⟩
 ·have := h2 _ hx
  rw [h1]
  exact List.length_eq_zero_iff.1 (Nat.le_zero.1 this)
 ·rw [List.nil_append] at u3
  rw [u3] at h1 h3 ⊢
  obtain ⟨b, b1, b2⟩ := rowsM_of u1
  have k1 := a4 b b1 (by rw [b2]; exact (hg _ u1).2 u2)
  obtain ⟨k2, k3⟩ := h3 _ hx
  rw [b2] at k1
  rcases k3 (by omega) with h | h
  ·exact h
  ·rw [← b2] at h
   have := rowsM_lex on hs _ _ b1 a1 h
   have := k1.2 (by omega)
   omega
theorem and_adn {r c v b : Nat} (h : r &&& c = v) : r &&& adn c b = adn v b := by
 subst h
 apply Nat.eq_of_testBit_eq; intro i
 rw [Nat.testBit_and, adn_bit, adn_bit, Nat.testBit_and, Bool.and_assoc]
theorem imp_prime {n on may : Nat} (hn : n ≤ 8) : ∀ c v, c < 2 ^ n → impB n may c v = true → cM n c v &&& on ≠ 0 → ∃ x ∈ prS n on may, ∀ r, r &&& c = v → r &&& x.1 = x.2 := by
 intro c
 induction c using Nat.strongRecOn with
 | _ c ih =>
  intro v hc hi hm
  by_cases hp : prP n on may c v
  ·obtain ⟨r, h1, -⟩ := and_nil.1 hm
   have hr := (cM_bit n c v r).1 h1
   have hv : adn v c = 0 := adn_nil.2 fun i hv => by
    rw [← hr.2, Nat.testBit_and] at hv
    exact (Bool.and_eq_true_iff.1 hv).2
   refine ⟨(c, v), (prS_mem hn).2 (prF_mem.2 ⟨hc, prV_mem.2 ⟨?_, hv, hp⟩⟩), fun r h => h⟩
   exact Nat.le_of_testBit fun i hi => (adn_nil.1 hv) i hi
  ·have hex : ∃ i, i < 8 ∧ c.testBit i = true ∧ impB n may (adn c (2 ^ i)) (adn v (2 ^ i)) = true := by
    refine Classical.byContradiction fun hne => hp ⟨hi, hm, fun i h8 hb => ?_⟩
    cases hq : impB n may (adn c (2 ^ i)) (adn v (2 ^ i)) with
    | false => rfl
    | true => exact absurd ⟨i, h8, hb, hq⟩ hne
   obtain ⟨i, -, hb, hq⟩ := hex
   have hlt := adn_less hb
   obtain ⟨r, h1, h2⟩ := and_nil.1 hm
   have hr := (cM_bit n c v r).1 h1
   obtain ⟨x, hx, hall⟩ := ih (adn c (2 ^ i)) hlt (adn v (2 ^ i)) (by omega) hq (and_nil.2 ⟨r, (cM_bit _ _ _ r).2 ⟨hr.1, and_adn hr.2⟩, h2⟩)
   exact ⟨x, hx, fun r h => hall r (and_adn h)⟩
theorem tog_care (n a b i : Nat) : (adn (2 ^ n - 1) (a ^^^ b)).testBit i = (decide (i < n) && (a.testBit i == b.testBit i)) := by
 rw [adn_bit, Nat.testBit_two_pow_sub_one, Nat.testBit_xor]
 cases a.testBit i <;> cases b.testBit i <;> rfl
theorem tog_iff {n on may a b : Nat} (hn : n ≤ 8) (ha : a < 2 ^ n) (hon : on.testBit a = true) : togB n may a b = true ↔ ∃ x ∈ prS n on may, a &&& x.1 = x.2 ∧ b &&& x.1 = x.2 := by
 unfold togB
 constructor
 ·intro h
  obtain ⟨x, hx, hall⟩ := imp_prime (on := on) hn _ _ (Nat.lt_of_le_of_lt (adn_le _ _) (Nat.sub_lt (Nat.two_pow_pos n) Nat.one_pos)) h (and_nil.2 ⟨a, (cM_bit _ _ _ a).2 ⟨ha, rfl⟩, hon⟩)
  refine ⟨x, hx, hall a rfl, hall b ?_⟩
  apply Nat.eq_of_testBit_eq; intro i
  rw [Nat.testBit_and, Nat.testBit_and, tog_care]
  cases a.testBit i <;> cases b.testBit i <;> simp
 ·rintro ⟨x, hx, h1, h2⟩
  obtain ⟨hc, hv⟩ := prF_mem.1 ((prS_mem hn).1 hx)
  obtain ⟨-, -, hi, -⟩ := prV_mem.1 hv
  rw [impB_iff] at hi ⊢
  intro r hr hrc
  refine hi r hr ?_
  rw [← h1]
  apply Nat.eq_of_testBit_eq; intro i
  rw [Nat.testBit_and, Nat.testBit_and]
  cases hci : x.1.testBit i with
  | false => simp
  | true =>
   have hin : i < n := by
    refine Classical.byContradiction fun hne => ?_
    have := Nat.testBit_lt_two_pow (x := x.1) (i := i) (Nat.lt_of_lt_of_le hc (Nat.pow_le_pow_right (n := 2) (by decide) (show n ≤ i by omega)))
    rw [this] at hci; cases hci
   have e1 := congrArg (fun z => z.testBit i) (h1.trans h2.symm)
   simp only [Nat.testBit_and, hci, Bool.and_true] at e1
   have e2 := congrArg (fun z => z.testBit i) hrc
   simp only [Nat.testBit_and, tog_care, hin, e1, decide_true, Bool.true_and, beq_self_eq_true, Bool.and_true] at e2
   rw [e2, e1]
theorem count_pair {α : Type} (f : α → Bool) : ∀ l : List α, l.countP f ≤ 1 ↔ l.Pairwise fun a b => ¬ (f a = true ∧ f b = true)
 | [] => by simp
 | a :: l => by
  rw [List.pairwise_cons, ← count_pair f l, List.countP_cons]
  cases ha : f a with
  | false => simp
  | true =>
   have h0 : l.countP f = 0 ↔ ∀ b ∈ l, ¬ f b = true := by rw [List.countP_eq_zero]
   constructor
   ·intro h
    rw [if_pos rfl] at h
    have h0' : l.countP f = 0 := by omega
    exact ⟨fun b hb hh => (h0.1 h0') b hb hh.2, by omega⟩
   ·rintro ⟨h1, h2⟩
    have : l.countP f = 0 := h0.2 fun b hb hh => h1 b hb ⟨rfl, hh⟩
    rw [this, if_pos rfl]
    exact Nat.le_refl _
def apartB (P : List (Nat × Nat)) (l : List Nat) : Bool := P.all fun x => decide (l.countP (fun r => r &&& x.1 == x.2) ≤ 1)
theorem apart_iff {n may : Nat} (hn : n ≤ 8) (on u : List Nat) (hu : ∀ r ∈ u, r < 2 ^ n ∧ r ∈ on) : apartB (prS n (rowM on) may) u = true ↔ aptL (togB n may) u := by
 unfold apartB aptL
 rw [List.all_eq_true]
 constructor
 ·intro h
  refine List.pairwise_iff_forall_sublist.2 fun {a b} hab => ?_
  have ha := hu a (hab.subset (by simp))
  cases ht : togB n may a b with
  | false => rfl
  | true =>
   obtain ⟨x, hx, h1, h2⟩ := (tog_iff (on := rowM on) hn ha.1 (by rw [rowM_bit]; exact decide_eq_true ha.2)).1 ht
   have h3 := (count_pair _ u).1 (of_decide_eq_true (h x hx))
   exact absurd ⟨beq_iff_eq.2 h1, beq_iff_eq.2 h2⟩ (List.pairwise_iff_forall_sublist.1 h3 hab)
 ·intro h x hx
  refine decide_eq_true ((count_pair _ u).2 (List.pairwise_iff_forall_sublist.2 fun {a b} hab hh => ?_))
  have ha := hu a (hab.subset (by simp))
  have h1 := List.pairwise_iff_forall_sublist.1 h hab
  have h2 := (tog_iff (on := rowM on) hn ha.1 (by rw [rowM_bit]; exact decide_eq_true ha.2)).2 ⟨x, hx, beq_iff_eq.1 hh.1, beq_iff_eq.1 hh.2⟩
  rw [h1] at h2
  cases h2
theorem apL_eq {n may : Nat} (hn : n ≤ 8) (on : List Nat) (hs : on.Pairwise (· < ·)) (ho : ∀ r ∈ on, r < 2 ^ n) : apW (apartB (prS n (rowM on) may)) on (2 ^ on.length) = apL n may on :=
 apW_eq _ _ on hs fun u hu => apart_iff hn on u fun r hr => ⟨ho r (hu.subset hr), hu.subset hr⟩
end Go.Proofs.YtaegjpancbmppaaGreatDoor
