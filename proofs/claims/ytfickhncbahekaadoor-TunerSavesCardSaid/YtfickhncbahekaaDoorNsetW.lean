/- Package noteset and its reference: with, With, Has, Without, Within, CheckCompass, Right. Conditions: the words of a set are of 64 bits. -/
import Derived.Test.YtfickhncbahekaaDoorNset
import Derived.Test.YtfickhncbahekaaDoorProg
import Derived.RegionTactic
import Derived.ChangeAlike
import Derived.IntWalk
import Derived.Deep.QuietTactic
import Derived.BigQuiet
import Derived.Deep.RegionHeld3
namespace Go.Proofs.YtfickhncbahekaaDoor
open Go.RowKit

theorem or_pow {a n : Nat} (ha : a < 18446744073709551616) (h : n < 64) : Go.bits .or .u64 (a : Int) (IntKind.u64.wrap (2 ^ n)) = ((a ||| 2 ^ n : Nat) : Int) := by
  have := pow_lt64 h
  have e : ((2 : Int) ^ n) = ((2 ^ n : Nat) : Int) := (Int.natCast_pow 2 n).symm
  rw [e, wrapU64 _ (Int.natCast_nonneg _) (by have h2 := Int.ofNat_lt.2 this; exact h2)]
  exact or_u64 ha this
set_option maxRecDepth 100000 in
set_option maxHeartbeats 1000000 in
theorem with_any (s : Nat × Nat) (n : Nat) (w : World) (hs : NOk s) (hn : n < 128) :
    Calls Tryd.prog 66 #[nv s, .int .i64 n] w fun e w' => e = .returned (nv (withN s n)) ∧ Below w.heap.size w w' := by
  obtain ⟨a, b⟩ := s
  unfold NOk at hs
  unfold nv
  dsimp only at hs ⊢
  obtain ⟨ha, hb⟩ := hs
  by_cases h : n < 64
  · have HE := Lib.hid (show withN (a, b) n = (a ||| 2 ^ n, b) from if_pos h)
    have HO := Lib.hid (or_pow ha h)
    go_enter Tryd.func66, Tryd.ntmps66
    go_wp2
    go_region
    go_wp2
    refine bodyPost_ret (v := .agg #[.int .u64 (Go.bits .or .u64 (a : Int) (IntKind.u64.wrap (2 ^ n))), .int .u64 b]) (by simp [results, Tryd.results66, go_sem]) rfl ⟨by rw [HE.out, HO.out], ?_⟩
    exact bw_drew (bw_new (bw_new (Below.refl _ _) _) _)
  · have HE := Lib.hid (show withN (a, b) n = (a, b ||| 2 ^ (n - 64)) from if_neg h)
    obtain ⟨m, hm⟩ : ∃ m, m = n - 64 := ⟨_, rfl⟩
    have HO := Lib.hid (or_pow (n := m) hb (by omega))
    rw [← hm] at HE
    obtain rfl : n = m + 64 := by omega
    clear hm
    go_enter Tryd.func66, Tryd.ntmps66
    go_wp2
    go_region
    go_wp2
    refine bodyPost_ret (v := .agg #[.int .u64 a, .int .u64 (Go.bits .or .u64 (b : Int) (IntKind.u64.wrap (2 ^ m)))]) (by simp [results, Tryd.results66, go_sem]) rfl ⟨by rw [HE.out, HO.out], ?_⟩
    exact bw_drew (bw_new (bw_new (Below.refl _ _) _) _)

set_option maxRecDepth 100000 in
set_option maxHeartbeats 1000000 in
theorem refWith_any (s : Nat × Nat) (n : Nat) (w : World) (hs : NOk s) (hn : n < 128) :
    Calls Tryd.prog 50 #[nv s, .int .i64 n] w fun e w' => e = .returned (nv (withN s n)) ∧ Below w.heap.size w w' := by
  obtain ⟨a, b⟩ := s
  unfold NOk at hs
  unfold nv
  dsimp only at hs ⊢
  obtain ⟨ha, hb⟩ := hs
  by_cases h : n < 64
  · have HE := Lib.hid (show withN (a, b) n = (a ||| 2 ^ n, b) from if_pos h)
    have HO := Lib.hid (or_pow ha h)
    go_enter Tryd.func50, Tryd.ntmps50
    go_wp2
    refine bodyPost_ret (v := .agg #[.int .u64 (Go.bits .or .u64 (a : Int) (IntKind.u64.wrap (2 ^ n))), .int .u64 b]) (by simp [results, Tryd.results50, go_sem]) rfl ⟨by rw [HE.out, HO.out], ?_⟩
    exact bw_new (bw_new (Below.refl _ _) _) _
  · have HE := Lib.hid (show withN (a, b) n = (a, b ||| 2 ^ (n - 64)) from if_neg h)
    obtain ⟨m, hm⟩ : ∃ m, m = n - 64 := ⟨_, rfl⟩
    have HO := Lib.hid (or_pow (n := m) hb (by omega))
    rw [← hm] at HE
    obtain rfl : n = m + 64 := by omega
    clear hm
    go_enter Tryd.func50, Tryd.ntmps50
    go_wp2
    refine bodyPost_ret (v := .agg #[.int .u64 a, .int .u64 (Go.bits .or .u64 (b : Int) (IntKind.u64.wrap (2 ^ m)))]) (by simp [results, Tryd.results50, go_sem]) rfl ⟨by rw [HE.out, HO.out], ?_⟩
    exact bw_new (bw_new (Below.refl _ _) _) _

set_option maxRecDepth 100000 in
set_option maxHeartbeats 1000000 in
theorem without_any (s t : Nat × Nat) (w : World) (hs : NOk s) (ht : NOk t) :
    Calls Tryd.prog 69 #[nv s, nv t] w fun e w' => e = .returned (.agg #[.int .u64 ((s.1 &&& (18446744073709551615 - t.1) : Nat) : Int), .int .u64 ((s.2 &&& (18446744073709551615 - t.2) : Nat) : Int)]) ∧ Below w.heap.size w w' := by
  obtain ⟨a, b⟩ := s
  obtain ⟨c, d⟩ := t
  unfold NOk at hs ht
  unfold nv
  dsimp only at hs ht ⊢
  have H1 := Lib.hid (andNot_u64 hs.1 ht.1)
  have H2 := Lib.hid (andNot_u64 hs.2 ht.2)
  clear hs ht
  go_enter Tryd.func69, Tryd.ntmps69
  go_wp2
  refine bodyPost_ret (v := .agg #[.int .u64 (Go.bits .andNot .u64 (a : Int) (c : Int)), .int .u64 (Go.bits .andNot .u64 (b : Int) (d : Int))]) (by simp [results, Tryd.results69, go_sem]) rfl ⟨by rw [H1.out, H2.out], ?_⟩
  exact bw_new (bw_new (bw_new (Below.refl _ _) _) _) _
set_option maxRecDepth 100000 in
set_option maxHeartbeats 1000000 in
theorem within_any (s t : Nat × Nat) (w : World) (hs : NOk s) (ht : NOk t) :
    Calls Tryd.prog 59 #[nv s, nv t] w fun e w' => e = .returned (.bool (withinB s t)) ∧ Below w.heap.size w w' := by
  have HW := Lib.hid (fun W => without_any s t W hs ht)
  obtain ⟨x, hx⟩ : ∃ x, x = s.1 &&& (18446744073709551615 - t.1) := ⟨_, rfl⟩
  obtain ⟨y, hy⟩ : ∃ y, y = s.2 &&& (18446744073709551615 - t.2) := ⟨_, rfl⟩
  have HB := Lib.hid (show withinB s t = ((x == 0) && (y == 0)) by unfold withinB; rw [hx, hy])
  rw [← hx, ← hy] at HW
  obtain ⟨a, b⟩ := s
  obtain ⟨c, d⟩ := t
  unfold nv at HW
  unfold nv
  dsimp only at HW ⊢
  clear hs ht hx hy
  go_enter Tryd.func59, Tryd.ntmps59
  go_wp2_with fail
  refine (HW.out _).mono ?_
  rintro e w1 ⟨rfl, hb⟩
  have HBB := Lib.hid ((bw_new (bw_new (Below.refl _ w) _) _).trans (hb.mono (by simp; omega)))
  clear hb
  go_wp2
  all_goals go_ret
  all_goals refine ⟨ret_of ?_, HBB.out⟩
  all_goals (rw [HB.out]; simp [*])

/-- A number is a note. -/
def nB (n : Int) : Bool := decide (0 ≤ n ∧ n ≤ 127)
theorem isNoteN_any (n : Int) (w : World) :
    Calls Tryd.prog 65 #[.int .i64 n] w fun e w' => e = .returned (.bool (nB n)) ∧ w = w' := by
  by_cases h0 : 0 ≤ n
  · by_cases h1 : n ≤ 127
    · have HE := Lib.hid (show nB n = true from decide_eq_true ⟨h0, h1⟩)
      go_enter Tryd.func65, Tryd.ntmps65
      go_wp2
      go_ret
      exact ⟨by rw [HE.out]; rfl, rfl⟩
    · have HE := Lib.hid (show nB n = false from decide_eq_false (fun k => h1 k.2))
      go_enter Tryd.func65, Tryd.ntmps65
      go_wp2
      go_ret
      exact ⟨by rw [HE.out]; rfl, rfl⟩
  · have HE := Lib.hid (show nB n = false from decide_eq_false (fun k => h0 k.1))
    go_enter Tryd.func65, Tryd.ntmps65
    go_wp2
    go_ret
    exact ⟨by rw [HE.out]; rfl, rfl⟩

def HsPack (w : World) (a b : Nat) (w' : World) : Prop := Blk w' w.heap.size 39 [.int .u64 (a : Int), .int .u64 (b : Int)] ∧ Below w.heap.size w w'
abbrev HsHeld (w : World) (a b : Nat) (w' : World) : Prop := w'.cell? ⟨w.heap.size, 0, none⟩ = some (.int .u64 (a : Int)) ∧ w'.cell? ⟨w.heap.size, 1, none⟩ = some (.int .u64 (b : Int)) ∧ HsPack w a b w'
theorem HsHeld.below {w w1 w2 : World} {a b : Nat} (h : HsHeld w a b w1) (hb : Below w1.heap.size w1 w2) : HsHeld w a b w2 := by
  have h1 : Blk w2 w.heap.size 39 [.int .u64 (a : Int), .int .u64 (b : Int)] := h.2.2.1.below hb h.2.2.1.lt
  exact ⟨h1.cell 0, h1.cell 1, h1, h.2.2.2.trans (hb.mono h.2.2.2.size)⟩
/-- A number is a note of a set. -/
def hasZ (s : Nat × Nat) (n : Int) : Bool := nB n && hasN s n.toNat
theorem withinB_one {s : Nat × Nat} (hs : NOk s) {n : Nat} (hn : n < 128) : withinB (withN (0, 0) n) s = hasN s n := by
  have h0 : NOk (0, 0) := ⟨by decide, by decide⟩
  rw [Bool.eq_iff_iff, withinB_iff (withN_ok h0 hn) hs]
  constructor
  · intro h; exact h n hn (by rw [hasN_with]; simp)
  · intro h m hm k
    rw [hasN_with, hasN_zero] at k
    have : m = n := by simpa using k
    rw [this]; exact h
set_option maxRecDepth 100000 in
set_option maxHeartbeats 1000000 in
theorem nhas_any (s : Nat × Nat) (n : Int) (w : World) (hs : NOk s) :
    Calls Tryd.prog 58 #[nv s, .int .i64 n] w fun e w' => e = .returned (.bool (hasZ s n)) ∧ Below w.heap.size w w' := by
  have HN := Lib.hid (fun W => isNoteN_any n W)
  by_cases h : 0 ≤ n ∧ n ≤ 127
  · obtain ⟨k, rfl⟩ := Int.eq_ofNat_of_zero_le h.1
    have hk : k < 128 := by have := h.2; omega
    have h0 : NOk (0, 0) := ⟨by decide, by decide⟩
    have HW := Lib.hid (fun W => with_any (0, 0) k W h0 hk)
    have HI := Lib.hid (fun W => within_any (withN (0, 0) k) s W (withN_ok h0 hk) hs)
    rw [withinB_one hs hk] at HI
    have hnb : nB (k : Int) = true := decide_eq_true h
    rw [hnb] at HN
    have HE := Lib.hid (show hasZ s (k : Int) = hasN s k by unfold hasZ; rw [hnb]; simp)
    obtain ⟨x, hx⟩ : ∃ x, x = withN (0, 0) k := ⟨_, rfl⟩
    rw [← hx] at HW HI
    obtain ⟨x1, x2⟩ := x
    obtain ⟨a, b⟩ := s
    unfold nv at HW HI
    unfold nv
    dsimp only at HW HI ⊢
    clear hx h hs h0 hnb
    go_enter Tryd.func58, Tryd.ntmps58
    go_wp2_with fail
    refine (HN.out _).mono ?_
    rintro e w1 ⟨rfl, rfl⟩
    go_wp2_with fail
    have hT : HsHeld w a b (w.alloc (.cells #[.int .u64 a, .int .u64 b] 39)) := by
      have h1 : Blk (w.alloc (.cells #[.int .u64 a, .int .u64 b] 39)) w.heap.size 39 [.int .u64 a, .int .u64 b] := heap_alloc_new w _
      exact ⟨h1.cell 0, h1.cell 1, h1, bw_new (Below.refl _ _) _⟩
    go_region_held3 (fun w' => w'.cell? ⟨w.heap.size, 0, none⟩ = some (.int .u64 (a : Int)) ∧ w'.cell? ⟨w.heap.size, 1, none⟩ = some (.int .u64 (b : Int)) ∧ HsPack w a b w') (first | assumption | exact HsHeld.below hT (bw_drew (Below.refl _ _)) | exact HsHeld.below (by assumption) hbel)
      (first
       | (go_at_call 66; refine (HW.out _).mono ?_; rintro e w' ⟨rfl, hbel⟩)
       | (go_at_call 59; refine (HI.out _).mono ?_; rintro e w' ⟨rfl, hbel⟩))
    have hf : HsHeld w a b w' := by assumption
    have HF := Lib.hid hf.2.2.2
    clear hf
    go_wp2
    go_ret
    exact ⟨by rw [HE.out]; rfl, HF.out⟩
  · have hnb : nB n = false := decide_eq_false h
    rw [hnb] at HN
    have HE := Lib.hid (show hasZ s n = false by unfold hasZ; rw [hnb]; rfl)
    obtain ⟨a, b⟩ := s
    unfold nv
    dsimp only
    clear h hs hnb
    go_enter Tryd.func58, Tryd.ntmps58
    go_wp2_with fail
    refine (HN.out _).mono ?_
    rintro e w1 ⟨rfl, rfl⟩
    go_wp2
    go_ret
    exact ⟨by rw [HE.out]; rfl, bw_new (Below.refl _ _) _⟩
end Go.Proofs.YtfickhncbahekaaDoor
