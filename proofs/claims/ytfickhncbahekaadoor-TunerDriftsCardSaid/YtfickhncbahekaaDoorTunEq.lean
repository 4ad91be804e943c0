/- Equality of ways, sets of notes and sizes. Conditions: none. -/
import Derived.Test.YtfickhncbahekaaDoorTunSmall
import Derived.Laws.StructEq
namespace Go.Proofs.YtfickhncbahekaaDoor
section
open Go.RowKit Go.Op
/-- Whether two pairs are the same. -/
def eqB (a b c d : Int) : Bool := a == c && b == d
theorem eqB_self (a b : Int) : eqB a b a b = true := by simp [eqB]
theorem eqB_iff (a b c d : Int) : eqB a b c d = true ↔ a = c ∧ b = d := by simp [eqB]
theorem eqlIn_way (w : World) (a b c d : Int) (n : Nat) : (Op.equalIn (n + 2) 50 (.agg #[.int .i64 a, .int .i64 b]) (.agg #[.int .i64 c, .int .i64 d])).run Tryd.prog w = .ok (eqB a b c d) w := by
  have hi : ∀ (x y : Int), (Op.equalIn (n + 1) 3 (.int .i64 x) (.int .i64 y)).run Tryd.prog w = .ok (x == y) w := fun x y => run_equalIn_int w n _ _ _ _ _ Tryd.underlying3
  rw [show n + 2 = (n + 1) + 1 from rfl]
  rw [run_equalIn_struct w (n + 1) _ _ _ (by kernel_rfl) (by kernel_rfl)]
  simp [Program.fieldsOf, Tryd.underlying50, Op.eqFields, go_sem, eqB]
  by_cases e1 : a = c <;> by_cases e2 : b = d <;> simp [e1, e2]
theorem eql_way (w : World) (a b c d : Int) : (binOp .eql 50 (.agg #[.int .i64 a, .int .i64 b]) (.agg #[.int .i64 c, .int .i64 d])).run Tryd.prog w = .ok (.bool (eqB a b c d)) w := by
  rw [run_eql_struct, eqlIn_way w a b c d 9998]
  rfl
theorem neq_way (w : World) (a b c d : Int) : (binOp .neq 50 (.agg #[.int .i64 a, .int .i64 b]) (.agg #[.int .i64 c, .int .i64 d])).run Tryd.prog w = .ok (.bool (!eqB a b c d)) w := by
  rw [run_neq_struct, eqlIn_way w a b c d 9998]
  rfl
theorem eqlIn_notes (w : World) (a b c d : Int) (n : Nat) : (Op.equalIn (n + 2) 39 (.agg #[.int .u64 a, .int .u64 b]) (.agg #[.int .u64 c, .int .u64 d])).run Tryd.prog w = .ok (eqB a b c d) w := by
  have hi : ∀ (x y : Int), (Op.equalIn (n + 1) 37 (.int .u64 x) (.int .u64 y)).run Tryd.prog w = .ok (x == y) w := fun x y => run_equalIn_int w n _ _ _ _ _ Tryd.underlying37
  rw [show n + 2 = (n + 1) + 1 from rfl]
  rw [run_equalIn_struct w (n + 1) _ _ _ (by kernel_rfl) (by kernel_rfl)]
  simp [Program.fieldsOf, Tryd.underlying39, Op.eqFields, go_sem, eqB]
  by_cases e1 : a = c <;> by_cases e2 : b = d <;> simp [e1, e2]
theorem eql_notes (w : World) (a b c d : Int) : (binOp .eql 39 (.agg #[.int .u64 a, .int .u64 b]) (.agg #[.int .u64 c, .int .u64 d])).run Tryd.prog w = .ok (.bool (eqB a b c d)) w := by
  rw [run_eql_struct, eqlIn_notes w a b c d 9998]
  rfl
theorem eqlIn_fracT (w : World) (a b c d : Int) (n : Nat) : (Op.equalIn (n + 2) 79 (.agg #[.int .i64 a, .int .i64 b]) (.agg #[.int .i64 c, .int .i64 d])).run Tryd.prog w = .ok (eqB a b c d) w := by
  have hi : ∀ (x y : Int), (Op.equalIn (n + 1) 3 (.int .i64 x) (.int .i64 y)).run Tryd.prog w = .ok (x == y) w := fun x y => run_equalIn_int w n _ _ _ _ _ Tryd.underlying3
  rw [show n + 2 = (n + 1) + 1 from rfl]
  rw [run_equalIn_struct w (n + 1) _ _ _ (by kernel_rfl) (by kernel_rfl)]
  simp [Program.fieldsOf, Tryd.underlying79, Op.eqFields, go_sem, eqB]
  by_cases e1 : a = c <;> by_cases e2 : b = d <;> simp [e1, e2]
theorem part_sizeT (w : World) (a b c d e f : Value) : ((part 79 #[a, b, c, d, e, f] 0).run Tryd.prog w = .ok (.agg #[a, b]) w) ∧ ((part 79 #[a, b, c, d, e, f] 2).run Tryd.prog w = .ok (.agg #[c, d]) w) ∧ ((part 79 #[a, b, c, d, e, f] 4).run Tryd.prog w = .ok (.agg #[e, f]) w) := by
  refine ⟨?_, ?_, ?_⟩ <;> simp [go_sem]
/-- A size that is the same: unequal is false. -/
theorem neq_sizeT (w : World) (a0 b0 a1 b1 a2 b2 : Int) : (binOp .neq 81 (.agg #[.int .i64 a0, .int .i64 b0, .int .i64 a1, .int .i64 b1, .int .i64 a2, .int .i64 b2]) (.agg #[.int .i64 a0, .int .i64 b0, .int .i64 a1, .int .i64 b1, .int .i64 a2, .int .i64 b2])).run Tryd.prog w = .ok (.bool false) w := by
  have h0 := eqlIn_fracT w a0 b0 a0 b0 9997
  have h1 := eqlIn_fracT w a1 b1 a1 b1 9997
  have h2 := eqlIn_fracT w a2 b2 a2 b2 9997
  rw [eqB_self] at h0 h1 h2
  obtain ⟨p0, p1, p2⟩ := part_sizeT w (.int .i64 a0) (.int .i64 b0) (.int .i64 a1) (.int .i64 b1) (.int .i64 a2) (.int .i64 b2)
  have key : (Op.equalIn 10000 81 (.agg #[.int .i64 a0, .int .i64 b0, .int .i64 a1, .int .i64 b1, .int .i64 a2, .int .i64 b2]) (.agg #[.int .i64 a0, .int .i64 b0, .int .i64 a1, .int .i64 b1, .int .i64 a2, .int .i64 b2])).run Tryd.prog w = .ok true w := by
    rw [show 10000 = (9997 + 2) + 1 from rfl]
    rw [run_equalIn_struct w (9997 + 2) _ _ _ (by kernel_rfl) (by kernel_rfl)]
    simp [Program.fieldsOf, Tryd.underlying81, Op.eqFields, Sem.run_bind, p0, p1, p2, h0, h1, h2, Result.andThen_ok, Sem.run_ite]
  rw [run_neq_struct, key]
  rfl
end
end Go.Proofs.YtfickhncbahekaaDoor
