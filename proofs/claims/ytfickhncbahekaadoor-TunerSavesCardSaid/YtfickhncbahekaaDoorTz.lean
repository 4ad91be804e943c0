/- math/bits.TrailingZeros64. Conditions: the number is a word of 64 bits; the library's table reads as its text lays it. -/
import Derived.Test.YtfickhncbahekaaDoorTzNum
import Derived.Test.YtfickhncbahekaaDoorProg
import Derived.Lib.LaidTab
import Derived.Lib.Hide
namespace Go.Proofs.YtfickhncbahekaaDoor
open Go.RowKit

/-- The library's table reads as its text lays it. -/
def DTab (w : World) : Prop := Lib.TabIs Tryd.prog w "math/bits.deBruijn64tab" .u8 dbTab
theorem DTab.lt {w : World} (h : DTab w) : 0 < w.heap.size := by
  have hc := h.cell (g := 0) (by kernel_rfl) 0 (by decide)
  exact World.block_lt_of_cell? w _ hc
theorem DTab.low {w w' : World} {B : Nat} (h : DTab w) (hb : Below B w w') (hB : 0 < B) : DTab w' := by
  unfold DTab Lib.TabIs World.var? at *
  have hg : Tryd.prog.globalNamed "math/bits.deBruijn64tab" = some 0 := by kernel_rfl
  rw [hg] at h ⊢
  simp only [Option.bind_some] at h ⊢
  rw [hb.block _ hB]
  exact h
theorem DTab.below {w w' : World} (h : DTab w) (hb : Below w.heap.size w w') : DTab w' := h.low hb h.lt
theorem wrapK {k : Nat} (h : k < 64) : wrap64 (k : Int) = (k : Int) := by unfold wrap64; omega
set_option maxRecDepth 100000 in
set_option maxHeartbeats 1000000 in
theorem tz_any (x k : Nat) (w : World) (hx : x < 18446744073709551616) (hk : LowAt x k) (hk64 : k < 64) (ht : DTab w) :
    Calls Tryd.prog 73 #[.int .u64 (x : Int)] w fun e w' => e = .returned (.int .i64 (k : Int)) ∧ w = w' := by
  have h0 : x ≠ 0 := fun e => by rw [e] at hk; have := hk.1; rw [Nat.zero_testBit] at this; cases this
  have hz : ((x : Int) == 0) = false := by simpa using h0
  have hn := wrap_neg h0 hx
  have ha : Go.bits .and .u64 (x : Int) ((18446744073709551616 - x : Nat) : Int) = ((2 ^ k : Nat) : Int) := by
    rw [and_u64 hx (by omega), hk.neg hx]
  have hm := wrap_mul (2 ^ k)
  obtain ⟨h1, h2⟩ := db_get k hk64
  have hc : w.cell? ⟨0, dbIx k, none⟩ = some (.int .u8 (k : Int)) := by
    rw [ht.cell (g := 0) (by kernel_rfl) (dbIx k) h1, h2]
  rw [dbTab_len] at h1
  generalize hy : 2 ^ k * 285870213051353865 % 18446744073709551616 = y at hm
  have hd := db_mul (k := k) hy.symm
  rw [hd] at hc h1
  have hy2 : ((y : Int) / 288230376151711744) = ((y / 288230376151711744 : Nat) : Int) := by omega
  generalize y / 288230376151711744 = q at hc h1 hy2
  generalize 2 ^ k = p at hm ha
  generalize 18446744073709551616 - x = xn at hn ha
  have hq0 : (0 : Int) ≤ (q : Int) := by omega
  have hq1 : (q : Int) < 64 := by omega
  have hE : IntKind.u64.wrap (Go.bits .and .u64 (x : Int) (IntKind.u64.wrap (-(x : Int))) * 285870213051353865) / 288230376151711744 = (q : Int) := by rw [hn, ha, hm, hy2]
  have HC := Lib.hid hc
  have hwk := wrapK hk64
  clear hy hd h2 ht h0 h1 hx hk hk64 hn ha hm hc hy2
  have hE0 : 0 ≤ IntKind.u64.wrap (Go.bits .and .u64 (x : Int) (IntKind.u64.wrap (-(x : Int))) * 285870213051353865) / 288230376151711744 := by rw [hE]; exact hq0
  have hE1 : IntKind.u64.wrap (Go.bits .and .u64 (x : Int) (IntKind.u64.wrap (-(x : Int))) * 285870213051353865) / 288230376151711744 < 64 := by rw [hE]; exact hq1
  have hc : w.cell? ⟨0, (IntKind.u64.wrap (Go.bits .and .u64 (x : Int) (IntKind.u64.wrap (-(x : Int))) * 285870213051353865) / 288230376151711744).toNat, none⟩ = some (.int .u8 (k : Int)) := by rw [hE, Int.toNat_natCast]; exact HC.out
  have HWK := Lib.hid hwk
  clear hE HC hq0 hq1 hwk
  go_enter Tryd.func73, Tryd.ntmps73
  go_wp2
  rw [HWK.out]
  go_ret
  exact ⟨rfl, rfl⟩
end Go.Proofs.YtfickhncbahekaaDoor
