/- Part 31 of 42 of the proof of the law: contracts of the functions that it reaches, and plain facts. Conditions: those that each contract names. -/
import Derived.Test.YtendjepcjmfmfaaGreatDoorRatB19
import Derived.Test.YtendjepcjmfmfaaGreatDoorRatB01
namespace Go.Proofs.YtendjepcjmfmfaaGreatDoor
open Go.RowKit
def nmV (n d : Nat) : Value := .agg #[.int .i64 (n : Int), .int .i64 (d : Int)]
def nmEnc (L : List (ByteArray × Nat × Nat)) : List (ByteArray × Value) := L.map fun p => (p.1, nmV p.2.1 p.2.2)
def nmGet (k : ByteArray) : List (ByteArray × Nat × Nat) → Option (Nat × Nat)
 | [] => none
 | p :: L => if k = p.1 then some p.2 else nmGet k L
theorem nmGet_fnd (k : ByteArray) : ∀ (L : List (ByteArray × Nat × Nat)) (i : Nat), (fnd k (nmEnc L) i).map (·.2) = (nmGet k L).map fun q => nmV q.1 q.2
 | [], _ => rfl
 | p :: L, i => by
  unfold nmEnc nmGet
  rw [List.map_cons]
  unfold fnd
  by_cases h : k = p.1
  ·rw [if_pos h, if_pos h]; rfl
  ·rw [if_neg h, if_neg h]; exact nmGet_fnd k L (i + 1)
theorem nmGet_mem (k : ByteArray) : ∀ (L : List (ByteArray × Nat × Nat)) (q : Nat × Nat), nmGet k L = some q → ∃ s, (s, q) ∈ L
 | [], _, h => by cases h
 | p :: L, q, h => by
  unfold nmGet at h
  by_cases e : k = p.1
  ·rw [if_pos e] at h
   injection h with h
   exact ⟨p.1, by rw [← h]; exact List.mem_cons_self⟩
  ·rw [if_neg e] at h
   obtain ⟨s, hs⟩ := nmGet_mem k L q h
   exact ⟨s, List.mem_cons_of_mem _ hs⟩
theorem fnd_out (k : ByteArray) : ∀ (L : List (ByteArray × Nat × Nat)) (i : Nat), (∀ p ∈ L, k ≠ p.1) → fnd k (nmEnc L) i = none
 | [], _, _ => rfl
 | p :: L, i, h => by
  unfold nmEnc
  rw [List.map_cons]
  unfold fnd
  rw [if_neg (h p List.mem_cons_self)]
  exact fnd_out k L (i + 1) fun q hq => h q (List.mem_cons_of_mem _ hq)
def nmTab : List (ByteArray × Nat × Nat) := [(⟨#[117, 110, 105, 115, 111, 110]⟩, 1, 1), (⟨#[111, 99, 116, 97, 118, 101]⟩, 2, 1), (⟨#[102, 105, 102, 116, 104]⟩, 3, 2), (⟨#[102, 111, 117, 114, 116, 104]⟩, 4, 3), (⟨#[116, 104, 105, 114, 100]⟩, 5, 4), (⟨#[109, 105, 110, 111, 114]⟩, 6, 5), (⟨#[116, 111, 110, 101]⟩, 9, 8), (⟨#[115, 121, 110, 116, 111, 110, 105, 99]⟩, 81, 80), (⟨#[112, 121, 116, 104, 97, 103, 111, 114, 101, 97, 110]⟩, 531441, 524288), (⟨#[115, 99, 104, 105, 115, 109, 97]⟩, 32805, 32768), (⟨#[100, 105, 101, 115, 105, 115]⟩, 128, 125)]
theorem nmTab_bd : ∀ q ∈ nmTab, (1 ≤ q.2.1 ∧ q.2.1 ≤ 4611686018427387904) ∧ (1 ≤ q.2.2 ∧ q.2.2 ≤ 4611686018427387904) := by
 unfold nmTab
 intro q hq
 simp only [List.mem_cons, List.not_mem_nil, or_false] at hq
 rcases hq with rfl | rfl | rfl | rfl | rfl | rfl | rfl | rfl | rfl | rfl | rfl <;> exact ⟨⟨by decide, by decide⟩, by decide, by decide⟩
theorem nm_store {W : World} {b : Nat} {L : List (ByteArray × Nat × Nat)} (h : MapB (strKeys Tryz.underlying9) W b (nmEnc L)) (k : ByteArray) (n d : Nat) (hk : ∀ p ∈ L, k ≠ p.1) :
  ∃ w', (Instr.mapUpdate 138 (.map (some b)) (.string k) (nmV n d)).run Tryz.prog W = .ok () w' ∧ MapB (strKeys Tryz.underlying9) w' b (nmEnc (L ++ [(k, n, d)])) ∧ W.grownBy w' (some b) := by
 obtain ⟨w', h1, h2, h3⟩ := run_store (strKeys Tryz.underlying9) Tryz.underlying138 h k (nmV n d)
 refine ⟨w', h1, ?_, h3⟩
 unfold mput at h2
 rw [fnd_out k L 0 hk] at h2
 have e : nmEnc (L ++ [(k, n, d)]) = nmEnc L ++ [(k, nmV n d)] := by simp [nmEnc]
 rw [e]
 exact h2
theorem nm_look {W : World} {b : Nat} {L : List (ByteArray × Nat × Nat)} (h : MapB (strKeys Tryz.underlying9) W b (nmEnc L)) (k : ByteArray) :
  (Instr.lookup 138 (.map (some b)) (.string k) true).run Tryz.prog W = .ok (match nmGet k L with | some q => .tuple #[nmV q.1 q.2, .bool true] | none => .tuple #[nmV 0 0, .bool false]) W := by
 have hl := run_look (strKeys Tryz.underlying9) Tryz.underlying138 (z := nmV 0 0) (fun w => by first | exact Tryz.zeroValue136 w | kernel_rfl) h k true
 rw [if_pos rfl] at hl
 refine hl.trans ?_
 unfold mget
 rw [nmGet_fnd k L 0]
 cases nmGet k L with
 | none => rfl
 | some q => rfl
theorem nm_chain (W : World) (b : Nat) (h : MapB (strKeys Tryz.underlying9) W b []) : ∃ w1 w2 w3 w4 w5 w6 w7 w8 w9 w10 w11 : World,
  (Instr.mapUpdate 138 (.map (some b)) (.string ⟨#[117, 110, 105, 115, 111, 110]⟩) (.agg #[.int .i64 1, .int .i64 1])).run Tryz.prog W = .ok () w1 ∧
  (Instr.mapUpdate 138 (.map (some b)) (.string ⟨#[111, 99, 116, 97, 118, 101]⟩) (.agg #[.int .i64 2, .int .i64 1])).run Tryz.prog w1 = .ok () w2 ∧
  (Instr.mapUpdate 138 (.map (some b)) (.string ⟨#[102, 105, 102, 116, 104]⟩) (.agg #[.int .i64 3, .int .i64 2])).run Tryz.prog w2 = .ok () w3 ∧
  (Instr.mapUpdate 138 (.map (some b)) (.string ⟨#[102, 111, 117, 114, 116, 104]⟩) (.agg #[.int .i64 4, .int .i64 3])).run Tryz.prog w3 = .ok () w4 ∧
  (Instr.mapUpdate 138 (.map (some b)) (.string ⟨#[116, 104, 105, 114, 100]⟩) (.agg #[.int .i64 5, .int .i64 4])).run Tryz.prog w4 = .ok () w5 ∧
  (Instr.mapUpdate 138 (.map (some b)) (.string ⟨#[109, 105, 110, 111, 114]⟩) (.agg #[.int .i64 6, .int .i64 5])).run Tryz.prog w5 = .ok () w6 ∧
  (Instr.mapUpdate 138 (.map (some b)) (.string ⟨#[116, 111, 110, 101]⟩) (.agg #[.int .i64 9, .int .i64 8])).run Tryz.prog w6 = .ok () w7 ∧
  (Instr.mapUpdate 138 (.map (some b)) (.string ⟨#[115, 121, 110, 116, 111, 110, 105, 99]⟩) (.agg #[.int .i64 81, .int .i64 80])).run Tryz.prog w7 = .ok () w8 ∧
  (Instr.mapUpdate 138 (.map (some b)) (.string ⟨#[112, 121, 116, 104, 97, 103, 111, 114, 101, 97, 110]⟩) (.agg #[.int .i64 531441, .int .i64 524288])).run Tryz.prog w8 = .ok () w9 ∧
  (Instr.mapUpdate 138 (.map (some b)) (.string ⟨#[115, 99, 104, 105, 115, 109, 97]⟩) (.agg #[.int .i64 32805, .int .i64 32768])).run Tryz.prog w9 = .ok () w10 ∧
  (Instr.mapUpdate 138 (.map (some b)) (.string ⟨#[100, 105, 101, 115, 105, 115]⟩) (.agg #[.int .i64 128, .int .i64 125])).run Tryz.prog w10 = .ok () w11 ∧
  MapB (strKeys Tryz.underlying9) w11 b (nmEnc nmTab) ∧ W.grownBy w11 (some b) := by
 obtain ⟨w1, r1, m1, g1⟩ := nm_store (L := []) h ⟨#[117, 110, 105, 115, 111, 110]⟩ 1 1 (by decide)
 obtain ⟨w2, r2, m2, g2⟩ := nm_store (L := [(⟨#[117, 110, 105, 115, 111, 110]⟩, 1, 1)]) m1 ⟨#[111, 99, 116, 97, 118, 101]⟩ 2 1 (by decide)
 have g2 := g1.trans g2
 obtain ⟨w3, r3, m3, g3⟩ := nm_store (L := [(⟨#[117, 110, 105, 115, 111, 110]⟩, 1, 1), (⟨#[111, 99, 116, 97, 118, 101]⟩, 2, 1)]) m2 ⟨#[102, 105, 102, 116, 104]⟩ 3 2 (by decide)
 have g3 := g2.trans g3
 obtain ⟨w4, r4, m4, g4⟩ := nm_store (L := [(⟨#[117, 110, 105, 115, 111, 110]⟩, 1, 1), (⟨#[111, 99, 116, 97, 118, 101]⟩, 2, 1), (⟨#[102, 105, 102, 116, 104]⟩, 3, 2)]) m3 ⟨#[102, 111, 117, 114, 116, 104]⟩ 4 3 (by decide)
 have g4 := g3.trans g4
 obtain ⟨w5, r5, m5, g5⟩ := nm_store (L := [(⟨#[117, 110, 105, 115, 111, 110]⟩, 1, 1), (⟨#[111, 99, 116, 97, 118, 101]⟩, 2, 1), (⟨#[102, 105, 102, 116, 104]⟩, 3, 2), (⟨#[102, 111, 117, 114, 116, 104]⟩, 4, 3)]) m4 ⟨#[116, 104, 105, 114, 100]⟩ 5 4 (by decide)
 have g5 := g4.trans g5
 obtain ⟨w6, r6, m6, g6⟩ := nm_store (L := [(⟨#[117, 110, 105, 115, 111, 110]⟩, 1, 1), (⟨#[111, 99, 116, 97, 118, 101]⟩, 2, 1), (⟨#[102, 105, 102, 116, 104]⟩, 3, 2), (⟨#[102, 111, 117, 114, 116, 104]⟩, 4, 3), (⟨#[116, 104, 105, 114, 100]⟩, 5, 4)]) m5 ⟨#[109, 105, 110, 111, 114]⟩ 6 5 (by decide)
 have g6 := g5.trans g6
 obtain ⟨w7, r7, m7, g7⟩ := nm_store (L := [(⟨#[117, 110, 105, 115, 111, 110]⟩, 1, 1), (⟨#[111, 99, 116, 97, 118, 101]⟩, 2, 1), (⟨#[102, 105, 102, 116, 104]⟩, 3, 2), (⟨#[102, 111, 117, 114, 116, 104]⟩, 4, 3), (⟨#[116, 104, 105, 114, 100]⟩, 5, 4), (⟨#[109, 105, 110, 111, 114]⟩, 6, 5)]) m6 ⟨#[116, 111, 110, 101]⟩ 9 8 (by decide)
 have g7 := g6.trans g7
 obtain ⟨w8, r8, m8, g8⟩ := nm_store (L := [(⟨#[117, 110, 105, 115, 111, 110]⟩, 1, 1), (⟨#[111, 99, 116, 97, 118, 101]⟩, 2, 1), (⟨#[102, 105, 102, 116, 104]⟩, 3, 2), (⟨#[102, 111, 117, 114, 116, 104]⟩, 4, 3), (⟨#[116, 104, 105, 114, 100]⟩, 5, 4), (⟨#[109, 105, 110, 111, 114]⟩, 6, 5), (⟨#[116, 111, 110, 101]⟩, 9, 8)]) m7 ⟨#[115, 121, 110, 116, 111, 110, 105, 99]⟩ 81 80 (by decide)
 have g8 := g7.trans g8
 obtain ⟨w9, r9, m9, g9⟩ := nm_store (L := [(⟨#[117, 110, 105, 115, 111, 110]⟩, 1, 1), (⟨#[111, 99, 116, 97, 118, 101]⟩, 2, 1), (⟨#[102, 105, 102, 116, 104]⟩, 3, 2), (⟨#[102, 111, 117, 114, 116, 104]⟩, 4, 3), (⟨#[116, 104, 105, 114, 100]⟩, 5, 4), (⟨#[109, 105, 110, 111, 114]⟩, 6, 5), (⟨#[116, 111, 110, 101]⟩, 9, 8), (⟨#[115, 121, 110, 116, 111, 110, 105, 99]⟩, 81, 80)]) m8 ⟨#[112, 121, 116, 104, 97, 103, 111, 114, 101, 97, 110]⟩ 531441 524288 (by decide)
 have g9 := g8.trans g9
 obtain ⟨w10, r10, m10, g10⟩ := nm_store (L := [(⟨#[117, 110, 105, 115, 111, 110]⟩, 1, 1), (⟨#[111, 99, 116, 97, 118, 101]⟩, 2, 1), (⟨#[102, 105, 102, 116, 104]⟩, 3, 2), (⟨#[102, 111, 117, 114, 116, 104]⟩, 4, 3), (⟨#[116, 104, 105, 114, 100]⟩, 5, 4), (⟨#[109, 105, 110, 111, 114]⟩, 6, 5), (⟨#[116, 111, 110, 101]⟩, 9, 8), (⟨#[115, 121, 110, 116, 111, 110, 105, 99]⟩, 81, 80), (⟨#[112, 121, 116, 104, 97, 103, 111, 114, 101, 97, 110]⟩, 531441, 524288)]) m9 ⟨#[115, 99, 104, 105, 115, 109, 97]⟩ 32805 32768 (by decide)
 have g10 := g9.trans g10
 obtain ⟨w11, r11, m11, g11⟩ := nm_store (L := [(⟨#[117, 110, 105, 115, 111, 110]⟩, 1, 1), (⟨#[111, 99, 116, 97, 118, 101]⟩, 2, 1), (⟨#[102, 105, 102, 116, 104]⟩, 3, 2), (⟨#[102, 111, 117, 114, 116, 104]⟩, 4, 3), (⟨#[116, 104, 105, 114, 100]⟩, 5, 4), (⟨#[109, 105, 110, 111, 114]⟩, 6, 5), (⟨#[116, 111, 110, 101]⟩, 9, 8), (⟨#[115, 121, 110, 116, 111, 110, 105, 99]⟩, 81, 80), (⟨#[112, 121, 116, 104, 97, 103, 111, 114, 101, 97, 110]⟩, 531441, 524288), (⟨#[115, 99, 104, 105, 115, 109, 97]⟩, 32805, 32768)]) m10 ⟨#[100, 105, 101, 115, 105, 115]⟩ 128 125 (by decide)
 have g11 := g10.trans g11
 exact ⟨w1, w2, w3, w4, w5, w6, w7, w8, w9, w10, w11, r1, r2, r3, r4, r5, r6, r7, r8, r9, r10, r11, m11, g11⟩
def RetNamed (k : ByteArray) (w : World) (e : Ending) (w' : World) : Prop :=
 match nmGet k nmTab with
 | none => e = .returned (.tuple #[szv 0 0 0 0 0 0, .int .i64 10]) ∧ Below w.heap.size w w'
 | some q => RetRatio q.1 q.2 w e w'
theorem RetRatio.tup {n d : Nat} {w w' : World} {e : Ending} (h : RetRatio n d w e w') : ∃ r0 r1 r2 r3 r4 r5 q, e = .returned (.tuple #[szv r0 r1 r2 r3 r4 r5, .int .i64 q]) := by
 obtain ⟨⟨rn, rd, a0, b0, a1, b1, a2, b2, _, _, _, _, he⟩, _⟩ := h
 rw [he]
 unfold ivR
 split
 ·split
  ·exact ⟨_, _, _, _, _, _, _, rfl⟩
  ·exact ⟨_, _, _, _, _, _, _, rfl⟩
 ·exact ⟨_, _, _, _, _, _, _, rfl⟩
set_option maxRecDepth 100000 in
set_option maxHeartbeats 4000000 in
theorem named_any (k : ByteArray) (w : World) :
  Calls Tryz.prog 33 #[.string k] w (RetNamed k w) := by
 have hm0 := MapB.new (strKeys Tryz.underlying9) (w.alloc (.cells #[.int .i64 0, .int .i64 0, .int .i64 0, .int .i64 0, .int .i64 0, .int .i64 0] 49))
 rw [World.size_alloc] at hm0
 obtain ⟨w1, w2, w3, w4, w5, w6, w7, w8, w9, w10, w11, r1, r2, r3, r4, r5, r6, r7, r8, r9, r10, r11, hm, hg⟩ := nm_chain _ _ hm0
 have hy : Blk ((w.alloc (.cells #[.int .i64 0, .int .i64 0, .int .i64 0, .int .i64 0, .int .i64 0, .int .i64 0] 49)).alloc (.map #[] 0)) w.heap.size 49 [.int .i64 0, .int .i64 0, .int .i64 0, .int .i64 0, .int .i64 0, .int .i64 0] := Blk.alloc (t := 49) (cs := [.int .i64 0, .int .i64 0, .int .i64 0, .int .i64 0, .int .i64 0, .int .i64 0]) (heap_alloc_new w _) _
 have hy2 : Blk w11 w.heap.size 49 [.int .i64 0, .int .i64 0, .int .i64 0, .int .i64 0, .int .i64 0, .int .i64 0] := (hg.block _ hy.lt (by intro e; injection e with e; omega)).trans hy
 have hb : Below w.heap.size w w11 := (bw_new (bw_new (Below.refl _ w) _) _).grown hg (by simp; omega) (by intro r e; cases e; omega)
 have hsz := hg.size
 rw [World.size_alloc, World.size_alloc] at hsz
 have hl := nm_look hm k
 have HY := Lib.hid hy2
 have HBW := Lib.hid hb
 have HL := Lib.hid hl
 have hmm := @run_makeMap Tryz.prog

 have R1 := Lib.hid r1
 have R2 := Lib.hid r2
 have R3 := Lib.hid r3
 have R4 := Lib.hid r4
 have R5 := Lib.hid r5
 have R6 := Lib.hid r6
 have R7 := Lib.hid r7
 have R8 := Lib.hid r8
 have R9 := Lib.hid r9
 have R10 := Lib.hid r10
 have R11 := Lib.hid r11
 clear hm hg hy hy2 hb hl hm0 r1 r2 r3 r4 r5 r6 r7 r8 r9 r10 r11
 go_enter Tryz.func33, Tryz.ntmps33
 go_wp2_with fail
 rw [R1.out]
 simp only [Result.andThen]
 rw [Oper.upon_skip]
 go_wp2_with fail
 rw [R2.out]
 simp only [Result.andThen]
 rw [Oper.upon_skip]
 go_wp2_with fail
 rw [R3.out]
 simp only [Result.andThen]
 rw [Oper.upon_skip]
 go_wp2_with fail
 rw [R4.out]
 simp only [Result.andThen]
 rw [Oper.upon_skip]
 go_wp2_with fail
 rw [R5.out]
 simp only [Result.andThen]
 rw [Oper.upon_skip]
 go_wp2_with fail
 rw [R6.out]
 simp only [Result.andThen]
 rw [Oper.upon_skip]
 go_wp2_with fail
 rw [R7.out]
 simp only [Result.andThen]
 rw [Oper.upon_skip]
 go_wp2_with fail
 rw [R8.out]
 simp only [Result.andThen]
 rw [Oper.upon_skip]
 go_wp2_with fail
 rw [R9.out]
 simp only [Result.andThen]
 rw [Oper.upon_skip]
 go_wp2_with fail
 rw [R10.out]
 simp only [Result.andThen]
 rw [Oper.upon_skip]
 go_wp2_with fail
 rw [R11.out]
 simp only [Result.andThen]
 rw [Oper.upon_skip]
 go_wp2_with fail
 rw [HL.out]
 simp only [Result.andThen]
 rw [Oper.upon_value]
 clear HL hmm
 obtain ⟨e0, e1, e2, e3, e4, e5⟩ := six_of HY.out
 obtain ⟨f0, f1, f2, f3, f4, f5⟩ := six_free HY.out
 have hlt : w.heap.size < w11.heap.size := HY.out.lt
 clear hsz
 cases hq : nmGet k nmTab with
 | none =>
  have HQ := Lib.hid hq
  clear hq
  dsimp only
  unfold nmV
  go_wp2
  obtain ⟨WZ, hWZ⟩ : ∃ WZ, WZ = (((((((w11.setCell ⟨w.heap.size, 0, none⟩ (.int .i64 0)).setCell ⟨w.heap.size, 1, none⟩ (.int .i64 0)).setCell ⟨w.heap.size, 2, none⟩ (.int .i64 0)).setCell ⟨w.heap.size, 3, none⟩ (.int .i64 0)).setCell ⟨w.heap.size, 4, none⟩ (.int .i64 0)).setCell ⟨w.heap.size, 5, none⟩ (.int .i64 0))).alloc (.cells #[.int .i64 0, .int .i64 0] 136) := ⟨_, rfl⟩
  obtain ⟨g0, g1, g2, g3, g4, g5⟩ := six_of (show Blk WZ _ 49 [.int .i64 0, .int .i64 0, .int .i64 0, .int .i64 0, .int .i64 0, .int .i64 0] by rw [hWZ]; exact Blk.alloc (six_put HY.out _ _ _ _ _ _) _)
  have hww : Below w.heap.size w WZ := by rw [hWZ]; exact bw_new (six_below HBW.out (Nat.le_refl _) _ _ _ _ _ _) _
  rw [← hWZ]
  exact bodyPost_ret (v := .tuple #[szv 0 0 0 0 0 0, .int .i64 10]) (by simp [g0, g1, g2, g3, g4, g5, results, Tryz.results33, go_sem]) rfl (by unfold RetNamed; rw [HQ.out]; exact ⟨rfl, hww⟩)
 | some q =>
  obtain ⟨n, d⟩ := q
  obtain ⟨s, hs⟩ := nmGet_mem k nmTab _ hq
  obtain ⟨⟨b1, b2⟩, b3, b4⟩ := nmTab_bd _ hs
  have hr := fun W => ratio_any n d W b1 b2 b3 b4
  have HR := Lib.hid hr
  have HQ := Lib.hid hq
  clear hr hs hq b1 b2 b3 b4
  dsimp only
  unfold nmV
  go_wp2_with fail
  refine (HR.out _).mono ?_
  intro e W' hret
  have hb : Below (w11.alloc (.cells #[.int .i64 (n : Int), .int .i64 (d : Int)] 136)).heap.size (w11.alloc (.cells #[.int .i64 (n : Int), .int .i64 (d : Int)] 136)) W' := hret.2
  obtain ⟨r0, r1, r2, r3, r4, r5, q, rfl⟩ := hret.tup
  have HRET := Lib.hid hret.1
  have hy3 : Blk W' w.heap.size 49 [.int .i64 0, .int .i64 0, .int .i64 0, .int .i64 0, .int .i64 0, .int .i64 0] := (Blk.alloc HY.out (.cells #[.int .i64 (n : Int), .int .i64 (d : Int)] 136)).below hb (by rw [World.size_alloc]; omega)
  have HY3 := Lib.hid hy3
  have HB3 := Lib.hid ((bw_new HBW.out (.cells #[.int .i64 (n : Int), .int .i64 (d : Int)] 136)).trans (hb.mono (by rw [World.size_alloc]; omega)))
  clear hb hret hy3 e0 e1 e2 e3 e4 e5 f0 f1 f2 f3 f4 f5 hlt
  obtain ⟨e0, e1, e2, e3, e4, e5⟩ := six_of HY3.out
  obtain ⟨f0, f1, f2, f3, f4, f5⟩ := six_free HY3.out
  go_wp2
  obtain ⟨WZ, hWZ⟩ : ∃ WZ, WZ = ((((((W'.setCell ⟨w.heap.size, 0, none⟩ (.int .i64 r0)).setCell ⟨w.heap.size, 1, none⟩ (.int .i64 r1)).setCell ⟨w.heap.size, 2, none⟩ (.int .i64 r2)).setCell ⟨w.heap.size, 3, none⟩ (.int .i64 r3)).setCell ⟨w.heap.size, 4, none⟩ (.int .i64 r4)).setCell ⟨w.heap.size, 5, none⟩ (.int .i64 r5)) := ⟨_, rfl⟩
  obtain ⟨g0, g1, g2, g3, g4, g5⟩ := six_of (show Blk WZ _ _ _ by rw [hWZ]; exact six_put HY3.out _ _ _ _ _ _)
  have hww : Below w.heap.size w WZ := by rw [hWZ]; exact six_below HB3.out (Nat.le_refl _) _ _ _ _ _ _
  rw [← hWZ]
  exact bodyPost_ret (v := .tuple #[szv r0 r1 r2 r3 r4 r5, .int .i64 q]) (by simp [g0, g1, g2, g3, g4, g5, results, Tryz.results33, go_sem]) rfl (by unfold RetNamed; rw [HQ.out]; exact ⟨HRET.out, hww⟩)
end Go.Proofs.YtendjepcjmfmfaaGreatDoor
