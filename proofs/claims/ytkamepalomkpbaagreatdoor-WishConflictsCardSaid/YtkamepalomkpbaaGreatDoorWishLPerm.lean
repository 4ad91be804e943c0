/- Chapter 37's law: apart. Conditions: the problem is right; the library's table of powers of ten reads as its text lays it. -/
import Derived.Test.YtkamepalomkpbaaGreatDoorWishFirst
import Derived.Test.YtkamepalomkpbaaGreatDoorWishLaw
import Derived.WalkKit
import Derived.Laws.StructEq
namespace Go.Proofs.YtkamepalomkpbaaGreatDoor
section
open Go.RowKit Go.Op
theorem part_two (w : World) (x y : Int) : ((part 3 #[.int .i64 x, .int .i64 y] (0 * 1)).run Tryz.prog w = .ok (.int .i64 x) w) ∧ ((part 3 #[.int .i64 x, .int .i64 y] (1 * 1)).run Tryz.prog w = .ok (.int .i64 y) w) := by
  constructor <;> simp [go_sem]
theorem eqlIn_two (w : World) (a b c d : Int) (n : Nat) :
    (Op.equalIn (n + 2) 35 (.agg #[.int .i64 a, .int .i64 b]) (.agg #[.int .i64 c, .int .i64 d])).run Tryz.prog w = .ok (a == c && b == d) w := by
  have hs : (sizeOf 3).run Tryz.prog w = .ok 1 w := by simp [go_sem]
  have hi : ∀ (x y : Int), (Op.equalIn (n + 1) 3 (.int .i64 x) (.int .i64 y)).run Tryz.prog w = .ok (x == y) w := fun x y => run_equalIn_int w n _ _ _ _ _ Tryz.underlying3
  obtain ⟨h0, h1⟩ := part_two w a b
  obtain ⟨h2, h3⟩ := part_two w c d
  rw [show n + 2 = (n + 1) + 1 from rfl]
  unfold Op.equalIn
  simp only [Sem.run_bind, run_underlying Tryz.underlying35, Result.andThen_ok, hs]
  rw [Std.Legacy.Range.forIn_eq_forIn_range']
  simp [List.range', h0, h1, h2, h3, hi, Sem.run_bind, Result.andThen_ok]
  by_cases e1 : a = c <;> by_cases e2 : b = d <;> simp [e1, e2]
theorem eql_two (w : World) (a b c d : Int) :
    (binOp .eql 35 (.agg #[.int .i64 a, .int .i64 b]) (.agg #[.int .i64 c, .int .i64 d])).run Tryz.prog w = .ok (.bool (a == c && b == d)) w := by
  rw [run_eql_struct]
  rw [eqlIn_two w a b c d 9998]
  rfl
end
open Go.RowKit

set_option maxRecDepth 100000 in
set_option maxHeartbeats 8000000 in
/-- The law's apart. -/
theorem lapart_any (A : Option Addr) (n cap : Nat) (B : Option Addr) (m c2 : Nat) (ws : List Wsh) (rules : List Int) (Bd : Nat) (w : World) (hp : Pb w Bd A n cap B m c2 ws rules) (hB : Bd ≤ w.heap.size)
    (hr : ∀ x ∈ ws, WR x) (a b : Int) (ha : 0 ≤ a ∧ a < (n : Int)) (hb : 0 ≤ b ∧ b < (n : Int)) (ht : Tab w) :
    Calls Tryz.prog 31 #[.agg #[.slice A n cap, .slice B m c2], .int .i64 a, .int .i64 b] w fun e w' => e = .returned (.bool (apB rules (wat ws a) (wat ws b))) ∧ Below w.heap.size w w' := by
  obtain ⟨i, rfl⟩ := Int.eq_ofNat_of_zero_le ha.1
  obtain ⟨j, rfl⟩ := Int.eq_ofNat_of_zero_le hb.1
  have hi : i < n := by omega
  have hj : j < n := by omega
  have hiw : i < ws.length := by rw [hp.wl]; exact hi
  have hjw : j < ws.length := by rw [hp.wl]; exact hj
  rw [wat_eq hiw, wat_eq hjw]
  have hcm := hp.wm
  have hnc := hp.wc
  unfold maxLen at hcm
  obtain ⟨g, off, rfl, hgb, hcell⟩ := hp.wr.at_ (by omega)
  have hat := hcell i hiw
  have hbt := hcell j hjw
  have hwa := hr ws[i] (List.getElem_mem hiw)
  have hwb := hr ws[j] (List.getElem_mem hjw)
  obtain ⟨x, hx⟩ : ∃ x, x = ws[i] := ⟨_, rfl⟩
  obtain ⟨y, hy⟩ : ∃ y, y = ws[j] := ⟨_, rfl⟩
  rw [← hx] at hat hwa ⊢
  rw [← hy] at hbt hwb ⊢
  clear hx hy hcell ha hb
  obtain ⟨nm, dv, tn, fn, fd, lo, hi'⟩ := x
  obtain ⟨nm2, dv2, tn2, fn2, fd2, lo2, hi2⟩ := y
  obtain ⟨a0, a1, a2, a3, a4, a5, a6⟩ := hat
  obtain ⟨b0, b1, b2, b3, b4, b5, b6⟩ := hbt
  dsimp only at a0 a1 a2 a3 a4 a5 a6 b0 b1 b2 b3 b4 b5 b6
  have hgw : g < w.heap.size := by omega
  have HP := Lib.hid hp
  have HPA := Lib.hid hwa.1
  have HPB := Lib.hid hwb.1
  have hi0 : (i : Int) < n := by omega
  have hj0 : (j : Int) < n := by omega
  have hi1 : (0 : Int) ≤ i := by omega
  have hj1 : (0 : Int) ≤ j := by omega
  clear hp hwa hwb hr
  go_enter Tryz.func31, Tryz.ntmps31
  go_wp2_with fail
  obtain ⟨W2, hW2⟩ : ∃ W2, W2 = w.alloc (.cells #[.slice (some ⟨g, off, none⟩) n cap, .slice B m c2] 29) := ⟨_, rfl⟩
  rw [← hW2]
  have hb0 : Below w.heap.size w W2 := by rw [hW2]; exact bw_new (Below.refl _ _) _
  have hbx : Blk W2 w.heap.size 29 [.slice (some ⟨g, off, none⟩) n cap, .slice B m c2] := by rw [hW2]; exact Blk.new
  obtain ⟨p0, p1⟩ := hbx.two
  have hs : w.heap.size < W2.heap.size := hbx.lt
  obtain ⟨hc0, hf0⟩ := bcell hb0
  rw [← hc0 _ _ hgw] at a0 a1 a2 a3 a4 a5 a6 b0 b1 b2 b3 b4 b5 b6
  have hgw2 : g < W2.heap.size := by omega
  have hgw3 : g < W2.heap.size + 1 := by omega
  have hs3 : w.heap.size < W2.heap.size + 1 := by omega
  have HB0 := Lib.hid hb0
  have HBX := Lib.hid hbx
  clear hc0 hf0 hb0 hbx hW2 hgw
  have HP2 := Lib.hid (HP.out.keep hB HB0.out)
  have HT2 := Lib.hid (ht.below HB0.out)
  clear ht HP
  go_cut [7, 8] (fun u v W3 => ∃ xa xb : Nat, u = .pointer (some ⟨xa, 0, none⟩) ∧ v = .pointer (some ⟨xb, 0, none⟩) ∧ ApPack w xa xb nm dv tn fn fd lo hi' nm2 dv2 tn2 fn2 fd2 lo2 hi2 (some ⟨g, off, none⟩) n cap B m c2 ws rules Bd W3)
  case first =>
    go_region
    all_goals
      first
      | (obtain ⟨W3, hW3⟩ : ∃ W3, W3 = ((W2.alloc (.cells #[.string nm, .int .i64 dv, .string tn, .int .i64 fn, .int .i64 fd, .int .i64 lo, .int .i64 hi'] 51)).alloc (.cells #[.string nm2, .int .i64 dv2, .string tn2, .int .i64 fn2, .int .i64 fd2, .int .i64 lo2, .int .i64 hi2] 51)).drew := ⟨_, rfl⟩
         rw [← hW3]
         have X : Blk W3 W2.heap.size 51 [.string nm, .int .i64 dv, .string tn, .int .i64 fn, .int .i64 fd, .int .i64 lo, .int .i64 hi'] := by rw [hW3]; exact (Blk.new.alloc _).drew
         have Y : Blk W3 (W2.heap.size + 1) 51 [.string nm2, .int .i64 dv2, .string tn2, .int .i64 fn2, .int .i64 fd2, .int .i64 lo2, .int .i64 hi2] := by
           have := Blk.new (w := W2.alloc (.cells #[.string nm, .int .i64 dv, .string tn, .int .i64 fn, .int .i64 fd, .int .i64 lo, .int .i64 hi'] 51)) (t := 51) (cs := [.string nm2, .int .i64 dv2, .string tn2, .int .i64 fn2, .int .i64 fd2, .int .i64 lo2, .int .i64 hi2])
           rw [World.size_alloc] at this
           rw [hW3]; exact this
         have hk : Below W2.heap.size W2 W3 := by rw [hW3]; exact bw_drew (bw_new (bw_new (Below.refl _ _) _) _)
         have hpk := Lib.hid (show ApPack w _ _ nm dv tn fn fd lo hi' nm2 dv2 tn2 fn2 fd2 lo2 hi2 (some ⟨g, off, none⟩) n cap B m c2 ws rules Bd W3 from ⟨X, Y, HBX.out.keep hk, HP2.out.keep (by omega) hk, HT2.out.below hk, HB0.out.trans (hk.mono HB0.out.size)⟩)
         clear hW3 X Y hk a0 a1 a2 a3 a4 a5 a6 b0 b1 b2 b3 b4 b5 b6 p0 p1 HBX HP2 HT2 HB0 hs hgw2 hgw3 hs3)
      | (obtain ⟨W3, hW3⟩ : ∃ W3, W3 = ((W2.alloc (.cells #[.string nm2, .int .i64 dv2, .string tn2, .int .i64 fn2, .int .i64 fd2, .int .i64 lo2, .int .i64 hi2] 51)).alloc (.cells #[.string nm, .int .i64 dv, .string tn, .int .i64 fn, .int .i64 fd, .int .i64 lo, .int .i64 hi'] 51)).drew := ⟨_, rfl⟩
         rw [← hW3]
         have Y : Blk W3 W2.heap.size 51 [.string nm2, .int .i64 dv2, .string tn2, .int .i64 fn2, .int .i64 fd2, .int .i64 lo2, .int .i64 hi2] := by rw [hW3]; exact (Blk.new.alloc _).drew
         have X : Blk W3 (W2.heap.size + 1) 51 [.string nm, .int .i64 dv, .string tn, .int .i64 fn, .int .i64 fd, .int .i64 lo, .int .i64 hi'] := by
           have := Blk.new (w := W2.alloc (.cells #[.string nm2, .int .i64 dv2, .string tn2, .int .i64 fn2, .int .i64 fd2, .int .i64 lo2, .int .i64 hi2] 51)) (t := 51) (cs := [.string nm, .int .i64 dv, .string tn, .int .i64 fn, .int .i64 fd, .int .i64 lo, .int .i64 hi'])
           rw [World.size_alloc] at this
           rw [hW3]; exact this
         have hk : Below W2.heap.size W2 W3 := by rw [hW3]; exact bw_drew (bw_new (bw_new (Below.refl _ _) _) _)
         have hpk := Lib.hid (show ApPack w _ _ nm dv tn fn fd lo hi' nm2 dv2 tn2 fn2 fd2 lo2 hi2 (some ⟨g, off, none⟩) n cap B m c2 ws rules Bd W3 from ⟨X, Y, HBX.out.keep hk, HP2.out.keep (by omega) hk, HT2.out.below hk, HB0.out.trans (hk.mono HB0.out.size)⟩)
         clear hW3 X Y hk a0 a1 a2 a3 a4 a5 a6 b0 b1 b2 b3 b4 b5 b6 p0 p1 HBX HP2 HT2 HB0 hs hgw2 hgw3 hs3)
      go_wp2_with fail
      go_meet
      case rel => exact ⟨_, _, rfl, rfl, hpk.out⟩
  case rest =>
    obtain ⟨xa, xb, rfl, rfl, hpk⟩ := hcut
    have hpk := Lib.hid hpk
    clear a0 a1 a2 a3 a4 a5 a6 b0 b1 b2 b3 b4 b5 b6 p0 p1 HBX HP2 HT2 HB0 hs hgw2 hgw3 hs3
    have hT := ApHeld.of hpk.out
    have hs1 := shF_bd fn fd
    have hs2 := shF_bd fn2 fd2
    obtain ⟨s1, s2⟩ := hs1
    obtain ⟨t1, t2⟩ := hs2
    have hw : IntKind.i64.wrap (shF fn fd - shF fn2 fd2) = shF fn fd - shF fn2 fd2 := IntWalk.i64_in _ (by omega)
    go_wp2_with fail
    go_region_held3 (fun w' => w'.cell? ⟨xa, 0, none⟩ = some (.string nm) ∧ w'.cell? ⟨xa, 1, none⟩ = some (.int .i64 dv) ∧ w'.cell? ⟨xa, 2, none⟩ = some (.string tn) ∧ w'.cell? ⟨xa, 3, none⟩ = some (.int .i64 fn) ∧ w'.cell? ⟨xa, 4, none⟩ = some (.int .i64 fd) ∧ w'.cell? ⟨xa, 5, none⟩ = some (.int .i64 lo) ∧ w'.cell? ⟨xa, 6, none⟩ = some (.int .i64 hi') ∧ w'.cell? ⟨xb, 0, none⟩ = some (.string nm2) ∧ w'.cell? ⟨xb, 1, none⟩ = some (.int .i64 dv2) ∧ w'.cell? ⟨xb, 2, none⟩ = some (.string tn2) ∧ w'.cell? ⟨xb, 3, none⟩ = some (.int .i64 fn2) ∧ w'.cell? ⟨xb, 4, none⟩ = some (.int .i64 fd2) ∧ w'.cell? ⟨xb, 5, none⟩ = some (.int .i64 lo2) ∧ w'.cell? ⟨xb, 6, none⟩ = some (.int .i64 hi2) ∧ ApPack w xa xb nm dv tn fn fd lo hi' nm2 dv2 tn2 fn2 fd2 lo2 hi2 (some ⟨g, off, none⟩) n cap B m c2 ws rules Bd w') (first | assumption | exact ApHeld.drew hT hB | exact ApHeld.below (by assumption) hB hbel)
      (first | (go_at_call 34; refine (lwshift_any _ _ _ _ _ _ _ _ (ApHeld.tab (by assumption)) (by first | exact HPA.out | exact HPB.out)).mono ?_; rintro e w' ⟨rfl, hbel⟩))
    have hf : ApHeld w xa xb nm dv tn fn fd lo hi' nm2 dv2 tn2 fn2 fd2 lo2 hi2 (some ⟨g, off, none⟩) n cap B m c2 ws rules Bd w' := by assumption
    have HF := Lib.hid hf.pack
    clear hf hT hw hpk
    rename_i wq hbq hHq
    clear hHq hbel hbq
    obtain ⟨p0, p1⟩ := HF.out.2.2.1.two
    have x1 := HF.out.1.wish.2.1
    have y1 := HF.out.2.1.wish.2.1
    have x2 := HF.out.1.wish.2.2.1
    have y2 := HF.out.2.1.wish.2.2.1
    by_cases htn : tn = tn2
    · have he := toList_eq_true htn
      have HR := Lib.hid (show apB rules ⟨nm, dv, tn, fn, fd, lo, hi'⟩ ⟨nm2, dv2, tn2, fn2, fd2, lo2, hi2⟩ = (decide (dv = dv2) && decide (max (shF fn fd - shF fn2 fd2) (-(shF fn fd - shF fn2 fd2)) ∈ rules)) from if_neg (fun k => k htn))
      clear htn
      by_cases hdv : dv = dv2
      · have hdb : (dv == dv2) = true := by rw [beq_iff_eq]; exact hdv
        have HR2 := Lib.hid (show apB rules ⟨nm, dv, tn, fn, fd, lo, hi'⟩ ⟨nm2, dv2, tn2, fn2, fd2, lo2, hi2⟩ = decide (max (shF fn fd - shF fn2 fd2) (-(shF fn fd - shF fn2 fd2)) ∈ rules) by rw [HR.out, decide_eq_true hdv, Bool.true_and])
        clear hdv
        go_wp2_with fail
        refine (contains_any rules _ B m c2 Bd _ HF.out.2.2.2.1.rl HF.out.2.2.2.1.rr HF.out.2.2.2.1.rc HF.out.2.2.2.1.rm).mono ?_
        rintro e w4 ⟨rfl, rfl⟩
        go_wp2
        go_ret
        exact ⟨ret_bool HR2.out.symm, HF.out.2.2.2.2.2⟩
      · have hdb : (dv == dv2) = false := by rw [beq_eq_false_iff_ne]; exact hdv
        have HR2 := Lib.hid (show apB rules ⟨nm, dv, tn, fn, fd, lo, hi'⟩ ⟨nm2, dv2, tn2, fn2, fd2, lo2, hi2⟩ = false by rw [HR.out, decide_eq_false hdv, Bool.false_and])
        clear hdv
        go_wp2
        go_ret
        exact ⟨ret_bool HR2.out.symm, HF.out.2.2.2.2.2⟩
    · have he := toList_eq_false htn
      have HR := Lib.hid (show apB rules ⟨nm, dv, tn, fn, fd, lo, hi'⟩ ⟨nm2, dv2, tn2, fn2, fd2, lo2, hi2⟩ = true from if_pos htn)
      clear htn
      go_wp2
      go_ret
      exact ⟨ret_bool HR.out.symm, HF.out.2.2.2.2.2⟩

/-- What the law's pair returns. -/
def lprVal : Option (Int × Int) → Value
  | some p => .tuple #[.agg #[.int .i64 p.1, .int .i64 p.2], .bool true]
  | none => .tuple #[.agg #[.int .i64 0, .int .i64 0], .bool false]
/-- What pair's loops carry: what cost's carry, and the result's own block. -/
def PairRel (w : World) (Bd : Nat) (A : Option Addr) (n cap : Nat) (B : Option Addr) (m c2 : Nat) (ws : List Wsh) (rules : List Int) (G : Option Addr) (g : List Int) (wr : World) : Prop :=
  CostRel w Bd A n cap B m c2 ws rules G g wr ∧ Blk wr (w.heap.size + 1) 35 [.int .i64 0, .int .i64 0]
section
variable {w : World} {Bd : Nat} {A : Option Addr} {n cap : Nat} {B : Option Addr} {m c2 : Nat} {ws : List Wsh} {rules : List Int} {G : Option Addr} {g : List Int} {wr w' : World}
theorem PairRel.below (h : PairRel w Bd A n cap B m c2 ws rules G g wr) (hB : Bd ≤ w.heap.size) (hb : Below wr.heap.size wr w') : PairRel w Bd A n cap B m c2 ws rules G g w' :=
  ⟨h.1.below hB hb, h.2.keep hb⟩
theorem PairRel.start {p : Obj} (hB : Bd ≤ w.heap.size) (h : CostRel w Bd A n cap B m c2 ws rules G g (w.alloc p)) :
    PairRel w Bd A n cap B m c2 ws rules G g ((w.alloc p).alloc (.cells #[.int .i64 0, .int .i64 0] 35)) :=
  ⟨h.below hB (bw_new (Below.refl _ _) _), by have := Blk.new (w := w.alloc p) (t := 35) (cs := [.int .i64 0, .int .i64 0]); rw [World.size_alloc] at this; exact this⟩
end

set_option maxRecDepth 100000 in
set_option maxHeartbeats 4000000 in
/-- The law's pair: the first pair of a right group that may not share. -/
theorem lpair_any (A : Option Addr) (n cap : Nat) (B : Option Addr) (m c2 : Nat) (ws : List Wsh) (rules : List Int) (G : Option Addr) (gn gc : Nat) (g : List Int) (Bd : Nat) (w : World) (hp : Pb w Bd A n cap B m c2 ws rules) (hB : Bd ≤ w.heap.size)
    (hr : ∀ x ∈ ws, WR x) (hg : ∀ i ∈ g, 0 ≤ i ∧ i < (n : Int)) (hgl : g.length = gn) (hgr : Rd i64v w Bd G g) (hgc : gn ≤ gc) (hgm : gc ≤ maxLen) (ht : Tab w) :
    Calls Tryz.prog 11 #[.agg #[.slice A n cap, .slice B m c2], .slice G gn gc] w fun e w' => e = .returned (lprVal (fstP ws rules g)) ∧ Below w.heap.size w w' := by
  have hl := hp.wl
  have hcm := hp.wm
  have hnc := hp.wc
  unfold maxLen at hcm hgm
  have hb0 := bw_new (Below.refl _ w) (.cells #[.slice A n cap, .slice B m c2] 29)
  have hrel := PairRel.start (w := w) (A := A) (n := n) (cap := cap) (B := B) (m := m) (c2 := c2) hB ⟨Blk.new (cs := [.slice A n cap, .slice B m c2]), hp.keep hB hb0, hgr.below (hb0.mono hB), hb0, by simp, ht.alloc _⟩
  have HREL := Lib.hid hrel
  have HGL := Lib.hid hgl
  have HR := Lib.hid hr
  have HG := Lib.hid hg
  clear hp hl hgl hr hg hgr hb0 hrel ht
  go_enter Tryz.func11, Tryz.ntmps11
  go_wp2_with fail
  go_loopw [12] (fun v wr => ∃ k : Nat, k ≤ gn ∧ v = .int .i64 k ∧ Lib.Kept (fstP ws rules g = fstP ws rules (g.drop k)) ∧ PairRel w Bd A n cap B m c2 ws rules G g wr) (fun v _ => gn - (intOf v).toNat)
  case atStart => exact ⟨0, by omega, rfl, rfl, HREL.out⟩
  case round =>
    obtain ⟨k, hk, rfl, ho, hrel⟩ := hrel
    have HO : Hid (fstP ws rules g = fstP ws rules (g.drop k)) := ho
    have HRL := Lib.hid hrel
    have hs : w.heap.size + 1 ≤ wr.heap.size := hrel.1.2.2.2.2.1
    clear hrel ho
    by_cases hlt : k < gn
    · have hltg : k < g.length := by rw [HGL.out]; exact hlt
      obtain ⟨gb, go, rfl, hgb, hgcell⟩ := rd_at HRL.out.1.2.2.1 (by omega)
      have hck := hgcell k hltg
      have hin := HG.out g[k] (List.getElem_mem hltg)
      have HST := Lib.hid (fst_step (ws := ws) (rules := rules) hltg)
      obtain ⟨a, ha⟩ : ∃ a, a = g[k] := ⟨_, rfl⟩
      rw [← ha] at hck hin HST
      obtain ⟨ha0, ha1⟩ := hin
      have hgbw : gb < wr.heap.size := by omega
      clear hgcell ha
      by_cases hcap : gc = k + 1
      · have HN := Lib.hid (show fstP ws rules g = fstP ws rules (g.drop (k + 1)) by
          rw [HO.out, HST.out, List.drop_eq_nil_of_le (by rw [HGL.out]; omega)]; rfl)
        subst hcap
        have hgk : gn = k + 1 := by omega
        subst hgk
        go_wp2_with fail
        go_loop [22] (fun v => v = .int .i64 0) (fun _ => 0)
        case atStart => rfl
        case round =>
          subst hrel
          go_wp2
          go_roundw
          case rel => exact ⟨k + 1, by omega, by go_num, HN.out, HRL.out⟩
          case measure => simp [intOf]
      · have hcap' : k + 1 < gc := by omega
        clear hcap
        go_wp2_with fail
        obtain ⟨wo, rfl⟩ : ∃ wo : World, wo = wr := ⟨_, rfl⟩
        go_loopw [22] (fun v wx => ∃ j : Nat, k + 1 + j ≤ gn ∧ v = .int .i64 j ∧ Lib.Kept (pairOf ws rules a (g.drop (k + 1)) = pairOf ws rules a (g.drop (k + 1 + j))) ∧ PairRel w Bd A n cap B m c2 ws rules (some ⟨gb, go, none⟩) g wx) (fun v _ => gn - (intOf v).toNat)
        case atStart => exact ⟨0, by omega, rfl, rfl, HRL.out⟩
        case round =>
          obtain ⟨j, hj, rfl, hpo, hrel⟩ := hrel
          have HPO : Hid (pairOf ws rules a (g.drop (k + 1)) = pairOf ws rules a (g.drop (k + 1 + j))) := hpo
          have HRX := Lib.hid hrel
          have hsx : w.heap.size + 1 ≤ wr.heap.size := hrel.1.2.2.2.2.1
          clear hrel hpo hck
          by_cases hlt2 : k + 1 + j < gn
          · have hltx : k + 1 + j < g.length := by rw [HGL.out]; exact hlt2
            obtain ⟨gb', go', e, hgb', hgcell⟩ := rd_at HRX.out.1.2.2.1 (by omega)
            injection e with e
            injection e with e1 e2 e3
            subst e1
            subst e2
            have hcj := hgcell (k + 1 + j) hltx
            rw [← Nat.add_assoc] at hcj
            have hin := HG.out g[k + 1 + j] (List.getElem_mem hltx)
            have HPS := Lib.hid (pair_step (ws := ws) (rules := rules) (a := a) hltx)
            obtain ⟨b, hb⟩ : ∃ b, b = g[k + 1 + j] := ⟨_, rfl⟩
            rw [← hb] at hcj hin HPS
            obtain ⟨hb0, hb1⟩ := hin
            have hgbx : gb < wr.heap.size := by omega
            obtain ⟨p0, p1⟩ := HRX.out.1.1.two
            have HAP := Lib.hid (lapart_any A n cap B m c2 ws rules Bd wr HRX.out.1.2.1 (by omega) HR.out a b ⟨ha0, ha1⟩ ⟨hb0, hb1⟩ HRX.out.1.2.2.2.2.2)
            clear hgcell hb
            cases hq : apB rules (wat ws a) (wat ws b) with
            | true =>
              have hap := HAP.out
              rw [hq] at hap
              have hap := Lib.hid hap
              have HF := Lib.hid (show fstP ws rules g = some (a, b) by
                rw [HO.out, HST.out, HPO.out, HPS.out, hq]; rfl)
              clear hq HAP
              go_wp2_with fail
              refine hap.out.mono ?_
              rintro e w2 ⟨rfl, hk2⟩
              have HR2 := Lib.hid (HRX.out.below hB hk2)
              obtain ⟨r0, r1⟩ := HR2.out.2.two
              have f0 := HR2.out.2.frozen 0
              have f1 := HR2.out.2.frozen 1
              have hs2 : w.heap.size + 1 < w2.heap.size := HR2.out.2.lt
              clear hk2 p0 p1 hcj
              go_wp2
              have c0 : (w2.setCell ⟨w.heap.size + 1, 0, none⟩ (.int .i64 a)).cell? ⟨w.heap.size + 1, 0, none⟩ = some (.int .i64 a) := (HR2.out.2.put 0 _).cell 0
              have c1 : ((w2.setCell ⟨w.heap.size + 1, 0, none⟩ (.int .i64 a)).setCell ⟨w.heap.size + 1, 1, none⟩ (.int .i64 b)).cell? ⟨w.heap.size + 1, 1, none⟩ = some (.int .i64 b) := ((HR2.out.2.put 0 _).put 1 _).cell 1
              refine bodyPost_ret (v := .tuple #[.agg #[.int .i64 a, .int .i64 b], .bool true]) (by simp [c0, c1, results, Tryz.results11, go_sem]) rfl ⟨?_, ?_⟩
              · rw [HF.out]; rfl
              · exact bw_set (bw_set HR2.out.1.2.2.2.1 (by simp) _) (by simp) _
            | false =>
              have hap := HAP.out
              rw [hq] at hap
              have hap := Lib.hid hap
              have HF := Lib.hid (show pairOf ws rules a (g.drop (k + 1)) = pairOf ws rules a (g.drop (k + 1 + (j + 1))) by
                rw [HPO.out, HPS.out, hq]; rfl)
              clear hq HAP
              go_wp2_with fail
              refine hap.out.mono ?_
              rintro e w2 ⟨rfl, hk2⟩
              have HR2 := Lib.hid (HRX.out.below hB hk2)
              clear hk2
              go_wp2
              go_roundw
              case rel => exact ⟨j + 1, by omega, by go_num, HF.out, HR2.out⟩
              case measure => simp [intOf]; omega
          · have hkj : k + 1 + j = gn := by omega
            have HN := Lib.hid (show fstP ws rules g = fstP ws rules (g.drop (k + 1)) by
              rw [HO.out, HST.out, HPO.out, List.drop_eq_nil_of_le (by rw [HGL.out]; omega)]; rfl)
            go_wp2
            go_roundw
            case rel => exact ⟨k + 1, by omega, by go_num, HN.out, HRX.out⟩
            case measure => simp [intOf]; omega
    · have hkg : k = gn := by omega
      have HN := Lib.hid (show fstP ws rules g = none by rw [HO.out, List.drop_eq_nil_of_le (by rw [HGL.out]; omega)]; rfl)
      obtain ⟨r0, r1⟩ := HRL.out.2.two
      have f0 := HRL.out.2.frozen 0
      have f1 := HRL.out.2.frozen 1
      have hs2 : w.heap.size + 1 < wr.heap.size := HRL.out.2.lt
      go_wp2
      have c0 : (wr.setCell ⟨w.heap.size + 1, 0, none⟩ (.int .i64 0)).cell? ⟨w.heap.size + 1, 0, none⟩ = some (.int .i64 0) := (HRL.out.2.put 0 _).cell 0
      have c1 : ((wr.setCell ⟨w.heap.size + 1, 0, none⟩ (.int .i64 0)).setCell ⟨w.heap.size + 1, 1, none⟩ (.int .i64 0)).cell? ⟨w.heap.size + 1, 1, none⟩ = some (.int .i64 0) := ((HRL.out.2.put 0 _).put 1 _).cell 1
      refine bodyPost_ret (v := .tuple #[.agg #[.int .i64 0, .int .i64 0], .bool false]) (by simp [c0, c1, results, Tryz.results11, go_sem]) rfl ⟨?_, ?_⟩
      · rw [HN.out]; rfl
      · exact bw_set (bw_set HRL.out.1.2.2.2.1 (by simp) _) (by simp) _


set_option maxRecDepth 100000 in
set_option maxHeartbeats 4000000 in
/-- The law's Permitted, where a pair may not share. -/
theorem lperm_some (A : Option Addr) (n cap : Nat) (B : Option Addr) (m c2 : Nat) (ws : List Wsh) (rules : List Int) (G : Option Addr) (gn gc : Nat) (g : List Int) (Bd : Nat) (w : World) (hp : Pb w Bd A n cap B m c2 ws rules) (hB : Bd ≤ w.heap.size)
    (hr : ∀ x ∈ ws, WR x) (hg : ∀ i ∈ g, 0 ≤ i ∧ i < (n : Int)) (hgl : g.length = gn) (hgr : Rd i64v w Bd G g) (hgc : gn ≤ gc) (hgm : gc ≤ maxLen) (ht : Tab w) (a b : Int) (hf : fstP ws rules g = some (a, b)) :
    Calls Tryz.prog 12 #[.agg #[.slice A n cap, .slice B m c2], .slice G gn gc] w fun e w' => e = .returned (.bool false) ∧ Below w.heap.size w w' := by
  have hb0 := bw_new (Below.refl _ w) (.cells #[.slice A n cap, .slice B m c2] 29)
  have H1 := lpair_any A n cap B m c2 ws rules G gn gc g Bd _ (hp.keep hB hb0) (Nat.le_trans hB hb0.size) hr hg hgl (hgr.below (hb0.mono hB)) hgc hgm (ht.below hb0)
  rw [hf] at H1
  have H1 := Lib.hid H1
  have HB0 := Lib.hid hb0
  clear hb0 hp hr hg hgr ht hf
  go_enter Tryz.func12, Tryz.ntmps12
  go_wp2_with fail
  refine H1.out.mono ?_
  rintro e w1 ⟨rfl, hk⟩
  have HB1 := Lib.hid (HB0.out.trans (hk.mono HB0.out.size))
  clear hk
  unfold lprVal
  dsimp only
  go_wp2
  go_ret
  exact ⟨rfl, bw_new HB1.out _⟩

set_option maxRecDepth 100000 in
set_option maxHeartbeats 4000000 in
/-- The law's Permitted, where each pair may share. -/
theorem lperm_none (A : Option Addr) (n cap : Nat) (B : Option Addr) (m c2 : Nat) (ws : List Wsh) (rules : List Int) (G : Option Addr) (gn gc : Nat) (g : List Int) (Bd : Nat) (w : World) (hp : Pb w Bd A n cap B m c2 ws rules) (hB : Bd ≤ w.heap.size)
    (hr : ∀ x ∈ ws, WR x) (hg : ∀ i ∈ g, 0 ≤ i ∧ i < (n : Int)) (hgl : g.length = gn) (hgr : Rd i64v w Bd G g) (hgc : gn ≤ gc) (hgm : gc ≤ maxLen) (ht : Tab w) (hf : fstP ws rules g = none) (h0 : 0 < gn) :
    Calls Tryz.prog 12 #[.agg #[.slice A n cap, .slice B m c2], .slice G gn gc] w fun e w' => e = .returned (.bool (decide (costZ ws g ≤ 128))) ∧ Below w.heap.size w w' := by
  have hb0 := bw_new (Below.refl _ w) (.cells #[.slice A n cap, .slice B m c2] 29)
  have hbx : Blk (w.alloc (.cells #[.slice A n cap, .slice B m c2] 29)) w.heap.size 29 [.slice A n cap, .slice B m c2] := Blk.new
  have HP := Lib.hid (hp.keep hB hb0)
  have HG := Lib.hid (hgr.below (hb0.mono hB))
  have HT := Lib.hid (ht.below hb0)
  have H1 := lpair_any A n cap B m c2 ws rules G gn gc g Bd _ HP.out (Nat.le_trans hB hb0.size) hr hg hgl HG.out hgc hgm HT.out
  rw [hf] at H1
  have H1 := Lib.hid H1
  have H3 := Lib.hid (fun W hp hB hgr ht => lcost_any A n cap B m c2 ws rules G gn gc g Bd W hp hB hr hg hgl hgr hgc hgm ht h0)
  obtain ⟨c, hc⟩ : ∃ c, c = costZ ws g := ⟨_, rfl⟩
  rw [← hc] at H3 ⊢
  have HB0 := Lib.hid hb0
  have HBX := Lib.hid hbx
  clear hb0 hbx hp hr hg hgr ht hf hc
  go_enter Tryz.func12, Tryz.ntmps12
  go_wp2_with fail
  refine H1.out.mono ?_
  rintro e w1 ⟨rfl, hk⟩
  have HB1 := Lib.hid (HB0.out.trans (hk.mono HB0.out.size))
  have HP1 := Lib.hid (HP.out.keep (Nat.le_trans hB HB0.out.size) hk)
  have HG1 := Lib.hid (HG.out.below (hk.mono (Nat.le_trans hB HB0.out.size)))
  have HT1 := Lib.hid (HT.out.below hk)
  have HBX1 := Lib.hid (HBX.out.keep hk)
  obtain ⟨p0, p1⟩ := HBX1.out.two
  have hs1 : w.heap.size < w1.heap.size := HBX1.out.lt
  clear hk
  unfold lprVal
  go_wp2_with fail
  refine (H3.out _ (HP1.out.keep (Nat.le_trans hB HB1.out.size) (bw_new (Below.refl _ _) _)) (Nat.le_trans (Nat.le_trans hB HB1.out.size) (by simp)) (HG1.out.below ((bw_new (Below.refl _ _) _).mono (Nat.le_trans hB HB1.out.size))) (HT1.out.alloc _)).mono ?_
  rintro e w3 ⟨rfl, hk⟩
  have HB3 := Lib.hid ((bw_new HB1.out _).trans (hk.mono (Nat.le_trans HB1.out.size (by simp))))
  clear hk p0 p1
  go_wp2
  go_ret
  exact ⟨rfl, HB3.out⟩
end Go.Proofs.YtkamepalomkpbaaGreatDoor
