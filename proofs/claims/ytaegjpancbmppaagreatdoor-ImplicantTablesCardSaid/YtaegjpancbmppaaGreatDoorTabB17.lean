/- Part 17 of 33 of the proof of the law: contracts of the functions that it reaches, and plain facts. Conditions: those that each contract names. -/
import Derived.Test.YtaegjpancbmppaaGreatDoorTabB14
import Derived.Test.YtaegjpancbmppaaGreatDoorTabB16
set_option linter.unusedVariables false
set_option linter.unusedSimpArgs false
namespace Go.Proofs.YtaegjpancbmppaaGreatDoor
open Go.RowKit
mutual
def Fm.size : Fm → Nat
 | .nd _ _ l => 1 + sizeL l
def sizeL : List Fm → Nat
 | [] => 0
 | t :: l => t.size + sizeL l
end
mutual
def Fm.depth : Fm → Nat
 | .nd _ _ l => 1 + depthL l
def depthL : List Fm → Nat
 | [] => 0
 | t :: l => max t.depth (depthL l)
end
theorem Fm.size_eq (t : Fm) : t.size = 1 + sizeL t.l := by cases t; rw [Fm.size]; rfl
theorem Fm.depth_eq (t : Fm) : t.depth = 1 + depthL t.l := by cases t; rw [Fm.depth]; rfl
theorem sizeL_take {l : List Fm} {i : Nat} (h : i < l.length) : sizeL (l.take (i + 1)) = sizeL (l.take i) + (l[i]).size := by
 have hap : ∀ (a b : List Fm), sizeL (a ++ b) = sizeL a + sizeL b := by
  intro a b
  induction a with
  | nil => rw [sizeL]; simp
  | cons x a ih => rw [List.cons_append, sizeL, sizeL, ih]; omega
 rw [List.take_succ_eq_append_getElem h, hap, sizeL, sizeL]
 omega
theorem sizeL_le {l : List Fm} (i : Nat) : sizeL (l.take i) ≤ sizeL l := by
 have hap : ∀ (a b : List Fm), sizeL (a ++ b) = sizeL a + sizeL b := by
  intro a b
  induction a with
  | nil => rw [sizeL]; simp
  | cons x a ih => rw [List.cons_append, sizeL, sizeL, ih]; omega
 have := hap (l.take i) (l.drop i)
 rw [List.take_append_drop] at this
 omega
theorem size_mem : ∀ {l : List Fm} {t : Fm}, t ∈ l → t.size ≤ sizeL l
 | x :: l, t, h => by
  rw [sizeL]
  rcases List.mem_cons.1 h with rfl | h
  ·omega
  ·have := size_mem h; omega
theorem depth_mem : ∀ {l : List Fm} {t : Fm}, t ∈ l → t.depth ≤ depthL l
 | x :: l, t, h => by
  rw [depthL]
  rcases List.mem_cons.1 h with rfl | h
  ·omega
  ·have := depth_mem h; omega
theorem size_pos (t : Fm) : 0 < t.size := by rw [t.size_eq]; omega
theorem len_size : ∀ l : List Fm, l.length ≤ sizeL l
 | [] => Nat.zero_le _
 | t :: l => by
  have := len_size l
  have := size_pos t
  rw [sizeL, List.length_cons]
  omega
def MsAt (W : World) (gs N : Nat) : Prop := ∃ D : Int, Blk W gs 126 [.int .i64 (N : Int), .int .i64 D]
abbrev lowN (B g : Nat) : Nat → Prop := fun b => b < B ∧ b ≠ g
theorem FsR.chs {W W' : World} {g : Nat} {A : Option Addr} {l : List Fm} (h : FsR W (lowN W.heap.size g) A l) (hc : Chs g W W') : FsR W' (lowN W'.heap.size g) A l :=
 (h.keep fun b hb => hc.block b hb.1 hb.2).mono fun b hb => ⟨Nat.lt_of_lt_of_le hb.1 hc.size, hb.2⟩
def MsPost (gs N : Nat) (X : World) (e : Ending) (w' : World) : Prop := e = .returned (.bool true) ∧ Chs gs X w' ∧ MsAt w' gs N
set_option maxRecDepth 1000000 in
set_option maxHeartbeats 8000000 in
theorem imeasure_any (gs : Nat) : ∀ (F : Nat) (t : Fm) (A : Option Addr) (c N lv : Nat) (X : World), t.size ≤ F → FsR X (lowN X.heap.size gs) A t.l → MsAt X gs N → N + t.size ≤ 10000 → lv + t.depth ≤ 101 →
  Calls Tryz.prog 78 #[.agg (fcL t.k t.a A t.l.length c).toArray, .int .i64 (lv : Int), .pointer (some ⟨gs, 0, none⟩)] X (MsPost gs (N + t.size) X) := by
 intro F
 induction F with
 | zero => intro t A c N lv X h; have := size_pos t; omega
 | succ F ih =>
  intro t A c N lv X hF hA hM hN hlv
  have HIH := Lib.hid ih
  have HA := Lib.hid hA
  obtain ⟨D, hD⟩ := hM
  have hgl : gs < X.heap.size := hD.lt
  obtain ⟨k, a, l⟩ := t
  change FsR X (lowN X.heap.size gs) A l at HA
  have hsz : (Fm.nd k a l).size = 1 + sizeL l := Fm.size_eq _
  have hdp : (Fm.nd k a l).depth = 1 + depthL l := Fm.depth_eq _
  rw [hsz] at hF hN ⊢
  rw [hdp] at hlv
  have hll := len_size l
  obtain ⟨n, hn⟩ : ∃ n, n = l.length := ⟨_, rfl⟩
  show Calls Tryz.prog 78 #[.agg #[.int .i64 k, .int .i64 a, .slice A l.length c], .int .i64 (lv : Int), .pointer (some ⟨gs, 0, none⟩)] X _
  rw [← hn]
  have HD := Lib.hid hD
  have q0 : X.cell? ⟨gs, 0, none⟩ = some (.int .i64 (N : Int)) := hD.cell 0
  have q1 : X.cell? ⟨gs, 1, none⟩ = some (.int .i64 D) := hD.cell 1
  have f0 : X.frozen? ⟨gs, 0, none⟩ = false := hD.frozen 0
  have f1 : X.frozen? ⟨gs, 1, none⟩ = false := hD.frozen 1
  have hne : gs ≠ X.heap.size := Nat.ne_of_lt hgl
  have HP := Lib.hid (And.intro hF (And.intro hN (And.intro hlv hn)))
  have hN1 : (N : Int) + 1 ≤ 10000 := by omega
  have hlv1 : (lv : Int) ≤ 100 := by omega
  have hn1 : n ≤ 10000 := by omega
  clear ih hF hA hN hlv hD hll hn hsz hdp
  go_enter Tryz.func78, Tryz.ntmps78
  go_wp2_with fail
  go_loopw [37] (fun x wr => ∃ i : Nat, i ≤ n ∧ x = .int .i64 (i : Int) ∧ Chs gs X wr ∧ MsAt wr gs (N + (1 + sizeL (l.take i)))) (fun x _ => n - (intOf x).toNat)
  case atStart =>
   refine ⟨0, Nat.zero_le _, rfl, ?_, ?_⟩
   ·exact (((Chs.refl gs X).set 0 _).set 1 _).step (bw_new (Below.refl _ _) _)
   unfold MsAt
   apply Exists.intro
   have e : ((N + (1 + sizeL (l.take 0)) : Nat) : Int) = (N : Int) + 1 := by rw [show l.take 0 = [] from rfl, sizeL]; omega
   rw [e]
   exact ((HD.out.put 0 _).put 1 _).alloc _
  case round =>
   obtain ⟨i, hi, rfl, hch, hms⟩ := hrel
   have HCH := Lib.hid hch
   have HMS := Lib.hid hms
   clear hch hms q0 q1 f0 f1
   by_cases hil : i < n
   ·have hiL : i < l.length := by rw [← HP.out.2.2.2]; exact hil
    obtain ⟨g, off, As, cs, hA, hg, hcc, hkk⟩ := (HA.chs HCH.out).at_ (by omega)
    obtain ⟨q0, q1, q2, -⟩ := hcc i hiL
    have hkid := hkk i hiL
    have hsm := size_mem (List.getElem_mem hiL)
    have hdm := depth_mem (List.getElem_mem hiL)
    have hst := sizeL_take hiL
    have hsl := sizeL_le (l := l) (i + 1)
    obtain ⟨t, ht⟩ : ∃ t, t = l[i] := ⟨_, rfl⟩
    rw [← ht] at q0 q1 q2 hkid hsm hdm hst
    obtain ⟨nc, hnc⟩ : ∃ n, n = t.l.length := ⟨_, rfl⟩
    obtain ⟨k', hk'⟩ : ∃ z, z = t.k := ⟨_, rfl⟩
    obtain ⟨a', ha'⟩ : ∃ z, z = t.a := ⟨_, rfl⟩
    obtain ⟨A', hA'⟩ : ∃ z, z = As i := ⟨_, rfl⟩
    obtain ⟨c', hc'⟩ : ∃ z, z = cs i := ⟨_, rfl⟩
    rw [← hk'] at q0
    rw [← ha'] at q1
    rw [← hA', ← hc', ← hnc] at q2
    rw [← hA'] at hkid
    subst hA
    have hbx := bw_new (Below.refl wr.heap.size wr) (.cells (fcL k' a' A' nc c').toArray 53)
    obtain ⟨D', hD'⟩ := HMS.out
    obtain ⟨lv2, hlv2⟩ : ∃ z : Int, z = (lv : Int) + 1 := ⟨_, rfl⟩
    have hcall := HIH.out t A' c' (N + (1 + sizeL (l.take i))) (lv + 1) (wr.alloc (.cells (fcL k' a' A' nc c').toArray 53)) (by have := HP.out.1; omega) ((hkid.keep (fun b hb => hbx.block b hb.1)).mono fun b hb => ⟨Nat.lt_of_lt_of_le hb.1 hbx.size, hb.2⟩) ⟨D', hD'.alloc _⟩ (by have := HP.out.2.1; omega) (by have := HP.out.2.2.1; omega)
    rw [← hk', ← ha', ← hnc, show ((lv + 1 : Nat) : Int) = lv2 by rw [hlv2]; rfl] at hcall
    have HCALL := Lib.hid (show Calls Tryz.prog 78 #[.agg #[.int .i64 k', .int .i64 a', .slice A' nc c'], .int .i64 lv2, .pointer (some ⟨gs, 0, none⟩)] (wr.alloc (.cells #[.int .i64 k', .int .i64 a', .slice A' nc c'] 53)) _ from hcall)
    have hwl : IntKind.i64.wrap ((lv : Int) + 1) = lv2 := by rw [hlv2]; exact IntWalk.i64_in _ (by omega)
    have hilz : (i : Int) < (n : Int) := by omega
    obtain ⟨i2, hi2⟩ : ∃ z : Int, z = (i : Int) + 1 := ⟨_, rfl⟩
    have hwi : IntKind.i64.wrap ((i : Int) + 1) = i2 := by rw [hi2]; exact IntWalk.i64_in _ (by omega)
    have HI2 := Lib.hid hi2
    have HIL := Lib.hid hil
    have HST := Lib.hid (show N + (1 + sizeL (l.take i)) + t.size = N + (1 + sizeL (l.take (i + 1))) by rw [hst]; omega)
    have HBX := Lib.hid hbx
    clear hiL hcc hkk hkid hsm hdm hst hsl ht hnc hk' ha' hA' hc' hbx hD' hcall hlv2 hi2 hil hi hg
    go_wp2_with fail
    refine HCALL.out.mono ?_
    rintro e w2 ⟨rfl, hch2, hms2⟩
    have HCH2 := Lib.hid ((HCH.out.step HBX.out).trans hch2)
    have HMS2 := Lib.hid hms2
    clear hch2 hms2 q0 q1 q2
    go_wp2_with fail
    go_roundw
    case rel => exact ⟨i + 1, by have := HIL.out; omega, by rw [HI2.out]; rfl, HCH2.out, by rw [← HST.out]; exact HMS2.out⟩
    case measure => have := HIL.out; have := HI2.out; simp only [intOf]; omega
   ·obtain rfl : i = n := by omega
    have hkn : ¬ (i : Int) < (i : Int) := by omega
    have HFIN := Lib.hid (show MsAt wr gs (N + (1 + sizeL l)) by
     have := HMS.out
     rwa [List.take_of_length_le (by rw [HP.out.2.2.2]; exact Nat.le_refl _)] at this)
    clear hil hi
    go_wp2_with fail
    exact bodyPost_ret (v := .bool true) (by simp [results, Tryz.results78, go_sem]) rfl ⟨rfl, HCH.out, HFIN.out⟩
end Go.Proofs.YtaegjpancbmppaaGreatDoor
